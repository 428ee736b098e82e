/- What the statement's proof leans on, part 3: the layer, the walks, the plain laws. -/
import Derived.Test.YtpfbljkfbjjlkaaGreatDoorProg
import Derived.Test.YtpfbljkfbjjlkaaGreatDoorMJZ2b
import Derived.KernelRfl
import Derived.Shelf.Strings.Builder1
import Derived.Shelf.Strings.Builder2
import Derived.Shelf.Strings.OnBuilder
import Derived.Shelf.Small.Strs
import Derived.Shelf.Strconv.Itoa0
import Derived.Shelf.Strconv.Itoa1
import Derived.Shelf.LaysM
import Derived.Shelf.Strconv.Itoa2
import Derived.Shelf.Strconv.Itoa3
import Derived.Shelf.Strconv.Itoa4
import Derived.Shelf.Strconv.ParseIntEmpty
import Derived.Shelf.Strconv.Clone
import Derived.Shelf.Strconv.SyntaxError
import Derived.Shelf.LaysC
import Derived.Shelf.Strconv.ToError
import Derived.Shelf.Strconv.Lower
import Derived.Shelf.Strconv.ParseUint10
import Derived.Shelf.Strconv.ParseUint10Empty
import Derived.Shelf.Strconv.ParseUint10Any
import Derived.Shelf.Strconv.ParseInt10
import Derived.Shelf.Strconv.RangeError
import Derived.Shelf.Strconv.ToErrorRange
import Derived.Shelf.Strconv.ParseUintEmpty
import Derived.Shelf.Strconv.ParseUint10b64
import Derived.Shelf.Strconv.ParseUint10b32
import Derived.Shelf.Strconv.ParseUint10b16
import Derived.Shelf.Strconv.ParseUint10b8
import Derived.Shelf.Strconv.ParseUint10At
import Derived.Shelf.Strconv.ParseInt10At64
import Derived.Shelf.Strconv.ParseInt10At32
import Derived.Shelf.Strconv.ParseInt10At16
import Derived.Shelf.Strconv.ParseInt10At8
import Derived.Shelf.Strconv.ParseInt10All
import Derived.Shelf.Strconv.ParseIntPublic10
import Derived.Shelf.Strconv.ErrVarParseInt
import Derived.Shelf.Strings.Search1
import Derived.OpenShut
import Derived.ChangeOld
import Derived.Below
import Derived.ProofKit
import Derived.ChangeShapes
import Derived.Test.YtpfbljkfbjjlkaaGreatDoorRows
import Derived.Test.YtpfbljkfbjjlkaaGreatDoorTie
import Derived.LaidMore
import Derived.Stop.Joined
import Derived.Carry
import Derived.Lib.LaidTab
import Derived.SevenTiedAt
import Derived.SizedLaws
import Derived.RegionTactic
import Derived.Deep.RegionWith
import Derived.Lib.Join
set_option linter.unusedSimpArgs false
set_option linter.unusedVariables false

/- The functions' code with its types resolved, as the layer's 'cCode' gives it. Written by a program of this session's (wip/x/dump.lean). -/
namespace Go.Proofs.YtpfbljkfbjjlkaaGreatDoor
open Go Go.Jq
set_option maxRecDepth 100000
-- 4 jacquard/jacquardlaw5.WellPrints
def ac4 : ACode := (.seq (.region false [ oM 2 (.mv (.c (.d (.bool false))))] []) (.seq (.region false [ oM 6 (.mv (.t 0)), oM 7 (.callf 8 [(.t 6), (.c (.d (.int .i64 12)))]), oM 3 (.alloc [.d (.str []), .d .nsl, .d .nsl, .d (.int .i64 0), .d .nsl]), ⟨none, .store 5 (.t 3) (.t 7), none⟩] []) (.seq (.region false [ oM 9 (.load (some 5) (.t 3)), oM 10 (.callf 7 [(.t 9)]), oM 11 (.callf 13 [(.t 10)]), oM 8 (.mv (.t 11)), oM 12 (.ext (.t 8) 0), oM 13 (.ext (.t 8) 1), oM 4 (.alloc [.d (.str []), .d .nsl, .d .nsl, .d (.int .i64 0), .d .nsl]), oM 5 (.alloc [.d (.int .i64 0), .d (.int .i64 0)]), ⟨none, .store 5 (.t 4) (.t 12), none⟩, ⟨none, .store 2 (.t 5) (.t 13), none⟩] []) (.seq (.region false [ oM 14 (.load (some 2) (.t 5)), oM 15 (.build [.d (.int .i64 0), .d (.int .i64 0)] []), oM 16 (.eqs [0, 0] false (.t 14) (.t 15)), oM 17 (.mv (.t 16)), oG 18 (.load (some 5) (.t 3)) 17 true, oG 19 (.load (some 5) (.t 4)) 17 true, oG 20 (.callf 11 [(.t 18), (.t 19)]) 17 true, oM 21 (.pick (.t 17) (.t 20) (.c (.d (.bool false)))), oM 22 (.mv (.t 21)), oG 23 (.load (some 5) (.t 4)) 22 true, oG 24 (.callf 14 [(.t 23)]) 22 true, oG 25 (.bin .eql (.t 24) (.c (.d (.int .i64 0)))) 22 true, oM 26 (.pick (.t 22) (.t 25) (.c (.d (.bool false)))), oM 27 (.mv (.t 26)), oG 28 (.callf 15 []) 27 true, oM 29 (.pick (.t 27) (.t 28) (.c (.d (.bool false)))), oM 2 (.mv (.t 29))] []) .ret))))
theorem ac4_ok : Tryz.f4.body.bind (cCode Tryz.prog Tryz.f4.ntmps) = some ac4 := by kernel_rfl
-- 5 jacquard/jacquardlaw4.PrintBack
-- 6 jacquard/jacquardlaw4.PrintApart
-- 13 jacquard/well.Read
def ac13 : ACode := (.seq (.region false [ oM 2 (.alloc [.d (.str []), .d .nsl, .d .nsl, .d (.int .i64 0), .d .nsl]), oM 3 (.alloc [.d (.int .i64 0), .d (.int .i64 0)])] []) (.seq (.region false [ oM 8 (.mv (.t 0)), oM 9 (.callf 9 [(.t 8)]), oM 7 (.mv (.t 9)), oM 10 (.ext (.t 7) 0), oM 11 (.ext (.t 7) 1), oM 4 (.alloc [.d (.str []), .d .nsl, .d .nsl, .d (.int .i64 0), .d .nsl]), oM 5 (.alloc [.d (.int .i64 0), .d (.int .i64 0)]), ⟨none, .store 5 (.t 4) (.t 10), none⟩, ⟨none, .store 2 (.t 5) (.t 11), none⟩] []) (.seq (.seq (.region false [ oM 12 (.faddr (.t 5) 0), oM 13 (.load none (.t 12)), oM 14 (.bin .neq (.t 13) (.c (.d (.int .i64 0))))] []) (.cond (.t 14) (.seq (.region true [ oM 15 (.build [.d (.str []), .d .nsl, .d .nsl, .d (.int .i64 0), .d .nsl] []), oM 16 (.load (some 2) (.t 5)), ⟨none, .store 5 (.t 2) (.t 15), none⟩, ⟨none, .store 2 (.t 3) (.t 16), none⟩] [0, 0, 1, 7]) .ret) .skip)) (.seq (.seq (.region false [ oM 17 (.load (some 5) (.t 4)), oM 18 (.callf 14 [(.t 17)]), oM 6 (.mv (.t 18))] []) (.seq (.region false [ oM 19 (.mv (.t 6)), oM 20 (.bin .neq (.t 19) (.c (.d (.int .i64 0))))] []) (.cond (.t 20) (.seq (.region false [ oM 21 (.build [.d (.str []), .d .nsl, .d .nsl, .d (.int .i64 0), .d .nsl] []), oM 22 (.mv (.t 6)), oM 23 (.build [.d (.int .i64 0), .d (.int .i64 0)] [(0, 1, (.t 22))]), ⟨none, .store 5 (.t 2) (.t 21), none⟩, ⟨none, .store 2 (.t 3) (.t 23), none⟩] []) .ret) .skip))) (.seq (.region false [ oM 24 (.load (some 5) (.t 4)), oM 25 (.build [.d (.int .i64 0), .d (.int .i64 0)] []), ⟨none, .store 5 (.t 2) (.t 24), none⟩, ⟨none, .store 2 (.t 3) (.t 25), none⟩] []) .ret)))))
theorem ac13_ok : Tryz.f13.body.bind (cCode Tryz.prog Tryz.f13.ntmps) = some ac13 := by kernel_rfl
-- 14 jacquard/well.Check
def ac14L0 : ACode := (.seq (.region false [ oM 25 (.bin .lss (.t 24) (.t 23))] []) (.seq (.cond (.t 25) .skip (.exit 1)) (.seq (.block 2 (.seq (.region false [ oM 26 (.iaddr 1 none (.t 22) (.t 24)), oM 27 (.load none (.t 26)), oM 4 (.mv (.t 27))] []) (.seq (.region false [ oM 28 (.mv (.t 4)), oM 29 (.mkfn 55 [(.t 1)]), oM 30 (.callf 54 [(.t 28), (.t 29)])] []) (.cond (.t 30) (.seq (.region false [ oM 2 (.mv (.c (.d (.int .i64 10))))] []) .ret) .skip)))) (.region false [ oM 31 (.bin .add (.t 24) (.c (.d (.int .i64 1)))), oM 24 (.mv (.t 31))] []))))
def ac14 : ACode := (.seq (.region false [ oM 1 (.box (.t 0)), oM 2 (.mv (.c (.d (.int .i64 0))))] []) (.seq (.block 0 (.seq (.region false [ oM 6 (.load (some 5) (.t 1)), oM 7 (.callf 20 [(.t 6)]), oM 8 (.un .not (.t 7)), oM 5 (.mv (.t 8))] []) (.cond (.t 5) (.seq (.region false [ oM 2 (.mv (.c (.d (.int .i64 1))))] []) .ret) (.seq (.region false [ oM 10 (.load (some 5) (.t 1)), oM 11 (.callf 49 [(.t 10)]), oM 9 (.mv (.t 11))] []) (.cond (.t 9) (.seq (.region false [ oM 2 (.mv (.c (.d (.int .i64 8))))] []) .ret) (.seq (.region false [ oM 13 (.faddr (.t 1) 1), oM 14 (.load none (.t 13)), oM 15 (.callf 50 [(.t 14)]), oM 12 (.mv (.t 15))] []) (.cond (.t 12) (.seq (.region false [ oM 2 (.mv (.c (.d (.int .i64 9))))] []) .ret) (.seq (.region false [ oM 17 (.faddr (.t 1) 2), oM 18 (.load none (.t 17)), oM 19 (.callf 51 [(.t 18), (.c (.fn 52 []))]), oM 16 (.mv (.t 19))] []) (.cond (.t 16) (.seq (.region false [ oM 2 (.mv (.c (.d (.int .i64 10))))] []) .ret) .skip))))))))) (.seq (.seq (.region false [ oM 20 (.faddr (.t 1) 3), oM 21 (.faddr (.t 20) 1), oM 22 (.load none (.t 21)), oM 23 (.lenl (.t 22)), oM 24 (.mv (.c (.d (.int .i64 0))))] []) (.block 1 (.loop ac14L0))) (.seq (.region false [ oM 2 (.mv (.c (.d (.int .i64 0))))] []) .ret))))
theorem ac14_ok : Tryz.f14.body.bind (cCode Tryz.prog Tryz.f14.ntmps) = some ac14 := by kernel_rfl
-- 15 jacquard/jacquardlaw5.awake
def ac15 : ACode := (.seq (.region false [ oM 0 (.mv (.c (.d (.bool false))))] []) (.seq (.region false [ oM 3 (.build [.d (.str []), .d .nsl, .d .nsl, .d (.int .i64 0), .d .nsl] [(0, 1, (.c (.d (.str [97]))))]), oM 1 (.alloc [.d (.str []), .d .nsl, .d .nsl, .d (.int .i64 0), .d .nsl]), ⟨none, .store 5 (.t 1) (.t 3), none⟩] []) (.seq (.region false [ oM 4 (.build [.d (.int .i64 0), .d (.int .i64 0)] [(0, 1, (.c (.d (.int .i64 121))))]), oM 5 (.build [.d (.int .i64 0), .d (.int .i64 0)] [(0, 1, (.c (.d (.int .i64 120))))]), oM 6 (.bslice 2 2 [.d (.int .i64 0), .d (.int .i64 0), .d (.int .i64 0), .d (.int .i64 0)] [(0, 2, (.t 4)), (2, 2, (.t 5))]), oM 7 (.build [.d (.str []), .d .nsl, .d .nsl, .d (.int .i64 0), .d .nsl] [(0, 1, (.c (.d (.str [97])))), (1, 1, (.t 6))]), oM 8 (.callf 56 [(.t 7)]), oM 2 (.mv (.t 8))] []) (.seq (.region false [ oM 9 (.load (some 5) (.t 1)), oM 10 (.callf 14 [(.t 9)]), oM 11 (.bin .eql (.t 10) (.c (.d (.int .i64 8)))), oM 12 (.mv (.t 11)), oG 13 (.mv (.t 2)) 12 true, oG 14 (.cvbs (.t 13)) 12 true, oG 15 (.bin .eql (.t 14) (.c (.d (.str [120, 121])))) 12 true, oM 16 (.pick (.t 12) (.t 15) (.c (.d (.bool false)))), oM 17 (.mv (.t 16)), oG 18 (.build [.d (.str []), .d .nsl, .d .nsl, .d (.int .i64 0), .d .nsl] []) 17 true, oG 19 (.callf 14 [(.t 18)]) 17 true, oG 20 (.bin .eql (.t 19) (.c (.d (.int .i64 1)))) 17 true, oM 21 (.pick (.t 17) (.t 20) (.c (.d (.bool false)))), oM 0 (.mv (.t 21))] []) .ret))))
theorem ac15_ok : Tryz.f15.body.bind (cCode Tryz.prog Tryz.f15.ntmps) = some ac15 := by kernel_rfl
-- 16 jacquard/jacquardlaw4.Few
-- 17 jacquard/jacquardlaw4.awake
-- 18 jacquard/print.Test
-- 20 jacquard/print.Ok
def ac20 : ACode := (.seq (.region false [ oM 1 (.box (.t 0)), oM 2 (.mv (.c (.d (.bool false))))] []) (.seq (.region false [ oM 3 (.mv (.c (.fn 69 [])))] []) (.seq (.region false [ oM 4 (.faddr (.t 1) 0), oM 5 (.load none (.t 4)), oM 6 (.callf 73 [(.t 5)]), oM 7 (.mv (.t 6)), oG 8 (.faddr (.t 1) 1) 7 true, oG 9 (.load none (.t 8)) 7 true, oG 10 (.callf 74 [(.t 9), (.c (.fn 75 []))]) 7 true, oG 11 (.un .not (.t 10)) 7 true, oM 12 (.pick (.t 7) (.t 11) (.c (.d (.bool false)))), oM 13 (.mv (.t 12)), oG 14 (.faddr (.t 1) 2) 13 true, oG 15 (.load none (.t 14)) 13 true, oG 16 (.mv (.t 3)) 13 true, oG 17 (.callf 51 [(.t 15), (.t 16)]) 13 true, oG 18 (.un .not (.t 17)) 13 true, oM 19 (.pick (.t 13) (.t 18) (.c (.d (.bool false)))), oM 20 (.mv (.t 19)), oG 21 (.faddr (.t 1) 3) 20 true, oG 22 (.load (some 2) (.t 21)) 20 true, oG 23 (.callf 77 [(.t 22)]) 20 true, oM 24 (.pick (.t 20) (.t 23) (.c (.d (.bool false)))), oM 2 (.mv (.t 24))] []) .ret)))
theorem ac20_ok : Tryz.f20.body.bind (cCode Tryz.prog Tryz.f20.ntmps) = some ac20 := by kernel_rfl
-- 23 jacquard/jacquardref2.Text
def ac23L0 : ACode := (.seq (.seq (.region false [ oM 14 (.mv (.t 3)), oM 15 (.bin .gtr (.t 14) (.c (.d (.int .u64 9))))] []) (.cond (.t 15) .skip (.exit 0))) (.block 1 (.seq (.region false [ oM 16 (.mv (.t 3)), oM 17 (.bin .rem (.t 16) (.c (.d (.int .u64 10)))), oM 18 (.cvi .i64 (.t 17)), oM 6 (.mv (.t 18))] []) (.seq (.region false [ oM 19 (.mv (.t 6)), oM 20 (.mv (.t 6)), oM 21 (.bin .add (.t 20) (.c (.d (.int .i64 1)))), oM 22 (.slcs (.c (.d (.str [48, 49, 50, 51, 52, 53, 54, 55, 56, 57]))) (some (.t 19)) (some (.t 21))), oM 23 (.mv (.t 5)), oM 24 (.bin .add (.t 22) (.t 23)), oM 5 (.mv (.t 24))] []) (.region false [ oM 25 (.mv (.t 3)), oM 26 (.bin .quo (.t 25) (.c (.d (.int .u64 10)))), oM 3 (.mv (.t 26))] [])))))
def ac23 : ACode := (.seq (.region false [ oM 2 (.mv (.c (.d (.str []))))] []) (.seq (.region false [ oM 8 (.mv (.t 0)), oM 9 (.cvi .u64 (.t 8)), oM 3 (.mv (.t 9))] []) (.seq (.region false [ oM 4 (.mv (.c (.d (.str []))))] []) (.seq (.seq (.region false [ oM 10 (.mv (.t 0)), oM 11 (.bin .lss (.t 10) (.c (.d (.int .i64 0))))] []) (.cond (.t 11) (.seq (.region false [ oM 12 (.mv (.t 3)), oM 13 (.un .neg (.t 12)), oM 3 (.mv (.t 13))] []) (.region false [ oM 4 (.mv (.c (.d (.str [45]))))] [])) .skip)) (.seq (.region false [ oM 5 (.mv (.c (.d (.str []))))] []) (.seq (.block 0 (.loop ac23L0)) (.seq (.region false [ oM 27 (.mv (.t 3)), oM 28 (.cvi .i64 (.t 27)), oM 7 (.mv (.t 28))] []) (.seq (.region false [ oM 29 (.mv (.t 4)), oM 30 (.mv (.t 7)), oM 31 (.mv (.t 7)), oM 32 (.bin .add (.t 31) (.c (.d (.int .i64 1)))), oM 33 (.slcs (.c (.d (.str [48, 49, 50, 51, 52, 53, 54, 55, 56, 57]))) (some (.t 30)) (some (.t 32))), oM 34 (.bin .add (.t 29) (.t 33)), oM 35 (.mv (.t 5)), oM 36 (.bin .add (.t 34) (.t 35)), oM 2 (.mv (.t 36))] []) .ret))))))))
theorem ac23_ok : Tryz.f23.body.bind (cCode Tryz.prog Tryz.f23.ntmps) = some ac23 := by kernel_rfl
-- 27 jacquard/lex.Long
def ac27 : ACode := (.seq (.region false [ oM 2 (.alloc [.d (.int .i64 0), .d (.int .i64 0)])] []) (.seq (.seq (.region false [ oM 3 (.mv (.t 0)), oM 4 (.lens (.t 3)), oM 5 (.bin .gtr (.t 4) (.c (.d (.int .i64 4000))))] []) (.cond (.t 5) (.seq (.region false [ oM 6 (.build [.d (.int .i64 0), .d (.int .i64 0)] [(0, 1, (.c (.d (.int .i64 2)))), (1, 1, (.c (.d (.int .i64 4000))))]), ⟨none, .store 2 (.t 2) (.t 6), none⟩] []) .ret) .skip)) (.seq (.region false [ oM 7 (.build [.d (.int .i64 0), .d (.int .i64 0)] []), ⟨none, .store 2 (.t 2) (.t 7), none⟩] []) .ret)))
theorem ac27_ok : Tryz.f27.body.bind (cCode Tryz.prog Tryz.f27.ntmps) = some ac27 := by kernel_rfl
-- 28 jacquard/lex.New
def ac28 : ACode := (.seq (.region false [ oM 2 (.mv (.c (.d .nptr)))] []) (.seq (.region false [ oM 3 (.mv (.t 0)), oM 4 (.build [.d (.str []), .d (.int .i64 0), .d (.int .i64 0), .d (.int .i64 0), .d (.int .i64 0)] [(0, 1, (.t 3))]), oM 5 (.box (.t 4)), oM 2 (.mv (.t 5))] []) .ret))
theorem ac28_ok : Tryz.f28.body.bind (cCode Tryz.prog Tryz.f28.ntmps) = some ac28 := by kernel_rfl
-- 49 jacquard/well.big
def ac49L0 : ACode := (.seq (.region false [ oM 11 (.bin .lss (.t 10) (.t 9))] []) (.seq (.cond (.t 11) .skip (.exit 0)) (.seq (.block 1 (.seq (.region false [ oM 12 (.iaddr 1 none (.t 8) (.t 10)), oM 13 (.load none (.t 12)), oM 5 (.mv (.t 13))] []) (.seq (.seq (.region false [ oM 14 (.mv (.t 5)), oM 15 (.lenl (.t 14)), oM 16 (.bin .gtr (.t 15) (.c (.d (.int .i64 10))))] []) (.cond (.t 16) (.seq (.region false [ oM 2 (.mv (.c (.d (.bool true))))] []) .ret) .skip)) (.region false [ oM 17 (.mv (.t 3)), oM 18 (.mv (.t 5)), oM 19 (.lenl (.t 18)), oM 20 (.bin .add (.t 17) (.t 19)), oM 3 (.mv (.t 20))] [])))) (.region false [ oM 21 (.bin .add (.t 10) (.c (.d (.int .i64 1)))), oM 10 (.mv (.t 21))] []))))
def ac49 : ACode := (.seq (.region false [ oM 1 (.box (.t 0)), oM 2 (.mv (.c (.d (.bool false))))] []) (.seq (.region false [ oM 3 (.mv (.c (.d (.int .i64 0))))] []) (.seq (.seq (.region false [ oM 7 (.faddr (.t 1) 2), oM 8 (.load none (.t 7)), oM 9 (.lenl (.t 8)), oM 10 (.mv (.c (.d (.int .i64 0))))] []) (.block 0 (.loop ac49L0))) (.seq (.region false [ oM 6 (.mv (.c (.fn 97 [])))] []) (.seq (.region false [ oM 22 (.faddr (.t 1) 2), oM 23 (.load none (.t 22)), oM 24 (.lenl (.t 23)), oM 25 (.bin .eql (.t 24) (.c (.d (.int .i64 0)))), oM 26 (.mv (.t 25)), oG 27 (.faddr (.t 1) 2) 26 false, oG 28 (.load none (.t 27)) 26 false, oG 29 (.lenl (.t 28)) 26 false, oG 30 (.bin .gtr (.t 29) (.c (.d (.int .i64 4)))) 26 false, oM 31 (.pick (.t 26) (.c (.d (.bool true))) (.t 30)), oM 32 (.mv (.t 31)), oG 33 (.mv (.t 3)) 32 false, oG 34 (.bin .gtr (.t 33) (.c (.d (.int .i64 24)))) 32 false, oM 35 (.pick (.t 32) (.c (.d (.bool true))) (.t 34)), oM 36 (.mv (.t 35)), oG 37 (.load (some 5) (.t 1)) 36 false, oG 38 (.callf 56 [(.t 37)]) 36 false, oG 39 (.lenl (.t 38)) 36 false, oG 40 (.bin .gtr (.t 39) (.c (.d (.int .i64 4)))) 36 false, oM 41 (.pick (.t 36) (.c (.d (.bool true))) (.t 40)), oM 42 (.mv (.t 41)), oG 43 (.faddr (.t 1) 3) 42 false, oG 44 (.faddr (.t 43) 1) 42 false, oG 45 (.load none (.t 44)) 42 false, oG 46 (.lenl (.t 45)) 42 false, oG 47 (.bin .gtr (.t 46) (.c (.d (.int .i64 8)))) 42 false, oM 48 (.pick (.t 42) (.c (.d (.bool true))) (.t 47)), oM 49 (.mv (.t 48)), oG 50 (.faddr (.t 1) 3) 49 false, oG 51 (.faddr (.t 50) 1) 49 false, oG 52 (.load none (.t 51)) 49 false, oG 53 (.mv (.t 6)) 49 false, oG 54 (.callf 98 [(.t 52), (.t 53)]) 49 false, oM 55 (.pick (.t 49) (.c (.d (.bool true))) (.t 54)), oM 56 (.mv (.t 55)), oG 57 (.faddr (.t 1) 0) 56 false, oG 58 (.load none (.t 57)) 56 false, oG 59 (.lens (.t 58)) 56 false, oG 60 (.bin .gtr (.t 59) (.c (.d (.int .i64 20)))) 56 false, oM 61 (.pick (.t 56) (.c (.d (.bool true))) (.t 60)), oM 2 (.mv (.t 61))] []) .ret)))))
theorem ac49_ok : Tryz.f49.body.bind (cCode Tryz.prog Tryz.f49.ntmps) = some ac49 := by kernel_rfl
-- 50 jacquard/well.twice
def ac50L0 : ACode := (.seq (.region false [ oM 9 (.bin .lss (.t 8) (.t 7))] []) (.seq (.cond (.t 9) .skip (.exit 0)) (.seq (.block 1 (.seq (.region false [ oM 10 (.iaddr 2 none (.t 6) (.t 8)), oM 11 (.load (some 2) (.t 10)), oM 5 (.alloc [.d (.int .i64 0), .d (.int .i64 0)]), ⟨none, .store 2 (.t 5) (.t 11), none⟩] []) (.seq (.seq (.region false [ oM 12 (.mv (.t 3)), oM 13 (.faddr (.t 5) 0), oM 14 (.load none (.t 13)), oM 15 (.bin .sub (.t 14) (.c (.d (.int .i64 97)))), oM 16 (.bin .shr (.t 12) (.t 15)), oM 17 (.bin .and (.t 16) (.c (.d (.int .u64 1)))), oM 18 (.bin .eql (.t 17) (.c (.d (.int .u64 1))))] []) (.cond (.t 18) (.seq (.region false [ oM 2 (.mv (.c (.d (.bool true))))] []) .ret) .skip)) (.region false [ oM 19 (.mv (.t 3)), oM 20 (.faddr (.t 5) 0), oM 21 (.load none (.t 20)), oM 22 (.bin .sub (.t 21) (.c (.d (.int .i64 97)))), oM 23 (.bin .shl (.c (.d (.int .u64 1))) (.t 22)), oM 24 (.bin .or (.t 19) (.t 23)), oM 3 (.mv (.t 24))] [])))) (.region false [ oM 25 (.bin .add (.t 8) (.c (.d (.int .i64 1)))), oM 8 (.mv (.t 25))] []))))
def ac50 : ACode := (.seq (.region false [ oM 2 (.mv (.c (.d (.bool false))))] []) (.seq (.region false [ oM 3 (.mv (.c (.d (.int .u64 0))))] []) (.seq (.seq (.region false [ oM 6 (.mv (.t 0)), oM 7 (.lenl (.t 6)), oM 8 (.mv (.c (.d (.int .i64 0))))] []) (.block 0 (.loop ac50L0))) (.seq (.region false [ oM 2 (.mv (.c (.d (.bool false))))] []) .ret))))
theorem ac50_ok : Tryz.f50.body.bind (cCode Tryz.prog Tryz.f50.ntmps) = some ac50 := by kernel_rfl
-- 51 slices.ContainsFunc[[][]jacquard/api.Ins,[]jacquard/api.Ins]
def ac51 : ACode := (.seq (.region false [ oM 4 (.mv (.c (.d (.bool false))))] []) (.seq (.region false [ oM 5 (.mv (.t 0)), oM 6 (.mv (.t 1)), oM 7 (.callf 99 [(.t 5), (.t 6)]), oM 8 (.bin .geq (.t 7) (.c (.d (.int .i64 0)))), oM 4 (.mv (.t 8))] []) .ret))
theorem ac51_ok : Tryz.f51.body.bind (cCode Tryz.prog Tryz.f51.ntmps) = some ac51 := by kernel_rfl
-- 52 jacquard/well.Check$1
def ac52 : ACode := (.seq (.region false [ oM 2 (.mv (.c (.d (.bool false))))] []) (.seq (.region false [ oM 3 (.mv (.t 0)), oM 4 (.callf 53 [(.t 3)]), oM 5 (.un .not (.t 4)), oM 2 (.mv (.t 5))] []) .ret))
theorem ac52_ok : Tryz.f52.body.bind (cCode Tryz.prog Tryz.f52.ntmps) = some ac52 := by kernel_rfl
-- 53 jacquard/well.Jumps
def ac53L0 : ACode := (.seq (.region false [ oM 8 (.bin .lss (.t 7) (.t 6))] []) (.seq (.cond (.t 8) .skip (.exit 0)) (.seq (.block 1 (.seq (.region false [ oM 9 (.mv (.t 7)), oM 10 (.iaddr 9 none (.t 5) (.t 7)), oM 11 (.load (some 9) (.t 10)), oM 4 (.alloc [.d (.int .i64 0), .d (.int .i64 0), .d (.int .i64 0), .d (.int .i64 0), .d (.int .i64 0), .d (.int .i64 0), .d (.int .i64 0), .d (.int .i64 0), .d (.int .i64 0)]), oM 3 (.mv (.t 9)), ⟨none, .store 9 (.t 4) (.t 11), none⟩] []) (.seq (.region false [ oM 12 (.faddr (.t 4) 0), oM 13 (.load none (.t 12)), oM 14 (.bin .eql (.t 13) (.c (.d (.int .i64 6)))), oM 15 (.mv (.t 14)), oG 16 (.faddr (.t 4) 8) 15 true, oG 17 (.load none (.t 16)) 15 true, oG 18 (.bin .lss (.t 17) (.c (.d (.int .i64 1)))) 15 true, oG 19 (.mv (.t 18)) 15 true, oG 20 (.faddr (.t 4) 8) 19 false, oG 21 (.load none (.t 20)) 19 false, oG 22 (.mv (.t 0)) 19 false, oG 23 (.lenl (.t 22)) 19 false, oG 24 (.mv (.t 3)) 19 false, oG 25 (.bin .sub (.t 23) (.t 24)) 19 false, oG 26 (.bin .sub (.t 25) (.c (.d (.int .i64 1)))) 19 false, oG 27 (.bin .gtr (.t 21) (.t 26)) 19 false, oG 28 (.pick (.t 19) (.c (.d (.bool true))) (.t 27)) 15 true, oM 29 (.pick (.t 15) (.t 28) (.c (.d (.bool false))))] []) (.cond (.t 29) (.seq (.region false [ oM 2 (.mv (.c (.d (.bool false))))] []) .ret) .skip)))) (.region false [ oM 30 (.bin .add (.t 7) (.c (.d (.int .i64 1)))), oM 7 (.mv (.t 30))] []))))
def ac53 : ACode := (.seq (.region false [ oM 2 (.mv (.c (.d (.bool false))))] []) (.seq (.seq (.region false [ oM 5 (.mv (.t 0)), oM 6 (.lenl (.t 5)), oM 7 (.mv (.c (.d (.int .i64 0))))] []) (.block 0 (.loop ac53L0))) (.seq (.region false [ oM 2 (.mv (.c (.d (.bool true))))] []) .ret)))
theorem ac53_ok : Tryz.f53.body.bind (cCode Tryz.prog Tryz.f53.ntmps) = some ac53 := by kernel_rfl
-- 54 slices.ContainsFunc[[]jacquard/api.Atom,jacquard/api.Atom]
def ac54 : ACode := (.seq (.region false [ oM 4 (.mv (.c (.d (.bool false))))] []) (.seq (.region false [ oM 5 (.mv (.t 0)), oM 6 (.mv (.t 1)), oM 7 (.callf 100 [(.t 5), (.t 6)]), oM 8 (.bin .geq (.t 7) (.c (.d (.int .i64 0)))), oM 4 (.mv (.t 8))] []) .ret))
theorem ac54_ok : Tryz.f54.body.bind (cCode Tryz.prog Tryz.f54.ntmps) = some ac54 := by kernel_rfl
-- 55 jacquard/well.Check$2
def ac55 : ACode := (.seq (.region false [ oM 2 (.box (.t 0)), oM 3 (.mv (.c (.d (.bool false))))] []) (.seq (.region false [ oM 4 (.faddr (.t 2) 0), oM 5 (.load none (.t 4)), oM 6 (.bin .neq (.t 5) (.c (.d (.int .i64 (-1))))), oM 7 (.mv (.t 6)), oG 8 (.faddr (.t 2) 0) 7 true, oG 9 (.load none (.t 8)) 7 true, oG 10 (.faddr (.t 1) 2) 7 true, oG 11 (.load none (.t 10)) 7 true, oG 12 (.lenl (.t 11)) 7 true, oG 13 (.bin .geq (.t 9) (.t 12)) 7 true, oM 14 (.pick (.t 7) (.t 13) (.c (.d (.bool false)))), oM 3 (.mv (.t 14))] []) .ret))
theorem ac55_ok : Tryz.f55.body.bind (cCode Tryz.prog Tryz.f55.ntmps) = some ac55 := by kernel_rfl
-- 56 jacquard/well.Locs
def ac56L0 : ACode := (.seq (.region false [ oM 9 (.bin .lss (.t 8) (.c (.d (.int .i64 26))))] []) (.seq (.cond (.t 9) .skip (.exit 0)) (.seq (.block 1 (.seq (.region false [ oM 10 (.mv (.t 8)), oM 5 (.mv (.t 10))] []) (.seq (.region false [ oM 11 (.mv (.t 4)), oM 12 (.mv (.t 5)), oM 13 (.bin .shr (.t 11) (.t 12)), oM 14 (.bin .and (.t 13) (.c (.d (.int .u64 1)))), oM 15 (.bin .eql (.t 14) (.c (.d (.int .u64 1))))] []) (.cond (.t 15) (.region false [ oM 16 (.mv (.t 3)), oM 17 (.mv (.t 5)), oM 18 (.cvi .u8 (.t 17)), oM 19 (.bin .add (.c (.d (.int .u8 97))) (.t 18)), oM 20 (.bslice 1 1 [.d (.int .u8 0)] [(0, 1, (.t 19))]), oM 21 (.app 1 1 5 (.t 16) (.t 20)), oM 3 (.mv (.t 21))] []) .skip)))) (.region false [ oM 22 (.bin .add (.t 8) (.c (.d (.int .i64 1)))), oM 8 (.mv (.t 22))] []))))
def ac56 : ACode := (.seq (.region false [ oM 1 (.box (.t 0)), oM 2 (.mv (.c (.d .nsl)))] []) (.seq (.region false [ oM 3 (.mv (.c (.d .nsl)))] []) (.seq (.region false [ oM 6 (.load (some 5) (.t 1)), oM 7 (.callf 101 [(.t 6)]), oM 4 (.mv (.t 7))] []) (.seq (.seq (.region false [ oM 8 (.mv (.c (.d (.int .i64 0))))] []) (.block 0 (.loop ac56L0))) (.seq (.region false [ oM 23 (.mv (.t 3)), oM 2 (.mv (.t 23))] []) .ret)))))
theorem ac56_ok : Tryz.f56.body.bind (cCode Tryz.prog Tryz.f56.ntmps) = some ac56 := by kernel_rfl
-- 57 jacquard/print.Ins
-- 58 jacquard/print.Test$1
-- 59 (*strings.Builder).WriteString
-- 60 jacquard/print.loc
-- 61 jacquard/num.Text
-- 62 jacquard/print.Cond
-- 64 slices.Equal[[]jacquard/api.Init,jacquard/api.Init]
-- 65 slices.EqualFunc[[][]jacquard/api.Ins,[][]jacquard/api.Ins,[]jacquard/api.Ins,[]jacquard/api.Ins]
-- 66 slices.Equal[[]jacquard/api.Ins,jacquard/api.Ins]
-- 67 slices.EqualFunc[[][]jacquard/api.Atom,[][]jacquard/api.Atom,[]jacquard/api.Atom,[]jacquard/api.Atom]
-- 68 slices.Equal[[]jacquard/api.Atom,jacquard/api.Atom]
-- 69 jacquard/print.Ok$1
def ac69 : ACode := (.seq (.region false [ oM 2 (.mv (.c (.d (.bool false))))] []) (.seq (.region false [ oM 3 (.mv (.t 0)), oM 4 (.callf 70 [(.t 3), (.c (.fn 71 []))]), oM 2 (.mv (.t 4))] []) .ret))
theorem ac69_ok : Tryz.f69.body.bind (cCode Tryz.prog Tryz.f69.ntmps) = some ac69 := by kernel_rfl
-- 70 slices.ContainsFunc[[]jacquard/api.Ins,jacquard/api.Ins]
def ac70 : ACode := (.seq (.region false [ oM 4 (.mv (.c (.d (.bool false))))] []) (.seq (.region false [ oM 5 (.mv (.t 0)), oM 6 (.mv (.t 1)), oM 7 (.callf 108 [(.t 5), (.t 6)]), oM 8 (.bin .geq (.t 7) (.c (.d (.int .i64 0)))), oM 4 (.mv (.t 8))] []) .ret))
theorem ac70_ok : Tryz.f70.body.bind (cCode Tryz.prog Tryz.f70.ntmps) = some ac70 := by kernel_rfl
-- 71 jacquard/print.Ok$1$1
def ac71 : ACode := (.seq (.region false [ oM 1 (.box (.t 0)), oM 2 (.mv (.c (.d (.bool false))))] []) (.seq (.region false [ oM 3 (.load (some 9) (.t 1)), oM 4 (.callf 72 [(.t 3)]), oM 5 (.un .not (.t 4)), oM 2 (.mv (.t 5))] []) .ret))
theorem ac71_ok : Tryz.f71.body.bind (cCode Tryz.prog Tryz.f71.ntmps) = some ac71 := by kernel_rfl
-- 72 jacquard/print.okIns
def ac72 : ACode := (.seq (.region false [ oM 1 (.box (.t 0)), oM 2 (.mv (.c (.d (.bool false))))] []) (.seq (.region false [ oM 3 (.load (some 9) (.t 1)), oM 4 (.callf 109 [(.t 3), (.c (.fn 76 []))]), oM 2 (.mv (.t 4))] []) .ret))
theorem ac72_ok : Tryz.f72.body.bind (cCode Tryz.prog Tryz.f72.ntmps) = some ac72 := by kernel_rfl
-- 73 jacquard/print.isWord
def ac73L0 : ACode := (.seq (.region false [ oM 8 (.bin .lss (.t 7) (.t 6))] []) (.seq (.cond (.t 8) .skip (.exit 0)) (.seq (.block 1 (.seq (.region false [ oM 9 (.mv (.t 7)), oM 3 (.mv (.t 9))] []) (.seq (.region false [ oM 10 (.mv (.t 0)), oM 11 (.mv (.t 3)), oM 12 (.idxs (.t 10) (.t 11)), oM 4 (.mv (.t 12))] []) (.seq (.region false [ oM 13 (.mv (.t 4)), oM 14 (.bin .lss (.t 13) (.c (.d (.int .u8 97)))), oM 15 (.mv (.t 14)), oG 16 (.mv (.t 4)) 15 false, oG 17 (.bin .gtr (.t 16) (.c (.d (.int .u8 122)))) 15 false, oM 18 (.pick (.t 15) (.c (.d (.bool true))) (.t 17)), oM 19 (.mv (.t 18)), oG 20 (.mv (.t 3)) 19 true, oG 21 (.bin .eql (.t 20) (.c (.d (.int .i64 0)))) 19 true, oG 22 (.mv (.t 21)) 19 true, oG 23 (.mv (.t 4)) 22 false, oG 24 (.bin .lss (.t 23) (.c (.d (.int .u8 48)))) 22 false, oG 25 (.pick (.t 22) (.c (.d (.bool true))) (.t 24)) 19 true, oG 26 (.mv (.t 25)) 19 true, oG 27 (.mv (.t 4)) 26 false, oG 28 (.bin .gtr (.t 27) (.c (.d (.int .u8 57)))) 26 false, oG 29 (.pick (.t 26) (.c (.d (.bool true))) (.t 28)) 19 true, oM 30 (.pick (.t 19) (.t 29) (.c (.d (.bool false))))] []) (.cond (.t 30) (.seq (.region false [ oM 2 (.mv (.c (.d (.bool false))))] []) .ret) .skip))))) (.region false [ oM 31 (.bin .add (.t 7) (.c (.d (.int .i64 1)))), oM 7 (.mv (.t 31))] []))))
def ac73 : ACode := (.seq (.region false [ oM 2 (.mv (.c (.d (.bool false))))] []) (.seq (.seq (.region false [ oM 5 (.mv (.t 0)), oM 6 (.lens (.t 5)), oM 7 (.mv (.c (.d (.int .i64 0))))] []) (.block 0 (.loop ac73L0))) (.seq (.region false [ oM 32 (.mv (.t 0)), oM 33 (.bin .neq (.t 32) (.c (.d (.str [])))), oM 2 (.mv (.t 33))] []) .ret)))
theorem ac73_ok : Tryz.f73.body.bind (cCode Tryz.prog Tryz.f73.ntmps) = some ac73 := by kernel_rfl
-- 74 slices.ContainsFunc[[]jacquard/api.Init,jacquard/api.Init]
def ac74 : ACode := (.seq (.region false [ oM 4 (.mv (.c (.d (.bool false))))] []) (.seq (.region false [ oM 5 (.mv (.t 0)), oM 6 (.mv (.t 1)), oM 7 (.callf 110 [(.t 5), (.t 6)]), oM 8 (.bin .geq (.t 7) (.c (.d (.int .i64 0)))), oM 4 (.mv (.t 8))] []) .ret))
theorem ac74_ok : Tryz.f74.body.bind (cCode Tryz.prog Tryz.f74.ntmps) = some ac74 := by kernel_rfl
-- 75 jacquard/print.Ok$2
def ac75 : ACode := (.seq (.region false [ oM 1 (.box (.t 0)), oM 2 (.mv (.c (.d (.bool false))))] []) (.seq (.region false [ oM 3 (.faddr (.t 1) 0), oM 4 (.load none (.t 3)), oM 5 (.callf 76 [(.t 4)]), oM 6 (.un .not (.t 5)), oM 2 (.mv (.t 6))] []) .ret))
theorem ac75_ok : Tryz.f75.body.bind (cCode Tryz.prog Tryz.f75.ntmps) = some ac75 := by kernel_rfl
-- 76 jacquard/print.IsLoc
def ac76 : ACode := (.seq (.region false [ oM 2 (.mv (.c (.d (.bool false))))] []) (.seq (.region false [ oM 3 (.mv (.t 0)), oM 4 (.bin .geq (.t 3) (.c (.d (.int .i64 97)))), oM 5 (.mv (.t 4)), oG 6 (.mv (.t 0)) 5 true, oG 7 (.bin .leq (.t 6) (.c (.d (.int .i64 122)))) 5 true, oM 8 (.pick (.t 5) (.t 7) (.c (.d (.bool false)))), oM 2 (.mv (.t 8))] []) .ret))
theorem ac76_ok : Tryz.f76.body.bind (cCode Tryz.prog Tryz.f76.ntmps) = some ac76 := by kernel_rfl
-- 77 jacquard/print.okCond
def ac77 : ACode := (.seq (.region false [ oM 1 (.box (.t 0)), oM 2 (.mv (.c (.d (.bool false))))] []) (.seq (.seq (.region false [ oM 4 (.faddr (.t 1) 0), oM 5 (.load none (.t 4)), oM 6 (.bin .eql (.t 5) (.c (.d (.int .i64 0))))] []) (.cond (.t 6) (.seq (.region false [ oM 7 (.faddr (.t 1) 1), oM 8 (.load none (.t 7)), oM 9 (.lenl (.t 8)), oM 10 (.bin .eql (.t 9) (.c (.d (.int .i64 0)))), oM 2 (.mv (.t 10))] []) .ret) .skip)) (.seq (.region false [ oM 3 (.mv (.c (.fn 111 [])))] []) (.seq (.region false [ oM 11 (.faddr (.t 1) 0), oM 12 (.load none (.t 11)), oM 13 (.bin .eql (.t 12) (.c (.d (.int .i64 1)))), oM 14 (.mv (.t 13)), oG 15 (.faddr (.t 1) 0) 14 false, oG 16 (.load none (.t 15)) 14 false, oG 17 (.bin .eql (.t 16) (.c (.d (.int .i64 2)))) 14 false, oM 18 (.pick (.t 14) (.c (.d (.bool true))) (.t 17)), oM 19 (.mv (.t 18)), oG 20 (.faddr (.t 1) 1) 19 true, oG 21 (.load none (.t 20)) 19 true, oG 22 (.lenl (.t 21)) 19 true, oG 23 (.bin .gtr (.t 22) (.c (.d (.int .i64 0)))) 19 true, oM 24 (.pick (.t 19) (.t 23) (.c (.d (.bool false)))), oM 25 (.mv (.t 24)), oG 26 (.faddr (.t 1) 1) 25 true, oG 27 (.load none (.t 26)) 25 true, oG 28 (.mv (.t 3)) 25 true, oG 29 (.callf 98 [(.t 27), (.t 28)]) 25 true, oG 30 (.un .not (.t 29)) 25 true, oM 31 (.pick (.t 25) (.t 30) (.c (.d (.bool false)))), oM 2 (.mv (.t 31))] []) .ret))))
theorem ac77_ok : Tryz.f77.body.bind (cCode Tryz.prog Tryz.f77.ntmps) = some ac77 := by kernel_rfl
-- 85 (*jacquard/lex.Lexer).Next
def ac85 : ACode := (.seq (.region false [ oM 2 (.alloc [.d (.int .i64 0), .d (.str []), .d (.int .i64 0)]), oM 3 (.alloc [.d (.int .i64 0), .d (.int .i64 0)])] []) (.seq (.seq (.region false [ oM 10 (.mv (.t 0)), oM 11 (.nilck (.t 10)), oM 12 (.faddr (.t 11) 3), oM 13 (.faddr (.t 12) 0), oM 14 (.load none (.t 13)), oM 15 (.bin .neq (.t 14) (.c (.d (.int .i64 0))))] []) (.cond (.t 15) (.seq (.region true [ oM 16 (.build [.d (.int .i64 0), .d (.str []), .d (.int .i64 0)] []), oM 17 (.mv (.t 0)), oM 18 (.nilck (.t 17)), oM 19 (.faddr (.t 18) 3), oM 20 (.load (some 2) (.t 19)), ⟨none, .store 3 (.t 2) (.t 16), none⟩, ⟨none, .store 2 (.t 3) (.t 20), none⟩] [0, 0, 2, 4, 8, 1, 63]) .ret) .skip)) (.seq (.region false [ oM 21 (.mv (.t 0)), oM 22 (.callf 118 [(.t 21)])] []) (.seq (.seq (.region false [ oM 23 (.mv (.t 0)), oM 24 (.mv (.t 0)), oM 25 (.nilck (.t 24)), oM 26 (.faddr (.t 25) 1), oM 27 (.load none (.t 26)), oM 28 (.callf 119 [(.t 23), (.t 27)]), oM 29 (.un .not (.t 28))] []) (.cond (.t 29) (.seq (.region false [ oM 30 (.mv (.t 0)), oM 31 (.nilck (.t 30)), oM 32 (.faddr (.t 31) 1), oM 33 (.load none (.t 32)), oM 34 (.build [.d (.int .i64 0), .d (.str []), .d (.int .i64 0)] [(0, 1, (.c (.d (.int .i64 4)))), (2, 1, (.t 33))]), oM 35 (.build [.d (.int .i64 0), .d (.int .i64 0)] []), ⟨none, .store 3 (.t 2) (.t 34), none⟩, ⟨none, .store 2 (.t 3) (.t 35), none⟩] []) .ret) .skip)) (.seq (.region false [ oM 36 (.mv (.t 0)), oM 37 (.mv (.t 0)), oM 38 (.nilck (.t 37)), oM 39 (.faddr (.t 38) 1), oM 40 (.load none (.t 39)), oM 41 (.callf 120 [(.t 36), (.t 40)]), oM 4 (.mv (.t 41))] []) (.seq (.region false [ oM 42 (.mv (.t 0)), oM 43 (.nilck (.t 42)), oM 44 (.faddr (.t 43) 1), oM 45 (.load none (.t 44)), oM 46 (.build [.d (.int .i64 0), .d (.str []), .d (.int .i64 0)] [(2, 1, (.t 45))]), oM 5 (.alloc [.d (.int .i64 0), .d (.str []), .d (.int .i64 0)]), ⟨none, .store 3 (.t 5) (.t 46), none⟩] []) (.seq (.region false [ oM 47 (.mv (.t 0)), oM 48 (.nilck (.t 47)), oM 49 (.faddr (.t 48) 1), oM 50 (.load none (.t 49)), oM 6 (.mv (.t 50))] []) (.seq (.block 0 (.seq (.region false [ oM 68 (.mv (.t 4)), oM 69 (.callf 121 [(.t 68)]), oM 70 (.bin .eql (.t 69) (.c (.d (.int .i64 2)))), oM 67 (.mv (.t 70))] []) (.cond (.t 67) (.region false [ oM 71 (.mv (.t 0)), oM 72 (.mv (.t 0)), oM 73 (.nilck (.t 72)), oM 74 (.faddr (.t 73) 1), oM 75 (.load none (.t 74)), oM 76 (.callf 122 [(.t 71), (.t 75)]), oM 77 (.faddr (.t 5) 0), ⟨none, .store 1 (.t 77) (.c (.d (.int .i64 1))), none⟩, oM 6 (.mv (.t 76))] []) (.seq (.region false [ oM 79 (.mv (.t 4)), oM 80 (.callf 121 [(.t 79)]), oM 81 (.bin .eql (.t 80) (.c (.d (.int .i64 3)))), oM 82 (.mv (.t 81)), oG 83 (.mv (.t 4)) 82 false, oG 84 (.bin .eql (.t 83) (.c (.d (.int .u8 45)))) 82 false, oG 85 (.mv (.t 84)) 82 false, oG 86 (.mv (.t 0)) 85 true, oG 87 (.mv (.t 0)) 85 true, oG 88 (.nilck (.t 87)) 85 true, oG 89 (.faddr (.t 88) 1) 85 true, oG 90 (.load none (.t 89)) 85 true, oG 91 (.bin .add (.t 90) (.c (.d (.int .i64 1)))) 85 true, oG 92 (.callf 120 [(.t 86), (.t 91)]) 85 true, oG 93 (.callf 121 [(.t 92)]) 85 true, oG 94 (.bin .eql (.t 93) (.c (.d (.int .i64 3)))) 85 true, oG 95 (.pick (.t 85) (.t 94) (.c (.d (.bool false)))) 82 false, oM 96 (.pick (.t 82) (.c (.d (.bool true))) (.t 95)), oM 78 (.mv (.t 96))] []) (.cond (.t 78) (.seq (.region false [ oM 97 (.mv (.t 0)), oM 98 (.mv (.t 0)), oM 99 (.nilck (.t 98)), oM 100 (.faddr (.t 99) 1), oM 101 (.load none (.t 100)), oM 102 (.bin .add (.t 101) (.c (.d (.int .i64 1)))), oM 103 (.callf 122 [(.t 97), (.t 102)]), oM 104 (.faddr (.t 5) 0), ⟨none, .store 1 (.t 104) (.c (.d (.int .i64 2))), none⟩, oM 6 (.mv (.t 103))] []) (.seq (.region true [ oM 106 (.mv (.t 0)), oM 107 (.nilck (.t 106)), oM 108 (.faddr (.t 107) 0), oM 109 (.load none (.t 108)), oM 110 (.mv (.t 0)), oM 111 (.nilck (.t 110)), oM 112 (.faddr (.t 111) 1), oM 113 (.load none (.t 112)), oM 114 (.mv (.t 6)), oM 115 (.slcs (.t 109) (some (.t 113)) (some (.t 114))), oM 116 (.callf 123 [(.t 115)]), oM 105 (.mv (.t 116)), oM 117 (.ext (.t 105) 0), oM 118 (.ext (.t 105) 1), oM 7 (.mv (.t 117)), oM 8 (.mv (.t 118))] [0, 1, 2, 4, 0, 16, 32, 64, 0, 392, 512, 1024, 2048, 2048, 8191, 32767]) (.seq (.region false [ oM 119 (.mv (.t 8)), oM 120 (.un .not (.t 119))] []) (.cond (.t 120) (.seq (.region false [ oM 121 (.mv (.t 0)), oM 122 (.callf 124 [(.t 121), (.c (.d (.int .i64 5)))]), oM 123 (.ext (.t 122) 0), oM 124 (.ext (.t 122) 1), ⟨none, .store 3 (.t 2) (.t 123), none⟩, ⟨none, .store 2 (.t 3) (.t 124), none⟩] []) .ret) .skip)))) (.seq (.region false [ oM 51 (.mv (.t 0)), oM 52 (.callf 125 [(.t 51)]), oM 9 (.mv (.t 52))] []) (.seq (.seq (.region false [ oM 53 (.mv (.t 9)), oM 54 (.bin .eql (.t 53) (.c (.d (.str []))))] []) (.cond (.t 54) (.seq (.region false [ oM 55 (.mv (.t 0)), oM 56 (.callf 124 [(.t 55), (.c (.d (.int .i64 4)))]), oM 57 (.ext (.t 56) 0), oM 58 (.ext (.t 56) 1), ⟨none, .store 3 (.t 2) (.t 57), none⟩, ⟨none, .store 2 (.t 3) (.t 58), none⟩] []) .ret) .skip)) (.region true [ oM 59 (.mv (.t 0)), oM 60 (.nilck (.t 59)), oM 61 (.faddr (.t 60) 1), oM 62 (.load none (.t 61)), oM 63 (.mv (.t 9)), oM 64 (.lens (.t 63)), oM 65 (.bin .add (.t 62) (.t 64)), oM 66 (.faddr (.t 5) 0), ⟨none, .store 1 (.t 66) (.c (.d (.int .i64 3))), none⟩, oM 6 (.mv (.t 65))] [0, 1, 2, 4, 0, 16, 40, 0, 128, 511])))))))) (.seq (.region true [ oM 125 (.mv (.t 0)), oM 126 (.mv (.t 0)), oM 127 (.nilck (.t 126)), oM 128 (.faddr (.t 127) 0), oM 129 (.load none (.t 128)), oM 130 (.mv (.t 0)), oM 131 (.nilck (.t 130)), oM 132 (.faddr (.t 131) 1), oM 133 (.load none (.t 132)), oM 134 (.mv (.t 6)), oM 135 (.slcs (.t 129) (some (.t 133)) (some (.t 134))), oM 136 (.mv (.t 6)), oM 137 (.faddr (.t 5) 1), ⟨none, .store 1 (.t 137) (.t 135), none⟩, oM 138 (.nilck (.t 125)), oM 139 (.faddr (.t 138) 1), ⟨none, .store 1 (.t 139) (.t 136), none⟩] [0, 0, 2, 4, 8, 0, 32, 64, 128, 0, 784, 0, 2046, 6142, 16383, 32767, 49151]) (.seq (.region false [ oM 140 (.load (some 3) (.t 5)), oM 141 (.build [.d (.int .i64 0), .d (.int .i64 0)] []), ⟨none, .store 3 (.t 2) (.t 140), none⟩, ⟨none, .store 2 (.t 3) (.t 141), none⟩] []) .ret))))))))))
theorem ac85_ok : Tryz.f85.body.bind (cCode Tryz.prog Tryz.f85.ntmps) = some ac85 := by kernel_rfl
-- 92 jacquard/jacquardref2.Parse
-- 96 jacquard/jacquardref2.Next
-- 97 jacquard/well.big$1
def ac97 : ACode := (.seq (.region false [ oM 2 (.mv (.c (.d (.bool false))))] []) (.seq (.region false [ oM 3 (.mv (.t 0)), oM 4 (.lenl (.t 3)), oM 5 (.bin .gtr (.t 4) (.c (.d (.int .i64 8)))), oM 2 (.mv (.t 5))] []) .ret))
theorem ac97_ok : Tryz.f97.body.bind (cCode Tryz.prog Tryz.f97.ntmps) = some ac97 := by kernel_rfl
-- 98 slices.ContainsFunc[[][]jacquard/api.Atom,[]jacquard/api.Atom]
def ac98 : ACode := (.seq (.region false [ oM 4 (.mv (.c (.d (.bool false))))] []) (.seq (.region false [ oM 5 (.mv (.t 0)), oM 6 (.mv (.t 1)), oM 7 (.callf 131 [(.t 5), (.t 6)]), oM 8 (.bin .geq (.t 7) (.c (.d (.int .i64 0)))), oM 4 (.mv (.t 8))] []) .ret))
theorem ac98_ok : Tryz.f98.body.bind (cCode Tryz.prog Tryz.f98.ntmps) = some ac98 := by kernel_rfl
-- 99 slices.IndexFunc[[][]jacquard/api.Ins,[]jacquard/api.Ins]
def ac99L0 : ACode := (.seq (.region false [ oM 9 (.bin .lss (.t 8) (.t 7))] []) (.seq (.cond (.t 9) .skip (.exit 0)) (.seq (.block 1 (.seq (.region false [ oM 10 (.mv (.t 8)), oM 5 (.mv (.t 10))] []) (.seq (.region false [ oM 11 (.mv (.t 1)), oM 12 (.mv (.t 0)), oM 13 (.mv (.t 5)), oM 14 (.iaddr 1 none (.t 12) (.t 13)), oM 15 (.load none (.t 14)), oM 16 (.callv (.t 11) [(.t 15)])] []) (.cond (.t 16) (.seq (.region false [ oM 17 (.mv (.t 5)), oM 4 (.mv (.t 17))] []) .ret) .skip)))) (.region false [ oM 18 (.bin .add (.t 8) (.c (.d (.int .i64 1)))), oM 8 (.mv (.t 18))] []))))
def ac99 : ACode := (.seq (.region false [ oM 4 (.mv (.c (.d (.int .i64 0))))] []) (.seq (.seq (.region false [ oM 6 (.mv (.t 0)), oM 7 (.lenl (.t 6)), oM 8 (.mv (.c (.d (.int .i64 0))))] []) (.block 0 (.loop ac99L0))) (.seq (.region false [ oM 4 (.mv (.c (.d (.int .i64 (-1)))))] []) .ret)))
theorem ac99_ok : Tryz.f99.body.bind (cCode Tryz.prog Tryz.f99.ntmps) = some ac99 := by kernel_rfl
-- 100 slices.IndexFunc[[]jacquard/api.Atom,jacquard/api.Atom]
def ac100L0 : ACode := (.seq (.region false [ oM 9 (.bin .lss (.t 8) (.t 7))] []) (.seq (.cond (.t 9) .skip (.exit 0)) (.seq (.block 1 (.seq (.region false [ oM 10 (.mv (.t 8)), oM 5 (.mv (.t 10))] []) (.seq (.region false [ oM 11 (.mv (.t 1)), oM 12 (.mv (.t 0)), oM 13 (.mv (.t 5)), oM 14 (.iaddr 4 none (.t 12) (.t 13)), oM 15 (.load (some 4) (.t 14)), oM 16 (.callv (.t 11) [(.t 15)])] []) (.cond (.t 16) (.seq (.region false [ oM 17 (.mv (.t 5)), oM 4 (.mv (.t 17))] []) .ret) .skip)))) (.region false [ oM 18 (.bin .add (.t 8) (.c (.d (.int .i64 1)))), oM 8 (.mv (.t 18))] []))))
def ac100 : ACode := (.seq (.region false [ oM 4 (.mv (.c (.d (.int .i64 0))))] []) (.seq (.seq (.region false [ oM 6 (.mv (.t 0)), oM 7 (.lenl (.t 6)), oM 8 (.mv (.c (.d (.int .i64 0))))] []) (.block 0 (.loop ac100L0))) (.seq (.region false [ oM 4 (.mv (.c (.d (.int .i64 (-1)))))] []) .ret)))
theorem ac100_ok : Tryz.f100.body.bind (cCode Tryz.prog Tryz.f100.ntmps) = some ac100 := by kernel_rfl
-- 101 jacquard/well.letters
def ac101L0 : ACode := (.seq (.region false [ oM 20 (.bin .lss (.t 19) (.t 18))] []) (.seq (.cond (.t 20) .skip (.exit 0)) (.seq (.block 1 (.seq (.region false [ oM 21 (.iaddr 2 none (.t 17) (.t 19)), oM 22 (.load (some 2) (.t 21)), oM 6 (.alloc [.d (.int .i64 0), .d (.int .i64 0)]), ⟨none, .store 2 (.t 6) (.t 22), none⟩] []) (.region false [ oM 23 (.mv (.t 4)), oM 24 (.faddr (.t 6) 0), oM 25 (.load none (.t 24)), oM 26 (.callv (.t 23) [(.t 25)])] []))) (.region false [ oM 27 (.bin .add (.t 19) (.c (.d (.int .i64 1)))), oM 19 (.mv (.t 27))] []))))
def ac101L1 : ACode := (.seq (.region false [ oM 38 (.bin .lss (.t 37) (.t 36))] []) (.seq (.cond (.t 38) .skip (.exit 4)) (.seq (.block 5 (.seq (.region false [ oM 39 (.iaddr 9 none (.t 35) (.t 37)), oM 40 (.load (some 9) (.t 39)), oM 10 (.alloc [.d (.int .i64 0), .d (.int .i64 0), .d (.int .i64 0), .d (.int .i64 0), .d (.int .i64 0), .d (.int .i64 0), .d (.int .i64 0), .d (.int .i64 0), .d (.int .i64 0)]), ⟨none, .store 9 (.t 10) (.t 40), none⟩] []) (.region false [ oM 41 (.mv (.t 4)), oM 42 (.faddr (.t 10) 2), oM 43 (.load none (.t 42)), oM 44 (.callv (.t 41) [(.t 43)])] []))) (.region false [ oM 45 (.bin .add (.t 37) (.c (.d (.int .i64 1)))), oM 37 (.mv (.t 45))] []))))
def ac101L2 : ACode := (.seq (.region false [ oM 32 (.bin .lss (.t 31) (.t 30))] []) (.seq (.cond (.t 32) .skip (.exit 2)) (.seq (.block 3 (.seq (.region false [ oM 33 (.iaddr 1 none (.t 29) (.t 31)), oM 34 (.load none (.t 33)), oM 8 (.mv (.t 34))] []) (.seq (.region false [ oM 35 (.mv (.t 8)), oM 36 (.lenl (.t 35)), oM 37 (.mv (.c (.d (.int .i64 0))))] []) (.block 4 (.loop ac101L1))))) (.region false [ oM 46 (.bin .add (.t 31) (.c (.d (.int .i64 1)))), oM 31 (.mv (.t 46))] []))))
def ac101L3 : ACode := (.seq (.region false [ oM 58 (.bin .lss (.t 57) (.t 56))] []) (.seq (.cond (.t 58) .skip (.exit 8)) (.seq (.block 9 (.seq (.region false [ oM 59 (.iaddr 4 none (.t 55) (.t 57)), oM 60 (.load (some 4) (.t 59)), oM 14 (.alloc [.d (.int .i64 0), .d (.int .i64 0), .d (.int .i64 0), .d (.int .i64 0)]), ⟨none, .store 4 (.t 14) (.t 60), none⟩] []) (.region false [ oM 61 (.mv (.t 4)), oM 62 (.faddr (.t 14) 2), oM 63 (.load none (.t 62)), oM 64 (.callv (.t 61) [(.t 63)])] []))) (.region false [ oM 65 (.bin .add (.t 57) (.c (.d (.int .i64 1)))), oM 57 (.mv (.t 65))] []))))
def ac101L4 : ACode := (.seq (.region false [ oM 52 (.bin .lss (.t 51) (.t 50))] []) (.seq (.cond (.t 52) .skip (.exit 6)) (.seq (.block 7 (.seq (.region false [ oM 53 (.iaddr 1 none (.t 49) (.t 51)), oM 54 (.load none (.t 53)), oM 12 (.mv (.t 54))] []) (.seq (.region false [ oM 55 (.mv (.t 12)), oM 56 (.lenl (.t 55)), oM 57 (.mv (.c (.d (.int .i64 0))))] []) (.block 8 (.loop ac101L3))))) (.region false [ oM 66 (.bin .add (.t 51) (.c (.d (.int .i64 1)))), oM 51 (.mv (.t 66))] []))))
def ac101 : ACode := (.seq (.region false [ oM 1 (.box (.t 0)), oM 2 (.mv (.c (.d (.int .u64 0))))] []) (.seq (.region false [ oM 3 (.alloc [.d (.int .u64 0)])] []) (.seq (.region false [ oM 15 (.mkfn 132 [(.t 3)]), oM 4 (.mv (.t 15))] []) (.seq (.seq (.region false [ oM 16 (.faddr (.t 1) 1), oM 17 (.load none (.t 16)), oM 18 (.lenl (.t 17)), oM 19 (.mv (.c (.d (.int .i64 0))))] []) (.block 0 (.loop ac101L0))) (.seq (.seq (.region false [ oM 28 (.faddr (.t 1) 2), oM 29 (.load none (.t 28)), oM 30 (.lenl (.t 29)), oM 31 (.mv (.c (.d (.int .i64 0))))] []) (.block 2 (.loop ac101L2))) (.seq (.seq (.region false [ oM 47 (.faddr (.t 1) 3), oM 48 (.faddr (.t 47) 1), oM 49 (.load none (.t 48)), oM 50 (.lenl (.t 49)), oM 51 (.mv (.c (.d (.int .i64 0))))] []) (.block 6 (.loop ac101L4))) (.seq (.region false [ oM 67 (.load none (.t 3)), oM 2 (.mv (.t 67))] []) .ret)))))))
theorem ac101_ok : Tryz.f101.body.bind (cCode Tryz.prog Tryz.f101.ntmps) = some ac101 := by kernel_rfl
-- 102 jacquard/print.operand
-- 103 jacquard/print.reg
-- 104 jacquard/num.Sign
-- 108 slices.IndexFunc[[]jacquard/api.Ins,jacquard/api.Ins]
def ac108L0 : ACode := (.seq (.region false [ oM 9 (.bin .lss (.t 8) (.t 7))] []) (.seq (.cond (.t 9) .skip (.exit 0)) (.seq (.block 1 (.seq (.region false [ oM 10 (.mv (.t 8)), oM 5 (.mv (.t 10))] []) (.seq (.region false [ oM 11 (.mv (.t 1)), oM 12 (.mv (.t 0)), oM 13 (.mv (.t 5)), oM 14 (.iaddr 9 none (.t 12) (.t 13)), oM 15 (.load (some 9) (.t 14)), oM 16 (.callv (.t 11) [(.t 15)])] []) (.cond (.t 16) (.seq (.region false [ oM 17 (.mv (.t 5)), oM 4 (.mv (.t 17))] []) .ret) .skip)))) (.region false [ oM 18 (.bin .add (.t 8) (.c (.d (.int .i64 1)))), oM 8 (.mv (.t 18))] []))))
def ac108 : ACode := (.seq (.region false [ oM 4 (.mv (.c (.d (.int .i64 0))))] []) (.seq (.seq (.region false [ oM 6 (.mv (.t 0)), oM 7 (.lenl (.t 6)), oM 8 (.mv (.c (.d (.int .i64 0))))] []) (.block 0 (.loop ac108L0))) (.seq (.region false [ oM 4 (.mv (.c (.d (.int .i64 (-1)))))] []) .ret)))
theorem ac108_ok : Tryz.f108.body.bind (cCode Tryz.prog Tryz.f108.ntmps) = some ac108 := by kernel_rfl
-- 109 jacquard/print.Fields
def ac109 : ACode := (.seq (.region false [ oM 2 (.box (.t 0)), oM 4 (.mv (.c (.d (.bool false))))] []) (.seq (.region false [ oM 7 (.faddr (.t 2) 0), oM 8 (.load none (.t 7)), oM 9 (.build [.d (.int .i64 0), .d (.int .i64 0), .d (.int .i64 0), .d (.int .i64 0), .d (.int .i64 0), .d (.int .i64 0), .d (.int .i64 0), .d (.int .i64 0), .d (.int .i64 0)] [(0, 1, (.t 8))]), oM 5 (.alloc [.d (.int .i64 0), .d (.int .i64 0), .d (.int .i64 0), .d (.int .i64 0), .d (.int .i64 0), .d (.int .i64 0), .d (.int .i64 0), .d (.int .i64 0), .d (.int .i64 0)]), ⟨none, .store 9 (.t 5) (.t 9), none⟩] []) (.seq (.region false [ oM 6 (.mv (.c (.d (.bool true))))] []) (.seq (.seq (.region false [ oM 10 (.faddr (.t 2) 0), oM 11 (.load none (.t 10))] []) (.block 0 (.seq (.region false [ oM 13 (.bin .eql (.t 11) (.c (.d (.int .i64 1)))), oM 12 (.mv (.t 13))] []) (.cond (.t 12) (.seq (.region true [ oM 14 (.faddr (.t 2) 2), oM 15 (.load none (.t 14)), oM 16 (.faddr (.t 2) 3), oM 17 (.load (some 2) (.t 16)), oM 18 (.faddr (.t 5) 2), ⟨none, .store 1 (.t 18) (.t 15), none⟩, oM 19 (.faddr (.t 5) 3), ⟨none, .store 2 (.t 19) (.t 17), none⟩] [0, 1, 0, 4, 3, 19, 63, 127]) (.region false [ oM 20 (.mv (.t 1)), oM 21 (.faddr (.t 2) 2), oM 22 (.load none (.t 21)), oM 23 (.callv (.t 20) [(.t 22)]), oM 24 (.mv (.t 23)), oG 25 (.faddr (.t 2) 3) 24 true, oG 26 (.load (some 2) (.t 25)) 24 true, oG 27 (.callf 137 [(.t 26)]) 24 true, oM 28 (.pick (.t 24) (.t 27) (.c (.d (.bool false)))), oM 6 (.mv (.t 28))] [])) (.seq (.region false [ oM 30 (.bin .eql (.t 11) (.c (.d (.int .i64 2)))), oM 29 (.mv (.t 30))] []) (.cond (.t 29) (.seq (.region true [ oM 31 (.faddr (.t 2) 1), oM 32 (.load none (.t 31)), oM 33 (.faddr (.t 2) 2), oM 34 (.load none (.t 33)), oM 35 (.faddr (.t 5) 1), ⟨none, .store 1 (.t 35) (.t 32), none⟩, oM 36 (.faddr (.t 5) 2), ⟨none, .store 1 (.t 36) (.t 34), none⟩] [0, 1, 0, 4, 3, 19, 63, 127]) (.region false [ oM 37 (.mv (.t 1)), oM 38 (.faddr (.t 2) 2), oM 39 (.load none (.t 38)), oM 40 (.callv (.t 37) [(.t 39)]), oM 41 (.mv (.t 40)), oG 42 (.faddr (.t 2) 1) 41 true, oG 43 (.load none (.t 42)) 41 true, oG 44 (.callf 138 [(.t 43)]) 41 true, oM 45 (.pick (.t 41) (.t 44) (.c (.d (.bool false)))), oM 6 (.mv (.t 45))] [])) (.seq (.region false [ oM 47 (.bin .eql (.t 11) (.c (.d (.int .i64 3)))), oM 46 (.mv (.t 47))] []) (.cond (.t 46) .skip (.seq (.region false [ oM 49 (.bin .eql (.t 11) (.c (.d (.int .i64 4)))), oM 48 (.mv (.t 49))] []) (.cond (.t 48) (.seq (.region true [ oM 50 (.faddr (.t 2) 1), oM 51 (.load none (.t 50)), oM 52 (.faddr (.t 2) 2), oM 53 (.load none (.t 52)), oM 54 (.faddr (.t 2) 3), oM 55 (.load (some 2) (.t 54)), oM 56 (.faddr (.t 2) 6), oM 57 (.load (some 2) (.t 56)), oM 58 (.faddr (.t 5) 1), ⟨none, .store 1 (.t 58) (.t 51), none⟩, oM 59 (.faddr (.t 5) 2), ⟨none, .store 1 (.t 59) (.t 53), none⟩, oM 60 (.faddr (.t 5) 3), ⟨none, .store 2 (.t 60) (.t 55), none⟩, oM 61 (.faddr (.t 5) 6), ⟨none, .store 2 (.t 61) (.t 57), none⟩] [0, 1, 0, 4, 0, 16, 0, 64, 3, 259, 783, 1807, 3903, 7999, 16383, 32767]) (.region false [ oM 62 (.mv (.t 1)), oM 63 (.faddr (.t 2) 2), oM 64 (.load none (.t 63)), oM 65 (.callv (.t 62) [(.t 64)]), oM 66 (.mv (.t 65)), oG 67 (.faddr (.t 2) 1) 66 true, oG 68 (.load none (.t 67)) 66 true, oG 69 (.callf 138 [(.t 68)]) 66 true, oM 70 (.pick (.t 66) (.t 69) (.c (.d (.bool false)))), oM 71 (.mv (.t 70)), oG 72 (.faddr (.t 2) 3) 71 true, oG 73 (.load (some 2) (.t 72)) 71 true, oG 74 (.callf 137 [(.t 73)]) 71 true, oM 75 (.pick (.t 71) (.t 74) (.c (.d (.bool false)))), oM 76 (.mv (.t 75)), oG 77 (.faddr (.t 2) 6) 76 true, oG 78 (.load (some 2) (.t 77)) 76 true, oG 79 (.callf 137 [(.t 78)]) 76 true, oM 80 (.pick (.t 76) (.t 79) (.c (.d (.bool false)))), oM 6 (.mv (.t 80))] [])) (.seq (.region false [ oM 82 (.bin .eql (.t 11) (.c (.d (.int .i64 5)))), oM 81 (.mv (.t 82))] []) (.cond (.t 81) (.seq (.region true [ oM 83 (.faddr (.t 2) 1), oM 84 (.load none (.t 83)), oM 85 (.faddr (.t 2) 3), oM 86 (.load (some 2) (.t 85)), oM 87 (.faddr (.t 2) 5), oM 88 (.load none (.t 87)), oM 89 (.faddr (.t 2) 6), oM 90 (.load (some 2) (.t 89)), oM 91 (.faddr (.t 5) 1), ⟨none, .store 1 (.t 91) (.t 84), none⟩, oM 92 (.faddr (.t 5) 3), ⟨none, .store 2 (.t 92) (.t 86), none⟩, oM 93 (.faddr (.t 5) 5), ⟨none, .store 1 (.t 93) (.t 88), none⟩, oM 94 (.faddr (.t 5) 6), ⟨none, .store 2 (.t 94) (.t 90), none⟩] [0, 1, 0, 4, 0, 16, 0, 64, 3, 259, 783, 1807, 3903, 7999, 16383, 32767]) (.region false [ oM 95 (.faddr (.t 2) 1), oM 96 (.load none (.t 95)), oM 97 (.callf 138 [(.t 96)]), oM 98 (.mv (.t 97)), oG 99 (.faddr (.t 2) 3) 98 true, oG 100 (.load (some 2) (.t 99)) 98 true, oG 101 (.callf 137 [(.t 100)]) 98 true, oM 102 (.pick (.t 98) (.t 101) (.c (.d (.bool false)))), oM 103 (.mv (.t 102)), oG 104 (.faddr (.t 2) 6) 103 true, oG 105 (.load (some 2) (.t 104)) 103 true, oG 106 (.callf 137 [(.t 105)]) 103 true, oM 107 (.pick (.t 103) (.t 106) (.c (.d (.bool false)))), oM 108 (.mv (.t 107)), oG 109 (.faddr (.t 2) 5) 108 true, oG 110 (.load none (.t 109)) 108 true, oG 111 (.bin .geq (.t 110) (.c (.d (.int .i64 0)))) 108 true, oM 112 (.pick (.t 108) (.t 111) (.c (.d (.bool false)))), oM 113 (.mv (.t 112)), oG 114 (.faddr (.t 2) 5) 113 true, oG 115 (.load none (.t 114)) 113 true, oG 116 (.bin .leq (.t 115) (.c (.d (.int .i64 11)))) 113 true, oM 117 (.pick (.t 113) (.t 116) (.c (.d (.bool false)))), oM 118 (.mv (.t 117)), oG 119 (.faddr (.t 2) 5) 118 true, oG 120 (.load none (.t 119)) 118 true, oG 121 (.bin .gtr (.t 120) (.c (.d (.int .i64 0)))) 118 true, oG 122 (.mv (.t 121)) 118 true, oG 123 (.faddr (.t 2) 6) 122 false, oG 124 (.load (some 2) (.t 123)) 122 false, oG 125 (.build [.d (.int .i64 0), .d (.int .i64 0)] [(0, 1, (.c (.d (.int .i64 (-1)))))]) 122 false, oG 126 (.eqs [0, 0] false (.t 124) (.t 125)) 122 false, oG 127 (.pick (.t 122) (.c (.d (.bool true))) (.t 126)) 118 true, oM 128 (.pick (.t 118) (.t 127) (.c (.d (.bool false)))), oM 6 (.mv (.t 128))] [])) (.seq (.region false [ oM 130 (.bin .eql (.t 11) (.c (.d (.int .i64 6)))), oM 129 (.mv (.t 130))] []) (.cond (.t 129) (.seq (.region true [ oM 131 (.faddr (.t 2) 8), oM 132 (.load none (.t 131)), oM 133 (.faddr (.t 2) 3), oM 134 (.load (some 2) (.t 133)), oM 135 (.faddr (.t 2) 6), oM 136 (.load (some 2) (.t 135)), oM 137 (.faddr (.t 5) 8), ⟨none, .store 1 (.t 137) (.t 132), none⟩, oM 138 (.faddr (.t 5) 3), ⟨none, .store 2 (.t 138) (.t 134), none⟩, oM 139 (.faddr (.t 5) 6), ⟨none, .store 2 (.t 139) (.t 136), none⟩] [0, 1, 0, 4, 0, 16, 3, 67, 207, 463, 1023, 2047]) (.region false [ oM 140 (.faddr (.t 2) 8), oM 141 (.load none (.t 140)), oM 142 (.bin .geq (.t 141) (.c (.d (.int .i64 0)))), oM 143 (.mv (.t 142)), oG 144 (.faddr (.t 2) 3) 143 true, oG 145 (.load (some 2) (.t 144)) 143 true, oG 146 (.callf 137 [(.t 145)]) 143 true, oM 147 (.pick (.t 143) (.t 146) (.c (.d (.bool false)))), oM 148 (.mv (.t 147)), oG 149 (.faddr (.t 2) 6) 148 true, oG 150 (.load (some 2) (.t 149)) 148 true, oG 151 (.callf 137 [(.t 150)]) 148 true, oM 152 (.pick (.t 148) (.t 151) (.c (.d (.bool false)))), oM 6 (.mv (.t 152))] [])) (.seq (.region false [ oM 4 (.mv (.c (.d (.bool false))))] []) .ret))))))))))))))) (.seq (.region false [ oM 153 (.mv (.t 6)), oM 154 (.mv (.t 153)), oG 155 (.load (some 9) (.t 2)) 154 true, oG 156 (.load (some 9) (.t 5)) 154 true, oG 157 (.eqs [0, 0, 0, 0, 0, 0, 0, 0, 0] false (.t 155) (.t 156)) 154 true, oM 158 (.pick (.t 154) (.t 157) (.c (.d (.bool false)))), oM 4 (.mv (.t 158))] []) .ret)))))
theorem ac109_ok : Tryz.f109.body.bind (cCode Tryz.prog Tryz.f109.ntmps) = some ac109 := by kernel_rfl
-- 110 slices.IndexFunc[[]jacquard/api.Init,jacquard/api.Init]
def ac110L0 : ACode := (.seq (.region false [ oM 9 (.bin .lss (.t 8) (.t 7))] []) (.seq (.cond (.t 9) .skip (.exit 0)) (.seq (.block 1 (.seq (.region false [ oM 10 (.mv (.t 8)), oM 5 (.mv (.t 10))] []) (.seq (.region false [ oM 11 (.mv (.t 1)), oM 12 (.mv (.t 0)), oM 13 (.mv (.t 5)), oM 14 (.iaddr 2 none (.t 12) (.t 13)), oM 15 (.load (some 2) (.t 14)), oM 16 (.callv (.t 11) [(.t 15)])] []) (.cond (.t 16) (.seq (.region false [ oM 17 (.mv (.t 5)), oM 4 (.mv (.t 17))] []) .ret) .skip)))) (.region false [ oM 18 (.bin .add (.t 8) (.c (.d (.int .i64 1)))), oM 8 (.mv (.t 18))] []))))
def ac110 : ACode := (.seq (.region false [ oM 4 (.mv (.c (.d (.int .i64 0))))] []) (.seq (.seq (.region false [ oM 6 (.mv (.t 0)), oM 7 (.lenl (.t 6)), oM 8 (.mv (.c (.d (.int .i64 0))))] []) (.block 0 (.loop ac110L0))) (.seq (.region false [ oM 4 (.mv (.c (.d (.int .i64 (-1)))))] []) .ret)))
theorem ac110_ok : Tryz.f110.body.bind (cCode Tryz.prog Tryz.f110.ntmps) = some ac110 := by kernel_rfl
-- 111 jacquard/print.okCond$1
def ac111 : ACode := (.seq (.region false [ oM 2 (.mv (.c (.d (.bool false))))] []) (.seq (.region false [ oM 3 (.mv (.t 0)), oM 4 (.lenl (.t 3)), oM 5 (.bin .eql (.t 4) (.c (.d (.int .i64 0)))), oM 6 (.mv (.t 5)), oG 7 (.mv (.t 0)) 6 false, oG 8 (.callf 54 [(.t 7), (.c (.fn 112 []))]) 6 false, oM 9 (.pick (.t 6) (.c (.d (.bool true))) (.t 8)), oM 2 (.mv (.t 9))] []) .ret))
theorem ac111_ok : Tryz.f111.body.bind (cCode Tryz.prog Tryz.f111.ntmps) = some ac111 := by kernel_rfl
-- 112 jacquard/print.okCond$1$1
def ac112 : ACode := (.seq (.region false [ oM 1 (.box (.t 0)), oM 2 (.mv (.c (.d (.bool false))))] []) (.seq (.region false [ oM 3 (.load (some 4) (.t 1)), oM 4 (.callf 113 [(.t 3)]), oM 5 (.un .not (.t 4)), oM 2 (.mv (.t 5))] []) .ret))
theorem ac112_ok : Tryz.f112.body.bind (cCode Tryz.prog Tryz.f112.ntmps) = some ac112 := by kernel_rfl
-- 113 jacquard/print.okAtom
def ac113 : ACode := (.seq (.region false [ oM 1 (.box (.t 0)), oM 2 (.mv (.c (.d (.bool false))))] []) (.seq (.seq (.region false [ oM 3 (.faddr (.t 1) 0), oM 4 (.load none (.t 3)), oM 5 (.bin .eql (.t 4) (.c (.d (.int .i64 (-1)))))] []) (.cond (.t 5) (.seq (.region false [ oM 6 (.faddr (.t 1) 1), oM 7 (.load none (.t 6)), oM 8 (.bin .eql (.t 7) (.c (.d (.int .i64 0)))), oM 9 (.mv (.t 8)), oG 10 (.faddr (.t 1) 2) 9 true, oG 11 (.load none (.t 10)) 9 true, oG 12 (.callf 76 [(.t 11)]) 9 true, oM 13 (.pick (.t 9) (.t 12) (.c (.d (.bool false)))), oM 2 (.mv (.t 13))] []) .ret) .skip)) (.seq (.region false [ oM 14 (.faddr (.t 1) 0), oM 15 (.load none (.t 14)), oM 16 (.bin .geq (.t 15) (.c (.d (.int .i64 0)))), oM 17 (.mv (.t 16)), oG 18 (.faddr (.t 1) 0) 17 true, oG 19 (.load none (.t 18)) 17 true, oG 20 (.bin .leq (.t 19) (.c (.d (.int .i64 9)))) 17 true, oM 21 (.pick (.t 17) (.t 20) (.c (.d (.bool false)))), oM 22 (.mv (.t 21)), oG 23 (.faddr (.t 1) 2) 22 true, oG 24 (.load none (.t 23)) 22 true, oG 25 (.bin .eql (.t 24) (.c (.d (.int .i64 0)))) 22 true, oM 26 (.pick (.t 22) (.t 25) (.c (.d (.bool false)))), oM 27 (.mv (.t 26)), oG 28 (.faddr (.t 1) 1) 27 true, oG 29 (.load none (.t 28)) 27 true, oG 30 (.callf 138 [(.t 29)]) 27 true, oM 31 (.pick (.t 27) (.t 30) (.c (.d (.bool false)))), oM 2 (.mv (.t 31))] []) .ret)))
theorem ac113_ok : Tryz.f113.body.bind (cCode Tryz.prog Tryz.f113.ntmps) = some ac113 := by kernel_rfl
-- 114 jacquard/jacquardref2.letter
def ac114 : ACode := (.seq (.region false [ oM 2 (.mv (.c (.d (.bool false))))] []) (.seq (.region false [ oM 3 (.mv (.t 0)), oM 4 (.bin .geq (.t 3) (.c (.d (.int .u8 97)))), oM 5 (.mv (.t 4)), oG 6 (.mv (.t 0)) 5 true, oG 7 (.bin .leq (.t 6) (.c (.d (.int .u8 122)))) 5 true, oM 8 (.pick (.t 5) (.t 7) (.c (.d (.bool false)))), oM 2 (.mv (.t 8))] []) .ret))
theorem ac114_ok : Tryz.f114.body.bind (cCode Tryz.prog Tryz.f114.ntmps) = some ac114 := by kernel_rfl
-- 115 jacquard/jacquardref2.digit
def ac115 : ACode := (.seq (.region false [ oM 2 (.mv (.c (.d (.bool false))))] []) (.seq (.region false [ oM 3 (.mv (.t 0)), oM 4 (.bin .geq (.t 3) (.c (.d (.int .u8 48)))), oM 5 (.mv (.t 4)), oG 6 (.mv (.t 0)) 5 true, oG 7 (.bin .leq (.t 6) (.c (.d (.int .u8 57)))) 5 true, oM 8 (.pick (.t 5) (.t 7) (.c (.d (.bool false)))), oM 2 (.mv (.t 8))] []) .ret))
theorem ac115_ok : Tryz.f115.body.bind (cCode Tryz.prog Tryz.f115.ntmps) = some ac115 := by kernel_rfl
-- 118 (*jacquard/lex.Lexer).skip
def ac118L0 : ACode := (.seq (.seq (.region false [ oM 18 (.mv (.t 0)), oM 19 (.mv (.t 0)), oM 20 (.nilck (.t 19)), oM 21 (.faddr (.t 20) 1), oM 22 (.load none (.t 21)), oM 23 (.callf 119 [(.t 18), (.t 22)]), oM 24 (.mv (.t 23)), oG 25 (.mv (.t 0)) 24 true, oG 26 (.mv (.t 0)) 24 true, oG 27 (.nilck (.t 26)) 24 true, oG 28 (.faddr (.t 27) 1) 24 true, oG 29 (.load none (.t 28)) 24 true, oG 30 (.callf 120 [(.t 25), (.t 29)]) 24 true, oG 31 (.bin .neq (.t 30) (.c (.d (.int .u8 10)))) 24 true, oM 32 (.pick (.t 24) (.t 31) (.c (.d (.bool false))))] []) (.cond (.t 32) .skip (.exit 3))) (.block 4 (.region false [ oM 33 (.mv (.t 0)), oM 34 (.nilck (.t 33)), oM 35 (.faddr (.t 34) 1), oM 36 (.load none (.t 35)), oM 37 (.bin .add (.t 36) (.c (.d (.int .i64 1)))), oM 38 (.nilck (.t 33)), oM 39 (.faddr (.t 38) 1), ⟨none, .store 1 (.t 39) (.t 37), none⟩] [])))
def ac118L1 : ACode := (.seq (.seq (.region false [ oM 3 (.mv (.t 0)), oM 4 (.mv (.t 0)), oM 5 (.nilck (.t 4)), oM 6 (.faddr (.t 5) 1), oM 7 (.load none (.t 6)), oM 8 (.callf 119 [(.t 3), (.t 7)])] []) (.cond (.t 8) .skip (.exit 0))) (.block 1 (.seq (.region false [ oM 9 (.mv (.t 0)), oM 10 (.mv (.t 0)), oM 11 (.nilck (.t 10)), oM 12 (.faddr (.t 11) 1), oM 13 (.load none (.t 12)), oM 14 (.callf 120 [(.t 9), (.t 13)]), oM 2 (.mv (.t 14))] []) (.block 2 (.seq (.region false [ oM 16 (.mv (.t 2)), oM 17 (.bin .eql (.t 16) (.c (.d (.int .u8 35)))), oM 15 (.mv (.t 17))] []) (.cond (.t 15) (.block 3 (.loop ac118L0)) (.seq (.region false [ oM 41 (.mv (.t 2)), oM 42 (.callf 121 [(.t 41)]), oM 43 (.bin .eql (.t 42) (.c (.d (.int .i64 1)))), oM 40 (.mv (.t 43))] []) (.cond (.t 40) (.region false [ oM 44 (.mv (.t 0)), oM 45 (.nilck (.t 44)), oM 46 (.faddr (.t 45) 1), oM 47 (.load none (.t 46)), oM 48 (.bin .add (.t 47) (.c (.d (.int .i64 1)))), oM 49 (.nilck (.t 44)), oM 50 (.faddr (.t 49) 1), ⟨none, .store 1 (.t 50) (.t 48), none⟩] []) .ret))))))))
def ac118 : ACode := (.block 0 (.loop ac118L1))
theorem ac118_ok : Tryz.f118.body.bind (cCode Tryz.prog Tryz.f118.ntmps) = some ac118 := by kernel_rfl
-- 119 (*jacquard/lex.Lexer).has
def ac119 : ACode := (.seq (.region false [ oM 4 (.mv (.c (.d (.bool false))))] []) (.seq (.region false [ oM 5 (.mv (.t 1)), oM 6 (.mv (.t 0)), oM 7 (.nilck (.t 6)), oM 8 (.faddr (.t 7) 0), oM 9 (.load none (.t 8)), oM 10 (.lens (.t 9)), oM 11 (.bin .lss (.t 5) (.t 10)), oM 4 (.mv (.t 11))] []) .ret))
theorem ac119_ok : Tryz.f119.body.bind (cCode Tryz.prog Tryz.f119.ntmps) = some ac119 := by kernel_rfl
-- 120 (*jacquard/lex.Lexer).peek
def ac120 : ACode := (.seq (.region false [ oM 4 (.mv (.c (.d (.int .u8 0))))] []) (.seq (.seq (.region false [ oM 5 (.mv (.t 1)), oM 6 (.mv (.t 0)), oM 7 (.nilck (.t 6)), oM 8 (.faddr (.t 7) 0), oM 9 (.load none (.t 8)), oM 10 (.lens (.t 9)), oM 11 (.bin .geq (.t 5) (.t 10))] []) (.cond (.t 11) (.seq (.region false [ oM 4 (.mv (.c (.d (.int .u8 0))))] []) .ret) .skip)) (.seq (.region false [ oM 12 (.mv (.t 0)), oM 13 (.mv (.t 0)), oM 14 (.nilck (.t 13)), oM 15 (.faddr (.t 14) 2), oM 16 (.load none (.t 15)), oM 17 (.mv (.t 1)), oM 18 (.bin .add (.t 17) (.c (.d (.int .i64 1)))), oM 19 (.maxI (.t 16) (.t 18)), oM 20 (.nilck (.t 12)), oM 21 (.faddr (.t 20) 2), ⟨none, .store 1 (.t 21) (.t 19), none⟩] []) (.seq (.region false [ oM 22 (.mv (.t 0)), oM 23 (.nilck (.t 22)), oM 24 (.faddr (.t 23) 0), oM 25 (.load none (.t 24)), oM 26 (.mv (.t 1)), oM 27 (.idxs (.t 25) (.t 26)), oM 4 (.mv (.t 27))] []) .ret))))
theorem ac120_ok : Tryz.f120.body.bind (cCode Tryz.prog Tryz.f120.ntmps) = some ac120 := by kernel_rfl
-- 121 jacquard/lex.kind
def ac121 : ACode := (.seq (.region false [ oM 2 (.mv (.c (.d (.int .i64 0))))] []) (.seq (.block 0 (.seq (.region false [ oM 4 (.mv (.t 0)), oM 5 (.bin .eql (.t 4) (.c (.d (.int .u8 32)))), oM 6 (.mv (.t 5)), oG 7 (.mv (.t 0)) 6 false, oG 8 (.bin .eql (.t 7) (.c (.d (.int .u8 9)))) 6 false, oM 9 (.pick (.t 6) (.c (.d (.bool true))) (.t 8)), oM 10 (.mv (.t 9)), oG 11 (.mv (.t 0)) 10 false, oG 12 (.bin .eql (.t 11) (.c (.d (.int .u8 10)))) 10 false, oM 13 (.pick (.t 10) (.c (.d (.bool true))) (.t 12)), oM 3 (.mv (.t 13))] []) (.cond (.t 3) (.seq (.region false [ oM 2 (.mv (.c (.d (.int .i64 1))))] []) .ret) (.seq (.region false [ oM 15 (.mv (.t 0)), oM 16 (.bin .geq (.t 15) (.c (.d (.int .u8 97)))), oM 17 (.mv (.t 16)), oG 18 (.mv (.t 0)) 17 true, oG 19 (.bin .leq (.t 18) (.c (.d (.int .u8 122)))) 17 true, oM 20 (.pick (.t 17) (.t 19) (.c (.d (.bool false)))), oM 14 (.mv (.t 20))] []) (.cond (.t 14) (.seq (.region false [ oM 2 (.mv (.c (.d (.int .i64 2))))] []) .ret) (.seq (.region false [ oM 22 (.mv (.t 0)), oM 23 (.bin .geq (.t 22) (.c (.d (.int .u8 48)))), oM 24 (.mv (.t 23)), oG 25 (.mv (.t 0)) 24 true, oG 26 (.bin .leq (.t 25) (.c (.d (.int .u8 57)))) 24 true, oM 27 (.pick (.t 24) (.t 26) (.c (.d (.bool false)))), oM 21 (.mv (.t 27))] []) (.cond (.t 21) (.seq (.region false [ oM 2 (.mv (.c (.d (.int .i64 3))))] []) .ret) .skip))))))) (.seq (.region false [ oM 2 (.mv (.c (.d (.int .i64 0))))] []) .ret)))
theorem ac121_ok : Tryz.f121.body.bind (cCode Tryz.prog Tryz.f121.ntmps) = some ac121 := by kernel_rfl
-- 122 (*jacquard/lex.Lexer).run
def ac122L0 : ACode := (.seq (.seq (.region false [ oM 5 (.mv (.t 0)), oM 6 (.mv (.t 1)), oM 7 (.callf 119 [(.t 5), (.t 6)]), oM 8 (.mv (.t 7)), oG 9 (.mv (.t 0)) 8 true, oG 10 (.mv (.t 1)) 8 true, oG 11 (.callf 120 [(.t 9), (.t 10)]) 8 true, oG 12 (.callf 121 [(.t 11)]) 8 true, oG 13 (.bin .geq (.t 12) (.c (.d (.int .i64 2)))) 8 true, oM 14 (.pick (.t 8) (.t 13) (.c (.d (.bool false))))] []) (.cond (.t 14) .skip (.exit 0))) (.block 1 (.region false [ oM 15 (.mv (.t 1)), oM 16 (.bin .add (.t 15) (.c (.d (.int .i64 1)))), oM 1 (.mv (.t 16))] [])))
def ac122 : ACode := (.seq (.region false [ oM 4 (.mv (.c (.d (.int .i64 0))))] []) (.seq (.block 0 (.loop ac122L0)) (.seq (.region false [ oM 17 (.mv (.t 1)), oM 4 (.mv (.t 17))] []) .ret)))
theorem ac122_ok : Tryz.f122.body.bind (cCode Tryz.prog Tryz.f122.ntmps) = some ac122 := by kernel_rfl
-- 124 (*jacquard/lex.Lexer).fail
def ac124 : ACode := (.seq (.region false [ oM 4 (.alloc [.d (.int .i64 0), .d (.str []), .d (.int .i64 0)]), oM 5 (.alloc [.d (.int .i64 0), .d (.int .i64 0)])] []) (.seq (.region false [ oM 6 (.mv (.t 0)), oM 7 (.mv (.t 1)), oM 8 (.mv (.t 0)), oM 9 (.nilck (.t 8)), oM 10 (.faddr (.t 9) 1), oM 11 (.load none (.t 10)), oM 12 (.build [.d (.int .i64 0), .d (.int .i64 0)] [(0, 1, (.t 7)), (1, 1, (.t 11))]), oM 13 (.nilck (.t 6)), oM 14 (.faddr (.t 13) 3), ⟨none, .store 2 (.t 14) (.t 12), none⟩] []) (.seq (.region true [ oM 15 (.build [.d (.int .i64 0), .d (.str []), .d (.int .i64 0)] []), oM 16 (.mv (.t 0)), oM 17 (.nilck (.t 16)), oM 18 (.faddr (.t 17) 3), oM 19 (.load (some 2) (.t 18)), ⟨none, .store 3 (.t 4) (.t 15), none⟩, ⟨none, .store 2 (.t 5) (.t 19), none⟩] [0, 0, 2, 4, 8, 1, 63]) .ret)))
theorem ac124_ok : Tryz.f124.body.bind (cCode Tryz.prog Tryz.f124.ntmps) = some ac124 := by kernel_rfl
-- 125 (*jacquard/lex.Lexer).sign
def ac125 : ACode := (.seq (.region false [ oM 2 (.mv (.c (.d (.str []))))] []) (.seq (.region false [ oM 6 (.mv (.t 0)), oM 7 (.mv (.t 0)), oM 8 (.nilck (.t 7)), oM 9 (.faddr (.t 8) 1), oM 10 (.load none (.t 9)), oM 11 (.callf 120 [(.t 6), (.t 10)]), oM 3 (.mv (.t 11))] []) (.seq (.seq (.region false [ oM 12 (.mv (.t 3))] []) (.block 0 (.seq (.seq (.region false [ oM 14 (.bin .eql (.t 12) (.c (.d (.int .u8 60)))), oM 13 (.mv (.t 14))] []) (.cond (.t 13) .skip (.seq (.region false [ oM 15 (.bin .eql (.t 12) (.c (.d (.int .u8 62)))), oM 13 (.mv (.t 15))] []) (.cond (.t 13) .skip (.seq (.region false [ oM 16 (.bin .eql (.t 12) (.c (.d (.int .u8 61)))), oM 13 (.mv (.t 16))] []) (.cond (.t 13) .skip (.region false [ oM 17 (.bin .eql (.t 12) (.c (.d (.int .u8 33)))), oM 13 (.mv (.t 17))] []))))))) (.cond (.t 13) (.seq (.region false [ oM 18 (.mv (.t 0)), oM 19 (.mv (.t 0)), oM 20 (.nilck (.t 19)), oM 21 (.faddr (.t 20) 1), oM 22 (.load none (.t 21)), oM 23 (.bin .add (.t 22) (.c (.d (.int .i64 1)))), oM 24 (.callf 120 [(.t 18), (.t 23)]), oM 4 (.mv (.t 24))] []) (.seq (.region false [ oM 25 (.mv (.t 3)), oM 26 (.bin .eql (.t 25) (.c (.d (.int .u8 60)))), oM 27 (.mv (.t 26)), oG 28 (.mv (.t 4)) 27 true, oG 29 (.bin .eql (.t 28) (.c (.d (.int .u8 60)))) 27 true, oM 30 (.pick (.t 27) (.t 29) (.c (.d (.bool false)))), oM 31 (.mv (.t 30)), oG 32 (.mv (.t 3)) 31 false, oG 33 (.bin .eql (.t 32) (.c (.d (.int .u8 62)))) 31 false, oG 34 (.mv (.t 33)) 31 false, oG 35 (.mv (.t 4)) 34 true, oG 36 (.bin .eql (.t 35) (.c (.d (.int .u8 62)))) 34 true, oG 37 (.pick (.t 34) (.t 36) (.c (.d (.bool false)))) 31 false, oM 38 (.pick (.t 31) (.c (.d (.bool true))) (.t 37)), oM 39 (.mv (.t 38)), oG 40 (.mv (.t 3)) 39 false, oG 41 (.bin .eql (.t 40) (.c (.d (.int .u8 61)))) 39 false, oG 42 (.mv (.t 41)) 39 false, oG 43 (.mv (.t 3)) 42 false, oG 44 (.bin .eql (.t 43) (.c (.d (.int .u8 33)))) 42 false, oG 45 (.pick (.t 42) (.c (.d (.bool true))) (.t 44)) 39 false, oG 46 (.mv (.t 45)) 39 false, oG 47 (.mv (.t 4)) 46 true, oG 48 (.bin .eql (.t 47) (.c (.d (.int .u8 61)))) 46 true, oG 49 (.pick (.t 46) (.t 48) (.c (.d (.bool false)))) 39 false, oM 50 (.pick (.t 39) (.c (.d (.bool true))) (.t 49)), oM 5 (.mv (.t 50))] []) (.seq (.block 1 (.seq (.region false [ oM 52 (.mv (.t 5)), oM 51 (.mv (.t 52))] []) (.cond (.t 51) (.seq (.region true [ oM 53 (.mv (.t 0)), oM 54 (.nilck (.t 53)), oM 55 (.faddr (.t 54) 0), oM 56 (.load none (.t 55)), oM 57 (.mv (.t 0)), oM 58 (.nilck (.t 57)), oM 59 (.faddr (.t 58) 1), oM 60 (.load none (.t 59)), oM 61 (.mv (.t 0)), oM 62 (.nilck (.t 61)), oM 63 (.faddr (.t 62) 1), oM 64 (.load none (.t 63)), oM 65 (.bin .add (.t 64) (.c (.d (.int .i64 2)))), oM 66 (.slcs (.t 56) (some (.t 60)) (some (.t 65))), oM 2 (.mv (.t 66))] [0, 1, 2, 4, 0, 16, 32, 64, 0, 256, 512, 1024, 2048, 4232, 16383]) .ret) (.seq (.region false [ oM 68 (.mv (.t 3)), oM 69 (.bin .eql (.t 68) (.c (.d (.int .u8 62)))), oM 70 (.mv (.t 69)), oG 71 (.mv (.t 3)) 70 false, oG 72 (.bin .eql (.t 71) (.c (.d (.int .u8 33)))) 70 false, oM 73 (.pick (.t 70) (.c (.d (.bool true))) (.t 72)), oM 67 (.mv (.t 73))] []) (.cond (.t 67) (.seq (.region false [ oM 2 (.mv (.c (.d (.str []))))] []) .ret) .skip))))) (.seq (.region false [ oM 74 (.mv (.t 3)), oM 75 (.cvrune (.t 74)), oM 2 (.mv (.t 75))] []) .ret)))) .skip)))) (.seq (.seq (.region false [ oM 76 (.mv (.t 3)), oM 77 (.bin .neq (.t 76) (.c (.d (.int .u8 0)))), oM 78 (.mv (.t 77)), oG 79 (.mv (.t 3)) 78 true, oG 80 (.callf 140 [(.c (.d (.str [123, 125, 59, 58, 43, 45, 42, 38, 124, 94]))), (.t 79)]) 78 true, oG 81 (.bin .geq (.t 80) (.c (.d (.int .i64 0)))) 78 true, oM 82 (.pick (.t 78) (.t 81) (.c (.d (.bool false))))] []) (.cond (.t 82) (.seq (.region false [ oM 83 (.mv (.t 3)), oM 84 (.cvrune (.t 83)), oM 2 (.mv (.t 84))] []) .ret) .skip)) (.seq (.region false [ oM 2 (.mv (.c (.d (.str []))))] []) .ret)))))
theorem ac125_ok : Tryz.f125.body.bind (cCode Tryz.prog Tryz.f125.ntmps) = some ac125 := by kernel_rfl
-- 130 jacquard/jacquardref2.skip
-- 131 slices.IndexFunc[[][]jacquard/api.Atom,[]jacquard/api.Atom]
def ac131L0 : ACode := (.seq (.region false [ oM 9 (.bin .lss (.t 8) (.t 7))] []) (.seq (.cond (.t 9) .skip (.exit 0)) (.seq (.block 1 (.seq (.region false [ oM 10 (.mv (.t 8)), oM 5 (.mv (.t 10))] []) (.seq (.region false [ oM 11 (.mv (.t 1)), oM 12 (.mv (.t 0)), oM 13 (.mv (.t 5)), oM 14 (.iaddr 1 none (.t 12) (.t 13)), oM 15 (.load none (.t 14)), oM 16 (.callv (.t 11) [(.t 15)])] []) (.cond (.t 16) (.seq (.region false [ oM 17 (.mv (.t 5)), oM 4 (.mv (.t 17))] []) .ret) .skip)))) (.region false [ oM 18 (.bin .add (.t 8) (.c (.d (.int .i64 1)))), oM 8 (.mv (.t 18))] []))))
def ac131 : ACode := (.seq (.region false [ oM 4 (.mv (.c (.d (.int .i64 0))))] []) (.seq (.seq (.region false [ oM 6 (.mv (.t 0)), oM 7 (.lenl (.t 6)), oM 8 (.mv (.c (.d (.int .i64 0))))] []) (.block 0 (.loop ac131L0))) (.seq (.region false [ oM 4 (.mv (.c (.d (.int .i64 (-1)))))] []) .ret)))
theorem ac131_ok : Tryz.f131.body.bind (cCode Tryz.prog Tryz.f131.ntmps) = some ac131 := by kernel_rfl
-- 132 jacquard/well.letters$1
def ac132 : ACode := (.seq (.region false [ oM 3 (.mv (.t 0)), oM 4 (.callf 76 [(.t 3)])] []) (.cond (.t 4) (.region true [ oM 5 (.load none (.t 1)), oM 6 (.mv (.t 0)), oM 7 (.bin .sub (.t 6) (.c (.d (.int .i64 97)))), oM 8 (.bin .shl (.c (.d (.int .u64 1))) (.t 7)), oM 9 (.bin .or (.t 5) (.t 8)), ⟨none, .store 1 (.t 1) (.t 9), none⟩] [0, 0, 2, 4, 9, 31]) .skip))
theorem ac132_ok : Tryz.f132.body.bind (cCode Tryz.prog Tryz.f132.ntmps) = some ac132 := by kernel_rfl
-- 133 jacquard/num.signs
def ac133 : ACode := (.seq (.region false [ oM 0 (.alloc [.d (.str []), .d (.str []), .d (.str []), .d (.str []), .d (.str []), .d (.str []), .d (.str []), .d (.str []), .d (.str []), .d (.str []), .d (.str []), .d (.str [])])] []) (.seq (.region false [ oM 1 (.build [.d (.str []), .d (.str []), .d (.str []), .d (.str []), .d (.str []), .d (.str []), .d (.str []), .d (.str []), .d (.str []), .d (.str []), .d (.str []), .d (.str [])] [(0, 1, (.c (.d (.str [])))), (1, 1, (.c (.d (.str [43])))), (2, 1, (.c (.d (.str [45])))), (3, 1, (.c (.d (.str [42])))), (4, 1, (.c (.d (.str [38])))), (5, 1, (.c (.d (.str [124])))), (6, 1, (.c (.d (.str [94])))), (7, 1, (.c (.d (.str [60, 60])))), (8, 1, (.c (.d (.str [62, 62])))), (9, 1, (.c (.d (.str [61, 61])))), (10, 1, (.c (.d (.str [33, 61])))), (11, 1, (.c (.d (.str [60]))))]), ⟨none, .store 12 (.t 0) (.t 1), none⟩] []) .ret))
theorem ac133_ok : Tryz.f133.body.bind (cCode Tryz.prog Tryz.f133.ntmps) = some ac133 := by kernel_rfl
-- 137 jacquard/print.isOperand
def ac137 : ACode := (.seq (.region false [ oM 1 (.box (.t 0)), oM 2 (.mv (.c (.d (.bool false))))] []) (.seq (.region false [ oM 3 (.faddr (.t 1) 0), oM 4 (.load none (.t 3)), oM 5 (.bin .eql (.t 4) (.c (.d (.int .i64 (-1))))), oM 6 (.mv (.t 5)), oG 7 (.faddr (.t 1) 0) 6 false, oG 8 (.load none (.t 7)) 6 false, oG 9 (.callf 138 [(.t 8)]) 6 false, oG 10 (.mv (.t 9)) 6 false, oG 11 (.faddr (.t 1) 1) 10 true, oG 12 (.load none (.t 11)) 10 true, oG 13 (.bin .eql (.t 12) (.c (.d (.int .i64 0)))) 10 true, oG 14 (.pick (.t 10) (.t 13) (.c (.d (.bool false)))) 6 false, oM 15 (.pick (.t 6) (.c (.d (.bool true))) (.t 14)), oM 2 (.mv (.t 15))] []) .ret))
theorem ac137_ok : Tryz.f137.body.bind (cCode Tryz.prog Tryz.f137.ntmps) = some ac137 := by kernel_rfl
-- 138 jacquard/print.isReg
def ac138 : ACode := (.seq (.region false [ oM 2 (.mv (.c (.d (.bool false))))] []) (.seq (.region false [ oM 3 (.mv (.t 0)), oM 4 (.bin .geq (.t 3) (.c (.d (.int .i64 0)))), oM 5 (.mv (.t 4)), oG 6 (.mv (.t 0)) 5 true, oG 7 (.bin .lss (.t 6) (.c (.d (.int .i64 4)))) 5 true, oM 8 (.pick (.t 5) (.t 7) (.c (.d (.bool false)))), oM 2 (.mv (.t 8))] []) .ret))
theorem ac138_ok : Tryz.f138.body.bind (cCode Tryz.prog Tryz.f138.ntmps) = some ac138 := by kernel_rfl
-- 141 jacquard/num.Op
def ac141L0 : ACode := (.seq (.region false [ oM 8 (.bin .lss (.t 7) (.c (.d (.int .i64 12))))] []) (.seq (.cond (.t 8) .skip (.exit 0)) (.seq (.block 1 (.seq (.region false [ oM 9 (.mv (.t 7)), oM 10 (.idxa 12 1 none (.t 6) (.t 7)), oM 4 (.mv (.t 9)), oM 5 (.mv (.t 10))] []) (.seq (.region false [ oM 11 (.mv (.t 4)), oM 12 (.bin .gtr (.t 11) (.c (.d (.int .i64 0)))), oM 13 (.mv (.t 12)), oG 14 (.mv (.t 5)) 13 true, oG 15 (.mv (.t 0)) 13 true, oG 16 (.bin .eql (.t 14) (.t 15)) 13 true, oM 17 (.pick (.t 13) (.t 16) (.c (.d (.bool false))))] []) (.cond (.t 17) (.seq (.region false [ oM 18 (.mv (.t 4)), oM 2 (.mv (.t 18)), oM 3 (.mv (.c (.d (.bool true))))] []) .ret) .skip)))) (.region false [ oM 19 (.bin .add (.t 7) (.c (.d (.int .i64 1)))), oM 7 (.mv (.t 19))] []))))
def ac141 : ACode := (.seq (.region false [ oM 2 (.mv (.c (.d (.int .i64 0)))), oM 3 (.mv (.c (.d (.bool false))))] []) (.seq (.seq (.region false [ oM 6 (.callf 133 []), oM 7 (.mv (.c (.d (.int .i64 0))))] []) (.block 0 (.loop ac141L0))) (.seq (.region false [ oM 2 (.mv (.c (.d (.int .i64 0)))), oM 3 (.mv (.c (.d (.bool false))))] []) .ret)))
theorem ac141_ok : Tryz.f141.body.bind (cCode Tryz.prog Tryz.f141.ntmps) = some ac141 := by kernel_rfl
end Go.Proofs.YtpfbljkfbjjlkaaGreatDoor

/-
  DERIVED: THE SHELF's CONTRACTS AT THIS DUMP, IN PLAIN WORDS (tools/lay-plain.mjs out of 'TryzShelfk.lean', which tools/lay-shelf.mjs wrote): THE SAME DECLARATIONS UNDER THE SAME NAMES: 'import', 'namespace', 'open', 'def', 'theorem' AND NOTHING ELSE: no command of the shelf's: FOR A HAND-IN. Each laying: the table of numbers ('.._ren') and one theorem, a field a fact of the dump's own or the kernel's comparison; each contract: ONE APPLICATION.
-/
namespace Go.Proofs
open Go.Shelf
def Tryz.lays137_ren : Go.Shelf.Ren := ⟨fun | 137 => 140 | 217 => 149 | 266 => 161 | n => n, fun | 9 => 9 | 5 => 5 | 3 => 3 | n => n, fun | n => n⟩
theorem Tryz.lays137 : Go.Proofs.Lays.n137 Tryz.prog Tryz.lays137_ren := {
  mixed := by kernel_rfl
  f137 := Tryz.func140.trans (congrArg some (by kernel_rfl))
  f217 := Tryz.func149.trans (congrArg some (by kernel_rfl))
  f266 := Tryz.func161.trans (congrArg some (by kernel_rfl))
  t3 := Tryz.underlying3
  a3 := Tryz.isAgg3
  z3 := Tryz.sizeOf3
  v3 := Tryz.zeroValue3
  t5 := Tryz.underlying5
  a5 := Tryz.isAgg5
  z5 := Tryz.sizeOf5
  v5 := Tryz.zeroValue5
  t9 := Tryz.underlying9
  a9 := Tryz.isAgg9
  z9 := Tryz.sizeOf9
  v9 := Tryz.zeroValue9 }
open Go.RowKit in
theorem Tryz.strings_IndexByte (s : ByteArray) (c : Int) (w : World) :
    Calls Tryz.prog 140 #[.string s, .int .u8 c] w fun e w' => e = .returned (.int .i64 (Lib.indexByte s.data.toList c.toNat.toUInt8)) ∧ w' = w := Any.strings_IndexByte Tryz.lays137 s c w
def Tryz.laysM173_ren : Go.Shelf.Ren := ⟨fun | 173 => 107 | 246 => 136 | 283 => 143 | 284 => 144 | 285 => 145 | 286 => 146 | 129 => 152 | 317 => 151 | 318 => 153 | 319 => 154 | 320 => 155 | 337 => 162 | 338 => 163 | n => n, fun | 2 => 2 | 3 => 3 | 9 => 9 | 4 => 4 | 171 => 155 | 0 => 0 | 53 => 109 | 37 => 32 | 5 => 5 | 173 => 158 | 212 => 163 | 51 => 164 | 20 => 20 | 213 => 165 | 46 => 58 | 232 => 179 | 233 => 180 | n => n, fun | 17 => 0 | 18 => 4 | 19 => 5 | n => n⟩
theorem Tryz.laysM173 : Go.Proofs.LaysM.n173 Tryz.prog Tryz.laysM173_ren := {
  mixed := by kernel_rfl
  f129 := Tryz.func152.trans (congrArg some (by kernel_rfl))
  f173 := Tryz.func107.trans (congrArg some (by kernel_rfl))
  f246 := Tryz.func136.trans (congrArg some (by kernel_rfl))
  f283 := Tryz.func143.trans (congrArg some (by kernel_rfl))
  f284 := Tryz.func144.trans (congrArg some (by kernel_rfl))
  f285 := Tryz.func145.trans (congrArg some (by kernel_rfl))
  f286 := Tryz.func146.trans (congrArg some (by kernel_rfl))
  f317 := Tryz.func151.trans (congrArg some (by kernel_rfl))
  f318 := Tryz.func153.trans (congrArg some (by kernel_rfl))
  f319 := Tryz.func154.trans (congrArg some (by kernel_rfl))
  f320 := Tryz.func155.trans (congrArg some (by kernel_rfl))
  f337 := Tryz.func162.trans (congrArg some (by kernel_rfl))
  f338 := Tryz.func163.trans (congrArg some (by kernel_rfl))
  t0 := Tryz.underlying0
  a0 := Tryz.isAgg0
  z0 := Tryz.sizeOf0
  v0 := Tryz.zeroValue0
  t2 := Tryz.underlying2
  a2 := Tryz.isAgg2
  z2 := Tryz.sizeOf2
  v2 := Tryz.zeroValue2
  t3 := Tryz.underlying3
  a3 := Tryz.isAgg3
  z3 := Tryz.sizeOf3
  v3 := Tryz.zeroValue3
  t4 := Tryz.underlying4
  a4 := Tryz.isAgg4
  z4 := Tryz.sizeOf4
  v4 := Tryz.zeroValue4
  t5 := Tryz.underlying5
  a5 := Tryz.isAgg5
  z5 := Tryz.sizeOf5
  v5 := Tryz.zeroValue5
  t9 := Tryz.underlying9
  a9 := Tryz.isAgg9
  z9 := Tryz.sizeOf9
  v9 := Tryz.zeroValue9
  t20 := Tryz.underlying20
  a20 := Tryz.isAgg20
  z20 := Tryz.sizeOf20
  v20 := Tryz.zeroValue20
  t37 := Tryz.underlying32
  a37 := Tryz.isAgg32
  z37 := Tryz.sizeOf32
  v37 := Tryz.zeroValue32
  t46 := Tryz.underlying58
  a46 := Tryz.isAgg58
  z46 := Tryz.sizeOf58
  v46 := Tryz.zeroValue58
  t51 := Tryz.underlying164
  a51 := Tryz.isAgg164
  z51 := Tryz.sizeOf164
  v51 := Tryz.zeroValue164
  t53 := Tryz.underlying109
  a53 := Tryz.isAgg109
  z53 := Tryz.sizeOf109
  v53 := Tryz.zeroValue109
  t171 := Tryz.underlying155
  a171 := Tryz.isAgg155
  z171 := Tryz.sizeOf155
  v171 := Tryz.zeroValue155
  t173 := Tryz.underlying158
  a173 := Tryz.isAgg158
  z173 := Tryz.sizeOf158
  v173 := Tryz.zeroValue158
  t212 := Tryz.underlying163
  a212 := Tryz.isAgg163
  z212 := Tryz.sizeOf163
  v212 := Tryz.zeroValue163
  t213 := Tryz.underlying165
  a213 := Tryz.isAgg165
  z213 := Tryz.sizeOf165
  t232 := Tryz.underlying179
  a232 := Tryz.isAgg179
  z232 := Tryz.sizeOf179
  v232 := Tryz.zeroValue179
  t233 := Tryz.underlying180
  a233 := Tryz.isAgg180
  z233 := Tryz.sizeOf180
  v233 := Tryz.zeroValue180
  g17 := by kernel_rfl
  g18 := by kernel_rfl
  g19 := by kernel_rfl
  i0 := by kernel_rfl
  i2 := by kernel_rfl
  i3 := by kernel_rfl
  i4 := by kernel_rfl
  i5 := by kernel_rfl
  i9 := by kernel_rfl
  i20 := by kernel_rfl
  i37 := by kernel_rfl
  i46 := by kernel_rfl
  i51 := by kernel_rfl
  i53 := by kernel_rfl
  i171 := by kernel_rfl
  i173 := by kernel_rfl
  i212 := by kernel_rfl
  i232 := by kernel_rfl
  i233 := by kernel_rfl
  m17 := by kernel_rfl
  m18 := by kernel_rfl
  m19 := by kernel_rfl }
open Go.RowKit Go.Sort Go.Lib in
theorem Tryz.strconv_FormatInt_10 (n : Int) (h0 : -9223372036854775808 ≤ n) (h1 : n ≤ 9223372036854775807) (w : World) (htab : Lib.TabIs Tryz.prog w "internal/strconv.uint64pow10" .u64 Lib.pow10Tab) :
    Calls Tryz.prog 107 #[.int .i64 n, .int .i64 10] w fun e w' => e = .returned (.string ⟨(Lib.itoa n).toArray⟩) ∧ ∃ k os, w' = grow (w.drewN k) os := Any.strconv_FormatInt_10 Tryz.laysM173 n h0 h1 w htab
open Go.RowKit Go.Sort Go.Lib in
def Tryz.laysC174_ren : Go.Shelf.Ren := ⟨fun | 174 => 139 | 247 => 147 | 245 => 148 | 287 => 156 | 279 => 157 | 280 => 158 | 281 => 159 | 282 => 160 | 321 => 164 | 322 => 165 | 316 => 166 | 171 => 168 | 205 => 167 | 243 => 169 | 246 => 136 | 283 => 143 | 284 => 144 | 285 => 145 | 286 => 146 | 129 => 152 | 317 => 151 | 318 => 153 | 319 => 154 | 320 => 155 | 337 => 162 | 338 => 163 | n => n, fun | 9 => 9 | 3 => 3 | 2 => 2 | 75 => 95 | 85 => 152 | 4 => 4 | 167 => 167 | 5 => 5 | 53 => 109 | 175 => 168 | 46 => 58 | 168 => 170 | 37 => 32 | 0 => 0 | 210 => 177 | 21 => 21 | 127 => 131 | 145 => 183 | 143 => 181 | 171 => 155 | 173 => 158 | 212 => 163 | 51 => 164 | 20 => 20 | 213 => 165 | 232 => 179 | 233 => 180 | 80 => 71 | n => n, fun | 15 => 2 | 16 => 3 | 17 => 0 | 18 => 4 | 19 => 5 | n => n⟩
theorem Tryz.laysC174 : Go.Proofs.LaysC.n174 Tryz.prog Tryz.laysC174_ren := {
  mixed := by kernel_rfl
  f129 := Tryz.func152.trans (congrArg some (by kernel_rfl))
  f171 := Tryz.func168.trans (congrArg some (by kernel_rfl))
  f174 := Tryz.func139.trans (congrArg some (by kernel_rfl))
  f205 := Tryz.func167.trans (congrArg some (by kernel_rfl))
  f243 := Tryz.func169.trans (congrArg some (by kernel_rfl))
  f245 := Tryz.func148.trans (congrArg some (by kernel_rfl))
  f246 := Tryz.func136.trans (congrArg some (by kernel_rfl))
  f247 := Tryz.func147.trans (congrArg some (by kernel_rfl))
  f279 := Tryz.func157.trans (congrArg some (by kernel_rfl))
  f280 := Tryz.func158.trans (congrArg some (by kernel_rfl))
  f281 := Tryz.func159.trans (congrArg some (by kernel_rfl))
  f282 := Tryz.func160.trans (congrArg some (by kernel_rfl))
  f283 := Tryz.func143.trans (congrArg some (by kernel_rfl))
  f284 := Tryz.func144.trans (congrArg some (by kernel_rfl))
  f285 := Tryz.func145.trans (congrArg some (by kernel_rfl))
  f286 := Tryz.func146.trans (congrArg some (by kernel_rfl))
  f287 := Tryz.func156.trans (congrArg some (by kernel_rfl))
  f316 := Tryz.func166.trans (congrArg some (by kernel_rfl))
  f317 := Tryz.func151.trans (congrArg some (by kernel_rfl))
  f318 := Tryz.func153.trans (congrArg some (by kernel_rfl))
  f319 := Tryz.func154.trans (congrArg some (by kernel_rfl))
  f320 := Tryz.func155.trans (congrArg some (by kernel_rfl))
  f321 := Tryz.func164.trans (congrArg some (by kernel_rfl))
  f322 := Tryz.func165.trans (congrArg some (by kernel_rfl))
  f337 := Tryz.func162.trans (congrArg some (by kernel_rfl))
  f338 := Tryz.func163.trans (congrArg some (by kernel_rfl))
  t0 := Tryz.underlying0
  a0 := Tryz.isAgg0
  z0 := Tryz.sizeOf0
  v0 := Tryz.zeroValue0
  t2 := Tryz.underlying2
  a2 := Tryz.isAgg2
  z2 := Tryz.sizeOf2
  v2 := Tryz.zeroValue2
  t3 := Tryz.underlying3
  a3 := Tryz.isAgg3
  z3 := Tryz.sizeOf3
  v3 := Tryz.zeroValue3
  t4 := Tryz.underlying4
  a4 := Tryz.isAgg4
  z4 := Tryz.sizeOf4
  v4 := Tryz.zeroValue4
  t5 := Tryz.underlying5
  a5 := Tryz.isAgg5
  z5 := Tryz.sizeOf5
  v5 := Tryz.zeroValue5
  t9 := Tryz.underlying9
  a9 := Tryz.isAgg9
  z9 := Tryz.sizeOf9
  v9 := Tryz.zeroValue9
  t20 := Tryz.underlying20
  a20 := Tryz.isAgg20
  z20 := Tryz.sizeOf20
  v20 := Tryz.zeroValue20
  t21 := Tryz.underlying21
  a21 := Tryz.isAgg21
  z21 := Tryz.sizeOf21
  v21 := Tryz.zeroValue21
  t37 := Tryz.underlying32
  a37 := Tryz.isAgg32
  z37 := Tryz.sizeOf32
  v37 := Tryz.zeroValue32
  t46 := Tryz.underlying58
  a46 := Tryz.isAgg58
  z46 := Tryz.sizeOf58
  v46 := Tryz.zeroValue58
  t51 := Tryz.underlying164
  a51 := Tryz.isAgg164
  z51 := Tryz.sizeOf164
  v51 := Tryz.zeroValue164
  t53 := Tryz.underlying109
  a53 := Tryz.isAgg109
  z53 := Tryz.sizeOf109
  v53 := Tryz.zeroValue109
  t75 := Tryz.underlying95
  a75 := Tryz.isAgg95
  z75 := Tryz.sizeOf95
  v75 := Tryz.zeroValue95
  t85 := Tryz.underlying152
  a85 := Tryz.isAgg152
  z85 := Tryz.sizeOf152
  v85 := Tryz.zeroValue152
  t127 := Tryz.underlying131
  a127 := Tryz.isAgg131
  z127 := Tryz.sizeOf131
  v127 := Tryz.zeroValue131
  t143 := Tryz.underlying181
  a143 := Tryz.isAgg181
  z143 := Tryz.sizeOf181
  v143 := Tryz.zeroValue181
  t145 := Tryz.underlying183
  a145 := Tryz.isAgg183
  z145 := Tryz.sizeOf183
  v145 := Tryz.zeroValue183
  t167 := Tryz.underlying167
  a167 := Tryz.isAgg167
  z167 := Tryz.sizeOf167
  v167 := Tryz.zeroValue167
  t168 := Tryz.underlying170
  a168 := Tryz.isAgg170
  z168 := Tryz.sizeOf170
  v168 := Tryz.zeroValue170
  t171 := Tryz.underlying155
  a171 := Tryz.isAgg155
  z171 := Tryz.sizeOf155
  v171 := Tryz.zeroValue155
  t173 := Tryz.underlying158
  a173 := Tryz.isAgg158
  z173 := Tryz.sizeOf158
  v173 := Tryz.zeroValue158
  t175 := Tryz.underlying168
  a175 := Tryz.isAgg168
  z175 := Tryz.sizeOf168
  v175 := Tryz.zeroValue168
  t210 := Tryz.underlying177
  a210 := Tryz.isAgg177
  z210 := Tryz.sizeOf177
  v210 := Tryz.zeroValue177
  t212 := Tryz.underlying163
  a212 := Tryz.isAgg163
  z212 := Tryz.sizeOf163
  v212 := Tryz.zeroValue163
  t213 := Tryz.underlying165
  a213 := Tryz.isAgg165
  z213 := Tryz.sizeOf165
  t232 := Tryz.underlying179
  a232 := Tryz.isAgg179
  z232 := Tryz.sizeOf179
  v232 := Tryz.zeroValue179
  t233 := Tryz.underlying180
  a233 := Tryz.isAgg180
  z233 := Tryz.sizeOf180
  v233 := Tryz.zeroValue180
  g15 := by kernel_rfl
  g16 := by kernel_rfl
  g17 := by kernel_rfl
  g18 := by kernel_rfl
  g19 := by kernel_rfl
  t80 := Tryz.underlying71
  a80 := Tryz.isAgg71
  z80 := Tryz.sizeOf71
  v80 := Tryz.zeroValue71
  i0 := by kernel_rfl
  i2 := by kernel_rfl
  i3 := by kernel_rfl
  i4 := by kernel_rfl
  i5 := by kernel_rfl
  i9 := by kernel_rfl
  i20 := by kernel_rfl
  i21 := by kernel_rfl
  i37 := by kernel_rfl
  i46 := by kernel_rfl
  i51 := by kernel_rfl
  i53 := by kernel_rfl
  i75 := by kernel_rfl
  i80 := by kernel_rfl
  i85 := by kernel_rfl
  i127 := by kernel_rfl
  i143 := by kernel_rfl
  i145 := by kernel_rfl
  i167 := by kernel_rfl
  i168 := by kernel_rfl
  i171 := by kernel_rfl
  i173 := by kernel_rfl
  i175 := by kernel_rfl
  i210 := by kernel_rfl
  i212 := by kernel_rfl
  i232 := by kernel_rfl
  i233 := by kernel_rfl
  m15 := by kernel_rfl
  m16 := by kernel_rfl
  m17 := by kernel_rfl
  m18 := by kernel_rfl
  m19 := by kernel_rfl
  c0 := by kernel_rfl
  c2 := by kernel_rfl
  c3 := by kernel_rfl
  c4 := by kernel_rfl
  c5 := by kernel_rfl
  c9 := by kernel_rfl
  c20 := by kernel_rfl
  c21 := by kernel_rfl
  c37 := by kernel_rfl
  c46 := by kernel_rfl
  c51 := by kernel_rfl
  c53 := by kernel_rfl
  c75 := by kernel_rfl
  c80 := by kernel_rfl
  c85 := by kernel_rfl
  c127 := by kernel_rfl
  c143 := by kernel_rfl
  c145 := by kernel_rfl
  c167 := by kernel_rfl
  c168 := by kernel_rfl
  c171 := by kernel_rfl
  c173 := by kernel_rfl
  c175 := by kernel_rfl
  c210 := by kernel_rfl
  c212 := by kernel_rfl
  c213 := by kernel_rfl
  c232 := by kernel_rfl
  c233 := by kernel_rfl }
end Go.Proofs

/- Numbers' texts, told without a heap: what the shelf's contracts say, in the layer's words. -/
namespace Go.Proofs.YtpfbljkfbjjlkaaGreatDoor
open Go Go.Jq
set_option maxRecDepth 100000
set_option linter.unusedSimpArgs false
theorem gTab : Tryz.prog.globalNamed "internal/strconv.uint64pow10" = some 0 := by kernel_rfl
theorem tabIs {c : Ctx} {m : Mem} {w : World} (h : MR c m w) : Lib.TabIs Tryz.prog w "internal/strconv.uint64pow10" .u64 Lib.pow10Tab := by
  obtain ⟨_, cs, T, f, h1, hcs⟩ := h.tab 0 _ rfl
  have hcs' : cs = (Lib.pow10Tab.map fun z => Value.int .u64 z).toArray := hcs
  unfold Lib.TabIs World.var?
  rw [gTab]
  simp only [Option.bind_some, h1, hcs']
def I64 (n : Int) : Prop := -9223372036854775808 ≤ n ∧ n ≤ 9223372036854775807
theorem nDigits_le : ∀ (k u : Nat), u < 10 ^ (k + 1) → Lib.nDigits u ≤ k + 1
  | 0, u, h => by rw [Lib.nDigits_small (by simpa using h)]; omega
  | k + 1, u, h => by
    by_cases hu : u < 10
    · rw [Lib.nDigits_small hu]; omega
    · rw [Lib.nDigits_big hu]
      have := nDigits_le k (u / 10) (by rw [Nat.pow_succ] at h; omega)
      omega
theorem itoa_len {n : Int} (h : I64 n) : (Lib.itoa n).length ≤ 20 := by
  obtain ⟨h0, h1⟩ := h
  unfold Lib.itoa
  split
  · have := nDigits_le 18 n.natAbs (by simp; omega)
    rw [List.length_cons, Lib.decDigits_length]; omega
  · have := nDigits_le 18 n.toNat (by simp; omega)
    rw [Lib.decDigits_length]; omega
theorem itoa_pos (n : Int) : 1 ≤ (Lib.itoa n).length := by
  unfold Lib.itoa
  split
  · simp
  · rw [Lib.decDigits_length]; exact Lib.nDigits_pos _
end Go.Proofs.YtpfbljkfbjjlkaaGreatDoor

/- The abstract layer: from a row to data. -/
namespace Go.Jq
open Go
inductive Sh where
  | int (k : IntKind)
  | bool
  | str
  | sl (es : List Sh)
mutual
def Fits : Sh → DV → Prop
  | .int k, d => ∃ n, d = .int k n ∧ (Lit.int k n).wf = true
  | .bool, d => ∃ b, d = .bool b
  | .str, d => ∃ s : List UInt8, d = .str s ∧ s.length ≤ maxLen
  | .sl es, d => d = .nsl ∨ ∃ rows : List (List DV), d = .sl rows.length rows.flatten ∧ rows.length ≤ maxLen ∧ ∀ r ∈ rows, FitsL es r
def FitsL : List Sh → List DV → Prop
  | [], ds => ds = []
  | s :: ss, ds => ∃ d r, ds = d :: r ∧ Fits s d ∧ FitsL ss r
end
theorem FitsL.length : ∀ {ss : List Sh} {ds : List DV}, FitsL ss ds → ds.length = ss.length
  | [], _, h => by simp only [FitsL] at h; subst h; rfl
  | s :: ss, _, h => by
    simp only [FitsL] at h
    obtain ⟨d, r, rfl, _, h⟩ := h
    simp [FitsL.length h]
theorem FitsL.append : ∀ {ss ss' : List Sh} {ds ds' : List DV}, FitsL ss ds → FitsL ss' ds' → FitsL (ss ++ ss') (ds ++ ds')
  | [], _, _, _, h, h' => by simp only [FitsL] at h; subst h; simpa using h'
  | s :: ss, _, _, _, h, h' => by
    simp only [FitsL] at h
    obtain ⟨d, r, rfl, hd, h⟩ := h
    simp only [List.cons_append, FitsL]
    exact ⟨d, _, rfl, hd, FitsL.append h h'⟩
def shFs (P : Program) (f : TypeId → Option (List Sh)) : List Field → Nat → Option (List Sh)
  | [], _ => some []
  | fd :: r, acc => match f fd.type with
    | some s => if fd.offset = acc ∧ P.cellsOf fd.type = s.length then (shFs P f r (acc + s.length)).map (s ++ ·) else none
    | none => none
def shOf (P : Program) : Nat → TypeId → Option (List Sh)
  | 0, _ => none
  | k + 1, t => match P.underlying t with
    | some .bool => some [.bool]
    | some (.int q) => some [.int q]
    | some .string => some [.str]
    | some (.slice e) => match shOf P k e with
      | some es => if es.length = P.cellsOf e ∧ es.length ≠ 0 then some [.sl es] else none
      | none => none
    | some (.struct fs) => match shFs P (shOf P k) fs.toList 0 with
      | some ss => if ss.length = P.cellsOf t then some ss else none
      | none => none
    | some (.array n e) => match shOf P k e with
      | some es => if es.length = P.cellsOf e ∧ n * es.length = P.cellsOf t then some (List.replicate n es).flatten else none
      | none => none
    | _ => none
def RelDL (I : Nat → Prop) (w : World) : List DV → List Value → Prop
  | [], vs => vs = []
  | d :: ds, vs => ∃ v r, vs = v :: r ∧ RelD I w d v ∧ RelDL I w ds r
section
variable {I : Nat → Prop} {w : World}
theorem RelDL.append : ∀ {ds ds' : List DV} {vs vs' : List Value}, RelDL I w ds vs → RelDL I w ds' vs' → RelDL I w (ds ++ ds') (vs ++ vs')
  | [], _, _, _, h, h' => by simp only [RelDL] at h; subst h; simpa using h'
  | d :: ds, _, _, _, h, h' => by
    simp only [RelDL] at h
    obtain ⟨v, r, rfl, hd, h⟩ := h
    simp only [List.cons_append, RelDL]
    exact ⟨v, _, rfl, hd, RelDL.append h h'⟩
theorem RelDL.get : ∀ {ds : List DV} {vs : List Value}, RelDL I w ds vs → ∀ (i : Nat) (d : DV), ds[i]? = some d → ∃ v, vs[i]? = some v ∧ RelD I w d v
  | [], _, _, i, d, h => by simp at h
  | x :: ds, _, h, i, d, hi => by
    simp only [RelDL] at h
    obtain ⟨v, r, rfl, hd, h⟩ := h
    cases i with
    | zero => simp at hi; subst hi; exact ⟨v, rfl, hd⟩
    | succ i => simpa using RelDL.get h i d (by simpa using hi)
theorem RelDs.append : ∀ {xs ys : List DV} {b o : Nat}, RelDs I w xs b o → RelDs I w ys b (o + xs.length) → RelDs I w (xs ++ ys) b o
  | [], ys, b, o, _, h => by simpa using h
  | x :: xs, ys, b, o, h, h' => by
    simp only [List.cons_append, RelDs] at h ⊢
    refine ⟨h.1, RelDs.append h.2 ?_⟩
    rw [List.length_cons] at h'
    rw [show o + 1 + xs.length = o + (xs.length + 1) by omega]
    exact h'
theorem RelDs.flatten {k b o : Nat} : ∀ {rows : List (List DV)} {i0 : Nat}, (∀ r ∈ rows, r.length = k) → (∀ (i : Nat) (r : List DV), rows[i]? = some r → RelDs I w r b (o + (i0 + i) * k)) → RelDs I w rows.flatten b (o + i0 * k)
  | [], _, _, _ => by simp [RelDs]
  | r :: rows, i0, hk, h => by
    rw [List.flatten_cons]
    refine RelDs.append (by simpa using h 0 r rfl) ?_
    have := RelDs.flatten (k := k) (b := b) (o := o) (rows := rows) (i0 := i0 + 1) (fun r hr => hk r (List.mem_cons_of_mem _ hr)) fun i r' hi => by
      have := h (i + 1) r' (by simpa using hi)
      rwa [show i0 + 1 + i = i0 + (i + 1) by omega]
    rw [hk r List.mem_cons_self]
    rwa [Nat.succ_mul, ← Nat.add_assoc] at this
theorem list_of {α : Type} {p : Nat → α → Prop} : ∀ (n : Nat), (∀ i, i < n → ∃ y, p i y) → ∃ l : List α, l.length = n ∧ ∀ i y, l[i]? = some y → p i y
  | 0, _ => ⟨[], rfl, fun i y h => by simp at h⟩
  | n + 1, h => by
    obtain ⟨l, hl, hp⟩ := list_of n fun i hi => h i (by omega)
    obtain ⟨y, hy⟩ := h n (by omega)
    refine ⟨l ++ [y], by simp [hl], fun i z hz => ?_⟩
    rcases Nat.lt_or_ge i n with h1 | h1
    · rw [List.getElem?_append_left (by omega)] at hz; exact hp i z hz
    · rw [List.getElem?_append_right (by omega)] at hz
      have h2 : i - l.length = 0 := by
        rcases Nat.eq_zero_or_pos (i - l.length) with h3 | h3
        · exact h3
        · rw [List.getElem?_eq_none (by simp; omega)] at hz; cases hz
      rw [h2] at hz
      simp at hz
      subst hz
      have : i = n := by omega
      subst this
      exact hy
end
end Go.Jq
namespace Go.Jq
open Go
section
variable {H : Type} {enc : TypeId × Value → H} {P : Program} {w : World} {base : Nat} {spare : Nat → Bool} {held : Bool} {I : Nat → Prop} (hI : ∀ b, b < w.heap.size → I b)
theorem cells_get {a : Addr} {n : Nat} {cs : List Value} (h : w.cells? base a n = some cs) : cs.length = n ∧ ∀ i, i < n → w.cell? (a.add i) = cs[i]? := by
  unfold World.cells? at h
  split at h
  · exact ⟨by simpa using mapM_some_length h, fun i hi => mapM_some_get h i i (by simp [hi])⟩
  · cases h
theorem cell_lt {a : Addr} {v : Value} (h : w.cell? a = some v) : a.block < w.heap.size ∧ a.spot = none := by
  unfold World.cell? at h
  split at h
  · rename_i c T f hb
    refine ⟨?_, ?_⟩
    · rcases Nat.lt_or_ge a.block w.heap.size with h1 | h1
      · exact h1
      · rw [Array.getElem?_eq_none h1] at hb; cases hb
    · split at h
      · cases h
      · rename_i hs; simpa using hs
  · cases h
theorem shFs_trod {f : TypeId → Option (List Sh)} {g : TypeId → List Value → Option (DataW H × List MemPlace)} (hfg : ∀ t ss cs x, f t = some ss → g t cs = some x → ∃ ds, FitsL ss ds ∧ RelDL I w ds cs) (cs : List Value) :
    ∀ (fs : List Field) (acc : Nat) (ss : List Sh), shFs P f fs acc = some ss → acc + ss.length = cs.length → (∀ fd ∈ fs, ∃ x, g fd.type ((cs.drop fd.offset).take (P.cellsOf fd.type)) = some x) → ∃ ds, FitsL ss ds ∧ RelDL I w ds (cs.drop acc)
  | [], acc, ss, h, hl, _ => by
    simp only [shFs, Option.some.injEq] at h
    subst h
    exact ⟨[], rfl, by simp only [RelDL]; exact List.drop_eq_nil_of_le (by simpa using Nat.le_of_eq hl.symm)⟩
  | fd :: fs, acc, ss, h, hl, hx => by
    simp only [shFs] at h
    split at h
    · rename_i s hs
      split at h
      · rename_i hc
        rw [Option.map_eq_some_iff] at h
        obtain ⟨r, hr, rfl⟩ := h
        obtain ⟨x, hx1⟩ := hx fd List.mem_cons_self
        obtain ⟨ds, h1, h2⟩ := hfg _ _ _ _ hs hx1
        obtain ⟨ds', h3, h4⟩ := shFs_trod hfg cs fs (acc + s.length) r hr (by simp at hl; omega) fun fd' h => hx fd' (List.mem_cons_of_mem _ h)
        refine ⟨ds ++ ds', h1.append h3, ?_⟩
        have h5 := h2.append h4
        rw [hc.1, hc.2, ← List.drop_drop, List.take_append_drop] at h5
        exact h5
      · cases h
    · cases h
include hI in
theorem trod_rel : ∀ (k : Nat) (t : TypeId) (ss : List Sh) (fuel : Nat) (cs : List Value) (x : DataW H × List MemPlace), shOf P k t = some ss → DataW.trod enc P w base spare held fuel t cs = some x → ∃ ds, FitsL ss ds ∧ RelDL I w ds cs
  | 0, _, _, _, _, _, h, _ => by simp [shOf] at h
  | k + 1, t, ss, fuel, cs, x, h, hx => by
    simp only [shOf] at h
    split at h
    · rename_i hu
      cases h
      obtain ⟨b, rfl, _⟩ := DataW.trod_bool hu hx
      exact ⟨[.bool b], by simp only [FitsL, Fits]; exact ⟨_, _, rfl, ⟨b, rfl⟩, rfl⟩, by simp [RelDL, RelD]⟩
    · rename_i q hu
      cases h
      obtain ⟨n, rfl, _, hw⟩ := DataW.trod_int hu hx
      exact ⟨[.int q n], by simp only [FitsL, Fits]; exact ⟨_, _, rfl, ⟨n, rfl, hw⟩, rfl⟩, by simp [RelDL, RelD]⟩
    · rename_i hu
      cases h
      obtain ⟨s, rfl, _, hw⟩ := DataW.trod_string hu hx
      exact ⟨[.str s.data.toList], by simp only [FitsL, Fits]; exact ⟨_, _, rfl, ⟨_, rfl, by simpa using hw⟩, rfl⟩, by simp [RelDL, RelD]⟩
    · rename_i e hu
      split at h
      · rename_i es hes
        split at h
        · rename_i hc
          cases h
          obtain ⟨hlen, hne⟩ := hc
          rcases DataW.trod_slice hu hx with ⟨rfl, _⟩ | ⟨a, len, cap, elems, rest, n, _, rfl, _, hb, hl, hm, hel, hcell, _⟩
          · exact ⟨[.nsl], by simp only [FitsL, Fits]; exact ⟨_, _, rfl, .inl rfl, rfl⟩, by simp [RelDL, RelD]⟩
          · have each : ∀ i, i < len → ∃ r : List DV, ∃ csi, w.cells? base (a.add (i * P.cellsOf e)) (P.cellsOf e) = some csi ∧ FitsL es r ∧ RelDL I w r csi := by
              intro i hi
              have h1 := hcell i hi
              rw [List.getElem?_eq_getElem (by omega), Option.bind_eq_some_iff] at h1
              obtain ⟨csi, h2, h3⟩ := h1
              obtain ⟨r, h4, h5⟩ := trod_rel k e es n csi _ hes h3
              exact ⟨r, csi, h2, h4, h5⟩
            obtain ⟨rows, hrl, hrows⟩ := list_of len each
            have hfit : ∀ r ∈ rows, FitsL es r := fun r hr => by
              obtain ⟨i, hi⟩ := List.mem_iff_getElem?.1 hr
              obtain ⟨_, _, h2, _⟩ := hrows i r hi
              exact h2
            refine ⟨[.sl rows.length rows.flatten], by simp only [FitsL, Fits]; exact ⟨_, _, rfl, .inr ⟨rows, rfl, by omega, hfit⟩, rfl⟩, ?_⟩
            simp only [RelDL, RelD]
            refine ⟨_, _, rfl, ⟨some a, cap, by rw [hrl], by omega, ?_⟩, rfl⟩
            rcases Nat.eq_zero_or_pos len with h0 | h0
            · have : rows = [] := List.eq_nil_of_length_eq_zero (by omega)
              subst this
              exact .inl ⟨rfl, rfl⟩
            · right
              have hr0 : rows[0]? = some rows[0] := List.getElem?_eq_getElem (by omega)
              obtain ⟨cs0, h1, h2, h3⟩ := hrows 0 _ hr0
              obtain ⟨hl0, hg0⟩ := cells_get h1
              have hpos : 0 < P.cellsOf e := by omega
              have hc0 : ∃ v, w.cell? a = some v := by
                have := hg0 0 hpos
                rw [List.getElem?_eq_getElem (by omega)] at this
                have e1 : (a.add (0 * P.cellsOf e)).add 0 = a := by simp [Addr.add]
                rw [e1] at this
                exact ⟨_, this⟩
              obtain ⟨v, hv⟩ := hc0
              obtain ⟨hlt, hsp⟩ := cell_lt hv
              obtain ⟨ab, ao, asp⟩ := a
              simp only at hlt hsp
              subst hsp
              refine ⟨ab, ao, rfl, hI ab hlt, ?_⟩
              have := RelDs.flatten (I := I) (w := w) (k := es.length) (b := ab) (o := ao) (rows := rows) (i0 := 0) (fun r hr => (hfit r hr).length) fun i r hi => by
                obtain ⟨csi, h4, h5, h6⟩ := hrows i r hi
                obtain ⟨_, hg⟩ := cells_get h4
                refine RelDs.of_get fun j d hj => ?_
                obtain ⟨v, hv, hr⟩ := h6.get j d hj
                have hjl : j < P.cellsOf e := by
                  have := (List.getElem?_eq_some_iff.1 hj).1
                  rw [h5.length] at this
                  omega
                refine ⟨v, ?_, hr⟩
                have := hg j hjl
                rw [hv, addr_add, addr_add] at this
                rw [Nat.zero_add, hlen]
                exact this
              simpa using this
        · cases h
      · cases h
    · rename_i fs hu
      split at h
      · rename_i ss' hss
        split at h
        · rename_i hc
          cases h
          obtain ⟨xs, n, _, _, hcl, hxl, hget⟩ := DataW.trod_struct hu hx
          have := shFs_trod (P := P) (I := I) (w := w) (f := shOf P k) (g := fun t cs => DataW.trod enc P w base spare held n t cs) (fun t ss cs x h1 h2 => trod_rel k t ss n cs x h1 h2) cs fs.toList 0 ss hss (by omega) fun fd hfd => by
            obtain ⟨i, hi⟩ := List.mem_iff_getElem?.1 hfd
            rw [Array.getElem?_toList] at hi
            have h1 := hget i fd hi
            have h2 : i < fs.size := (Array.getElem?_eq_some_iff.1 hi).1
            rw [List.getElem?_eq_getElem (by omega)] at h1
            exact ⟨_, h1⟩
          simpa using this
        · cases h
      · cases h
    · rename_i n e hu
      split at h
      · rename_i es hes
        split at h
        · rename_i hc
          cases h
          obtain ⟨xs, m, _, _, hcl, hxl, hget⟩ := DataW.trod_array hu hx
          have key : ∀ q, q ≤ n → ∃ ds, FitsL (List.replicate q es).flatten ds ∧ RelDL I w ds (cs.take (q * es.length)) := by
            intro q
            induction q with
            | zero => intro _; exact ⟨[], by simp [FitsL], by simp [RelDL]⟩
            | succ q ih =>
              intro hq
              obtain ⟨ds, h1, h2⟩ := ih (by omega)
              have h3 := hget q (by omega)
              rw [List.getElem?_eq_getElem (by omega)] at h3
              obtain ⟨ds', h4, h5⟩ := trod_rel k e es m _ _ hes h3
              refine ⟨ds ++ ds', ?_, ?_⟩
              · rw [List.replicate_succ', List.flatten_append]
                simpa using h1.append h4
              · have := h2.append h5
                rw [← hc.1] at this
                rw [Nat.succ_mul, List.take_add]
                exact this
          obtain ⟨ds, h1, h2⟩ := key n (Nat.le_refl _)
          exact ⟨ds, h1, by rwa [List.take_of_length_le (by omega)] at h2⟩
        · cases h
      · cases h
    · cases h
end
end Go.Jq
namespace Go.Jq
open Go Go.RowKit Go.ChangeAt Go.ChangeShapes Go.WideShapes
def ctx0 (w : World) : Ctx := ⟨fun _ => .free, fun b => b < w.heap.size⟩
theorem calls_of_pure {P : Program} {f : Nat} {args : List AV} (h : Pure P f args (.d (.bool true))) {w : World} {vs : List Value} (hr : RelL (ctx0 w) w args vs)
    (htab : ∀ g Φ, tabC g = some Φ → ∃ cs T f, w.heap[g]? = some (.cells cs T f) ∧ Φ cs := by intro g Φ h; simp [tabC] at h) :
    Calls P f vs.toArray w fun e w' => e = .returned (.bool true) ∧ Below w.heap.size w w' := by
  have hM : MR (ctx0 w) [] w := ⟨fun id cells h => by simp [mget] at h, fun id id' b h => by simp [mget] at h, fun b hb => hb, fun g Φ hg => by
    obtain ⟨cs, T, f, h1, h2⟩ := htab g Φ hg
    exact ⟨(Array.getElem?_eq_some_iff.1 h1).1, cs, T, f, h1, h2⟩⟩
  refine (h (ctx0 w) w vs hr hM fun id _ => rfl).mono ?_
  rintro e w' ⟨v, r, m', c', rfl, ⟨rfl, rfl⟩, hrel, _, hs, _⟩
  simp only [Rel, RelD] at hrel
  subst hrel
  exact ⟨rfl, hs.os, hs.tape, hs.output, hs.size, fun b hb => hs.keep b hb fun ⟨id, h1, _⟩ => by simp [mget] at h1⟩
section
variable {H : Type} {enc : TypeId × Value → H} {P : Program} {w : World} {base : Nat} {spare : Nat → Bool} {held : Bool} {t : TypeId} {v : Value} {d : DataW H} {p : List MemPlace}
theorem arg_one {k : Nat} {s : Sh} (hs : shOf P k t = some [s]) (hv : v.cells = #[v]) (h : DataW.Trod enc P w base spare held t v d p) : ∃ x, Fits s x ∧ Rel (ctx0 w) w (.d x) v := by
  obtain ⟨fuel, hf⟩ := h
  obtain ⟨ds, h1, h2⟩ := trod_rel (I := (ctx0 w).imm) (fun b hb => hb) k t [s] fuel _ _ hs hf
  simp only [FitsL] at h1
  obtain ⟨x, r, rfl, h3, rfl⟩ := h1
  rw [hv] at h2
  simp only [RelDL, List.cons.injEq] at h2
  obtain ⟨u, r, ⟨h4, _⟩, h5, _⟩ := h2
  subst h4
  exact ⟨x, h3, by simp only [Rel]; exact h5⟩
end
theorem fits_sl_ints {d : DV} (h : Fits (.sl [.int .i64]) d) : ∃ l : List Int, IsInts l d := by
  simp only [Fits] at h
  rcases h with rfl | ⟨rows, rfl, hm, hr⟩
  · exact ⟨[], by simp, .inl ⟨rfl, rfl⟩⟩
  · have : ∀ rows : List (List DV), (∀ r ∈ rows, FitsL [.int .i64] r) → ∃ l : List Int, l.length = rows.length ∧ rows.flatten = l.map (.int .i64) := by
      intro rows
      induction rows with
      | nil => intro _; exact ⟨[], rfl, rfl⟩
      | cons r rows ih =>
        intro h
        obtain ⟨l, h1, h2⟩ := ih fun r hr => h r (List.mem_cons_of_mem _ hr)
        have h3 := h r List.mem_cons_self
        simp only [FitsL, Fits] at h3
        obtain ⟨d, r', rfl, ⟨n, rfl, _⟩, rfl⟩ := h3
        exact ⟨n :: l, by simp [h1], by simp [h2]⟩
    obtain ⟨l, h1, h2⟩ := this rows hr
    refine ⟨l, ?_, .inr ?_⟩
    · have : maxLen = 9223372036854775807 := rfl
      simp; omega
    · simp [h1, h2]
end Go.Jq
namespace Go.Jq
open Go
end Go.Jq
namespace Go.Jq
open Go Go.ChangeShapes
section
variable {H : Type} {enc : TypeId × Value → H} {P : Program} {w : World} {base : Nat} {spare : Nat → Bool} {held : Bool}
theorem trodAll_1 {t0 : TypeId} {args : Array Value} {ds : List (DataW H)} {ps : List MemPlace} (h : DataW.TrodAll enc P w base spare held [t0] args.toList ds ps) :
    ∃ v0 d0 p0, args = #[v0] ∧ ds = [d0] ∧ ps = p0 ∧ DataW.Trod enc P w base spare held t0 v0 d0 p0 := by
  obtain ⟨v0, a0, d0, b0, p0, q0, ha, rfl, rfl, h0, h⟩ := trodAll_cons h
  obtain ⟨rfl, rfl, rfl⟩ := trodAll_nil h
  exact ⟨v0, d0, p0, by cases args; simp_all, rfl, by simp, h0⟩
end
end Go.Jq

/- What the listed tables give the calls. -/
namespace Go.Proofs.YtpfbljkfbjjlkaaGreatDoor
open Go Go.Jq Go.ChangeShapes Go.WideShapes Go.ChangeAt Go.RowKit
set_option linter.unusedVariables false
theorem own : ownKnob Tryz.prog.godebug = none := by kernel_rfl
theorem laidOut : laidOutB Tryz.prog = true := by kernel_rfl
def laidL : List (String × DataW Unit) := [("math/bits.deBruijn32tab", Rows.laid_math_bits_deBruijn32tab), ("math/bits.deBruijn64tab", Rows.laid_math_bits_deBruijn64tab), ("internal/strconv.uint64pow10", Rows.laid_internal_strconv_uint64pow10), ("strconv.ErrRange", Rows.laid_strconv_ErrRange), ("strconv.ErrSyntax", Rows.laid_strconv_ErrSyntax)]
theorem door_met (os : Os) (args : Array Value) : laidMetH Tryz.prog laidL ((World.doorLaid Tryz.prog 400 os).forCall (fun _ _ => 0) ⟨#[], args, []⟩).memory :=
  laidMetH_of_parts3 (fuel := 8) (laidMet_of_run' 8 (by kernel_rfl) (by kernel_rfl)) (by kernel_rfl) (by kernel_rfl)
theorem err_iface : ∃ ms, Tryz.prog.underlying 95 = some (.interface ms) := by
  have h : (match Tryz.prog.underlying 95 with | some (.interface _) => true | _ => false) = true := by kernel_rfl
  split at h
  · rename_i ms hms
    exact ⟨ms, hms⟩
  · cases h
set_option maxRecDepth 100000 in
theorem tab_of_laid {W : World} (h : laidMetH Tryz.prog laidL W) : ∀ g Φ, tabC g = some Φ → ∃ cs T f, W.heap[g]? = some (.cells cs T f) ∧ Φ cs := by
  rw [MakeChecks.laidMetH_plain _ _ _ (by kernel_rfl)] at h
  obtain ⟨ps, ⟨g0, t0, cs0, f0, p0, q0, hg0, ht0, hv0, hd0, ⟨g1, t1, cs1, f1, p1, q1, hg1, ht1, hv1, hd1, ⟨g2, t2, cs2, f2, p2, q2, hg2, ht2, hv2, hd2, ⟨g3, t3, cs3, f3, p3, q3, hg3, ht3, hv3, hd3, ⟨g4, t4, cs4, f4, p4, q4, hg4, ht4, hv4, hd4, _, _⟩, _⟩, _⟩, _⟩, _⟩, _, _⟩ := h
  obtain rfl := Option.some.inj (gTab.symm.trans hg2)
  have gR : Tryz.prog.globalNamed "strconv.ErrRange" = some 3 := by kernel_rfl
  have gS : Tryz.prog.globalNamed "strconv.ErrSyntax" = some 2 := by kernel_rfl
  obtain rfl := Option.some.inj (gR.symm.trans hg3)
  obtain rfl := Option.some.inj (gS.symm.trans hg4)
  have hty : (Tryz.prog.globals[0]?).map (·.type) = some 163 := by kernel_rfl
  have ty1 : (Tryz.prog.globals[2]?).map (·.type) = some 95 := by kernel_rfl
  have ty2 : (Tryz.prog.globals[3]?).map (·.type) = some 95 := by kernel_rfl
  obtain rfl := Option.some.inj (hty.symm.trans ht2)
  obtain rfl := Option.some.inj (ty2.symm.trans ht3)
  obtain rfl := Option.some.inj (ty1.symm.trans ht4)
  obtain ⟨ms, hms⟩ := err_iface
  obtain ⟨_, u3, v3, hc3, _⟩ := iface_of_trod hms hd3
  obtain ⟨_, u4, v4, hc4, _⟩ := iface_of_trod hms hd4
  have hcs := Lib.cells_of_tab (n := 20) (e := 109) (k := .u64) (zs := Lib.pow10Tab) (by kernel_rfl) (by kernel_rfl) (by kernel_rfl) (by kernel_rfl) hd2
  unfold World.var? at hv2 hv3 hv4
  rw [gTab] at hv2
  rw [gR] at hv3
  rw [gS] at hv4
  simp only [Option.bind_some] at hv2 hv3 hv4
  have row : ∀ {b : Nat} {cs : Array Value}, (match W.heap[b]? with | some (Obj.cells cs _ _) => some cs | _ => none) = some cs → ∃ T f, W.heap[b]? = some (.cells cs T f) := by
    intro b cs h
    split at h
    · rename_i c T f hc
      obtain rfl := Option.some.inj h
      exact ⟨T, f, hc⟩
    · cases h
  obtain ⟨T2, f2', r2⟩ := row hv2
  obtain ⟨T3, f3', r3⟩ := row hv3
  obtain ⟨T4, f4', r4⟩ := row hv4
  intro g Φ hg
  simp only [tabC] at hg
  split at hg
  · rename_i h0
    subst h0
    refine ⟨_, _, _, r2, ?_⟩
    obtain rfl := Option.some.inj hg
    show cs2 = _
    apply Array.ext'
    rw [hcs]
    rfl
  · split at hg
    · rename_i h12
      obtain rfl := Option.some.inj hg
      rcases h12 with rfl | rfl
      · exact ⟨_, _, _, r4, u4, v4, Array.ext' hc4⟩
      · exact ⟨_, _, _, r3, u3, v3, Array.ext' hc3⟩
    · cases hg
end Go.Proofs.YtpfbljkfbjjlkaaGreatDoor

/- num.Parse: in the model's words. -/
namespace Go.Proofs.YtpfbljkfbjjlkaaGreatDoor
open Go Go.Jq Go.RowKit
set_option maxRecDepth 100000
set_option linter.unusedSimpArgs false
theorem bytes_eq {a b : ByteArray} (h : a.data.toList = b.data.toList) : a = b := by
  cases a; cases b
  simp only [Array.toList_inj] at h
  rw [h]
theorem tab_below {w w' : World} (h : Lib.TabIs Tryz.prog w "internal/strconv.uint64pow10" .u64 Lib.pow10Tab) (hb : Below w.heap.size w w') : Lib.TabIs Tryz.prog w' "internal/strconv.uint64pow10" .u64 Lib.pow10Tab := by
  unfold Lib.TabIs World.var? at h ⊢
  rw [gTab] at h ⊢
  simp only [Option.bind_some] at h ⊢
  cases h0 : w.heap[0]? with
  | none => rw [h0] at h; cases h
  | some o =>
    have hlt : 0 < w.heap.size := by
      rcases Nat.lt_or_ge 0 w.heap.size with h' | h'
      · exact h'
      · rw [Array.getElem?_eq_none h'] at h0; cases h0
    rw [hb.block 0 hlt]
    exact h
theorem below_of_grow {w w' : World} {k : Nat} {os : Array Obj} (h : w' = Go.Sort.grow (w.drewN k) os) : Below w.heap.size w w' := by
  subst h
  refine ⟨rfl, rfl, rfl, ?_, fun j hj => ?_⟩
  · simp [Go.Sort.grow, World.drewN]
  · simp only [Go.Sort.grow, World.drewN]
    exact Array.getElem?_append_left hj
set_option maxHeartbeats 2000000 in
theorem calls_text {n : Int} (hn : I64 n) (s : ByteArray) (hs : s.data.toList = Lib.itoa n) (w : World) (htab : Lib.TabIs Tryz.prog w "internal/strconv.uint64pow10" .u64 Lib.pow10Tab) :
    Calls Tryz.prog 61 #[.int .i64 n] w fun e w' => e = .returned (.string s) ∧ Below w.heap.size w w' := by
  have hI := Tryz.strconv_FormatInt_10 n hn.1 hn.2 w htab
  have hs' : (⟨(Lib.itoa n).toArray⟩ : ByteArray) = s := by
    cases s with
    | mk d => cases d with
      | mk l => simp only at hs; rw [hs]
  rw [hs'] at hI
  clear hs hs' htab hn
  go_enter Tryz.func61, Tryz.ntmps61
  go_wp2_with (go_at_call 107; refine hI.mono ?_)
  rintro e W1 ⟨rfl, k, os, hW⟩
  have hb := below_of_grow hW
  clear hW
  go_wp2
  go_ret
  exact ⟨rfl, hb⟩
set_option maxHeartbeats 2000000 in
theorem calls_parse_ok (s : ByteArray) (hmax : s.size ≤ 9223372036854775806) (n : Int) (h : Lib.parseIntB 64 s.data.toList = .ok n) (hn : I64 n) (w : World) (htab : Lib.TabIs Tryz.prog w "internal/strconv.uint64pow10" .u64 Lib.pow10Tab)
    (s' : ByteArray) (hs : s'.data.toList = Lib.itoa n) : Calls Tryz.prog 123 #[.string s] w fun e w' => e = .returned (.tuple #[.int .i64 (if s' = s then n else 0), .bool (decide (s' = s))]) ∧ Below w.heap.size w w' := by
  have hI := Any.strconv_ParseInt_10_at64_ok Tryz.laysC174 s hmax n h w
  have hT : ∀ W1, Below w.heap.size w W1 → Calls Tryz.prog 61 #[.int .i64 n] W1 fun e w' => e = .returned (.string s') ∧ Below W1.heap.size W1 w' := fun W1 hb => calls_text hn s' hs W1 (tab_below htab hb)
  clear h htab hs hn
  go_enter Tryz.func123, Tryz.ntmps123
  go_wp2_with (go_at_call 139; refine hI.mono ?_)
  rintro e W1 ⟨rfl, hW⟩
  have hb1 : Below w.heap.size w W1 := by
    rcases hW with rfl | ⟨t, rfl⟩
    · exact Below.refl _ _
    · exact Lib.bytesWorld_below _ _ _
  have hT1 := hT W1 hb1
  clear hW hT hI
  go_wp2_with (go_at_call 61; refine hT1.mono ?_)
  rintro e W2 ⟨rfl, hb2⟩
  have hb := hb1.trans (hb2.mono hb1.size)
  clear hT1 hb1 hb2
  by_cases hss : s' = s
  · subst hss
    go_wp2
    go_ret2
    simp only [if_true, decide_true]
    exact ⟨rfl, hb⟩
  · have ht : ¬ s'.toList = s.toList := fun e => hss (by
      simp only [ByteArray.toList_eq] at e
      exact bytes_eq e)
    go_wp2
    · go_ret2
      simp only [hss, if_false, decide_false]
      exact ⟨rfl, hb⟩
    · rename_i hx
      exact absurd (by simpa using hx) ht
theorem calls_pint_err (s : ByteArray) (hlim : s.size ≤ 281474976710656) (w : World) (h : Lib.parseIntB 64 s.data.toList = Lib.parseIntB 64 [] ∨ Lib.parseIntB 64 s.data.toList = .range)
    (h1 : ∃ t p, w.cell? ⟨2, 0, none⟩ = some (.iface t p)) (h2 : ∃ t p, w.cell? ⟨3, 0, none⟩ = some (.iface t p)) :
    Calls Tryz.prog 139 #[.string s, .int .i64 10, .int .i64 64] w fun e w' => ∃ v N, e = .returned (.tuple #[.int .i64 v, .iface 170 (.pointer (some ⟨N, 0, none⟩))]) ∧ Below w.heap.size w w' := by
  rcases h with h | h
  · obtain ⟨t, p, hv⟩ := h1
    refine (Any.strconv_ParseInt_10_at64_syntax Tryz.laysC174 s hlim h _ w hv (.inr ⟨t, p, rfl⟩)).mono ?_
    rintro e w' ⟨N, rfl, _, _, hb⟩
    exact ⟨0, N, rfl, hb⟩
  · obtain ⟨t, p, hv⟩ := h2
    refine (Any.strconv_ParseInt_10_at64_range Tryz.laysC174 s hlim h _ w hv (.inr ⟨t, p, rfl⟩)).mono ?_
    rintro e w' ⟨N, rfl, _, _, hb⟩
    exact ⟨_, N, rfl, hb⟩
set_option maxHeartbeats 2000000 in
theorem calls_parse_err (s : ByteArray) (hlim : s.size ≤ 281474976710656) (w : World) (h : Lib.parseIntB 64 s.data.toList = Lib.parseIntB 64 [] ∨ Lib.parseIntB 64 s.data.toList = .range)
    (h1 : ∃ t p, w.cell? ⟨2, 0, none⟩ = some (.iface t p)) (h2 : ∃ t p, w.cell? ⟨3, 0, none⟩ = some (.iface t p)) :
    Calls Tryz.prog 123 #[.string s] w fun e w' => e = .returned (.tuple #[.int .i64 0, .bool false]) ∧ Below w.heap.size w w' := by
  have hI := calls_pint_err s hlim w h h1 h2
  clear h h1 h2
  go_enter Tryz.func123, Tryz.ntmps123
  go_wp2_with (go_at_call 139; refine hI.mono ?_)
  rintro e W1 ⟨v, N, rfl, hb⟩
  go_wp2
  go_ret2
  exact ⟨rfl, hb⟩
def parseW (s : List UInt8) : Int × Bool :=
  match Lib.parseIntB 64 s with
  | .ok n => if Lib.itoa n = s then (n, true) else (0, false)
  | _ => (0, false)
theorem ofItoa (n : Int) : (⟨(Lib.itoa n).toArray⟩ : ByteArray).data.toList = Lib.itoa n := by simp
theorem bytes_mk (s : List UInt8) : (⟨s.toArray⟩ : ByteArray).data.toList = s := by simp
theorem bytes_size (s : List UInt8) : (⟨s.toArray⟩ : ByteArray).size = s.length := by simp [ByteArray.size]
theorem tab_cell {c : Ctx} {m : Mem} {w : World} (h : MR c m w) (g : Nat) (hg : g = 2 ∨ g = 3) : ∃ t p, w.cell? ⟨g, 0, none⟩ = some (.iface t p) := by
  have : ∃ Φ, tabC g = some Φ ∧ ∀ cs, Φ cs → ∃ t p, cs = #[Value.iface t p] := by
    rcases hg with rfl | rfl <;> exact ⟨_, rfl, fun _ h => h⟩
  obtain ⟨Φ, hΦ, hc⟩ := this
  obtain ⟨_, cs, T, f, h1, h2⟩ := h.tab g Φ hΦ
  obtain ⟨t, p, rfl⟩ := hc cs h2
  refine ⟨t, p, ?_⟩
  simp [World.cell?, h1]
theorem parse_pure {s : List UInt8} (h : s.length ≤ 281474976710656) : Pure Tryz.prog 123 [.d (.str s)] (.tup [.d (.int .i64 (parseW s).1), .d (.bool (parseW s).2)]) := by
  refine pure_of_below fun c w vs hr hM => ?_
  simp only [RelL, Rel, RelD] at hr
  obtain ⟨v1, vs1, rfl, rfl, rfl⟩ := hr
  have hs := bytes_mk s
  have hz := bytes_size s
  have key : Calls Tryz.prog 123 #[.string ⟨s.toArray⟩] w fun e w' => e = .returned (.tuple #[.int .i64 (parseW s).1, .bool (parseW s).2]) ∧ Below w.heap.size w w' := by
    have hE := calls_parse_err ⟨s.toArray⟩ (by omega) w
    rw [hs] at hE
    unfold parseW
    rcases hp : Lib.parseIntB 64 s with n | _ | _
    rotate_left
    · exact hE (.inl hp) (tab_cell hM 2 (.inl rfl)) (tab_cell hM 3 (.inr rfl))
    · exact hE (.inr hp) (tab_cell hM 2 (.inl rfl)) (tab_cell hM 3 (.inr rfl))
    · have hn : I64 n := by
        have := Lib.parseIntB_bounds hp
        simp at this
        unfold I64; omega
      have := calls_parse_ok ⟨s.toArray⟩ (by omega) n (by rw [hs]; exact hp) hn w (tabIs hM) ⟨(Lib.itoa n).toArray⟩ (ofItoa n)
      refine this.mono ?_
      rintro e w' ⟨rfl, hb⟩
      refine ⟨?_, hb⟩
      by_cases he : Lib.itoa n = s
      · simp [he]
      · have : ¬ (⟨(Lib.itoa n).toArray⟩ : ByteArray) = ⟨s.toArray⟩ := fun e => he (by have := congrArg (fun b : ByteArray => b.data.toList) e; simpa using this)
        simp [he, this]
  refine key.mono ?_
  rintro e w' ⟨rfl, hb⟩
  exact ⟨_, rfl, hb.os, hb.tape, hb.output, hb.size, fun k hk => hb.block k hk, (by simp [Rel, RelL, RelD])⟩
end Go.Proofs.YtpfbljkfbjjlkaaGreatDoor

/- Whole numbers of 64 bits: plain laws. -/
namespace Go.Proofs.YtpfbljkfbjjlkaaGreatDoor
open Go Go.Jq
set_option maxRecDepth 100000
set_option linter.unusedSimpArgs false
def bv (n : Int) : BitVec 64 := BitVec.ofInt 64 n
theorem wrap_bv (n : Int) : IntKind.i64.wrap n = (bv n).toInt := by
  unfold bv
  rw [BitVec.toInt_ofInt, Int.bmod_def]
  have e1 : (2 : Int) ^ 64 = 18446744073709551616 := rfl
  have e2 : (2 : Int) ^ 63 = 9223372036854775808 := rfl
  simp only [IntKind.wrap, IntKind.signed, IntKind.bits, Bool.true_and, Nat.reduceSub, e1, e2, decide_eq_true_eq, ge_iff_le]
  simp only [Nat.reducePow]
  split <;> split <;> omega
theorem bv_id {n : Int} (h : I64 n) : (bv n).toInt = n := by
  rw [← wrap_bv]
  unfold I64 at h
  have e1 : (2 : Int) ^ 64 = 18446744073709551616 := rfl
  have e2 : (2 : Int) ^ 63 = 9223372036854775808 := rfl
  simp only [IntKind.wrap, IntKind.signed, IntKind.bits, Bool.true_and, Nat.reduceSub, e1, e2, decide_eq_true_eq, ge_iff_le]
  split <;> omega
theorem wrap_id {n : Int} (h : I64 n) : IntKind.i64.wrap n = n := by rw [wrap_bv, bv_id h]
end Go.Proofs.YtpfbljkfbjjlkaaGreatDoor

/- Numbers' texts: plain laws. -/
namespace Go.Proofs.YtpfbljkfbjjlkaaGreatDoor
open Go Go.Jq
set_option maxRecDepth 100000
set_option linter.unusedSimpArgs false
theorem parseUintM_digit (M acc d : Nat) (r : List UInt8) (hd : d < 10) (ha : acc < 1844674407370955162) (hM : acc * 10 + d ≤ M) : Lib.parseUintM M acc (UInt8.ofNat (48 + d) :: r) = Lib.parseUintM M (acc * 10 + d) r := by
  have h1 : (UInt8.ofNat (48 + d)).toNat = 48 + d := by simp; omega
  rw [Lib.parseUintM, h1, if_pos (by omega), if_neg (by omega), if_neg (by omega)]
  congr 1
  omega
theorem parseUintM_dec (u : Nat) : ∀ (r : List UInt8), u ≤ 18446744073709551615 → Lib.parseUintM 18446744073709551615 0 (Lib.decDigits u ++ r) = Lib.parseUintM 18446744073709551615 u r := by
  induction u using Nat.strongRecOn with
  | _ u ih =>
    intro r hu
    by_cases h : u < 10
    · rw [Lib.decDigits_one h]
      have := parseUintM_digit 18446744073709551615 0 u r h (by omega) (by omega)
      simpa using this
    · rw [Lib.decDigits, dif_neg h, List.append_assoc, ih (u / 10) (by omega) _ (by omega), List.singleton_append, parseUintM_digit _ _ _ _ (by omega) (by omega) (by omega)]
      congr 1
      omega
theorem decDigits_ne (u : Nat) : Lib.decDigits u ≠ [] := by
  intro h
  have := Lib.decDigits_length u
  rw [h] at this
  have := Lib.nDigits_pos u
  simp at *
  omega
theorem parseUintB_dec {u : Nat} (hu : u ≤ 18446744073709551615) : Lib.parseUintB 64 (Lib.decDigits u) = .ok u := by
  unfold Lib.parseUintB
  rw [if_neg (decDigits_ne u)]
  have := parseUintM_dec u [] hu
  rw [List.append_nil] at this
  rw [show 2 ^ 64 - 1 = 18446744073709551615 from rfl, this]
  rfl
theorem decDigits_head (u : Nat) : ∃ (d : Nat) (r : List UInt8), Lib.decDigits u = UInt8.ofNat (48 + d) :: r ∧ d < 10 ∧ (d = 0 → u = 0) := by
  induction u using Nat.strongRecOn with
  | _ u ih =>
    by_cases h : u < 10
    · exact ⟨u, [], Lib.decDigits_one h, h, id⟩
    · obtain ⟨d, r, h1, h2, h3⟩ := ih (u / 10) (by omega)
      refine ⟨d, r ++ [UInt8.ofNat (48 + u % 10)], ?_, h2, fun hd => ?_⟩
      · rw [Lib.decDigits, dif_neg h, h1]; rfl
      · have := h3 hd; omega
theorem parse_itoa {n : Int} (h : I64 n) : Lib.parseIntB 64 (Lib.itoa n) = .ok n := by
  obtain ⟨h0, h1⟩ := h
  unfold Lib.itoa
  split
  · rename_i hn
    rw [Lib.parseIntB_minus, parseUintB_dec (by omega)]
    simp only [Lib.signedC]
    rw [if_neg (by simp; omega)]
    congr 1
    omega
  · rename_i hn
    obtain ⟨d, r, hd, hd1, _⟩ := decDigits_head n.toNat
    have hc : (UInt8.ofNat (48 + d)).toNat = 48 + d := by simp; omega
    have hp := parseUintB_dec (u := n.toNat) (by omega)
    rw [hd] at hp ⊢
    rw [Lib.parseIntB_plain _ _ _ (by omega) (by omega), hp]
    simp only [Lib.signlessC]
    rw [if_neg (by simp; omega)]
    congr 1
    omega
theorem parseW_itoa {n : Int} (h : I64 n) : parseW (Lib.itoa n) = (n, true) := by
  unfold parseW
  rw [parse_itoa h]
  simp
theorem parseW_text {s : List UInt8} (h : (parseW s).2 = true) : Lib.itoa (parseW s).1 = s ∧ I64 (parseW s).1 := by
  unfold parseW at h ⊢
  rcases hp : Lib.parseIntB 64 s with n | _ | _
  · rw [hp] at h
    simp only at h ⊢
    split at h
    · rename_i he
      rw [if_pos he]
      refine ⟨he, ?_⟩
      have := Lib.parseIntB_bounds hp
      simp at this
      unfold I64; omega
    · cases h
  · rw [hp] at h; cases h
  · rw [hp] at h; cases h
theorem parseW_no {s : List UInt8} (h : (parseW s).2 = false) : parseW s = (0, false) := by
  unfold parseW at h ⊢
  rcases hp : Lib.parseIntB 64 s with n | _ | _
  · rw [hp] at h
    simp only at h ⊢
    split at h
    · cases h
    · rename_i he
      rw [if_neg he]
  · rfl
  · rfl
theorem parseW_I64 (s : List UInt8) : I64 (parseW s).1 := by
  cases h : (parseW s).2 with
  | true => exact (parseW_text h).2
  | false => rw [parseW_no h]; constructor <;> decide
end Go.Proofs.YtpfbljkfbjjlkaaGreatDoor

/- The abstract layer: guards that hang on a test not yet decided. -/
namespace Go.Jq
open Go
section
variable {P : Program} {dst : Option Nat} {op : AOp} {r : List AOper} {K : St → Prop} {t : Fr} {m : Mem} {n : Nat} {want b : Bool} {acc : List Foot} {ms : List Nat}
theorem gateK_split (h1 : b = true → gateK P dst op r K t m n want (.d (.bool true))) (h0 : b = false → gateK P dst op r K t m n want (.d (.bool false))) : gateK P dst op r K t m n want (.d (.bool b)) := by
  cases b
  · exact h0 rfl
  · exact h1 rfl
theorem dGateK_split (h1 : b = true → dGateK P dst op r acc ms K t m n want (.d (.bool true))) (h0 : b = false → dGateK P dst op r acc ms K t m n want (.d (.bool false))) : dGateK P dst op r acc ms K t m n want (.d (.bool b)) := by
  cases b
  · exact h0 rfl
  · exact h1 rfl
end
theorem take_snoc {α : Type} (l : List α) (i : Nat) (h : i < l.length) : l.take (i + 1) = l.take i ++ [l[i]] := by
  rw [List.take_add_one, List.getElem?_eq_getElem h]; rfl
end Go.Jq

/- The document's numbers' texts. -/
namespace Go.Proofs.YtpfbljkfbjjlkaaGreatDoor
open Go Go.Jq
set_option maxRecDepth 100000
set_option linter.unusedSimpArgs false
def dropSeq : Nat → ACode → ACode
  | 0, c => c
  | n + 1, .seq _ b => dropSeq n b
  | _, c => c
theorem digits_at : ∀ k : Fin 10, List.drop k.1 ((48 : UInt8) :: List.take k.1 [49, 50, 51, 52, 53, 54, 55, 56, 57]) = [UInt8.ofNat (48 + k.1)] := by decide
theorem wrap_u64_neg {n : Int} (h0 : -9223372036854775808 ≤ n) (h1 : n < 0) : IntKind.u64.wrap n = n + 18446744073709551616 := by
  unfold IntKind.wrap
  simp only [IntKind.signed, IntKind.bits, Bool.false_and, Bool.false_eq_true, if_false]
  omega
def rtS (u : Nat) (s sg : List UInt8) : St := ⟨[(3, .d (.int .u64 u)), (5, .d (.str s)), (4, .d (.str sg))], [], 0⟩
set_option maxHeartbeats 2000000 in
theorem rt_loop {u0 : Nat} (hu : u0 < 18446744073709551616) {sg : List UInt8} {Q : Exit → St → Prop}
    (hQ : ∀ u s, u < 10 → Lib.decDigits u0 = UInt8.ofNat (48 + u) :: s → Q (.exit 0) (rtS u s sg)) :
    BWP Tryz.prog (mbound []) 37 (.loop ac23L0) (rtS u0 [] sg) Q := by
  refine bwp_fam (ι := { p : Nat × List UInt8 // p.1 ≤ u0 ∧ Lib.decDigits u0 = Lib.decDigits p.1 ++ p.2 ∧ p.2.length + Lib.nDigits p.1 = Lib.nDigits u0 }) (fun p => rtS p.1.1 p.1.2 sg) (fun p => p.1.1) ⟨(u0, []), Nat.le_refl _, by simp, by simp⟩ ?_
  rintro ⟨⟨u, s⟩, hle, he, hln⟩
  simp only at hle he hln ⊢
  have hn0 := nDigits_le 19 u0 (by simp; omega)
  unfold ac23L0 rtS
  by_cases hb : 9 < u
  · have hb' : (9 : Int) < (u : Int) := by omega
    have hr : u % 10 < 10 := Nat.mod_lt _ (by omega)
    have hw : IntKind.i64.wrap ((u % 10 : Nat) : Int) = ((u % 10 : Nat) : Int) := wrap_i64 (by omega) (by omega)
    have hw1 : IntKind.i64.wrap (((u % 10 : Nat) : Int) + 1) = ((u % 10 + 1 : Nat) : Int) := by rw [wrap_i64 (by omega) (by omega)]; rfl
    have hw2 : IntKind.u64.wrap ((u / 10 : Nat) : Int) = ((u / 10 : Nat) : Int) := wrap_u64 (by omega) (by omega)
    have hdg := digits_at ⟨u % 10, hr⟩
    have e1 : (u : Int).tmod 10 = ((u % 10 : Nat) : Int) := rfl
    have e2 : (u : Int).tdiv 10 = ((u / 10 : Nat) : Int) := rfl
    have hd : Lib.decDigits u = Lib.decDigits (u / 10) ++ [UInt8.ofNat (48 + u % 10)] := by rw [Lib.decDigits, dif_neg (by omega)]
    have hnd : Lib.nDigits u = Lib.nDigits (u / 10) + 1 := Lib.nDigits_big (by omega)
    have b1 : 1 + s.length ≤ 9223372036854775807 := by have := Lib.nDigits_pos u; omega
    simp only at hdg
    refine bwp_seq fun K1 hK1 => ?_
    refine bwp_seq fun K hK => bwp_region rfl ?_
    simp -implicitDefEqProofs only [go_sem, ↓reduceIte, hb']
    refine hK _ ?_; clear hK
    refine bwp_cond true (by simp [ev, fget, hb']) (fun _ => ?_) (fun h => nomatch h)
    refine bwp_skip ?_
    refine hK1 _ ?_; clear hK1
    refine bwp_block ?_
    generalize hq : u % 10 = q at *
    have q1 : (0 : Int) ≤ (q : Int) := Int.natCast_nonneg _
    have q2 : q ≤ q + 1 ∧ q + 1 ≤ 10 := by omega
    have q3 : (0 : Int) ≤ ((q + 1 : Nat) : Int) := Int.natCast_nonneg _
    have q4 : q ≤ q + 1 := by omega
    have q5 : q + 1 ≤ 10 := by omega
    refine bwp_seq fun K hK => bwp_region rfl ?_
    simp -implicitDefEqProofs only [go_sem, ↓reduceIte, e1, hw]
    refine hK _ ?_; clear hK
    refine bwp_seq fun K hK => bwp_region rfl ?_
    simp -implicitDefEqProofs only [go_sem, ↓reduceIte, hw1, q1, q3, Int.toNat_natCast, List.length_cons, List.length_nil, Nat.zero_add, q2, q4, q5, hdg, b1, Option.map_some]
    refine hK _ ?_; clear hK
    refine bwp_region rfl ?_
    simp -implicitDefEqProofs only [go_sem, ↓reduceIte, e2, hw2]
    refine ⟨⟨(u / 10, UInt8.ofNat (48 + q) :: s), by simp only; omega, by simp only; rw [he, hd]; simp, by simp only [List.length_cons]; omega⟩, by simp only; omega, ?_⟩
    exact Leads.ent [] ⟨by simp [entT, fget, AV.ren, renL, pget, rtS], by simp [entM, rtS], rfl, rfl⟩
  · have hb' : ¬ (9 : Int) < (u : Int) := by omega
    refine bwp_seq fun K1 hK1 => ?_
    refine bwp_seq fun K hK => bwp_region rfl ?_
    simp -implicitDefEqProofs only [go_sem, ↓reduceIte, hb']
    refine hK _ ?_; clear hK
    refine bwp_cond false (by simp [ev, fget, hb']) (fun h => nomatch h) (fun _ => ?_)
    refine bwp_leads (S' := rtS u s sg) (Leads.ent [] ⟨by simp [entT, fget, AV.ren, renL, pget, rtS], by simp [entM, pinv, mget, mset, renL, AV.ren, pget, renL_append, -List.map_map, rtS], rfl, rfl⟩) ?_
    refine bwp_exit (hQ u s (by omega) ?_)
    rw [he, Lib.decDigits, dif_pos (by omega)]
    rfl
set_option maxHeartbeats 2000000 in
theorem refText_pure {n : Int} (h : I64 n) : Pure Tryz.prog 23 [.d (.int .i64 n)] (.d (.str (Lib.itoa n))) := by
  obtain ⟨h0, h1⟩ := h
  have hfin : ∀ (S : St) (sg : List UInt8) (K : St → Prop), sg.length ≤ 1 → Lib.itoa n = sg ++ Lib.decDigits n.natAbs → Leads (mbound []) 37 S ⟨[(3, .d (.int .u64 n.natAbs)), (4, .d (.str sg))], [], 0⟩ →
      (∀ S', BWP Tryz.prog (mbound []) 37 (dropSeq 4 ac23) S' (AEnd Tryz.prog #[.tmp 2] (mbound []) fun r m' => r = .d (.str (Lib.itoa n)) ∧ m' = []) → K S') → K S := by
    intro S sg K hsg hit hS hK
    refine hK _ ?_; clear hK
    refine bwp_leads hS ?_
    unfold ac23
    simp only [dropSeq]
    refine bwp_seq fun K hK => bwp_region rfl ?_
    simp -implicitDefEqProofs only [go_sem, ↓reduceIte]
    refine hK _ ?_; clear hK
    refine bwp_seq fun K1 hK1 => ?_
    refine bwp_block ?_
    refine bwp_leads (S' := rtS n.natAbs [] sg) (Leads.ent [] ⟨by simp [entT, fget, AV.ren, renL, pget, rtS], by simp [entM, pinv, mget, mset, renL, AV.ren, pget, renL_append, -List.map_map, rtS], rfl, rfl⟩) ?_
    refine rt_loop (by omega) ?_
    intro u s hu hd
    have hl := itoa_len (n := n) ⟨h0, h1⟩
    rw [hit, hd] at hl
    simp only [List.length_append, List.length_cons] at hl
    unfold rtS
    simp -implicitDefEqProofs only [go_sem, ↓reduceIte]
    refine hK1 _ ?_; clear hK1
    have hw : IntKind.i64.wrap (u : Int) = (u : Int) := wrap_i64 (by omega) (by omega)
    have hw1 : IntKind.i64.wrap ((u : Int) + 1) = ((u + 1 : Nat) : Int) := by rw [wrap_i64 (by omega) (by omega)]; rfl
    have hdg := digits_at ⟨u, hu⟩
    simp only at hdg
    have q1 : (0 : Int) ≤ (u : Int) := Int.natCast_nonneg _
    have q3 : (0 : Int) ≤ ((u + 1 : Nat) : Int) := Int.natCast_nonneg _
    have q4 : u ≤ u + 1 := by omega
    have q5 : u + 1 ≤ 10 := by omega
    have q2 : u ≤ u + 1 ∧ u + 1 ≤ 10 := ⟨q4, q5⟩
    have b1 : sg.length + 1 ≤ 9223372036854775807 := by omega
    have b2 : sg.length + 1 + s.length ≤ 9223372036854775807 := by omega
    refine bwp_seq fun K hK => bwp_region rfl ?_
    simp -implicitDefEqProofs only [go_sem, ↓reduceIte, hw]
    refine hK _ ?_; clear hK
    refine bwp_seq fun K hK => bwp_region rfl ?_
    simp -implicitDefEqProofs only [go_sem, ↓reduceIte, hw1, q1, q3, Int.toNat_natCast, List.length_cons, List.length_nil, List.length_append, Nat.zero_add, q2, q4, q5, hdg, b1, b2, Option.map_some]
    refine hK _ ?_; clear hK
    refine bwp_ret ?_
    simp only [go_sem]
    refine aend_ret _ rfl rfl ⟨?_, rfl⟩
    simp [fget, hit, hd]
  refine acalls_of Tryz.func23 ac23_ok Tryz.ntmps23 Tryz.results23 rfl ?_
  unfold ac23
  refine bwp_seq fun K hK => bwp_region rfl ?_
  simp -implicitDefEqProofs only [go_sem, ↓reduceIte]
  refine hK _ ?_; clear hK
  by_cases hn : n < 0
  · have hw := wrap_u64_neg h0 hn
    have hw2 : IntKind.u64.wrap (0 - (n + 18446744073709551616)) = (n.natAbs : Int) := by
      unfold IntKind.wrap
      simp only [IntKind.signed, IntKind.bits, Bool.false_and, Bool.false_eq_true, if_false]
      omega
    refine bwp_seq fun K hK => bwp_region rfl ?_
    simp -implicitDefEqProofs only [go_sem, ↓reduceIte, hw]
    refine hK _ ?_; clear hK
    refine bwp_seq fun K hK => bwp_region rfl ?_
    simp -implicitDefEqProofs only [go_sem, ↓reduceIte]
    refine hK _ ?_; clear hK
    refine bwp_seq fun K0 hK0 => ?_
    refine bwp_seq fun K hK => bwp_region rfl ?_
    simp -implicitDefEqProofs only [go_sem, ↓reduceIte, hn]
    refine hK _ ?_; clear hK
    refine bwp_cond true (by simp [ev, fget, hn]) (fun _ => ?_) (fun h => nomatch h)
    refine bwp_seq fun K hK => bwp_region rfl ?_
    simp -implicitDefEqProofs only [go_sem, ↓reduceIte, hw2]
    refine hK _ ?_; clear hK
    refine bwp_region rfl ?_
    simp -implicitDefEqProofs only [go_sem, ↓reduceIte]
    refine hfin _ [45] K0 (by simp) (by simp [Lib.itoa, hn]) ?_ hK0
    exact Leads.ent [] ⟨by simp [entT, fget, AV.ren, renL, pget], by simp [entM], rfl, rfl⟩
  · have hw : IntKind.u64.wrap n = (n.natAbs : Int) := by rw [wrap_u64 (by omega) (by omega)]; omega
    refine bwp_seq fun K hK => bwp_region rfl ?_
    simp -implicitDefEqProofs only [go_sem, ↓reduceIte, hw]
    refine hK _ ?_; clear hK
    refine bwp_seq fun K hK => bwp_region rfl ?_
    simp -implicitDefEqProofs only [go_sem, ↓reduceIte]
    refine hK _ ?_; clear hK
    refine bwp_seq fun K0 hK0 => ?_
    refine bwp_seq fun K hK => bwp_region rfl ?_
    simp -implicitDefEqProofs only [go_sem, ↓reduceIte, hn]
    refine hK _ ?_; clear hK
    refine bwp_cond false (by simp [ev, fget, hn]) (fun h => nomatch h) (fun _ => ?_)
    refine bwp_skip ?_
    refine hfin _ [] K0 (by simp) (by have : n.toNat = n.natAbs := by omega
                                      simp [Lib.itoa, hn, this]) ?_ hK0
    exact Leads.ent [] ⟨by simp [entT, fget, AV.ren, renL, pget], by simp [entM], rfl, rfl⟩
end Go.Proofs.YtpfbljkfbjjlkaaGreatDoor

/- The document's numbers of texts. -/
namespace Go.Proofs.YtpfbljkfbjjlkaaGreatDoor
open Go Go.Jq
set_option maxRecDepth 100000
set_option linter.unusedSimpArgs false
def digB (c : UInt8) : Bool := decide (48 ≤ c.toNat) && decide (c.toNat ≤ 57)
def valD (d : List UInt8) : Nat := d.foldl (fun a c => 10 * a + (c.toNat - 48)) 0
theorem valD_snoc (d : List UInt8) (c : UInt8) : valD (d ++ [c]) = 10 * valD d + (c.toNat - 48) := by simp [valD, List.foldl_append]
theorem digB_ofNat {k : Nat} (h : k < 10) : digB (UInt8.ofNat (48 + k)) = true ∧ (UInt8.ofNat (48 + k)).toNat - 48 = k := by
  have h1 : (UInt8.ofNat (48 + k)).toNat = 48 + k := by simp; omega
  unfold digB
  rw [h1]
  simp
  omega
theorem dig_dec (u : Nat) : (Lib.decDigits u).all digB = true ∧ valD (Lib.decDigits u) = u := by
  induction u using Nat.strongRecOn with
  | _ u ih =>
    by_cases h : u < 10
    · rw [Lib.decDigits_one h]
      obtain ⟨h1, h2⟩ := digB_ofNat h
      refine ⟨by rw [List.all_cons, h1]; rfl, ?_⟩
      have := valD_snoc [] (UInt8.ofNat (48 + u))
      rw [List.nil_append] at this
      rw [this, h2]
      simp [valD]
    · obtain ⟨h1, h2⟩ := digB_ofNat (Nat.mod_lt u (by decide : 0 < 10))
      obtain ⟨i1, i2⟩ := ih (u / 10) (by omega)
      rw [Lib.decDigits, dif_neg h]
      refine ⟨by rw [List.all_append, i1, List.all_cons, h1]; rfl, ?_⟩
      rw [valD_snoc, i2, h2]
      omega
end Go.Proofs.YtpfbljkfbjjlkaaGreatDoor

/- Tokens of a text: what they are, in plain words. -/
namespace Go.Proofs.YtpfbljkfbjjlkaaGreatDoor
open Go Go.Jq
set_option maxRecDepth 100000
set_option linter.unusedSimpArgs false
structure Tok where
  kd : Int
  tx : List UInt8
  pl : Nat
  deriving DecidableEq
def Tok.cells (t : Tok) : List DV := [.int .i64 t.kd, .str t.tx, .int .i64 t.pl]
def blankB (c : UInt8) : Bool := c == 32 || c == 9 || c == 10
def letB (c : UInt8) : Bool := decide (97 ≤ c.toNat) && decide (c.toNat ≤ 122)
def alnB (c : UInt8) : Bool := letB c || digB c
def skipN : Bool → List UInt8 → Nat
  | _, [] => 0
  | true, c :: r => 1 + skipN (c != 10) r
  | false, c :: r => if blankB c = true then 1 + skipN false r else if c = 35 then 1 + skipN true r else 0
def skipA (s : List UInt8) (at' : Nat) : Nat := at' + skipN false (s.drop at')
def runL : List UInt8 → Nat
  | [] => 0
  | c :: r => if alnB c = true then 1 + runL r else 0
def ones : List UInt8 := [123, 125, 59, 58, 61, 43, 45, 42, 38, 124, 94, 60]
def signL : List UInt8 → Nat
  | [] => 0
  | c :: r =>
    if (c = 60 ∧ r.head? = some 60) ∨ (c = 62 ∧ r.head? = some 62) ∨ ((c = 61 ∨ c = 33) ∧ r.head? = some 61) then 2
    else if c ∈ ones then 1 else 0
def noTok : Tok := ⟨0, [], 0⟩
def tokAt (a : Nat) : List UInt8 → Tok × Nat × Int
  | [] => (⟨4, [], a⟩, a, 0)
  | c :: r =>
    if letB c = true then (⟨1, c :: r.take (runL r), a⟩, a + (1 + runL r), 0)
    else if digB c = true ∨ (c = 45 ∧ (r.head?.map digB).getD false = true) then
      (if (parseW (c :: r.take (runL r))).2 = true then (⟨2, c :: r.take (runL r), a⟩, a + (1 + runL r), 0) else (noTok, a, 5))
    else if signL (c :: r) = 0 then (noTok, a, 4)
    else (⟨3, (c :: r).take (signL (c :: r)), a⟩, a + signL (c :: r), 0)
def nextW (s : List UInt8) (at' : Nat) : Tok × Nat × Int := tokAt (skipA s at') (s.drop (skipA s at'))
def errAt (s : List UInt8) (at' : Nat) : Nat := if (nextW s at').2.2 = 0 then 0 else skipA s at'
theorem skipN_le : ∀ (b : Bool) (l : List UInt8), skipN b l ≤ l.length
  | _, [] => by simp [skipN]
  | true, c :: r => by have := skipN_le (c != 10) r; simp only [skipN, List.length_cons]; omega
  | false, c :: r => by
    have h1 := skipN_le false r
    have h2 := skipN_le true r
    simp only [skipN, List.length_cons]
    split
    · omega
    · split <;> omega
theorem skipA_le {s : List UInt8} {a : Nat} (h : a ≤ s.length) : skipA s a ≤ s.length := by
  have := skipN_le false (s.drop a)
  rw [List.length_drop] at this
  unfold skipA
  omega
theorem le_skipA (s : List UInt8) (a : Nat) : a ≤ skipA s a := Nat.le_add_right ..
theorem runL_le : ∀ l : List UInt8, runL l ≤ l.length
  | [] => by simp [runL]
  | c :: r => by have := runL_le r; simp only [runL, List.length_cons]; split <;> omega
theorem signL_le : ∀ l : List UInt8, signL l ≤ l.length ∧ signL l ≤ 2
  | [] => by simp [signL]
  | c :: r => by
    rw [signL]
    split
    · rename_i h
      cases r with
      | nil => simp at h
      | cons d r => simp
    · split <;> simp
theorem tokAt_to (a : Nat) (l : List UInt8) : a ≤ (tokAt a l).2.1 ∧ (tokAt a l).2.1 ≤ a + l.length ∧ ((tokAt a l).2.2 = 0 → (tokAt a l).1.kd ≠ 4 → a < (tokAt a l).2.1) := by
  cases l with
  | nil => simp [tokAt]
  | cons c r =>
    have h1 := runL_le r
    have h2 := signL_le (c :: r)
    rw [tokAt]
    simp only [List.length_cons] at h2 ⊢
    split
    · simp only; omega
    · split
      · split
        · simp only; omega
        · simp
      · split
        · simp
        · simp only; omega
theorem nextW_to {s : List UInt8} {a : Nat} (h : a ≤ s.length) : a ≤ (nextW s a).2.1 ∧ (nextW s a).2.1 ≤ s.length ∧ ((nextW s a).2.2 = 0 → (nextW s a).1.kd ≠ 4 → a < (nextW s a).2.1) := by
  have h1 := tokAt_to (skipA s a) (s.drop (skipA s a))
  have h2 := skipA_le h
  have h3 := le_skipA s a
  rw [List.length_drop] at h1
  unfold nextW
  refine ⟨by omega, by omega, fun h4 h5 => ?_⟩
  have := h1.2.2 h4 h5
  omega
theorem tokAt_text (a : Nat) (l : List UInt8) (h : (tokAt a l).2.2 = 0) : (tokAt a l).1.pl = a ∧ (tokAt a l).1.tx = l.take ((tokAt a l).2.1 - a) ∧ (tokAt a l).2.1 = a + (tokAt a l).1.tx.length ∧ ((tokAt a l).1.kd = 4 ↔ l = []) := by
  cases l with
  | nil => simp [tokAt]
  | cons c r =>
    have h1 := runL_le r
    have h2 := signL_le (c :: r)
    rw [tokAt] at h ⊢
    split
    · simp [Nat.add_sub_cancel_left, Nat.add_comm 1]; omega
    · rename_i hc
      rw [if_neg hc] at h
      split
      · rename_i hd
        rw [if_pos hd] at h
        split
        · simp [Nat.add_sub_cancel_left, Nat.add_comm 1]; omega
        · rename_i hp
          rw [if_neg hp] at h
          cases h
      · rename_i hd
        rw [if_neg hd] at h
        split
        · rename_i hs
          rw [if_pos hs] at h
          cases h
        · simp only [List.length_cons] at h2; simp [Nat.add_sub_cancel_left]; omega
end Go.Proofs.YtpfbljkfbjjlkaaGreatDoor

/- Tokens of a text: plain laws. -/
namespace Go.Proofs.YtpfbljkfbjjlkaaGreatDoor
open Go Go.Jq
set_option maxRecDepth 100000
set_option linter.unusedSimpArgs false
def heads (c : UInt8) : Prop := blankB c = false ∧ c ≠ 35
theorem skip_zero {c : UInt8} (r : List UInt8) (h : heads c) : skipN false (c :: r) = 0 := by
  simp [skipN, h.1, h.2]
theorem let_heads {c : UInt8} (h : letB c = true) : heads c := by
  simp only [letB, Bool.and_eq_true, decide_eq_true_eq] at h
  constructor
  · simp only [blankB, Bool.or_eq_false_iff, beq_eq_false_iff_ne]
    refine ⟨⟨?_, ?_⟩, ?_⟩ <;> (rintro rfl; simp at h)
  · rintro rfl; simp at h
theorem dig_heads {c : UInt8} (h : digB c = true) : heads c := by
  simp only [digB, Bool.and_eq_true, decide_eq_true_eq] at h
  constructor
  · simp only [blankB, Bool.or_eq_false_iff, beq_eq_false_iff_ne]
    refine ⟨⟨?_, ?_⟩, ?_⟩ <;> (rintro rfl; simp at h)
  · rintro rfl; simp at h
end Go.Proofs.YtpfbljkfbjjlkaaGreatDoor

/- Tokens with blanks between: plain laws. -/
namespace Go.Proofs.YtpfbljkfbjjlkaaGreatDoor
open Go Go.Jq
set_option maxRecDepth 100000
set_option linter.unusedSimpArgs false
end Go.Proofs.YtpfbljkfbjjlkaaGreatDoor

/- Rows of tokens: plain laws. -/
namespace Go.Proofs.YtpfbljkfbjjlkaaGreatDoor
open Go Go.Jq
set_option maxRecDepth 100000
set_option linter.unusedSimpArgs false
def TL (s : List UInt8) : Nat → List Tok → Prop
  | _, [] => False
  | a, t :: r => ∃ e, nextW s a = (t, e, 0) ∧ (if t.kd = 4 then r = [] else TL s e r)
theorem next_text {s : List UInt8} {a e : Nat} {t : Tok} (ha : a ≤ s.length) (h : nextW s a = (t, e, 0)) : t.pl = skipA s a ∧ t.tx = (s.drop t.pl).take t.tx.length ∧ e = t.pl + t.tx.length ∧ a ≤ t.pl ∧ e ≤ s.length ∧ (t.kd = 4 ↔ t.pl = s.length) ∧ (t.kd = 4 → t.tx = [] ∧ e = s.length) := by
  have h1 := tokAt_text (skipA s a) (s.drop (skipA s a)) (by unfold nextW at h; rw [h])
  have h2 := nextW_to ha
  have h3 := skipA_le ha
  have h4 := le_skipA s a
  unfold nextW at h
  rw [h] at h1
  rw [show nextW s a = (t, e, 0) from h] at h2
  simp only at h1 h2
  obtain ⟨p1, p2, p3, p4⟩ := h1
  have hk : t.kd = 4 ↔ t.pl = s.length := by
    rw [p4, p1]
    constructor
    · intro h5
      have := congrArg List.length h5
      rw [List.length_drop, List.length_nil] at this
      omega
    · intro h5; rw [h5, List.drop_length]
  have ht : t.tx = (s.drop t.pl).take t.tx.length := by
    have : e - skipA s a = t.tx.length := by omega
    rw [p1, ← this]
    exact p2
  refine ⟨p1, ht, by omega, by omega, h2.2.1, hk, fun h5 => ?_⟩
  have h6 := hk.1 h5
  have : t.tx = [] := by
    rw [ht, h6, List.drop_length, List.take_nil]
  refine ⟨this, ?_⟩
  rw [this] at p3
  simp at p3
  omega
end Go.Proofs.YtpfbljkfbjjlkaaGreatDoor

/- The functions' code with its types resolved, as the layer's 'cCode' gives it. Written by a program of this session's (wip/x/dump.lean). -/
namespace Go.Proofs.YtpfbljkfbjjlkaaGreatDoor
open Go Go.Jq
set_option maxRecDepth 100000
-- 3 jacquard/jacquardlaw3.ParseTurned
-- 7 jacquard/jacquardref2.Print
def ac7L0 : ACode := (.seq (.seq (.region false [ oM 20 (.mv (.t 4)), oM 21 (.faddr (.t 1) 1), oM 22 (.load none (.t 21)), oM 23 (.lenl (.t 22)), oM 24 (.bin .lss (.t 20) (.t 23))] []) (.cond (.t 24) .skip (.exit 0))) (.seq (.block 1 (.region true [ oM 27 (.mv (.t 3)), oM 28 (.faddr (.t 1) 1), oM 29 (.load none (.t 28)), oM 30 (.mv (.t 4)), oM 31 (.iaddr 2 none (.t 29) (.t 30)), oM 32 (.faddr (.t 31) 0), oM 33 (.load none (.t 32)), oM 34 (.callf 22 [(.t 33)]), oM 35 (.bin .add (.t 27) (.t 34)), oM 36 (.bin .add (.t 35) (.c (.d (.str [32, 61, 32])))), oM 37 (.faddr (.t 1) 1), oM 38 (.load none (.t 37)), oM 39 (.mv (.t 4)), oM 40 (.iaddr 2 none (.t 38) (.t 39)), oM 41 (.faddr (.t 40) 1), oM 42 (.load none (.t 41)), oM 43 (.callf 23 [(.t 42)]), oM 44 (.bin .add (.t 36) (.t 43)), oM 45 (.bin .add (.t 44) (.c (.d (.str [32, 59, 10])))), oM 3 (.mv (.t 45))] [0, 0, 2, 0, 12, 16, 32, 64, 129, 256, 0, 1024, 0, 6144, 8192, 16384, 32896, 66048, 131072, 524287])) (.region false [ oM 25 (.mv (.t 4)), oM 26 (.bin .add (.t 25) (.c (.d (.int .i64 1)))), oM 4 (.mv (.t 26))] [])))
def ac7L1 : ACode := (.seq (.seq (.region false [ oM 57 (.mv (.t 6)), oM 58 (.faddr (.t 1) 2), oM 59 (.load none (.t 58)), oM 60 (.mv (.t 5)), oM 61 (.iaddr 1 none (.t 59) (.t 60)), oM 62 (.load none (.t 61)), oM 63 (.lenl (.t 62)), oM 64 (.bin .lss (.t 57) (.t 63))] []) (.cond (.t 64) .skip (.exit 4))) (.seq (.block 5 (.region false [ oM 67 (.mv (.t 3)), oM 68 (.faddr (.t 1) 2), oM 69 (.load none (.t 68)), oM 70 (.mv (.t 5)), oM 71 (.iaddr 1 none (.t 69) (.t 70)), oM 72 (.load none (.t 71)), oM 73 (.mv (.t 6)), oM 74 (.iaddr 9 none (.t 72) (.t 73)), oM 75 (.load (some 9) (.t 74)), oM 76 (.callf 24 [(.t 75)]), oM 77 (.bin .add (.t 67) (.t 76)), oM 78 (.bin .add (.t 77) (.c (.d (.str [10])))), oM 3 (.mv (.t 78))] [])) (.region false [ oM 65 (.mv (.t 6)), oM 66 (.bin .add (.t 65) (.c (.d (.int .i64 1)))), oM 6 (.mv (.t 66))] [])))
def ac7L2 : ACode := (.seq (.seq (.region false [ oM 48 (.mv (.t 5)), oM 49 (.faddr (.t 1) 2), oM 50 (.load none (.t 49)), oM 51 (.lenl (.t 50)), oM 52 (.bin .lss (.t 48) (.t 51))] []) (.cond (.t 52) .skip (.exit 2))) (.seq (.block 3 (.seq (.region false [ oM 55 (.mv (.t 3)), oM 56 (.bin .add (.t 55) (.c (.d (.str [116, 104, 114, 101, 97, 100, 32, 123, 10])))), oM 3 (.mv (.t 56))] []) (.seq (.seq (.region false [ oM 6 (.mv (.c (.d (.int .i64 0))))] []) (.block 4 (.loop ac7L1))) (.region false [ oM 79 (.mv (.t 3)), oM 80 (.bin .add (.t 79) (.c (.d (.str [125, 10])))), oM 3 (.mv (.t 80))] [])))) (.region false [ oM 53 (.mv (.t 5)), oM 54 (.bin .add (.t 53) (.c (.d (.int .i64 1)))), oM 5 (.mv (.t 54))] [])))
def ac7 : ACode := (.seq (.region false [ oM 1 (.box (.t 0)), oM 2 (.mv (.c (.d (.str []))))] []) (.seq (.seq (.region false [ oM 7 (.load (some 5) (.t 1)), oM 8 (.callf 21 [(.t 7)]), oM 9 (.un .not (.t 8))] []) (.cond (.t 9) (.seq (.region false [ oM 2 (.mv (.c (.d (.str []))))] []) .ret) .skip)) (.seq (.region false [ oM 10 (.faddr (.t 1) 0), oM 11 (.load none (.t 10)), oM 12 (.bin .add (.c (.d (.str [116, 101, 115, 116, 32]))) (.t 11)), oM 13 (.bin .add (.t 12) (.c (.d (.str [32, 123, 10])))), oM 3 (.mv (.t 13))] []) (.seq (.seq (.region false [ oM 14 (.faddr (.t 1) 1), oM 15 (.load none (.t 14)), oM 16 (.lenl (.t 15)), oM 17 (.bin .gtr (.t 16) (.c (.d (.int .i64 0))))] []) (.cond (.t 17) (.seq (.region false [ oM 18 (.mv (.t 3)), oM 19 (.bin .add (.t 18) (.c (.d (.str [105, 110, 105, 116, 32, 123, 10])))), oM 3 (.mv (.t 19))] []) (.seq (.seq (.region false [ oM 4 (.mv (.c (.d (.int .i64 0))))] []) (.block 0 (.loop ac7L0))) (.region false [ oM 46 (.mv (.t 3)), oM 47 (.bin .add (.t 46) (.c (.d (.str [125, 10])))), oM 3 (.mv (.t 47))] []))) .skip)) (.seq (.seq (.region false [ oM 5 (.mv (.c (.d (.int .i64 0))))] []) (.block 2 (.loop ac7L2))) (.seq (.seq (.region false [ oM 81 (.faddr (.t 1) 3), oM 82 (.faddr (.t 81) 0), oM 83 (.load none (.t 82)), oM 84 (.bin .neq (.t 83) (.c (.d (.int .i64 0))))] []) (.cond (.t 84) (.region false [ oM 85 (.mv (.t 3)), oM 86 (.faddr (.t 1) 3), oM 87 (.load (some 2) (.t 86)), oM 88 (.callf 25 [(.t 87)]), oM 89 (.bin .add (.t 85) (.t 88)), oM 90 (.bin .add (.t 89) (.c (.d (.str [10])))), oM 3 (.mv (.t 90))] []) .skip)) (.seq (.region false [ oM 91 (.mv (.t 3)), oM 92 (.bin .add (.t 91) (.c (.d (.str [125, 10])))), oM 2 (.mv (.t 92))] []) .ret)))))))
theorem ac7_ok : Tryz.f7.body.bind (cCode Tryz.prog Tryz.f7.ntmps) = some ac7 := by kernel_rfl
-- 8 jacquard/jacquardlaw3.Small
def ac8L0 : ACode := (.seq (.seq (.region false [ oM 51 (.mv (.t 13)), oM 52 (.bin .gtr (.t 51) (.c (.d (.int .i64 0)))), oM 53 (.mv (.t 52)), oG 54 (.mv (.t 10)) 53 true, oG 55 (.mv (.t 1)) 53 true, oG 56 (.bin .lss (.t 54) (.t 55)) 53 true, oM 57 (.pick (.t 53) (.t 56) (.c (.d (.bool false))))] []) (.cond (.t 57) .skip (.exit 2))) (.seq (.block 3 (.seq (.region false [ oM 60 (.mv (.t 7)), oM 61 (.callv (.t 60) []), oM 14 (.mv (.t 61))] []) (.seq (.region false [ oM 62 (.mv (.t 14)), oM 63 (.bin .shr (.t 62) (.c (.d (.int .u64 4)))), oM 64 (.mv (.t 9)), oM 65 (.bin .rem (.t 63) (.t 64)), oM 66 (.bin .add (.c (.d (.int .i64 120))) (.t 65)), oM 15 (.mv (.t 66))] []) (.seq (.region false [ oM 67 (.mv (.t 14)), oM 68 (.bin .shr (.t 67) (.c (.d (.int .u64 6)))), oM 69 (.bin .rem (.t 68) (.c (.d (.int .i64 3)))), oM 70 (.build [.d (.int .i64 0), .d (.int .i64 0)] [(0, 1, (.c (.d (.int .i64 (-1))))), (1, 1, (.t 69))]), oM 16 (.alloc [.d (.int .i64 0), .d (.int .i64 0)]), ⟨none, .store 2 (.t 16) (.t 70), none⟩] []) (.seq (.seq (.region false [ oM 71 (.mv (.t 14)), oM 72 (.bin .shr (.t 71) (.c (.d (.int .u64 8)))), oM 73 (.bin .rem (.t 72) (.c (.d (.int .i64 3)))), oM 74 (.bin .eql (.t 73) (.c (.d (.int .i64 0))))] []) (.cond (.t 74) (.region false [ oM 75 (.mv (.t 14)), oM 76 (.bin .shr (.t 75) (.c (.d (.int .u64 10)))), oM 77 (.bin .and (.t 76) (.c (.d (.int .i64 1)))), oM 78 (.build [.d (.int .i64 0), .d (.int .i64 0)] [(0, 1, (.t 77))]), ⟨none, .store 2 (.t 16) (.t 78), none⟩] []) .skip)) (.seq (.region false [ oM 79 (.mv (.t 14)), oM 80 (.bin .shr (.t 79) (.c (.d (.int .u64 11)))), oM 81 (.bin .and (.t 80) (.c (.d (.int .i64 1)))), oM 17 (.mv (.t 81))] []) (.seq (.region false [ oM 82 (.mv (.t 14)), oM 83 (.bin .rem (.t 82) (.c (.d (.int .i64 12))))] []) (.block 4 (.seq (.seq (.region false [ oM 96 (.bin .eql (.t 83) (.c (.d (.int .i64 0)))), oM 95 (.mv (.t 96))] []) (.cond (.t 95) .skip (.seq (.region false [ oM 97 (.bin .eql (.t 83) (.c (.d (.int .i64 1)))), oM 95 (.mv (.t 97))] []) (.cond (.t 95) .skip (.seq (.region false [ oM 98 (.bin .eql (.t 83) (.c (.d (.int .i64 2)))), oM 95 (.mv (.t 98))] []) (.cond (.t 95) .skip (.region false [ oM 99 (.bin .eql (.t 83) (.c (.d (.int .i64 3)))), oM 95 (.mv (.t 99))] []))))))) (.cond (.t 95) (.seq (.region false [ oM 100 (.mv (.t 12)), oM 101 (.mv (.t 15)), oM 102 (.load (some 2) (.t 16)), oM 103 (.build [.d (.int .i64 0), .d (.int .i64 0), .d (.int .i64 0), .d (.int .i64 0), .d (.int .i64 0), .d (.int .i64 0), .d (.int .i64 0), .d (.int .i64 0), .d (.int .i64 0)] [(0, 1, (.c (.d (.int .i64 1)))), (2, 1, (.t 101)), (3, 2, (.t 102))]), oM 104 (.bslice 9 1 [.d (.int .i64 0), .d (.int .i64 0), .d (.int .i64 0), .d (.int .i64 0), .d (.int .i64 0), .d (.int .i64 0), .d (.int .i64 0), .d (.int .i64 0), .d (.int .i64 0)] [(0, 9, (.t 103))]), oM 105 (.app 9 72 55 (.t 100) (.t 104)), oM 12 (.mv (.t 105))] []) (.region false [ oM 106 (.mv (.t 10)), oM 107 (.bin .add (.t 106) (.c (.d (.int .i64 1)))), oM 10 (.mv (.t 107))] [])) (.seq (.seq (.region false [ oM 109 (.bin .eql (.t 83) (.c (.d (.int .i64 4)))), oM 108 (.mv (.t 109))] []) (.cond (.t 108) .skip (.seq (.region false [ oM 110 (.bin .eql (.t 83) (.c (.d (.int .i64 5)))), oM 108 (.mv (.t 110))] []) (.cond (.t 108) .skip (.seq (.region false [ oM 111 (.bin .eql (.t 83) (.c (.d (.int .i64 6)))), oM 108 (.mv (.t 111))] []) (.cond (.t 108) .skip (.region false [ oM 112 (.bin .eql (.t 83) (.c (.d (.int .i64 7)))), oM 108 (.mv (.t 112))] []))))))) (.cond (.t 108) (.seq (.region false [ oM 113 (.mv (.t 12)), oM 114 (.mv (.t 17)), oM 115 (.mv (.t 15)), oM 116 (.build [.d (.int .i64 0), .d (.int .i64 0), .d (.int .i64 0), .d (.int .i64 0), .d (.int .i64 0), .d (.int .i64 0), .d (.int .i64 0), .d (.int .i64 0), .d (.int .i64 0)] [(0, 1, (.c (.d (.int .i64 2)))), (1, 1, (.t 114)), (2, 1, (.t 115))]), oM 117 (.bslice 9 1 [.d (.int .i64 0), .d (.int .i64 0), .d (.int .i64 0), .d (.int .i64 0), .d (.int .i64 0), .d (.int .i64 0), .d (.int .i64 0), .d (.int .i64 0), .d (.int .i64 0)] [(0, 9, (.t 116))]), oM 118 (.app 9 72 55 (.t 113) (.t 117)), oM 12 (.mv (.t 118))] []) (.region false [ oM 119 (.mv (.t 10)), oM 120 (.bin .add (.t 119) (.c (.d (.int .i64 1)))), oM 10 (.mv (.t 120))] [])) (.seq (.region false [ oM 122 (.bin .eql (.t 83) (.c (.d (.int .i64 8)))), oM 121 (.mv (.t 122))] []) (.cond (.t 121) (.region false [ oM 123 (.mv (.t 12)), oM 124 (.build [.d (.int .i64 0), .d (.int .i64 0), .d (.int .i64 0), .d (.int .i64 0), .d (.int .i64 0), .d (.int .i64 0), .d (.int .i64 0), .d (.int .i64 0), .d (.int .i64 0)] [(0, 1, (.c (.d (.int .i64 3))))]), oM 125 (.bslice 9 1 [.d (.int .i64 0), .d (.int .i64 0), .d (.int .i64 0), .d (.int .i64 0), .d (.int .i64 0), .d (.int .i64 0), .d (.int .i64 0), .d (.int .i64 0), .d (.int .i64 0)] [(0, 9, (.t 124))]), oM 126 (.app 9 72 55 (.t 123) (.t 125)), oM 12 (.mv (.t 126))] []) (.seq (.region false [ oM 128 (.bin .eql (.t 83) (.c (.d (.int .i64 9)))), oM 127 (.mv (.t 128))] []) (.cond (.t 127) (.seq (.region false [ oM 129 (.mv (.t 12)), oM 130 (.mv (.t 17)), oM 131 (.mv (.t 15)), oM 132 (.load (some 2) (.t 16)), oM 133 (.build [.d (.int .i64 0), .d (.int .i64 0)] [(0, 1, (.c (.d (.int .i64 (-1))))), (1, 1, (.c (.d (.int .i64 1))))]), oM 134 (.build [.d (.int .i64 0), .d (.int .i64 0), .d (.int .i64 0), .d (.int .i64 0), .d (.int .i64 0), .d (.int .i64 0), .d (.int .i64 0), .d (.int .i64 0), .d (.int .i64 0)] [(0, 1, (.c (.d (.int .i64 4)))), (1, 1, (.t 130)), (2, 1, (.t 131)), (3, 2, (.t 132)), (6, 2, (.t 133))]), oM 135 (.bslice 9 1 [.d (.int .i64 0), .d (.int .i64 0), .d (.int .i64 0), .d (.int .i64 0), .d (.int .i64 0), .d (.int .i64 0), .d (.int .i64 0), .d (.int .i64 0), .d (.int .i64 0)] [(0, 9, (.t 134))]), oM 136 (.app 9 72 55 (.t 129) (.t 135)), oM 12 (.mv (.t 136))] []) (.region false [ oM 137 (.mv (.t 10)), oM 138 (.bin .add (.t 137) (.c (.d (.int .i64 1)))), oM 10 (.mv (.t 138))] [])) (.seq (.region false [ oM 140 (.bin .eql (.t 83) (.c (.d (.int .i64 10)))), oM 139 (.mv (.t 140))] []) (.cond (.t 139) (.region false [ oM 141 (.mv (.t 12)), oM 142 (.mv (.t 17)), oM 143 (.load (some 2) (.t 16)), oM 144 (.build [.d (.int .i64 0), .d (.int .i64 0)] [(0, 1, (.c (.d (.int .i64 (-1))))), (1, 1, (.c (.d (.int .i64 1))))]), oM 145 (.build [.d (.int .i64 0), .d (.int .i64 0), .d (.int .i64 0), .d (.int .i64 0), .d (.int .i64 0), .d (.int .i64 0), .d (.int .i64 0), .d (.int .i64 0), .d (.int .i64 0)] [(0, 1, (.c (.d (.int .i64 5)))), (1, 1, (.t 142)), (3, 2, (.t 143)), (5, 1, (.c (.d (.int .i64 6)))), (6, 2, (.t 144))]), oM 146 (.bslice 9 1 [.d (.int .i64 0), .d (.int .i64 0), .d (.int .i64 0), .d (.int .i64 0), .d (.int .i64 0), .d (.int .i64 0), .d (.int .i64 0), .d (.int .i64 0), .d (.int .i64 0)] [(0, 9, (.t 145))]), oM 147 (.app 9 72 55 (.t 141) (.t 146)), oM 12 (.mv (.t 147))] []) (.seq (.region false [ oM 84 (.mv (.t 12)), oM 85 (.load (some 2) (.t 16)), oM 86 (.build [.d (.int .i64 0), .d (.int .i64 0)] [(0, 1, (.c (.d (.int .i64 (-1)))))]), oM 87 (.build [.d (.int .i64 0), .d (.int .i64 0), .d (.int .i64 0), .d (.int .i64 0), .d (.int .i64 0), .d (.int .i64 0), .d (.int .i64 0), .d (.int .i64 0), .d (.int .i64 0)] [(0, 1, (.c (.d (.int .i64 6)))), (3, 2, (.t 85)), (6, 2, (.t 86)), (8, 1, (.c (.d (.int .i64 1))))]), oM 88 (.mv (.t 15)), oM 89 (.build [.d (.int .i64 0), .d (.int .i64 0)] [(0, 1, (.c (.d (.int .i64 (-1))))), (1, 1, (.c (.d (.int .i64 2))))]), oM 90 (.build [.d (.int .i64 0), .d (.int .i64 0), .d (.int .i64 0), .d (.int .i64 0), .d (.int .i64 0), .d (.int .i64 0), .d (.int .i64 0), .d (.int .i64 0), .d (.int .i64 0)] [(0, 1, (.c (.d (.int .i64 1)))), (2, 1, (.t 88)), (3, 2, (.t 89))]), oM 91 (.bslice 9 2 [.d (.int .i64 0), .d (.int .i64 0), .d (.int .i64 0), .d (.int .i64 0), .d (.int .i64 0), .d (.int .i64 0), .d (.int .i64 0), .d (.int .i64 0), .d (.int .i64 0), .d (.int .i64 0), .d (.int .i64 0), .d (.int .i64 0), .d (.int .i64 0), .d (.int .i64 0), .d (.int .i64 0), .d (.int .i64 0), .d (.int .i64 0), .d (.int .i64 0)] [(0, 9, (.t 87)), (9, 9, (.t 90))]), oM 92 (.app 9 72 55 (.t 84) (.t 91)), oM 12 (.mv (.t 92))] []) (.region false [ oM 93 (.mv (.t 10)), oM 94 (.bin .add (.t 93) (.c (.d (.int .i64 1)))), oM 10 (.mv (.t 94))] [])))))))))))))))))))) (.region false [ oM 58 (.mv (.t 13)), oM 59 (.bin .sub (.t 58) (.c (.d (.int .i64 1)))), oM 13 (.mv (.t 59))] [])))
def ac8L1 : ACode := (.seq (.seq (.region false [ oM 42 (.mv (.t 11)), oM 43 (.mv (.t 8)), oM 44 (.bin .lss (.t 42) (.t 43))] []) (.cond (.t 44) .skip (.exit 0))) (.seq (.block 1 (.seq (.region false [ oM 12 (.mv (.c (.d .nsl)))] []) (.seq (.seq (.region false [ oM 47 (.mv (.t 7)), oM 48 (.callv (.t 47) []), oM 49 (.bin .rem (.t 48) (.c (.d (.int .i64 3)))), oM 50 (.bin .add (.t 49) (.c (.d (.int .i64 1)))), oM 13 (.mv (.t 50))] []) (.block 2 (.loop ac8L0))) (.region false [ oM 148 (.faddr (.t 5) 2), oM 149 (.load none (.t 148)), oM 150 (.mv (.t 12)), oM 151 (.bslice 1 1 [.d .nsl] [(0, 1, (.t 150))]), oM 152 (.app 1 24 50 (.t 149) (.t 151)), oM 153 (.faddr (.t 5) 2), ⟨none, .store 1 (.t 153) (.t 152), none⟩] [])))) (.region false [ oM 45 (.mv (.t 11)), oM 46 (.bin .add (.t 45) (.c (.d (.int .i64 1)))), oM 11 (.mv (.t 46))] [])))
def ac8 : ACode := (.seq (.region false [ oM 2 (.box (.t 0)), oM 4 (.alloc [.d (.str []), .d .nsl, .d .nsl, .d (.int .i64 0), .d .nsl])] []) (.seq (.region false [ oM 19 (.build [.d (.str []), .d .nsl, .d .nsl, .d (.int .i64 0), .d .nsl] [(0, 1, (.c (.d (.str [116]))))]), oM 5 (.alloc [.d (.str []), .d .nsl, .d .nsl, .d (.int .i64 0), .d .nsl]), ⟨none, .store 5 (.t 5) (.t 19), none⟩] []) (.seq (.region false [ oM 6 (.alloc [.d (.int .i64 0)]), ⟨none, .store 1 (.t 6) (.c (.d (.int .i64 0))), none⟩] []) (.seq (.region false [ oM 20 (.mkfn 26 [(.t 6), (.t 2)]), oM 7 (.mv (.t 20))] []) (.seq (.region false [ oM 21 (.mv (.t 7)), oM 22 (.callv (.t 21) []), oM 23 (.bin .rem (.t 22) (.c (.d (.int .i64 2)))), oM 24 (.bin .add (.t 23) (.c (.d (.int .i64 2)))), oM 8 (.mv (.t 24))] []) (.seq (.region false [ oM 25 (.mv (.t 7)), oM 26 (.callv (.t 25) []), oM 27 (.bin .rem (.t 26) (.c (.d (.int .i64 2)))), oM 28 (.bin .add (.t 27) (.c (.d (.int .i64 2)))), oM 9 (.mv (.t 28))] []) (.seq (.seq (.region false [ oM 29 (.mv (.t 7)), oM 30 (.callv (.t 29) []), oM 31 (.bin .rem (.t 30) (.c (.d (.int .i64 4)))), oM 32 (.bin .eql (.t 31) (.c (.d (.int .i64 0))))] []) (.cond (.t 32) (.region true [ oM 33 (.faddr (.t 5) 1), oM 34 (.load none (.t 33)), oM 35 (.mv (.t 7)), oM 36 (.callv (.t 35) []), oM 37 (.bin .rem (.t 36) (.c (.d (.int .i64 3)))), oM 38 (.build [.d (.int .i64 0), .d (.int .i64 0)] [(0, 1, (.c (.d (.int .i64 120)))), (1, 1, (.t 37))]), oM 39 (.bslice 2 1 [.d (.int .i64 0), .d (.int .i64 0)] [(0, 2, (.t 38))]), oM 40 (.app 2 16 48 (.t 34) (.t 39)), oM 41 (.faddr (.t 5) 1), ⟨none, .store 1 (.t 41) (.t 40), none⟩] [0, 1, 0, 4, 8, 16, 32, 74, 255, 511]) .skip)) (.seq (.region false [ oM 10 (.mv (.c (.d (.int .i64 0))))] []) (.seq (.seq (.region false [ oM 11 (.mv (.c (.d (.int .i64 0))))] []) (.block 0 (.loop ac8L1))) (.seq (.seq (.region false [ oM 154 (.mv (.t 7)), oM 155 (.callv (.t 154) []), oM 18 (.mv (.t 155))] []) (.seq (.region false [ oM 156 (.mv (.t 18)), oM 157 (.bin .rem (.t 156) (.c (.d (.int .i64 3)))), oM 158 (.bin .eql (.t 157) (.c (.d (.int .i64 0))))] []) (.cond (.t 158) (.region false [ oM 159 (.mv (.t 18)), oM 160 (.bin .quo (.t 159) (.c (.d (.int .i64 3)))), oM 161 (.bin .rem (.t 160) (.c (.d (.int .i64 2)))), oM 162 (.bin .add (.t 161) (.c (.d (.int .i64 1)))), oM 163 (.mv (.t 18)), oM 164 (.bin .shr (.t 163) (.c (.d (.int .u64 3)))), oM 165 (.bin .and (.t 164) (.c (.d (.int .i64 1)))), oM 166 (.mv (.t 18)), oM 167 (.bin .shr (.t 166) (.c (.d (.int .u64 4)))), oM 168 (.bin .and (.t 167) (.c (.d (.int .i64 1)))), oM 169 (.build [.d (.int .i64 0), .d (.int .i64 0), .d (.int .i64 0), .d (.int .i64 0)] [(0, 1, (.c (.d (.int .i64 0)))), (1, 1, (.t 165)), (3, 1, (.t 168))]), oM 170 (.bslice 4 1 [.d (.int .i64 0), .d (.int .i64 0), .d (.int .i64 0), .d (.int .i64 0)] [(0, 4, (.t 169))]), oM 171 (.mv (.t 18)), oM 172 (.bin .shr (.t 171) (.c (.d (.int .u64 5)))), oM 173 (.bin .rem (.t 172) (.c (.d (.int .i64 3)))), oM 174 (.build [.d (.int .i64 0), .d (.int .i64 0), .d (.int .i64 0), .d (.int .i64 0)] [(0, 1, (.c (.d (.int .i64 (-1))))), (2, 1, (.c (.d (.int .i64 120)))), (3, 1, (.t 173))]), oM 175 (.mv (.t 18)), oM 176 (.bin .shr (.t 175) (.c (.d (.int .u64 7)))), oM 177 (.bin .and (.t 176) (.c (.d (.int .i64 1)))), oM 178 (.build [.d (.int .i64 0), .d (.int .i64 0), .d (.int .i64 0), .d (.int .i64 0)] [(0, 1, (.c (.d (.int .i64 1)))), (1, 1, (.c (.d (.int .i64 0)))), (3, 1, (.t 177))]), oM 179 (.bslice 4 2 [.d (.int .i64 0), .d (.int .i64 0), .d (.int .i64 0), .d (.int .i64 0), .d (.int .i64 0), .d (.int .i64 0), .d (.int .i64 0), .d (.int .i64 0)] [(0, 4, (.t 174)), (4, 4, (.t 178))]), oM 180 (.bslice 1 2 [.d .nsl, .d .nsl] [(0, 1, (.t 170)), (1, 1, (.t 179))]), oM 181 (.build [.d (.int .i64 0), .d .nsl] [(0, 1, (.t 162)), (1, 1, (.t 180))]), oM 182 (.faddr (.t 5) 3), ⟨none, .store 2 (.t 182) (.t 181), none⟩] []) .skip))) (.seq (.region false [ oM 183 (.load (some 5) (.t 5)), ⟨none, .store 5 (.t 4) (.t 183), none⟩] []) .ret)))))))))))
theorem ac8_ok : Tryz.f8.body.bind (cCode Tryz.prog Tryz.f8.ntmps) = some ac8 := by kernel_rfl
-- 9 jacquard/parse.Parse
def ac9L0 : ACode := (.seq (.seq (.region false [ oM 32 (.mv (.t 5)), oM 33 (.callf 32 [(.t 32), (.c (.d (.str [116, 104, 114, 101, 97, 100])))])] []) (.cond (.t 33) .skip (.exit 0))) (.block 1 (.region true [ oM 34 (.faddr (.t 6) 2), oM 35 (.load none (.t 34)), oM 36 (.mv (.t 5)), oM 37 (.callf 34 [(.t 36)]), oM 38 (.bslice 1 1 [.d .nsl] [(0, 1, (.t 37))]), oM 39 (.app 1 24 50 (.t 35) (.t 38)), oM 40 (.faddr (.t 6) 2), ⟨none, .store 1 (.t 40) (.t 39), none⟩] [0, 1, 0, 4, 8, 26, 63, 127])))
def ac9 : ACode := (.seq (.region false [ oM 2 (.alloc [.d (.str []), .d .nsl, .d .nsl, .d (.int .i64 0), .d .nsl]), oM 3 (.alloc [.d (.int .i64 0), .d (.int .i64 0)])] []) (.seq (.seq (.region false [ oM 7 (.mv (.t 0)), oM 8 (.callf 27 [(.t 7)]), oM 4 (.alloc [.d (.int .i64 0), .d (.int .i64 0)]), ⟨none, .store 2 (.t 4) (.t 8), none⟩] []) (.seq (.region false [ oM 9 (.faddr (.t 4) 0), oM 10 (.load none (.t 9)), oM 11 (.bin .neq (.t 10) (.c (.d (.int .i64 0))))] []) (.cond (.t 11) (.seq (.region true [ oM 12 (.build [.d (.str []), .d .nsl, .d .nsl, .d (.int .i64 0), .d .nsl] []), oM 13 (.load (some 2) (.t 4)), ⟨none, .store 5 (.t 2) (.t 12), none⟩, ⟨none, .store 2 (.t 3) (.t 13), none⟩] [0, 0, 1, 7]) .ret) .skip))) (.seq (.region false [ oM 14 (.mv (.t 0)), oM 15 (.callf 28 [(.t 14)]), oM 16 (.build [.d .nptr, .d (.int .i64 0), .d (.str []), .d (.int .i64 0), .d (.int .i64 0), .d (.int .i64 0)] [(0, 1, (.t 15))]), oM 17 (.box (.t 16)), oM 5 (.mv (.t 17))] []) (.seq (.region false [ oM 18 (.mv (.t 5)), oM 19 (.callf 29 [(.t 18)])] []) (.seq (.region false [ oM 6 (.alloc [.d (.str []), .d .nsl, .d .nsl, .d (.int .i64 0), .d .nsl])] []) (.seq (.region false [ oM 20 (.mv (.t 5)), oM 21 (.callf 30 [(.t 20), (.c (.d (.str [116, 101, 115, 116])))])] []) (.seq (.region false [ oM 22 (.mv (.t 5)), oM 23 (.callf 31 [(.t 22)]), oM 24 (.faddr (.t 6) 0), ⟨none, .store 1 (.t 24) (.t 23), none⟩] []) (.seq (.region false [ oM 25 (.mv (.t 5)), oM 26 (.callf 30 [(.t 25), (.c (.d (.str [123])))])] []) (.seq (.seq (.region false [ oM 27 (.mv (.t 5)), oM 28 (.callf 32 [(.t 27), (.c (.d (.str [105, 110, 105, 116])))])] []) (.cond (.t 28) (.region false [ oM 29 (.mv (.t 5)), oM 30 (.callf 33 [(.t 29)]), oM 31 (.faddr (.t 6) 1), ⟨none, .store 1 (.t 31) (.t 30), none⟩] []) .skip)) (.seq (.block 0 (.loop ac9L0)) (.seq (.block 2 (.seq (.region false [ oM 42 (.mv (.t 5)), oM 43 (.callf 32 [(.t 42), (.c (.d (.str [101, 120, 105, 115, 116, 115])))]), oM 41 (.mv (.t 43))] []) (.cond (.t 41) (.region false [ oM 44 (.mv (.t 5)), oM 45 (.callf 35 [(.t 44), (.c (.d (.int .i64 1)))]), oM 46 (.faddr (.t 6) 3), ⟨none, .store 2 (.t 46) (.t 45), none⟩] []) (.seq (.region false [ oM 48 (.mv (.t 5)), oM 49 (.callf 32 [(.t 48), (.c (.d (.str [102, 111, 114, 97, 108, 108])))]), oM 47 (.mv (.t 49))] []) (.cond (.t 47) (.region false [ oM 50 (.mv (.t 5)), oM 51 (.callf 35 [(.t 50), (.c (.d (.int .i64 2)))]), oM 52 (.faddr (.t 6) 3), ⟨none, .store 2 (.t 52) (.t 51), none⟩] []) .skip))))) (.seq (.region false [ oM 53 (.mv (.t 5)), oM 54 (.callf 30 [(.t 53), (.c (.d (.str [125])))])] []) (.seq (.seq (.region false [ oM 55 (.mv (.t 5)), oM 56 (.callf 36 [(.t 55)]), oM 57 (.mv (.t 56)), oG 58 (.mv (.t 5)) 57 true, oG 59 (.nilck (.t 58)) 57 true, oG 60 (.faddr (.t 59) 1) 57 true, oG 61 (.faddr (.t 60) 0) 57 true, oG 62 (.load none (.t 61)) 57 true, oG 63 (.bin .neq (.t 62) (.c (.d (.int .i64 4)))) 57 true, oM 64 (.pick (.t 57) (.t 63) (.c (.d (.bool false))))] []) (.cond (.t 64) (.region false [ oM 65 (.mv (.t 5)), oM 66 (.callf 37 [(.t 65), (.c (.d (.int .i64 6)))])] []) .skip)) (.seq (.seq (.region false [ oM 67 (.mv (.t 5)), oM 68 (.callf 36 [(.t 67)]), oM 69 (.un .not (.t 68))] []) (.cond (.t 69) (.seq (.region true [ oM 70 (.build [.d (.str []), .d .nsl, .d .nsl, .d (.int .i64 0), .d .nsl] []), oM 71 (.mv (.t 5)), oM 72 (.nilck (.t 71)), oM 73 (.faddr (.t 72) 4), oM 74 (.load (some 2) (.t 73)), ⟨none, .store 5 (.t 2) (.t 70), none⟩, ⟨none, .store 2 (.t 3) (.t 74), none⟩] [0, 0, 2, 4, 8, 1, 63]) .ret) .skip)) (.seq (.region false [ oM 75 (.load (some 5) (.t 6)), oM 76 (.build [.d (.int .i64 0), .d (.int .i64 0)] []), ⟨none, .store 5 (.t 2) (.t 75), none⟩, ⟨none, .store 2 (.t 3) (.t 76), none⟩] []) .ret)))))))))))))))
theorem ac9_ok : Tryz.f9.body.bind (cCode Tryz.prog Tryz.f9.ntmps) = some ac9 := by kernel_rfl
-- 10 jacquard/jacquardref2.Tree
-- 11 jacquard/jacquardref2.Same
def ac11L0 : ACode := (.seq (.seq (.region false [ oM 39 (.mv (.t 5)), oM 40 (.faddr (.t 2) 1), oM 41 (.load none (.t 40)), oM 42 (.lenl (.t 41)), oM 43 (.bin .lss (.t 39) (.t 42))] []) (.cond (.t 43) .skip (.exit 0))) (.seq (.block 1 (.seq (.region true [ oM 46 (.faddr (.t 2) 1), oM 47 (.load none (.t 46)), oM 48 (.mv (.t 5)), oM 49 (.iaddr 2 none (.t 47) (.t 48)), oM 50 (.load (some 2) (.t 49)), oM 51 (.faddr (.t 3) 1), oM 52 (.load none (.t 51)), oM 53 (.mv (.t 5)), oM 54 (.iaddr 2 none (.t 52) (.t 53)), oM 55 (.load (some 2) (.t 54)), oM 56 (.eqs [0, 0] true (.t 50) (.t 55))] [0, 1, 0, 6, 8, 0, 32, 0, 192, 256, 528]) (.cond (.t 56) (.seq (.region false [ oM 4 (.mv (.c (.d (.bool false))))] []) .ret) .skip))) (.region false [ oM 44 (.mv (.t 5)), oM 45 (.bin .add (.t 44) (.c (.d (.int .i64 1)))), oM 5 (.mv (.t 45))] [])))
def ac11L1 : ACode := (.seq (.seq (.region false [ oM 77 (.mv (.t 7)), oM 78 (.faddr (.t 2) 2), oM 79 (.load none (.t 78)), oM 80 (.mv (.t 6)), oM 81 (.iaddr 1 none (.t 79) (.t 80)), oM 82 (.load none (.t 81)), oM 83 (.lenl (.t 82)), oM 84 (.bin .lss (.t 77) (.t 83))] []) (.cond (.t 84) .skip (.exit 4))) (.seq (.block 5 (.seq (.region true [ oM 87 (.faddr (.t 2) 2), oM 88 (.load none (.t 87)), oM 89 (.mv (.t 6)), oM 90 (.iaddr 1 none (.t 88) (.t 89)), oM 91 (.load none (.t 90)), oM 92 (.mv (.t 7)), oM 93 (.iaddr 9 none (.t 91) (.t 92)), oM 94 (.load (some 9) (.t 93)), oM 95 (.faddr (.t 3) 2), oM 96 (.load none (.t 95)), oM 97 (.mv (.t 6)), oM 98 (.iaddr 1 none (.t 96) (.t 97)), oM 99 (.load none (.t 98)), oM 100 (.mv (.t 7)), oM 101 (.iaddr 9 none (.t 99) (.t 100)), oM 102 (.load (some 9) (.t 101)), oM 103 (.eqs [0, 0, 0, 0, 0, 0, 0, 0, 0] true (.t 94) (.t 102))] [0, 1, 0, 6, 8, 0, 48, 64, 0, 256, 0, 1536, 2048, 0, 12288, 16384, 32896]) (.cond (.t 103) (.seq (.region false [ oM 4 (.mv (.c (.d (.bool false))))] []) .ret) .skip))) (.region false [ oM 85 (.mv (.t 7)), oM 86 (.bin .add (.t 85) (.c (.d (.int .i64 1)))), oM 7 (.mv (.t 86))] [])))
def ac11L2 : ACode := (.seq (.seq (.region false [ oM 57 (.mv (.t 6)), oM 58 (.faddr (.t 2) 2), oM 59 (.load none (.t 58)), oM 60 (.lenl (.t 59)), oM 61 (.bin .lss (.t 57) (.t 60))] []) (.cond (.t 61) .skip (.exit 2))) (.seq (.block 3 (.seq (.seq (.region true [ oM 64 (.faddr (.t 2) 2), oM 65 (.load none (.t 64)), oM 66 (.mv (.t 6)), oM 67 (.iaddr 1 none (.t 65) (.t 66)), oM 68 (.load none (.t 67)), oM 69 (.lenl (.t 68)), oM 70 (.faddr (.t 3) 2), oM 71 (.load none (.t 70)), oM 72 (.mv (.t 6)), oM 73 (.iaddr 1 none (.t 71) (.t 72)), oM 74 (.load none (.t 73)), oM 75 (.lenl (.t 74)), oM 76 (.bin .neq (.t 69) (.t 75))] [0, 1, 0, 6, 8, 16, 0, 64, 0, 384, 512, 1024, 2080]) (.cond (.t 76) (.seq (.region false [ oM 4 (.mv (.c (.d (.bool false))))] []) .ret) .skip)) (.seq (.region false [ oM 7 (.mv (.c (.d (.int .i64 0))))] []) (.block 4 (.loop ac11L1))))) (.region false [ oM 62 (.mv (.t 6)), oM 63 (.bin .add (.t 62) (.c (.d (.int .i64 1)))), oM 6 (.mv (.t 63))] [])))
def ac11 : ACode := (.seq (.region false [ oM 2 (.box (.t 0)), oM 3 (.box (.t 1)), oM 4 (.mv (.c (.d (.bool false))))] []) (.seq (.seq (.region false [ oM 8 (.faddr (.t 2) 0), oM 9 (.load none (.t 8)), oM 10 (.faddr (.t 3) 0), oM 11 (.load none (.t 10)), oM 12 (.bin .neq (.t 9) (.t 11)), oM 13 (.mv (.t 12)), oG 14 (.faddr (.t 2) 1) 13 false, oG 15 (.load none (.t 14)) 13 false, oG 16 (.lenl (.t 15)) 13 false, oG 17 (.faddr (.t 3) 1) 13 false, oG 18 (.load none (.t 17)) 13 false, oG 19 (.lenl (.t 18)) 13 false, oG 20 (.bin .neq (.t 16) (.t 19)) 13 false, oM 21 (.pick (.t 13) (.c (.d (.bool true))) (.t 20)), oM 22 (.mv (.t 21)), oG 23 (.faddr (.t 2) 2) 22 false, oG 24 (.load none (.t 23)) 22 false, oG 25 (.lenl (.t 24)) 22 false, oG 26 (.faddr (.t 3) 2) 22 false, oG 27 (.load none (.t 26)) 22 false, oG 28 (.lenl (.t 27)) 22 false, oG 29 (.bin .neq (.t 25) (.t 28)) 22 false, oM 30 (.pick (.t 22) (.c (.d (.bool true))) (.t 29)), oM 31 (.mv (.t 30)), oG 32 (.faddr (.t 2) 3) 31 false, oG 33 (.load (some 2) (.t 32)) 31 false, oG 34 (.faddr (.t 3) 3) 31 false, oG 35 (.load (some 2) (.t 34)) 31 false, oG 36 (.callf 48 [(.t 33), (.t 35)]) 31 false, oG 37 (.un .not (.t 36)) 31 false, oM 38 (.pick (.t 31) (.c (.d (.bool true))) (.t 37))] []) (.cond (.t 38) (.seq (.region false [ oM 4 (.mv (.c (.d (.bool false))))] []) .ret) .skip)) (.seq (.seq (.region false [ oM 5 (.mv (.c (.d (.int .i64 0))))] []) (.block 0 (.loop ac11L0))) (.seq (.seq (.region false [ oM 6 (.mv (.c (.d (.int .i64 0))))] []) (.block 2 (.loop ac11L2))) (.seq (.region false [ oM 4 (.mv (.c (.d (.bool true))))] []) .ret)))))
theorem ac11_ok : Tryz.f11.body.bind (cCode Tryz.prog Tryz.f11.ntmps) = some ac11 := by kernel_rfl
-- 12 jacquard/jacquardlaw3.awake
-- 19 jacquard/print.Same
-- 21 jacquard/jacquardref2.TestOk
def ac21L0 : ACode := (.seq (.seq (.region false [ oM 16 (.mv (.t 3)), oM 17 (.faddr (.t 1) 1), oM 18 (.load none (.t 17)), oM 19 (.lenl (.t 18)), oM 20 (.bin .lss (.t 16) (.t 19))] []) (.cond (.t 20) .skip (.exit 0))) (.seq (.block 1 (.seq (.region false [ oM 23 (.faddr (.t 1) 1), oM 24 (.load none (.t 23)), oM 25 (.mv (.t 3)), oM 26 (.iaddr 2 none (.t 24) (.t 25)), oM 27 (.faddr (.t 26) 0), oM 28 (.load none (.t 27)), oM 29 (.callf 80 [(.t 28)]), oM 30 (.un .not (.t 29))] []) (.cond (.t 30) (.seq (.region false [ oM 2 (.mv (.c (.d (.bool false))))] []) .ret) .skip))) (.region false [ oM 21 (.mv (.t 3)), oM 22 (.bin .add (.t 21) (.c (.d (.int .i64 1)))), oM 3 (.mv (.t 22))] [])))
def ac21L1 : ACode := (.seq (.seq (.region false [ oM 38 (.mv (.t 5)), oM 39 (.faddr (.t 1) 2), oM 40 (.load none (.t 39)), oM 41 (.mv (.t 4)), oM 42 (.iaddr 1 none (.t 40) (.t 41)), oM 43 (.load none (.t 42)), oM 44 (.lenl (.t 43)), oM 45 (.bin .lss (.t 38) (.t 44))] []) (.cond (.t 45) .skip (.exit 4))) (.seq (.block 5 (.seq (.region false [ oM 48 (.faddr (.t 1) 2), oM 49 (.load none (.t 48)), oM 50 (.mv (.t 4)), oM 51 (.iaddr 1 none (.t 49) (.t 50)), oM 52 (.load none (.t 51)), oM 53 (.mv (.t 5)), oM 54 (.iaddr 9 none (.t 52) (.t 53)), oM 55 (.load (some 9) (.t 54)), oM 56 (.callf 81 [(.t 55)]), oM 57 (.un .not (.t 56))] []) (.cond (.t 57) (.seq (.region false [ oM 2 (.mv (.c (.d (.bool false))))] []) .ret) .skip))) (.region false [ oM 46 (.mv (.t 5)), oM 47 (.bin .add (.t 46) (.c (.d (.int .i64 1)))), oM 5 (.mv (.t 47))] [])))
def ac21L2 : ACode := (.seq (.seq (.region false [ oM 31 (.mv (.t 4)), oM 32 (.faddr (.t 1) 2), oM 33 (.load none (.t 32)), oM 34 (.lenl (.t 33)), oM 35 (.bin .lss (.t 31) (.t 34))] []) (.cond (.t 35) .skip (.exit 2))) (.seq (.block 3 (.seq (.region false [ oM 5 (.mv (.c (.d (.int .i64 0))))] []) (.block 4 (.loop ac21L1)))) (.region false [ oM 36 (.mv (.t 4)), oM 37 (.bin .add (.t 36) (.c (.d (.int .i64 1)))), oM 4 (.mv (.t 37))] [])))
def ac21 : ACode := (.seq (.region false [ oM 1 (.box (.t 0)), oM 2 (.mv (.c (.d (.bool false))))] []) (.seq (.seq (.region false [ oM 6 (.faddr (.t 1) 0), oM 7 (.load none (.t 6)), oM 8 (.callf 78 [(.t 7)]), oM 9 (.un .not (.t 8)), oM 10 (.mv (.t 9)), oG 11 (.faddr (.t 1) 3) 10 false, oG 12 (.load (some 2) (.t 11)) 10 false, oG 13 (.callf 79 [(.t 12)]) 10 false, oG 14 (.un .not (.t 13)) 10 false, oM 15 (.pick (.t 10) (.c (.d (.bool true))) (.t 14))] []) (.cond (.t 15) (.seq (.region false [ oM 2 (.mv (.c (.d (.bool false))))] []) .ret) .skip)) (.seq (.seq (.region false [ oM 3 (.mv (.c (.d (.int .i64 0))))] []) (.block 0 (.loop ac21L0))) (.seq (.seq (.region false [ oM 4 (.mv (.c (.d (.int .i64 0))))] []) (.block 2 (.loop ac21L2))) (.seq (.region false [ oM 2 (.mv (.c (.d (.bool true))))] []) .ret)))))
theorem ac21_ok : Tryz.f21.body.bind (cCode Tryz.prog Tryz.f21.ntmps) = some ac21 := by kernel_rfl
-- 22 jacquard/jacquardref2.locText
def ac22 : ACode := (.seq (.region false [ oM 2 (.mv (.c (.d (.str []))))] []) (.seq (.region false [ oM 3 (.mv (.t 0)), oM 4 (.cvi .u8 (.t 3)), oM 5 (.bslice 1 1 [.d (.int .u8 0)] [(0, 1, (.t 4))]), oM 6 (.cvbs (.t 5)), oM 2 (.mv (.t 6))] []) .ret))
theorem ac22_ok : Tryz.f22.body.bind (cCode Tryz.prog Tryz.f22.ntmps) = some ac22 := by kernel_rfl
-- 24 jacquard/jacquardref2.Ins
def ac24 : ACode := (.seq (.region false [ oM 1 (.box (.t 0)), oM 2 (.mv (.c (.d (.str []))))] []) (.seq (.seq (.region false [ oM 4 (.load (some 9) (.t 1)), oM 5 (.callf 81 [(.t 4)]), oM 6 (.un .not (.t 5))] []) (.cond (.t 6) (.seq (.region false [ oM 2 (.mv (.c (.d (.str []))))] []) .ret) .skip)) (.seq (.seq (.region false [ oM 7 (.faddr (.t 1) 0), oM 8 (.load none (.t 7))] []) (.block 0 (.seq (.region false [ oM 10 (.bin .eql (.t 8) (.c (.d (.int .i64 1)))), oM 9 (.mv (.t 10))] []) (.cond (.t 9) (.seq (.region true [ oM 11 (.faddr (.t 1) 2), oM 12 (.load none (.t 11)), oM 13 (.callf 22 [(.t 12)]), oM 14 (.bin .add (.c (.d (.str [115, 116, 111, 114, 101, 32]))) (.t 13)), oM 15 (.bin .add (.t 14) (.c (.d (.str [32])))), oM 16 (.faddr (.t 1) 3), oM 17 (.load (some 2) (.t 16)), oM 18 (.callf 82 [(.t 17)]), oM 19 (.bin .add (.t 15) (.t 18)), oM 20 (.bin .add (.t 19) (.c (.d (.str [32, 59])))), oM 2 (.mv (.t 20))] [0, 1, 2, 4, 8, 0, 32, 68, 144, 256, 1023]) .ret) (.seq (.region false [ oM 22 (.bin .eql (.t 8) (.c (.d (.int .i64 2)))), oM 21 (.mv (.t 22))] []) (.cond (.t 21) (.seq (.region true [ oM 23 (.faddr (.t 1) 1), oM 24 (.load none (.t 23)), oM 25 (.callf 83 [(.t 24)]), oM 26 (.bin .add (.t 25) (.c (.d (.str [32, 61, 32, 108, 111, 97, 100, 32])))), oM 27 (.faddr (.t 1) 2), oM 28 (.load none (.t 27)), oM 29 (.callf 22 [(.t 28)]), oM 30 (.bin .add (.t 26) (.t 29)), oM 31 (.bin .add (.t 30) (.c (.d (.str [32, 59])))), oM 2 (.mv (.t 31))] [0, 1, 2, 4, 0, 16, 36, 72, 128, 511]) .ret) (.seq (.region false [ oM 33 (.bin .eql (.t 8) (.c (.d (.int .i64 3)))), oM 32 (.mv (.t 33))] []) (.cond (.t 32) (.seq (.region false [ oM 2 (.mv (.c (.d (.str [102, 101, 110, 99, 101, 32, 59]))))] []) .ret) (.seq (.region false [ oM 35 (.bin .eql (.t 8) (.c (.d (.int .i64 4)))), oM 34 (.mv (.t 35))] []) (.cond (.t 34) (.seq (.region true [ oM 36 (.faddr (.t 1) 1), oM 37 (.load none (.t 36)), oM 38 (.callf 83 [(.t 37)]), oM 39 (.bin .add (.t 38) (.c (.d (.str [32, 61, 32, 99, 97, 115, 32])))), oM 40 (.faddr (.t 1) 2), oM 41 (.load none (.t 40)), oM 42 (.callf 22 [(.t 41)]), oM 43 (.bin .add (.t 39) (.t 42)), oM 44 (.bin .add (.t 43) (.c (.d (.str [32])))), oM 45 (.faddr (.t 1) 3), oM 46 (.load (some 2) (.t 45)), oM 47 (.callf 82 [(.t 46)]), oM 48 (.bin .add (.t 44) (.t 47)), oM 49 (.bin .add (.t 48) (.c (.d (.str [32])))), oM 50 (.faddr (.t 1) 6), oM 51 (.load (some 2) (.t 50)), oM 52 (.callf 82 [(.t 51)]), oM 53 (.bin .add (.t 49) (.t 52)), oM 54 (.bin .add (.t 53) (.c (.d (.str [32, 59])))), oM 2 (.mv (.t 54))] [0, 1, 2, 4, 0, 16, 36, 72, 128, 0, 512, 1088, 2304, 4096, 0, 16384, 34816, 73728, 131072, 524287]) .ret) (.seq (.region false [ oM 56 (.bin .eql (.t 8) (.c (.d (.int .i64 5)))), oM 55 (.mv (.t 56))] []) (.cond (.t 55) (.seq (.region true [ oM 57 (.faddr (.t 1) 1), oM 58 (.load none (.t 57)), oM 59 (.callf 83 [(.t 58)]), oM 60 (.bin .add (.t 59) (.c (.d (.str [32, 61, 32])))), oM 61 (.faddr (.t 1) 3), oM 62 (.load (some 2) (.t 61)), oM 63 (.callf 82 [(.t 62)]), oM 64 (.bin .add (.t 60) (.t 63)), oM 3 (.mv (.t 64))] [0, 1, 2, 4, 0, 16, 36, 72, 255]) (.seq (.seq (.region false [ oM 65 (.faddr (.t 1) 5), oM 66 (.load none (.t 65)), oM 67 (.bin .gtr (.t 66) (.c (.d (.int .i64 0))))] []) (.cond (.t 67) (.region true [ oM 68 (.mv (.t 3)), oM 69 (.bin .add (.t 68) (.c (.d (.str [32])))), oM 70 (.faddr (.t 1) 5), oM 71 (.load none (.t 70)), oM 72 (.callf 84 [(.t 71)]), oM 73 (.bin .add (.t 69) (.t 72)), oM 74 (.bin .add (.t 73) (.c (.d (.str [32])))), oM 75 (.faddr (.t 1) 6), oM 76 (.load (some 2) (.t 75)), oM 77 (.callf 82 [(.t 76)]), oM 78 (.bin .add (.t 74) (.t 77)), oM 3 (.mv (.t 78))] [0, 1, 0, 4, 8, 18, 32, 0, 128, 272, 576, 2047]) .skip)) (.seq (.region false [ oM 79 (.mv (.t 3)), oM 80 (.bin .add (.t 79) (.c (.d (.str [32, 59])))), oM 2 (.mv (.t 80))] []) .ret))) .skip)))))))))))) (.seq (.region true [ oM 81 (.faddr (.t 1) 8), oM 82 (.load none (.t 81)), oM 83 (.callf 23 [(.t 82)]), oM 84 (.bin .add (.c (.d (.str [115, 107, 105, 112, 32]))) (.t 83)), oM 85 (.bin .add (.t 84) (.c (.d (.str [32, 105, 102, 32])))), oM 86 (.faddr (.t 1) 3), oM 87 (.load (some 2) (.t 86)), oM 88 (.callf 82 [(.t 87)]), oM 89 (.bin .add (.t 85) (.t 88)), oM 90 (.bin .add (.t 89) (.c (.d (.str [32, 61, 61, 32])))), oM 91 (.faddr (.t 1) 6), oM 92 (.load (some 2) (.t 91)), oM 93 (.callf 82 [(.t 92)]), oM 94 (.bin .add (.t 90) (.t 93)), oM 95 (.bin .add (.t 94) (.c (.d (.str [32, 59])))), oM 2 (.mv (.t 95))] [0, 1, 2, 4, 8, 0, 32, 68, 144, 256, 0, 1024, 2176, 4608, 8192, 32767]) .ret))))
theorem ac24_ok : Tryz.f24.body.bind (cCode Tryz.prog Tryz.f24.ntmps) = some ac24 := by kernel_rfl
-- 25 jacquard/jacquardref2.Cond
def ac25L0 : ACode := (.seq (.seq (.region false [ oM 25 (.mv (.t 5)), oM 26 (.faddr (.t 1) 1), oM 27 (.load none (.t 26)), oM 28 (.mv (.t 4)), oM 29 (.iaddr 1 none (.t 27) (.t 28)), oM 30 (.load none (.t 29)), oM 31 (.lenl (.t 30)), oM 32 (.bin .lss (.t 25) (.t 31))] []) (.cond (.t 32) .skip (.exit 2))) (.seq (.block 3 (.seq (.region false [ oM 35 (.faddr (.t 1) 1), oM 36 (.load none (.t 35)), oM 37 (.mv (.t 4)), oM 38 (.iaddr 1 none (.t 36) (.t 37)), oM 39 (.load none (.t 38)), oM 40 (.mv (.t 5)), oM 41 (.iaddr 4 none (.t 39) (.t 40)), oM 42 (.load (some 4) (.t 41)), oM 6 (.alloc [.d (.int .i64 0), .d (.int .i64 0), .d (.int .i64 0), .d (.int .i64 0)]), ⟨none, .store 4 (.t 6) (.t 42), none⟩] []) (.seq (.seq (.region false [ oM 43 (.mv (.t 5)), oM 44 (.bin .gtr (.t 43) (.c (.d (.int .i64 0))))] []) (.cond (.t 44) (.region false [ oM 45 (.mv (.t 3)), oM 46 (.bin .add (.t 45) (.c (.d (.str [32, 38])))), oM 3 (.mv (.t 46))] []) (.seq (.region false [ oM 47 (.mv (.t 4)), oM 48 (.bin .gtr (.t 47) (.c (.d (.int .i64 0))))] []) (.cond (.t 48) (.region false [ oM 49 (.mv (.t 3)), oM 50 (.bin .add (.t 49) (.c (.d (.str [32, 124])))), oM 3 (.mv (.t 50))] []) .skip)))) (.seq (.region false [ oM 51 (.faddr (.t 6) 0), oM 52 (.load none (.t 51)), oM 53 (.bin .geq (.t 52) (.c (.d (.int .i64 0))))] []) (.cond (.t 53) (.region true [ oM 54 (.mv (.t 3)), oM 55 (.bin .add (.t 54) (.c (.d (.str [32])))), oM 56 (.faddr (.t 6) 0), oM 57 (.load none (.t 56)), oM 58 (.callf 23 [(.t 57)]), oM 59 (.bin .add (.t 55) (.t 58)), oM 60 (.bin .add (.t 59) (.c (.d (.str [32, 58, 32])))), oM 61 (.faddr (.t 6) 1), oM 62 (.load none (.t 61)), oM 63 (.callf 83 [(.t 62)]), oM 64 (.bin .add (.t 60) (.t 63)), oM 65 (.bin .add (.t 64) (.c (.d (.str [32, 61, 32])))), oM 66 (.faddr (.t 6) 3), oM 67 (.load none (.t 66)), oM 68 (.callf 23 [(.t 67)]), oM 69 (.bin .add (.t 65) (.t 68)), oM 3 (.mv (.t 69))] [0, 1, 0, 4, 8, 18, 32, 0, 128, 272, 576, 1024, 0, 4096, 8704, 18432, 65535]) (.region true [ oM 70 (.mv (.t 3)), oM 71 (.bin .add (.t 70) (.c (.d (.str [32])))), oM 72 (.faddr (.t 6) 2), oM 73 (.load none (.t 72)), oM 74 (.callf 22 [(.t 73)]), oM 75 (.bin .add (.t 71) (.t 74)), oM 76 (.bin .add (.t 75) (.c (.d (.str [32, 61, 32])))), oM 77 (.faddr (.t 6) 3), oM 78 (.load none (.t 77)), oM 79 (.callf 23 [(.t 78)]), oM 80 (.bin .add (.t 76) (.t 79)), oM 3 (.mv (.t 80))] [0, 1, 0, 4, 8, 18, 32, 0, 128, 272, 576, 2047])))))) (.region false [ oM 33 (.mv (.t 5)), oM 34 (.bin .add (.t 33) (.c (.d (.int .i64 1)))), oM 5 (.mv (.t 34))] [])))
def ac25L1 : ACode := (.seq (.seq (.region false [ oM 18 (.mv (.t 4)), oM 19 (.faddr (.t 1) 1), oM 20 (.load none (.t 19)), oM 21 (.lenl (.t 20)), oM 22 (.bin .lss (.t 18) (.t 21))] []) (.cond (.t 22) .skip (.exit 0))) (.seq (.block 1 (.seq (.region false [ oM 5 (.mv (.c (.d (.int .i64 0))))] []) (.block 2 (.loop ac25L0)))) (.region false [ oM 23 (.mv (.t 4)), oM 24 (.bin .add (.t 23) (.c (.d (.int .i64 1)))), oM 4 (.mv (.t 24))] [])))
def ac25 : ACode := (.seq (.region false [ oM 1 (.box (.t 0)), oM 2 (.mv (.c (.d (.str []))))] []) (.seq (.seq (.region false [ oM 7 (.load (some 2) (.t 1)), oM 8 (.callf 79 [(.t 7)]), oM 9 (.un .not (.t 8)), oM 10 (.mv (.t 9)), oG 11 (.faddr (.t 1) 0) 10 false, oG 12 (.load none (.t 11)) 10 false, oG 13 (.bin .eql (.t 12) (.c (.d (.int .i64 0)))) 10 false, oM 14 (.pick (.t 10) (.c (.d (.bool true))) (.t 13))] []) (.cond (.t 14) (.seq (.region false [ oM 2 (.mv (.c (.d (.str []))))] []) .ret) .skip)) (.seq (.region false [ oM 3 (.mv (.c (.d (.str [101, 120, 105, 115, 116, 115]))))] []) (.seq (.seq (.region false [ oM 15 (.faddr (.t 1) 0), oM 16 (.load none (.t 15)), oM 17 (.bin .eql (.t 16) (.c (.d (.int .i64 2))))] []) (.cond (.t 17) (.region false [ oM 3 (.mv (.c (.d (.str [102, 111, 114, 97, 108, 108]))))] []) .skip)) (.seq (.seq (.region false [ oM 4 (.mv (.c (.d (.int .i64 0))))] []) (.block 0 (.loop ac25L1))) (.seq (.region false [ oM 81 (.mv (.t 3)), oM 82 (.bin .add (.t 81) (.c (.d (.str [32, 59])))), oM 2 (.mv (.t 82))] []) .ret))))))
theorem ac25_ok : Tryz.f25.body.bind (cCode Tryz.prog Tryz.f25.ntmps) = some ac25 := by kernel_rfl
-- 26 jacquard/jacquardlaw3.Small$1
def ac26 : ACode := (.seq (.region false [ oM 2 (.mv (.c (.d (.int .i64 0))))] []) (.seq (.region false [ oM 3 (.load none (.t 0)), oM 4 (.bin .add (.t 3) (.c (.d (.int .i64 1)))), ⟨none, .store 1 (.t 0) (.t 4), none⟩] []) (.seq (.seq (.region false [ oM 5 (.load none (.t 0)), oM 6 (.load none (.t 1)), oM 7 (.lenl (.t 6)), oM 8 (.bin .gtr (.t 5) (.t 7))] []) (.cond (.t 8) (.seq (.region false [ oM 2 (.mv (.c (.d (.int .i64 0))))] []) .ret) .skip)) (.seq (.region false [ oM 9 (.load none (.t 1)), oM 10 (.load none (.t 0)), oM 11 (.bin .sub (.t 10) (.c (.d (.int .i64 1)))), oM 12 (.iaddr 1 none (.t 9) (.t 11)), oM 13 (.load none (.t 12)), oM 14 (.bin .and (.t 13) (.c (.d (.int .i64 65535)))), oM 2 (.mv (.t 14))] []) .ret))))
theorem ac26_ok : Tryz.f26.body.bind (cCode Tryz.prog Tryz.f26.ntmps) = some ac26 := by kernel_rfl
-- 29 (*jacquard/parse.parser).next
def ac29 : ACode := (.seq (.region false [ oM 2 (.mv (.t 0)), oM 3 (.nilck (.t 2)), oM 4 (.faddr (.t 3) 4), oM 5 (.faddr (.t 4) 0), oM 6 (.load none (.t 5)), oM 7 (.bin .eql (.t 6) (.c (.d (.int .i64 0))))] []) (.cond (.t 7) (.region false [ oM 9 (.mv (.t 0)), oM 10 (.mv (.t 0)), oM 11 (.mv (.t 0)), oM 12 (.nilck (.t 11)), oM 13 (.faddr (.t 12) 0), oM 14 (.load none (.t 13)), oM 15 (.callf 85 [(.t 14)]), oM 8 (.mv (.t 15)), oM 16 (.ext (.t 8) 0), oM 17 (.ext (.t 8) 1), oM 18 (.nilck (.t 9)), oM 19 (.faddr (.t 18) 1), ⟨none, .store 3 (.t 19) (.t 16), none⟩, oM 20 (.nilck (.t 10)), oM 21 (.faddr (.t 20) 4), ⟨none, .store 2 (.t 21) (.t 17), none⟩] []) .skip))
theorem ac29_ok : Tryz.f29.body.bind (cCode Tryz.prog Tryz.f29.ntmps) = some ac29 := by kernel_rfl
-- 30 (*jacquard/parse.parser).must
def ac30 : ACode := (.seq (.region false [ oM 4 (.mv (.t 0)), oM 5 (.mv (.t 1)), oM 6 (.callf 32 [(.t 4), (.t 5)]), oM 7 (.un .not (.t 6))] []) (.cond (.t 7) (.region false [ oM 8 (.mv (.t 0)), oM 9 (.callf 37 [(.t 8), (.c (.d (.int .i64 6)))])] []) .skip))
theorem ac30_ok : Tryz.f30.body.bind (cCode Tryz.prog Tryz.f30.ntmps) = some ac30 := by kernel_rfl
-- 31 (*jacquard/parse.parser).word
def ac31 : ACode := (.seq (.region false [ oM 2 (.mv (.c (.d (.str []))))] []) (.seq (.region false [ oM 4 (.mv (.t 0)), oM 5 (.nilck (.t 4)), oM 6 (.faddr (.t 5) 1), oM 7 (.faddr (.t 6) 1), oM 8 (.load none (.t 7)), oM 3 (.mv (.t 8))] []) (.seq (.seq (.region false [ oM 9 (.mv (.t 0)), oM 10 (.nilck (.t 9)), oM 11 (.faddr (.t 10) 1), oM 12 (.faddr (.t 11) 0), oM 13 (.load none (.t 12)), oM 14 (.bin .neq (.t 13) (.c (.d (.int .i64 1))))] []) (.cond (.t 14) (.seq (.region false [ oM 15 (.mv (.t 0)), oM 16 (.callf 37 [(.t 15), (.c (.d (.int .i64 6)))])] []) (.seq (.region false [ oM 2 (.mv (.c (.d (.str []))))] []) .ret)) .skip)) (.seq (.region false [ oM 17 (.mv (.t 0)), oM 18 (.callf 29 [(.t 17)])] []) (.seq (.region false [ oM 19 (.mv (.t 3)), oM 2 (.mv (.t 19))] []) .ret)))))
theorem ac31_ok : Tryz.f31.body.bind (cCode Tryz.prog Tryz.f31.ntmps) = some ac31 := by kernel_rfl
-- 32 (*jacquard/parse.parser).take
def ac32 : ACode := (.seq (.region false [ oM 4 (.mv (.c (.d (.bool false))))] []) (.seq (.seq (.region false [ oM 5 (.mv (.t 0)), oM 6 (.mv (.t 1)), oM 7 (.callf 86 [(.t 5), (.t 6)]), oM 8 (.un .not (.t 7))] []) (.cond (.t 8) (.seq (.region false [ oM 4 (.mv (.c (.d (.bool false))))] []) .ret) .skip)) (.seq (.region false [ oM 9 (.mv (.t 0)), oM 10 (.callf 29 [(.t 9)])] []) (.seq (.region false [ oM 4 (.mv (.c (.d (.bool true))))] []) .ret))))
theorem ac32_ok : Tryz.f32.body.bind (cCode Tryz.prog Tryz.f32.ntmps) = some ac32 := by kernel_rfl
-- 33 (*jacquard/parse.parser).init
def ac33L0 : ACode := (.seq (.seq (.region false [ oM 7 (.mv (.t 0)), oM 8 (.callf 36 [(.t 7)]), oM 9 (.mv (.t 8)), oG 10 (.mv (.t 0)) 9 true, oG 11 (.callf 32 [(.t 10), (.c (.d (.str [125])))]) 9 true, oG 12 (.un .not (.t 11)) 9 true, oM 13 (.pick (.t 9) (.t 12) (.c (.d (.bool false))))] []) (.cond (.t 13) .skip (.exit 0))) (.block 1 (.seq (.region false [ oM 14 (.mv (.t 0)), oM 15 (.callf 87 [(.t 14), (.c (.fn 88 []))]), oM 16 (.build [.d (.int .i64 0), .d (.int .i64 0)] [(0, 1, (.t 15))]), oM 4 (.alloc [.d (.int .i64 0), .d (.int .i64 0)]), ⟨none, .store 2 (.t 4) (.t 16), none⟩] []) (.seq (.region false [ oM 17 (.mv (.t 0)), oM 18 (.callf 30 [(.t 17), (.c (.d (.str [61])))])] []) (.seq (.region false [ oM 19 (.mv (.t 0)), oM 20 (.callf 89 [(.t 19)]), oM 21 (.faddr (.t 4) 1), ⟨none, .store 1 (.t 21) (.t 20), none⟩] []) (.seq (.region false [ oM 22 (.mv (.t 0)), oM 23 (.callf 30 [(.t 22), (.c (.d (.str [59])))])] []) (.region false [ oM 24 (.mv (.t 3)), oM 25 (.load (some 2) (.t 4)), oM 26 (.bslice 2 1 [.d (.int .i64 0), .d (.int .i64 0)] [(0, 2, (.t 25))]), oM 27 (.app 2 16 48 (.t 24) (.t 26)), oM 3 (.mv (.t 27))] [])))))))
def ac33 : ACode := (.seq (.region false [ oM 2 (.mv (.c (.d .nsl)))] []) (.seq (.region false [ oM 3 (.mv (.c (.d .nsl)))] []) (.seq (.region false [ oM 5 (.mv (.t 0)), oM 6 (.callf 30 [(.t 5), (.c (.d (.str [123])))])] []) (.seq (.block 0 (.loop ac33L0)) (.seq (.region false [ oM 28 (.mv (.t 3)), oM 2 (.mv (.t 28))] []) .ret)))))
theorem ac33_ok : Tryz.f33.body.bind (cCode Tryz.prog Tryz.f33.ntmps) = some ac33 := by kernel_rfl
-- 34 (*jacquard/parse.parser).thread
def ac34L0 : ACode := (.seq (.seq (.region false [ oM 6 (.mv (.t 0)), oM 7 (.callf 36 [(.t 6)]), oM 8 (.mv (.t 7)), oG 9 (.mv (.t 0)) 8 true, oG 10 (.callf 32 [(.t 9), (.c (.d (.str [125])))]) 8 true, oG 11 (.un .not (.t 10)) 8 true, oM 12 (.pick (.t 8) (.t 11) (.c (.d (.bool false))))] []) (.cond (.t 12) .skip (.exit 0))) (.block 1 (.seq (.region false [ oM 13 (.mv (.t 3)), oM 14 (.mv (.t 0)), oM 15 (.callf 90 [(.t 14)]), oM 16 (.bslice 9 1 [.d (.int .i64 0), .d (.int .i64 0), .d (.int .i64 0), .d (.int .i64 0), .d (.int .i64 0), .d (.int .i64 0), .d (.int .i64 0), .d (.int .i64 0), .d (.int .i64 0)] [(0, 9, (.t 15))]), oM 17 (.app 9 72 55 (.t 13) (.t 16)), oM 3 (.mv (.t 17))] []) (.region false [ oM 18 (.mv (.t 0)), oM 19 (.callf 30 [(.t 18), (.c (.d (.str [59])))])] []))))
def ac34 : ACode := (.seq (.region false [ oM 2 (.mv (.c (.d .nsl)))] []) (.seq (.region false [ oM 3 (.mv (.c (.d .nsl)))] []) (.seq (.region false [ oM 4 (.mv (.t 0)), oM 5 (.callf 30 [(.t 4), (.c (.d (.str [123])))])] []) (.seq (.block 0 (.loop ac34L0)) (.seq (.region false [ oM 20 (.mv (.t 3)), oM 2 (.mv (.t 20))] []) .ret)))))
theorem ac34_ok : Tryz.f34.body.bind (cCode Tryz.prog Tryz.f34.ntmps) = some ac34 := by kernel_rfl
-- 35 (*jacquard/parse.parser).cond
def ac35L0 : ACode := (.seq (.seq (.region false [ oM 12 (.mv (.t 0)), oM 13 (.callf 32 [(.t 12), (.c (.d (.str [38])))])] []) (.cond (.t 13) .skip (.exit 2))) (.block 3 (.region false [ oM 14 (.mv (.t 6)), oM 15 (.mv (.t 0)), oM 16 (.callf 91 [(.t 15)]), oM 17 (.bslice 4 1 [.d (.int .i64 0), .d (.int .i64 0), .d (.int .i64 0), .d (.int .i64 0)] [(0, 4, (.t 16))]), oM 18 (.app 4 32 60 (.t 14) (.t 17)), oM 6 (.mv (.t 18))] [])))
def ac35L1 : ACode := (.block 1 (.seq (.region false [ oM 9 (.mv (.t 0)), oM 10 (.callf 91 [(.t 9)]), oM 11 (.bslice 4 1 [.d (.int .i64 0), .d (.int .i64 0), .d (.int .i64 0), .d (.int .i64 0)] [(0, 4, (.t 10))]), oM 6 (.mv (.t 11))] []) (.seq (.block 2 (.loop ac35L0)) (.seq (.region false [ oM 19 (.faddr (.t 5) 1), oM 20 (.load none (.t 19)), oM 21 (.mv (.t 6)), oM 22 (.bslice 1 1 [.d .nsl] [(0, 1, (.t 21))]), oM 23 (.app 1 24 61 (.t 20) (.t 22)), oM 24 (.faddr (.t 5) 1), ⟨none, .store 1 (.t 24) (.t 23), none⟩] []) (.seq (.region false [ oM 25 (.mv (.t 0)), oM 26 (.callf 32 [(.t 25), (.c (.d (.str [124])))]), oM 27 (.un .not (.t 26))] []) (.cond (.t 27) (.seq (.region false [ oM 28 (.mv (.t 0)), oM 29 (.callf 30 [(.t 28), (.c (.d (.str [59])))])] []) (.seq (.region false [ oM 30 (.load (some 2) (.t 5)), ⟨none, .store 2 (.t 4) (.t 30), none⟩] []) .ret)) .skip))))))
def ac35 : ACode := (.seq (.region false [ oM 4 (.alloc [.d (.int .i64 0), .d .nsl])] []) (.seq (.region false [ oM 7 (.mv (.t 1)), oM 8 (.build [.d (.int .i64 0), .d .nsl] [(0, 1, (.t 7))]), oM 5 (.alloc [.d (.int .i64 0), .d .nsl]), ⟨none, .store 2 (.t 5) (.t 8), none⟩] []) (.block 0 (.loop ac35L1))))
theorem ac35_ok : Tryz.f35.body.bind (cCode Tryz.prog Tryz.f35.ntmps) = some ac35 := by kernel_rfl
-- 36 (*jacquard/parse.parser).ok
def ac36 : ACode := (.seq (.region false [ oM 2 (.mv (.c (.d (.bool false))))] []) (.seq (.region false [ oM 3 (.mv (.t 0)), oM 4 (.nilck (.t 3)), oM 5 (.faddr (.t 4) 4), oM 6 (.faddr (.t 5) 0), oM 7 (.load none (.t 6)), oM 8 (.bin .eql (.t 7) (.c (.d (.int .i64 0)))), oM 2 (.mv (.t 8))] []) .ret))
theorem ac36_ok : Tryz.f36.body.bind (cCode Tryz.prog Tryz.f36.ntmps) = some ac36 := by kernel_rfl
-- 37 (*jacquard/parse.parser).fail
def ac37 : ACode := (.seq (.region false [ oM 4 (.mv (.t 0)), oM 5 (.nilck (.t 4)), oM 6 (.faddr (.t 5) 4), oM 7 (.faddr (.t 6) 0), oM 8 (.load none (.t 7)), oM 9 (.bin .eql (.t 8) (.c (.d (.int .i64 0))))] []) (.cond (.t 9) (.region false [ oM 10 (.mv (.t 0)), oM 11 (.mv (.t 1)), oM 12 (.mv (.t 0)), oM 13 (.nilck (.t 12)), oM 14 (.faddr (.t 13) 1), oM 15 (.faddr (.t 14) 2), oM 16 (.load none (.t 15)), oM 17 (.build [.d (.int .i64 0), .d (.int .i64 0)] [(0, 1, (.t 11)), (1, 1, (.t 16))]), oM 18 (.nilck (.t 10)), oM 19 (.faddr (.t 18) 4), ⟨none, .store 2 (.t 19) (.t 17), none⟩] []) .skip))
theorem ac37_ok : Tryz.f37.body.bind (cCode Tryz.prog Tryz.f37.ntmps) = some ac37 := by kernel_rfl
-- 38 (*jacquard/jacquardref2.reader).eat
-- 39 (*jacquard/jacquardref2.reader).word
-- 40 (*jacquard/jacquardref2.reader).is
-- 41 (*jacquard/jacquardref2.reader).go1
-- 42 (*jacquard/jacquardref2.reader).loc
-- 43 (*jacquard/jacquardref2.reader).num
-- 44 (*jacquard/jacquardref2.reader).ins
-- 45 (*jacquard/jacquardref2.reader).atom
-- 46 (*jacquard/jacquardref2.reader).look
-- 47 (*jacquard/jacquardref2.reader).fail
-- 48 jacquard/jacquardref2.SameCond
def ac48L0 : ACode := (.seq (.seq (.region false [ oM 41 (.mv (.t 6)), oM 42 (.faddr (.t 2) 1), oM 43 (.load none (.t 42)), oM 44 (.mv (.t 5)), oM 45 (.iaddr 1 none (.t 43) (.t 44)), oM 46 (.load none (.t 45)), oM 47 (.lenl (.t 46)), oM 48 (.bin .lss (.t 41) (.t 47))] []) (.cond (.t 48) .skip (.exit 2))) (.seq (.block 3 (.seq (.region true [ oM 51 (.faddr (.t 2) 1), oM 52 (.load none (.t 51)), oM 53 (.mv (.t 5)), oM 54 (.iaddr 1 none (.t 52) (.t 53)), oM 55 (.load none (.t 54)), oM 56 (.mv (.t 6)), oM 57 (.iaddr 4 none (.t 55) (.t 56)), oM 58 (.load (some 4) (.t 57)), oM 59 (.faddr (.t 3) 1), oM 60 (.load none (.t 59)), oM 61 (.mv (.t 5)), oM 62 (.iaddr 1 none (.t 60) (.t 61)), oM 63 (.load none (.t 62)), oM 64 (.mv (.t 6)), oM 65 (.iaddr 4 none (.t 63) (.t 64)), oM 66 (.load (some 4) (.t 65)), oM 67 (.eqs [0, 0, 0, 0] true (.t 58) (.t 66))] [0, 1, 0, 6, 8, 0, 48, 64, 0, 256, 0, 1536, 2048, 0, 12288, 16384, 32896]) (.cond (.t 67) (.seq (.region false [ oM 4 (.mv (.c (.d (.bool false))))] []) .ret) .skip))) (.region false [ oM 49 (.mv (.t 6)), oM 50 (.bin .add (.t 49) (.c (.d (.int .i64 1)))), oM 6 (.mv (.t 50))] [])))
def ac48L1 : ACode := (.seq (.seq (.region false [ oM 21 (.mv (.t 5)), oM 22 (.faddr (.t 2) 1), oM 23 (.load none (.t 22)), oM 24 (.lenl (.t 23)), oM 25 (.bin .lss (.t 21) (.t 24))] []) (.cond (.t 25) .skip (.exit 0))) (.seq (.block 1 (.seq (.seq (.region true [ oM 28 (.faddr (.t 2) 1), oM 29 (.load none (.t 28)), oM 30 (.mv (.t 5)), oM 31 (.iaddr 1 none (.t 29) (.t 30)), oM 32 (.load none (.t 31)), oM 33 (.lenl (.t 32)), oM 34 (.faddr (.t 3) 1), oM 35 (.load none (.t 34)), oM 36 (.mv (.t 5)), oM 37 (.iaddr 1 none (.t 35) (.t 36)), oM 38 (.load none (.t 37)), oM 39 (.lenl (.t 38)), oM 40 (.bin .neq (.t 33) (.t 39))] [0, 1, 0, 6, 8, 16, 0, 64, 0, 384, 512, 1024, 2080]) (.cond (.t 40) (.seq (.region false [ oM 4 (.mv (.c (.d (.bool false))))] []) .ret) .skip)) (.seq (.region false [ oM 6 (.mv (.c (.d (.int .i64 0))))] []) (.block 2 (.loop ac48L0))))) (.region false [ oM 26 (.mv (.t 5)), oM 27 (.bin .add (.t 26) (.c (.d (.int .i64 1)))), oM 5 (.mv (.t 27))] [])))
def ac48 : ACode := (.seq (.region false [ oM 2 (.box (.t 0)), oM 3 (.box (.t 1)), oM 4 (.mv (.c (.d (.bool false))))] []) (.seq (.seq (.region false [ oM 7 (.faddr (.t 2) 0), oM 8 (.load none (.t 7)), oM 9 (.faddr (.t 3) 0), oM 10 (.load none (.t 9)), oM 11 (.bin .neq (.t 8) (.t 10)), oM 12 (.mv (.t 11)), oG 13 (.faddr (.t 2) 1) 12 false, oG 14 (.load none (.t 13)) 12 false, oG 15 (.lenl (.t 14)) 12 false, oG 16 (.faddr (.t 3) 1) 12 false, oG 17 (.load none (.t 16)) 12 false, oG 18 (.lenl (.t 17)) 12 false, oG 19 (.bin .neq (.t 15) (.t 18)) 12 false, oM 20 (.pick (.t 12) (.c (.d (.bool true))) (.t 19))] []) (.cond (.t 20) (.seq (.region false [ oM 4 (.mv (.c (.d (.bool false))))] []) .ret) .skip)) (.seq (.seq (.region false [ oM 5 (.mv (.c (.d (.int .i64 0))))] []) (.block 0 (.loop ac48L1))) (.seq (.region false [ oM 4 (.mv (.c (.d (.bool true))))] []) .ret))))
theorem ac48_ok : Tryz.f48.body.bind (cCode Tryz.prog Tryz.f48.ntmps) = some ac48 := by kernel_rfl
-- 78 jacquard/jacquardref2.word
def ac78L0 : ACode := (.seq (.seq (.region false [ oM 4 (.mv (.t 3)), oM 5 (.mv (.t 0)), oM 6 (.lens (.t 5)), oM 7 (.bin .lss (.t 4) (.t 6))] []) (.cond (.t 7) .skip (.exit 0))) (.seq (.block 1 (.seq (.region false [ oM 10 (.mv (.t 0)), oM 11 (.mv (.t 3)), oM 12 (.idxs (.t 10) (.t 11)), oM 13 (.callf 114 [(.t 12)]), oM 14 (.un .not (.t 13)), oM 15 (.mv (.t 14)), oG 16 (.mv (.t 3)) 15 true, oG 17 (.bin .gtr (.t 16) (.c (.d (.int .i64 0)))) 15 true, oG 18 (.mv (.t 17)) 15 true, oG 19 (.mv (.t 0)) 18 true, oG 20 (.mv (.t 3)) 18 true, oG 21 (.idxs (.t 19) (.t 20)) 18 true, oG 22 (.callf 115 [(.t 21)]) 18 true, oG 23 (.pick (.t 18) (.t 22) (.c (.d (.bool false)))) 15 true, oG 24 (.un .not (.t 23)) 15 true, oM 25 (.pick (.t 15) (.t 24) (.c (.d (.bool false))))] []) (.cond (.t 25) (.seq (.region false [ oM 2 (.mv (.c (.d (.bool false))))] []) .ret) .skip))) (.region false [ oM 8 (.mv (.t 3)), oM 9 (.bin .add (.t 8) (.c (.d (.int .i64 1)))), oM 3 (.mv (.t 9))] [])))
def ac78 : ACode := (.seq (.region false [ oM 2 (.mv (.c (.d (.bool false))))] []) (.seq (.seq (.region false [ oM 3 (.mv (.c (.d (.int .i64 0))))] []) (.block 0 (.loop ac78L0))) (.seq (.region false [ oM 26 (.mv (.t 0)), oM 27 (.bin .neq (.t 26) (.c (.d (.str [])))), oM 2 (.mv (.t 27))] []) .ret)))
theorem ac78_ok : Tryz.f78.body.bind (cCode Tryz.prog Tryz.f78.ntmps) = some ac78 := by kernel_rfl
-- 79 jacquard/jacquardref2.CondOk
def ac79L0 : ACode := (.seq (.seq (.region false [ oM 43 (.mv (.t 4)), oM 44 (.faddr (.t 1) 1), oM 45 (.load none (.t 44)), oM 46 (.mv (.t 3)), oM 47 (.iaddr 1 none (.t 45) (.t 46)), oM 48 (.load none (.t 47)), oM 49 (.lenl (.t 48)), oM 50 (.bin .lss (.t 43) (.t 49))] []) (.cond (.t 50) .skip (.exit 2))) (.seq (.block 3 (.seq (.region false [ oM 53 (.faddr (.t 1) 1), oM 54 (.load none (.t 53)), oM 55 (.mv (.t 3)), oM 56 (.iaddr 1 none (.t 54) (.t 55)), oM 57 (.load none (.t 56)), oM 58 (.mv (.t 4)), oM 59 (.iaddr 4 none (.t 57) (.t 58)), oM 60 (.load (some 4) (.t 59)), oM 5 (.alloc [.d (.int .i64 0), .d (.int .i64 0), .d (.int .i64 0), .d (.int .i64 0)]), ⟨none, .store 4 (.t 5) (.t 60), none⟩] []) (.seq (.region false [ oM 61 (.faddr (.t 5) 0), oM 62 (.load none (.t 61)), oM 63 (.bin .eql (.t 62) (.c (.d (.int .i64 (-1))))), oM 64 (.mv (.t 63)), oG 65 (.faddr (.t 5) 1) 64 true, oG 66 (.load none (.t 65)) 64 true, oG 67 (.bin .eql (.t 66) (.c (.d (.int .i64 0)))) 64 true, oM 68 (.pick (.t 64) (.t 67) (.c (.d (.bool false)))), oM 69 (.mv (.t 68)), oG 70 (.faddr (.t 5) 2) 69 true, oG 71 (.load none (.t 70)) 69 true, oG 72 (.callf 80 [(.t 71)]) 69 true, oM 73 (.pick (.t 69) (.t 72) (.c (.d (.bool false)))), oM 6 (.mv (.t 73))] []) (.seq (.region false [ oM 74 (.faddr (.t 5) 0), oM 75 (.load none (.t 74)), oM 76 (.bin .geq (.t 75) (.c (.d (.int .i64 0)))), oM 77 (.mv (.t 76)), oG 78 (.faddr (.t 5) 0) 77 true, oG 79 (.load none (.t 78)) 77 true, oG 80 (.bin .leq (.t 79) (.c (.d (.int .i64 9)))) 77 true, oM 81 (.pick (.t 77) (.t 80) (.c (.d (.bool false)))), oM 82 (.mv (.t 81)), oG 83 (.faddr (.t 5) 1) 82 true, oG 84 (.load none (.t 83)) 82 true, oG 85 (.bin .geq (.t 84) (.c (.d (.int .i64 0)))) 82 true, oM 86 (.pick (.t 82) (.t 85) (.c (.d (.bool false)))), oM 87 (.mv (.t 86)), oG 88 (.faddr (.t 5) 1) 87 true, oG 89 (.load none (.t 88)) 87 true, oG 90 (.bin .leq (.t 89) (.c (.d (.int .i64 3)))) 87 true, oM 91 (.pick (.t 87) (.t 90) (.c (.d (.bool false)))), oM 92 (.mv (.t 91)), oG 93 (.faddr (.t 5) 2) 92 true, oG 94 (.load none (.t 93)) 92 true, oG 95 (.bin .eql (.t 94) (.c (.d (.int .i64 0)))) 92 true, oM 96 (.pick (.t 92) (.t 95) (.c (.d (.bool false)))), oM 7 (.mv (.t 96))] []) (.seq (.region false [ oM 97 (.mv (.t 6)), oM 98 (.un .not (.t 97)), oM 99 (.mv (.t 98)), oG 100 (.mv (.t 7)) 99 true, oG 101 (.un .not (.t 100)) 99 true, oM 102 (.pick (.t 99) (.t 101) (.c (.d (.bool false))))] []) (.cond (.t 102) (.seq (.region false [ oM 2 (.mv (.c (.d (.bool false))))] []) .ret) .skip)))))) (.region false [ oM 51 (.mv (.t 4)), oM 52 (.bin .add (.t 51) (.c (.d (.int .i64 1)))), oM 4 (.mv (.t 52))] [])))
def ac79L1 : ACode := (.seq (.seq (.region false [ oM 29 (.mv (.t 3)), oM 30 (.faddr (.t 1) 1), oM 31 (.load none (.t 30)), oM 32 (.lenl (.t 31)), oM 33 (.bin .lss (.t 29) (.t 32))] []) (.cond (.t 33) .skip (.exit 0))) (.seq (.block 1 (.seq (.seq (.region false [ oM 36 (.faddr (.t 1) 1), oM 37 (.load none (.t 36)), oM 38 (.mv (.t 3)), oM 39 (.iaddr 1 none (.t 37) (.t 38)), oM 40 (.load none (.t 39)), oM 41 (.lenl (.t 40)), oM 42 (.bin .eql (.t 41) (.c (.d (.int .i64 0))))] []) (.cond (.t 42) (.seq (.region false [ oM 2 (.mv (.c (.d (.bool false))))] []) .ret) .skip)) (.seq (.region false [ oM 4 (.mv (.c (.d (.int .i64 0))))] []) (.block 2 (.loop ac79L0))))) (.region false [ oM 34 (.mv (.t 3)), oM 35 (.bin .add (.t 34) (.c (.d (.int .i64 1)))), oM 3 (.mv (.t 35))] [])))
def ac79 : ACode := (.seq (.region false [ oM 1 (.box (.t 0)), oM 2 (.mv (.c (.d (.bool false))))] []) (.seq (.seq (.region false [ oM 8 (.faddr (.t 1) 0), oM 9 (.load none (.t 8)), oM 10 (.bin .eql (.t 9) (.c (.d (.int .i64 0))))] []) (.cond (.t 10) (.seq (.region false [ oM 11 (.faddr (.t 1) 1), oM 12 (.load none (.t 11)), oM 13 (.lenl (.t 12)), oM 14 (.bin .eql (.t 13) (.c (.d (.int .i64 0)))), oM 2 (.mv (.t 14))] []) .ret) .skip)) (.seq (.seq (.region false [ oM 15 (.faddr (.t 1) 0), oM 16 (.load none (.t 15)), oM 17 (.bin .lss (.t 16) (.c (.d (.int .i64 0)))), oM 18 (.mv (.t 17)), oG 19 (.faddr (.t 1) 0) 18 false, oG 20 (.load none (.t 19)) 18 false, oG 21 (.bin .gtr (.t 20) (.c (.d (.int .i64 2)))) 18 false, oM 22 (.pick (.t 18) (.c (.d (.bool true))) (.t 21)), oM 23 (.mv (.t 22)), oG 24 (.faddr (.t 1) 1) 23 false, oG 25 (.load none (.t 24)) 23 false, oG 26 (.lenl (.t 25)) 23 false, oG 27 (.bin .eql (.t 26) (.c (.d (.int .i64 0)))) 23 false, oM 28 (.pick (.t 23) (.c (.d (.bool true))) (.t 27))] []) (.cond (.t 28) (.seq (.region false [ oM 2 (.mv (.c (.d (.bool false))))] []) .ret) .skip)) (.seq (.seq (.region false [ oM 3 (.mv (.c (.d (.int .i64 0))))] []) (.block 0 (.loop ac79L1))) (.seq (.region false [ oM 2 (.mv (.c (.d (.bool true))))] []) .ret)))))
theorem ac79_ok : Tryz.f79.body.bind (cCode Tryz.prog Tryz.f79.ntmps) = some ac79 := by kernel_rfl
-- 80 jacquard/jacquardref2.named
def ac80 : ACode := (.seq (.region false [ oM 2 (.mv (.c (.d (.bool false))))] []) (.seq (.region false [ oM 3 (.mv (.t 0)), oM 4 (.bin .geq (.t 3) (.c (.d (.int .i64 97)))), oM 5 (.mv (.t 4)), oG 6 (.mv (.t 0)) 5 true, oG 7 (.bin .leq (.t 6) (.c (.d (.int .i64 122)))) 5 true, oM 8 (.pick (.t 5) (.t 7) (.c (.d (.bool false)))), oM 2 (.mv (.t 8))] []) .ret))
theorem ac80_ok : Tryz.f80.body.bind (cCode Tryz.prog Tryz.f80.ntmps) = some ac80 := by kernel_rfl
-- 81 jacquard/jacquardref2.InsOk
def ac81 : ACode := (.seq (.region false [ oM 1 (.box (.t 0)), oM 2 (.mv (.c (.d (.bool false))))] []) (.seq (.region false [ oM 4 (.build [.d (.int .i64 0), .d (.int .i64 0)] []), oM 3 (.alloc [.d (.int .i64 0), .d (.int .i64 0)]), ⟨none, .store 2 (.t 3) (.t 4), none⟩] []) (.seq (.seq (.region false [ oM 5 (.faddr (.t 1) 0), oM 6 (.load none (.t 5))] []) (.block 0 (.seq (.region false [ oM 8 (.bin .eql (.t 6) (.c (.d (.int .i64 1)))), oM 7 (.mv (.t 8))] []) (.cond (.t 7) (.seq (.region false [ oM 9 (.faddr (.t 1) 1), oM 10 (.load none (.t 9)), oM 11 (.bin .eql (.t 10) (.c (.d (.int .i64 0)))), oM 12 (.mv (.t 11)), oG 13 (.faddr (.t 1) 2) 12 true, oG 14 (.load none (.t 13)) 12 true, oG 15 (.callf 80 [(.t 14)]) 12 true, oM 16 (.pick (.t 12) (.t 15) (.c (.d (.bool false)))), oM 17 (.mv (.t 16)), oG 18 (.faddr (.t 1) 3) 17 true, oG 19 (.load (some 2) (.t 18)) 17 true, oG 20 (.callf 116 [(.t 19)]) 17 true, oM 21 (.pick (.t 17) (.t 20) (.c (.d (.bool false)))), oM 22 (.mv (.t 21)), oG 23 (.faddr (.t 1) 5) 22 true, oG 24 (.load none (.t 23)) 22 true, oG 25 (.bin .eql (.t 24) (.c (.d (.int .i64 0)))) 22 true, oM 26 (.pick (.t 22) (.t 25) (.c (.d (.bool false)))), oM 27 (.mv (.t 26)), oG 28 (.faddr (.t 1) 6) 27 true, oG 29 (.load (some 2) (.t 28)) 27 true, oG 30 (.load (some 2) (.t 3)) 27 true, oG 31 (.eqs [0, 0] false (.t 29) (.t 30)) 27 true, oM 32 (.pick (.t 27) (.t 31) (.c (.d (.bool false)))), oM 33 (.mv (.t 32)), oG 34 (.faddr (.t 1) 8) 33 true, oG 35 (.load none (.t 34)) 33 true, oG 36 (.bin .eql (.t 35) (.c (.d (.int .i64 0)))) 33 true, oM 37 (.pick (.t 33) (.t 36) (.c (.d (.bool false)))), oM 2 (.mv (.t 37))] []) .ret) (.seq (.region false [ oM 39 (.bin .eql (.t 6) (.c (.d (.int .i64 2)))), oM 38 (.mv (.t 39))] []) (.cond (.t 38) (.seq (.region false [ oM 40 (.faddr (.t 1) 1), oM 41 (.load none (.t 40)), oM 42 (.bin .geq (.t 41) (.c (.d (.int .i64 0)))), oM 43 (.mv (.t 42)), oG 44 (.faddr (.t 1) 1) 43 true, oG 45 (.load none (.t 44)) 43 true, oG 46 (.bin .leq (.t 45) (.c (.d (.int .i64 3)))) 43 true, oM 47 (.pick (.t 43) (.t 46) (.c (.d (.bool false)))), oM 48 (.mv (.t 47)), oG 49 (.faddr (.t 1) 2) 48 true, oG 50 (.load none (.t 49)) 48 true, oG 51 (.callf 80 [(.t 50)]) 48 true, oM 52 (.pick (.t 48) (.t 51) (.c (.d (.bool false)))), oM 53 (.mv (.t 52)), oG 54 (.faddr (.t 1) 3) 53 true, oG 55 (.load (some 2) (.t 54)) 53 true, oG 56 (.load (some 2) (.t 3)) 53 true, oG 57 (.eqs [0, 0] false (.t 55) (.t 56)) 53 true, oM 58 (.pick (.t 53) (.t 57) (.c (.d (.bool false)))), oM 59 (.mv (.t 58)), oG 60 (.faddr (.t 1) 5) 59 true, oG 61 (.load none (.t 60)) 59 true, oG 62 (.bin .eql (.t 61) (.c (.d (.int .i64 0)))) 59 true, oM 63 (.pick (.t 59) (.t 62) (.c (.d (.bool false)))), oM 64 (.mv (.t 63)), oG 65 (.faddr (.t 1) 6) 64 true, oG 66 (.load (some 2) (.t 65)) 64 true, oG 67 (.load (some 2) (.t 3)) 64 true, oG 68 (.eqs [0, 0] false (.t 66) (.t 67)) 64 true, oM 69 (.pick (.t 64) (.t 68) (.c (.d (.bool false)))), oM 70 (.mv (.t 69)), oG 71 (.faddr (.t 1) 8) 70 true, oG 72 (.load none (.t 71)) 70 true, oG 73 (.bin .eql (.t 72) (.c (.d (.int .i64 0)))) 70 true, oM 74 (.pick (.t 70) (.t 73) (.c (.d (.bool false)))), oM 2 (.mv (.t 74))] []) .ret) (.seq (.region false [ oM 76 (.bin .eql (.t 6) (.c (.d (.int .i64 3)))), oM 75 (.mv (.t 76))] []) (.cond (.t 75) (.seq (.region false [ oM 77 (.load (some 9) (.t 1)), oM 78 (.build [.d (.int .i64 0), .d (.int .i64 0), .d (.int .i64 0), .d (.int .i64 0), .d (.int .i64 0), .d (.int .i64 0), .d (.int .i64 0), .d (.int .i64 0), .d (.int .i64 0)] [(0, 1, (.c (.d (.int .i64 3))))]), oM 79 (.eqs [0, 0, 0, 0, 0, 0, 0, 0, 0] false (.t 77) (.t 78)), oM 2 (.mv (.t 79))] []) .ret) (.seq (.region false [ oM 81 (.bin .eql (.t 6) (.c (.d (.int .i64 4)))), oM 80 (.mv (.t 81))] []) (.cond (.t 80) (.seq (.region false [ oM 82 (.faddr (.t 1) 1), oM 83 (.load none (.t 82)), oM 84 (.bin .geq (.t 83) (.c (.d (.int .i64 0)))), oM 85 (.mv (.t 84)), oG 86 (.faddr (.t 1) 1) 85 true, oG 87 (.load none (.t 86)) 85 true, oG 88 (.bin .leq (.t 87) (.c (.d (.int .i64 3)))) 85 true, oM 89 (.pick (.t 85) (.t 88) (.c (.d (.bool false)))), oM 90 (.mv (.t 89)), oG 91 (.faddr (.t 1) 2) 90 true, oG 92 (.load none (.t 91)) 90 true, oG 93 (.callf 80 [(.t 92)]) 90 true, oM 94 (.pick (.t 90) (.t 93) (.c (.d (.bool false)))), oM 95 (.mv (.t 94)), oG 96 (.faddr (.t 1) 3) 95 true, oG 97 (.load (some 2) (.t 96)) 95 true, oG 98 (.callf 116 [(.t 97)]) 95 true, oM 99 (.pick (.t 95) (.t 98) (.c (.d (.bool false)))), oM 100 (.mv (.t 99)), oG 101 (.faddr (.t 1) 5) 100 true, oG 102 (.load none (.t 101)) 100 true, oG 103 (.bin .eql (.t 102) (.c (.d (.int .i64 0)))) 100 true, oM 104 (.pick (.t 100) (.t 103) (.c (.d (.bool false)))), oM 105 (.mv (.t 104)), oG 106 (.faddr (.t 1) 6) 105 true, oG 107 (.load (some 2) (.t 106)) 105 true, oG 108 (.callf 116 [(.t 107)]) 105 true, oM 109 (.pick (.t 105) (.t 108) (.c (.d (.bool false)))), oM 110 (.mv (.t 109)), oG 111 (.faddr (.t 1) 8) 110 true, oG 112 (.load none (.t 111)) 110 true, oG 113 (.bin .eql (.t 112) (.c (.d (.int .i64 0)))) 110 true, oM 114 (.pick (.t 110) (.t 113) (.c (.d (.bool false)))), oM 2 (.mv (.t 114))] []) .ret) (.seq (.region false [ oM 116 (.bin .eql (.t 6) (.c (.d (.int .i64 5)))), oM 115 (.mv (.t 116))] []) (.cond (.t 115) (.seq (.seq (.region false [ oM 117 (.faddr (.t 1) 5), oM 118 (.load none (.t 117)), oM 119 (.bin .eql (.t 118) (.c (.d (.int .i64 0)))), oM 120 (.mv (.t 119)), oG 121 (.faddr (.t 1) 6) 120 true, oG 122 (.load (some 2) (.t 121)) 120 true, oG 123 (.build [.d (.int .i64 0), .d (.int .i64 0)] [(0, 1, (.c (.d (.int .i64 (-1)))))]) 120 true, oG 124 (.eqs [0, 0] true (.t 122) (.t 123)) 120 true, oM 125 (.pick (.t 120) (.t 124) (.c (.d (.bool false))))] []) (.cond (.t 125) (.seq (.region false [ oM 2 (.mv (.c (.d (.bool false))))] []) .ret) .skip)) (.seq (.region false [ oM 126 (.faddr (.t 1) 1), oM 127 (.load none (.t 126)), oM 128 (.bin .geq (.t 127) (.c (.d (.int .i64 0)))), oM 129 (.mv (.t 128)), oG 130 (.faddr (.t 1) 1) 129 true, oG 131 (.load none (.t 130)) 129 true, oG 132 (.bin .leq (.t 131) (.c (.d (.int .i64 3)))) 129 true, oM 133 (.pick (.t 129) (.t 132) (.c (.d (.bool false)))), oM 134 (.mv (.t 133)), oG 135 (.faddr (.t 1) 2) 134 true, oG 136 (.load none (.t 135)) 134 true, oG 137 (.bin .eql (.t 136) (.c (.d (.int .i64 0)))) 134 true, oM 138 (.pick (.t 134) (.t 137) (.c (.d (.bool false)))), oM 139 (.mv (.t 138)), oG 140 (.faddr (.t 1) 3) 139 true, oG 141 (.load (some 2) (.t 140)) 139 true, oG 142 (.callf 116 [(.t 141)]) 139 true, oM 143 (.pick (.t 139) (.t 142) (.c (.d (.bool false)))), oM 144 (.mv (.t 143)), oG 145 (.faddr (.t 1) 5) 144 true, oG 146 (.load none (.t 145)) 144 true, oG 147 (.bin .geq (.t 146) (.c (.d (.int .i64 0)))) 144 true, oM 148 (.pick (.t 144) (.t 147) (.c (.d (.bool false)))), oM 149 (.mv (.t 148)), oG 150 (.faddr (.t 1) 5) 149 true, oG 151 (.load none (.t 150)) 149 true, oG 152 (.bin .leq (.t 151) (.c (.d (.int .i64 11)))) 149 true, oM 153 (.pick (.t 149) (.t 152) (.c (.d (.bool false)))), oM 154 (.mv (.t 153)), oG 155 (.faddr (.t 1) 6) 154 true, oG 156 (.load (some 2) (.t 155)) 154 true, oG 157 (.callf 116 [(.t 156)]) 154 true, oM 158 (.pick (.t 154) (.t 157) (.c (.d (.bool false)))), oM 159 (.mv (.t 158)), oG 160 (.faddr (.t 1) 8) 159 true, oG 161 (.load none (.t 160)) 159 true, oG 162 (.bin .eql (.t 161) (.c (.d (.int .i64 0)))) 159 true, oM 163 (.pick (.t 159) (.t 162) (.c (.d (.bool false)))), oM 2 (.mv (.t 163))] []) .ret)) (.seq (.region false [ oM 165 (.bin .eql (.t 6) (.c (.d (.int .i64 6)))), oM 164 (.mv (.t 165))] []) (.cond (.t 164) (.seq (.region false [ oM 166 (.faddr (.t 1) 1), oM 167 (.load none (.t 166)), oM 168 (.bin .eql (.t 167) (.c (.d (.int .i64 0)))), oM 169 (.mv (.t 168)), oG 170 (.faddr (.t 1) 2) 169 true, oG 171 (.load none (.t 170)) 169 true, oG 172 (.bin .eql (.t 171) (.c (.d (.int .i64 0)))) 169 true, oM 173 (.pick (.t 169) (.t 172) (.c (.d (.bool false)))), oM 174 (.mv (.t 173)), oG 175 (.faddr (.t 1) 3) 174 true, oG 176 (.load (some 2) (.t 175)) 174 true, oG 177 (.callf 116 [(.t 176)]) 174 true, oM 178 (.pick (.t 174) (.t 177) (.c (.d (.bool false)))), oM 179 (.mv (.t 178)), oG 180 (.faddr (.t 1) 5) 179 true, oG 181 (.load none (.t 180)) 179 true, oG 182 (.bin .eql (.t 181) (.c (.d (.int .i64 0)))) 179 true, oM 183 (.pick (.t 179) (.t 182) (.c (.d (.bool false)))), oM 184 (.mv (.t 183)), oG 185 (.faddr (.t 1) 6) 184 true, oG 186 (.load (some 2) (.t 185)) 184 true, oG 187 (.callf 116 [(.t 186)]) 184 true, oM 188 (.pick (.t 184) (.t 187) (.c (.d (.bool false)))), oM 189 (.mv (.t 188)), oG 190 (.faddr (.t 1) 8) 189 true, oG 191 (.load none (.t 190)) 189 true, oG 192 (.bin .geq (.t 191) (.c (.d (.int .i64 0)))) 189 true, oM 193 (.pick (.t 189) (.t 192) (.c (.d (.bool false)))), oM 2 (.mv (.t 193))] []) .ret) .skip)))))))))))))) (.seq (.region false [ oM 2 (.mv (.c (.d (.bool false))))] []) .ret))))
theorem ac81_ok : Tryz.f81.body.bind (cCode Tryz.prog Tryz.f81.ntmps) = some ac81 := by kernel_rfl
-- 82 jacquard/jacquardref2.operandText
def ac82 : ACode := (.seq (.region false [ oM 1 (.box (.t 0)), oM 2 (.mv (.c (.d (.str []))))] []) (.seq (.seq (.region false [ oM 3 (.faddr (.t 1) 0), oM 4 (.load none (.t 3)), oM 5 (.bin .lss (.t 4) (.c (.d (.int .i64 0))))] []) (.cond (.t 5) (.seq (.region false [ oM 6 (.faddr (.t 1) 1), oM 7 (.load none (.t 6)), oM 8 (.callf 23 [(.t 7)]), oM 2 (.mv (.t 8))] []) .ret) .skip)) (.seq (.region false [ oM 9 (.faddr (.t 1) 0), oM 10 (.load none (.t 9)), oM 11 (.callf 83 [(.t 10)]), oM 2 (.mv (.t 11))] []) .ret)))
theorem ac82_ok : Tryz.f82.body.bind (cCode Tryz.prog Tryz.f82.ntmps) = some ac82 := by kernel_rfl
-- 83 jacquard/jacquardref2.regText
def ac83 : ACode := (.seq (.region false [ oM 2 (.mv (.c (.d (.str []))))] []) (.seq (.region false [ oM 3 (.mv (.t 0)), oM 4 (.callf 23 [(.t 3)]), oM 5 (.bin .add (.c (.d (.str [114]))) (.t 4)), oM 2 (.mv (.t 5))] []) .ret))
theorem ac83_ok : Tryz.f83.body.bind (cCode Tryz.prog Tryz.f83.ntmps) = some ac83 := by kernel_rfl
-- 84 jacquard/jacquardref2.Sign
def ac84 : ACode := (.seq (.region false [ oM 2 (.mv (.c (.d (.str []))))] []) (.seq (.seq (.region false [ oM 3 (.mv (.t 0)), oM 4 (.bin .lss (.t 3) (.c (.d (.int .i64 1)))), oM 5 (.mv (.t 4)), oG 6 (.mv (.t 0)) 5 false, oG 7 (.bin .gtr (.t 6) (.c (.d (.int .i64 11)))) 5 false, oM 8 (.pick (.t 5) (.c (.d (.bool true))) (.t 7))] []) (.cond (.t 8) (.seq (.region false [ oM 2 (.mv (.c (.d (.str []))))] []) .ret) .skip)) (.seq (.region false [ oM 9 (.callf 117 []), oM 10 (.mv (.t 0)), oM 11 (.bin .sub (.t 10) (.c (.d (.int .i64 1)))), oM 12 (.iaddr 1 none (.t 9) (.t 11)), oM 13 (.load none (.t 12)), oM 2 (.mv (.t 13))] []) .ret)))
theorem ac84_ok : Tryz.f84.body.bind (cCode Tryz.prog Tryz.f84.ntmps) = some ac84 := by kernel_rfl
-- 86 (*jacquard/parse.parser).is
def ac86 : ACode := (.seq (.region false [ oM 4 (.mv (.c (.d (.bool false))))] []) (.seq (.region false [ oM 5 (.mv (.t 0)), oM 6 (.callf 36 [(.t 5)]), oM 7 (.mv (.t 6)), oG 8 (.mv (.t 0)) 7 true, oG 9 (.nilck (.t 8)) 7 true, oG 10 (.faddr (.t 9) 1) 7 true, oG 11 (.faddr (.t 10) 0) 7 true, oG 12 (.load none (.t 11)) 7 true, oG 13 (.bin .eql (.t 12) (.c (.d (.int .i64 3)))) 7 true, oG 14 (.mv (.t 13)) 7 true, oG 15 (.mv (.t 0)) 14 false, oG 16 (.nilck (.t 15)) 14 false, oG 17 (.faddr (.t 16) 1) 14 false, oG 18 (.faddr (.t 17) 0) 14 false, oG 19 (.load none (.t 18)) 14 false, oG 20 (.bin .eql (.t 19) (.c (.d (.int .i64 1)))) 14 false, oG 21 (.pick (.t 14) (.c (.d (.bool true))) (.t 20)) 7 true, oM 22 (.pick (.t 7) (.t 21) (.c (.d (.bool false)))), oM 23 (.mv (.t 22)), oG 24 (.mv (.t 0)) 23 true, oG 25 (.nilck (.t 24)) 23 true, oG 26 (.faddr (.t 25) 1) 23 true, oG 27 (.faddr (.t 26) 1) 23 true, oG 28 (.load none (.t 27)) 23 true, oG 29 (.mv (.t 1)) 23 true, oG 30 (.bin .eql (.t 28) (.t 29)) 23 true, oM 31 (.pick (.t 23) (.t 30) (.c (.d (.bool false)))), oM 4 (.mv (.t 31))] []) .ret))
theorem ac86_ok : Tryz.f86.body.bind (cCode Tryz.prog Tryz.f86.ntmps) = some ac86 := by kernel_rfl
-- 87 (*jacquard/parse.parser).named
def ac87 : ACode := (.seq (.region false [ oM 4 (.mv (.c (.d (.int .i64 0))))] []) (.seq (.seq (.region false [ oM 7 (.mv (.t 0)), oM 8 (.nilck (.t 7)), oM 9 (.faddr (.t 8) 1), oM 10 (.faddr (.t 9) 0), oM 11 (.load none (.t 10)), oM 12 (.bin .neq (.t 11) (.c (.d (.int .i64 1))))] []) (.cond (.t 12) (.seq (.region false [ oM 13 (.mv (.t 0)), oM 14 (.callf 37 [(.t 13), (.c (.d (.int .i64 6)))])] []) (.seq (.region false [ oM 4 (.mv (.c (.d (.int .i64 0))))] []) .ret)) .skip)) (.seq (.region false [ oM 16 (.mv (.t 1)), oM 17 (.mv (.t 0)), oM 18 (.nilck (.t 17)), oM 19 (.faddr (.t 18) 1), oM 20 (.faddr (.t 19) 1), oM 21 (.load none (.t 20)), oM 22 (.callv (.t 16) [(.t 21)]), oM 15 (.mv (.t 22)), oM 23 (.ext (.t 15) 0), oM 24 (.ext (.t 15) 1), oM 5 (.mv (.t 23)), oM 6 (.mv (.t 24))] []) (.seq (.seq (.region false [ oM 25 (.mv (.t 6)), oM 26 (.un .not (.t 25))] []) (.cond (.t 26) (.seq (.region false [ oM 27 (.mv (.t 0)), oM 28 (.callf 37 [(.t 27), (.c (.d (.int .i64 7)))])] []) (.seq (.region false [ oM 4 (.mv (.c (.d (.int .i64 0))))] []) .ret)) .skip)) (.seq (.region false [ oM 29 (.mv (.t 0)), oM 30 (.callf 29 [(.t 29)])] []) (.seq (.region false [ oM 31 (.mv (.t 5)), oM 4 (.mv (.t 31))] []) .ret))))))
theorem ac87_ok : Tryz.f87.body.bind (cCode Tryz.prog Tryz.f87.ntmps) = some ac87 := by kernel_rfl
-- 88 jacquard/parse.isLoc
def ac88 : ACode := (.seq (.region false [ oM 2 (.mv (.c (.d (.int .i64 0)))), oM 3 (.mv (.c (.d (.bool false))))] []) (.seq (.region false [ oM 4 (.mv (.t 0)), oM 5 (.idxs (.t 4) (.c (.d (.int .i64 0)))), oM 6 (.cvi .i64 (.t 5)), oM 7 (.mv (.t 0)), oM 8 (.lens (.t 7)), oM 9 (.bin .eql (.t 8) (.c (.d (.int .i64 1)))), oM 2 (.mv (.t 6)), oM 3 (.mv (.t 9))] []) .ret))
theorem ac88_ok : Tryz.f88.body.bind (cCode Tryz.prog Tryz.f88.ntmps) = some ac88 := by kernel_rfl
-- 89 (*jacquard/parse.parser).number
def ac89 : ACode := (.seq (.region false [ oM 2 (.mv (.c (.d (.int .i64 0))))] []) (.seq (.seq (.region false [ oM 5 (.mv (.t 0)), oM 6 (.nilck (.t 5)), oM 7 (.faddr (.t 6) 1), oM 8 (.faddr (.t 7) 0), oM 9 (.load none (.t 8)), oM 10 (.bin .neq (.t 9) (.c (.d (.int .i64 2))))] []) (.cond (.t 10) (.region false [ oM 11 (.mv (.t 0)), oM 12 (.callf 37 [(.t 11), (.c (.d (.int .i64 6)))])] []) .skip)) (.seq (.seq (.region false [ oM 13 (.mv (.t 0)), oM 14 (.callf 36 [(.t 13)]), oM 15 (.un .not (.t 14))] []) (.cond (.t 15) (.seq (.region false [ oM 2 (.mv (.c (.d (.int .i64 0))))] []) .ret) .skip)) (.seq (.region false [ oM 17 (.mv (.t 0)), oM 18 (.nilck (.t 17)), oM 19 (.faddr (.t 18) 1), oM 20 (.faddr (.t 19) 1), oM 21 (.load none (.t 20)), oM 22 (.callf 123 [(.t 21)]), oM 16 (.mv (.t 22)), oM 23 (.ext (.t 16) 0), oM 24 (.ext (.t 16) 1), oM 3 (.mv (.t 23)), oM 4 (.mv (.t 24))] []) (.seq (.region false [ oM 25 (.mv (.t 0)), oM 26 (.callf 29 [(.t 25)])] []) (.seq (.region false [ oM 27 (.mv (.t 3)), oM 2 (.mv (.t 27))] []) .ret))))))
theorem ac89_ok : Tryz.f89.body.bind (cCode Tryz.prog Tryz.f89.ntmps) = some ac89 := by kernel_rfl
-- 90 (*jacquard/parse.parser).ins
def ac90 : ACode := (.seq (.region false [ oM 2 (.alloc [.d (.int .i64 0), .d (.int .i64 0), .d (.int .i64 0), .d (.int .i64 0), .d (.int .i64 0), .d (.int .i64 0), .d (.int .i64 0), .d (.int .i64 0), .d (.int .i64 0)])] []) (.seq (.region false [ oM 6 (.build [.d (.int .i64 0), .d (.int .i64 0), .d (.int .i64 0), .d (.int .i64 0), .d (.int .i64 0), .d (.int .i64 0), .d (.int .i64 0), .d (.int .i64 0), .d (.int .i64 0)] []), oM 3 (.alloc [.d (.int .i64 0), .d (.int .i64 0), .d (.int .i64 0), .d (.int .i64 0), .d (.int .i64 0), .d (.int .i64 0), .d (.int .i64 0), .d (.int .i64 0), .d (.int .i64 0)]), ⟨none, .store 9 (.t 3) (.t 6), none⟩] []) (.seq (.block 0 (.seq (.region false [ oM 15 (.mv (.t 0)), oM 16 (.callf 32 [(.t 15), (.c (.d (.str [115, 116, 111, 114, 101])))]), oM 14 (.mv (.t 16))] []) (.cond (.t 14) (.seq (.region false [ oM 17 (.mv (.t 0)), oM 18 (.callf 87 [(.t 17), (.c (.fn 88 []))]), oM 19 (.faddr (.t 3) 0), ⟨none, .store 1 (.t 19) (.c (.d (.int .i64 1))), none⟩, oM 20 (.faddr (.t 3) 2), ⟨none, .store 1 (.t 20) (.t 18), none⟩] []) (.region false [ oM 21 (.mv (.t 0)), oM 22 (.callf 126 [(.t 21)]), oM 23 (.faddr (.t 3) 3), ⟨none, .store 2 (.t 23) (.t 22), none⟩] [])) (.seq (.region false [ oM 25 (.mv (.t 0)), oM 26 (.callf 32 [(.t 25), (.c (.d (.str [102, 101, 110, 99, 101])))]), oM 24 (.mv (.t 26))] []) (.cond (.t 24) (.region false [ oM 27 (.faddr (.t 3) 0), ⟨none, .store 1 (.t 27) (.c (.d (.int .i64 3))), none⟩] []) (.seq (.region false [ oM 29 (.mv (.t 0)), oM 30 (.callf 32 [(.t 29), (.c (.d (.str [115, 107, 105, 112])))]), oM 28 (.mv (.t 30))] []) (.cond (.t 28) (.seq (.region false [ oM 31 (.faddr (.t 3) 0), ⟨none, .store 1 (.t 31) (.c (.d (.int .i64 6))), none⟩] []) (.seq (.seq (.region false [ oM 33 (.mv (.t 0)), oM 34 (.nilck (.t 33)), oM 35 (.faddr (.t 34) 1), oM 36 (.faddr (.t 35) 1), oM 37 (.load none (.t 36)), oM 38 (.callf 123 [(.t 37)]), oM 32 (.mv (.t 38)), oM 39 (.ext (.t 32) 0), oM 40 (.ext (.t 32) 1), oM 4 (.mv (.t 39)), oM 5 (.mv (.t 40))] []) (.seq (.region false [ oM 41 (.mv (.t 0)), oM 42 (.nilck (.t 41)), oM 43 (.faddr (.t 42) 1), oM 44 (.faddr (.t 43) 0), oM 45 (.load none (.t 44)), oM 46 (.bin .eql (.t 45) (.c (.d (.int .i64 2)))), oM 47 (.mv (.t 46)), oG 48 (.mv (.t 4)) 47 true, oG 49 (.bin .lss (.t 48) (.c (.d (.int .i64 0)))) 47 true, oM 50 (.pick (.t 47) (.t 49) (.c (.d (.bool false))))] []) (.cond (.t 50) (.region false [ oM 51 (.mv (.t 0)), oM 52 (.callf 37 [(.t 51), (.c (.d (.int .i64 6)))])] []) .skip))) (.seq (.region false [ oM 53 (.mv (.t 0)), oM 54 (.callf 89 [(.t 53)]), oM 55 (.faddr (.t 3) 8), ⟨none, .store 1 (.t 55) (.t 54), none⟩] []) (.seq (.region false [ oM 56 (.mv (.t 0)), oM 57 (.callf 30 [(.t 56), (.c (.d (.str [105, 102])))])] []) (.seq (.region false [ oM 58 (.mv (.t 0)), oM 59 (.callf 126 [(.t 58)]), oM 60 (.faddr (.t 3) 3), ⟨none, .store 2 (.t 60) (.t 59), none⟩] []) (.seq (.region false [ oM 61 (.mv (.t 0)), oM 62 (.callf 30 [(.t 61), (.c (.d (.str [61, 61])))])] []) (.region false [ oM 63 (.mv (.t 0)), oM 64 (.callf 126 [(.t 63)]), oM 65 (.faddr (.t 3) 6), ⟨none, .store 2 (.t 65) (.t 64), none⟩] []))))))) (.seq (.region false [ oM 7 (.mv (.t 0)), oM 8 (.callf 87 [(.t 7), (.c (.fn 127 []))]), oM 9 (.faddr (.t 3) 1), ⟨none, .store 1 (.t 9) (.t 8), none⟩] []) (.seq (.region false [ oM 10 (.mv (.t 0)), oM 11 (.callf 30 [(.t 10), (.c (.d (.str [61])))])] []) (.region false [ oM 12 (.mv (.t 0)), oM 13 (.callf 128 [(.t 12), (.t 3)])] [])))))))))) (.seq (.region false [ oM 66 (.load (some 9) (.t 3)), ⟨none, .store 9 (.t 2) (.t 66), none⟩] []) .ret))))
theorem ac90_ok : Tryz.f90.body.bind (cCode Tryz.prog Tryz.f90.ntmps) = some ac90 := by kernel_rfl
-- 91 (*jacquard/parse.parser).atom
def ac91 : ACode := (.seq (.region false [ oM 2 (.alloc [.d (.int .i64 0), .d (.int .i64 0), .d (.int .i64 0), .d (.int .i64 0)])] []) (.seq (.region false [ oM 6 (.build [.d (.int .i64 0), .d (.int .i64 0), .d (.int .i64 0), .d (.int .i64 0)] [(0, 1, (.c (.d (.int .i64 (-1)))))]), oM 3 (.alloc [.d (.int .i64 0), .d (.int .i64 0), .d (.int .i64 0), .d (.int .i64 0)]), ⟨none, .store 4 (.t 3) (.t 6), none⟩] []) (.seq (.seq (.region false [ oM 7 (.mv (.t 0)), oM 8 (.callf 36 [(.t 7)]), oM 9 (.mv (.t 8)), oG 10 (.mv (.t 0)) 9 true, oG 11 (.nilck (.t 10)) 9 true, oG 12 (.faddr (.t 11) 1) 9 true, oG 13 (.faddr (.t 12) 0) 9 true, oG 14 (.load none (.t 13)) 9 true, oG 15 (.bin .eql (.t 14) (.c (.d (.int .i64 2)))) 9 true, oM 16 (.pick (.t 9) (.t 15) (.c (.d (.bool false))))] []) (.cond (.t 16) (.seq (.region false [ oM 18 (.mv (.t 0)), oM 19 (.nilck (.t 18)), oM 20 (.faddr (.t 19) 1), oM 21 (.faddr (.t 20) 1), oM 22 (.load none (.t 21)), oM 23 (.callf 123 [(.t 22)]), oM 17 (.mv (.t 23)), oM 24 (.ext (.t 17) 0), oM 25 (.ext (.t 17) 1), oM 4 (.mv (.t 24)), oM 5 (.mv (.t 25))] []) (.seq (.seq (.region false [ oM 26 (.mv (.t 4)), oM 27 (.bin .lss (.t 26) (.c (.d (.int .i64 0)))), oM 28 (.mv (.t 27)), oG 29 (.mv (.t 4)) 28 false, oG 30 (.bin .gtr (.t 29) (.c (.d (.int .i64 9)))) 28 false, oM 31 (.pick (.t 28) (.c (.d (.bool true))) (.t 30))] []) (.cond (.t 31) (.seq (.region false [ oM 32 (.mv (.t 0)), oM 33 (.callf 37 [(.t 32), (.c (.d (.int .i64 7)))])] []) (.seq (.region false [ oM 34 (.build [.d (.int .i64 0), .d (.int .i64 0), .d (.int .i64 0), .d (.int .i64 0)] []), ⟨none, .store 4 (.t 2) (.t 34), none⟩] []) .ret)) .skip)) (.seq (.region false [ oM 35 (.mv (.t 4)), oM 36 (.faddr (.t 3) 0), ⟨none, .store 1 (.t 36) (.t 35), none⟩] []) (.seq (.region false [ oM 37 (.mv (.t 0)), oM 38 (.callf 29 [(.t 37)])] []) (.seq (.region false [ oM 39 (.mv (.t 0)), oM 40 (.callf 30 [(.t 39), (.c (.d (.str [58])))])] []) (.region false [ oM 41 (.mv (.t 0)), oM 42 (.callf 87 [(.t 41), (.c (.fn 127 []))]), oM 43 (.faddr (.t 3) 1), ⟨none, .store 1 (.t 43) (.t 42), none⟩] [])))))) (.region false [ oM 44 (.mv (.t 0)), oM 45 (.callf 87 [(.t 44), (.c (.fn 88 []))]), oM 46 (.faddr (.t 3) 2), ⟨none, .store 1 (.t 46) (.t 45), none⟩] []))) (.seq (.region false [ oM 47 (.mv (.t 0)), oM 48 (.callf 30 [(.t 47), (.c (.d (.str [61])))])] []) (.seq (.region false [ oM 49 (.mv (.t 0)), oM 50 (.callf 89 [(.t 49)]), oM 51 (.faddr (.t 3) 3), ⟨none, .store 1 (.t 51) (.t 50), none⟩] []) (.seq (.region false [ oM 52 (.load (some 4) (.t 3)), ⟨none, .store 4 (.t 2) (.t 52), none⟩] []) .ret))))))
theorem ac91_ok : Tryz.f91.body.bind (cCode Tryz.prog Tryz.f91.ntmps) = some ac91 := by kernel_rfl
-- 93 (*jacquard/jacquardref2.reader).operand
-- 94 (*jacquard/jacquardref2.reader).register
-- 95 jacquard/jacquardref2.Op
-- 116 jacquard/jacquardref2.operandOk
def ac116 : ACode := (.seq (.region false [ oM 1 (.box (.t 0)), oM 2 (.mv (.c (.d (.bool false))))] []) (.seq (.region false [ oM 3 (.faddr (.t 1) 0), oM 4 (.load none (.t 3)), oM 5 (.bin .eql (.t 4) (.c (.d (.int .i64 (-1))))), oM 6 (.mv (.t 5)), oG 7 (.faddr (.t 1) 0) 6 false, oG 8 (.load none (.t 7)) 6 false, oG 9 (.bin .geq (.t 8) (.c (.d (.int .i64 0)))) 6 false, oG 10 (.mv (.t 9)) 6 false, oG 11 (.faddr (.t 1) 0) 10 true, oG 12 (.load none (.t 11)) 10 true, oG 13 (.bin .leq (.t 12) (.c (.d (.int .i64 3)))) 10 true, oG 14 (.pick (.t 10) (.t 13) (.c (.d (.bool false)))) 6 false, oG 15 (.mv (.t 14)) 6 false, oG 16 (.faddr (.t 1) 1) 15 true, oG 17 (.load none (.t 16)) 15 true, oG 18 (.bin .eql (.t 17) (.c (.d (.int .i64 0)))) 15 true, oG 19 (.pick (.t 15) (.t 18) (.c (.d (.bool false)))) 6 false, oM 20 (.pick (.t 6) (.c (.d (.bool true))) (.t 19)), oM 2 (.mv (.t 20))] []) .ret))
theorem ac116_ok : Tryz.f116.body.bind (cCode Tryz.prog Tryz.f116.ntmps) = some ac116 := by kernel_rfl
-- 117 jacquard/jacquardref2.signs
def ac117 : ACode := (.seq (.region false [ oM 0 (.mv (.c (.d .nsl)))] []) (.seq (.region false [ oM 1 (.bslice 1 11 [.d (.str []), .d (.str []), .d (.str []), .d (.str []), .d (.str []), .d (.str []), .d (.str []), .d (.str []), .d (.str []), .d (.str []), .d (.str [])] [(0, 1, (.c (.d (.str [43])))), (1, 1, (.c (.d (.str [45])))), (2, 1, (.c (.d (.str [42])))), (3, 1, (.c (.d (.str [38])))), (4, 1, (.c (.d (.str [124])))), (5, 1, (.c (.d (.str [94])))), (6, 1, (.c (.d (.str [60, 60])))), (7, 1, (.c (.d (.str [62, 62])))), (8, 1, (.c (.d (.str [61, 61])))), (9, 1, (.c (.d (.str [33, 61])))), (10, 1, (.c (.d (.str [60]))))]), oM 0 (.mv (.t 1))] []) .ret))
theorem ac117_ok : Tryz.f117.body.bind (cCode Tryz.prog Tryz.f117.ntmps) = some ac117 := by kernel_rfl
-- 126 (*jacquard/parse.parser).operand
def ac126 : ACode := (.seq (.region false [ oM 2 (.alloc [.d (.int .i64 0), .d (.int .i64 0)])] []) (.seq (.seq (.region false [ oM 3 (.mv (.t 0)), oM 4 (.callf 36 [(.t 3)]), oM 5 (.mv (.t 4)), oG 6 (.mv (.t 0)) 5 true, oG 7 (.nilck (.t 6)) 5 true, oG 8 (.faddr (.t 7) 1) 5 true, oG 9 (.faddr (.t 8) 0) 5 true, oG 10 (.load none (.t 9)) 5 true, oG 11 (.bin .eql (.t 10) (.c (.d (.int .i64 2)))) 5 true, oM 12 (.pick (.t 5) (.t 11) (.c (.d (.bool false))))] []) (.cond (.t 12) (.seq (.region false [ oM 13 (.mv (.t 0)), oM 14 (.callf 89 [(.t 13)]), oM 15 (.build [.d (.int .i64 0), .d (.int .i64 0)] [(0, 1, (.c (.d (.int .i64 (-1))))), (1, 1, (.t 14))]), ⟨none, .store 2 (.t 2) (.t 15), none⟩] []) .ret) .skip)) (.seq (.region false [ oM 16 (.mv (.t 0)), oM 17 (.callf 87 [(.t 16), (.c (.fn 127 []))]), oM 18 (.build [.d (.int .i64 0), .d (.int .i64 0)] [(0, 1, (.t 17))]), ⟨none, .store 2 (.t 2) (.t 18), none⟩] []) .ret)))
theorem ac126_ok : Tryz.f126.body.bind (cCode Tryz.prog Tryz.f126.ntmps) = some ac126 := by kernel_rfl
-- 127 jacquard/parse.isReg
def ac127 : ACode := (.seq (.region false [ oM 2 (.mv (.c (.d (.int .i64 0)))), oM 3 (.mv (.c (.d (.bool false))))] []) (.seq (.seq (.region false [ oM 4 (.mv (.t 0)), oM 5 (.lens (.t 4)), oM 6 (.bin .neq (.t 5) (.c (.d (.int .i64 2)))), oM 7 (.mv (.t 6)), oG 8 (.mv (.t 0)) 7 false, oG 9 (.idxs (.t 8) (.c (.d (.int .i64 0)))) 7 false, oG 10 (.bin .neq (.t 9) (.c (.d (.int .u8 114)))) 7 false, oM 11 (.pick (.t 7) (.c (.d (.bool true))) (.t 10)), oM 12 (.mv (.t 11)), oG 13 (.mv (.t 0)) 12 false, oG 14 (.idxs (.t 13) (.c (.d (.int .i64 1)))) 12 false, oG 15 (.bin .lss (.t 14) (.c (.d (.int .u8 48)))) 12 false, oM 16 (.pick (.t 12) (.c (.d (.bool true))) (.t 15)), oM 17 (.mv (.t 16)), oG 18 (.mv (.t 0)) 17 false, oG 19 (.idxs (.t 18) (.c (.d (.int .i64 1)))) 17 false, oG 20 (.bin .gtr (.t 19) (.c (.d (.int .u8 51)))) 17 false, oM 21 (.pick (.t 17) (.c (.d (.bool true))) (.t 20))] []) (.cond (.t 21) (.seq (.region false [ oM 2 (.mv (.c (.d (.int .i64 0)))), oM 3 (.mv (.c (.d (.bool false))))] []) .ret) .skip)) (.seq (.region false [ oM 22 (.mv (.t 0)), oM 23 (.idxs (.t 22) (.c (.d (.int .i64 1)))), oM 24 (.bin .and (.t 23) (.c (.d (.int .u8 3)))), oM 25 (.cvi .i64 (.t 24)), oM 2 (.mv (.t 25)), oM 3 (.mv (.c (.d (.bool true))))] []) .ret)))
theorem ac127_ok : Tryz.f127.body.bind (cCode Tryz.prog Tryz.f127.ntmps) = some ac127 := by kernel_rfl
-- 128 (*jacquard/parse.parser).right
def ac128 : ACode := (.block 0 (.seq (.region false [ oM 51 (.mv (.t 0)), oM 52 (.callf 32 [(.t 51), (.c (.d (.str [108, 111, 97, 100])))]), oM 50 (.mv (.t 52))] []) (.cond (.t 50) (.region false [ oM 53 (.mv (.t 1)), oM 54 (.mv (.t 1)), oM 55 (.mv (.t 0)), oM 56 (.callf 87 [(.t 55), (.c (.fn 88 []))]), oM 57 (.nilck (.t 53)), oM 58 (.faddr (.t 57) 0), ⟨none, .store 1 (.t 58) (.c (.d (.int .i64 2))), none⟩, oM 59 (.nilck (.t 54)), oM 60 (.faddr (.t 59) 2), ⟨none, .store 1 (.t 60) (.t 56), none⟩] []) (.seq (.region false [ oM 62 (.mv (.t 0)), oM 63 (.callf 32 [(.t 62), (.c (.d (.str [99, 97, 115])))]), oM 61 (.mv (.t 63))] []) (.cond (.t 61) (.seq (.region false [ oM 64 (.mv (.t 1)), oM 65 (.mv (.t 1)), oM 66 (.mv (.t 0)), oM 67 (.callf 87 [(.t 66), (.c (.fn 88 []))]), oM 68 (.nilck (.t 64)), oM 69 (.faddr (.t 68) 0), ⟨none, .store 1 (.t 69) (.c (.d (.int .i64 4))), none⟩, oM 70 (.nilck (.t 65)), oM 71 (.faddr (.t 70) 2), ⟨none, .store 1 (.t 71) (.t 67), none⟩] []) (.seq (.region false [ oM 72 (.mv (.t 1)), oM 73 (.mv (.t 0)), oM 74 (.callf 126 [(.t 73)]), oM 75 (.nilck (.t 72)), oM 76 (.faddr (.t 75) 3), ⟨none, .store 2 (.t 76) (.t 74), none⟩] []) (.region false [ oM 77 (.mv (.t 1)), oM 78 (.mv (.t 0)), oM 79 (.callf 126 [(.t 78)]), oM 80 (.nilck (.t 77)), oM 81 (.faddr (.t 80) 6), ⟨none, .store 2 (.t 81) (.t 79), none⟩] []))) (.seq (.region false [ oM 6 (.mv (.t 1)), oM 7 (.mv (.t 1)), oM 8 (.mv (.t 1)), oM 9 (.mv (.t 0)), oM 10 (.callf 126 [(.t 9)]), oM 11 (.build [.d (.int .i64 0), .d (.int .i64 0)] [(0, 1, (.c (.d (.int .i64 (-1)))))]), oM 12 (.nilck (.t 6)), oM 13 (.faddr (.t 12) 0), ⟨none, .store 1 (.t 13) (.c (.d (.int .i64 5))), none⟩, oM 14 (.nilck (.t 7)), oM 15 (.faddr (.t 14) 3), ⟨none, .store 2 (.t 15) (.t 10), none⟩, oM 16 (.nilck (.t 8)), oM 17 (.faddr (.t 16) 6), ⟨none, .store 2 (.t 17) (.t 11), none⟩] []) (.seq (.seq (.region false [ oM 18 (.mv (.t 0)), oM 19 (.callf 36 [(.t 18)]), oM 20 (.un .not (.t 19)), oM 21 (.mv (.t 20)), oG 22 (.mv (.t 0)) 21 false, oG 23 (.nilck (.t 22)) 21 false, oG 24 (.faddr (.t 23) 1) 21 false, oG 25 (.faddr (.t 24) 0) 21 false, oG 26 (.load none (.t 25)) 21 false, oG 27 (.bin .neq (.t 26) (.c (.d (.int .i64 3)))) 21 false, oM 28 (.pick (.t 21) (.c (.d (.bool true))) (.t 27))] []) (.cond (.t 28) .ret .skip)) (.seq (.region false [ oM 30 (.mv (.t 0)), oM 31 (.nilck (.t 30)), oM 32 (.faddr (.t 31) 1), oM 33 (.faddr (.t 32) 1), oM 34 (.load none (.t 33)), oM 35 (.callf 141 [(.t 34)]), oM 29 (.mv (.t 35)), oM 36 (.ext (.t 29) 0), oM 37 (.ext (.t 29) 1), oM 4 (.mv (.t 36)), oM 5 (.mv (.t 37))] []) (.seq (.region false [ oM 38 (.mv (.t 5))] []) (.cond (.t 38) (.seq (.region false [ oM 39 (.mv (.t 0)), oM 40 (.callf 29 [(.t 39)])] []) (.region false [ oM 41 (.mv (.t 1)), oM 42 (.mv (.t 1)), oM 43 (.mv (.t 4)), oM 44 (.mv (.t 0)), oM 45 (.callf 126 [(.t 44)]), oM 46 (.nilck (.t 41)), oM 47 (.faddr (.t 46) 5), ⟨none, .store 1 (.t 47) (.t 43), none⟩, oM 48 (.nilck (.t 42)), oM 49 (.faddr (.t 48) 6), ⟨none, .store 2 (.t 49) (.t 45), none⟩] [])) .skip))))))))))
theorem ac128_ok : Tryz.f128.body.bind (cCode Tryz.prog Tryz.f128.ntmps) = some ac128 := by kernel_rfl
-- 129 jacquard/jacquardref2.reg
end Go.Proofs.YtpfbljkfbjjlkaaGreatDoor

/- A test as plain data, and its cells. -/
namespace Go.Proofs.YtpfbljkfbjjlkaaGreatDoor
open Go Go.Jq
structure Atom where
  thread : Int
  reg : Int
  loc : Int
  value : Int
def Atom.cells (a : Atom) : List DV := [.int .i64 a.thread, .int .i64 a.reg, .int .i64 a.loc, .int .i64 a.value]
structure Opnd where
  reg : Int
  value : Int
def Opnd.cells (o : Opnd) : List DV := [.int .i64 o.reg, .int .i64 o.value]
structure Ins where
  kind : Int
  reg : Int
  loc : Int
  a : Opnd
  op : Int
  b : Opnd
  n : Int
def Ins.cells (i : Ins) : List DV := [.int .i64 i.kind, .int .i64 i.reg, .int .i64 i.loc, .int .i64 i.a.reg, .int .i64 i.a.value, .int .i64 i.op, .int .i64 i.b.reg, .int .i64 i.b.value, .int .i64 i.n]
structure Init where
  loc : Int
  value : Int
def Init.cells (i : Init) : List DV := [.int .i64 i.loc, .int .i64 i.value]
structure Test where
  name : List UInt8
  inits : List Init
  threads : List (List Ins)
  kind : Int
  rows : List (List Atom)
def IsTest (t : Test) (cs : List DV) : Prop := ∃ I T A, cs = [.str t.name, I, T, .int .i64 t.kind, A] ∧ IsSl Init.cells t.inits I ∧ IsSl2 Ins.cells t.threads T ∧ IsSl2 Atom.cells t.rows A
theorem init_len (i : Init) : (Init.cells i).length = 2 := rfl
theorem ins_len (i : Ins) : (Ins.cells i).length = 9 := rfl
theorem atom_len (i : Atom) : (Atom.cells i).length = 4 := rfl
end Go.Proofs.YtpfbljkfbjjlkaaGreatDoor

/- Texts of tests, tests that may be, the test made of numbers: plain Lean, no program in sight. -/
namespace Go.Proofs.YtpfbljkfbjjlkaaGreatDoor
open Go Go.Jq
set_option maxRecDepth 100000
set_option linter.unusedSimpArgs false
def signsT : List (List UInt8) := [[], [43], [45], [42], [38], [124], [94], [60, 60], [62, 62], [61, 61], [33, 61], [60]]
def signT (op : Int) : List UInt8 := if 1 ≤ op ∧ op ≤ 11 then signsT.getD op.toNat [] else []
def isLocB (n : Int) : Bool := decide (97 ≤ n) && decide (n ≤ 122)
theorem isLocB_iff (x : Int) : isLocB x = true ↔ 97 ≤ x ∧ x ≤ 122 := by simp [isLocB]
def isRegB (n : Int) : Bool := decide (0 ≤ n) && decide (n < 4)
def isOpB (o : Opnd) : Bool := decide (o.reg = -1) || (isRegB o.reg && decide (o.value = 0))
def wordAt (i : Nat) (c : UInt8) : Bool := (decide (97 ≤ c.toNat) && decide (c.toNat ≤ 122)) || (decide (i ≠ 0) && decide (48 ≤ c.toNat) && decide (c.toNat ≤ 57))
def isWordB (s : List UInt8) : Bool := (List.range s.length).all (fun i => wordAt i (s.getD i 0)) && decide (s ≠ [])
theorem isWord_at (s : List UInt8) {i : Nat} (hi : i < s.length) (h : wordAt i (s.getD i 0) = false) : isWordB s = false := by
  have : (List.range s.length).all (fun i => wordAt i (s.getD i 0)) = false := by
    rw [List.all_eq_false]
    exact ⟨i, List.mem_range.2 hi, by rw [h]; decide⟩
  unfold isWordB
  rw [this]
  rfl
theorem isWord_all (s : List UInt8) (h : ∀ i, i < s.length → wordAt i (s.getD i 0) = true) : isWordB s = decide (s ≠ []) := by
  have : (List.range s.length).all (fun i => wordAt i (s.getD i 0)) = true := by
    rw [List.all_eq_true]
    exact fun i hi => h i (List.mem_range.1 hi)
  unfold isWordB
  rw [this]
  rfl
def eqIns (x w : Ins) : Bool := decide (x.kind = w.kind) && (decide (x.reg = w.reg) && (decide (x.loc = w.loc) && (decide (x.a.reg = w.a.reg) && (decide (x.a.value = w.a.value) && (decide (x.op = w.op) && (decide (x.b.reg = w.b.reg) && (decide (x.b.value = w.b.value) && (decide (x.n = w.n) && true))))))))
def okInsB (x : Ins) : Bool :=
  if x.kind = 1 then (isLocB x.loc && isOpB x.a) && eqIns x ⟨x.kind, 0, x.loc, x.a, 0, ⟨0, 0⟩, 0⟩
  else if x.kind = 2 then (isLocB x.loc && isRegB x.reg) && eqIns x ⟨x.kind, x.reg, x.loc, ⟨0, 0⟩, 0, ⟨0, 0⟩, 0⟩
  else if x.kind = 3 then eqIns x ⟨x.kind, 0, 0, ⟨0, 0⟩, 0, ⟨0, 0⟩, 0⟩
  else if x.kind = 4 then (isLocB x.loc && isRegB x.reg && isOpB x.a && isOpB x.b) && eqIns x ⟨x.kind, x.reg, x.loc, x.a, 0, x.b, 0⟩
  else if x.kind = 5 then (isRegB x.reg && isOpB x.a && isOpB x.b && decide (0 ≤ x.op) && decide (x.op ≤ 11) && (decide (0 < x.op) || (decide (x.b.reg = -1) && decide (x.b.value = 0)))) && eqIns x ⟨x.kind, x.reg, 0, x.a, x.op, x.b, 0⟩
  else if x.kind = 6 then (decide (0 ≤ x.n) && isOpB x.a && isOpB x.b) && eqIns x ⟨x.kind, 0, 0, x.a, 0, x.b, x.n⟩
  else false
def okAtomB (a : Atom) : Bool := if a.thread = -1 then decide (a.reg = 0) && isLocB a.loc else decide (0 ≤ a.thread) && decide (a.thread ≤ 9) && decide (a.loc = 0) && isRegB a.reg
def badRowB (l : List Atom) : Bool := decide (l.length = 0) || l.any fun a => !okAtomB a
def okCondB (kind : Int) (rows : List (List Atom)) : Bool :=
  if kind = 0 then decide (rows.length = 0) else (decide (kind = 1) || decide (kind = 2)) && decide (0 < rows.length) && !rows.any badRowB
def badThreadB (l : List Ins) : Bool := l.any fun x => !okInsB x
def badInitB (l : List Init) : Bool := l.any fun x => !isLocB x.loc
def okB (t : Test) : Bool := isWordB t.name && !badInitB t.inits && !t.threads.any badThreadB && okCondB t.kind t.rows
def locT (n : Int) : List UInt8 := (Utf8.encode (IntKind.i32.wrap n)).data.toList
def regT (n : Int) : List UInt8 := [114] ++ Lib.itoa n
def opT (o : Opnd) : List UInt8 := if o.reg = -1 then Lib.itoa o.value else regT o.reg
def partsI (x : Ins) : List (List UInt8) :=
  if x.kind = 1 then [[115, 116, 111, 114, 101], locT x.loc, opT x.a]
  else if x.kind = 2 then [regT x.reg, [61], [108, 111, 97, 100], locT x.loc]
  else if x.kind = 3 then [[102, 101, 110, 99, 101]]
  else if x.kind = 4 then [regT x.reg, [61], [99, 97, 115], locT x.loc, opT x.a, opT x.b]
  else if x.kind = 5 then [regT x.reg, [61], opT x.a] ++ (if 0 < x.op then [signT x.op, opT x.b] else [])
  else [[115, 107, 105, 112], Lib.itoa x.n, [105, 102], opT x.a, [61, 61], opT x.b]
def insT (x : Ins) : List UInt8 := if okInsB x then Lib.join (partsI x ++ [[59]]) [32] else []
def I64i (x : Ins) : Prop := I64 x.reg ∧ I64 x.a.reg ∧ I64 x.a.value ∧ I64 x.b.reg ∧ I64 x.b.value ∧ I64 x.n
theorem utf8_len (n : Int) : (Utf8.encode n).data.toList.length ≤ 4 := by
  unfold Utf8.encode
  simp only
  repeat' split
  all_goals simp
theorem join_len (sep : List UInt8) : ∀ (l : List (List UInt8)) (k : Nat), (∀ s ∈ l, s.length ≤ k) → (Lib.join l sep).length ≤ l.length * (k + sep.length)
  | [], _, _ => by simp [Lib.join]
  | [s], k, h => by
    have := h s (by simp)
    simp [Lib.join, List.intercalate]
    omega
  | s :: s' :: l, k, h => by
    have h1 := h s (by simp)
    have h2 := join_len sep (s' :: l) k (fun x hx => h x (List.mem_cons_of_mem _ hx))
    have e : Lib.join (s :: s' :: l) sep = s ++ sep ++ Lib.join (s' :: l) sep := by simp [Lib.join, List.intercalate]
    rw [e, List.length_append, List.length_append]
    simp only [List.length_cons] at h2 ⊢
    rw [Nat.succ_mul]
    omega
theorem regT_len {n : Int} (h : I64 n) : (regT n).length ≤ 21 := by
  have := itoa_len h
  simp [regT]; omega
theorem opT_len {o : Opnd} (h : I64 o.value) (h' : I64 o.reg) : (opT o).length ≤ 21 := by
  unfold opT
  split
  · have := itoa_len h; omega
  · exact regT_len h'
theorem signT_len (op : Int) : (signT op).length ≤ 2 := by
  unfold signT
  split
  · obtain ⟨q, rfl⟩ : ∃ q : Nat, op = q := ⟨op.toNat, by omega⟩
    have : q < 12 := by omega
    match q, this with
    | 0, _ | 1, _ | 2, _ | 3, _ | 4, _ | 5, _ | 6, _ | 7, _ | 8, _ | 9, _ | 10, _ | 11, _ => simp [signsT]
  · simp
theorem partsI_len {x : Ins} (h : I64i x) : (partsI x).length ≤ 6 ∧ ∀ s ∈ partsI x ++ [[59]], s.length ≤ 21 := by
  obtain ⟨h1, h2, h3, h4, h5, h6⟩ := h
  have l1 := regT_len h1
  have l2 := opT_len h3 h2
  have l3 := opT_len h5 h4
  have l4 := itoa_len h6
  have l5 : (locT x.loc).length ≤ 4 := utf8_len _
  have l6 := signT_len x.op
  have l4' : (Lib.itoa x.n).length ≤ 21 := by omega
  have l5' : (locT x.loc).length ≤ 21 := by omega
  have l6' : (signT x.op).length ≤ 21 := by omega
  unfold partsI
  by_cases k1 : x.kind = 1
  · rw [if_pos k1]; exact ⟨by simp, by simp only [List.forall_mem_append, List.forall_mem_cons]; simp [l2, l5']⟩
  rw [if_neg k1]
  by_cases k2 : x.kind = 2
  · rw [if_pos k2]; exact ⟨by simp, by simp only [List.forall_mem_append, List.forall_mem_cons]; simp [l1, l5']⟩
  rw [if_neg k2]
  by_cases k3 : x.kind = 3
  · rw [if_pos k3]; exact ⟨by simp, by simp only [List.forall_mem_append, List.forall_mem_cons]; simp⟩
  rw [if_neg k3]
  by_cases k4 : x.kind = 4
  · rw [if_pos k4]; exact ⟨by simp, by simp only [List.forall_mem_append, List.forall_mem_cons]; simp [l1, l2, l3, l5']⟩
  rw [if_neg k4]
  by_cases k5 : x.kind = 5
  · rw [if_pos k5]
    by_cases k6 : 0 < x.op
    · rw [if_pos k6]; exact ⟨by simp, by simp only [List.forall_mem_append, List.forall_mem_cons]; simp [l1, l2, l3, l6']⟩
    · rw [if_neg k6]; exact ⟨by simp, by simp only [List.forall_mem_append, List.forall_mem_cons]; simp [l1, l2]⟩
  rw [if_neg k5]; exact ⟨by simp, by simp only [List.forall_mem_append, List.forall_mem_cons]; simp [l2, l3, l4']⟩
theorem insT_join {x : Ins} (h : I64i x) : (Lib.join (partsI x ++ [[59]]) [32]).length ≤ 154 := by
  obtain ⟨h1, h2⟩ := partsI_len h
  have := join_len [32] (partsI x ++ [[59]]) 21 h2
  simp only [List.length_append, List.length_singleton] at this
  have h3 : ((partsI x).length + 1) * 22 ≤ 7 * 22 := Nat.mul_le_mul_right _ (by omega)
  omega
theorem insT_len {x : Ins} (h : I64i x) : (insT x).length ≤ 154 := by
  unfold insT
  split
  · exact insT_join h
  · simp
def atomT (a : Atom) : List UInt8 := (if a.thread = -1 then locT a.loc else Lib.itoa a.thread ++ [32, 58, 32] ++ regT a.reg) ++ [32, 61, 32] ++ Lib.itoa a.value
def rowT (l : List Atom) : List UInt8 := Lib.join (l.map atomT) [32, 38, 32]
def wordT (kind : Int) : List UInt8 := if kind = 2 then [102, 111, 114, 97, 108, 108, 32] else [101, 120, 105, 115, 116, 115, 32]
def condT (kind : Int) (rows : List (List Atom)) : List UInt8 :=
  if kind = 0 ∨ okCondB kind rows = false then [] else wordT kind ++ Lib.join (rows.map rowT) [32, 124, 32] ++ [32, 59]
def I64a (a : Atom) : Prop := I64 a.thread ∧ I64 a.reg ∧ I64 a.value
def FewC (rows : List (List Atom)) : Prop := rows.length ≤ 12 ∧ ∀ l ∈ rows, l.length ≤ 12 ∧ ∀ a ∈ l, I64a a
theorem atomT_len {a : Atom} (h : I64a a) : (atomT a).length ≤ 67 := by
  have h1 := itoa_len h.1
  have h2 := regT_len h.2.1
  have h3 := itoa_len h.2.2
  have h4 : (locT a.loc).length ≤ 4 := utf8_len _
  unfold atomT
  split <;> simp <;> omega
def initL (x : Init) : List UInt8 := locT x.loc ++ [32, 61, 32] ++ Lib.itoa x.value ++ [32, 59] ++ [10]
def insL (x : Ins) : List UInt8 := insT x ++ [10]
def threadL (l : List Ins) : List UInt8 := [116, 104, 114, 101, 97, 100, 32, 123, 10] ++ l.flatMap insL ++ [125, 10]
theorem flat_len {α : Type} (f : α → List UInt8) (k : Nat) : ∀ (l : List α), (∀ x ∈ l, (f x).length ≤ k) → (l.flatMap f).length ≤ l.length * k
  | [], _ => by simp
  | x :: l, h => by
    have h1 := h x (by simp)
    have h2 := flat_len f k l (fun y hy => h y (List.mem_cons_of_mem _ hy))
    simp only [List.flatMap_cons, List.length_append, List.length_cons, Nat.succ_mul]
    omega
theorem flat_take {α : Type} (f : α → List UInt8) {l : List α} {i : Nat} (h : i < l.length) : (l.take (i + 1)).flatMap f = (l.take i).flatMap f ++ f l[i] := by
  rw [List.take_succ_eq_append_getElem h, List.flatMap_append]
  simp
theorem initL_len {x : Init} (h : I64 x.value) : (initL x).length ≤ 30 := by
  have h1 := itoa_len h
  have h4 : (locT x.loc).length ≤ 4 := utf8_len _
  simp only [initL, List.length_append, List.length_cons, List.length_nil]
  omega
theorem insL_len {x : Ins} (h : I64i x) : (insL x).length ≤ 155 := by
  have h1 := insT_len h
  simp only [insL, List.length_append, List.length_cons, List.length_nil]
  omega
structure FewT (t : Test) : Prop where
  name : t.name.length ≤ 61
  inits : t.inits.length ≤ 41
  values : ∀ x ∈ t.inits, I64 x.value
  threads : t.threads.length ≤ 7
  ins : ∀ l ∈ t.threads, l.length ≤ 30 ∧ ∀ x ∈ l, I64i x
  rows : FewC t.rows
def headL (t : Test) : List UInt8 := [116, 101, 115, 116, 32] ++ t.name ++ [32, 123] ++ [10]
def initsL (l : List Init) : List UInt8 := if l = [] then [] else [105, 110, 105, 116, 32, 123, 10] ++ l.flatMap initL ++ [125, 10]
def condL (t : Test) : List UInt8 := if condT t.kind t.rows = [] then [] else condT t.kind t.rows ++ [10]
def testT (t : Test) : List UInt8 := if okB t then headL t ++ initsL t.inits ++ t.threads.flatMap threadL ++ condL t ++ [125, 10] else []
end Go.Proofs.YtpfbljkfbjjlkaaGreatDoor

/- Signs of numbers. -/
namespace Go.Proofs.YtpfbljkfbjjlkaaGreatDoor
open Go Go.Jq
set_option maxRecDepth 100000
set_option linter.unusedSimpArgs false
theorem signs_pure : Pure Tryz.prog 133 [] (.agg (signsT.map fun s => .d (.str s))) := by
  refine acalls_of Tryz.func133 ac133_ok Tryz.ntmps133 Tryz.results133 rfl ?_
  unfold ac133
  refine bwp_seq fun K hK => bwp_region rfl ?_
  simp -implicitDefEqProofs only [go_sem, ↓reduceIte]
  refine hK _ ?_; clear hK
  refine bwp_seq fun K hK => bwp_region rfl ?_
  simp -implicitDefEqProofs only [go_sem, ↓reduceIte]
  refine hK _ ?_; clear hK
  refine bwp_ret ?_
  simp only [go_sem]
  refine aend_mem (.agg (signsT.map fun s => .d (.str s))) [] [] ?_ rfl rfl trivial ⟨rfl, rfl⟩
  rfl
end Go.Proofs.YtpfbljkfbjjlkaaGreatDoor
