/- What the statement's proof leans on, part 4: the layer, the walks, the plain laws. -/
import Derived.Test.YtpfbljkfbjjlkaaGreatDoorProg
import Derived.Test.YtpfbljkfbjjlkaaGreatDoorMJZ1b
import Derived.KernelRfl
import Derived.Test.YtpfbljkfbjjlkaaGreatDoorMJZ1c
import Derived.Lib.Join
import Derived.Lib.IndexLaws
set_option linter.unusedSimpArgs false
set_option linter.unusedVariables false

/- The functions' code with its types resolved, as the layer's 'cCode' gives it. Written by a program of this session's (wip/x/dump.lean). -/
namespace Go.Proofs.YtpfbljkfbjjlkaaGreatDoor
open Go Go.Jq
set_option maxRecDepth 100000
-- 3 jacquard/jacquardlaw3.ParseTurned
def ac3 : ACode := (.seq (.region false [ oM 10 (.mv (.c (.d (.bool false))))] []) (.seq (.region false [ oM 18 (.mv (.t 0)), oM 19 (.callf 8 [(.t 18), (.c (.d (.int .i64 6)))]), oM 20 (.callf 7 [(.t 19)]), oM 11 (.mv (.t 20))] []) (.seq (.region false [ oM 21 (.mv (.t 11)), oM 22 (.cvsb (.t 21)), oM 12 (.mv (.t 22))] []) (.seq (.seq (.region false [ oM 23 (.mv (.t 12)), oM 24 (.lenl (.t 23)), oM 25 (.bin .eql (.t 24) (.c (.d (.int .i64 0))))] []) (.cond (.t 25) (.seq (.region false [ oM 10 (.mv (.c (.d (.bool false))))] []) .ret) .skip)) (.seq (.region false [ oM 26 (.mv (.t 12)), oM 27 (.mv (.t 1)), oM 28 (.bin .and (.t 27) (.c (.d (.int .i64 65535)))), oM 29 (.mv (.t 12)), oM 30 (.lenl (.t 29)), oM 31 (.bin .rem (.t 28) (.t 30)), oM 32 (.iaddr 1 none (.t 26) (.t 31)), oM 33 (.load none (.t 32)), oM 34 (.mv (.t 2)), oM 35 (.bin .xor (.t 33) (.t 34)), oM 36 (.iaddr 1 none (.t 26) (.t 31)), ⟨none, .store 1 (.t 36) (.t 35), none⟩] []) (.seq (.region false [ oM 37 (.mv (.t 3)), oM 38 (.bin .and (.t 37) (.c (.d (.int .i64 65535)))), oM 39 (.mv (.t 12)), oM 40 (.lenl (.t 39)), oM 41 (.bin .rem (.t 38) (.t 40)), oM 13 (.mv (.t 41))] []) (.seq (.region true [ oM 42 (.bslice 1 0 [] []), oM 43 (.mv (.t 12)), oM 44 (.mv (.t 13)), oM 45 (.slcl 1 (.t 43) none (some (.t 44))), oM 46 (.app 1 1 5 (.t 42) (.t 45)), oM 47 (.mv (.t 12)), oM 48 (.mv (.t 13)), oM 49 (.bin .add (.t 48) (.c (.d (.int .i64 1)))), oM 50 (.slcl 1 (.t 47) (some (.t 49)) none), oM 51 (.app 1 1 5 (.t 46) (.t 50)), oM 12 (.mv (.t 51))] [0, 0, 0, 6, 9, 0, 0, 64, 160, 272, 1023]) (.seq (.region false [ oM 52 (.mv (.t 12)), oM 53 (.mv (.t 12)), oM 54 (.lenl (.t 53)), oM 55 (.mv (.t 4)), oM 56 (.bin .and (.t 55) (.c (.d (.int .i64 15)))), oM 57 (.mv (.t 12)), oM 58 (.lenl (.t 57)), oM 59 (.bin .add (.t 58) (.c (.d (.int .i64 1)))), oM 60 (.bin .rem (.t 56) (.t 59)), oM 61 (.bin .sub (.t 54) (.t 60)), oM 62 (.slcl 1 (.t 52) none (some (.t 61))), oM 12 (.mv (.t 62))] []) (.seq (.region false [ oM 64 (.mv (.t 12)), oM 65 (.cvbs (.t 64)), oM 66 (.callf 9 [(.t 65)]), oM 63 (.mv (.t 66)), oM 67 (.ext (.t 63) 0), oM 68 (.ext (.t 63) 1), oM 14 (.alloc [.d (.str []), .d .nsl, .d .nsl, .d (.int .i64 0), .d .nsl]), oM 15 (.alloc [.d (.int .i64 0), .d (.int .i64 0)]), ⟨none, .store 5 (.t 14) (.t 67), none⟩, ⟨none, .store 2 (.t 15) (.t 68), none⟩] []) (.seq (.region false [ oM 70 (.mv (.t 12)), oM 71 (.cvbs (.t 70)), oM 72 (.callf 10 [(.t 71)]), oM 69 (.mv (.t 72)), oM 73 (.ext (.t 69) 0), oM 74 (.ext (.t 69) 1), oM 16 (.alloc [.d (.str []), .d .nsl, .d .nsl, .d (.int .i64 0), .d .nsl]), oM 17 (.alloc [.d (.int .i64 0), .d (.int .i64 0)]), ⟨none, .store 5 (.t 16) (.t 73), none⟩, ⟨none, .store 2 (.t 17) (.t 74), none⟩] []) (.seq (.region false [ oM 75 (.load (some 2) (.t 15)), oM 76 (.load (some 2) (.t 17)), oM 77 (.eqs [0, 0] false (.t 75) (.t 76)), oM 78 (.mv (.t 77)), oG 79 (.load (some 5) (.t 14)) 78 true, oG 80 (.load (some 5) (.t 16)) 78 true, oG 81 (.callf 11 [(.t 79), (.t 80)]) 78 true, oM 82 (.pick (.t 78) (.t 81) (.c (.d (.bool false)))), oM 83 (.mv (.t 82)), oG 84 (.faddr (.t 15) 1) 83 true, oG 85 (.load none (.t 84)) 83 true, oG 86 (.bin .geq (.t 85) (.c (.d (.int .i64 0)))) 83 true, oM 87 (.pick (.t 83) (.t 86) (.c (.d (.bool false)))), oM 88 (.mv (.t 87)), oG 89 (.faddr (.t 15) 1) 88 true, oG 90 (.load none (.t 89)) 88 true, oG 91 (.mv (.t 12)) 88 true, oG 92 (.lenl (.t 91)) 88 true, oG 93 (.bin .leq (.t 90) (.t 92)) 88 true, oM 94 (.pick (.t 88) (.t 93) (.c (.d (.bool false)))), oM 95 (.mv (.t 94)), oG 96 (.callf 12 []) 95 true, oM 97 (.pick (.t 95) (.t 96) (.c (.d (.bool false)))), oM 10 (.mv (.t 97))] []) .ret)))))))))))
theorem ac3_ok : Tryz.f3.body.bind (cCode Tryz.prog Tryz.f3.ntmps) = some ac3 := by kernel_rfl
-- 7 jacquard/jacquardref2.Print
def ac7L0 : ACode := (.seq (.seq (.region false [ oM 20 (.mv (.t 4)), oM 21 (.faddr (.t 1) 1), oM 22 (.load none (.t 21)), oM 23 (.lenl (.t 22)), oM 24 (.bin .lss (.t 20) (.t 23))] []) (.cond (.t 24) .skip (.exit 0))) (.seq (.block 1 (.region true [ oM 27 (.mv (.t 3)), oM 28 (.faddr (.t 1) 1), oM 29 (.load none (.t 28)), oM 30 (.mv (.t 4)), oM 31 (.iaddr 2 none (.t 29) (.t 30)), oM 32 (.faddr (.t 31) 0), oM 33 (.load none (.t 32)), oM 34 (.callf 22 [(.t 33)]), oM 35 (.bin .add (.t 27) (.t 34)), oM 36 (.bin .add (.t 35) (.c (.d (.str [32, 61, 32])))), oM 37 (.faddr (.t 1) 1), oM 38 (.load none (.t 37)), oM 39 (.mv (.t 4)), oM 40 (.iaddr 2 none (.t 38) (.t 39)), oM 41 (.faddr (.t 40) 1), oM 42 (.load none (.t 41)), oM 43 (.callf 23 [(.t 42)]), oM 44 (.bin .add (.t 36) (.t 43)), oM 45 (.bin .add (.t 44) (.c (.d (.str [32, 59, 10])))), oM 3 (.mv (.t 45))] [0, 0, 2, 0, 12, 16, 32, 64, 129, 256, 0, 1024, 0, 6144, 8192, 16384, 32896, 66048, 131072, 524287])) (.region false [ oM 25 (.mv (.t 4)), oM 26 (.bin .add (.t 25) (.c (.d (.int .i64 1)))), oM 4 (.mv (.t 26))] [])))
def ac7L1 : ACode := (.seq (.seq (.region false [ oM 57 (.mv (.t 6)), oM 58 (.faddr (.t 1) 2), oM 59 (.load none (.t 58)), oM 60 (.mv (.t 5)), oM 61 (.iaddr 1 none (.t 59) (.t 60)), oM 62 (.load none (.t 61)), oM 63 (.lenl (.t 62)), oM 64 (.bin .lss (.t 57) (.t 63))] []) (.cond (.t 64) .skip (.exit 4))) (.seq (.block 5 (.region false [ oM 67 (.mv (.t 3)), oM 68 (.faddr (.t 1) 2), oM 69 (.load none (.t 68)), oM 70 (.mv (.t 5)), oM 71 (.iaddr 1 none (.t 69) (.t 70)), oM 72 (.load none (.t 71)), oM 73 (.mv (.t 6)), oM 74 (.iaddr 9 none (.t 72) (.t 73)), oM 75 (.load (some 9) (.t 74)), oM 76 (.callf 24 [(.t 75)]), oM 77 (.bin .add (.t 67) (.t 76)), oM 78 (.bin .add (.t 77) (.c (.d (.str [10])))), oM 3 (.mv (.t 78))] [])) (.region false [ oM 65 (.mv (.t 6)), oM 66 (.bin .add (.t 65) (.c (.d (.int .i64 1)))), oM 6 (.mv (.t 66))] [])))
def ac7L2 : ACode := (.seq (.seq (.region false [ oM 48 (.mv (.t 5)), oM 49 (.faddr (.t 1) 2), oM 50 (.load none (.t 49)), oM 51 (.lenl (.t 50)), oM 52 (.bin .lss (.t 48) (.t 51))] []) (.cond (.t 52) .skip (.exit 2))) (.seq (.block 3 (.seq (.region false [ oM 55 (.mv (.t 3)), oM 56 (.bin .add (.t 55) (.c (.d (.str [116, 104, 114, 101, 97, 100, 32, 123, 10])))), oM 3 (.mv (.t 56))] []) (.seq (.seq (.region false [ oM 6 (.mv (.c (.d (.int .i64 0))))] []) (.block 4 (.loop ac7L1))) (.region false [ oM 79 (.mv (.t 3)), oM 80 (.bin .add (.t 79) (.c (.d (.str [125, 10])))), oM 3 (.mv (.t 80))] [])))) (.region false [ oM 53 (.mv (.t 5)), oM 54 (.bin .add (.t 53) (.c (.d (.int .i64 1)))), oM 5 (.mv (.t 54))] [])))
def ac7 : ACode := (.seq (.region false [ oM 1 (.box (.t 0)), oM 2 (.mv (.c (.d (.str []))))] []) (.seq (.seq (.region false [ oM 7 (.load (some 5) (.t 1)), oM 8 (.callf 21 [(.t 7)]), oM 9 (.un .not (.t 8))] []) (.cond (.t 9) (.seq (.region false [ oM 2 (.mv (.c (.d (.str []))))] []) .ret) .skip)) (.seq (.region false [ oM 10 (.faddr (.t 1) 0), oM 11 (.load none (.t 10)), oM 12 (.bin .add (.c (.d (.str [116, 101, 115, 116, 32]))) (.t 11)), oM 13 (.bin .add (.t 12) (.c (.d (.str [32, 123, 10])))), oM 3 (.mv (.t 13))] []) (.seq (.seq (.region false [ oM 14 (.faddr (.t 1) 1), oM 15 (.load none (.t 14)), oM 16 (.lenl (.t 15)), oM 17 (.bin .gtr (.t 16) (.c (.d (.int .i64 0))))] []) (.cond (.t 17) (.seq (.region false [ oM 18 (.mv (.t 3)), oM 19 (.bin .add (.t 18) (.c (.d (.str [105, 110, 105, 116, 32, 123, 10])))), oM 3 (.mv (.t 19))] []) (.seq (.seq (.region false [ oM 4 (.mv (.c (.d (.int .i64 0))))] []) (.block 0 (.loop ac7L0))) (.region false [ oM 46 (.mv (.t 3)), oM 47 (.bin .add (.t 46) (.c (.d (.str [125, 10])))), oM 3 (.mv (.t 47))] []))) .skip)) (.seq (.seq (.region false [ oM 5 (.mv (.c (.d (.int .i64 0))))] []) (.block 2 (.loop ac7L2))) (.seq (.seq (.region false [ oM 81 (.faddr (.t 1) 3), oM 82 (.faddr (.t 81) 0), oM 83 (.load none (.t 82)), oM 84 (.bin .neq (.t 83) (.c (.d (.int .i64 0))))] []) (.cond (.t 84) (.region false [ oM 85 (.mv (.t 3)), oM 86 (.faddr (.t 1) 3), oM 87 (.load (some 2) (.t 86)), oM 88 (.callf 25 [(.t 87)]), oM 89 (.bin .add (.t 85) (.t 88)), oM 90 (.bin .add (.t 89) (.c (.d (.str [10])))), oM 3 (.mv (.t 90))] []) .skip)) (.seq (.region false [ oM 91 (.mv (.t 3)), oM 92 (.bin .add (.t 91) (.c (.d (.str [125, 10])))), oM 2 (.mv (.t 92))] []) .ret)))))))
theorem ac7_ok : Tryz.f7.body.bind (cCode Tryz.prog Tryz.f7.ntmps) = some ac7 := by kernel_rfl
-- 8 jacquard/jacquardlaw3.Small
def ac8L0 : ACode := (.seq (.seq (.region false [ oM 51 (.mv (.t 13)), oM 52 (.bin .gtr (.t 51) (.c (.d (.int .i64 0)))), oM 53 (.mv (.t 52)), oG 54 (.mv (.t 10)) 53 true, oG 55 (.mv (.t 1)) 53 true, oG 56 (.bin .lss (.t 54) (.t 55)) 53 true, oM 57 (.pick (.t 53) (.t 56) (.c (.d (.bool false))))] []) (.cond (.t 57) .skip (.exit 2))) (.seq (.block 3 (.seq (.region false [ oM 60 (.mv (.t 7)), oM 61 (.callv (.t 60) []), oM 14 (.mv (.t 61))] []) (.seq (.region false [ oM 62 (.mv (.t 14)), oM 63 (.bin .shr (.t 62) (.c (.d (.int .u64 4)))), oM 64 (.mv (.t 9)), oM 65 (.bin .rem (.t 63) (.t 64)), oM 66 (.bin .add (.c (.d (.int .i64 120))) (.t 65)), oM 15 (.mv (.t 66))] []) (.seq (.region false [ oM 67 (.mv (.t 14)), oM 68 (.bin .shr (.t 67) (.c (.d (.int .u64 6)))), oM 69 (.bin .rem (.t 68) (.c (.d (.int .i64 3)))), oM 70 (.build [.d (.int .i64 0), .d (.int .i64 0)] [(0, 1, (.c (.d (.int .i64 (-1))))), (1, 1, (.t 69))]), oM 16 (.alloc [.d (.int .i64 0), .d (.int .i64 0)]), ⟨none, .store 2 (.t 16) (.t 70), none⟩] []) (.seq (.seq (.region false [ oM 71 (.mv (.t 14)), oM 72 (.bin .shr (.t 71) (.c (.d (.int .u64 8)))), oM 73 (.bin .rem (.t 72) (.c (.d (.int .i64 3)))), oM 74 (.bin .eql (.t 73) (.c (.d (.int .i64 0))))] []) (.cond (.t 74) (.region false [ oM 75 (.mv (.t 14)), oM 76 (.bin .shr (.t 75) (.c (.d (.int .u64 10)))), oM 77 (.bin .and (.t 76) (.c (.d (.int .i64 1)))), oM 78 (.build [.d (.int .i64 0), .d (.int .i64 0)] [(0, 1, (.t 77))]), ⟨none, .store 2 (.t 16) (.t 78), none⟩] []) .skip)) (.seq (.region false [ oM 79 (.mv (.t 14)), oM 80 (.bin .shr (.t 79) (.c (.d (.int .u64 11)))), oM 81 (.bin .and (.t 80) (.c (.d (.int .i64 1)))), oM 17 (.mv (.t 81))] []) (.seq (.region false [ oM 82 (.mv (.t 14)), oM 83 (.bin .rem (.t 82) (.c (.d (.int .i64 12))))] []) (.block 4 (.seq (.seq (.region false [ oM 96 (.bin .eql (.t 83) (.c (.d (.int .i64 0)))), oM 95 (.mv (.t 96))] []) (.cond (.t 95) .skip (.seq (.region false [ oM 97 (.bin .eql (.t 83) (.c (.d (.int .i64 1)))), oM 95 (.mv (.t 97))] []) (.cond (.t 95) .skip (.seq (.region false [ oM 98 (.bin .eql (.t 83) (.c (.d (.int .i64 2)))), oM 95 (.mv (.t 98))] []) (.cond (.t 95) .skip (.region false [ oM 99 (.bin .eql (.t 83) (.c (.d (.int .i64 3)))), oM 95 (.mv (.t 99))] []))))))) (.cond (.t 95) (.seq (.region false [ oM 100 (.mv (.t 12)), oM 101 (.mv (.t 15)), oM 102 (.load (some 2) (.t 16)), oM 103 (.build [.d (.int .i64 0), .d (.int .i64 0), .d (.int .i64 0), .d (.int .i64 0), .d (.int .i64 0), .d (.int .i64 0), .d (.int .i64 0), .d (.int .i64 0), .d (.int .i64 0)] [(0, 1, (.c (.d (.int .i64 1)))), (2, 1, (.t 101)), (3, 2, (.t 102))]), oM 104 (.bslice 9 1 [.d (.int .i64 0), .d (.int .i64 0), .d (.int .i64 0), .d (.int .i64 0), .d (.int .i64 0), .d (.int .i64 0), .d (.int .i64 0), .d (.int .i64 0), .d (.int .i64 0)] [(0, 9, (.t 103))]), oM 105 (.app 9 72 55 (.t 100) (.t 104)), oM 12 (.mv (.t 105))] []) (.region false [ oM 106 (.mv (.t 10)), oM 107 (.bin .add (.t 106) (.c (.d (.int .i64 1)))), oM 10 (.mv (.t 107))] [])) (.seq (.seq (.region false [ oM 109 (.bin .eql (.t 83) (.c (.d (.int .i64 4)))), oM 108 (.mv (.t 109))] []) (.cond (.t 108) .skip (.seq (.region false [ oM 110 (.bin .eql (.t 83) (.c (.d (.int .i64 5)))), oM 108 (.mv (.t 110))] []) (.cond (.t 108) .skip (.seq (.region false [ oM 111 (.bin .eql (.t 83) (.c (.d (.int .i64 6)))), oM 108 (.mv (.t 111))] []) (.cond (.t 108) .skip (.region false [ oM 112 (.bin .eql (.t 83) (.c (.d (.int .i64 7)))), oM 108 (.mv (.t 112))] []))))))) (.cond (.t 108) (.seq (.region false [ oM 113 (.mv (.t 12)), oM 114 (.mv (.t 17)), oM 115 (.mv (.t 15)), oM 116 (.build [.d (.int .i64 0), .d (.int .i64 0), .d (.int .i64 0), .d (.int .i64 0), .d (.int .i64 0), .d (.int .i64 0), .d (.int .i64 0), .d (.int .i64 0), .d (.int .i64 0)] [(0, 1, (.c (.d (.int .i64 2)))), (1, 1, (.t 114)), (2, 1, (.t 115))]), oM 117 (.bslice 9 1 [.d (.int .i64 0), .d (.int .i64 0), .d (.int .i64 0), .d (.int .i64 0), .d (.int .i64 0), .d (.int .i64 0), .d (.int .i64 0), .d (.int .i64 0), .d (.int .i64 0)] [(0, 9, (.t 116))]), oM 118 (.app 9 72 55 (.t 113) (.t 117)), oM 12 (.mv (.t 118))] []) (.region false [ oM 119 (.mv (.t 10)), oM 120 (.bin .add (.t 119) (.c (.d (.int .i64 1)))), oM 10 (.mv (.t 120))] [])) (.seq (.region false [ oM 122 (.bin .eql (.t 83) (.c (.d (.int .i64 8)))), oM 121 (.mv (.t 122))] []) (.cond (.t 121) (.region false [ oM 123 (.mv (.t 12)), oM 124 (.build [.d (.int .i64 0), .d (.int .i64 0), .d (.int .i64 0), .d (.int .i64 0), .d (.int .i64 0), .d (.int .i64 0), .d (.int .i64 0), .d (.int .i64 0), .d (.int .i64 0)] [(0, 1, (.c (.d (.int .i64 3))))]), oM 125 (.bslice 9 1 [.d (.int .i64 0), .d (.int .i64 0), .d (.int .i64 0), .d (.int .i64 0), .d (.int .i64 0), .d (.int .i64 0), .d (.int .i64 0), .d (.int .i64 0), .d (.int .i64 0)] [(0, 9, (.t 124))]), oM 126 (.app 9 72 55 (.t 123) (.t 125)), oM 12 (.mv (.t 126))] []) (.seq (.region false [ oM 128 (.bin .eql (.t 83) (.c (.d (.int .i64 9)))), oM 127 (.mv (.t 128))] []) (.cond (.t 127) (.seq (.region false [ oM 129 (.mv (.t 12)), oM 130 (.mv (.t 17)), oM 131 (.mv (.t 15)), oM 132 (.load (some 2) (.t 16)), oM 133 (.build [.d (.int .i64 0), .d (.int .i64 0)] [(0, 1, (.c (.d (.int .i64 (-1))))), (1, 1, (.c (.d (.int .i64 1))))]), oM 134 (.build [.d (.int .i64 0), .d (.int .i64 0), .d (.int .i64 0), .d (.int .i64 0), .d (.int .i64 0), .d (.int .i64 0), .d (.int .i64 0), .d (.int .i64 0), .d (.int .i64 0)] [(0, 1, (.c (.d (.int .i64 4)))), (1, 1, (.t 130)), (2, 1, (.t 131)), (3, 2, (.t 132)), (6, 2, (.t 133))]), oM 135 (.bslice 9 1 [.d (.int .i64 0), .d (.int .i64 0), .d (.int .i64 0), .d (.int .i64 0), .d (.int .i64 0), .d (.int .i64 0), .d (.int .i64 0), .d (.int .i64 0), .d (.int .i64 0)] [(0, 9, (.t 134))]), oM 136 (.app 9 72 55 (.t 129) (.t 135)), oM 12 (.mv (.t 136))] []) (.region false [ oM 137 (.mv (.t 10)), oM 138 (.bin .add (.t 137) (.c (.d (.int .i64 1)))), oM 10 (.mv (.t 138))] [])) (.seq (.region false [ oM 140 (.bin .eql (.t 83) (.c (.d (.int .i64 10)))), oM 139 (.mv (.t 140))] []) (.cond (.t 139) (.region false [ oM 141 (.mv (.t 12)), oM 142 (.mv (.t 17)), oM 143 (.load (some 2) (.t 16)), oM 144 (.build [.d (.int .i64 0), .d (.int .i64 0)] [(0, 1, (.c (.d (.int .i64 (-1))))), (1, 1, (.c (.d (.int .i64 1))))]), oM 145 (.build [.d (.int .i64 0), .d (.int .i64 0), .d (.int .i64 0), .d (.int .i64 0), .d (.int .i64 0), .d (.int .i64 0), .d (.int .i64 0), .d (.int .i64 0), .d (.int .i64 0)] [(0, 1, (.c (.d (.int .i64 5)))), (1, 1, (.t 142)), (3, 2, (.t 143)), (5, 1, (.c (.d (.int .i64 6)))), (6, 2, (.t 144))]), oM 146 (.bslice 9 1 [.d (.int .i64 0), .d (.int .i64 0), .d (.int .i64 0), .d (.int .i64 0), .d (.int .i64 0), .d (.int .i64 0), .d (.int .i64 0), .d (.int .i64 0), .d (.int .i64 0)] [(0, 9, (.t 145))]), oM 147 (.app 9 72 55 (.t 141) (.t 146)), oM 12 (.mv (.t 147))] []) (.seq (.region false [ oM 84 (.mv (.t 12)), oM 85 (.load (some 2) (.t 16)), oM 86 (.build [.d (.int .i64 0), .d (.int .i64 0)] [(0, 1, (.c (.d (.int .i64 (-1)))))]), oM 87 (.build [.d (.int .i64 0), .d (.int .i64 0), .d (.int .i64 0), .d (.int .i64 0), .d (.int .i64 0), .d (.int .i64 0), .d (.int .i64 0), .d (.int .i64 0), .d (.int .i64 0)] [(0, 1, (.c (.d (.int .i64 6)))), (3, 2, (.t 85)), (6, 2, (.t 86)), (8, 1, (.c (.d (.int .i64 1))))]), oM 88 (.mv (.t 15)), oM 89 (.build [.d (.int .i64 0), .d (.int .i64 0)] [(0, 1, (.c (.d (.int .i64 (-1))))), (1, 1, (.c (.d (.int .i64 2))))]), oM 90 (.build [.d (.int .i64 0), .d (.int .i64 0), .d (.int .i64 0), .d (.int .i64 0), .d (.int .i64 0), .d (.int .i64 0), .d (.int .i64 0), .d (.int .i64 0), .d (.int .i64 0)] [(0, 1, (.c (.d (.int .i64 1)))), (2, 1, (.t 88)), (3, 2, (.t 89))]), oM 91 (.bslice 9 2 [.d (.int .i64 0), .d (.int .i64 0), .d (.int .i64 0), .d (.int .i64 0), .d (.int .i64 0), .d (.int .i64 0), .d (.int .i64 0), .d (.int .i64 0), .d (.int .i64 0), .d (.int .i64 0), .d (.int .i64 0), .d (.int .i64 0), .d (.int .i64 0), .d (.int .i64 0), .d (.int .i64 0), .d (.int .i64 0), .d (.int .i64 0), .d (.int .i64 0)] [(0, 9, (.t 87)), (9, 9, (.t 90))]), oM 92 (.app 9 72 55 (.t 84) (.t 91)), oM 12 (.mv (.t 92))] []) (.region false [ oM 93 (.mv (.t 10)), oM 94 (.bin .add (.t 93) (.c (.d (.int .i64 1)))), oM 10 (.mv (.t 94))] [])))))))))))))))))))) (.region false [ oM 58 (.mv (.t 13)), oM 59 (.bin .sub (.t 58) (.c (.d (.int .i64 1)))), oM 13 (.mv (.t 59))] [])))
def ac8L1 : ACode := (.seq (.seq (.region false [ oM 42 (.mv (.t 11)), oM 43 (.mv (.t 8)), oM 44 (.bin .lss (.t 42) (.t 43))] []) (.cond (.t 44) .skip (.exit 0))) (.seq (.block 1 (.seq (.region false [ oM 12 (.mv (.c (.d .nsl)))] []) (.seq (.seq (.region false [ oM 47 (.mv (.t 7)), oM 48 (.callv (.t 47) []), oM 49 (.bin .rem (.t 48) (.c (.d (.int .i64 3)))), oM 50 (.bin .add (.t 49) (.c (.d (.int .i64 1)))), oM 13 (.mv (.t 50))] []) (.block 2 (.loop ac8L0))) (.region false [ oM 148 (.faddr (.t 5) 2), oM 149 (.load none (.t 148)), oM 150 (.mv (.t 12)), oM 151 (.bslice 1 1 [.d .nsl] [(0, 1, (.t 150))]), oM 152 (.app 1 24 50 (.t 149) (.t 151)), oM 153 (.faddr (.t 5) 2), ⟨none, .store 1 (.t 153) (.t 152), none⟩] [])))) (.region false [ oM 45 (.mv (.t 11)), oM 46 (.bin .add (.t 45) (.c (.d (.int .i64 1)))), oM 11 (.mv (.t 46))] [])))
def ac8 : ACode := (.seq (.region false [ oM 2 (.box (.t 0)), oM 4 (.alloc [.d (.str []), .d .nsl, .d .nsl, .d (.int .i64 0), .d .nsl])] []) (.seq (.region false [ oM 19 (.build [.d (.str []), .d .nsl, .d .nsl, .d (.int .i64 0), .d .nsl] [(0, 1, (.c (.d (.str [116]))))]), oM 5 (.alloc [.d (.str []), .d .nsl, .d .nsl, .d (.int .i64 0), .d .nsl]), ⟨none, .store 5 (.t 5) (.t 19), none⟩] []) (.seq (.region false [ oM 6 (.alloc [.d (.int .i64 0)]), ⟨none, .store 1 (.t 6) (.c (.d (.int .i64 0))), none⟩] []) (.seq (.region false [ oM 20 (.mkfn 26 [(.t 6), (.t 2)]), oM 7 (.mv (.t 20))] []) (.seq (.region false [ oM 21 (.mv (.t 7)), oM 22 (.callv (.t 21) []), oM 23 (.bin .rem (.t 22) (.c (.d (.int .i64 2)))), oM 24 (.bin .add (.t 23) (.c (.d (.int .i64 2)))), oM 8 (.mv (.t 24))] []) (.seq (.region false [ oM 25 (.mv (.t 7)), oM 26 (.callv (.t 25) []), oM 27 (.bin .rem (.t 26) (.c (.d (.int .i64 2)))), oM 28 (.bin .add (.t 27) (.c (.d (.int .i64 2)))), oM 9 (.mv (.t 28))] []) (.seq (.seq (.region false [ oM 29 (.mv (.t 7)), oM 30 (.callv (.t 29) []), oM 31 (.bin .rem (.t 30) (.c (.d (.int .i64 4)))), oM 32 (.bin .eql (.t 31) (.c (.d (.int .i64 0))))] []) (.cond (.t 32) (.region true [ oM 33 (.faddr (.t 5) 1), oM 34 (.load none (.t 33)), oM 35 (.mv (.t 7)), oM 36 (.callv (.t 35) []), oM 37 (.bin .rem (.t 36) (.c (.d (.int .i64 3)))), oM 38 (.build [.d (.int .i64 0), .d (.int .i64 0)] [(0, 1, (.c (.d (.int .i64 120)))), (1, 1, (.t 37))]), oM 39 (.bslice 2 1 [.d (.int .i64 0), .d (.int .i64 0)] [(0, 2, (.t 38))]), oM 40 (.app 2 16 48 (.t 34) (.t 39)), oM 41 (.faddr (.t 5) 1), ⟨none, .store 1 (.t 41) (.t 40), none⟩] [0, 1, 0, 4, 8, 16, 32, 74, 255, 511]) .skip)) (.seq (.region false [ oM 10 (.mv (.c (.d (.int .i64 0))))] []) (.seq (.seq (.region false [ oM 11 (.mv (.c (.d (.int .i64 0))))] []) (.block 0 (.loop ac8L1))) (.seq (.seq (.region false [ oM 154 (.mv (.t 7)), oM 155 (.callv (.t 154) []), oM 18 (.mv (.t 155))] []) (.seq (.region false [ oM 156 (.mv (.t 18)), oM 157 (.bin .rem (.t 156) (.c (.d (.int .i64 3)))), oM 158 (.bin .eql (.t 157) (.c (.d (.int .i64 0))))] []) (.cond (.t 158) (.region false [ oM 159 (.mv (.t 18)), oM 160 (.bin .quo (.t 159) (.c (.d (.int .i64 3)))), oM 161 (.bin .rem (.t 160) (.c (.d (.int .i64 2)))), oM 162 (.bin .add (.t 161) (.c (.d (.int .i64 1)))), oM 163 (.mv (.t 18)), oM 164 (.bin .shr (.t 163) (.c (.d (.int .u64 3)))), oM 165 (.bin .and (.t 164) (.c (.d (.int .i64 1)))), oM 166 (.mv (.t 18)), oM 167 (.bin .shr (.t 166) (.c (.d (.int .u64 4)))), oM 168 (.bin .and (.t 167) (.c (.d (.int .i64 1)))), oM 169 (.build [.d (.int .i64 0), .d (.int .i64 0), .d (.int .i64 0), .d (.int .i64 0)] [(0, 1, (.c (.d (.int .i64 0)))), (1, 1, (.t 165)), (3, 1, (.t 168))]), oM 170 (.bslice 4 1 [.d (.int .i64 0), .d (.int .i64 0), .d (.int .i64 0), .d (.int .i64 0)] [(0, 4, (.t 169))]), oM 171 (.mv (.t 18)), oM 172 (.bin .shr (.t 171) (.c (.d (.int .u64 5)))), oM 173 (.bin .rem (.t 172) (.c (.d (.int .i64 3)))), oM 174 (.build [.d (.int .i64 0), .d (.int .i64 0), .d (.int .i64 0), .d (.int .i64 0)] [(0, 1, (.c (.d (.int .i64 (-1))))), (2, 1, (.c (.d (.int .i64 120)))), (3, 1, (.t 173))]), oM 175 (.mv (.t 18)), oM 176 (.bin .shr (.t 175) (.c (.d (.int .u64 7)))), oM 177 (.bin .and (.t 176) (.c (.d (.int .i64 1)))), oM 178 (.build [.d (.int .i64 0), .d (.int .i64 0), .d (.int .i64 0), .d (.int .i64 0)] [(0, 1, (.c (.d (.int .i64 1)))), (1, 1, (.c (.d (.int .i64 0)))), (3, 1, (.t 177))]), oM 179 (.bslice 4 2 [.d (.int .i64 0), .d (.int .i64 0), .d (.int .i64 0), .d (.int .i64 0), .d (.int .i64 0), .d (.int .i64 0), .d (.int .i64 0), .d (.int .i64 0)] [(0, 4, (.t 174)), (4, 4, (.t 178))]), oM 180 (.bslice 1 2 [.d .nsl, .d .nsl] [(0, 1, (.t 170)), (1, 1, (.t 179))]), oM 181 (.build [.d (.int .i64 0), .d .nsl] [(0, 1, (.t 162)), (1, 1, (.t 180))]), oM 182 (.faddr (.t 5) 3), ⟨none, .store 2 (.t 182) (.t 181), none⟩] []) .skip))) (.seq (.region false [ oM 183 (.load (some 5) (.t 5)), ⟨none, .store 5 (.t 4) (.t 183), none⟩] []) .ret)))))))))))
theorem ac8_ok : Tryz.f8.body.bind (cCode Tryz.prog Tryz.f8.ntmps) = some ac8 := by kernel_rfl
-- 9 jacquard/parse.Parse
def ac9L0 : ACode := (.seq (.seq (.region false [ oM 32 (.mv (.t 5)), oM 33 (.callf 32 [(.t 32), (.c (.d (.str [116, 104, 114, 101, 97, 100])))])] []) (.cond (.t 33) .skip (.exit 0))) (.block 1 (.region true [ oM 34 (.faddr (.t 6) 2), oM 35 (.load none (.t 34)), oM 36 (.mv (.t 5)), oM 37 (.callf 34 [(.t 36)]), oM 38 (.bslice 1 1 [.d .nsl] [(0, 1, (.t 37))]), oM 39 (.app 1 24 50 (.t 35) (.t 38)), oM 40 (.faddr (.t 6) 2), ⟨none, .store 1 (.t 40) (.t 39), none⟩] [0, 1, 0, 4, 8, 26, 63, 127])))
def ac9 : ACode := (.seq (.region false [ oM 2 (.alloc [.d (.str []), .d .nsl, .d .nsl, .d (.int .i64 0), .d .nsl]), oM 3 (.alloc [.d (.int .i64 0), .d (.int .i64 0)])] []) (.seq (.seq (.region false [ oM 7 (.mv (.t 0)), oM 8 (.callf 27 [(.t 7)]), oM 4 (.alloc [.d (.int .i64 0), .d (.int .i64 0)]), ⟨none, .store 2 (.t 4) (.t 8), none⟩] []) (.seq (.region false [ oM 9 (.faddr (.t 4) 0), oM 10 (.load none (.t 9)), oM 11 (.bin .neq (.t 10) (.c (.d (.int .i64 0))))] []) (.cond (.t 11) (.seq (.region true [ oM 12 (.build [.d (.str []), .d .nsl, .d .nsl, .d (.int .i64 0), .d .nsl] []), oM 13 (.load (some 2) (.t 4)), ⟨none, .store 5 (.t 2) (.t 12), none⟩, ⟨none, .store 2 (.t 3) (.t 13), none⟩] [0, 0, 1, 7]) .ret) .skip))) (.seq (.region false [ oM 14 (.mv (.t 0)), oM 15 (.callf 28 [(.t 14)]), oM 16 (.build [.d .nptr, .d (.int .i64 0), .d (.str []), .d (.int .i64 0), .d (.int .i64 0), .d (.int .i64 0)] [(0, 1, (.t 15))]), oM 17 (.box (.t 16)), oM 5 (.mv (.t 17))] []) (.seq (.region false [ oM 18 (.mv (.t 5)), oM 19 (.callf 29 [(.t 18)])] []) (.seq (.region false [ oM 6 (.alloc [.d (.str []), .d .nsl, .d .nsl, .d (.int .i64 0), .d .nsl])] []) (.seq (.region false [ oM 20 (.mv (.t 5)), oM 21 (.callf 30 [(.t 20), (.c (.d (.str [116, 101, 115, 116])))])] []) (.seq (.region false [ oM 22 (.mv (.t 5)), oM 23 (.callf 31 [(.t 22)]), oM 24 (.faddr (.t 6) 0), ⟨none, .store 1 (.t 24) (.t 23), none⟩] []) (.seq (.region false [ oM 25 (.mv (.t 5)), oM 26 (.callf 30 [(.t 25), (.c (.d (.str [123])))])] []) (.seq (.seq (.region false [ oM 27 (.mv (.t 5)), oM 28 (.callf 32 [(.t 27), (.c (.d (.str [105, 110, 105, 116])))])] []) (.cond (.t 28) (.region false [ oM 29 (.mv (.t 5)), oM 30 (.callf 33 [(.t 29)]), oM 31 (.faddr (.t 6) 1), ⟨none, .store 1 (.t 31) (.t 30), none⟩] []) .skip)) (.seq (.block 0 (.loop ac9L0)) (.seq (.block 2 (.seq (.region false [ oM 42 (.mv (.t 5)), oM 43 (.callf 32 [(.t 42), (.c (.d (.str [101, 120, 105, 115, 116, 115])))]), oM 41 (.mv (.t 43))] []) (.cond (.t 41) (.region false [ oM 44 (.mv (.t 5)), oM 45 (.callf 35 [(.t 44), (.c (.d (.int .i64 1)))]), oM 46 (.faddr (.t 6) 3), ⟨none, .store 2 (.t 46) (.t 45), none⟩] []) (.seq (.region false [ oM 48 (.mv (.t 5)), oM 49 (.callf 32 [(.t 48), (.c (.d (.str [102, 111, 114, 97, 108, 108])))]), oM 47 (.mv (.t 49))] []) (.cond (.t 47) (.region false [ oM 50 (.mv (.t 5)), oM 51 (.callf 35 [(.t 50), (.c (.d (.int .i64 2)))]), oM 52 (.faddr (.t 6) 3), ⟨none, .store 2 (.t 52) (.t 51), none⟩] []) .skip))))) (.seq (.region false [ oM 53 (.mv (.t 5)), oM 54 (.callf 30 [(.t 53), (.c (.d (.str [125])))])] []) (.seq (.seq (.region false [ oM 55 (.mv (.t 5)), oM 56 (.callf 36 [(.t 55)]), oM 57 (.mv (.t 56)), oG 58 (.mv (.t 5)) 57 true, oG 59 (.nilck (.t 58)) 57 true, oG 60 (.faddr (.t 59) 1) 57 true, oG 61 (.faddr (.t 60) 0) 57 true, oG 62 (.load none (.t 61)) 57 true, oG 63 (.bin .neq (.t 62) (.c (.d (.int .i64 4)))) 57 true, oM 64 (.pick (.t 57) (.t 63) (.c (.d (.bool false))))] []) (.cond (.t 64) (.region false [ oM 65 (.mv (.t 5)), oM 66 (.callf 37 [(.t 65), (.c (.d (.int .i64 6)))])] []) .skip)) (.seq (.seq (.region false [ oM 67 (.mv (.t 5)), oM 68 (.callf 36 [(.t 67)]), oM 69 (.un .not (.t 68))] []) (.cond (.t 69) (.seq (.region true [ oM 70 (.build [.d (.str []), .d .nsl, .d .nsl, .d (.int .i64 0), .d .nsl] []), oM 71 (.mv (.t 5)), oM 72 (.nilck (.t 71)), oM 73 (.faddr (.t 72) 4), oM 74 (.load (some 2) (.t 73)), ⟨none, .store 5 (.t 2) (.t 70), none⟩, ⟨none, .store 2 (.t 3) (.t 74), none⟩] [0, 0, 2, 4, 8, 1, 63]) .ret) .skip)) (.seq (.region false [ oM 75 (.load (some 5) (.t 6)), oM 76 (.build [.d (.int .i64 0), .d (.int .i64 0)] []), ⟨none, .store 5 (.t 2) (.t 75), none⟩, ⟨none, .store 2 (.t 3) (.t 76), none⟩] []) .ret)))))))))))))))
theorem ac9_ok : Tryz.f9.body.bind (cCode Tryz.prog Tryz.f9.ntmps) = some ac9 := by kernel_rfl
-- 10 jacquard/jacquardref2.Tree
def ac10L0 : ACode := (.seq (.seq (.region false [ oM 32 (.mv (.t 4)), oM 33 (.nilck (.t 32)), oM 34 (.faddr (.t 33) 6), oM 35 (.faddr (.t 34) 0), oM 36 (.load none (.t 35)), oM 37 (.bin .eql (.t 36) (.c (.d (.int .i64 0)))), oM 38 (.mv (.t 37)), oG 39 (.mv (.t 4)) 38 true, oG 40 (.callf 40 [(.t 39), (.c (.d (.str [125])))]) 38 true, oG 41 (.un .not (.t 40)) 38 true, oM 42 (.pick (.t 38) (.t 41) (.c (.d (.bool false))))] []) (.cond (.t 42) .skip (.exit 0))) (.block 1 (.seq (.region false [ oM 43 (.mv (.t 4)), oM 44 (.callf 42 [(.t 43)]), oM 45 (.build [.d (.int .i64 0), .d (.int .i64 0)] [(0, 1, (.t 44))]), oM 6 (.alloc [.d (.int .i64 0), .d (.int .i64 0)]), ⟨none, .store 2 (.t 6) (.t 45), none⟩] []) (.seq (.region false [ oM 46 (.mv (.t 4)), oM 47 (.callf 38 [(.t 46), (.c (.d (.str [61])))])] []) (.seq (.region false [ oM 48 (.mv (.t 4)), oM 49 (.callf 43 [(.t 48)]), oM 50 (.faddr (.t 6) 1), ⟨none, .store 1 (.t 50) (.t 49), none⟩] []) (.seq (.region false [ oM 51 (.mv (.t 4)), oM 52 (.callf 38 [(.t 51), (.c (.d (.str [59])))])] []) (.region false [ oM 53 (.faddr (.t 5) 1), oM 54 (.load none (.t 53)), oM 55 (.load (some 2) (.t 6)), oM 56 (.bslice 2 1 [.d (.int .i64 0), .d (.int .i64 0)] [(0, 2, (.t 55))]), oM 57 (.app 2 16 48 (.t 54) (.t 56)), oM 58 (.faddr (.t 5) 1), ⟨none, .store 1 (.t 58) (.t 57), none⟩] [])))))))
def ac10L1 : ACode := (.seq (.seq (.region false [ oM 68 (.mv (.t 4)), oM 69 (.nilck (.t 68)), oM 70 (.faddr (.t 69) 6), oM 71 (.faddr (.t 70) 0), oM 72 (.load none (.t 71)), oM 73 (.bin .eql (.t 72) (.c (.d (.int .i64 0)))), oM 74 (.mv (.t 73)), oG 75 (.mv (.t 4)) 74 true, oG 76 (.callf 40 [(.t 75), (.c (.d (.str [125])))]) 74 true, oG 77 (.un .not (.t 76)) 74 true, oM 78 (.pick (.t 74) (.t 77) (.c (.d (.bool false))))] []) (.cond (.t 78) .skip (.exit 4))) (.block 5 (.region false [ oM 79 (.mv (.t 7)), oM 80 (.mv (.t 4)), oM 81 (.callf 44 [(.t 80)]), oM 82 (.bslice 9 1 [.d (.int .i64 0), .d (.int .i64 0), .d (.int .i64 0), .d (.int .i64 0), .d (.int .i64 0), .d (.int .i64 0), .d (.int .i64 0), .d (.int .i64 0), .d (.int .i64 0)] [(0, 9, (.t 81))]), oM 83 (.app 9 72 55 (.t 79) (.t 82)), oM 7 (.mv (.t 83))] [])))
def ac10L2 : ACode := (.seq (.seq (.region false [ oM 61 (.mv (.t 4)), oM 62 (.callf 40 [(.t 61), (.c (.d (.str [116, 104, 114, 101, 97, 100])))])] []) (.cond (.t 62) .skip (.exit 2))) (.block 3 (.seq (.region false [ oM 63 (.mv (.t 4)), oM 64 (.callf 41 [(.t 63)])] []) (.seq (.region false [ oM 65 (.mv (.t 4)), oM 66 (.callf 38 [(.t 65), (.c (.d (.str [123])))])] []) (.seq (.region false [ oM 67 (.bslice 9 0 [] []), oM 7 (.mv (.t 67))] []) (.seq (.block 4 (.loop ac10L1)) (.seq (.region false [ oM 84 (.mv (.t 4)), oM 85 (.callf 38 [(.t 84), (.c (.d (.str [125])))])] []) (.region false [ oM 86 (.faddr (.t 5) 2), oM 87 (.load none (.t 86)), oM 88 (.mv (.t 7)), oM 89 (.bslice 1 1 [.d .nsl] [(0, 1, (.t 88))]), oM 90 (.app 1 24 50 (.t 87) (.t 89)), oM 91 (.faddr (.t 5) 2), ⟨none, .store 1 (.t 91) (.t 90), none⟩] []))))))))
def ac10L3 : ACode := (.seq (.seq (.region false [ oM 109 (.mv (.t 4)), oM 110 (.callf 40 [(.t 109), (.c (.d (.str [38])))]), oM 111 (.mv (.t 110)), oG 112 (.mv (.t 4)) 111 false, oG 113 (.callf 40 [(.t 112), (.c (.d (.str [124])))]) 111 false, oM 114 (.pick (.t 111) (.c (.d (.bool true))) (.t 113))] []) (.cond (.t 114) .skip (.exit 6))) (.block 7 (.seq (.seq (.region false [ oM 115 (.mv (.t 4)), oM 116 (.callf 40 [(.t 115), (.c (.d (.str [124])))])] []) (.cond (.t 116) (.seq (.region false [ oM 117 (.faddr (.t 5) 3), oM 118 (.faddr (.t 117) 1), oM 119 (.load none (.t 118)), oM 120 (.mv (.t 8)), oM 121 (.bslice 1 1 [.d .nsl] [(0, 1, (.t 120))]), oM 122 (.app 1 24 61 (.t 119) (.t 121)), oM 123 (.faddr (.t 5) 3), oM 124 (.faddr (.t 123) 1), ⟨none, .store 1 (.t 124) (.t 122), none⟩] []) (.region false [ oM 8 (.mv (.c (.d .nsl)))] [])) .skip)) (.seq (.region false [ oM 125 (.mv (.t 4)), oM 126 (.callf 41 [(.t 125)])] []) (.region false [ oM 127 (.mv (.t 8)), oM 128 (.mv (.t 4)), oM 129 (.callf 45 [(.t 128)]), oM 130 (.bslice 4 1 [.d (.int .i64 0), .d (.int .i64 0), .d (.int .i64 0), .d (.int .i64 0)] [(0, 4, (.t 129))]), oM 131 (.app 4 32 60 (.t 127) (.t 130)), oM 8 (.mv (.t 131))] [])))))
def ac10 : ACode := (.seq (.region false [ oM 2 (.alloc [.d (.str []), .d .nsl, .d .nsl, .d (.int .i64 0), .d .nsl]), oM 3 (.alloc [.d (.int .i64 0), .d (.int .i64 0)])] []) (.seq (.seq (.region false [ oM 10 (.mv (.t 0)), oM 11 (.lens (.t 10)), oM 12 (.bin .gtr (.t 11) (.c (.d (.int .i64 4000))))] []) (.cond (.t 12) (.seq (.region false [ oM 13 (.build [.d (.str []), .d .nsl, .d .nsl, .d (.int .i64 0), .d .nsl] []), oM 14 (.build [.d (.int .i64 0), .d (.int .i64 0)] [(0, 1, (.c (.d (.int .i64 2)))), (1, 1, (.c (.d (.int .i64 4000))))]), ⟨none, .store 5 (.t 2) (.t 13), none⟩, ⟨none, .store 2 (.t 3) (.t 14), none⟩] []) .ret) .skip)) (.seq (.region false [ oM 15 (.mv (.t 0)), oM 16 (.build [.d (.str []), .d (.int .i64 0), .d (.int .i64 0), .d (.str []), .d (.int .i64 0), .d (.int .i64 0), .d (.int .i64 0), .d (.int .i64 0)] [(0, 1, (.t 15))]), oM 17 (.box (.t 16)), oM 4 (.mv (.t 17))] []) (.seq (.region false [ oM 18 (.build [.d (.str []), .d .nsl, .d .nsl, .d (.int .i64 0), .d .nsl] []), oM 5 (.alloc [.d (.str []), .d .nsl, .d .nsl, .d (.int .i64 0), .d .nsl]), ⟨none, .store 5 (.t 5) (.t 18), none⟩] []) (.seq (.region false [ oM 19 (.mv (.t 4)), oM 20 (.callf 38 [(.t 19), (.c (.d (.str [116, 101, 115, 116])))])] []) (.seq (.region false [ oM 21 (.mv (.t 4)), oM 22 (.callf 39 [(.t 21)]), oM 23 (.faddr (.t 5) 0), ⟨none, .store 1 (.t 23) (.t 22), none⟩] []) (.seq (.region false [ oM 24 (.mv (.t 4)), oM 25 (.callf 38 [(.t 24), (.c (.d (.str [123])))])] []) (.seq (.seq (.region false [ oM 26 (.mv (.t 4)), oM 27 (.callf 40 [(.t 26), (.c (.d (.str [105, 110, 105, 116])))])] []) (.cond (.t 27) (.seq (.region false [ oM 28 (.mv (.t 4)), oM 29 (.callf 41 [(.t 28)])] []) (.seq (.region false [ oM 30 (.mv (.t 4)), oM 31 (.callf 38 [(.t 30), (.c (.d (.str [123])))])] []) (.seq (.block 0 (.loop ac10L0)) (.region false [ oM 59 (.mv (.t 4)), oM 60 (.callf 38 [(.t 59), (.c (.d (.str [125])))])] [])))) .skip)) (.seq (.block 2 (.loop ac10L2)) (.seq (.seq (.region false [ oM 92 (.mv (.t 4)), oM 93 (.callf 40 [(.t 92), (.c (.d (.str [101, 120, 105, 115, 116, 115])))]), oM 94 (.mv (.t 93)), oG 95 (.mv (.t 4)) 94 false, oG 96 (.callf 40 [(.t 95), (.c (.d (.str [102, 111, 114, 97, 108, 108])))]) 94 false, oM 97 (.pick (.t 94) (.c (.d (.bool true))) (.t 96))] []) (.cond (.t 97) (.seq (.region false [ oM 98 (.faddr (.t 5) 3), oM 99 (.faddr (.t 98) 0), ⟨none, .store 1 (.t 99) (.c (.d (.int .i64 1))), none⟩] []) (.seq (.seq (.region false [ oM 100 (.mv (.t 4)), oM 101 (.callf 40 [(.t 100), (.c (.d (.str [102, 111, 114, 97, 108, 108])))])] []) (.cond (.t 101) (.region false [ oM 102 (.faddr (.t 5) 3), oM 103 (.faddr (.t 102) 0), ⟨none, .store 1 (.t 103) (.c (.d (.int .i64 2))), none⟩] []) .skip)) (.seq (.region false [ oM 104 (.mv (.t 4)), oM 105 (.callf 41 [(.t 104)])] []) (.seq (.region false [ oM 106 (.mv (.t 4)), oM 107 (.callf 45 [(.t 106)]), oM 108 (.bslice 4 1 [.d (.int .i64 0), .d (.int .i64 0), .d (.int .i64 0), .d (.int .i64 0)] [(0, 4, (.t 107))]), oM 8 (.mv (.t 108))] []) (.seq (.block 6 (.loop ac10L3)) (.seq (.region false [ oM 132 (.faddr (.t 5) 3), oM 133 (.faddr (.t 132) 1), oM 134 (.load none (.t 133)), oM 135 (.mv (.t 8)), oM 136 (.bslice 1 1 [.d .nsl] [(0, 1, (.t 135))]), oM 137 (.app 1 24 61 (.t 134) (.t 136)), oM 138 (.faddr (.t 5) 3), oM 139 (.faddr (.t 138) 1), ⟨none, .store 1 (.t 139) (.t 137), none⟩] []) (.region false [ oM 140 (.mv (.t 4)), oM 141 (.callf 38 [(.t 140), (.c (.d (.str [59])))])] []))))))) .skip)) (.seq (.region false [ oM 142 (.mv (.t 4)), oM 143 (.callf 38 [(.t 142), (.c (.d (.str [125])))])] []) (.seq (.seq (.region false [ oM 144 (.mv (.t 4)), oM 145 (.callf 46 [(.t 144)]), oM 9 (.alloc [.d (.int .i64 0), .d (.str []), .d (.int .i64 0)]), ⟨none, .store 3 (.t 9) (.t 145), none⟩] []) (.seq (.region false [ oM 146 (.mv (.t 4)), oM 147 (.nilck (.t 146)), oM 148 (.faddr (.t 147) 6), oM 149 (.faddr (.t 148) 0), oM 150 (.load none (.t 149)), oM 151 (.bin .eql (.t 150) (.c (.d (.int .i64 0)))), oM 152 (.mv (.t 151)), oG 153 (.faddr (.t 9) 0) 152 true, oG 154 (.load none (.t 153)) 152 true, oG 155 (.bin .neq (.t 154) (.c (.d (.int .i64 4)))) 152 true, oM 156 (.pick (.t 152) (.t 155) (.c (.d (.bool false))))] []) (.cond (.t 156) (.region false [ oM 157 (.mv (.t 4)), oM 158 (.callf 47 [(.t 157), (.c (.d (.int .i64 6)))])] []) .skip))) (.seq (.seq (.region false [ oM 159 (.mv (.t 4)), oM 160 (.nilck (.t 159)), oM 161 (.faddr (.t 160) 6), oM 162 (.faddr (.t 161) 0), oM 163 (.load none (.t 162)), oM 164 (.bin .neq (.t 163) (.c (.d (.int .i64 0))))] []) (.cond (.t 164) (.seq (.region true [ oM 165 (.build [.d (.str []), .d .nsl, .d .nsl, .d (.int .i64 0), .d .nsl] []), oM 166 (.mv (.t 4)), oM 167 (.nilck (.t 166)), oM 168 (.faddr (.t 167) 6), oM 169 (.load (some 2) (.t 168)), ⟨none, .store 5 (.t 2) (.t 165), none⟩, ⟨none, .store 2 (.t 3) (.t 169), none⟩] [0, 0, 2, 4, 8, 1, 63]) .ret) .skip)) (.seq (.region false [ oM 170 (.load (some 5) (.t 5)), oM 171 (.build [.d (.int .i64 0), .d (.int .i64 0)] []), ⟨none, .store 5 (.t 2) (.t 170), none⟩, ⟨none, .store 2 (.t 3) (.t 171), none⟩] []) .ret))))))))))))))
theorem ac10_ok : Tryz.f10.body.bind (cCode Tryz.prog Tryz.f10.ntmps) = some ac10 := by kernel_rfl
-- 11 jacquard/jacquardref2.Same
def ac11L0 : ACode := (.seq (.seq (.region false [ oM 39 (.mv (.t 5)), oM 40 (.faddr (.t 2) 1), oM 41 (.load none (.t 40)), oM 42 (.lenl (.t 41)), oM 43 (.bin .lss (.t 39) (.t 42))] []) (.cond (.t 43) .skip (.exit 0))) (.seq (.block 1 (.seq (.region true [ oM 46 (.faddr (.t 2) 1), oM 47 (.load none (.t 46)), oM 48 (.mv (.t 5)), oM 49 (.iaddr 2 none (.t 47) (.t 48)), oM 50 (.load (some 2) (.t 49)), oM 51 (.faddr (.t 3) 1), oM 52 (.load none (.t 51)), oM 53 (.mv (.t 5)), oM 54 (.iaddr 2 none (.t 52) (.t 53)), oM 55 (.load (some 2) (.t 54)), oM 56 (.eqs [0, 0] true (.t 50) (.t 55))] [0, 1, 0, 6, 8, 0, 32, 0, 192, 256, 528]) (.cond (.t 56) (.seq (.region false [ oM 4 (.mv (.c (.d (.bool false))))] []) .ret) .skip))) (.region false [ oM 44 (.mv (.t 5)), oM 45 (.bin .add (.t 44) (.c (.d (.int .i64 1)))), oM 5 (.mv (.t 45))] [])))
def ac11L1 : ACode := (.seq (.seq (.region false [ oM 77 (.mv (.t 7)), oM 78 (.faddr (.t 2) 2), oM 79 (.load none (.t 78)), oM 80 (.mv (.t 6)), oM 81 (.iaddr 1 none (.t 79) (.t 80)), oM 82 (.load none (.t 81)), oM 83 (.lenl (.t 82)), oM 84 (.bin .lss (.t 77) (.t 83))] []) (.cond (.t 84) .skip (.exit 4))) (.seq (.block 5 (.seq (.region true [ oM 87 (.faddr (.t 2) 2), oM 88 (.load none (.t 87)), oM 89 (.mv (.t 6)), oM 90 (.iaddr 1 none (.t 88) (.t 89)), oM 91 (.load none (.t 90)), oM 92 (.mv (.t 7)), oM 93 (.iaddr 9 none (.t 91) (.t 92)), oM 94 (.load (some 9) (.t 93)), oM 95 (.faddr (.t 3) 2), oM 96 (.load none (.t 95)), oM 97 (.mv (.t 6)), oM 98 (.iaddr 1 none (.t 96) (.t 97)), oM 99 (.load none (.t 98)), oM 100 (.mv (.t 7)), oM 101 (.iaddr 9 none (.t 99) (.t 100)), oM 102 (.load (some 9) (.t 101)), oM 103 (.eqs [0, 0, 0, 0, 0, 0, 0, 0, 0] true (.t 94) (.t 102))] [0, 1, 0, 6, 8, 0, 48, 64, 0, 256, 0, 1536, 2048, 0, 12288, 16384, 32896]) (.cond (.t 103) (.seq (.region false [ oM 4 (.mv (.c (.d (.bool false))))] []) .ret) .skip))) (.region false [ oM 85 (.mv (.t 7)), oM 86 (.bin .add (.t 85) (.c (.d (.int .i64 1)))), oM 7 (.mv (.t 86))] [])))
def ac11L2 : ACode := (.seq (.seq (.region false [ oM 57 (.mv (.t 6)), oM 58 (.faddr (.t 2) 2), oM 59 (.load none (.t 58)), oM 60 (.lenl (.t 59)), oM 61 (.bin .lss (.t 57) (.t 60))] []) (.cond (.t 61) .skip (.exit 2))) (.seq (.block 3 (.seq (.seq (.region true [ oM 64 (.faddr (.t 2) 2), oM 65 (.load none (.t 64)), oM 66 (.mv (.t 6)), oM 67 (.iaddr 1 none (.t 65) (.t 66)), oM 68 (.load none (.t 67)), oM 69 (.lenl (.t 68)), oM 70 (.faddr (.t 3) 2), oM 71 (.load none (.t 70)), oM 72 (.mv (.t 6)), oM 73 (.iaddr 1 none (.t 71) (.t 72)), oM 74 (.load none (.t 73)), oM 75 (.lenl (.t 74)), oM 76 (.bin .neq (.t 69) (.t 75))] [0, 1, 0, 6, 8, 16, 0, 64, 0, 384, 512, 1024, 2080]) (.cond (.t 76) (.seq (.region false [ oM 4 (.mv (.c (.d (.bool false))))] []) .ret) .skip)) (.seq (.region false [ oM 7 (.mv (.c (.d (.int .i64 0))))] []) (.block 4 (.loop ac11L1))))) (.region false [ oM 62 (.mv (.t 6)), oM 63 (.bin .add (.t 62) (.c (.d (.int .i64 1)))), oM 6 (.mv (.t 63))] [])))
def ac11 : ACode := (.seq (.region false [ oM 2 (.box (.t 0)), oM 3 (.box (.t 1)), oM 4 (.mv (.c (.d (.bool false))))] []) (.seq (.seq (.region false [ oM 8 (.faddr (.t 2) 0), oM 9 (.load none (.t 8)), oM 10 (.faddr (.t 3) 0), oM 11 (.load none (.t 10)), oM 12 (.bin .neq (.t 9) (.t 11)), oM 13 (.mv (.t 12)), oG 14 (.faddr (.t 2) 1) 13 false, oG 15 (.load none (.t 14)) 13 false, oG 16 (.lenl (.t 15)) 13 false, oG 17 (.faddr (.t 3) 1) 13 false, oG 18 (.load none (.t 17)) 13 false, oG 19 (.lenl (.t 18)) 13 false, oG 20 (.bin .neq (.t 16) (.t 19)) 13 false, oM 21 (.pick (.t 13) (.c (.d (.bool true))) (.t 20)), oM 22 (.mv (.t 21)), oG 23 (.faddr (.t 2) 2) 22 false, oG 24 (.load none (.t 23)) 22 false, oG 25 (.lenl (.t 24)) 22 false, oG 26 (.faddr (.t 3) 2) 22 false, oG 27 (.load none (.t 26)) 22 false, oG 28 (.lenl (.t 27)) 22 false, oG 29 (.bin .neq (.t 25) (.t 28)) 22 false, oM 30 (.pick (.t 22) (.c (.d (.bool true))) (.t 29)), oM 31 (.mv (.t 30)), oG 32 (.faddr (.t 2) 3) 31 false, oG 33 (.load (some 2) (.t 32)) 31 false, oG 34 (.faddr (.t 3) 3) 31 false, oG 35 (.load (some 2) (.t 34)) 31 false, oG 36 (.callf 48 [(.t 33), (.t 35)]) 31 false, oG 37 (.un .not (.t 36)) 31 false, oM 38 (.pick (.t 31) (.c (.d (.bool true))) (.t 37))] []) (.cond (.t 38) (.seq (.region false [ oM 4 (.mv (.c (.d (.bool false))))] []) .ret) .skip)) (.seq (.seq (.region false [ oM 5 (.mv (.c (.d (.int .i64 0))))] []) (.block 0 (.loop ac11L0))) (.seq (.seq (.region false [ oM 6 (.mv (.c (.d (.int .i64 0))))] []) (.block 2 (.loop ac11L2))) (.seq (.region false [ oM 4 (.mv (.c (.d (.bool true))))] []) .ret)))))
theorem ac11_ok : Tryz.f11.body.bind (cCode Tryz.prog Tryz.f11.ntmps) = some ac11 := by kernel_rfl
-- 12 jacquard/jacquardlaw3.awake
def ac12 : ACode := (.seq (.region false [ oM 0 (.mv (.c (.d (.bool false))))] []) (.seq (.region false [ oM 4 (.callf 9 [(.c (.d (.str [116, 101, 115, 116, 32, 97, 32, 123, 32, 116, 104, 114, 101, 97, 100, 32, 123, 32, 102, 101, 110, 99, 101, 32, 59, 32, 125, 32, 125])))]), oM 3 (.mv (.t 4)), oM 5 (.ext (.t 3) 0), oM 6 (.ext (.t 3) 1), oM 1 (.alloc [.d (.str []), .d .nsl, .d .nsl, .d (.int .i64 0), .d .nsl]), oM 2 (.alloc [.d (.int .i64 0), .d (.int .i64 0)]), ⟨none, .store 5 (.t 1) (.t 5), none⟩, ⟨none, .store 2 (.t 2) (.t 6), none⟩] []) (.seq (.region false [ oM 7 (.load (some 2) (.t 2)), oM 8 (.build [.d (.int .i64 0), .d (.int .i64 0)] []), oM 9 (.eqs [0, 0] false (.t 7) (.t 8)), oM 10 (.mv (.t 9)), oG 11 (.faddr (.t 1) 0) 10 true, oG 12 (.load none (.t 11)) 10 true, oG 13 (.bin .eql (.t 12) (.c (.d (.str [97])))) 10 true, oM 14 (.pick (.t 10) (.t 13) (.c (.d (.bool false)))), oM 15 (.mv (.t 14)), oG 16 (.faddr (.t 1) 2) 15 true, oG 17 (.load none (.t 16)) 15 true, oG 18 (.lenl (.t 17)) 15 true, oG 19 (.bin .eql (.t 18) (.c (.d (.int .i64 1)))) 15 true, oM 20 (.pick (.t 15) (.t 19) (.c (.d (.bool false)))), oM 21 (.mv (.t 20)), oG 22 (.faddr (.t 1) 2) 21 true, oG 23 (.load none (.t 22)) 21 true, oG 24 (.iaddr 1 none (.t 23) (.c (.d (.int .i64 0)))) 21 true, oG 25 (.load none (.t 24)) 21 true, oG 26 (.lenl (.t 25)) 21 true, oG 27 (.bin .eql (.t 26) (.c (.d (.int .i64 1)))) 21 true, oM 28 (.pick (.t 21) (.t 27) (.c (.d (.bool false)))), oM 29 (.mv (.t 28)), oG 30 (.faddr (.t 1) 2) 29 true, oG 31 (.load none (.t 30)) 29 true, oG 32 (.iaddr 1 none (.t 31) (.c (.d (.int .i64 0)))) 29 true, oG 33 (.load none (.t 32)) 29 true, oG 34 (.iaddr 9 none (.t 33) (.c (.d (.int .i64 0)))) 29 true, oG 35 (.load (some 9) (.t 34)) 29 true, oG 36 (.build [.d (.int .i64 0), .d (.int .i64 0), .d (.int .i64 0), .d (.int .i64 0), .d (.int .i64 0), .d (.int .i64 0), .d (.int .i64 0), .d (.int .i64 0), .d (.int .i64 0)] [(0, 1, (.c (.d (.int .i64 3))))]) 29 true, oG 37 (.eqs [0, 0, 0, 0, 0, 0, 0, 0, 0] false (.t 35) (.t 36)) 29 true, oM 38 (.pick (.t 29) (.t 37) (.c (.d (.bool false)))), oM 0 (.mv (.t 38))] []) .ret)))
theorem ac12_ok : Tryz.f12.body.bind (cCode Tryz.prog Tryz.f12.ntmps) = some ac12 := by kernel_rfl
-- 19 jacquard/print.Same
-- 21 jacquard/jacquardref2.TestOk
def ac21L0 : ACode := (.seq (.seq (.region false [ oM 16 (.mv (.t 3)), oM 17 (.faddr (.t 1) 1), oM 18 (.load none (.t 17)), oM 19 (.lenl (.t 18)), oM 20 (.bin .lss (.t 16) (.t 19))] []) (.cond (.t 20) .skip (.exit 0))) (.seq (.block 1 (.seq (.region false [ oM 23 (.faddr (.t 1) 1), oM 24 (.load none (.t 23)), oM 25 (.mv (.t 3)), oM 26 (.iaddr 2 none (.t 24) (.t 25)), oM 27 (.faddr (.t 26) 0), oM 28 (.load none (.t 27)), oM 29 (.callf 80 [(.t 28)]), oM 30 (.un .not (.t 29))] []) (.cond (.t 30) (.seq (.region false [ oM 2 (.mv (.c (.d (.bool false))))] []) .ret) .skip))) (.region false [ oM 21 (.mv (.t 3)), oM 22 (.bin .add (.t 21) (.c (.d (.int .i64 1)))), oM 3 (.mv (.t 22))] [])))
def ac21L1 : ACode := (.seq (.seq (.region false [ oM 38 (.mv (.t 5)), oM 39 (.faddr (.t 1) 2), oM 40 (.load none (.t 39)), oM 41 (.mv (.t 4)), oM 42 (.iaddr 1 none (.t 40) (.t 41)), oM 43 (.load none (.t 42)), oM 44 (.lenl (.t 43)), oM 45 (.bin .lss (.t 38) (.t 44))] []) (.cond (.t 45) .skip (.exit 4))) (.seq (.block 5 (.seq (.region false [ oM 48 (.faddr (.t 1) 2), oM 49 (.load none (.t 48)), oM 50 (.mv (.t 4)), oM 51 (.iaddr 1 none (.t 49) (.t 50)), oM 52 (.load none (.t 51)), oM 53 (.mv (.t 5)), oM 54 (.iaddr 9 none (.t 52) (.t 53)), oM 55 (.load (some 9) (.t 54)), oM 56 (.callf 81 [(.t 55)]), oM 57 (.un .not (.t 56))] []) (.cond (.t 57) (.seq (.region false [ oM 2 (.mv (.c (.d (.bool false))))] []) .ret) .skip))) (.region false [ oM 46 (.mv (.t 5)), oM 47 (.bin .add (.t 46) (.c (.d (.int .i64 1)))), oM 5 (.mv (.t 47))] [])))
def ac21L2 : ACode := (.seq (.seq (.region false [ oM 31 (.mv (.t 4)), oM 32 (.faddr (.t 1) 2), oM 33 (.load none (.t 32)), oM 34 (.lenl (.t 33)), oM 35 (.bin .lss (.t 31) (.t 34))] []) (.cond (.t 35) .skip (.exit 2))) (.seq (.block 3 (.seq (.region false [ oM 5 (.mv (.c (.d (.int .i64 0))))] []) (.block 4 (.loop ac21L1)))) (.region false [ oM 36 (.mv (.t 4)), oM 37 (.bin .add (.t 36) (.c (.d (.int .i64 1)))), oM 4 (.mv (.t 37))] [])))
def ac21 : ACode := (.seq (.region false [ oM 1 (.box (.t 0)), oM 2 (.mv (.c (.d (.bool false))))] []) (.seq (.seq (.region false [ oM 6 (.faddr (.t 1) 0), oM 7 (.load none (.t 6)), oM 8 (.callf 78 [(.t 7)]), oM 9 (.un .not (.t 8)), oM 10 (.mv (.t 9)), oG 11 (.faddr (.t 1) 3) 10 false, oG 12 (.load (some 2) (.t 11)) 10 false, oG 13 (.callf 79 [(.t 12)]) 10 false, oG 14 (.un .not (.t 13)) 10 false, oM 15 (.pick (.t 10) (.c (.d (.bool true))) (.t 14))] []) (.cond (.t 15) (.seq (.region false [ oM 2 (.mv (.c (.d (.bool false))))] []) .ret) .skip)) (.seq (.seq (.region false [ oM 3 (.mv (.c (.d (.int .i64 0))))] []) (.block 0 (.loop ac21L0))) (.seq (.seq (.region false [ oM 4 (.mv (.c (.d (.int .i64 0))))] []) (.block 2 (.loop ac21L2))) (.seq (.region false [ oM 2 (.mv (.c (.d (.bool true))))] []) .ret)))))
theorem ac21_ok : Tryz.f21.body.bind (cCode Tryz.prog Tryz.f21.ntmps) = some ac21 := by kernel_rfl
-- 22 jacquard/jacquardref2.locText
def ac22 : ACode := (.seq (.region false [ oM 2 (.mv (.c (.d (.str []))))] []) (.seq (.region false [ oM 3 (.mv (.t 0)), oM 4 (.cvi .u8 (.t 3)), oM 5 (.bslice 1 1 [.d (.int .u8 0)] [(0, 1, (.t 4))]), oM 6 (.cvbs (.t 5)), oM 2 (.mv (.t 6))] []) .ret))
theorem ac22_ok : Tryz.f22.body.bind (cCode Tryz.prog Tryz.f22.ntmps) = some ac22 := by kernel_rfl
-- 24 jacquard/jacquardref2.Ins
def ac24 : ACode := (.seq (.region false [ oM 1 (.box (.t 0)), oM 2 (.mv (.c (.d (.str []))))] []) (.seq (.seq (.region false [ oM 4 (.load (some 9) (.t 1)), oM 5 (.callf 81 [(.t 4)]), oM 6 (.un .not (.t 5))] []) (.cond (.t 6) (.seq (.region false [ oM 2 (.mv (.c (.d (.str []))))] []) .ret) .skip)) (.seq (.seq (.region false [ oM 7 (.faddr (.t 1) 0), oM 8 (.load none (.t 7))] []) (.block 0 (.seq (.region false [ oM 10 (.bin .eql (.t 8) (.c (.d (.int .i64 1)))), oM 9 (.mv (.t 10))] []) (.cond (.t 9) (.seq (.region true [ oM 11 (.faddr (.t 1) 2), oM 12 (.load none (.t 11)), oM 13 (.callf 22 [(.t 12)]), oM 14 (.bin .add (.c (.d (.str [115, 116, 111, 114, 101, 32]))) (.t 13)), oM 15 (.bin .add (.t 14) (.c (.d (.str [32])))), oM 16 (.faddr (.t 1) 3), oM 17 (.load (some 2) (.t 16)), oM 18 (.callf 82 [(.t 17)]), oM 19 (.bin .add (.t 15) (.t 18)), oM 20 (.bin .add (.t 19) (.c (.d (.str [32, 59])))), oM 2 (.mv (.t 20))] [0, 1, 2, 4, 8, 0, 32, 68, 144, 256, 1023]) .ret) (.seq (.region false [ oM 22 (.bin .eql (.t 8) (.c (.d (.int .i64 2)))), oM 21 (.mv (.t 22))] []) (.cond (.t 21) (.seq (.region true [ oM 23 (.faddr (.t 1) 1), oM 24 (.load none (.t 23)), oM 25 (.callf 83 [(.t 24)]), oM 26 (.bin .add (.t 25) (.c (.d (.str [32, 61, 32, 108, 111, 97, 100, 32])))), oM 27 (.faddr (.t 1) 2), oM 28 (.load none (.t 27)), oM 29 (.callf 22 [(.t 28)]), oM 30 (.bin .add (.t 26) (.t 29)), oM 31 (.bin .add (.t 30) (.c (.d (.str [32, 59])))), oM 2 (.mv (.t 31))] [0, 1, 2, 4, 0, 16, 36, 72, 128, 511]) .ret) (.seq (.region false [ oM 33 (.bin .eql (.t 8) (.c (.d (.int .i64 3)))), oM 32 (.mv (.t 33))] []) (.cond (.t 32) (.seq (.region false [ oM 2 (.mv (.c (.d (.str [102, 101, 110, 99, 101, 32, 59]))))] []) .ret) (.seq (.region false [ oM 35 (.bin .eql (.t 8) (.c (.d (.int .i64 4)))), oM 34 (.mv (.t 35))] []) (.cond (.t 34) (.seq (.region true [ oM 36 (.faddr (.t 1) 1), oM 37 (.load none (.t 36)), oM 38 (.callf 83 [(.t 37)]), oM 39 (.bin .add (.t 38) (.c (.d (.str [32, 61, 32, 99, 97, 115, 32])))), oM 40 (.faddr (.t 1) 2), oM 41 (.load none (.t 40)), oM 42 (.callf 22 [(.t 41)]), oM 43 (.bin .add (.t 39) (.t 42)), oM 44 (.bin .add (.t 43) (.c (.d (.str [32])))), oM 45 (.faddr (.t 1) 3), oM 46 (.load (some 2) (.t 45)), oM 47 (.callf 82 [(.t 46)]), oM 48 (.bin .add (.t 44) (.t 47)), oM 49 (.bin .add (.t 48) (.c (.d (.str [32])))), oM 50 (.faddr (.t 1) 6), oM 51 (.load (some 2) (.t 50)), oM 52 (.callf 82 [(.t 51)]), oM 53 (.bin .add (.t 49) (.t 52)), oM 54 (.bin .add (.t 53) (.c (.d (.str [32, 59])))), oM 2 (.mv (.t 54))] [0, 1, 2, 4, 0, 16, 36, 72, 128, 0, 512, 1088, 2304, 4096, 0, 16384, 34816, 73728, 131072, 524287]) .ret) (.seq (.region false [ oM 56 (.bin .eql (.t 8) (.c (.d (.int .i64 5)))), oM 55 (.mv (.t 56))] []) (.cond (.t 55) (.seq (.region true [ oM 57 (.faddr (.t 1) 1), oM 58 (.load none (.t 57)), oM 59 (.callf 83 [(.t 58)]), oM 60 (.bin .add (.t 59) (.c (.d (.str [32, 61, 32])))), oM 61 (.faddr (.t 1) 3), oM 62 (.load (some 2) (.t 61)), oM 63 (.callf 82 [(.t 62)]), oM 64 (.bin .add (.t 60) (.t 63)), oM 3 (.mv (.t 64))] [0, 1, 2, 4, 0, 16, 36, 72, 255]) (.seq (.seq (.region false [ oM 65 (.faddr (.t 1) 5), oM 66 (.load none (.t 65)), oM 67 (.bin .gtr (.t 66) (.c (.d (.int .i64 0))))] []) (.cond (.t 67) (.region true [ oM 68 (.mv (.t 3)), oM 69 (.bin .add (.t 68) (.c (.d (.str [32])))), oM 70 (.faddr (.t 1) 5), oM 71 (.load none (.t 70)), oM 72 (.callf 84 [(.t 71)]), oM 73 (.bin .add (.t 69) (.t 72)), oM 74 (.bin .add (.t 73) (.c (.d (.str [32])))), oM 75 (.faddr (.t 1) 6), oM 76 (.load (some 2) (.t 75)), oM 77 (.callf 82 [(.t 76)]), oM 78 (.bin .add (.t 74) (.t 77)), oM 3 (.mv (.t 78))] [0, 1, 0, 4, 8, 18, 32, 0, 128, 272, 576, 2047]) .skip)) (.seq (.region false [ oM 79 (.mv (.t 3)), oM 80 (.bin .add (.t 79) (.c (.d (.str [32, 59])))), oM 2 (.mv (.t 80))] []) .ret))) .skip)))))))))))) (.seq (.region true [ oM 81 (.faddr (.t 1) 8), oM 82 (.load none (.t 81)), oM 83 (.callf 23 [(.t 82)]), oM 84 (.bin .add (.c (.d (.str [115, 107, 105, 112, 32]))) (.t 83)), oM 85 (.bin .add (.t 84) (.c (.d (.str [32, 105, 102, 32])))), oM 86 (.faddr (.t 1) 3), oM 87 (.load (some 2) (.t 86)), oM 88 (.callf 82 [(.t 87)]), oM 89 (.bin .add (.t 85) (.t 88)), oM 90 (.bin .add (.t 89) (.c (.d (.str [32, 61, 61, 32])))), oM 91 (.faddr (.t 1) 6), oM 92 (.load (some 2) (.t 91)), oM 93 (.callf 82 [(.t 92)]), oM 94 (.bin .add (.t 90) (.t 93)), oM 95 (.bin .add (.t 94) (.c (.d (.str [32, 59])))), oM 2 (.mv (.t 95))] [0, 1, 2, 4, 8, 0, 32, 68, 144, 256, 0, 1024, 2176, 4608, 8192, 32767]) .ret))))
theorem ac24_ok : Tryz.f24.body.bind (cCode Tryz.prog Tryz.f24.ntmps) = some ac24 := by kernel_rfl
-- 25 jacquard/jacquardref2.Cond
def ac25L0 : ACode := (.seq (.seq (.region false [ oM 25 (.mv (.t 5)), oM 26 (.faddr (.t 1) 1), oM 27 (.load none (.t 26)), oM 28 (.mv (.t 4)), oM 29 (.iaddr 1 none (.t 27) (.t 28)), oM 30 (.load none (.t 29)), oM 31 (.lenl (.t 30)), oM 32 (.bin .lss (.t 25) (.t 31))] []) (.cond (.t 32) .skip (.exit 2))) (.seq (.block 3 (.seq (.region false [ oM 35 (.faddr (.t 1) 1), oM 36 (.load none (.t 35)), oM 37 (.mv (.t 4)), oM 38 (.iaddr 1 none (.t 36) (.t 37)), oM 39 (.load none (.t 38)), oM 40 (.mv (.t 5)), oM 41 (.iaddr 4 none (.t 39) (.t 40)), oM 42 (.load (some 4) (.t 41)), oM 6 (.alloc [.d (.int .i64 0), .d (.int .i64 0), .d (.int .i64 0), .d (.int .i64 0)]), ⟨none, .store 4 (.t 6) (.t 42), none⟩] []) (.seq (.seq (.region false [ oM 43 (.mv (.t 5)), oM 44 (.bin .gtr (.t 43) (.c (.d (.int .i64 0))))] []) (.cond (.t 44) (.region false [ oM 45 (.mv (.t 3)), oM 46 (.bin .add (.t 45) (.c (.d (.str [32, 38])))), oM 3 (.mv (.t 46))] []) (.seq (.region false [ oM 47 (.mv (.t 4)), oM 48 (.bin .gtr (.t 47) (.c (.d (.int .i64 0))))] []) (.cond (.t 48) (.region false [ oM 49 (.mv (.t 3)), oM 50 (.bin .add (.t 49) (.c (.d (.str [32, 124])))), oM 3 (.mv (.t 50))] []) .skip)))) (.seq (.region false [ oM 51 (.faddr (.t 6) 0), oM 52 (.load none (.t 51)), oM 53 (.bin .geq (.t 52) (.c (.d (.int .i64 0))))] []) (.cond (.t 53) (.region true [ oM 54 (.mv (.t 3)), oM 55 (.bin .add (.t 54) (.c (.d (.str [32])))), oM 56 (.faddr (.t 6) 0), oM 57 (.load none (.t 56)), oM 58 (.callf 23 [(.t 57)]), oM 59 (.bin .add (.t 55) (.t 58)), oM 60 (.bin .add (.t 59) (.c (.d (.str [32, 58, 32])))), oM 61 (.faddr (.t 6) 1), oM 62 (.load none (.t 61)), oM 63 (.callf 83 [(.t 62)]), oM 64 (.bin .add (.t 60) (.t 63)), oM 65 (.bin .add (.t 64) (.c (.d (.str [32, 61, 32])))), oM 66 (.faddr (.t 6) 3), oM 67 (.load none (.t 66)), oM 68 (.callf 23 [(.t 67)]), oM 69 (.bin .add (.t 65) (.t 68)), oM 3 (.mv (.t 69))] [0, 1, 0, 4, 8, 18, 32, 0, 128, 272, 576, 1024, 0, 4096, 8704, 18432, 65535]) (.region true [ oM 70 (.mv (.t 3)), oM 71 (.bin .add (.t 70) (.c (.d (.str [32])))), oM 72 (.faddr (.t 6) 2), oM 73 (.load none (.t 72)), oM 74 (.callf 22 [(.t 73)]), oM 75 (.bin .add (.t 71) (.t 74)), oM 76 (.bin .add (.t 75) (.c (.d (.str [32, 61, 32])))), oM 77 (.faddr (.t 6) 3), oM 78 (.load none (.t 77)), oM 79 (.callf 23 [(.t 78)]), oM 80 (.bin .add (.t 76) (.t 79)), oM 3 (.mv (.t 80))] [0, 1, 0, 4, 8, 18, 32, 0, 128, 272, 576, 2047])))))) (.region false [ oM 33 (.mv (.t 5)), oM 34 (.bin .add (.t 33) (.c (.d (.int .i64 1)))), oM 5 (.mv (.t 34))] [])))
def ac25L1 : ACode := (.seq (.seq (.region false [ oM 18 (.mv (.t 4)), oM 19 (.faddr (.t 1) 1), oM 20 (.load none (.t 19)), oM 21 (.lenl (.t 20)), oM 22 (.bin .lss (.t 18) (.t 21))] []) (.cond (.t 22) .skip (.exit 0))) (.seq (.block 1 (.seq (.region false [ oM 5 (.mv (.c (.d (.int .i64 0))))] []) (.block 2 (.loop ac25L0)))) (.region false [ oM 23 (.mv (.t 4)), oM 24 (.bin .add (.t 23) (.c (.d (.int .i64 1)))), oM 4 (.mv (.t 24))] [])))
def ac25 : ACode := (.seq (.region false [ oM 1 (.box (.t 0)), oM 2 (.mv (.c (.d (.str []))))] []) (.seq (.seq (.region false [ oM 7 (.load (some 2) (.t 1)), oM 8 (.callf 79 [(.t 7)]), oM 9 (.un .not (.t 8)), oM 10 (.mv (.t 9)), oG 11 (.faddr (.t 1) 0) 10 false, oG 12 (.load none (.t 11)) 10 false, oG 13 (.bin .eql (.t 12) (.c (.d (.int .i64 0)))) 10 false, oM 14 (.pick (.t 10) (.c (.d (.bool true))) (.t 13))] []) (.cond (.t 14) (.seq (.region false [ oM 2 (.mv (.c (.d (.str []))))] []) .ret) .skip)) (.seq (.region false [ oM 3 (.mv (.c (.d (.str [101, 120, 105, 115, 116, 115]))))] []) (.seq (.seq (.region false [ oM 15 (.faddr (.t 1) 0), oM 16 (.load none (.t 15)), oM 17 (.bin .eql (.t 16) (.c (.d (.int .i64 2))))] []) (.cond (.t 17) (.region false [ oM 3 (.mv (.c (.d (.str [102, 111, 114, 97, 108, 108]))))] []) .skip)) (.seq (.seq (.region false [ oM 4 (.mv (.c (.d (.int .i64 0))))] []) (.block 0 (.loop ac25L1))) (.seq (.region false [ oM 81 (.mv (.t 3)), oM 82 (.bin .add (.t 81) (.c (.d (.str [32, 59])))), oM 2 (.mv (.t 82))] []) .ret))))))
theorem ac25_ok : Tryz.f25.body.bind (cCode Tryz.prog Tryz.f25.ntmps) = some ac25 := by kernel_rfl
-- 26 jacquard/jacquardlaw3.Small$1
def ac26 : ACode := (.seq (.region false [ oM 2 (.mv (.c (.d (.int .i64 0))))] []) (.seq (.region false [ oM 3 (.load none (.t 0)), oM 4 (.bin .add (.t 3) (.c (.d (.int .i64 1)))), ⟨none, .store 1 (.t 0) (.t 4), none⟩] []) (.seq (.seq (.region false [ oM 5 (.load none (.t 0)), oM 6 (.load none (.t 1)), oM 7 (.lenl (.t 6)), oM 8 (.bin .gtr (.t 5) (.t 7))] []) (.cond (.t 8) (.seq (.region false [ oM 2 (.mv (.c (.d (.int .i64 0))))] []) .ret) .skip)) (.seq (.region false [ oM 9 (.load none (.t 1)), oM 10 (.load none (.t 0)), oM 11 (.bin .sub (.t 10) (.c (.d (.int .i64 1)))), oM 12 (.iaddr 1 none (.t 9) (.t 11)), oM 13 (.load none (.t 12)), oM 14 (.bin .and (.t 13) (.c (.d (.int .i64 65535)))), oM 2 (.mv (.t 14))] []) .ret))))
theorem ac26_ok : Tryz.f26.body.bind (cCode Tryz.prog Tryz.f26.ntmps) = some ac26 := by kernel_rfl
-- 29 (*jacquard/parse.parser).next
def ac29 : ACode := (.seq (.region false [ oM 2 (.mv (.t 0)), oM 3 (.nilck (.t 2)), oM 4 (.faddr (.t 3) 4), oM 5 (.faddr (.t 4) 0), oM 6 (.load none (.t 5)), oM 7 (.bin .eql (.t 6) (.c (.d (.int .i64 0))))] []) (.cond (.t 7) (.region false [ oM 9 (.mv (.t 0)), oM 10 (.mv (.t 0)), oM 11 (.mv (.t 0)), oM 12 (.nilck (.t 11)), oM 13 (.faddr (.t 12) 0), oM 14 (.load none (.t 13)), oM 15 (.callf 85 [(.t 14)]), oM 8 (.mv (.t 15)), oM 16 (.ext (.t 8) 0), oM 17 (.ext (.t 8) 1), oM 18 (.nilck (.t 9)), oM 19 (.faddr (.t 18) 1), ⟨none, .store 3 (.t 19) (.t 16), none⟩, oM 20 (.nilck (.t 10)), oM 21 (.faddr (.t 20) 4), ⟨none, .store 2 (.t 21) (.t 17), none⟩] []) .skip))
theorem ac29_ok : Tryz.f29.body.bind (cCode Tryz.prog Tryz.f29.ntmps) = some ac29 := by kernel_rfl
-- 30 (*jacquard/parse.parser).must
def ac30 : ACode := (.seq (.region false [ oM 4 (.mv (.t 0)), oM 5 (.mv (.t 1)), oM 6 (.callf 32 [(.t 4), (.t 5)]), oM 7 (.un .not (.t 6))] []) (.cond (.t 7) (.region false [ oM 8 (.mv (.t 0)), oM 9 (.callf 37 [(.t 8), (.c (.d (.int .i64 6)))])] []) .skip))
theorem ac30_ok : Tryz.f30.body.bind (cCode Tryz.prog Tryz.f30.ntmps) = some ac30 := by kernel_rfl
-- 31 (*jacquard/parse.parser).word
def ac31 : ACode := (.seq (.region false [ oM 2 (.mv (.c (.d (.str []))))] []) (.seq (.region false [ oM 4 (.mv (.t 0)), oM 5 (.nilck (.t 4)), oM 6 (.faddr (.t 5) 1), oM 7 (.faddr (.t 6) 1), oM 8 (.load none (.t 7)), oM 3 (.mv (.t 8))] []) (.seq (.seq (.region false [ oM 9 (.mv (.t 0)), oM 10 (.nilck (.t 9)), oM 11 (.faddr (.t 10) 1), oM 12 (.faddr (.t 11) 0), oM 13 (.load none (.t 12)), oM 14 (.bin .neq (.t 13) (.c (.d (.int .i64 1))))] []) (.cond (.t 14) (.seq (.region false [ oM 15 (.mv (.t 0)), oM 16 (.callf 37 [(.t 15), (.c (.d (.int .i64 6)))])] []) (.seq (.region false [ oM 2 (.mv (.c (.d (.str []))))] []) .ret)) .skip)) (.seq (.region false [ oM 17 (.mv (.t 0)), oM 18 (.callf 29 [(.t 17)])] []) (.seq (.region false [ oM 19 (.mv (.t 3)), oM 2 (.mv (.t 19))] []) .ret)))))
theorem ac31_ok : Tryz.f31.body.bind (cCode Tryz.prog Tryz.f31.ntmps) = some ac31 := by kernel_rfl
-- 32 (*jacquard/parse.parser).take
def ac32 : ACode := (.seq (.region false [ oM 4 (.mv (.c (.d (.bool false))))] []) (.seq (.seq (.region false [ oM 5 (.mv (.t 0)), oM 6 (.mv (.t 1)), oM 7 (.callf 86 [(.t 5), (.t 6)]), oM 8 (.un .not (.t 7))] []) (.cond (.t 8) (.seq (.region false [ oM 4 (.mv (.c (.d (.bool false))))] []) .ret) .skip)) (.seq (.region false [ oM 9 (.mv (.t 0)), oM 10 (.callf 29 [(.t 9)])] []) (.seq (.region false [ oM 4 (.mv (.c (.d (.bool true))))] []) .ret))))
theorem ac32_ok : Tryz.f32.body.bind (cCode Tryz.prog Tryz.f32.ntmps) = some ac32 := by kernel_rfl
-- 33 (*jacquard/parse.parser).init
def ac33L0 : ACode := (.seq (.seq (.region false [ oM 7 (.mv (.t 0)), oM 8 (.callf 36 [(.t 7)]), oM 9 (.mv (.t 8)), oG 10 (.mv (.t 0)) 9 true, oG 11 (.callf 32 [(.t 10), (.c (.d (.str [125])))]) 9 true, oG 12 (.un .not (.t 11)) 9 true, oM 13 (.pick (.t 9) (.t 12) (.c (.d (.bool false))))] []) (.cond (.t 13) .skip (.exit 0))) (.block 1 (.seq (.region false [ oM 14 (.mv (.t 0)), oM 15 (.callf 87 [(.t 14), (.c (.fn 88 []))]), oM 16 (.build [.d (.int .i64 0), .d (.int .i64 0)] [(0, 1, (.t 15))]), oM 4 (.alloc [.d (.int .i64 0), .d (.int .i64 0)]), ⟨none, .store 2 (.t 4) (.t 16), none⟩] []) (.seq (.region false [ oM 17 (.mv (.t 0)), oM 18 (.callf 30 [(.t 17), (.c (.d (.str [61])))])] []) (.seq (.region false [ oM 19 (.mv (.t 0)), oM 20 (.callf 89 [(.t 19)]), oM 21 (.faddr (.t 4) 1), ⟨none, .store 1 (.t 21) (.t 20), none⟩] []) (.seq (.region false [ oM 22 (.mv (.t 0)), oM 23 (.callf 30 [(.t 22), (.c (.d (.str [59])))])] []) (.region false [ oM 24 (.mv (.t 3)), oM 25 (.load (some 2) (.t 4)), oM 26 (.bslice 2 1 [.d (.int .i64 0), .d (.int .i64 0)] [(0, 2, (.t 25))]), oM 27 (.app 2 16 48 (.t 24) (.t 26)), oM 3 (.mv (.t 27))] [])))))))
def ac33 : ACode := (.seq (.region false [ oM 2 (.mv (.c (.d .nsl)))] []) (.seq (.region false [ oM 3 (.mv (.c (.d .nsl)))] []) (.seq (.region false [ oM 5 (.mv (.t 0)), oM 6 (.callf 30 [(.t 5), (.c (.d (.str [123])))])] []) (.seq (.block 0 (.loop ac33L0)) (.seq (.region false [ oM 28 (.mv (.t 3)), oM 2 (.mv (.t 28))] []) .ret)))))
theorem ac33_ok : Tryz.f33.body.bind (cCode Tryz.prog Tryz.f33.ntmps) = some ac33 := by kernel_rfl
-- 34 (*jacquard/parse.parser).thread
def ac34L0 : ACode := (.seq (.seq (.region false [ oM 6 (.mv (.t 0)), oM 7 (.callf 36 [(.t 6)]), oM 8 (.mv (.t 7)), oG 9 (.mv (.t 0)) 8 true, oG 10 (.callf 32 [(.t 9), (.c (.d (.str [125])))]) 8 true, oG 11 (.un .not (.t 10)) 8 true, oM 12 (.pick (.t 8) (.t 11) (.c (.d (.bool false))))] []) (.cond (.t 12) .skip (.exit 0))) (.block 1 (.seq (.region false [ oM 13 (.mv (.t 3)), oM 14 (.mv (.t 0)), oM 15 (.callf 90 [(.t 14)]), oM 16 (.bslice 9 1 [.d (.int .i64 0), .d (.int .i64 0), .d (.int .i64 0), .d (.int .i64 0), .d (.int .i64 0), .d (.int .i64 0), .d (.int .i64 0), .d (.int .i64 0), .d (.int .i64 0)] [(0, 9, (.t 15))]), oM 17 (.app 9 72 55 (.t 13) (.t 16)), oM 3 (.mv (.t 17))] []) (.region false [ oM 18 (.mv (.t 0)), oM 19 (.callf 30 [(.t 18), (.c (.d (.str [59])))])] []))))
def ac34 : ACode := (.seq (.region false [ oM 2 (.mv (.c (.d .nsl)))] []) (.seq (.region false [ oM 3 (.mv (.c (.d .nsl)))] []) (.seq (.region false [ oM 4 (.mv (.t 0)), oM 5 (.callf 30 [(.t 4), (.c (.d (.str [123])))])] []) (.seq (.block 0 (.loop ac34L0)) (.seq (.region false [ oM 20 (.mv (.t 3)), oM 2 (.mv (.t 20))] []) .ret)))))
theorem ac34_ok : Tryz.f34.body.bind (cCode Tryz.prog Tryz.f34.ntmps) = some ac34 := by kernel_rfl
-- 35 (*jacquard/parse.parser).cond
def ac35L0 : ACode := (.seq (.seq (.region false [ oM 12 (.mv (.t 0)), oM 13 (.callf 32 [(.t 12), (.c (.d (.str [38])))])] []) (.cond (.t 13) .skip (.exit 2))) (.block 3 (.region false [ oM 14 (.mv (.t 6)), oM 15 (.mv (.t 0)), oM 16 (.callf 91 [(.t 15)]), oM 17 (.bslice 4 1 [.d (.int .i64 0), .d (.int .i64 0), .d (.int .i64 0), .d (.int .i64 0)] [(0, 4, (.t 16))]), oM 18 (.app 4 32 60 (.t 14) (.t 17)), oM 6 (.mv (.t 18))] [])))
def ac35L1 : ACode := (.block 1 (.seq (.region false [ oM 9 (.mv (.t 0)), oM 10 (.callf 91 [(.t 9)]), oM 11 (.bslice 4 1 [.d (.int .i64 0), .d (.int .i64 0), .d (.int .i64 0), .d (.int .i64 0)] [(0, 4, (.t 10))]), oM 6 (.mv (.t 11))] []) (.seq (.block 2 (.loop ac35L0)) (.seq (.region false [ oM 19 (.faddr (.t 5) 1), oM 20 (.load none (.t 19)), oM 21 (.mv (.t 6)), oM 22 (.bslice 1 1 [.d .nsl] [(0, 1, (.t 21))]), oM 23 (.app 1 24 61 (.t 20) (.t 22)), oM 24 (.faddr (.t 5) 1), ⟨none, .store 1 (.t 24) (.t 23), none⟩] []) (.seq (.region false [ oM 25 (.mv (.t 0)), oM 26 (.callf 32 [(.t 25), (.c (.d (.str [124])))]), oM 27 (.un .not (.t 26))] []) (.cond (.t 27) (.seq (.region false [ oM 28 (.mv (.t 0)), oM 29 (.callf 30 [(.t 28), (.c (.d (.str [59])))])] []) (.seq (.region false [ oM 30 (.load (some 2) (.t 5)), ⟨none, .store 2 (.t 4) (.t 30), none⟩] []) .ret)) .skip))))))
def ac35 : ACode := (.seq (.region false [ oM 4 (.alloc [.d (.int .i64 0), .d .nsl])] []) (.seq (.region false [ oM 7 (.mv (.t 1)), oM 8 (.build [.d (.int .i64 0), .d .nsl] [(0, 1, (.t 7))]), oM 5 (.alloc [.d (.int .i64 0), .d .nsl]), ⟨none, .store 2 (.t 5) (.t 8), none⟩] []) (.block 0 (.loop ac35L1))))
theorem ac35_ok : Tryz.f35.body.bind (cCode Tryz.prog Tryz.f35.ntmps) = some ac35 := by kernel_rfl
-- 36 (*jacquard/parse.parser).ok
def ac36 : ACode := (.seq (.region false [ oM 2 (.mv (.c (.d (.bool false))))] []) (.seq (.region false [ oM 3 (.mv (.t 0)), oM 4 (.nilck (.t 3)), oM 5 (.faddr (.t 4) 4), oM 6 (.faddr (.t 5) 0), oM 7 (.load none (.t 6)), oM 8 (.bin .eql (.t 7) (.c (.d (.int .i64 0)))), oM 2 (.mv (.t 8))] []) .ret))
theorem ac36_ok : Tryz.f36.body.bind (cCode Tryz.prog Tryz.f36.ntmps) = some ac36 := by kernel_rfl
-- 37 (*jacquard/parse.parser).fail
def ac37 : ACode := (.seq (.region false [ oM 4 (.mv (.t 0)), oM 5 (.nilck (.t 4)), oM 6 (.faddr (.t 5) 4), oM 7 (.faddr (.t 6) 0), oM 8 (.load none (.t 7)), oM 9 (.bin .eql (.t 8) (.c (.d (.int .i64 0))))] []) (.cond (.t 9) (.region false [ oM 10 (.mv (.t 0)), oM 11 (.mv (.t 1)), oM 12 (.mv (.t 0)), oM 13 (.nilck (.t 12)), oM 14 (.faddr (.t 13) 1), oM 15 (.faddr (.t 14) 2), oM 16 (.load none (.t 15)), oM 17 (.build [.d (.int .i64 0), .d (.int .i64 0)] [(0, 1, (.t 11)), (1, 1, (.t 16))]), oM 18 (.nilck (.t 10)), oM 19 (.faddr (.t 18) 4), ⟨none, .store 2 (.t 19) (.t 17), none⟩] []) .skip))
theorem ac37_ok : Tryz.f37.body.bind (cCode Tryz.prog Tryz.f37.ntmps) = some ac37 := by kernel_rfl
-- 38 (*jacquard/jacquardref2.reader).eat
def ac38 : ACode := (.seq (.seq (.region false [ oM 4 (.mv (.t 0)), oM 5 (.mv (.t 1)), oM 6 (.callf 40 [(.t 4), (.t 5)])] []) (.cond (.t 6) (.seq (.region false [ oM 7 (.mv (.t 0)), oM 8 (.callf 41 [(.t 7)])] []) .ret) .skip)) (.region false [ oM 9 (.mv (.t 0)), oM 10 (.callf 47 [(.t 9), (.c (.d (.int .i64 6)))])] []))
theorem ac38_ok : Tryz.f38.body.bind (cCode Tryz.prog Tryz.f38.ntmps) = some ac38 := by kernel_rfl
-- 39 (*jacquard/jacquardref2.reader).word
def ac39 : ACode := (.seq (.region false [ oM 2 (.mv (.c (.d (.str []))))] []) (.seq (.region false [ oM 4 (.mv (.t 0)), oM 5 (.callf 46 [(.t 4)]), oM 3 (.alloc [.d (.int .i64 0), .d (.str []), .d (.int .i64 0)]), ⟨none, .store 3 (.t 3) (.t 5), none⟩] []) (.seq (.seq (.region false [ oM 6 (.mv (.t 0)), oM 7 (.nilck (.t 6)), oM 8 (.faddr (.t 7) 6), oM 9 (.faddr (.t 8) 0), oM 10 (.load none (.t 9)), oM 11 (.bin .neq (.t 10) (.c (.d (.int .i64 0)))), oM 12 (.mv (.t 11)), oG 13 (.faddr (.t 3) 0) 12 false, oG 14 (.load none (.t 13)) 12 false, oG 15 (.bin .neq (.t 14) (.c (.d (.int .i64 1)))) 12 false, oM 16 (.pick (.t 12) (.c (.d (.bool true))) (.t 15))] []) (.cond (.t 16) (.seq (.region false [ oM 17 (.mv (.t 0)), oM 18 (.callf 47 [(.t 17), (.c (.d (.int .i64 6)))])] []) (.seq (.region false [ oM 2 (.mv (.c (.d (.str []))))] []) .ret)) .skip)) (.seq (.region false [ oM 19 (.mv (.t 0)), oM 20 (.callf 41 [(.t 19)])] []) (.seq (.region false [ oM 21 (.faddr (.t 3) 1), oM 22 (.load none (.t 21)), oM 2 (.mv (.t 22))] []) .ret)))))
theorem ac39_ok : Tryz.f39.body.bind (cCode Tryz.prog Tryz.f39.ntmps) = some ac39 := by kernel_rfl
-- 40 (*jacquard/jacquardref2.reader).is
def ac40 : ACode := (.seq (.region false [ oM 4 (.mv (.c (.d (.bool false))))] []) (.seq (.region false [ oM 6 (.mv (.t 0)), oM 7 (.callf 46 [(.t 6)]), oM 5 (.alloc [.d (.int .i64 0), .d (.str []), .d (.int .i64 0)]), ⟨none, .store 3 (.t 5) (.t 7), none⟩] []) (.seq (.region false [ oM 8 (.mv (.t 0)), oM 9 (.nilck (.t 8)), oM 10 (.faddr (.t 9) 6), oM 11 (.faddr (.t 10) 0), oM 12 (.load none (.t 11)), oM 13 (.bin .eql (.t 12) (.c (.d (.int .i64 0)))), oM 14 (.mv (.t 13)), oG 15 (.faddr (.t 5) 0) 14 true, oG 16 (.load none (.t 15)) 14 true, oG 17 (.bin .eql (.t 16) (.c (.d (.int .i64 1)))) 14 true, oG 18 (.mv (.t 17)) 14 true, oG 19 (.faddr (.t 5) 0) 18 false, oG 20 (.load none (.t 19)) 18 false, oG 21 (.bin .eql (.t 20) (.c (.d (.int .i64 3)))) 18 false, oG 22 (.pick (.t 18) (.c (.d (.bool true))) (.t 21)) 14 true, oM 23 (.pick (.t 14) (.t 22) (.c (.d (.bool false)))), oM 24 (.mv (.t 23)), oG 25 (.faddr (.t 5) 1) 24 true, oG 26 (.load none (.t 25)) 24 true, oG 27 (.mv (.t 1)) 24 true, oG 28 (.bin .eql (.t 26) (.t 27)) 24 true, oM 29 (.pick (.t 24) (.t 28) (.c (.d (.bool false)))), oM 4 (.mv (.t 29))] []) .ret)))
theorem ac40_ok : Tryz.f40.body.bind (cCode Tryz.prog Tryz.f40.ntmps) = some ac40 := by kernel_rfl
-- 41 (*jacquard/jacquardref2.reader).go1
def ac41 : ACode := (.region false [ oM 2 (.mv (.t 0)), oM 3 (.mv (.t 0)), oM 4 (.nilck (.t 3)), oM 5 (.faddr (.t 4) 5), oM 6 (.load none (.t 5)), oM 7 (.nilck (.t 2)), oM 8 (.faddr (.t 7) 1), ⟨none, .store 1 (.t 8) (.t 6), none⟩] [])
theorem ac41_ok : Tryz.f41.body.bind (cCode Tryz.prog Tryz.f41.ntmps) = some ac41 := by kernel_rfl
-- 42 (*jacquard/jacquardref2.reader).loc
def ac42 : ACode := (.seq (.region false [ oM 2 (.mv (.c (.d (.int .i64 0))))] []) (.seq (.region false [ oM 4 (.mv (.t 0)), oM 5 (.callf 46 [(.t 4)]), oM 3 (.alloc [.d (.int .i64 0), .d (.str []), .d (.int .i64 0)]), ⟨none, .store 3 (.t 3) (.t 5), none⟩] []) (.seq (.block 0 (.seq (.region false [ oM 7 (.mv (.t 0)), oM 8 (.nilck (.t 7)), oM 9 (.faddr (.t 8) 6), oM 10 (.faddr (.t 9) 0), oM 11 (.load none (.t 10)), oM 12 (.bin .neq (.t 11) (.c (.d (.int .i64 0)))), oM 6 (.mv (.t 12))] []) (.cond (.t 6) (.seq (.region false [ oM 2 (.mv (.c (.d (.int .i64 0))))] []) .ret) (.seq (.region false [ oM 14 (.faddr (.t 3) 0), oM 15 (.load none (.t 14)), oM 16 (.bin .neq (.t 15) (.c (.d (.int .i64 1)))), oM 13 (.mv (.t 16))] []) (.cond (.t 13) (.seq (.region false [ oM 17 (.mv (.t 0)), oM 18 (.callf 47 [(.t 17), (.c (.d (.int .i64 6)))])] []) (.seq (.region false [ oM 2 (.mv (.c (.d (.int .i64 0))))] []) .ret)) (.seq (.region false [ oM 20 (.faddr (.t 3) 1), oM 21 (.load none (.t 20)), oM 22 (.lens (.t 21)), oM 23 (.bin .neq (.t 22) (.c (.d (.int .i64 1)))), oM 19 (.mv (.t 23))] []) (.cond (.t 19) (.seq (.region false [ oM 24 (.mv (.t 0)), oM 25 (.callf 47 [(.t 24), (.c (.d (.int .i64 7)))])] []) (.seq (.region false [ oM 2 (.mv (.c (.d (.int .i64 0))))] []) .ret)) .skip))))))) (.seq (.region false [ oM 26 (.mv (.t 0)), oM 27 (.callf 41 [(.t 26)])] []) (.seq (.region false [ oM 28 (.faddr (.t 3) 1), oM 29 (.load none (.t 28)), oM 30 (.idxs (.t 29) (.c (.d (.int .i64 0)))), oM 31 (.cvi .i64 (.t 30)), oM 2 (.mv (.t 31))] []) .ret)))))
theorem ac42_ok : Tryz.f42.body.bind (cCode Tryz.prog Tryz.f42.ntmps) = some ac42 := by kernel_rfl
-- 43 (*jacquard/jacquardref2.reader).num
def ac43 : ACode := (.seq (.region false [ oM 2 (.mv (.c (.d (.int .i64 0))))] []) (.seq (.region false [ oM 6 (.mv (.t 0)), oM 7 (.callf 46 [(.t 6)]), oM 3 (.alloc [.d (.int .i64 0), .d (.str []), .d (.int .i64 0)]), ⟨none, .store 3 (.t 3) (.t 7), none⟩] []) (.seq (.seq (.region false [ oM 8 (.mv (.t 0)), oM 9 (.nilck (.t 8)), oM 10 (.faddr (.t 9) 6), oM 11 (.faddr (.t 10) 0), oM 12 (.load none (.t 11)), oM 13 (.bin .neq (.t 12) (.c (.d (.int .i64 0)))), oM 14 (.mv (.t 13)), oG 15 (.faddr (.t 3) 0) 14 false, oG 16 (.load none (.t 15)) 14 false, oG 17 (.bin .neq (.t 16) (.c (.d (.int .i64 2)))) 14 false, oM 18 (.pick (.t 14) (.c (.d (.bool true))) (.t 17))] []) (.cond (.t 18) (.seq (.region false [ oM 19 (.mv (.t 0)), oM 20 (.callf 47 [(.t 19), (.c (.d (.int .i64 6)))])] []) (.seq (.region false [ oM 2 (.mv (.c (.d (.int .i64 0))))] []) .ret)) .skip)) (.seq (.region false [ oM 21 (.mv (.t 0)), oM 22 (.callf 41 [(.t 21)])] []) (.seq (.region false [ oM 24 (.faddr (.t 3) 1), oM 25 (.load none (.t 24)), oM 26 (.callf 92 [(.t 25)]), oM 23 (.mv (.t 26)), oM 27 (.ext (.t 23) 0), oM 28 (.ext (.t 23) 1), oM 4 (.mv (.t 27)), oM 5 (.mv (.t 28))] []) (.seq (.region false [ oM 29 (.mv (.t 4)), oM 2 (.mv (.t 29))] []) .ret))))))
theorem ac43_ok : Tryz.f43.body.bind (cCode Tryz.prog Tryz.f43.ntmps) = some ac43 := by kernel_rfl
-- 44 (*jacquard/jacquardref2.reader).ins
def ac44 : ACode := (.seq (.region false [ oM 2 (.alloc [.d (.int .i64 0), .d (.int .i64 0), .d (.int .i64 0), .d (.int .i64 0), .d (.int .i64 0), .d (.int .i64 0), .d (.int .i64 0), .d (.int .i64 0), .d (.int .i64 0)])] []) (.seq (.region false [ oM 8 (.build [.d (.int .i64 0), .d (.int .i64 0), .d (.int .i64 0), .d (.int .i64 0), .d (.int .i64 0), .d (.int .i64 0), .d (.int .i64 0), .d (.int .i64 0), .d (.int .i64 0)] []), oM 3 (.alloc [.d (.int .i64 0), .d (.int .i64 0), .d (.int .i64 0), .d (.int .i64 0), .d (.int .i64 0), .d (.int .i64 0), .d (.int .i64 0), .d (.int .i64 0), .d (.int .i64 0)]), ⟨none, .store 9 (.t 3) (.t 8), none⟩] []) (.seq (.block 0 (.seq (.region false [ oM 64 (.mv (.t 0)), oM 65 (.callf 40 [(.t 64), (.c (.d (.str [115, 116, 111, 114, 101])))]), oM 63 (.mv (.t 65))] []) (.cond (.t 63) (.seq (.region false [ oM 66 (.mv (.t 0)), oM 67 (.callf 41 [(.t 66)])] []) (.seq (.region false [ oM 68 (.mv (.t 0)), oM 69 (.callf 42 [(.t 68)]), oM 70 (.faddr (.t 3) 0), ⟨none, .store 1 (.t 70) (.c (.d (.int .i64 1))), none⟩, oM 71 (.faddr (.t 3) 2), ⟨none, .store 1 (.t 71) (.t 69), none⟩] []) (.region false [ oM 72 (.mv (.t 0)), oM 73 (.callf 93 [(.t 72)]), oM 74 (.faddr (.t 3) 3), ⟨none, .store 2 (.t 74) (.t 73), none⟩] []))) (.seq (.region false [ oM 76 (.mv (.t 0)), oM 77 (.callf 40 [(.t 76), (.c (.d (.str [102, 101, 110, 99, 101])))]), oM 75 (.mv (.t 77))] []) (.cond (.t 75) (.seq (.region false [ oM 78 (.mv (.t 0)), oM 79 (.callf 41 [(.t 78)])] []) (.region false [ oM 80 (.faddr (.t 3) 0), ⟨none, .store 1 (.t 80) (.c (.d (.int .i64 3))), none⟩] [])) (.seq (.region false [ oM 82 (.mv (.t 0)), oM 83 (.callf 40 [(.t 82), (.c (.d (.str [115, 107, 105, 112])))]), oM 81 (.mv (.t 83))] []) (.cond (.t 81) (.seq (.region false [ oM 84 (.mv (.t 0)), oM 85 (.callf 41 [(.t 84)])] []) (.seq (.region false [ oM 86 (.faddr (.t 3) 0), ⟨none, .store 1 (.t 86) (.c (.d (.int .i64 6))), none⟩] []) (.seq (.region false [ oM 87 (.mv (.t 0)), oM 88 (.callf 43 [(.t 87)]), oM 4 (.mv (.t 88))] []) (.seq (.seq (.region false [ oM 89 (.mv (.t 0)), oM 90 (.nilck (.t 89)), oM 91 (.faddr (.t 90) 6), oM 92 (.faddr (.t 91) 0), oM 93 (.load none (.t 92)), oM 94 (.bin .eql (.t 93) (.c (.d (.int .i64 0)))), oM 95 (.mv (.t 94)), oG 96 (.mv (.t 4)) 95 true, oG 97 (.bin .lss (.t 96) (.c (.d (.int .i64 0)))) 95 true, oM 98 (.pick (.t 95) (.t 97) (.c (.d (.bool false))))] []) (.cond (.t 98) (.region false [ oM 99 (.mv (.t 0)), oM 100 (.mv (.t 0)), oM 101 (.nilck (.t 100)), oM 102 (.faddr (.t 101) 2), oM 103 (.faddr (.t 102) 2), oM 104 (.load none (.t 103)), oM 105 (.build [.d (.int .i64 0), .d (.int .i64 0)] [(0, 1, (.c (.d (.int .i64 6)))), (1, 1, (.t 104))]), oM 106 (.nilck (.t 99)), oM 107 (.faddr (.t 106) 6), ⟨none, .store 2 (.t 107) (.t 105), none⟩] []) .skip)) (.seq (.region false [ oM 108 (.mv (.t 4)), oM 109 (.faddr (.t 3) 8), ⟨none, .store 1 (.t 109) (.t 108), none⟩] []) (.seq (.region false [ oM 110 (.mv (.t 0)), oM 111 (.callf 38 [(.t 110), (.c (.d (.str [105, 102])))])] []) (.seq (.region false [ oM 112 (.mv (.t 0)), oM 113 (.callf 93 [(.t 112)]), oM 114 (.faddr (.t 3) 3), ⟨none, .store 2 (.t 114) (.t 113), none⟩] []) (.seq (.region false [ oM 115 (.mv (.t 0)), oM 116 (.callf 38 [(.t 115), (.c (.d (.str [61, 61])))])] []) (.region false [ oM 117 (.mv (.t 0)), oM 118 (.callf 93 [(.t 117)]), oM 119 (.faddr (.t 3) 6), ⟨none, .store 2 (.t 119) (.t 118), none⟩] []))))))))) (.seq (.region false [ oM 9 (.mv (.t 0)), oM 10 (.callf 94 [(.t 9)]), oM 11 (.faddr (.t 3) 1), ⟨none, .store 1 (.t 11) (.t 10), none⟩] []) (.seq (.region false [ oM 12 (.mv (.t 0)), oM 13 (.callf 38 [(.t 12), (.c (.d (.str [61])))])] []) (.block 1 (.seq (.region false [ oM 40 (.mv (.t 0)), oM 41 (.callf 40 [(.t 40), (.c (.d (.str [108, 111, 97, 100])))]), oM 39 (.mv (.t 41))] []) (.cond (.t 39) (.seq (.region false [ oM 42 (.mv (.t 0)), oM 43 (.callf 41 [(.t 42)])] []) (.region false [ oM 44 (.mv (.t 0)), oM 45 (.callf 42 [(.t 44)]), oM 46 (.faddr (.t 3) 0), ⟨none, .store 1 (.t 46) (.c (.d (.int .i64 2))), none⟩, oM 47 (.faddr (.t 3) 2), ⟨none, .store 1 (.t 47) (.t 45), none⟩] [])) (.seq (.region false [ oM 49 (.mv (.t 0)), oM 50 (.callf 40 [(.t 49), (.c (.d (.str [99, 97, 115])))]), oM 48 (.mv (.t 50))] []) (.cond (.t 48) (.seq (.region false [ oM 51 (.mv (.t 0)), oM 52 (.callf 41 [(.t 51)])] []) (.seq (.region false [ oM 53 (.mv (.t 0)), oM 54 (.callf 42 [(.t 53)]), oM 55 (.faddr (.t 3) 0), ⟨none, .store 1 (.t 55) (.c (.d (.int .i64 4))), none⟩, oM 56 (.faddr (.t 3) 2), ⟨none, .store 1 (.t 56) (.t 54), none⟩] []) (.seq (.region false [ oM 57 (.mv (.t 0)), oM 58 (.callf 93 [(.t 57)]), oM 59 (.faddr (.t 3) 3), ⟨none, .store 2 (.t 59) (.t 58), none⟩] []) (.region false [ oM 60 (.mv (.t 0)), oM 61 (.callf 93 [(.t 60)]), oM 62 (.faddr (.t 3) 6), ⟨none, .store 2 (.t 62) (.t 61), none⟩] [])))) (.seq (.region false [ oM 14 (.mv (.t 0)), oM 15 (.callf 93 [(.t 14)]), oM 16 (.faddr (.t 3) 0), ⟨none, .store 1 (.t 16) (.c (.d (.int .i64 5))), none⟩, oM 17 (.faddr (.t 3) 3), ⟨none, .store 2 (.t 17) (.t 15), none⟩] []) (.seq (.region false [ oM 18 (.build [.d (.int .i64 0), .d (.int .i64 0)] [(0, 1, (.c (.d (.int .i64 (-1)))))]), oM 19 (.faddr (.t 3) 6), ⟨none, .store 2 (.t 19) (.t 18), none⟩] []) (.seq (.region false [ oM 20 (.mv (.t 0)), oM 21 (.callf 46 [(.t 20)]), oM 5 (.alloc [.d (.int .i64 0), .d (.str []), .d (.int .i64 0)]), ⟨none, .store 3 (.t 5) (.t 21), none⟩] []) (.seq (.region false [ oM 22 (.faddr (.t 5) 0), oM 23 (.load none (.t 22)), oM 24 (.bin .eql (.t 23) (.c (.d (.int .i64 3))))] []) (.cond (.t 24) (.seq (.region false [ oM 26 (.faddr (.t 5) 1), oM 27 (.load none (.t 26)), oM 28 (.callf 95 [(.t 27)]), oM 25 (.mv (.t 28)), oM 29 (.ext (.t 25) 0), oM 30 (.ext (.t 25) 1), oM 6 (.mv (.t 29)), oM 7 (.mv (.t 30))] []) (.seq (.region false [ oM 31 (.mv (.t 7))] []) (.cond (.t 31) (.seq (.region false [ oM 32 (.mv (.t 0)), oM 33 (.callf 41 [(.t 32)])] []) (.region false [ oM 34 (.mv (.t 6)), oM 35 (.mv (.t 0)), oM 36 (.callf 93 [(.t 35)]), oM 37 (.faddr (.t 3) 5), ⟨none, .store 1 (.t 37) (.t 34), none⟩, oM 38 (.faddr (.t 3) 6), ⟨none, .store 2 (.t 38) (.t 36), none⟩] [])) .skip))) .skip))))))))))))))))))) (.seq (.region false [ oM 120 (.mv (.t 0)), oM 121 (.callf 38 [(.t 120), (.c (.d (.str [59])))])] []) (.seq (.region false [ oM 122 (.load (some 9) (.t 3)), ⟨none, .store 9 (.t 2) (.t 122), none⟩] []) .ret)))))
theorem ac44_ok : Tryz.f44.body.bind (cCode Tryz.prog Tryz.f44.ntmps) = some ac44 := by kernel_rfl
-- 45 (*jacquard/jacquardref2.reader).atom
def ac45 : ACode := (.seq (.region false [ oM 2 (.alloc [.d (.int .i64 0), .d (.int .i64 0), .d (.int .i64 0), .d (.int .i64 0)])] []) (.seq (.region false [ oM 7 (.build [.d (.int .i64 0), .d (.int .i64 0), .d (.int .i64 0), .d (.int .i64 0)] [(0, 1, (.c (.d (.int .i64 (-1)))))]), oM 3 (.alloc [.d (.int .i64 0), .d (.int .i64 0), .d (.int .i64 0), .d (.int .i64 0)]), ⟨none, .store 4 (.t 3) (.t 7), none⟩] []) (.seq (.seq (.region false [ oM 8 (.mv (.t 0)), oM 9 (.callf 46 [(.t 8)]), oM 4 (.alloc [.d (.int .i64 0), .d (.str []), .d (.int .i64 0)]), ⟨none, .store 3 (.t 4) (.t 9), none⟩] []) (.seq (.region false [ oM 10 (.mv (.t 0)), oM 11 (.nilck (.t 10)), oM 12 (.faddr (.t 11) 6), oM 13 (.faddr (.t 12) 0), oM 14 (.load none (.t 13)), oM 15 (.bin .eql (.t 14) (.c (.d (.int .i64 0)))), oM 16 (.mv (.t 15)), oG 17 (.faddr (.t 4) 0) 16 true, oG 18 (.load none (.t 17)) 16 true, oG 19 (.bin .eql (.t 18) (.c (.d (.int .i64 2)))) 16 true, oM 20 (.pick (.t 16) (.t 19) (.c (.d (.bool false))))] []) (.cond (.t 20) (.seq (.region false [ oM 22 (.faddr (.t 4) 1), oM 23 (.load none (.t 22)), oM 24 (.callf 92 [(.t 23)]), oM 21 (.mv (.t 24)), oM 25 (.ext (.t 21) 0), oM 26 (.ext (.t 21) 1), oM 5 (.mv (.t 25)), oM 6 (.mv (.t 26))] []) (.seq (.seq (.region false [ oM 27 (.mv (.t 5)), oM 28 (.bin .lss (.t 27) (.c (.d (.int .i64 0)))), oM 29 (.mv (.t 28)), oG 30 (.mv (.t 5)) 29 false, oG 31 (.bin .gtr (.t 30) (.c (.d (.int .i64 9)))) 29 false, oM 32 (.pick (.t 29) (.c (.d (.bool true))) (.t 31))] []) (.cond (.t 32) (.seq (.region false [ oM 33 (.mv (.t 0)), oM 34 (.callf 47 [(.t 33), (.c (.d (.int .i64 7)))])] []) (.seq (.region false [ oM 35 (.load (some 4) (.t 3)), ⟨none, .store 4 (.t 2) (.t 35), none⟩] []) .ret)) .skip)) (.seq (.region false [ oM 36 (.mv (.t 0)), oM 37 (.callf 41 [(.t 36)])] []) (.seq (.region false [ oM 38 (.mv (.t 5)), oM 39 (.faddr (.t 3) 0), ⟨none, .store 1 (.t 39) (.t 38), none⟩] []) (.seq (.region false [ oM 40 (.mv (.t 0)), oM 41 (.callf 38 [(.t 40), (.c (.d (.str [58])))])] []) (.region false [ oM 42 (.mv (.t 0)), oM 43 (.callf 94 [(.t 42)]), oM 44 (.faddr (.t 3) 1), ⟨none, .store 1 (.t 44) (.t 43), none⟩] [])))))) (.region false [ oM 45 (.mv (.t 0)), oM 46 (.callf 42 [(.t 45)]), oM 47 (.faddr (.t 3) 2), ⟨none, .store 1 (.t 47) (.t 46), none⟩] [])))) (.seq (.region false [ oM 48 (.mv (.t 0)), oM 49 (.callf 38 [(.t 48), (.c (.d (.str [61])))])] []) (.seq (.region false [ oM 50 (.mv (.t 0)), oM 51 (.callf 43 [(.t 50)]), oM 52 (.faddr (.t 3) 3), ⟨none, .store 1 (.t 52) (.t 51), none⟩] []) (.seq (.region false [ oM 53 (.load (some 4) (.t 3)), ⟨none, .store 4 (.t 2) (.t 53), none⟩] []) .ret))))))
theorem ac45_ok : Tryz.f45.body.bind (cCode Tryz.prog Tryz.f45.ntmps) = some ac45 := by kernel_rfl
-- 46 (*jacquard/jacquardref2.reader).look
def ac46 : ACode := (.seq (.region false [ oM 2 (.alloc [.d (.int .i64 0), .d (.str []), .d (.int .i64 0)])] []) (.seq (.seq (.region false [ oM 6 (.mv (.t 0)), oM 7 (.nilck (.t 6)), oM 8 (.faddr (.t 7) 6), oM 9 (.faddr (.t 8) 0), oM 10 (.load none (.t 9)), oM 11 (.bin .neq (.t 10) (.c (.d (.int .i64 0))))] []) (.cond (.t 11) (.seq (.region false [ oM 12 (.build [.d (.int .i64 0), .d (.str []), .d (.int .i64 0)] [(0, 1, (.c (.d (.int .i64 4))))]), ⟨none, .store 3 (.t 2) (.t 12), none⟩] []) .ret) .skip)) (.seq (.region true [ oM 14 (.mv (.t 0)), oM 15 (.nilck (.t 14)), oM 16 (.faddr (.t 15) 0), oM 17 (.load none (.t 16)), oM 18 (.mv (.t 0)), oM 19 (.nilck (.t 18)), oM 20 (.faddr (.t 19) 1), oM 21 (.load none (.t 20)), oM 22 (.callf 96 [(.t 17), (.t 21)]), oM 13 (.mv (.t 22)), oM 23 (.ext (.t 13) 0), oM 24 (.ext (.t 13) 1), oM 25 (.ext (.t 13) 2), oM 3 (.alloc [.d (.int .i64 0), .d (.str []), .d (.int .i64 0)]), oM 5 (.alloc [.d (.int .i64 0), .d (.int .i64 0)]), ⟨none, .store 3 (.t 3) (.t 23), none⟩, oM 4 (.mv (.t 24)), ⟨none, .store 2 (.t 5) (.t 25), none⟩] [0, 1, 2, 4, 0, 16, 32, 64, 136, 256, 512, 512, 512, 0, 0, 26623, 61439, 131071]) (.seq (.region false [ oM 26 (.mv (.t 0)), oM 27 (.mv (.t 0)), oM 28 (.load (some 3) (.t 3)), oM 29 (.mv (.t 4)), oM 30 (.nilck (.t 26)), oM 31 (.faddr (.t 30) 2), ⟨none, .store 3 (.t 31) (.t 28), none⟩, oM 32 (.nilck (.t 27)), oM 33 (.faddr (.t 32) 5), ⟨none, .store 1 (.t 33) (.t 29), none⟩] []) (.seq (.seq (.region false [ oM 34 (.faddr (.t 5) 0), oM 35 (.load none (.t 34)), oM 36 (.bin .neq (.t 35) (.c (.d (.int .i64 0))))] []) (.cond (.t 36) (.seq (.region false [ oM 37 (.mv (.t 0)), oM 38 (.load (some 2) (.t 5)), oM 39 (.nilck (.t 37)), oM 40 (.faddr (.t 39) 6), ⟨none, .store 2 (.t 40) (.t 38), none⟩] []) (.seq (.region false [ oM 41 (.build [.d (.int .i64 0), .d (.str []), .d (.int .i64 0)] [(0, 1, (.c (.d (.int .i64 4))))]), ⟨none, .store 3 (.t 2) (.t 41), none⟩] []) .ret)) .skip)) (.seq (.region false [ oM 42 (.load (some 3) (.t 3)), ⟨none, .store 3 (.t 2) (.t 42), none⟩] []) .ret))))))
theorem ac46_ok : Tryz.f46.body.bind (cCode Tryz.prog Tryz.f46.ntmps) = some ac46 := by kernel_rfl
-- 47 (*jacquard/jacquardref2.reader).fail
def ac47 : ACode := (.seq (.region false [ oM 4 (.mv (.t 0)), oM 5 (.nilck (.t 4)), oM 6 (.faddr (.t 5) 6), oM 7 (.faddr (.t 6) 0), oM 8 (.load none (.t 7)), oM 9 (.bin .eql (.t 8) (.c (.d (.int .i64 0))))] []) (.cond (.t 9) (.region false [ oM 10 (.mv (.t 0)), oM 11 (.mv (.t 1)), oM 12 (.mv (.t 0)), oM 13 (.nilck (.t 12)), oM 14 (.faddr (.t 13) 2), oM 15 (.faddr (.t 14) 2), oM 16 (.load none (.t 15)), oM 17 (.build [.d (.int .i64 0), .d (.int .i64 0)] [(0, 1, (.t 11)), (1, 1, (.t 16))]), oM 18 (.nilck (.t 10)), oM 19 (.faddr (.t 18) 6), ⟨none, .store 2 (.t 19) (.t 17), none⟩] []) .skip))
theorem ac47_ok : Tryz.f47.body.bind (cCode Tryz.prog Tryz.f47.ntmps) = some ac47 := by kernel_rfl
-- 48 jacquard/jacquardref2.SameCond
def ac48L0 : ACode := (.seq (.seq (.region false [ oM 41 (.mv (.t 6)), oM 42 (.faddr (.t 2) 1), oM 43 (.load none (.t 42)), oM 44 (.mv (.t 5)), oM 45 (.iaddr 1 none (.t 43) (.t 44)), oM 46 (.load none (.t 45)), oM 47 (.lenl (.t 46)), oM 48 (.bin .lss (.t 41) (.t 47))] []) (.cond (.t 48) .skip (.exit 2))) (.seq (.block 3 (.seq (.region true [ oM 51 (.faddr (.t 2) 1), oM 52 (.load none (.t 51)), oM 53 (.mv (.t 5)), oM 54 (.iaddr 1 none (.t 52) (.t 53)), oM 55 (.load none (.t 54)), oM 56 (.mv (.t 6)), oM 57 (.iaddr 4 none (.t 55) (.t 56)), oM 58 (.load (some 4) (.t 57)), oM 59 (.faddr (.t 3) 1), oM 60 (.load none (.t 59)), oM 61 (.mv (.t 5)), oM 62 (.iaddr 1 none (.t 60) (.t 61)), oM 63 (.load none (.t 62)), oM 64 (.mv (.t 6)), oM 65 (.iaddr 4 none (.t 63) (.t 64)), oM 66 (.load (some 4) (.t 65)), oM 67 (.eqs [0, 0, 0, 0] true (.t 58) (.t 66))] [0, 1, 0, 6, 8, 0, 48, 64, 0, 256, 0, 1536, 2048, 0, 12288, 16384, 32896]) (.cond (.t 67) (.seq (.region false [ oM 4 (.mv (.c (.d (.bool false))))] []) .ret) .skip))) (.region false [ oM 49 (.mv (.t 6)), oM 50 (.bin .add (.t 49) (.c (.d (.int .i64 1)))), oM 6 (.mv (.t 50))] [])))
def ac48L1 : ACode := (.seq (.seq (.region false [ oM 21 (.mv (.t 5)), oM 22 (.faddr (.t 2) 1), oM 23 (.load none (.t 22)), oM 24 (.lenl (.t 23)), oM 25 (.bin .lss (.t 21) (.t 24))] []) (.cond (.t 25) .skip (.exit 0))) (.seq (.block 1 (.seq (.seq (.region true [ oM 28 (.faddr (.t 2) 1), oM 29 (.load none (.t 28)), oM 30 (.mv (.t 5)), oM 31 (.iaddr 1 none (.t 29) (.t 30)), oM 32 (.load none (.t 31)), oM 33 (.lenl (.t 32)), oM 34 (.faddr (.t 3) 1), oM 35 (.load none (.t 34)), oM 36 (.mv (.t 5)), oM 37 (.iaddr 1 none (.t 35) (.t 36)), oM 38 (.load none (.t 37)), oM 39 (.lenl (.t 38)), oM 40 (.bin .neq (.t 33) (.t 39))] [0, 1, 0, 6, 8, 16, 0, 64, 0, 384, 512, 1024, 2080]) (.cond (.t 40) (.seq (.region false [ oM 4 (.mv (.c (.d (.bool false))))] []) .ret) .skip)) (.seq (.region false [ oM 6 (.mv (.c (.d (.int .i64 0))))] []) (.block 2 (.loop ac48L0))))) (.region false [ oM 26 (.mv (.t 5)), oM 27 (.bin .add (.t 26) (.c (.d (.int .i64 1)))), oM 5 (.mv (.t 27))] [])))
def ac48 : ACode := (.seq (.region false [ oM 2 (.box (.t 0)), oM 3 (.box (.t 1)), oM 4 (.mv (.c (.d (.bool false))))] []) (.seq (.seq (.region false [ oM 7 (.faddr (.t 2) 0), oM 8 (.load none (.t 7)), oM 9 (.faddr (.t 3) 0), oM 10 (.load none (.t 9)), oM 11 (.bin .neq (.t 8) (.t 10)), oM 12 (.mv (.t 11)), oG 13 (.faddr (.t 2) 1) 12 false, oG 14 (.load none (.t 13)) 12 false, oG 15 (.lenl (.t 14)) 12 false, oG 16 (.faddr (.t 3) 1) 12 false, oG 17 (.load none (.t 16)) 12 false, oG 18 (.lenl (.t 17)) 12 false, oG 19 (.bin .neq (.t 15) (.t 18)) 12 false, oM 20 (.pick (.t 12) (.c (.d (.bool true))) (.t 19))] []) (.cond (.t 20) (.seq (.region false [ oM 4 (.mv (.c (.d (.bool false))))] []) .ret) .skip)) (.seq (.seq (.region false [ oM 5 (.mv (.c (.d (.int .i64 0))))] []) (.block 0 (.loop ac48L1))) (.seq (.region false [ oM 4 (.mv (.c (.d (.bool true))))] []) .ret))))
theorem ac48_ok : Tryz.f48.body.bind (cCode Tryz.prog Tryz.f48.ntmps) = some ac48 := by kernel_rfl
-- 78 jacquard/jacquardref2.word
def ac78L0 : ACode := (.seq (.seq (.region false [ oM 4 (.mv (.t 3)), oM 5 (.mv (.t 0)), oM 6 (.lens (.t 5)), oM 7 (.bin .lss (.t 4) (.t 6))] []) (.cond (.t 7) .skip (.exit 0))) (.seq (.block 1 (.seq (.region false [ oM 10 (.mv (.t 0)), oM 11 (.mv (.t 3)), oM 12 (.idxs (.t 10) (.t 11)), oM 13 (.callf 114 [(.t 12)]), oM 14 (.un .not (.t 13)), oM 15 (.mv (.t 14)), oG 16 (.mv (.t 3)) 15 true, oG 17 (.bin .gtr (.t 16) (.c (.d (.int .i64 0)))) 15 true, oG 18 (.mv (.t 17)) 15 true, oG 19 (.mv (.t 0)) 18 true, oG 20 (.mv (.t 3)) 18 true, oG 21 (.idxs (.t 19) (.t 20)) 18 true, oG 22 (.callf 115 [(.t 21)]) 18 true, oG 23 (.pick (.t 18) (.t 22) (.c (.d (.bool false)))) 15 true, oG 24 (.un .not (.t 23)) 15 true, oM 25 (.pick (.t 15) (.t 24) (.c (.d (.bool false))))] []) (.cond (.t 25) (.seq (.region false [ oM 2 (.mv (.c (.d (.bool false))))] []) .ret) .skip))) (.region false [ oM 8 (.mv (.t 3)), oM 9 (.bin .add (.t 8) (.c (.d (.int .i64 1)))), oM 3 (.mv (.t 9))] [])))
def ac78 : ACode := (.seq (.region false [ oM 2 (.mv (.c (.d (.bool false))))] []) (.seq (.seq (.region false [ oM 3 (.mv (.c (.d (.int .i64 0))))] []) (.block 0 (.loop ac78L0))) (.seq (.region false [ oM 26 (.mv (.t 0)), oM 27 (.bin .neq (.t 26) (.c (.d (.str [])))), oM 2 (.mv (.t 27))] []) .ret)))
theorem ac78_ok : Tryz.f78.body.bind (cCode Tryz.prog Tryz.f78.ntmps) = some ac78 := by kernel_rfl
-- 79 jacquard/jacquardref2.CondOk
def ac79L0 : ACode := (.seq (.seq (.region false [ oM 43 (.mv (.t 4)), oM 44 (.faddr (.t 1) 1), oM 45 (.load none (.t 44)), oM 46 (.mv (.t 3)), oM 47 (.iaddr 1 none (.t 45) (.t 46)), oM 48 (.load none (.t 47)), oM 49 (.lenl (.t 48)), oM 50 (.bin .lss (.t 43) (.t 49))] []) (.cond (.t 50) .skip (.exit 2))) (.seq (.block 3 (.seq (.region false [ oM 53 (.faddr (.t 1) 1), oM 54 (.load none (.t 53)), oM 55 (.mv (.t 3)), oM 56 (.iaddr 1 none (.t 54) (.t 55)), oM 57 (.load none (.t 56)), oM 58 (.mv (.t 4)), oM 59 (.iaddr 4 none (.t 57) (.t 58)), oM 60 (.load (some 4) (.t 59)), oM 5 (.alloc [.d (.int .i64 0), .d (.int .i64 0), .d (.int .i64 0), .d (.int .i64 0)]), ⟨none, .store 4 (.t 5) (.t 60), none⟩] []) (.seq (.region false [ oM 61 (.faddr (.t 5) 0), oM 62 (.load none (.t 61)), oM 63 (.bin .eql (.t 62) (.c (.d (.int .i64 (-1))))), oM 64 (.mv (.t 63)), oG 65 (.faddr (.t 5) 1) 64 true, oG 66 (.load none (.t 65)) 64 true, oG 67 (.bin .eql (.t 66) (.c (.d (.int .i64 0)))) 64 true, oM 68 (.pick (.t 64) (.t 67) (.c (.d (.bool false)))), oM 69 (.mv (.t 68)), oG 70 (.faddr (.t 5) 2) 69 true, oG 71 (.load none (.t 70)) 69 true, oG 72 (.callf 80 [(.t 71)]) 69 true, oM 73 (.pick (.t 69) (.t 72) (.c (.d (.bool false)))), oM 6 (.mv (.t 73))] []) (.seq (.region false [ oM 74 (.faddr (.t 5) 0), oM 75 (.load none (.t 74)), oM 76 (.bin .geq (.t 75) (.c (.d (.int .i64 0)))), oM 77 (.mv (.t 76)), oG 78 (.faddr (.t 5) 0) 77 true, oG 79 (.load none (.t 78)) 77 true, oG 80 (.bin .leq (.t 79) (.c (.d (.int .i64 9)))) 77 true, oM 81 (.pick (.t 77) (.t 80) (.c (.d (.bool false)))), oM 82 (.mv (.t 81)), oG 83 (.faddr (.t 5) 1) 82 true, oG 84 (.load none (.t 83)) 82 true, oG 85 (.bin .geq (.t 84) (.c (.d (.int .i64 0)))) 82 true, oM 86 (.pick (.t 82) (.t 85) (.c (.d (.bool false)))), oM 87 (.mv (.t 86)), oG 88 (.faddr (.t 5) 1) 87 true, oG 89 (.load none (.t 88)) 87 true, oG 90 (.bin .leq (.t 89) (.c (.d (.int .i64 3)))) 87 true, oM 91 (.pick (.t 87) (.t 90) (.c (.d (.bool false)))), oM 92 (.mv (.t 91)), oG 93 (.faddr (.t 5) 2) 92 true, oG 94 (.load none (.t 93)) 92 true, oG 95 (.bin .eql (.t 94) (.c (.d (.int .i64 0)))) 92 true, oM 96 (.pick (.t 92) (.t 95) (.c (.d (.bool false)))), oM 7 (.mv (.t 96))] []) (.seq (.region false [ oM 97 (.mv (.t 6)), oM 98 (.un .not (.t 97)), oM 99 (.mv (.t 98)), oG 100 (.mv (.t 7)) 99 true, oG 101 (.un .not (.t 100)) 99 true, oM 102 (.pick (.t 99) (.t 101) (.c (.d (.bool false))))] []) (.cond (.t 102) (.seq (.region false [ oM 2 (.mv (.c (.d (.bool false))))] []) .ret) .skip)))))) (.region false [ oM 51 (.mv (.t 4)), oM 52 (.bin .add (.t 51) (.c (.d (.int .i64 1)))), oM 4 (.mv (.t 52))] [])))
def ac79L1 : ACode := (.seq (.seq (.region false [ oM 29 (.mv (.t 3)), oM 30 (.faddr (.t 1) 1), oM 31 (.load none (.t 30)), oM 32 (.lenl (.t 31)), oM 33 (.bin .lss (.t 29) (.t 32))] []) (.cond (.t 33) .skip (.exit 0))) (.seq (.block 1 (.seq (.seq (.region false [ oM 36 (.faddr (.t 1) 1), oM 37 (.load none (.t 36)), oM 38 (.mv (.t 3)), oM 39 (.iaddr 1 none (.t 37) (.t 38)), oM 40 (.load none (.t 39)), oM 41 (.lenl (.t 40)), oM 42 (.bin .eql (.t 41) (.c (.d (.int .i64 0))))] []) (.cond (.t 42) (.seq (.region false [ oM 2 (.mv (.c (.d (.bool false))))] []) .ret) .skip)) (.seq (.region false [ oM 4 (.mv (.c (.d (.int .i64 0))))] []) (.block 2 (.loop ac79L0))))) (.region false [ oM 34 (.mv (.t 3)), oM 35 (.bin .add (.t 34) (.c (.d (.int .i64 1)))), oM 3 (.mv (.t 35))] [])))
def ac79 : ACode := (.seq (.region false [ oM 1 (.box (.t 0)), oM 2 (.mv (.c (.d (.bool false))))] []) (.seq (.seq (.region false [ oM 8 (.faddr (.t 1) 0), oM 9 (.load none (.t 8)), oM 10 (.bin .eql (.t 9) (.c (.d (.int .i64 0))))] []) (.cond (.t 10) (.seq (.region false [ oM 11 (.faddr (.t 1) 1), oM 12 (.load none (.t 11)), oM 13 (.lenl (.t 12)), oM 14 (.bin .eql (.t 13) (.c (.d (.int .i64 0)))), oM 2 (.mv (.t 14))] []) .ret) .skip)) (.seq (.seq (.region false [ oM 15 (.faddr (.t 1) 0), oM 16 (.load none (.t 15)), oM 17 (.bin .lss (.t 16) (.c (.d (.int .i64 0)))), oM 18 (.mv (.t 17)), oG 19 (.faddr (.t 1) 0) 18 false, oG 20 (.load none (.t 19)) 18 false, oG 21 (.bin .gtr (.t 20) (.c (.d (.int .i64 2)))) 18 false, oM 22 (.pick (.t 18) (.c (.d (.bool true))) (.t 21)), oM 23 (.mv (.t 22)), oG 24 (.faddr (.t 1) 1) 23 false, oG 25 (.load none (.t 24)) 23 false, oG 26 (.lenl (.t 25)) 23 false, oG 27 (.bin .eql (.t 26) (.c (.d (.int .i64 0)))) 23 false, oM 28 (.pick (.t 23) (.c (.d (.bool true))) (.t 27))] []) (.cond (.t 28) (.seq (.region false [ oM 2 (.mv (.c (.d (.bool false))))] []) .ret) .skip)) (.seq (.seq (.region false [ oM 3 (.mv (.c (.d (.int .i64 0))))] []) (.block 0 (.loop ac79L1))) (.seq (.region false [ oM 2 (.mv (.c (.d (.bool true))))] []) .ret)))))
theorem ac79_ok : Tryz.f79.body.bind (cCode Tryz.prog Tryz.f79.ntmps) = some ac79 := by kernel_rfl
-- 80 jacquard/jacquardref2.named
def ac80 : ACode := (.seq (.region false [ oM 2 (.mv (.c (.d (.bool false))))] []) (.seq (.region false [ oM 3 (.mv (.t 0)), oM 4 (.bin .geq (.t 3) (.c (.d (.int .i64 97)))), oM 5 (.mv (.t 4)), oG 6 (.mv (.t 0)) 5 true, oG 7 (.bin .leq (.t 6) (.c (.d (.int .i64 122)))) 5 true, oM 8 (.pick (.t 5) (.t 7) (.c (.d (.bool false)))), oM 2 (.mv (.t 8))] []) .ret))
theorem ac80_ok : Tryz.f80.body.bind (cCode Tryz.prog Tryz.f80.ntmps) = some ac80 := by kernel_rfl
-- 81 jacquard/jacquardref2.InsOk
def ac81 : ACode := (.seq (.region false [ oM 1 (.box (.t 0)), oM 2 (.mv (.c (.d (.bool false))))] []) (.seq (.region false [ oM 4 (.build [.d (.int .i64 0), .d (.int .i64 0)] []), oM 3 (.alloc [.d (.int .i64 0), .d (.int .i64 0)]), ⟨none, .store 2 (.t 3) (.t 4), none⟩] []) (.seq (.seq (.region false [ oM 5 (.faddr (.t 1) 0), oM 6 (.load none (.t 5))] []) (.block 0 (.seq (.region false [ oM 8 (.bin .eql (.t 6) (.c (.d (.int .i64 1)))), oM 7 (.mv (.t 8))] []) (.cond (.t 7) (.seq (.region false [ oM 9 (.faddr (.t 1) 1), oM 10 (.load none (.t 9)), oM 11 (.bin .eql (.t 10) (.c (.d (.int .i64 0)))), oM 12 (.mv (.t 11)), oG 13 (.faddr (.t 1) 2) 12 true, oG 14 (.load none (.t 13)) 12 true, oG 15 (.callf 80 [(.t 14)]) 12 true, oM 16 (.pick (.t 12) (.t 15) (.c (.d (.bool false)))), oM 17 (.mv (.t 16)), oG 18 (.faddr (.t 1) 3) 17 true, oG 19 (.load (some 2) (.t 18)) 17 true, oG 20 (.callf 116 [(.t 19)]) 17 true, oM 21 (.pick (.t 17) (.t 20) (.c (.d (.bool false)))), oM 22 (.mv (.t 21)), oG 23 (.faddr (.t 1) 5) 22 true, oG 24 (.load none (.t 23)) 22 true, oG 25 (.bin .eql (.t 24) (.c (.d (.int .i64 0)))) 22 true, oM 26 (.pick (.t 22) (.t 25) (.c (.d (.bool false)))), oM 27 (.mv (.t 26)), oG 28 (.faddr (.t 1) 6) 27 true, oG 29 (.load (some 2) (.t 28)) 27 true, oG 30 (.load (some 2) (.t 3)) 27 true, oG 31 (.eqs [0, 0] false (.t 29) (.t 30)) 27 true, oM 32 (.pick (.t 27) (.t 31) (.c (.d (.bool false)))), oM 33 (.mv (.t 32)), oG 34 (.faddr (.t 1) 8) 33 true, oG 35 (.load none (.t 34)) 33 true, oG 36 (.bin .eql (.t 35) (.c (.d (.int .i64 0)))) 33 true, oM 37 (.pick (.t 33) (.t 36) (.c (.d (.bool false)))), oM 2 (.mv (.t 37))] []) .ret) (.seq (.region false [ oM 39 (.bin .eql (.t 6) (.c (.d (.int .i64 2)))), oM 38 (.mv (.t 39))] []) (.cond (.t 38) (.seq (.region false [ oM 40 (.faddr (.t 1) 1), oM 41 (.load none (.t 40)), oM 42 (.bin .geq (.t 41) (.c (.d (.int .i64 0)))), oM 43 (.mv (.t 42)), oG 44 (.faddr (.t 1) 1) 43 true, oG 45 (.load none (.t 44)) 43 true, oG 46 (.bin .leq (.t 45) (.c (.d (.int .i64 3)))) 43 true, oM 47 (.pick (.t 43) (.t 46) (.c (.d (.bool false)))), oM 48 (.mv (.t 47)), oG 49 (.faddr (.t 1) 2) 48 true, oG 50 (.load none (.t 49)) 48 true, oG 51 (.callf 80 [(.t 50)]) 48 true, oM 52 (.pick (.t 48) (.t 51) (.c (.d (.bool false)))), oM 53 (.mv (.t 52)), oG 54 (.faddr (.t 1) 3) 53 true, oG 55 (.load (some 2) (.t 54)) 53 true, oG 56 (.load (some 2) (.t 3)) 53 true, oG 57 (.eqs [0, 0] false (.t 55) (.t 56)) 53 true, oM 58 (.pick (.t 53) (.t 57) (.c (.d (.bool false)))), oM 59 (.mv (.t 58)), oG 60 (.faddr (.t 1) 5) 59 true, oG 61 (.load none (.t 60)) 59 true, oG 62 (.bin .eql (.t 61) (.c (.d (.int .i64 0)))) 59 true, oM 63 (.pick (.t 59) (.t 62) (.c (.d (.bool false)))), oM 64 (.mv (.t 63)), oG 65 (.faddr (.t 1) 6) 64 true, oG 66 (.load (some 2) (.t 65)) 64 true, oG 67 (.load (some 2) (.t 3)) 64 true, oG 68 (.eqs [0, 0] false (.t 66) (.t 67)) 64 true, oM 69 (.pick (.t 64) (.t 68) (.c (.d (.bool false)))), oM 70 (.mv (.t 69)), oG 71 (.faddr (.t 1) 8) 70 true, oG 72 (.load none (.t 71)) 70 true, oG 73 (.bin .eql (.t 72) (.c (.d (.int .i64 0)))) 70 true, oM 74 (.pick (.t 70) (.t 73) (.c (.d (.bool false)))), oM 2 (.mv (.t 74))] []) .ret) (.seq (.region false [ oM 76 (.bin .eql (.t 6) (.c (.d (.int .i64 3)))), oM 75 (.mv (.t 76))] []) (.cond (.t 75) (.seq (.region false [ oM 77 (.load (some 9) (.t 1)), oM 78 (.build [.d (.int .i64 0), .d (.int .i64 0), .d (.int .i64 0), .d (.int .i64 0), .d (.int .i64 0), .d (.int .i64 0), .d (.int .i64 0), .d (.int .i64 0), .d (.int .i64 0)] [(0, 1, (.c (.d (.int .i64 3))))]), oM 79 (.eqs [0, 0, 0, 0, 0, 0, 0, 0, 0] false (.t 77) (.t 78)), oM 2 (.mv (.t 79))] []) .ret) (.seq (.region false [ oM 81 (.bin .eql (.t 6) (.c (.d (.int .i64 4)))), oM 80 (.mv (.t 81))] []) (.cond (.t 80) (.seq (.region false [ oM 82 (.faddr (.t 1) 1), oM 83 (.load none (.t 82)), oM 84 (.bin .geq (.t 83) (.c (.d (.int .i64 0)))), oM 85 (.mv (.t 84)), oG 86 (.faddr (.t 1) 1) 85 true, oG 87 (.load none (.t 86)) 85 true, oG 88 (.bin .leq (.t 87) (.c (.d (.int .i64 3)))) 85 true, oM 89 (.pick (.t 85) (.t 88) (.c (.d (.bool false)))), oM 90 (.mv (.t 89)), oG 91 (.faddr (.t 1) 2) 90 true, oG 92 (.load none (.t 91)) 90 true, oG 93 (.callf 80 [(.t 92)]) 90 true, oM 94 (.pick (.t 90) (.t 93) (.c (.d (.bool false)))), oM 95 (.mv (.t 94)), oG 96 (.faddr (.t 1) 3) 95 true, oG 97 (.load (some 2) (.t 96)) 95 true, oG 98 (.callf 116 [(.t 97)]) 95 true, oM 99 (.pick (.t 95) (.t 98) (.c (.d (.bool false)))), oM 100 (.mv (.t 99)), oG 101 (.faddr (.t 1) 5) 100 true, oG 102 (.load none (.t 101)) 100 true, oG 103 (.bin .eql (.t 102) (.c (.d (.int .i64 0)))) 100 true, oM 104 (.pick (.t 100) (.t 103) (.c (.d (.bool false)))), oM 105 (.mv (.t 104)), oG 106 (.faddr (.t 1) 6) 105 true, oG 107 (.load (some 2) (.t 106)) 105 true, oG 108 (.callf 116 [(.t 107)]) 105 true, oM 109 (.pick (.t 105) (.t 108) (.c (.d (.bool false)))), oM 110 (.mv (.t 109)), oG 111 (.faddr (.t 1) 8) 110 true, oG 112 (.load none (.t 111)) 110 true, oG 113 (.bin .eql (.t 112) (.c (.d (.int .i64 0)))) 110 true, oM 114 (.pick (.t 110) (.t 113) (.c (.d (.bool false)))), oM 2 (.mv (.t 114))] []) .ret) (.seq (.region false [ oM 116 (.bin .eql (.t 6) (.c (.d (.int .i64 5)))), oM 115 (.mv (.t 116))] []) (.cond (.t 115) (.seq (.seq (.region false [ oM 117 (.faddr (.t 1) 5), oM 118 (.load none (.t 117)), oM 119 (.bin .eql (.t 118) (.c (.d (.int .i64 0)))), oM 120 (.mv (.t 119)), oG 121 (.faddr (.t 1) 6) 120 true, oG 122 (.load (some 2) (.t 121)) 120 true, oG 123 (.build [.d (.int .i64 0), .d (.int .i64 0)] [(0, 1, (.c (.d (.int .i64 (-1)))))]) 120 true, oG 124 (.eqs [0, 0] true (.t 122) (.t 123)) 120 true, oM 125 (.pick (.t 120) (.t 124) (.c (.d (.bool false))))] []) (.cond (.t 125) (.seq (.region false [ oM 2 (.mv (.c (.d (.bool false))))] []) .ret) .skip)) (.seq (.region false [ oM 126 (.faddr (.t 1) 1), oM 127 (.load none (.t 126)), oM 128 (.bin .geq (.t 127) (.c (.d (.int .i64 0)))), oM 129 (.mv (.t 128)), oG 130 (.faddr (.t 1) 1) 129 true, oG 131 (.load none (.t 130)) 129 true, oG 132 (.bin .leq (.t 131) (.c (.d (.int .i64 3)))) 129 true, oM 133 (.pick (.t 129) (.t 132) (.c (.d (.bool false)))), oM 134 (.mv (.t 133)), oG 135 (.faddr (.t 1) 2) 134 true, oG 136 (.load none (.t 135)) 134 true, oG 137 (.bin .eql (.t 136) (.c (.d (.int .i64 0)))) 134 true, oM 138 (.pick (.t 134) (.t 137) (.c (.d (.bool false)))), oM 139 (.mv (.t 138)), oG 140 (.faddr (.t 1) 3) 139 true, oG 141 (.load (some 2) (.t 140)) 139 true, oG 142 (.callf 116 [(.t 141)]) 139 true, oM 143 (.pick (.t 139) (.t 142) (.c (.d (.bool false)))), oM 144 (.mv (.t 143)), oG 145 (.faddr (.t 1) 5) 144 true, oG 146 (.load none (.t 145)) 144 true, oG 147 (.bin .geq (.t 146) (.c (.d (.int .i64 0)))) 144 true, oM 148 (.pick (.t 144) (.t 147) (.c (.d (.bool false)))), oM 149 (.mv (.t 148)), oG 150 (.faddr (.t 1) 5) 149 true, oG 151 (.load none (.t 150)) 149 true, oG 152 (.bin .leq (.t 151) (.c (.d (.int .i64 11)))) 149 true, oM 153 (.pick (.t 149) (.t 152) (.c (.d (.bool false)))), oM 154 (.mv (.t 153)), oG 155 (.faddr (.t 1) 6) 154 true, oG 156 (.load (some 2) (.t 155)) 154 true, oG 157 (.callf 116 [(.t 156)]) 154 true, oM 158 (.pick (.t 154) (.t 157) (.c (.d (.bool false)))), oM 159 (.mv (.t 158)), oG 160 (.faddr (.t 1) 8) 159 true, oG 161 (.load none (.t 160)) 159 true, oG 162 (.bin .eql (.t 161) (.c (.d (.int .i64 0)))) 159 true, oM 163 (.pick (.t 159) (.t 162) (.c (.d (.bool false)))), oM 2 (.mv (.t 163))] []) .ret)) (.seq (.region false [ oM 165 (.bin .eql (.t 6) (.c (.d (.int .i64 6)))), oM 164 (.mv (.t 165))] []) (.cond (.t 164) (.seq (.region false [ oM 166 (.faddr (.t 1) 1), oM 167 (.load none (.t 166)), oM 168 (.bin .eql (.t 167) (.c (.d (.int .i64 0)))), oM 169 (.mv (.t 168)), oG 170 (.faddr (.t 1) 2) 169 true, oG 171 (.load none (.t 170)) 169 true, oG 172 (.bin .eql (.t 171) (.c (.d (.int .i64 0)))) 169 true, oM 173 (.pick (.t 169) (.t 172) (.c (.d (.bool false)))), oM 174 (.mv (.t 173)), oG 175 (.faddr (.t 1) 3) 174 true, oG 176 (.load (some 2) (.t 175)) 174 true, oG 177 (.callf 116 [(.t 176)]) 174 true, oM 178 (.pick (.t 174) (.t 177) (.c (.d (.bool false)))), oM 179 (.mv (.t 178)), oG 180 (.faddr (.t 1) 5) 179 true, oG 181 (.load none (.t 180)) 179 true, oG 182 (.bin .eql (.t 181) (.c (.d (.int .i64 0)))) 179 true, oM 183 (.pick (.t 179) (.t 182) (.c (.d (.bool false)))), oM 184 (.mv (.t 183)), oG 185 (.faddr (.t 1) 6) 184 true, oG 186 (.load (some 2) (.t 185)) 184 true, oG 187 (.callf 116 [(.t 186)]) 184 true, oM 188 (.pick (.t 184) (.t 187) (.c (.d (.bool false)))), oM 189 (.mv (.t 188)), oG 190 (.faddr (.t 1) 8) 189 true, oG 191 (.load none (.t 190)) 189 true, oG 192 (.bin .geq (.t 191) (.c (.d (.int .i64 0)))) 189 true, oM 193 (.pick (.t 189) (.t 192) (.c (.d (.bool false)))), oM 2 (.mv (.t 193))] []) .ret) .skip)))))))))))))) (.seq (.region false [ oM 2 (.mv (.c (.d (.bool false))))] []) .ret))))
theorem ac81_ok : Tryz.f81.body.bind (cCode Tryz.prog Tryz.f81.ntmps) = some ac81 := by kernel_rfl
-- 82 jacquard/jacquardref2.operandText
def ac82 : ACode := (.seq (.region false [ oM 1 (.box (.t 0)), oM 2 (.mv (.c (.d (.str []))))] []) (.seq (.seq (.region false [ oM 3 (.faddr (.t 1) 0), oM 4 (.load none (.t 3)), oM 5 (.bin .lss (.t 4) (.c (.d (.int .i64 0))))] []) (.cond (.t 5) (.seq (.region false [ oM 6 (.faddr (.t 1) 1), oM 7 (.load none (.t 6)), oM 8 (.callf 23 [(.t 7)]), oM 2 (.mv (.t 8))] []) .ret) .skip)) (.seq (.region false [ oM 9 (.faddr (.t 1) 0), oM 10 (.load none (.t 9)), oM 11 (.callf 83 [(.t 10)]), oM 2 (.mv (.t 11))] []) .ret)))
theorem ac82_ok : Tryz.f82.body.bind (cCode Tryz.prog Tryz.f82.ntmps) = some ac82 := by kernel_rfl
-- 83 jacquard/jacquardref2.regText
def ac83 : ACode := (.seq (.region false [ oM 2 (.mv (.c (.d (.str []))))] []) (.seq (.region false [ oM 3 (.mv (.t 0)), oM 4 (.callf 23 [(.t 3)]), oM 5 (.bin .add (.c (.d (.str [114]))) (.t 4)), oM 2 (.mv (.t 5))] []) .ret))
theorem ac83_ok : Tryz.f83.body.bind (cCode Tryz.prog Tryz.f83.ntmps) = some ac83 := by kernel_rfl
-- 84 jacquard/jacquardref2.Sign
def ac84 : ACode := (.seq (.region false [ oM 2 (.mv (.c (.d (.str []))))] []) (.seq (.seq (.region false [ oM 3 (.mv (.t 0)), oM 4 (.bin .lss (.t 3) (.c (.d (.int .i64 1)))), oM 5 (.mv (.t 4)), oG 6 (.mv (.t 0)) 5 false, oG 7 (.bin .gtr (.t 6) (.c (.d (.int .i64 11)))) 5 false, oM 8 (.pick (.t 5) (.c (.d (.bool true))) (.t 7))] []) (.cond (.t 8) (.seq (.region false [ oM 2 (.mv (.c (.d (.str []))))] []) .ret) .skip)) (.seq (.region false [ oM 9 (.callf 117 []), oM 10 (.mv (.t 0)), oM 11 (.bin .sub (.t 10) (.c (.d (.int .i64 1)))), oM 12 (.iaddr 1 none (.t 9) (.t 11)), oM 13 (.load none (.t 12)), oM 2 (.mv (.t 13))] []) .ret)))
theorem ac84_ok : Tryz.f84.body.bind (cCode Tryz.prog Tryz.f84.ntmps) = some ac84 := by kernel_rfl
-- 86 (*jacquard/parse.parser).is
def ac86 : ACode := (.seq (.region false [ oM 4 (.mv (.c (.d (.bool false))))] []) (.seq (.region false [ oM 5 (.mv (.t 0)), oM 6 (.callf 36 [(.t 5)]), oM 7 (.mv (.t 6)), oG 8 (.mv (.t 0)) 7 true, oG 9 (.nilck (.t 8)) 7 true, oG 10 (.faddr (.t 9) 1) 7 true, oG 11 (.faddr (.t 10) 0) 7 true, oG 12 (.load none (.t 11)) 7 true, oG 13 (.bin .eql (.t 12) (.c (.d (.int .i64 3)))) 7 true, oG 14 (.mv (.t 13)) 7 true, oG 15 (.mv (.t 0)) 14 false, oG 16 (.nilck (.t 15)) 14 false, oG 17 (.faddr (.t 16) 1) 14 false, oG 18 (.faddr (.t 17) 0) 14 false, oG 19 (.load none (.t 18)) 14 false, oG 20 (.bin .eql (.t 19) (.c (.d (.int .i64 1)))) 14 false, oG 21 (.pick (.t 14) (.c (.d (.bool true))) (.t 20)) 7 true, oM 22 (.pick (.t 7) (.t 21) (.c (.d (.bool false)))), oM 23 (.mv (.t 22)), oG 24 (.mv (.t 0)) 23 true, oG 25 (.nilck (.t 24)) 23 true, oG 26 (.faddr (.t 25) 1) 23 true, oG 27 (.faddr (.t 26) 1) 23 true, oG 28 (.load none (.t 27)) 23 true, oG 29 (.mv (.t 1)) 23 true, oG 30 (.bin .eql (.t 28) (.t 29)) 23 true, oM 31 (.pick (.t 23) (.t 30) (.c (.d (.bool false)))), oM 4 (.mv (.t 31))] []) .ret))
theorem ac86_ok : Tryz.f86.body.bind (cCode Tryz.prog Tryz.f86.ntmps) = some ac86 := by kernel_rfl
-- 87 (*jacquard/parse.parser).named
def ac87 : ACode := (.seq (.region false [ oM 4 (.mv (.c (.d (.int .i64 0))))] []) (.seq (.seq (.region false [ oM 7 (.mv (.t 0)), oM 8 (.nilck (.t 7)), oM 9 (.faddr (.t 8) 1), oM 10 (.faddr (.t 9) 0), oM 11 (.load none (.t 10)), oM 12 (.bin .neq (.t 11) (.c (.d (.int .i64 1))))] []) (.cond (.t 12) (.seq (.region false [ oM 13 (.mv (.t 0)), oM 14 (.callf 37 [(.t 13), (.c (.d (.int .i64 6)))])] []) (.seq (.region false [ oM 4 (.mv (.c (.d (.int .i64 0))))] []) .ret)) .skip)) (.seq (.region false [ oM 16 (.mv (.t 1)), oM 17 (.mv (.t 0)), oM 18 (.nilck (.t 17)), oM 19 (.faddr (.t 18) 1), oM 20 (.faddr (.t 19) 1), oM 21 (.load none (.t 20)), oM 22 (.callv (.t 16) [(.t 21)]), oM 15 (.mv (.t 22)), oM 23 (.ext (.t 15) 0), oM 24 (.ext (.t 15) 1), oM 5 (.mv (.t 23)), oM 6 (.mv (.t 24))] []) (.seq (.seq (.region false [ oM 25 (.mv (.t 6)), oM 26 (.un .not (.t 25))] []) (.cond (.t 26) (.seq (.region false [ oM 27 (.mv (.t 0)), oM 28 (.callf 37 [(.t 27), (.c (.d (.int .i64 7)))])] []) (.seq (.region false [ oM 4 (.mv (.c (.d (.int .i64 0))))] []) .ret)) .skip)) (.seq (.region false [ oM 29 (.mv (.t 0)), oM 30 (.callf 29 [(.t 29)])] []) (.seq (.region false [ oM 31 (.mv (.t 5)), oM 4 (.mv (.t 31))] []) .ret))))))
theorem ac87_ok : Tryz.f87.body.bind (cCode Tryz.prog Tryz.f87.ntmps) = some ac87 := by kernel_rfl
-- 88 jacquard/parse.isLoc
def ac88 : ACode := (.seq (.region false [ oM 2 (.mv (.c (.d (.int .i64 0)))), oM 3 (.mv (.c (.d (.bool false))))] []) (.seq (.region false [ oM 4 (.mv (.t 0)), oM 5 (.idxs (.t 4) (.c (.d (.int .i64 0)))), oM 6 (.cvi .i64 (.t 5)), oM 7 (.mv (.t 0)), oM 8 (.lens (.t 7)), oM 9 (.bin .eql (.t 8) (.c (.d (.int .i64 1)))), oM 2 (.mv (.t 6)), oM 3 (.mv (.t 9))] []) .ret))
theorem ac88_ok : Tryz.f88.body.bind (cCode Tryz.prog Tryz.f88.ntmps) = some ac88 := by kernel_rfl
-- 89 (*jacquard/parse.parser).number
def ac89 : ACode := (.seq (.region false [ oM 2 (.mv (.c (.d (.int .i64 0))))] []) (.seq (.seq (.region false [ oM 5 (.mv (.t 0)), oM 6 (.nilck (.t 5)), oM 7 (.faddr (.t 6) 1), oM 8 (.faddr (.t 7) 0), oM 9 (.load none (.t 8)), oM 10 (.bin .neq (.t 9) (.c (.d (.int .i64 2))))] []) (.cond (.t 10) (.region false [ oM 11 (.mv (.t 0)), oM 12 (.callf 37 [(.t 11), (.c (.d (.int .i64 6)))])] []) .skip)) (.seq (.seq (.region false [ oM 13 (.mv (.t 0)), oM 14 (.callf 36 [(.t 13)]), oM 15 (.un .not (.t 14))] []) (.cond (.t 15) (.seq (.region false [ oM 2 (.mv (.c (.d (.int .i64 0))))] []) .ret) .skip)) (.seq (.region false [ oM 17 (.mv (.t 0)), oM 18 (.nilck (.t 17)), oM 19 (.faddr (.t 18) 1), oM 20 (.faddr (.t 19) 1), oM 21 (.load none (.t 20)), oM 22 (.callf 123 [(.t 21)]), oM 16 (.mv (.t 22)), oM 23 (.ext (.t 16) 0), oM 24 (.ext (.t 16) 1), oM 3 (.mv (.t 23)), oM 4 (.mv (.t 24))] []) (.seq (.region false [ oM 25 (.mv (.t 0)), oM 26 (.callf 29 [(.t 25)])] []) (.seq (.region false [ oM 27 (.mv (.t 3)), oM 2 (.mv (.t 27))] []) .ret))))))
theorem ac89_ok : Tryz.f89.body.bind (cCode Tryz.prog Tryz.f89.ntmps) = some ac89 := by kernel_rfl
-- 90 (*jacquard/parse.parser).ins
def ac90 : ACode := (.seq (.region false [ oM 2 (.alloc [.d (.int .i64 0), .d (.int .i64 0), .d (.int .i64 0), .d (.int .i64 0), .d (.int .i64 0), .d (.int .i64 0), .d (.int .i64 0), .d (.int .i64 0), .d (.int .i64 0)])] []) (.seq (.region false [ oM 6 (.build [.d (.int .i64 0), .d (.int .i64 0), .d (.int .i64 0), .d (.int .i64 0), .d (.int .i64 0), .d (.int .i64 0), .d (.int .i64 0), .d (.int .i64 0), .d (.int .i64 0)] []), oM 3 (.alloc [.d (.int .i64 0), .d (.int .i64 0), .d (.int .i64 0), .d (.int .i64 0), .d (.int .i64 0), .d (.int .i64 0), .d (.int .i64 0), .d (.int .i64 0), .d (.int .i64 0)]), ⟨none, .store 9 (.t 3) (.t 6), none⟩] []) (.seq (.block 0 (.seq (.region false [ oM 15 (.mv (.t 0)), oM 16 (.callf 32 [(.t 15), (.c (.d (.str [115, 116, 111, 114, 101])))]), oM 14 (.mv (.t 16))] []) (.cond (.t 14) (.seq (.region false [ oM 17 (.mv (.t 0)), oM 18 (.callf 87 [(.t 17), (.c (.fn 88 []))]), oM 19 (.faddr (.t 3) 0), ⟨none, .store 1 (.t 19) (.c (.d (.int .i64 1))), none⟩, oM 20 (.faddr (.t 3) 2), ⟨none, .store 1 (.t 20) (.t 18), none⟩] []) (.region false [ oM 21 (.mv (.t 0)), oM 22 (.callf 126 [(.t 21)]), oM 23 (.faddr (.t 3) 3), ⟨none, .store 2 (.t 23) (.t 22), none⟩] [])) (.seq (.region false [ oM 25 (.mv (.t 0)), oM 26 (.callf 32 [(.t 25), (.c (.d (.str [102, 101, 110, 99, 101])))]), oM 24 (.mv (.t 26))] []) (.cond (.t 24) (.region false [ oM 27 (.faddr (.t 3) 0), ⟨none, .store 1 (.t 27) (.c (.d (.int .i64 3))), none⟩] []) (.seq (.region false [ oM 29 (.mv (.t 0)), oM 30 (.callf 32 [(.t 29), (.c (.d (.str [115, 107, 105, 112])))]), oM 28 (.mv (.t 30))] []) (.cond (.t 28) (.seq (.region false [ oM 31 (.faddr (.t 3) 0), ⟨none, .store 1 (.t 31) (.c (.d (.int .i64 6))), none⟩] []) (.seq (.seq (.region false [ oM 33 (.mv (.t 0)), oM 34 (.nilck (.t 33)), oM 35 (.faddr (.t 34) 1), oM 36 (.faddr (.t 35) 1), oM 37 (.load none (.t 36)), oM 38 (.callf 123 [(.t 37)]), oM 32 (.mv (.t 38)), oM 39 (.ext (.t 32) 0), oM 40 (.ext (.t 32) 1), oM 4 (.mv (.t 39)), oM 5 (.mv (.t 40))] []) (.seq (.region false [ oM 41 (.mv (.t 0)), oM 42 (.nilck (.t 41)), oM 43 (.faddr (.t 42) 1), oM 44 (.faddr (.t 43) 0), oM 45 (.load none (.t 44)), oM 46 (.bin .eql (.t 45) (.c (.d (.int .i64 2)))), oM 47 (.mv (.t 46)), oG 48 (.mv (.t 4)) 47 true, oG 49 (.bin .lss (.t 48) (.c (.d (.int .i64 0)))) 47 true, oM 50 (.pick (.t 47) (.t 49) (.c (.d (.bool false))))] []) (.cond (.t 50) (.region false [ oM 51 (.mv (.t 0)), oM 52 (.callf 37 [(.t 51), (.c (.d (.int .i64 6)))])] []) .skip))) (.seq (.region false [ oM 53 (.mv (.t 0)), oM 54 (.callf 89 [(.t 53)]), oM 55 (.faddr (.t 3) 8), ⟨none, .store 1 (.t 55) (.t 54), none⟩] []) (.seq (.region false [ oM 56 (.mv (.t 0)), oM 57 (.callf 30 [(.t 56), (.c (.d (.str [105, 102])))])] []) (.seq (.region false [ oM 58 (.mv (.t 0)), oM 59 (.callf 126 [(.t 58)]), oM 60 (.faddr (.t 3) 3), ⟨none, .store 2 (.t 60) (.t 59), none⟩] []) (.seq (.region false [ oM 61 (.mv (.t 0)), oM 62 (.callf 30 [(.t 61), (.c (.d (.str [61, 61])))])] []) (.region false [ oM 63 (.mv (.t 0)), oM 64 (.callf 126 [(.t 63)]), oM 65 (.faddr (.t 3) 6), ⟨none, .store 2 (.t 65) (.t 64), none⟩] []))))))) (.seq (.region false [ oM 7 (.mv (.t 0)), oM 8 (.callf 87 [(.t 7), (.c (.fn 127 []))]), oM 9 (.faddr (.t 3) 1), ⟨none, .store 1 (.t 9) (.t 8), none⟩] []) (.seq (.region false [ oM 10 (.mv (.t 0)), oM 11 (.callf 30 [(.t 10), (.c (.d (.str [61])))])] []) (.region false [ oM 12 (.mv (.t 0)), oM 13 (.callf 128 [(.t 12), (.t 3)])] [])))))))))) (.seq (.region false [ oM 66 (.load (some 9) (.t 3)), ⟨none, .store 9 (.t 2) (.t 66), none⟩] []) .ret))))
theorem ac90_ok : Tryz.f90.body.bind (cCode Tryz.prog Tryz.f90.ntmps) = some ac90 := by kernel_rfl
-- 91 (*jacquard/parse.parser).atom
def ac91 : ACode := (.seq (.region false [ oM 2 (.alloc [.d (.int .i64 0), .d (.int .i64 0), .d (.int .i64 0), .d (.int .i64 0)])] []) (.seq (.region false [ oM 6 (.build [.d (.int .i64 0), .d (.int .i64 0), .d (.int .i64 0), .d (.int .i64 0)] [(0, 1, (.c (.d (.int .i64 (-1)))))]), oM 3 (.alloc [.d (.int .i64 0), .d (.int .i64 0), .d (.int .i64 0), .d (.int .i64 0)]), ⟨none, .store 4 (.t 3) (.t 6), none⟩] []) (.seq (.seq (.region false [ oM 7 (.mv (.t 0)), oM 8 (.callf 36 [(.t 7)]), oM 9 (.mv (.t 8)), oG 10 (.mv (.t 0)) 9 true, oG 11 (.nilck (.t 10)) 9 true, oG 12 (.faddr (.t 11) 1) 9 true, oG 13 (.faddr (.t 12) 0) 9 true, oG 14 (.load none (.t 13)) 9 true, oG 15 (.bin .eql (.t 14) (.c (.d (.int .i64 2)))) 9 true, oM 16 (.pick (.t 9) (.t 15) (.c (.d (.bool false))))] []) (.cond (.t 16) (.seq (.region false [ oM 18 (.mv (.t 0)), oM 19 (.nilck (.t 18)), oM 20 (.faddr (.t 19) 1), oM 21 (.faddr (.t 20) 1), oM 22 (.load none (.t 21)), oM 23 (.callf 123 [(.t 22)]), oM 17 (.mv (.t 23)), oM 24 (.ext (.t 17) 0), oM 25 (.ext (.t 17) 1), oM 4 (.mv (.t 24)), oM 5 (.mv (.t 25))] []) (.seq (.seq (.region false [ oM 26 (.mv (.t 4)), oM 27 (.bin .lss (.t 26) (.c (.d (.int .i64 0)))), oM 28 (.mv (.t 27)), oG 29 (.mv (.t 4)) 28 false, oG 30 (.bin .gtr (.t 29) (.c (.d (.int .i64 9)))) 28 false, oM 31 (.pick (.t 28) (.c (.d (.bool true))) (.t 30))] []) (.cond (.t 31) (.seq (.region false [ oM 32 (.mv (.t 0)), oM 33 (.callf 37 [(.t 32), (.c (.d (.int .i64 7)))])] []) (.seq (.region false [ oM 34 (.build [.d (.int .i64 0), .d (.int .i64 0), .d (.int .i64 0), .d (.int .i64 0)] []), ⟨none, .store 4 (.t 2) (.t 34), none⟩] []) .ret)) .skip)) (.seq (.region false [ oM 35 (.mv (.t 4)), oM 36 (.faddr (.t 3) 0), ⟨none, .store 1 (.t 36) (.t 35), none⟩] []) (.seq (.region false [ oM 37 (.mv (.t 0)), oM 38 (.callf 29 [(.t 37)])] []) (.seq (.region false [ oM 39 (.mv (.t 0)), oM 40 (.callf 30 [(.t 39), (.c (.d (.str [58])))])] []) (.region false [ oM 41 (.mv (.t 0)), oM 42 (.callf 87 [(.t 41), (.c (.fn 127 []))]), oM 43 (.faddr (.t 3) 1), ⟨none, .store 1 (.t 43) (.t 42), none⟩] [])))))) (.region false [ oM 44 (.mv (.t 0)), oM 45 (.callf 87 [(.t 44), (.c (.fn 88 []))]), oM 46 (.faddr (.t 3) 2), ⟨none, .store 1 (.t 46) (.t 45), none⟩] []))) (.seq (.region false [ oM 47 (.mv (.t 0)), oM 48 (.callf 30 [(.t 47), (.c (.d (.str [61])))])] []) (.seq (.region false [ oM 49 (.mv (.t 0)), oM 50 (.callf 89 [(.t 49)]), oM 51 (.faddr (.t 3) 3), ⟨none, .store 1 (.t 51) (.t 50), none⟩] []) (.seq (.region false [ oM 52 (.load (some 4) (.t 3)), ⟨none, .store 4 (.t 2) (.t 52), none⟩] []) .ret))))))
theorem ac91_ok : Tryz.f91.body.bind (cCode Tryz.prog Tryz.f91.ntmps) = some ac91 := by kernel_rfl
-- 93 (*jacquard/jacquardref2.reader).operand
def ac93 : ACode := (.seq (.region false [ oM 2 (.alloc [.d (.int .i64 0), .d (.int .i64 0)])] []) (.seq (.region false [ oM 4 (.mv (.t 0)), oM 5 (.callf 46 [(.t 4)]), oM 3 (.alloc [.d (.int .i64 0), .d (.str []), .d (.int .i64 0)]), ⟨none, .store 3 (.t 3) (.t 5), none⟩] []) (.seq (.seq (.region false [ oM 6 (.mv (.t 0)), oM 7 (.nilck (.t 6)), oM 8 (.faddr (.t 7) 6), oM 9 (.faddr (.t 8) 0), oM 10 (.load none (.t 9)), oM 11 (.bin .eql (.t 10) (.c (.d (.int .i64 0)))), oM 12 (.mv (.t 11)), oG 13 (.faddr (.t 3) 0) 12 true, oG 14 (.load none (.t 13)) 12 true, oG 15 (.bin .eql (.t 14) (.c (.d (.int .i64 2)))) 12 true, oM 16 (.pick (.t 12) (.t 15) (.c (.d (.bool false))))] []) (.cond (.t 16) (.seq (.region false [ oM 17 (.mv (.t 0)), oM 18 (.callf 43 [(.t 17)]), oM 19 (.build [.d (.int .i64 0), .d (.int .i64 0)] [(0, 1, (.c (.d (.int .i64 (-1))))), (1, 1, (.t 18))]), ⟨none, .store 2 (.t 2) (.t 19), none⟩] []) .ret) .skip)) (.seq (.region false [ oM 20 (.mv (.t 0)), oM 21 (.callf 94 [(.t 20)]), oM 22 (.build [.d (.int .i64 0), .d (.int .i64 0)] [(0, 1, (.t 21))]), ⟨none, .store 2 (.t 2) (.t 22), none⟩] []) .ret))))
theorem ac93_ok : Tryz.f93.body.bind (cCode Tryz.prog Tryz.f93.ntmps) = some ac93 := by kernel_rfl
-- 94 (*jacquard/jacquardref2.reader).register
def ac94 : ACode := (.seq (.region false [ oM 2 (.mv (.c (.d (.int .i64 0))))] []) (.seq (.region false [ oM 4 (.mv (.t 0)), oM 5 (.callf 46 [(.t 4)]), oM 3 (.alloc [.d (.int .i64 0), .d (.str []), .d (.int .i64 0)]), ⟨none, .store 3 (.t 3) (.t 5), none⟩] []) (.seq (.block 0 (.seq (.region false [ oM 7 (.mv (.t 0)), oM 8 (.nilck (.t 7)), oM 9 (.faddr (.t 8) 6), oM 10 (.faddr (.t 9) 0), oM 11 (.load none (.t 10)), oM 12 (.bin .neq (.t 11) (.c (.d (.int .i64 0)))), oM 6 (.mv (.t 12))] []) (.cond (.t 6) (.seq (.region false [ oM 2 (.mv (.c (.d (.int .i64 0))))] []) .ret) (.seq (.region false [ oM 14 (.faddr (.t 3) 0), oM 15 (.load none (.t 14)), oM 16 (.bin .neq (.t 15) (.c (.d (.int .i64 1)))), oM 13 (.mv (.t 16))] []) (.cond (.t 13) (.seq (.region false [ oM 17 (.mv (.t 0)), oM 18 (.callf 47 [(.t 17), (.c (.d (.int .i64 6)))])] []) (.seq (.region false [ oM 2 (.mv (.c (.d (.int .i64 0))))] []) .ret)) (.seq (.region false [ oM 20 (.faddr (.t 3) 1), oM 21 (.load none (.t 20)), oM 22 (.callf 129 [(.t 21)]), oM 23 (.bin .lss (.t 22) (.c (.d (.int .i64 0)))), oM 19 (.mv (.t 23))] []) (.cond (.t 19) (.seq (.region false [ oM 24 (.mv (.t 0)), oM 25 (.callf 47 [(.t 24), (.c (.d (.int .i64 7)))])] []) (.seq (.region false [ oM 2 (.mv (.c (.d (.int .i64 0))))] []) .ret)) .skip))))))) (.seq (.region false [ oM 26 (.mv (.t 0)), oM 27 (.callf 41 [(.t 26)])] []) (.seq (.region false [ oM 28 (.faddr (.t 3) 1), oM 29 (.load none (.t 28)), oM 30 (.callf 129 [(.t 29)]), oM 2 (.mv (.t 30))] []) .ret)))))
theorem ac94_ok : Tryz.f94.body.bind (cCode Tryz.prog Tryz.f94.ntmps) = some ac94 := by kernel_rfl
-- 95 jacquard/jacquardref2.Op
def ac95L0 : ACode := (.seq (.seq (.region false [ oM 7 (.mv (.t 5)), oM 8 (.mv (.t 4)), oM 9 (.lenl (.t 8)), oM 10 (.bin .lss (.t 7) (.t 9))] []) (.cond (.t 10) .skip (.exit 0))) (.seq (.block 1 (.seq (.region false [ oM 13 (.mv (.t 4)), oM 14 (.mv (.t 5)), oM 15 (.iaddr 1 none (.t 13) (.t 14)), oM 16 (.load none (.t 15)), oM 17 (.mv (.t 0)), oM 18 (.bin .eql (.t 16) (.t 17))] []) (.cond (.t 18) (.seq (.region false [ oM 19 (.mv (.t 5)), oM 20 (.bin .add (.t 19) (.c (.d (.int .i64 1)))), oM 2 (.mv (.t 20)), oM 3 (.mv (.c (.d (.bool true))))] []) .ret) .skip))) (.region false [ oM 11 (.mv (.t 5)), oM 12 (.bin .add (.t 11) (.c (.d (.int .i64 1)))), oM 5 (.mv (.t 12))] [])))
def ac95 : ACode := (.seq (.region false [ oM 2 (.mv (.c (.d (.int .i64 0)))), oM 3 (.mv (.c (.d (.bool false))))] []) (.seq (.region false [ oM 6 (.callf 117 []), oM 4 (.mv (.t 6))] []) (.seq (.seq (.region false [ oM 5 (.mv (.c (.d (.int .i64 0))))] []) (.block 0 (.loop ac95L0))) (.seq (.region false [ oM 2 (.mv (.c (.d (.int .i64 0)))), oM 3 (.mv (.c (.d (.bool false))))] []) .ret))))
theorem ac95_ok : Tryz.f95.body.bind (cCode Tryz.prog Tryz.f95.ntmps) = some ac95 := by kernel_rfl
-- 116 jacquard/jacquardref2.operandOk
def ac116 : ACode := (.seq (.region false [ oM 1 (.box (.t 0)), oM 2 (.mv (.c (.d (.bool false))))] []) (.seq (.region false [ oM 3 (.faddr (.t 1) 0), oM 4 (.load none (.t 3)), oM 5 (.bin .eql (.t 4) (.c (.d (.int .i64 (-1))))), oM 6 (.mv (.t 5)), oG 7 (.faddr (.t 1) 0) 6 false, oG 8 (.load none (.t 7)) 6 false, oG 9 (.bin .geq (.t 8) (.c (.d (.int .i64 0)))) 6 false, oG 10 (.mv (.t 9)) 6 false, oG 11 (.faddr (.t 1) 0) 10 true, oG 12 (.load none (.t 11)) 10 true, oG 13 (.bin .leq (.t 12) (.c (.d (.int .i64 3)))) 10 true, oG 14 (.pick (.t 10) (.t 13) (.c (.d (.bool false)))) 6 false, oG 15 (.mv (.t 14)) 6 false, oG 16 (.faddr (.t 1) 1) 15 true, oG 17 (.load none (.t 16)) 15 true, oG 18 (.bin .eql (.t 17) (.c (.d (.int .i64 0)))) 15 true, oG 19 (.pick (.t 15) (.t 18) (.c (.d (.bool false)))) 6 false, oM 20 (.pick (.t 6) (.c (.d (.bool true))) (.t 19)), oM 2 (.mv (.t 20))] []) .ret))
theorem ac116_ok : Tryz.f116.body.bind (cCode Tryz.prog Tryz.f116.ntmps) = some ac116 := by kernel_rfl
-- 117 jacquard/jacquardref2.signs
def ac117 : ACode := (.seq (.region false [ oM 0 (.mv (.c (.d .nsl)))] []) (.seq (.region false [ oM 1 (.bslice 1 11 [.d (.str []), .d (.str []), .d (.str []), .d (.str []), .d (.str []), .d (.str []), .d (.str []), .d (.str []), .d (.str []), .d (.str []), .d (.str [])] [(0, 1, (.c (.d (.str [43])))), (1, 1, (.c (.d (.str [45])))), (2, 1, (.c (.d (.str [42])))), (3, 1, (.c (.d (.str [38])))), (4, 1, (.c (.d (.str [124])))), (5, 1, (.c (.d (.str [94])))), (6, 1, (.c (.d (.str [60, 60])))), (7, 1, (.c (.d (.str [62, 62])))), (8, 1, (.c (.d (.str [61, 61])))), (9, 1, (.c (.d (.str [33, 61])))), (10, 1, (.c (.d (.str [60]))))]), oM 0 (.mv (.t 1))] []) .ret))
theorem ac117_ok : Tryz.f117.body.bind (cCode Tryz.prog Tryz.f117.ntmps) = some ac117 := by kernel_rfl
-- 126 (*jacquard/parse.parser).operand
def ac126 : ACode := (.seq (.region false [ oM 2 (.alloc [.d (.int .i64 0), .d (.int .i64 0)])] []) (.seq (.seq (.region false [ oM 3 (.mv (.t 0)), oM 4 (.callf 36 [(.t 3)]), oM 5 (.mv (.t 4)), oG 6 (.mv (.t 0)) 5 true, oG 7 (.nilck (.t 6)) 5 true, oG 8 (.faddr (.t 7) 1) 5 true, oG 9 (.faddr (.t 8) 0) 5 true, oG 10 (.load none (.t 9)) 5 true, oG 11 (.bin .eql (.t 10) (.c (.d (.int .i64 2)))) 5 true, oM 12 (.pick (.t 5) (.t 11) (.c (.d (.bool false))))] []) (.cond (.t 12) (.seq (.region false [ oM 13 (.mv (.t 0)), oM 14 (.callf 89 [(.t 13)]), oM 15 (.build [.d (.int .i64 0), .d (.int .i64 0)] [(0, 1, (.c (.d (.int .i64 (-1))))), (1, 1, (.t 14))]), ⟨none, .store 2 (.t 2) (.t 15), none⟩] []) .ret) .skip)) (.seq (.region false [ oM 16 (.mv (.t 0)), oM 17 (.callf 87 [(.t 16), (.c (.fn 127 []))]), oM 18 (.build [.d (.int .i64 0), .d (.int .i64 0)] [(0, 1, (.t 17))]), ⟨none, .store 2 (.t 2) (.t 18), none⟩] []) .ret)))
theorem ac126_ok : Tryz.f126.body.bind (cCode Tryz.prog Tryz.f126.ntmps) = some ac126 := by kernel_rfl
-- 127 jacquard/parse.isReg
def ac127 : ACode := (.seq (.region false [ oM 2 (.mv (.c (.d (.int .i64 0)))), oM 3 (.mv (.c (.d (.bool false))))] []) (.seq (.seq (.region false [ oM 4 (.mv (.t 0)), oM 5 (.lens (.t 4)), oM 6 (.bin .neq (.t 5) (.c (.d (.int .i64 2)))), oM 7 (.mv (.t 6)), oG 8 (.mv (.t 0)) 7 false, oG 9 (.idxs (.t 8) (.c (.d (.int .i64 0)))) 7 false, oG 10 (.bin .neq (.t 9) (.c (.d (.int .u8 114)))) 7 false, oM 11 (.pick (.t 7) (.c (.d (.bool true))) (.t 10)), oM 12 (.mv (.t 11)), oG 13 (.mv (.t 0)) 12 false, oG 14 (.idxs (.t 13) (.c (.d (.int .i64 1)))) 12 false, oG 15 (.bin .lss (.t 14) (.c (.d (.int .u8 48)))) 12 false, oM 16 (.pick (.t 12) (.c (.d (.bool true))) (.t 15)), oM 17 (.mv (.t 16)), oG 18 (.mv (.t 0)) 17 false, oG 19 (.idxs (.t 18) (.c (.d (.int .i64 1)))) 17 false, oG 20 (.bin .gtr (.t 19) (.c (.d (.int .u8 51)))) 17 false, oM 21 (.pick (.t 17) (.c (.d (.bool true))) (.t 20))] []) (.cond (.t 21) (.seq (.region false [ oM 2 (.mv (.c (.d (.int .i64 0)))), oM 3 (.mv (.c (.d (.bool false))))] []) .ret) .skip)) (.seq (.region false [ oM 22 (.mv (.t 0)), oM 23 (.idxs (.t 22) (.c (.d (.int .i64 1)))), oM 24 (.bin .and (.t 23) (.c (.d (.int .u8 3)))), oM 25 (.cvi .i64 (.t 24)), oM 2 (.mv (.t 25)), oM 3 (.mv (.c (.d (.bool true))))] []) .ret)))
theorem ac127_ok : Tryz.f127.body.bind (cCode Tryz.prog Tryz.f127.ntmps) = some ac127 := by kernel_rfl
-- 128 (*jacquard/parse.parser).right
def ac128 : ACode := (.block 0 (.seq (.region false [ oM 51 (.mv (.t 0)), oM 52 (.callf 32 [(.t 51), (.c (.d (.str [108, 111, 97, 100])))]), oM 50 (.mv (.t 52))] []) (.cond (.t 50) (.region false [ oM 53 (.mv (.t 1)), oM 54 (.mv (.t 1)), oM 55 (.mv (.t 0)), oM 56 (.callf 87 [(.t 55), (.c (.fn 88 []))]), oM 57 (.nilck (.t 53)), oM 58 (.faddr (.t 57) 0), ⟨none, .store 1 (.t 58) (.c (.d (.int .i64 2))), none⟩, oM 59 (.nilck (.t 54)), oM 60 (.faddr (.t 59) 2), ⟨none, .store 1 (.t 60) (.t 56), none⟩] []) (.seq (.region false [ oM 62 (.mv (.t 0)), oM 63 (.callf 32 [(.t 62), (.c (.d (.str [99, 97, 115])))]), oM 61 (.mv (.t 63))] []) (.cond (.t 61) (.seq (.region false [ oM 64 (.mv (.t 1)), oM 65 (.mv (.t 1)), oM 66 (.mv (.t 0)), oM 67 (.callf 87 [(.t 66), (.c (.fn 88 []))]), oM 68 (.nilck (.t 64)), oM 69 (.faddr (.t 68) 0), ⟨none, .store 1 (.t 69) (.c (.d (.int .i64 4))), none⟩, oM 70 (.nilck (.t 65)), oM 71 (.faddr (.t 70) 2), ⟨none, .store 1 (.t 71) (.t 67), none⟩] []) (.seq (.region false [ oM 72 (.mv (.t 1)), oM 73 (.mv (.t 0)), oM 74 (.callf 126 [(.t 73)]), oM 75 (.nilck (.t 72)), oM 76 (.faddr (.t 75) 3), ⟨none, .store 2 (.t 76) (.t 74), none⟩] []) (.region false [ oM 77 (.mv (.t 1)), oM 78 (.mv (.t 0)), oM 79 (.callf 126 [(.t 78)]), oM 80 (.nilck (.t 77)), oM 81 (.faddr (.t 80) 6), ⟨none, .store 2 (.t 81) (.t 79), none⟩] []))) (.seq (.region false [ oM 6 (.mv (.t 1)), oM 7 (.mv (.t 1)), oM 8 (.mv (.t 1)), oM 9 (.mv (.t 0)), oM 10 (.callf 126 [(.t 9)]), oM 11 (.build [.d (.int .i64 0), .d (.int .i64 0)] [(0, 1, (.c (.d (.int .i64 (-1)))))]), oM 12 (.nilck (.t 6)), oM 13 (.faddr (.t 12) 0), ⟨none, .store 1 (.t 13) (.c (.d (.int .i64 5))), none⟩, oM 14 (.nilck (.t 7)), oM 15 (.faddr (.t 14) 3), ⟨none, .store 2 (.t 15) (.t 10), none⟩, oM 16 (.nilck (.t 8)), oM 17 (.faddr (.t 16) 6), ⟨none, .store 2 (.t 17) (.t 11), none⟩] []) (.seq (.seq (.region false [ oM 18 (.mv (.t 0)), oM 19 (.callf 36 [(.t 18)]), oM 20 (.un .not (.t 19)), oM 21 (.mv (.t 20)), oG 22 (.mv (.t 0)) 21 false, oG 23 (.nilck (.t 22)) 21 false, oG 24 (.faddr (.t 23) 1) 21 false, oG 25 (.faddr (.t 24) 0) 21 false, oG 26 (.load none (.t 25)) 21 false, oG 27 (.bin .neq (.t 26) (.c (.d (.int .i64 3)))) 21 false, oM 28 (.pick (.t 21) (.c (.d (.bool true))) (.t 27))] []) (.cond (.t 28) .ret .skip)) (.seq (.region false [ oM 30 (.mv (.t 0)), oM 31 (.nilck (.t 30)), oM 32 (.faddr (.t 31) 1), oM 33 (.faddr (.t 32) 1), oM 34 (.load none (.t 33)), oM 35 (.callf 141 [(.t 34)]), oM 29 (.mv (.t 35)), oM 36 (.ext (.t 29) 0), oM 37 (.ext (.t 29) 1), oM 4 (.mv (.t 36)), oM 5 (.mv (.t 37))] []) (.seq (.region false [ oM 38 (.mv (.t 5))] []) (.cond (.t 38) (.seq (.region false [ oM 39 (.mv (.t 0)), oM 40 (.callf 29 [(.t 39)])] []) (.region false [ oM 41 (.mv (.t 1)), oM 42 (.mv (.t 1)), oM 43 (.mv (.t 4)), oM 44 (.mv (.t 0)), oM 45 (.callf 126 [(.t 44)]), oM 46 (.nilck (.t 41)), oM 47 (.faddr (.t 46) 5), ⟨none, .store 1 (.t 47) (.t 43), none⟩, oM 48 (.nilck (.t 42)), oM 49 (.faddr (.t 48) 6), ⟨none, .store 2 (.t 49) (.t 45), none⟩] [])) .skip))))))))))
theorem ac128_ok : Tryz.f128.body.bind (cCode Tryz.prog Tryz.f128.ntmps) = some ac128 := by kernel_rfl
-- 129 jacquard/jacquardref2.reg
def ac129 : ACode := (.seq (.region false [ oM 2 (.mv (.c (.d (.int .i64 0))))] []) (.seq (.seq (.region false [ oM 3 (.mv (.t 0)), oM 4 (.lens (.t 3)), oM 5 (.bin .eql (.t 4) (.c (.d (.int .i64 2)))), oM 6 (.mv (.t 5)), oG 7 (.mv (.t 0)) 6 true, oG 8 (.idxs (.t 7) (.c (.d (.int .i64 0)))) 6 true, oG 9 (.bin .eql (.t 8) (.c (.d (.int .u8 114)))) 6 true, oM 10 (.pick (.t 6) (.t 9) (.c (.d (.bool false)))), oM 11 (.mv (.t 10)), oG 12 (.mv (.t 0)) 11 true, oG 13 (.idxs (.t 12) (.c (.d (.int .i64 1)))) 11 true, oG 14 (.bin .geq (.t 13) (.c (.d (.int .u8 48)))) 11 true, oM 15 (.pick (.t 11) (.t 14) (.c (.d (.bool false)))), oM 16 (.mv (.t 15)), oG 17 (.mv (.t 0)) 16 true, oG 18 (.idxs (.t 17) (.c (.d (.int .i64 1)))) 16 true, oG 19 (.bin .leq (.t 18) (.c (.d (.int .u8 51)))) 16 true, oM 20 (.pick (.t 16) (.t 19) (.c (.d (.bool false))))] []) (.cond (.t 20) (.seq (.region false [ oM 21 (.mv (.t 0)), oM 22 (.idxs (.t 21) (.c (.d (.int .i64 1)))), oM 23 (.bin .sub (.t 22) (.c (.d (.int .u8 48)))), oM 24 (.cvi .i64 (.t 23)), oM 2 (.mv (.t 24))] []) .ret) .skip)) (.seq (.region false [ oM 2 (.mv (.c (.d (.int .i64 (-1)))))] []) .ret)))
theorem ac129_ok : Tryz.f129.body.bind (cCode Tryz.prog Tryz.f129.ntmps) = some ac129 := by kernel_rfl
end Go.Proofs.YtpfbljkfbjjlkaaGreatDoor

/- A test as plain data, and its cells. -/
namespace Go.Proofs.YtpfbljkfbjjlkaaGreatDoor
open Go Go.Jq
structure Atom where
  thread : Int
  reg : Int
  loc : Int
  value : Int
def Atom.cells (a : Atom) : List DV := [.int .i64 a.thread, .int .i64 a.reg, .int .i64 a.loc, .int .i64 a.value]
structure Opnd where
  reg : Int
  value : Int
def Opnd.cells (o : Opnd) : List DV := [.int .i64 o.reg, .int .i64 o.value]
structure Ins where
  kind : Int
  reg : Int
  loc : Int
  a : Opnd
  op : Int
  b : Opnd
  n : Int
def Ins.cells (i : Ins) : List DV := [.int .i64 i.kind, .int .i64 i.reg, .int .i64 i.loc, .int .i64 i.a.reg, .int .i64 i.a.value, .int .i64 i.op, .int .i64 i.b.reg, .int .i64 i.b.value, .int .i64 i.n]
structure Init where
  loc : Int
  value : Int
def Init.cells (i : Init) : List DV := [.int .i64 i.loc, .int .i64 i.value]
structure Test where
  name : List UInt8
  inits : List Init
  threads : List (List Ins)
  kind : Int
  rows : List (List Atom)
def IsTest (t : Test) (cs : List DV) : Prop := ∃ I T A, cs = [.str t.name, I, T, .int .i64 t.kind, A] ∧ IsSl Init.cells t.inits I ∧ IsSl2 Ins.cells t.threads T ∧ IsSl2 Atom.cells t.rows A
theorem init_len (i : Init) : (Init.cells i).length = 2 := rfl
theorem ins_len (i : Ins) : (Ins.cells i).length = 9 := rfl
theorem atom_len (i : Atom) : (Atom.cells i).length = 4 := rfl
end Go.Proofs.YtpfbljkfbjjlkaaGreatDoor

/- Texts of tests, tests that may be, the test made of numbers: plain Lean, no program in sight. -/
namespace Go.Proofs.YtpfbljkfbjjlkaaGreatDoor
open Go Go.Jq
set_option maxRecDepth 100000
set_option linter.unusedSimpArgs false
def signsT : List (List UInt8) := [[], [43], [45], [42], [38], [124], [94], [60, 60], [62, 62], [61, 61], [33, 61], [60]]
def signT (op : Int) : List UInt8 := if 1 ≤ op ∧ op ≤ 11 then signsT.getD op.toNat [] else []
def isLocB (n : Int) : Bool := decide (97 ≤ n) && decide (n ≤ 122)
theorem isLocB_iff (x : Int) : isLocB x = true ↔ 97 ≤ x ∧ x ≤ 122 := by simp [isLocB]
def isRegB (n : Int) : Bool := decide (0 ≤ n) && decide (n < 4)
def isOpB (o : Opnd) : Bool := decide (o.reg = -1) || (isRegB o.reg && decide (o.value = 0))
def wordAt (i : Nat) (c : UInt8) : Bool := (decide (97 ≤ c.toNat) && decide (c.toNat ≤ 122)) || (decide (i ≠ 0) && decide (48 ≤ c.toNat) && decide (c.toNat ≤ 57))
def isWordB (s : List UInt8) : Bool := (List.range s.length).all (fun i => wordAt i (s.getD i 0)) && decide (s ≠ [])
theorem isWord_at (s : List UInt8) {i : Nat} (hi : i < s.length) (h : wordAt i (s.getD i 0) = false) : isWordB s = false := by
  have : (List.range s.length).all (fun i => wordAt i (s.getD i 0)) = false := by
    rw [List.all_eq_false]
    exact ⟨i, List.mem_range.2 hi, by rw [h]; decide⟩
  unfold isWordB
  rw [this]
  rfl
theorem isWord_all (s : List UInt8) (h : ∀ i, i < s.length → wordAt i (s.getD i 0) = true) : isWordB s = decide (s ≠ []) := by
  have : (List.range s.length).all (fun i => wordAt i (s.getD i 0)) = true := by
    rw [List.all_eq_true]
    exact fun i hi => h i (List.mem_range.1 hi)
  unfold isWordB
  rw [this]
  rfl
def eqIns (x w : Ins) : Bool := decide (x.kind = w.kind) && (decide (x.reg = w.reg) && (decide (x.loc = w.loc) && (decide (x.a.reg = w.a.reg) && (decide (x.a.value = w.a.value) && (decide (x.op = w.op) && (decide (x.b.reg = w.b.reg) && (decide (x.b.value = w.b.value) && (decide (x.n = w.n) && true))))))))
def okInsB (x : Ins) : Bool :=
  if x.kind = 1 then (isLocB x.loc && isOpB x.a) && eqIns x ⟨x.kind, 0, x.loc, x.a, 0, ⟨0, 0⟩, 0⟩
  else if x.kind = 2 then (isLocB x.loc && isRegB x.reg) && eqIns x ⟨x.kind, x.reg, x.loc, ⟨0, 0⟩, 0, ⟨0, 0⟩, 0⟩
  else if x.kind = 3 then eqIns x ⟨x.kind, 0, 0, ⟨0, 0⟩, 0, ⟨0, 0⟩, 0⟩
  else if x.kind = 4 then (isLocB x.loc && isRegB x.reg && isOpB x.a && isOpB x.b) && eqIns x ⟨x.kind, x.reg, x.loc, x.a, 0, x.b, 0⟩
  else if x.kind = 5 then (isRegB x.reg && isOpB x.a && isOpB x.b && decide (0 ≤ x.op) && decide (x.op ≤ 11) && (decide (0 < x.op) || (decide (x.b.reg = -1) && decide (x.b.value = 0)))) && eqIns x ⟨x.kind, x.reg, 0, x.a, x.op, x.b, 0⟩
  else if x.kind = 6 then (decide (0 ≤ x.n) && isOpB x.a && isOpB x.b) && eqIns x ⟨x.kind, 0, 0, x.a, 0, x.b, x.n⟩
  else false
def okAtomB (a : Atom) : Bool := if a.thread = -1 then decide (a.reg = 0) && isLocB a.loc else decide (0 ≤ a.thread) && decide (a.thread ≤ 9) && decide (a.loc = 0) && isRegB a.reg
def badRowB (l : List Atom) : Bool := decide (l.length = 0) || l.any fun a => !okAtomB a
def okCondB (kind : Int) (rows : List (List Atom)) : Bool :=
  if kind = 0 then decide (rows.length = 0) else (decide (kind = 1) || decide (kind = 2)) && decide (0 < rows.length) && !rows.any badRowB
def badThreadB (l : List Ins) : Bool := l.any fun x => !okInsB x
def badInitB (l : List Init) : Bool := l.any fun x => !isLocB x.loc
def okB (t : Test) : Bool := isWordB t.name && !badInitB t.inits && !t.threads.any badThreadB && okCondB t.kind t.rows
def locT (n : Int) : List UInt8 := (Utf8.encode (IntKind.i32.wrap n)).data.toList
def regT (n : Int) : List UInt8 := [114] ++ Lib.itoa n
def opT (o : Opnd) : List UInt8 := if o.reg = -1 then Lib.itoa o.value else regT o.reg
def partsI (x : Ins) : List (List UInt8) :=
  if x.kind = 1 then [[115, 116, 111, 114, 101], locT x.loc, opT x.a]
  else if x.kind = 2 then [regT x.reg, [61], [108, 111, 97, 100], locT x.loc]
  else if x.kind = 3 then [[102, 101, 110, 99, 101]]
  else if x.kind = 4 then [regT x.reg, [61], [99, 97, 115], locT x.loc, opT x.a, opT x.b]
  else if x.kind = 5 then [regT x.reg, [61], opT x.a] ++ (if 0 < x.op then [signT x.op, opT x.b] else [])
  else [[115, 107, 105, 112], Lib.itoa x.n, [105, 102], opT x.a, [61, 61], opT x.b]
def insT (x : Ins) : List UInt8 := if okInsB x then Lib.join (partsI x ++ [[59]]) [32] else []
def I64i (x : Ins) : Prop := I64 x.reg ∧ I64 x.a.reg ∧ I64 x.a.value ∧ I64 x.b.reg ∧ I64 x.b.value ∧ I64 x.n
theorem utf8_len (n : Int) : (Utf8.encode n).data.toList.length ≤ 4 := by
  unfold Utf8.encode
  simp only
  repeat' split
  all_goals simp
theorem join_len (sep : List UInt8) : ∀ (l : List (List UInt8)) (k : Nat), (∀ s ∈ l, s.length ≤ k) → (Lib.join l sep).length ≤ l.length * (k + sep.length)
  | [], _, _ => by simp [Lib.join]
  | [s], k, h => by
    have := h s (by simp)
    simp [Lib.join, List.intercalate]
    omega
  | s :: s' :: l, k, h => by
    have h1 := h s (by simp)
    have h2 := join_len sep (s' :: l) k (fun x hx => h x (List.mem_cons_of_mem _ hx))
    have e : Lib.join (s :: s' :: l) sep = s ++ sep ++ Lib.join (s' :: l) sep := by simp [Lib.join, List.intercalate]
    rw [e, List.length_append, List.length_append]
    simp only [List.length_cons] at h2 ⊢
    rw [Nat.succ_mul]
    omega
theorem regT_len {n : Int} (h : I64 n) : (regT n).length ≤ 21 := by
  have := itoa_len h
  simp [regT]; omega
theorem opT_len {o : Opnd} (h : I64 o.value) (h' : I64 o.reg) : (opT o).length ≤ 21 := by
  unfold opT
  split
  · have := itoa_len h; omega
  · exact regT_len h'
theorem signT_len (op : Int) : (signT op).length ≤ 2 := by
  unfold signT
  split
  · obtain ⟨q, rfl⟩ : ∃ q : Nat, op = q := ⟨op.toNat, by omega⟩
    have : q < 12 := by omega
    match q, this with
    | 0, _ | 1, _ | 2, _ | 3, _ | 4, _ | 5, _ | 6, _ | 7, _ | 8, _ | 9, _ | 10, _ | 11, _ => simp [signsT]
  · simp
theorem partsI_len {x : Ins} (h : I64i x) : (partsI x).length ≤ 6 ∧ ∀ s ∈ partsI x ++ [[59]], s.length ≤ 21 := by
  obtain ⟨h1, h2, h3, h4, h5, h6⟩ := h
  have l1 := regT_len h1
  have l2 := opT_len h3 h2
  have l3 := opT_len h5 h4
  have l4 := itoa_len h6
  have l5 : (locT x.loc).length ≤ 4 := utf8_len _
  have l6 := signT_len x.op
  have l4' : (Lib.itoa x.n).length ≤ 21 := by omega
  have l5' : (locT x.loc).length ≤ 21 := by omega
  have l6' : (signT x.op).length ≤ 21 := by omega
  unfold partsI
  by_cases k1 : x.kind = 1
  · rw [if_pos k1]; exact ⟨by simp, by simp only [List.forall_mem_append, List.forall_mem_cons]; simp [l2, l5']⟩
  rw [if_neg k1]
  by_cases k2 : x.kind = 2
  · rw [if_pos k2]; exact ⟨by simp, by simp only [List.forall_mem_append, List.forall_mem_cons]; simp [l1, l5']⟩
  rw [if_neg k2]
  by_cases k3 : x.kind = 3
  · rw [if_pos k3]; exact ⟨by simp, by simp only [List.forall_mem_append, List.forall_mem_cons]; simp⟩
  rw [if_neg k3]
  by_cases k4 : x.kind = 4
  · rw [if_pos k4]; exact ⟨by simp, by simp only [List.forall_mem_append, List.forall_mem_cons]; simp [l1, l2, l3, l5']⟩
  rw [if_neg k4]
  by_cases k5 : x.kind = 5
  · rw [if_pos k5]
    by_cases k6 : 0 < x.op
    · rw [if_pos k6]; exact ⟨by simp, by simp only [List.forall_mem_append, List.forall_mem_cons]; simp [l1, l2, l3, l6']⟩
    · rw [if_neg k6]; exact ⟨by simp, by simp only [List.forall_mem_append, List.forall_mem_cons]; simp [l1, l2]⟩
  rw [if_neg k5]; exact ⟨by simp, by simp only [List.forall_mem_append, List.forall_mem_cons]; simp [l2, l3, l4']⟩
theorem insT_join {x : Ins} (h : I64i x) : (Lib.join (partsI x ++ [[59]]) [32]).length ≤ 154 := by
  obtain ⟨h1, h2⟩ := partsI_len h
  have := join_len [32] (partsI x ++ [[59]]) 21 h2
  simp only [List.length_append, List.length_singleton] at this
  have h3 : ((partsI x).length + 1) * 22 ≤ 7 * 22 := Nat.mul_le_mul_right _ (by omega)
  omega
theorem insT_len {x : Ins} (h : I64i x) : (insT x).length ≤ 154 := by
  unfold insT
  split
  · exact insT_join h
  · simp
def atomT (a : Atom) : List UInt8 := (if a.thread = -1 then locT a.loc else Lib.itoa a.thread ++ [32, 58, 32] ++ regT a.reg) ++ [32, 61, 32] ++ Lib.itoa a.value
def rowT (l : List Atom) : List UInt8 := Lib.join (l.map atomT) [32, 38, 32]
def wordT (kind : Int) : List UInt8 := if kind = 2 then [102, 111, 114, 97, 108, 108, 32] else [101, 120, 105, 115, 116, 115, 32]
def condT (kind : Int) (rows : List (List Atom)) : List UInt8 :=
  if kind = 0 ∨ okCondB kind rows = false then [] else wordT kind ++ Lib.join (rows.map rowT) [32, 124, 32] ++ [32, 59]
def I64a (a : Atom) : Prop := I64 a.thread ∧ I64 a.reg ∧ I64 a.value
def FewC (rows : List (List Atom)) : Prop := rows.length ≤ 12 ∧ ∀ l ∈ rows, l.length ≤ 12 ∧ ∀ a ∈ l, I64a a
theorem atomT_len {a : Atom} (h : I64a a) : (atomT a).length ≤ 67 := by
  have h1 := itoa_len h.1
  have h2 := regT_len h.2.1
  have h3 := itoa_len h.2.2
  have h4 : (locT a.loc).length ≤ 4 := utf8_len _
  unfold atomT
  split <;> simp <;> omega
def initL (x : Init) : List UInt8 := locT x.loc ++ [32, 61, 32] ++ Lib.itoa x.value ++ [32, 59] ++ [10]
def insL (x : Ins) : List UInt8 := insT x ++ [10]
def threadL (l : List Ins) : List UInt8 := [116, 104, 114, 101, 97, 100, 32, 123, 10] ++ l.flatMap insL ++ [125, 10]
theorem flat_len {α : Type} (f : α → List UInt8) (k : Nat) : ∀ (l : List α), (∀ x ∈ l, (f x).length ≤ k) → (l.flatMap f).length ≤ l.length * k
  | [], _ => by simp
  | x :: l, h => by
    have h1 := h x (by simp)
    have h2 := flat_len f k l (fun y hy => h y (List.mem_cons_of_mem _ hy))
    simp only [List.flatMap_cons, List.length_append, List.length_cons, Nat.succ_mul]
    omega
theorem flat_take {α : Type} (f : α → List UInt8) {l : List α} {i : Nat} (h : i < l.length) : (l.take (i + 1)).flatMap f = (l.take i).flatMap f ++ f l[i] := by
  rw [List.take_succ_eq_append_getElem h, List.flatMap_append]
  simp
theorem initL_len {x : Init} (h : I64 x.value) : (initL x).length ≤ 30 := by
  have h1 := itoa_len h
  have h4 : (locT x.loc).length ≤ 4 := utf8_len _
  simp only [initL, List.length_append, List.length_cons, List.length_nil]
  omega
theorem insL_len {x : Ins} (h : I64i x) : (insL x).length ≤ 155 := by
  have h1 := insT_len h
  simp only [insL, List.length_append, List.length_cons, List.length_nil]
  omega
structure FewT (t : Test) : Prop where
  name : t.name.length ≤ 61
  inits : t.inits.length ≤ 41
  values : ∀ x ∈ t.inits, I64 x.value
  threads : t.threads.length ≤ 7
  ins : ∀ l ∈ t.threads, l.length ≤ 30 ∧ ∀ x ∈ l, I64i x
  rows : FewC t.rows
def headL (t : Test) : List UInt8 := [116, 101, 115, 116, 32] ++ t.name ++ [32, 123] ++ [10]
def initsL (l : List Init) : List UInt8 := if l = [] then [] else [105, 110, 105, 116, 32, 123, 10] ++ l.flatMap initL ++ [125, 10]
def condL (t : Test) : List UInt8 := if condT t.kind t.rows = [] then [] else condT t.kind t.rows ++ [10]
def testT (t : Test) : List UInt8 := if okB t then headL t ++ initsL t.inits ++ t.threads.flatMap threadL ++ condL t ++ [125, 10] else []
end Go.Proofs.YtpfbljkfbjjlkaaGreatDoor

/- Signs of numbers. -/
namespace Go.Proofs.YtpfbljkfbjjlkaaGreatDoor
open Go Go.Jq
set_option maxRecDepth 100000
set_option linter.unusedSimpArgs false
theorem signs_pure : Pure Tryz.prog 133 [] (.agg (signsT.map fun s => .d (.str s))) := by
  refine acalls_of Tryz.func133 ac133_ok Tryz.ntmps133 Tryz.results133 rfl ?_
  unfold ac133
  refine bwp_seq fun K hK => bwp_region rfl ?_
  simp -implicitDefEqProofs only [go_sem, ↓reduceIte]
  refine hK _ ?_; clear hK
  refine bwp_seq fun K hK => bwp_region rfl ?_
  simp -implicitDefEqProofs only [go_sem, ↓reduceIte]
  refine hK _ ?_; clear hK
  refine bwp_ret ?_
  simp only [go_sem]
  refine aend_mem (.agg (signsT.map fun s => .d (.str s))) [] [] ?_ rfl rfl trivial ⟨rfl, rfl⟩
  rfl
end Go.Proofs.YtpfbljkfbjjlkaaGreatDoor

/- Signs to ops. -/
namespace Go.Proofs.YtpfbljkfbjjlkaaGreatDoor
open Go Go.Jq
set_option maxRecDepth 100000
set_option linter.unusedSimpArgs false
def opFrom (s : List UInt8) (i : Nat) : Nat → Int × Bool
  | 0 => (0, false)
  | f + 1 => if 0 < i ∧ signsT.getD i [] = s then (i, true) else opFrom s (i + 1) f
def opW (s : List UInt8) : Int × Bool := opFrom s 0 12
theorem opFrom_hit {s : List UInt8} {i f : Nat} (h : 0 < i) (h2 : signsT.getD i [] = s) (hf : 0 < f) : opFrom s i f = ((i : Int), true) := by
  cases f with
  | zero => omega
  | succ f => rw [opFrom, if_pos ⟨h, h2⟩]
theorem opFrom_miss {s : List UInt8} {i f : Nat} (h : ¬ (0 < i ∧ signsT.getD i [] = s)) (hf : 0 < f) : opFrom s i f = opFrom s (i + 1) (f - 1) := by
  cases f with
  | zero => omega
  | succ f => rw [opFrom, if_neg h]; rfl
def sgAV : List AV := signsT.map fun s => .d (.str s)
theorem sg_at {i : Nat} (hi : i < 12) : sgAV[i]? = some (.d (.str (signsT.getD i []))) := by
  have key : ∀ q : Fin 12, sgAV[q.1]? = some (.d (.str (signsT.getD q.1 []))) := by
    intro q
    match q with
    | ⟨0, _⟩ => rfl | ⟨1, _⟩ => rfl | ⟨2, _⟩ => rfl | ⟨3, _⟩ => rfl | ⟨4, _⟩ => rfl | ⟨5, _⟩ => rfl | ⟨6, _⟩ => rfl | ⟨7, _⟩ => rfl | ⟨8, _⟩ => rfl | ⟨9, _⟩ => rfl | ⟨10, _⟩ => rfl | ⟨11, _⟩ => rfl
  exact key ⟨i, hi⟩
def opS (s : List UInt8) (i : Nat) : St := ⟨[(7, .d (.int .i64 i)), (6, .agg sgAV), (0, .d (.str s))], [], 0⟩
set_option maxHeartbeats 4000000 in
theorem op_pure (s : List UInt8) : Pure Tryz.prog 141 [.d (.str s)] (.tup [.d (.int .i64 (opW s).1), .d (.bool (opW s).2)]) := by
  refine acalls_of Tryz.func141 ac141_ok Tryz.ntmps141 Tryz.results141 rfl ?_
  unfold ac141
  refine bwp_seq fun K hK => bwp_region rfl ?_
  simp only [go_sem, ↓reduceIte]
  refine hK _ ?_; clear hK
  refine bwp_seq fun K0 hK0 => ?_
  refine bwp_seq fun K hK => bwp_region rfl ?_
  simp only [go_sem, ↓reduceIte]
  refine callK_pure signs_pure rfl rfl ?_
  simp only [go_sem, ↓reduceIte]
  refine hK _ ?_; clear hK
  refine bwp_block ?_
  have hren : renL (fun _ => none) (signsT.map fun s => AV.d (DV.str s)) = signsT.map fun s => AV.d (DV.str s) := rfl
  refine bwp_leads (S' := opS s 0) (Leads.ent [] ⟨by simp [entT, fget, AV.ren, renL, pget, opS, sgAV, hren], by simp [entM, pinv, mget, mset, renL, AV.ren, pget, renL_append, -List.map_map, opS, sgAV, hren], rfl, rfl⟩) ?_
  refine bwp_countI (fun i => opS s i) (fun i => i ≤ 12 ∧ opW s = opFrom s i (12 - i)) 12 ⟨by omega, rfl⟩ ?_
  rintro i hi ⟨_, hp⟩
  have hrA : renL (fun _ => none) sgAV = sgAV := rfl
  unfold ac141L0 opS
  by_cases hlt : i < 12
  · have hlt' : (i : Int) < 12 := by omega
    have hcell := sg_at hlt
    have hi0 : (0 : Int) ≤ (i : Int) := Int.natCast_nonneg _
    have hw : IntKind.i64.wrap ((i : Int) + 1) = ((i + 1 : Nat) : Int) := by rw [wrap_id (by unfold I64; omega)]; rfl
    have hlen : sgAV.length = 12 := rfl
    have hmiss : ¬ (0 < i ∧ signsT.getD i [] = s) → opW s = opFrom s (i + 1) (12 - (i + 1)) := fun h => by
      rw [hp, opFrom_miss h (by omega)]; congr 1
    refine bwp_seq fun K hK => bwp_region rfl ?_
    simp only [go_sem, ↓reduceIte, hlt']
    refine hK _ ?_; clear hK
    refine bwp_seq fun K1 hK1 => ?_
    refine bwp_cond true (by simp [ev, fget]) (fun _ => ?_) (fun h => nomatch h)
    refine bwp_skip ?_
    refine hK1 _ ?_; clear hK1
    refine bwp_seq fun K1 hK1 => ?_
    refine bwp_block ?_
    refine bwp_seq fun K hK => bwp_region rfl ?_
    simp only [go_sem, ↓reduceIte, hi0, hlt', hlt, Int.toNat_natCast, List.getElem?_drop, Nat.mul_one, Nat.add_zero, hcell, hlen]
    refine hK _ ?_; clear hK
    by_cases h0 : i = 0
    · have hn0 : ¬ (0 : Int) < (i : Int) := by omega
      refine bwp_seq fun K hK => bwp_region rfl ?_
      simp only [go_sem, ↓reduceIte, hn0]
      refine hK _ ?_; clear hK
      refine bwp_cond false (by simp [ev, fget]) (fun h => nomatch h) (fun _ => ?_)
      refine bwp_skip ?_
      refine hK1 _ ?_; clear hK1
      refine bwp_region rfl ?_
      simp only [go_sem, ↓reduceIte, hw]
      refine ⟨by omega, ⟨by omega, hmiss (by omega)⟩, Leads.ent [] ⟨by simp [opS, entT, fget, AV.ren, pget, hrA], by simp [opS, entM], rfl, rfl⟩⟩
    · have h1 : (0 : Int) < (i : Int) := by omega
      by_cases h2 : signsT.getD i [] = s
      · refine bwp_seq fun K hK => bwp_region rfl ?_
        simp only [go_sem, ↓reduceIte, h1, h2]
        refine hK _ ?_; clear hK
        refine bwp_cond true (by simp [ev, fget]) (fun _ => ?_) (fun h => nomatch h)
        refine bwp_seq fun K hK => bwp_region rfl ?_
        simp only [go_sem, ↓reduceIte]
        refine hK _ ?_; clear hK
        refine bwp_ret ?_
        simp only [go_sem]
        refine aend_ret _ rfl rfl ⟨?_, rfl⟩
        have := opFrom_hit (s := s) (i := i) (f := 12 - i) (by omega) h2 (by omega)
        simp [fget, hp, this]
      · refine bwp_seq fun K hK => bwp_region rfl ?_
        simp only [go_sem, ↓reduceIte, h1, h2]
        refine hK _ ?_; clear hK
        refine bwp_cond false (by simp [ev, fget]) (fun h => nomatch h) (fun _ => ?_)
        refine bwp_skip ?_
        refine hK1 _ ?_; clear hK1
        refine bwp_region rfl ?_
        simp only [go_sem, ↓reduceIte, hw]
        refine ⟨by omega, ⟨by omega, hmiss (fun h => h2 h.2)⟩, Leads.ent [] ⟨by simp [opS, entT, fget, AV.ren, pget, hrA], by simp [opS, entM], rfl, rfl⟩⟩
  · have hlt' : ¬ (i : Int) < 12 := by omega
    have hin : i = 12 := by omega
    subst hin
    refine bwp_seq fun K hK => bwp_region rfl ?_
    simp only [go_sem, ↓reduceIte, hlt']
    refine hK _ ?_; clear hK
    refine bwp_seq fun K1 hK1 => ?_
    refine bwp_cond false (by simp [ev, fget]) (fun h => nomatch h) (fun _ => ?_)
    refine bwp_exit ?_
    simp only [go_sem, ↓reduceIte]
    refine hK0 _ ?_; clear hK0
    refine bwp_seq fun K hK => bwp_region rfl ?_
    simp only [go_sem, ↓reduceIte]
    refine hK _ ?_; clear hK
    refine bwp_ret ?_
    simp only [go_sem]
    refine aend_ret _ rfl rfl ⟨?_, rfl⟩
    simp [fget, hp, opFrom]
def signCells : List AV := [AV.d (DV.str [43]), AV.d (DV.str [45]), AV.d (DV.str [42]), AV.d (DV.str [38]), AV.d (DV.str [124]), AV.d (DV.str [94]), AV.d (DV.str [60, 60]), AV.d (DV.str [62, 62]), AV.d (DV.str [61, 61]), AV.d (DV.str [33, 61]), AV.d (DV.str [60])]
theorem refSigns_calls : ACalls Tryz.prog 117 [] [] fun r m' => r = .sl 0 1 0 11 ∧ m' = [(0, signCells)] := by
  refine acalls_of Tryz.func117 ac117_ok Tryz.ntmps117 Tryz.results117 rfl ?_
  unfold ac117
  refine bwp_seq fun K hK => bwp_region rfl ?_
  simp only [go_sem, ↓reduceIte]
  refine hK _ ?_; clear hK
  refine bwp_seq fun K hK => bwp_region rfl ?_
  simp only [go_sem, ↓reduceIte]
  refine hK _ ?_; clear hK
  refine bwp_ret ?_
  simp only [go_sem]
  refine aend_mem (.sl 0 1 0 11) [(0, 0)] [(0, signCells)] rfl rfl rfl ?_ ⟨rfl, rfl⟩
  simp [entM, pinv, mget, mset, renL, AV.ren, signCells]
theorem refSign_pure (op : Int) : Pure Tryz.prog 84 [.d (.int .i64 op)] (.d (.str (signT op))) := by
  refine acalls_of Tryz.func84 ac84_ok Tryz.ntmps84 Tryz.results84 rfl ?_
  unfold ac84
  refine bwp_seq fun K hK => bwp_region rfl ?_
  simp only [go_sem, ↓reduceIte]
  refine hK _ ?_; clear hK
  refine bwp_seq fun K1 hK1 => ?_
  by_cases g1 : op < 1
  · refine bwp_seq fun K hK => bwp_region rfl ?_
    simp only [go_sem, ↓reduceIte, g1]
    refine hK _ ?_; clear hK
    refine bwp_cond true (by simp [ev, fget, g1]) (fun _ => ?_) (fun h => nomatch h)
    refine bwp_seq fun K hK => bwp_region rfl ?_
    simp only [go_sem, ↓reduceIte]
    refine hK _ ?_; clear hK
    refine bwp_ret ?_
    simp only [go_sem]
    refine aend_ret _ rfl rfl ⟨?_, rfl⟩
    have : ¬ 1 ≤ op := by omega
    simp [fget, signT, this]
  by_cases g2 : 11 < op
  · refine bwp_seq fun K hK => bwp_region rfl ?_
    simp only [go_sem, ↓reduceIte, g1, g2]
    refine hK _ ?_; clear hK
    refine bwp_cond true (by simp [ev, fget, g1, g2]) (fun _ => ?_) (fun h => nomatch h)
    refine bwp_seq fun K hK => bwp_region rfl ?_
    simp only [go_sem, ↓reduceIte]
    refine hK _ ?_; clear hK
    refine bwp_ret ?_
    simp only [go_sem]
    refine aend_ret _ rfl rfl ⟨?_, rfl⟩
    have : ¬ op ≤ 11 := by omega
    simp [fget, signT, this]
  have h1 : 1 ≤ op := by omega
  have h2 : op ≤ 11 := by omega
  refine bwp_seq fun K hK => bwp_region rfl ?_
  simp only [go_sem, ↓reduceIte, g1, g2]
  refine hK _ ?_; clear hK
  refine bwp_cond false (by simp [ev, fget, g1, g2]) (fun h => nomatch h) (fun _ => ?_)
  refine bwp_skip ?_
  refine hK1 _ ?_; clear hK1
  refine bwp_seq fun K hK => bwp_region rfl ?_
  simp only [go_sem, ↓reduceIte]
  refine callK_gen [] [] [] (nb := 0) refSigns_calls rfl rfl rfl trivial rfl ?_
  rintro r0 m' ⟨rfl, rfl⟩
  obtain ⟨q, rfl⟩ : ∃ q : Nat, op = ((q + 1 : Nat) : Int) := ⟨(op - 1).toNat, by omega⟩
  have hq : q < 11 := by omega
  have hw : IntKind.i64.wrap (((q + 1 : Nat) : Int) - 1) = (q : Int) := by rw [wrap_i64 (by omega) (by omega)]; omega
  have q0 : (0 : Int) ≤ (q : Int) := Int.natCast_nonneg _
  have q1 : (q : Int) < 11 := by omega
  have hcell : signCells[q]? = some (.d (.str (signT ((q + 1 : Nat) : Int)))) := by
    have key : ∀ q : Fin 11, signCells[q.1]? = some (.d (.str (signT ((q.1 + 1 : Nat) : Int)))) := by
      intro q
      match q with
      | ⟨0, _⟩ => rfl | ⟨1, _⟩ => rfl | ⟨2, _⟩ => rfl | ⟨3, _⟩ => rfl | ⟨4, _⟩ => rfl | ⟨5, _⟩ => rfl | ⟨6, _⟩ => rfl | ⟨7, _⟩ => rfl | ⟨8, _⟩ => rfl | ⟨9, _⟩ => rfl | ⟨10, _⟩ => rfl
    exact key ⟨q, hq⟩
  have hren : renL (renOf [] [] [(0, signCells)] 0) signCells = signCells := rfl
  simp only [go_sem, ↓reduceIte, callMem, updNew, updOld, mget, mset, renOf, pget, AV.ren, Option.isSome_none, Bool.false_and, hren, hw, q0, q1, Int.toNat_natCast, Nat.mul_one, Nat.zero_add, List.getElem?_drop, Nat.add_zero, hcell, Option.map_some]
  refine hK _ ?_; clear hK
  refine bwp_ret ?_
  simp only [go_sem]
  refine aend_ret _ rfl rfl ⟨?_, rfl⟩
  simp [fget]
theorem sc_at {i : Nat} (hi : i < 11) : signCells[i]? = some (.d (.str (signsT.getD (i + 1) []))) := by
  have key : ∀ q : Fin 11, signCells[q.1]? = some (.d (.str (signsT.getD (q.1 + 1) []))) := by
    intro q
    match q with
    | ⟨0, _⟩ => rfl | ⟨1, _⟩ => rfl | ⟨2, _⟩ => rfl | ⟨3, _⟩ => rfl | ⟨4, _⟩ => rfl | ⟨5, _⟩ => rfl | ⟨6, _⟩ => rfl | ⟨7, _⟩ => rfl | ⟨8, _⟩ => rfl | ⟨9, _⟩ => rfl | ⟨10, _⟩ => rfl
  exact key ⟨i, hi⟩
def ropS (s : List UInt8) (i : Nat) : St := ⟨[(5, .d (.int .i64 i)), (4, .sl 0 1 0 11), (0, .d (.str s))], [(0, signCells)], 1⟩
set_option maxHeartbeats 4000000 in
theorem refOp_pure (s : List UInt8) : Pure Tryz.prog 95 [.d (.str s)] (.tup [.d (.int .i64 (opW s).1), .d (.bool (opW s).2)]) := by
  refine acalls_of Tryz.func95 ac95_ok Tryz.ntmps95 Tryz.results95 rfl ?_
  unfold ac95
  refine bwp_seq fun K hK => bwp_region rfl ?_
  simp only [go_sem, ↓reduceIte]
  refine hK _ ?_; clear hK
  refine bwp_seq fun K hK => bwp_region rfl ?_
  simp only [go_sem, ↓reduceIte]
  refine callK_gen [] [] [] (nb := 0) refSigns_calls rfl rfl rfl trivial rfl ?_
  rintro r0 m' ⟨rfl, rfl⟩
  have hren : renL (renOf [] [] [(0, signCells)] 0) signCells = signCells := rfl
  have hren2 : ∀ f, renL f signCells = signCells := fun _ => rfl
  simp only [go_sem, ↓reduceIte, callMem, updNew, updOld, mget, mset, renOf, pget, AV.ren, Option.isSome_none, Bool.false_and, hren]
  refine hK _ ?_; clear hK
  refine bwp_seq fun K0 hK0 => ?_
  refine bwp_seq fun K1 hK1 => ?_
  refine bwp_region rfl ?_
  simp only [go_sem, ↓reduceIte]
  refine hK1 _ ?_; clear hK1
  refine bwp_block ?_
  refine bwp_leads (S' := ropS s 0) (Leads.ent [(0, 0)] ⟨by simp [entT, fget, AV.ren, renL, pget, ropS, hren2], by simp [entM, pinv, mget, mset, renL, AV.ren, pget, renL_append, -List.map_map, ropS, hren2], rfl, rfl⟩) ?_
  refine bwp_countI (fun i => ropS s i) (fun i => i ≤ 11 ∧ opW s = opFrom s (i + 1) (11 - i)) 11 ⟨by omega, by unfold opW; rw [opFrom_miss (by omega) (by omega)]⟩ ?_
  rintro i hi ⟨_, hp⟩
  unfold ac95L0 ropS
  by_cases hlt : i < 11
  · have hlt' : (i : Int) < 11 := by omega
    have hcell := sc_at hlt
    have hi0 : (0 : Int) ≤ (i : Int) := Int.natCast_nonneg _
    have hw : IntKind.i64.wrap ((i : Int) + 1) = ((i + 1 : Nat) : Int) := by rw [wrap_id (by unfold I64; omega)]; rfl
    have hmiss : ¬ signsT.getD (i + 1) [] = s → opW s = opFrom s (i + 1 + 1) (11 - (i + 1)) := fun h => by
      rw [hp, opFrom_miss (fun h' => h h'.2) (by omega)]; congr 1
    refine bwp_seq fun K1 hK1 => ?_
    refine bwp_seq fun K hK => bwp_region rfl ?_
    simp only [go_sem, ↓reduceIte, hlt']
    refine hK _ ?_; clear hK
    refine bwp_cond true (by simp [ev, fget]) (fun _ => ?_) (fun h => nomatch h)
    refine bwp_skip ?_
    refine hK1 _ ?_; clear hK1
    refine bwp_seq fun K1 hK1 => ?_
    refine bwp_block ?_
    by_cases h2 : signsT.getD (i + 1) [] = s
    · refine bwp_seq fun K hK => bwp_region rfl ?_
      simp only [go_sem, ↓reduceIte, hi0, hlt', hlt, Int.toNat_natCast, List.getElem?_drop, Nat.mul_one, Nat.add_zero, Nat.zero_add, hcell, Option.map_some, h2]
      refine hK _ ?_; clear hK
      refine bwp_cond true (by simp [ev, fget]) (fun _ => ?_) (fun h => nomatch h)
      refine bwp_seq fun K hK => bwp_region rfl ?_
      simp only [go_sem, ↓reduceIte, hw]
      refine hK _ ?_; clear hK
      refine bwp_ret ?_
      simp only [go_sem]
      refine aend_ret _ rfl rfl ⟨?_, rfl⟩
      have := opFrom_hit (s := s) (i := i + 1) (f := 11 - i) (by omega) h2 (by omega)
      simp [fget, hp, this]
    · refine bwp_seq fun K hK => bwp_region rfl ?_
      simp only [go_sem, ↓reduceIte, hi0, hlt', hlt, Int.toNat_natCast, List.getElem?_drop, Nat.mul_one, Nat.add_zero, Nat.zero_add, hcell, Option.map_some, h2]
      refine hK _ ?_; clear hK
      refine bwp_cond false (by simp [ev, fget]) (fun h => nomatch h) (fun _ => ?_)
      refine bwp_skip ?_
      refine hK1 _ ?_; clear hK1
      refine bwp_region rfl ?_
      simp only [go_sem, ↓reduceIte, hw]
      refine ⟨by omega, ⟨by omega, hmiss h2⟩, Leads.ent [(0, 0)] ⟨by simp [ropS, entT, fget, AV.ren, pget], by simp [ropS, entM, pinv, mget, hren2], rfl, rfl⟩⟩
  · have hlt' : ¬ (i : Int) < 11 := by omega
    have hin : i = 11 := by omega
    subst hin
    refine bwp_seq fun K1 hK1 => ?_
    refine bwp_seq fun K hK => bwp_region rfl ?_
    simp only [go_sem, ↓reduceIte, hlt']
    refine hK _ ?_; clear hK
    refine bwp_cond false (by simp [ev, fget]) (fun h => nomatch h) (fun _ => ?_)
    refine bwp_exit ?_
    simp only [go_sem, ↓reduceIte]
    refine hK0 _ ?_; clear hK0
    refine bwp_seq fun K hK => bwp_region rfl ?_
    simp only [go_sem, ↓reduceIte]
    refine hK _ ?_; clear hK
    refine bwp_ret ?_
    simp only [go_sem]
    refine aend_ret _ rfl rfl ⟨?_, rfl⟩
    simp [fget, hp, opFrom]
end Go.Proofs.YtpfbljkfbjjlkaaGreatDoor

/- A parser as a tree: what is looked at, what is eaten, what is refused; a test's tree. -/
namespace Go.Proofs.YtpfbljkfbjjlkaaGreatDoor
open Go Go.Jq
set_option maxRecDepth 100000
set_option linter.unusedSimpArgs false
abbrev PE := Int × Nat
abbrev PR (α : Type) := Except PE α
def curT (s : List UInt8) (a : Nat) : Tok := (nextW s a).1
def goW (s : List UInt8) (a : Nat) : PR Nat := if (nextW s a).2.2 = 0 then .ok a else .error ((nextW s a).2.2, skipA s a)
def eatW (s : List UInt8) (a : Nat) : PR Nat := goW s (nextW s a).2.1
inductive PT (α : Type) where
  | ret (x : α)
  | bad (code : Int)
  | cur (k : Int → List UInt8 → PT α)
  | eat (k : PT α)
namespace PT
variable {α β : Type}
def bind : PT α → (α → PT β) → PT β
  | .ret x, f => f x
  | .bad c, _ => .bad c
  | .cur k, f => .cur fun d x => (k d x).bind f
  | .eat k, f => .eat (k.bind f)
def run (s : List UInt8) : PT α → Nat → PR (α × Nat)
  | .ret x, a => .ok (x, a)
  | .bad c, a => .error (c, (curT s a).pl)
  | .cur k, a => (k (curT s a).kd (curT s a).tx).run s a
  | .eat k, a => match eatW s a with
    | .ok b => k.run s b
    | .error e => .error e
theorem run_bind (s : List UInt8) (t : PT α) (f : α → PT β) : ∀ a, (t.bind f).run s a = match t.run s a with
    | .ok (x, b) => (f x).run s b
    | .error e => .error e := by
  induction t with
  | ret x => intro a; rfl
  | bad c => intro a; rfl
  | cur k ih => intro a; exact ih _ _ a
  | eat k ih =>
    intro a
    simp only [bind, run]
    cases eatW s a with
    | ok b => exact ih b
    | error e => rfl
end PT
def locN (x : List UInt8) : Option Int := if x.length = 1 then some ((x.getD 0 0).toNat : Int) else none
def regN (x : List UInt8) : Option Int := if x.length = 2 ∧ x.getD 0 0 = 114 ∧ 48 ≤ (x.getD 1 0).toNat ∧ (x.getD 1 0).toNat ≤ 51 then some (((x.getD 1 0).toNat - 48 : Nat) : Int) else none
def isK (d : Int) (y : List UInt8) (x : List UInt8) : Bool := (decide (d = 3) || decide (d = 1)) && decide (y = x)
def wStore : List UInt8 := [115, 116, 111, 114, 101]
def wFence : List UInt8 := [102, 101, 110, 99, 101]
def wSkip : List UInt8 := [115, 107, 105, 112]
def wIf : List UInt8 := [105, 102]
def wLoad : List UInt8 := [108, 111, 97, 100]
def wCas : List UInt8 := [99, 97, 115]
def wTest : List UInt8 := [116, 101, 115, 116]
def wInit : List UInt8 := [105, 110, 105, 116]
def wThread : List UInt8 := [116, 104, 114, 101, 97, 100]
def wExists : List UInt8 := [101, 120, 105, 115, 116, 115]
def wForall : List UInt8 := [102, 111, 114, 97, 108, 108]
def tTake {α : Type} (x : List UInt8) (yes no : PT α) : PT α := .cur fun d y => if isK d y x = true then .eat yes else no
def tMust (x : List UInt8) : PT Unit := .cur fun d y => if isK d y x = true then .eat (.ret ()) else .bad 6
def tWord : PT (List UInt8) := .cur fun d y => if d = 1 then .eat (.ret y) else .bad 6
def tNum : PT Int := .cur fun d y => if d = 2 then .eat (.ret (parseW y).1) else .bad 6
def tNamed (f : List UInt8 → Option Int) : PT Int := .cur fun d y => if d = 1 then (match f y with
  | some n => .eat (.ret n)
  | none => .bad 7) else .bad 6
def tOpd : PT Opnd := .cur fun d _ => if d = 2 then tNum.bind fun n => .ret ⟨-1, n⟩ else (tNamed regN).bind fun n => .ret ⟨n, 0⟩
def tRight (r : Int) : PT Ins :=
  tTake wLoad ((tNamed locN).bind fun l => .ret ⟨2, r, l, ⟨0, 0⟩, 0, ⟨0, 0⟩, 0⟩) <|
  tTake wCas ((tNamed locN).bind fun l => tOpd.bind fun x => tOpd.bind fun y => .ret ⟨4, r, l, x, 0, y, 0⟩) <|
  tOpd.bind fun x => .cur fun d y => if d = 3 ∧ (opW y).2 = true then .eat (tOpd.bind fun z => .ret ⟨5, r, 0, x, (opW y).1, z, 0⟩) else .ret ⟨5, r, 0, x, 0, ⟨-1, 0⟩, 0⟩
def tIns : PT Ins :=
  tTake wStore ((tNamed locN).bind fun l => tOpd.bind fun x => .ret ⟨1, 0, l, x, 0, ⟨0, 0⟩, 0⟩) <|
  tTake wFence (.ret ⟨3, 0, 0, ⟨0, 0⟩, 0, ⟨0, 0⟩, 0⟩) <|
  tTake wSkip (.cur fun d y => if d = 2 ∧ (parseW y).1 < 0 then .bad 6 else
    tNum.bind fun n => (tMust wIf).bind fun _ => tOpd.bind fun x => (tMust [61, 61]).bind fun _ => tOpd.bind fun y => .ret ⟨6, 0, 0, x, 0, y, n⟩) <|
  (tNamed regN).bind fun r => (tMust [61]).bind fun _ => tRight r
def tWho : PT Atom := .cur fun d y => if d = 2 then
    (if (parseW y).1 < 0 ∨ 9 < (parseW y).1 then .bad 7 else .eat ((tMust [58]).bind fun _ => (tNamed regN).bind fun r => .ret ⟨(parseW y).1, r, 0, 0⟩))
  else (tNamed locN).bind fun l => .ret ⟨-1, 0, l, 0⟩
def tAtom : PT Atom := tWho.bind fun x => (tMust [61]).bind fun _ => tNum.bind fun n => .ret { x with value := n }
def tInit : PT Init := (tNamed locN).bind fun l => (tMust [61]).bind fun _ => tNum.bind fun n => (tMust [59]).bind fun _ => .ret ⟨l, n⟩
def tInsE : PT Ins := tIns.bind fun x => (tMust [59]).bind fun _ => .ret x
def tMany {α : Type} (one : PT α) : Nat → PT (List α)
  | 0 => .bad 0
  | f + 1 => tTake [125] (.ret []) (one.bind fun x => (tMany one f).bind fun l => .ret (x :: l))
def fuelP : Nat := 4001
def tThread : PT (List Ins) := (tMust [123]).bind fun _ => tMany tInsE fuelP
def tThreads : Nat → PT (List (List Ins))
  | 0 => .bad 0
  | f + 1 => tTake wThread (tThread.bind fun x => (tThreads f).bind fun l => .ret (x :: l)) (.ret [])
def tRow : Nat → PT (List Atom)
  | 0 => .bad 0
  | f + 1 => tTake [38] (tAtom.bind fun x => (tRow f).bind fun l => .ret (x :: l)) (.ret [])
def tRows : Nat → PT (List (List Atom))
  | 0 => .bad 0
  | f + 1 => tAtom.bind fun x => (tRow fuelP).bind fun l => tTake [124] ((tRows f).bind fun r => .ret ((x :: l) :: r)) (.ret [x :: l])
def tAsk (k : Int) : PT (Int × List (List Atom)) := (tRows fuelP).bind fun r => (tMust [59]).bind fun _ => .ret (k, r)
def tCond : PT (Int × List (List Atom)) := tTake wExists (tAsk 1) (tTake wForall (tAsk 2) (.ret (0, [])))
def tInits : PT (List Init) := (tMust [123]).bind fun _ => tMany tInit fuelP
def tTest : PT Test :=
  (tMust wTest).bind fun _ => tWord.bind fun n => (tMust [123]).bind fun _ => (tTake wInit tInits (.ret [])).bind fun i => (tThreads fuelP).bind fun t => tCond.bind fun c =>
    (tMust [125]).bind fun _ => .cur fun d _ => if d = 4 then .ret ⟨n, i, t, c.1, c.2⟩ else .bad 6
def pTest (s : List UInt8) : PR Test :=
  if 4000 < s.length then .error (2, 4000)
  else match goW s 0 with
    | .ok a => (match tTest.run s a with
      | .ok (t, _) => .ok t
      | .error e => .error e)
    | .error e => .error e
theorem goW_ok {s : List UInt8} {a b : Nat} (h : goW s a = .ok b) : a = b ∧ (nextW s a).2.2 = 0 := by
  unfold goW at h
  split at h
  · rename_i h0; cases h; exact ⟨rfl, h0⟩
  · cases h
theorem goW_err {s : List UInt8} {a : Nat} {c : Int} {p : Nat} (h : goW s a = .error (c, p)) : (nextW s a).2.2 = c ∧ c ≠ 0 ∧ p = skipA s a := by
  unfold goW at h
  split at h
  · cases h
  · rename_i h0; cases h; exact ⟨rfl, h0, rfl⟩
theorem eatW_ok {s : List UInt8} {a b : Nat} (h : eatW s a = .ok b) : b = (nextW s a).2.1 ∧ (nextW s b).2.2 = 0 := by
  obtain ⟨h1, h2⟩ := goW_ok h
  subst h1
  exact ⟨rfl, h2⟩
theorem PT.run_le {α : Type} {s : List UInt8} (t : PT α) : ∀ {a : Nat} {x : α} {b : Nat}, a ≤ s.length → t.run s a = .ok (x, b) → a ≤ b ∧ b ≤ s.length := by
  induction t with
  | ret x => intro a y b ha h; simp only [run, Except.ok.injEq, Prod.mk.injEq] at h; obtain ⟨_, rfl⟩ := h; exact ⟨Nat.le_refl _, ha⟩
  | bad c => intro a y b ha h; cases h
  | cur k ih => intro a y b ha h; exact ih _ _ ha h
  | eat k ih =>
    intro a y b ha h
    simp only [run] at h
    split at h
    · rename_i b' hb
      obtain ⟨rfl, _⟩ := eatW_ok hb
      have h1 := nextW_to ha
      have := ih h1.2.1 h
      omega
    · cases h
theorem PT.run_err {α : Type} {s : List UInt8} (t : PT α) : ∀ {a : Nat} {c : Int} {p : Nat}, a ≤ s.length → (nextW s a).2.2 = 0 → t.run s a = .error (c, p) → p ≤ s.length := by
  induction t with
  | ret x => intro a c p ha h0 h; cases h
  | bad c =>
    intro a c' p ha h0 h
    simp only [run, Except.error.injEq, Prod.mk.injEq] at h
    obtain ⟨_, rfl⟩ := h
    have := next_text ha (t := curT s a) (e := (nextW s a).2.1) (by unfold curT; rw [← h0])
    rw [this.1]
    exact skipA_le ha
  | cur k ih => intro a c p ha h0 h; exact ih _ _ ha h0 h
  | eat k ih =>
    intro a c p ha h0 h
    have h1 := nextW_to ha
    simp only [run] at h
    split at h
    · rename_i b' hb
      obtain ⟨rfl, h2⟩ := eatW_ok hb
      exact ih h1.2.1 h2 h
    · rename_i e he
      cases h
      unfold eatW at he
      rw [(goW_err he).2.2]
      exact skipA_le h1.2.1
end Go.Proofs.YtpfbljkfbjjlkaaGreatDoor

/- The document's reader of tokens: over blanks and comments. -/
namespace Go.Proofs.YtpfbljkfbjjlkaaGreatDoor
open Go Go.Jq
set_option maxRecDepth 100000
set_option linter.unusedSimpArgs false
theorem u8eq {c k : UInt8} (h : (c.toNat : Int) = (k.toNat : Int)) : c = k := UInt8.toNat_inj.1 (by exact_mod_cast h)
theorem u8ne {c k : UInt8} (h : ¬ (c.toNat : Int) = (k.toNat : Int)) : c ≠ k := fun e => h (by rw [e])
theorem drop_at {s : List UInt8} {p : Nat} (h : p < s.length) : s.drop p = s.getD p 0 :: s.drop (p + 1) := by
  rw [List.drop_eq_getElem_cons h, List.getD_eq_getElem?_getD, List.getElem?_eq_getElem h, Option.getD_some]
theorem letter_pure (c : UInt8) : Pure Tryz.prog 114 [.d (.int .u8 c.toNat)] (.d (.bool (letB c))) := by
  refine acalls_of Tryz.func114 ac114_ok Tryz.ntmps114 Tryz.results114 rfl ?_
  unfold ac114
  refine bwp_seq fun K hK => bwp_region rfl ?_
  simp -implicitDefEqProofs only [go_sem, ↓reduceIte]
  refine hK _ ?_; clear hK
  by_cases h1 : (97 : Int) ≤ c.toNat
  · by_cases h2 : (c.toNat : Int) ≤ 122
    · refine bwp_seq fun K hK => bwp_region rfl ?_
      simp -implicitDefEqProofs only [go_sem, ↓reduceIte, h1, h2]
      refine hK _ ?_; clear hK
      refine bwp_ret ?_
      simp only [go_sem]
      refine aend_ret _ rfl rfl ⟨?_, rfl⟩
      have e1 : 97 ≤ c.toNat := by omega
      have e2 : c.toNat ≤ 122 := by omega
      simp [fget, letB, e1, e2]
    · refine bwp_seq fun K hK => bwp_region rfl ?_
      simp -implicitDefEqProofs only [go_sem, ↓reduceIte, h1, h2]
      refine hK _ ?_; clear hK
      refine bwp_ret ?_
      simp only [go_sem]
      refine aend_ret _ rfl rfl ⟨?_, rfl⟩
      have e2 : ¬ c.toNat ≤ 122 := by omega
      simp [fget, letB, e2]
  · refine bwp_seq fun K hK => bwp_region rfl ?_
    simp -implicitDefEqProofs only [go_sem, ↓reduceIte, h1]
    refine hK _ ?_; clear hK
    refine bwp_ret ?_
    simp only [go_sem]
    refine aend_ret _ rfl rfl ⟨?_, rfl⟩
    have e1 : ¬ 97 ≤ c.toNat := by omega
    simp [fget, letB, e1]
theorem digit_pure (c : UInt8) : Pure Tryz.prog 115 [.d (.int .u8 c.toNat)] (.d (.bool (digB c))) := by
  refine acalls_of Tryz.func115 ac115_ok Tryz.ntmps115 Tryz.results115 rfl ?_
  unfold ac115
  refine bwp_seq fun K hK => bwp_region rfl ?_
  simp -implicitDefEqProofs only [go_sem, ↓reduceIte]
  refine hK _ ?_; clear hK
  by_cases h1 : (48 : Int) ≤ c.toNat
  · by_cases h2 : (c.toNat : Int) ≤ 57
    · refine bwp_seq fun K hK => bwp_region rfl ?_
      simp -implicitDefEqProofs only [go_sem, ↓reduceIte, h1, h2]
      refine hK _ ?_; clear hK
      refine bwp_ret ?_
      simp only [go_sem]
      refine aend_ret _ rfl rfl ⟨?_, rfl⟩
      have e1 : 48 ≤ c.toNat := by omega
      have e2 : c.toNat ≤ 57 := by omega
      simp [fget, digB, e1, e2]
    · refine bwp_seq fun K hK => bwp_region rfl ?_
      simp -implicitDefEqProofs only [go_sem, ↓reduceIte, h1, h2]
      refine hK _ ?_; clear hK
      refine bwp_ret ?_
      simp only [go_sem]
      refine aend_ret _ rfl rfl ⟨?_, rfl⟩
      have e2 : ¬ c.toNat ≤ 57 := by omega
      simp [fget, digB, e2]
  · refine bwp_seq fun K hK => bwp_region rfl ?_
    simp -implicitDefEqProofs only [go_sem, ↓reduceIte, h1]
    refine hK _ ?_; clear hK
    refine bwp_ret ?_
    simp only [go_sem]
    refine aend_ret _ rfl rfl ⟨?_, rfl⟩
    have e1 : ¬ 48 ≤ c.toNat := by omega
    simp [fget, digB, e1]
def rkS (s : List UInt8) (p : Nat) : St := ⟨[(1, .d (.int .i64 p)), (0, .d (.str s))], [], 0⟩
theorem skip_same (r : List UInt8) : skipN true (10 :: r) = skipN false (10 :: r) := rfl
theorem skip_note {c : UInt8} (h : c ≠ 10) (r : List UInt8) : skipN true (c :: r) = 1 + skipN true r := by
  have : (c != 10) = true := by simpa using h
  simp only [skipN]
  rw [this]
set_option maxHeartbeats 4000000 in
theorem rk_inner {s : List UInt8} (hs : s.length ≤ 140737488351232) {T p0 : Nat} (hp0 : p0 ≤ s.length) (h0 : p0 + skipN true (s.drop p0) = T) {Q : Exit → St → Prop}
    (hQ : ∀ p, p0 ≤ p → p ≤ s.length → p + skipN false (s.drop p) = T → (p = p0 → p0 < s.length → s.getD p0 0 = 10) → Q (.exit 3) (rkS s p)) :
    BWP Tryz.prog (mbound []) 43 (.loop ac130L0) (rkS s p0) Q := by
  refine bwp_fam (ι := { p : Nat // p0 ≤ p ∧ p ≤ s.length ∧ p + skipN true (s.drop p) = T }) (fun p => rkS s p.1) (fun p => s.length - p.1) ⟨p0, Nat.le_refl _, hp0, h0⟩ ?_
  rintro ⟨p, hle, hl, hT⟩
  simp only
  unfold ac130L0 rkS
  have hi0 : (0 : Int) ≤ (p : Int) := Int.natCast_nonneg _
  by_cases hlt : p < s.length
  · have hlt' : (p : Int) < s.length := by omega
    have hd := drop_at hlt
    generalize hc : s.getD p 0 = c at hd
    rw [hd] at hT
    by_cases h10 : (c.toNat : Int) = 10
    · have hc10 := u8eq (k := 10) h10
      refine bwp_seq fun K1 hK1 => ?_
      refine bwp_seq fun K hK => bwp_region rfl ?_
      simp -implicitDefEqProofs only [go_sem, ↓reduceIte, hlt', hi0, Int.toNat_natCast, hc, h10]
      refine hK _ ?_; clear hK
      refine bwp_cond false (by simp [ev, fget]) (fun h => nomatch h) (fun _ => ?_)
      refine bwp_leads (S' := rkS s p) (Leads.ent [] ⟨by simp [entT, fget, AV.ren, renL, pget, rkS], by simp [entM, pinv, mget, mset, renL, AV.ren, pget, renL_append, -List.map_map, rkS], rfl, rfl⟩) ?_
      refine bwp_exit (hQ p hle hl ?_ (fun he _ => ?_))
      · rw [hc10, skip_same] at hT
        rw [hd, hc10]
        exact hT
      · rw [← he, hc, hc10]
    · have hc10 := u8ne (k := 10) h10
      rw [skip_note hc10] at hT
      have hw : IntKind.i64.wrap ((p : Int) + 1) = ((p + 1 : Nat) : Int) := by rw [wrap_i64 (by omega) (by omega)]; rfl
      refine bwp_seq fun K1 hK1 => ?_
      refine bwp_seq fun K hK => bwp_region rfl ?_
      simp -implicitDefEqProofs only [go_sem, ↓reduceIte, hlt', hi0, Int.toNat_natCast, hc, h10]
      refine hK _ ?_; clear hK
      refine bwp_cond true (by simp [ev, fget]) (fun _ => ?_) (fun h => nomatch h)
      refine bwp_skip ?_
      refine hK1 _ ?_; clear hK1
      refine bwp_block ?_
      refine bwp_region rfl ?_
      simp -implicitDefEqProofs only [go_sem, ↓reduceIte, hw]
      refine ⟨⟨p + 1, by omega, by omega, by omega⟩, by simp only; omega, ?_⟩
      exact Leads.ent [] ⟨by simp [entT, fget, AV.ren, renL, pget, rkS], by simp [entM, rkS], rfl, rfl⟩
  · have hlt' : ¬ (p : Int) < s.length := by omega
    have he : p = s.length := by omega
    refine bwp_seq fun K1 hK1 => ?_
    refine bwp_seq fun K hK => bwp_region rfl ?_
    simp -implicitDefEqProofs only [go_sem, ↓reduceIte, hlt']
    refine hK _ ?_; clear hK
    refine bwp_cond false (by simp [ev, fget]) (fun h => nomatch h) (fun _ => ?_)
    refine bwp_leads (S' := rkS s p) (Leads.ent [] ⟨by simp [entT, fget, AV.ren, renL, pget, rkS], by simp [entM, pinv, mget, mset, renL, AV.ren, pget, renL_append, -List.map_map, rkS], rfl, rfl⟩) ?_
    refine bwp_exit (hQ p hle hl ?_ (fun h1 h2 => by omega))
    subst he
    rw [List.drop_length] at hT ⊢
    exact hT
set_option maxHeartbeats 4000000 in
theorem rk_outer {s : List UInt8} (hs : s.length ≤ 140737488351232) {a : Nat} (ha : a ≤ s.length) {Q : Exit → St → Prop}
    (hQ : Q (.exit 0) (rkS s (skipA s a))) (hR : ∀ t, fget t 4 = .d (.int .i64 (skipA s a)) → Q .ret ⟨t, [], 0⟩) :
    BWP Tryz.prog (mbound []) 43 (.loop ac130L1) (rkS s a) Q := by
  refine bwp_fam (ι := { p : Nat // p ≤ s.length ∧ p + skipN false (s.drop p) = skipA s a }) (fun p => rkS s p.1) (fun p => s.length - p.1) ⟨a, ha, rfl⟩ ?_
  rintro ⟨p, hl, hT⟩
  simp only
  unfold ac130L1 rkS
  have hi0 : (0 : Int) ≤ (p : Int) := Int.natCast_nonneg _
  by_cases hlt : p < s.length
  · have hlt' : (p : Int) < s.length := by omega
    have hd := drop_at hlt
    have hw : IntKind.i64.wrap ((p : Int) + 1) = ((p + 1 : Nat) : Int) := by rw [wrap_i64 (by omega) (by omega)]; rfl
    generalize hc : s.getD p 0 = c at hd
    have hT0 := hT
    rw [hd] at hT
    refine bwp_seq fun K1 hK1 => ?_
    refine bwp_seq fun K hK => bwp_region rfl ?_
    simp -implicitDefEqProofs only [go_sem, ↓reduceIte, hlt']
    refine hK _ ?_; clear hK
    refine bwp_cond true (by simp [ev, fget]) (fun _ => ?_) (fun h => nomatch h)
    refine bwp_skip ?_
    refine hK1 _ ?_; clear hK1
    refine bwp_block ?_
    refine bwp_seq fun K hK => bwp_region rfl ?_
    simp -implicitDefEqProofs only [go_sem, ↓reduceIte, hlt', hi0, Int.toNat_natCast, hc]
    refine hK _ ?_; clear hK
    refine bwp_block ?_
    have next : blankB c = true → ∀ t : Fr, fget t 14 = .d (.bool true) → fget t 1 = .d (.int .i64 p) → fget t 0 = .d (.str s) → BWP Tryz.prog (mbound []) 43 (.region false [⟨some 25, .mv (.t 1), none⟩, ⟨some 26, .bin .add (.t 25) (.c (.d (.int .i64 1))), none⟩, ⟨some 1, .mv (.t 26), none⟩] []) ⟨t, [], 0⟩ (Exit.inBlockA 2 (Exit.inBlockA 1 (Exit.thenA (fun S' => ∃ j : { p : Nat // p ≤ s.length ∧ p + skipN false (s.drop p) = skipA s a }, s.length - j.1 < s.length - p ∧ Leads (mbound []) 43 S' (rkS s j.1)) Q))) := by
      intro hb t _ t1 t0
      refine bwp_region rfl ?_
      simp -implicitDefEqProofs only [go_sem, ↓reduceIte, t1, hw]
      refine ⟨⟨p + 1, by omega, ?_⟩, by simp only; omega, Leads.ent [] ⟨by simp [entT, fget, AV.ren, renL, pget, rkS, t0], by simp [entM, rkS], rfl, rfl⟩⟩
      simp only [skipN] at hT
      rw [if_pos hb] at hT
      omega
    by_cases h32 : (c.toNat : Int) = 32
    · refine bwp_seq fun K hK => bwp_region rfl ?_
      simp -implicitDefEqProofs only [go_sem, ↓reduceIte, h32]
      refine hK _ ?_; clear hK
      refine bwp_cond true (by simp [ev, fget]) (fun _ => ?_) (fun h => nomatch h)
      exact next (by rw [u8eq (k := 32) h32]; rfl) _ rfl rfl rfl
    by_cases h9 : (c.toNat : Int) = 9
    · refine bwp_seq fun K hK => bwp_region rfl ?_
      simp -implicitDefEqProofs only [go_sem, ↓reduceIte, h32, h9]
      refine hK _ ?_; clear hK
      refine bwp_cond true (by simp [ev, fget]) (fun _ => ?_) (fun h => nomatch h)
      exact next (by rw [u8eq (k := 9) h9]; rfl) _ rfl rfl rfl
    by_cases h10 : (c.toNat : Int) = 10
    · refine bwp_seq fun K hK => bwp_region rfl ?_
      simp -implicitDefEqProofs only [go_sem, ↓reduceIte, h32, h9, h10]
      refine hK _ ?_; clear hK
      refine bwp_cond true (by simp [ev, fget]) (fun _ => ?_) (fun h => nomatch h)
      exact next (by rw [u8eq (k := 10) h10]; rfl) _ rfl rfl rfl
    refine bwp_seq fun K hK => bwp_region rfl ?_
    simp -implicitDefEqProofs only [go_sem, ↓reduceIte, h32, h9, h10]
    refine hK _ ?_; clear hK
    refine bwp_cond false (by simp [ev, fget]) (fun h => nomatch h) (fun _ => ?_)
    have hb : blankB c = false := by
      simp only [blankB, Bool.or_eq_false_iff, beq_eq_false_iff_ne]
      exact ⟨⟨u8ne (k := 32) h32, u8ne (k := 9) h9⟩, u8ne (k := 10) h10⟩
    by_cases h35 : (c.toNat : Int) = 35
    · have hc35 := u8eq (k := 35) h35
      refine bwp_seq fun K hK => bwp_region rfl ?_
      simp -implicitDefEqProofs only [go_sem, ↓reduceIte, h35]
      refine hK _ ?_; clear hK
      refine bwp_cond true (by simp [ev, fget]) (fun _ => ?_) (fun h => nomatch h)
      refine bwp_block ?_
      refine bwp_leads (S' := rkS s p) (Leads.ent [] ⟨by simp [entT, fget, AV.ren, renL, pget, rkS], by simp [entM, pinv, mget, mset, renL, AV.ren, pget, renL_append, -List.map_map, rkS], rfl, rfl⟩) ?_
      refine rk_inner hs (T := skipA s a) hl ?_ ?_
      · rw [hd, hc35, skip_note (by decide)]
        rw [hc35] at hT
        exact hT
      · intro q hq1 hq2 hq3 hq4
        unfold rkS
        simp -implicitDefEqProofs only [go_sem, ↓reduceIte]
        refine ⟨⟨q, hq2, hq3⟩, ?_, Leads.ent [] ⟨by simp [entT, fget, AV.ren, renL, pget, rkS], by simp [entM, rkS], rfl, rfl⟩⟩
        simp only
        have : q ≠ p := fun e => by
          have := hq4 e hlt
          rw [hc, hc35] at this
          cases this
        omega
    · have hc35 := u8ne (k := 35) h35
      have hz : skipN false (c :: s.drop (p + 1)) = 0 := skip_zero _ ⟨hb, hc35⟩
      rw [hz] at hT
      refine bwp_seq fun K hK => bwp_region rfl ?_
      simp -implicitDefEqProofs only [go_sem, ↓reduceIte, h35]
      refine hK _ ?_; clear hK
      refine bwp_cond false (by simp [ev, fget]) (fun h => nomatch h) (fun _ => ?_)
      refine bwp_seq fun K hK => bwp_region rfl ?_
      simp -implicitDefEqProofs only [go_sem, ↓reduceIte]
      refine hK _ ?_; clear hK
      refine bwp_ret ?_
      simp -implicitDefEqProofs only [go_sem, ↓reduceIte]
      exact hR _ (by rw [← hT]; rfl)
  · have hlt' : ¬ (p : Int) < s.length := by omega
    have he : p = s.length := by omega
    subst he
    rw [List.drop_length] at hT
    refine bwp_seq fun K1 hK1 => ?_
    refine bwp_seq fun K hK => bwp_region rfl ?_
    simp -implicitDefEqProofs only [go_sem, ↓reduceIte, hlt']
    refine hK _ ?_; clear hK
    refine bwp_cond false (by simp [ev, fget]) (fun h => nomatch h) (fun _ => ?_)
    refine bwp_leads (S' := rkS s s.length) (Leads.ent [] ⟨by simp [entT, fget, AV.ren, renL, pget, rkS], by simp [entM, pinv, mget, mset, renL, AV.ren, pget, renL_append, -List.map_map, rkS], rfl, rfl⟩) ?_
    refine bwp_exit ?_
    have : skipA s a = s.length := by rw [← hT]; rfl
    rw [this] at hQ
    exact hQ
theorem skip_pure {s : List UInt8} (hs : s.length ≤ 140737488351232) {a : Nat} (ha : a ≤ s.length) : Pure Tryz.prog 130 [.d (.str s), .d (.int .i64 a)] (.d (.int .i64 (skipA s a))) := by
  refine acalls_of Tryz.func130 ac130_ok Tryz.ntmps130 Tryz.results130 rfl ?_
  unfold ac130
  refine bwp_seq fun K hK => bwp_region rfl ?_
  simp -implicitDefEqProofs only [go_sem, ↓reduceIte]
  refine hK _ ?_; clear hK
  refine bwp_seq fun K1 hK1 => ?_
  refine bwp_block ?_
  refine bwp_leads (S' := rkS s a) (Leads.ent [] ⟨by simp [entT, fget, AV.ren, renL, pget, rkS], by simp [entM, pinv, mget, mset, renL, AV.ren, pget, renL_append, -List.map_map, rkS], rfl, rfl⟩) ?_
  refine rk_outer hs ha ?_ ?_
  · unfold rkS
    simp -implicitDefEqProofs only [go_sem, ↓reduceIte]
    refine hK1 _ ?_; clear hK1
    refine bwp_seq fun K hK => bwp_region rfl ?_
    simp -implicitDefEqProofs only [go_sem, ↓reduceIte]
    refine hK _ ?_; clear hK
    refine bwp_ret ?_
    simp only [go_sem]
    refine aend_ret _ rfl rfl ⟨?_, rfl⟩
    simp [fget]
  · intro t h
    simp -implicitDefEqProofs only [go_sem, ↓reduceIte]
    refine aend_ret (fget t 4) rfl (by rw [h]; rfl) ⟨h, rfl⟩
end Go.Proofs.YtpfbljkfbjjlkaaGreatDoor

/- The lexer's bytes: kinds, has, peek, run. -/
namespace Go.Proofs.YtpfbljkfbjjlkaaGreatDoor
open Go Go.Jq
set_option maxRecDepth 100000
set_option linter.unusedSimpArgs false
theorem callMem_one {j n : Nat} {m : Mem} {cs c' : List AV} (h : inL (fun _ => none) c' = true) : callMem [(0, j)] [(0, cs)] [(0, c')] n m = mset m j c' := by
  simp [callMem, updNew, updOld, mget, renL_noId _ h]
theorem meth_callK {P : Program} {f : Nat} {rest cells : List AV} {Q : AV → List AV → Prop} (h : ACalls P f (.ptr 0 0 :: rest) [(0, cells)] fun r m' => ∃ c', m' = [(0, c')] ∧ Q r c')
    (hr : inL (fun _ => none) rest = true) (hc : inL (fun _ => none) cells = true) (hQ : ∀ r c', Q r c' → inB (fun _ => none) r = true ∧ inL (fun _ => none) c' = true)
    {j : Nat} {dst : Option Nat} {r : List AOper} {K : St → Prop} {t : Fr} {m : Mem} {n : Nat} (hm : mget m j = some cells)
    (hk : ∀ v c', Q v c' → runOps P r ⟨putF t dst v, mset m j c', n + 1⟩ K) : callK P f (.ptr j 0 :: rest) dst r K t m n := by
  refine callK_gen [(0, j)] (.ptr 0 0 :: rest) [(0, cells)] (nb := j + 1) h (by simp [okRen]) (by simp [renL, AV.ren, pget, renL_noId _ hr]) (by simp only [inL, inB, pget]; simp; exact inL_mono (fun _ h => by cases h) _ hr) ⟨by simp [pget, hm, renL_noId _ hc]; exact inL_mono (fun _ h => by cases h) _ hc, trivial⟩ (by simp [mget]) ?_
  rintro r0 m' ⟨c', rfl, hq⟩
  obtain ⟨h1, h2⟩ := hQ _ _ hq
  rw [callMem_one h2, ren_noId _ h1]
  exact hk _ _ hq
def lexC (s : List UInt8) (a rd : Nat) (code eat : Int) : List AV := [.d (.str s), .d (.int .i64 a), .d (.int .i64 rd), .d (.int .i64 code), .d (.int .i64 eat)]
theorem lexC_in (s : List UInt8) (a rd : Nat) (code eat : Int) : inL (fun _ => none) (lexC s a rd code eat) = true := rfl
def rdW (s : List UInt8) (rd k : Nat) : Nat := if k < s.length then max rd (k + 1) else rd
theorem has_calls (s : List UInt8) (a rd : Nat) (code eat : Int) (k : Nat) : ACalls Tryz.prog 119 [.ptr 0 0, .d (.int .i64 k)] [(0, lexC s a rd code eat)] fun r m' => r = .d (.bool (decide (k < s.length))) ∧ m' = [(0, lexC s a rd code eat)] := by
  refine acalls_of Tryz.func119 ac119_ok Tryz.ntmps119 Tryz.results119 rfl ?_
  unfold ac119
  refine bwp_seq fun K hK => bwp_region rfl ?_
  simp only [go_sem, ↓reduceIte]
  refine hK _ ?_; clear hK
  refine bwp_seq fun K hK => bwp_region rfl ?_
  simp only [go_sem, ↓reduceIte, lexC]
  refine hK _ ?_; clear hK
  have e : (decide ((k : Int) < (s.length : Int))) = decide (k < s.length) := by rw [decide_eq_decide]; omega
  refine bwp_ret ?_
  simp only [go_sem]
  refine aend_mem (.d (.bool (decide (k < s.length)))) [(0, 0)] [(0, lexC s a rd code eat)] ?_ rfl rfl ?_ ⟨rfl, rfl⟩
  · simp [resA, resVs, resV, fget]
  · simp [entM, pinv, mget, renL, AV.ren, lexC]
theorem peek_calls {s : List UInt8} (hs : s.length ≤ 140737488351232) (a rd : Nat) (code eat : Int) (k : Nat) : ACalls Tryz.prog 120 [.ptr 0 0, .d (.int .i64 k)] [(0, lexC s a rd code eat)] fun r m' => r = .d (.int .u8 (s.getD k 0).toNat) ∧ m' = [(0, lexC s a (rdW s rd k) code eat)] := by
  refine acalls_of Tryz.func120 ac120_ok Tryz.ntmps120 Tryz.results120 rfl ?_
  unfold ac120
  refine bwp_seq fun K hK => bwp_region rfl ?_
  simp only [go_sem, ↓reduceIte]
  refine hK _ ?_; clear hK
  refine bwp_seq fun K1 hK1 => ?_
  have hi0 : (0 : Int) ≤ (k : Int) := Int.natCast_nonneg _
  by_cases h : k < s.length
  · have h1 : ¬ (s.length : Int) ≤ (k : Int) := by omega
    have h2 : (k : Int) < s.length := by omega
    have hw : IntKind.i64.wrap ((k : Int) + 1) = ((k + 1 : Nat) : Int) := by rw [wrap_i64 (by omega) (by omega)]; rfl
    have hmx : (if (rd : Int) < ((k + 1 : Nat) : Int) then ((k + 1 : Nat) : Int) else (rd : Int)) = ((max rd (k + 1) : Nat) : Int) := by split <;> omega
    refine bwp_seq fun K hK => bwp_region rfl ?_
    simp only [go_sem, ↓reduceIte, lexC, h1]
    refine hK _ ?_; clear hK
    refine bwp_cond false (by simp [ev, fget]) (fun h => nomatch h) (fun _ => ?_)
    refine bwp_skip ?_
    refine hK1 _ ?_; clear hK1
    refine bwp_seq fun K hK => bwp_region rfl ?_
    simp only [go_sem, ↓reduceIte, hw, hmx]
    refine hK _ ?_; clear hK
    refine bwp_seq fun K hK => bwp_region rfl ?_
    simp only [go_sem, ↓reduceIte, hi0, h2, Int.toNat_natCast]
    refine hK _ ?_; clear hK
    refine bwp_ret ?_
    simp only [go_sem]
    refine aend_mem (.d (.int .u8 (s.getD k 0).toNat)) [(0, 0)] [(0, lexC s a (rdW s rd k) code eat)] ?_ rfl rfl ?_ ⟨rfl, rfl⟩
    · simp [resA, resVs, resV, fget]
    · simp [entM, pinv, mget, mset, renL, AV.ren, lexC, rdW, h, Nat.max_def]
  · have h1 : (s.length : Int) ≤ (k : Int) := by omega
    have hz : s[k]?.getD 0 = 0 := by rw [List.getElem?_eq_none (by omega)]; rfl
    refine bwp_seq fun K hK => bwp_region rfl ?_
    simp only [go_sem, ↓reduceIte, lexC, h1]
    refine hK _ ?_; clear hK
    refine bwp_cond true (by simp [ev, fget]) (fun _ => ?_) (fun h => nomatch h)
    refine bwp_seq fun K hK => bwp_region rfl ?_
    simp only [go_sem, ↓reduceIte]
    refine hK _ ?_; clear hK
    refine bwp_ret ?_
    simp only [go_sem]
    refine aend_mem (.d (.int .u8 (s.getD k 0).toNat)) [(0, 0)] [(0, lexC s a (rdW s rd k) code eat)] ?_ rfl rfl ?_ ⟨rfl, rfl⟩
    · simp [resA, resVs, resV, fget, hz]
    · simp [entM, pinv, mget, mset, renL, AV.ren, lexC, rdW, h]
theorem has_callK (s : List UInt8) (a rd : Nat) (code eat : Int) (k : Nat) {j : Nat} {dst : Option Nat} {r : List AOper} {K : St → Prop} {t : Fr} {m : Mem} {n : Nat} (hm : mget m j = some (lexC s a rd code eat))
    (hk : runOps Tryz.prog r ⟨putF t dst (.d (.bool (decide (k < s.length)))), mset m j (lexC s a rd code eat), n + 1⟩ K) : callK Tryz.prog 119 [.ptr j 0, .d (.int .i64 k)] dst r K t m n := by
  refine meth_callK (rest := [.d (.int .i64 k)]) (Q := fun r c' => r = .d (.bool (decide (k < s.length))) ∧ c' = lexC s a rd code eat) ((has_calls s a rd code eat k).mono fun r m' h => ⟨_, h.2, h.1, rfl⟩) rfl rfl ?_ hm ?_
  · rintro _ _ ⟨rfl, rfl⟩; exact ⟨rfl, rfl⟩
  · rintro _ _ ⟨rfl, rfl⟩; exact hk
theorem peek_callK {s : List UInt8} (hs : s.length ≤ 140737488351232) (a rd : Nat) (code eat : Int) (k : Nat) {j : Nat} {dst : Option Nat} {r : List AOper} {K : St → Prop} {t : Fr} {m : Mem} {n : Nat} (hm : mget m j = some (lexC s a rd code eat))
    (hk : runOps Tryz.prog r ⟨putF t dst (.d (.int .u8 (s.getD k 0).toNat)), mset m j (lexC s a (rdW s rd k) code eat), n + 1⟩ K) : callK Tryz.prog 120 [.ptr j 0, .d (.int .i64 k)] dst r K t m n := by
  refine meth_callK (rest := [.d (.int .i64 k)]) (Q := fun r c' => r = .d (.int .u8 (s.getD k 0).toNat) ∧ c' = lexC s a (rdW s rd k) code eat) ((peek_calls hs a rd code eat k).mono fun r m' h => ⟨_, h.2, h.1, rfl⟩) rfl rfl ?_ hm ?_
  · rintro _ _ ⟨rfl, rfl⟩; exact ⟨rfl, rfl⟩
  · rintro _ _ ⟨rfl, rfl⟩; exact hk
def kindW (c : UInt8) : Int := if blankB c = true then 1 else if letB c = true then 2 else if digB c = true then 3 else 0
set_option maxHeartbeats 4000000 in
theorem kind_pure (c : UInt8) : Pure Tryz.prog 121 [.d (.int .u8 c.toNat)] (.d (.int .i64 (kindW c))) := by
  refine acalls_of Tryz.func121 ac121_ok Tryz.ntmps121 Tryz.results121 rfl ?_
  unfold ac121
  refine bwp_seq fun K hK => bwp_region rfl ?_
  simp only [go_sem, ↓reduceIte]
  refine hK _ ?_; clear hK
  refine bwp_seq fun K1 hK1 => ?_
  refine bwp_block ?_
  have hb : ∀ {k : UInt8}, (c.toNat : Int) = k.toNat → blankB k = true → kindW c = 1 := fun h h1 => by rw [u8eq h]; unfold kindW; rw [if_pos h1]
  by_cases h32 : (c.toNat : Int) = 32
  · refine bwp_seq fun K hK => bwp_region rfl ?_
    simp only [go_sem, ↓reduceIte, h32]
    refine hK _ ?_; clear hK
    refine bwp_cond true (by simp [ev, fget]) (fun _ => ?_) (fun h => nomatch h)
    refine bwp_seq fun K hK => bwp_region rfl ?_
    simp only [go_sem, ↓reduceIte]
    refine hK _ ?_; clear hK
    refine bwp_ret ?_
    simp only [go_sem]
    refine aend_ret _ rfl rfl ⟨?_, rfl⟩
    simp [fget, hb (k := 32) h32 rfl]
  by_cases h9 : (c.toNat : Int) = 9
  · refine bwp_seq fun K hK => bwp_region rfl ?_
    simp only [go_sem, ↓reduceIte, h32, h9]
    refine hK _ ?_; clear hK
    refine bwp_cond true (by simp [ev, fget]) (fun _ => ?_) (fun h => nomatch h)
    refine bwp_seq fun K hK => bwp_region rfl ?_
    simp only [go_sem, ↓reduceIte]
    refine hK _ ?_; clear hK
    refine bwp_ret ?_
    simp only [go_sem]
    refine aend_ret _ rfl rfl ⟨?_, rfl⟩
    simp [fget, hb (k := 9) h9 rfl]
  by_cases h10 : (c.toNat : Int) = 10
  · refine bwp_seq fun K hK => bwp_region rfl ?_
    simp only [go_sem, ↓reduceIte, h32, h9, h10]
    refine hK _ ?_; clear hK
    refine bwp_cond true (by simp [ev, fget]) (fun _ => ?_) (fun h => nomatch h)
    refine bwp_seq fun K hK => bwp_region rfl ?_
    simp only [go_sem, ↓reduceIte]
    refine hK _ ?_; clear hK
    refine bwp_ret ?_
    simp only [go_sem]
    refine aend_ret _ rfl rfl ⟨?_, rfl⟩
    simp [fget, hb (k := 10) h10 rfl]
  have hbl : blankB c = false := by
    simp only [blankB, Bool.or_eq_false_iff, beq_eq_false_iff_ne]
    exact ⟨⟨u8ne (k := 32) h32, u8ne (k := 9) h9⟩, u8ne (k := 10) h10⟩
  refine bwp_seq fun K hK => bwp_region rfl ?_
  simp only [go_sem, ↓reduceIte, h32, h9, h10]
  refine hK _ ?_; clear hK
  refine bwp_cond false (by simp [ev, fget]) (fun h => nomatch h) (fun _ => ?_)
  by_cases h97 : (97 : Int) ≤ c.toNat
  · by_cases h122 : (c.toNat : Int) ≤ 122
    · refine bwp_seq fun K hK => bwp_region rfl ?_
      simp only [go_sem, ↓reduceIte, h97, h122]
      refine hK _ ?_; clear hK
      refine bwp_cond true (by simp [ev, fget]) (fun _ => ?_) (fun h => nomatch h)
      refine bwp_seq fun K hK => bwp_region rfl ?_
      simp only [go_sem, ↓reduceIte]
      refine hK _ ?_; clear hK
      refine bwp_ret ?_
      simp only [go_sem]
      refine aend_ret _ rfl rfl ⟨?_, rfl⟩
      have e1 : 97 ≤ c.toNat := by omega
      have e2 : c.toNat ≤ 122 := by omega
      simp [fget, kindW, hbl, letB, e1, e2]
    · have e2 : ¬ c.toNat ≤ 122 := by omega
      have h48 : (48 : Int) ≤ c.toNat := by omega
      have h57 : ¬ (c.toNat : Int) ≤ 57 := by omega
      have e3 : ¬ c.toNat ≤ 57 := by omega
      refine bwp_seq fun K hK => bwp_region rfl ?_
      simp only [go_sem, ↓reduceIte, h97, h122]
      refine hK _ ?_; clear hK
      refine bwp_cond false (by simp [ev, fget]) (fun h => nomatch h) (fun _ => ?_)
      refine bwp_seq fun K hK => bwp_region rfl ?_
      simp only [go_sem, ↓reduceIte, h48, h57]
      refine hK _ ?_; clear hK
      refine bwp_cond false (by simp [ev, fget]) (fun h => nomatch h) (fun _ => ?_)
      refine bwp_skip ?_
      refine hK1 _ ?_; clear hK1
      refine bwp_seq fun K hK => bwp_region rfl ?_
      simp only [go_sem, ↓reduceIte]
      refine hK _ ?_; clear hK
      refine bwp_ret ?_
      simp only [go_sem]
      refine aend_ret _ rfl rfl ⟨?_, rfl⟩
      simp [fget, kindW, hbl, letB, digB, e2, e3]
  · have e1 : ¬ 97 ≤ c.toNat := by omega
    refine bwp_seq fun K hK => bwp_region rfl ?_
    simp only [go_sem, ↓reduceIte, h97]
    refine hK _ ?_; clear hK
    refine bwp_cond false (by simp [ev, fget]) (fun h => nomatch h) (fun _ => ?_)
    by_cases h48 : (48 : Int) ≤ c.toNat
    · by_cases h57 : (c.toNat : Int) ≤ 57
      · refine bwp_seq fun K hK => bwp_region rfl ?_
        simp only [go_sem, ↓reduceIte, h48, h57]
        refine hK _ ?_; clear hK
        refine bwp_cond true (by simp [ev, fget]) (fun _ => ?_) (fun h => nomatch h)
        refine bwp_seq fun K hK => bwp_region rfl ?_
        simp only [go_sem, ↓reduceIte]
        refine hK _ ?_; clear hK
        refine bwp_ret ?_
        simp only [go_sem]
        refine aend_ret _ rfl rfl ⟨?_, rfl⟩
        have e2 : 48 ≤ c.toNat := by omega
        have e3 : c.toNat ≤ 57 := by omega
        simp [fget, kindW, hbl, letB, digB, e1, e2, e3]
      · refine bwp_seq fun K hK => bwp_region rfl ?_
        simp only [go_sem, ↓reduceIte, h48, h57]
        refine hK _ ?_; clear hK
        refine bwp_cond false (by simp [ev, fget]) (fun h => nomatch h) (fun _ => ?_)
        refine bwp_skip ?_
        refine hK1 _ ?_; clear hK1
        refine bwp_seq fun K hK => bwp_region rfl ?_
        simp only [go_sem, ↓reduceIte]
        refine hK _ ?_; clear hK
        refine bwp_ret ?_
        simp only [go_sem]
        refine aend_ret _ rfl rfl ⟨?_, rfl⟩
        have e3 : ¬ c.toNat ≤ 57 := by omega
        simp [fget, kindW, hbl, letB, digB, e1, e3]
    · refine bwp_seq fun K hK => bwp_region rfl ?_
      simp only [go_sem, ↓reduceIte, h48]
      refine hK _ ?_; clear hK
      refine bwp_cond false (by simp [ev, fget]) (fun h => nomatch h) (fun _ => ?_)
      refine bwp_skip ?_
      refine hK1 _ ?_; clear hK1
      refine bwp_seq fun K hK => bwp_region rfl ?_
      simp only [go_sem, ↓reduceIte]
      refine hK _ ?_; clear hK
      refine bwp_ret ?_
      simp only [go_sem]
      refine aend_ret _ rfl rfl ⟨?_, rfl⟩
      have e2 : ¬ 48 ≤ c.toNat := by omega
      simp [fget, kindW, hbl, letB, digB, e1, e2]
theorem kind_aln (c : UInt8) : (2 ≤ kindW c) ↔ alnB c = true := by
  unfold kindW alnB
  cases h1 : blankB c with
  | true =>
    simp only [blankB, Bool.or_eq_true, beq_iff_eq] at h1
    rcases h1 with (rfl | rfl) | rfl <;> decide
  | false =>
    cases letB c <;> cases digB c <;> decide
theorem kind_blank (c : UInt8) : kindW c = 1 ↔ blankB c = true := by
  unfold kindW
  cases blankB c <;> cases letB c <;> cases digB c <;> decide
end Go.Proofs.YtpfbljkfbjjlkaaGreatDoor

/- The lexer over blanks and comments, over letters and digits. -/
namespace Go.Proofs.YtpfbljkfbjjlkaaGreatDoor
open Go Go.Jq
set_option maxRecDepth 100000
set_option linter.unusedSimpArgs false
def lkS (s : List UInt8) (p rd : Nat) : St := ⟨[(0, .ptr 0 0)], [(0, lexC s p rd 0 0)], 1⟩
theorem rdW_lt {s : List UInt8} {rd k : Nat} (h : k < s.length) : rdW s rd k = max rd (k + 1) := by unfold rdW; rw [if_pos h]
def rdIn (s : List UInt8) (rd0 p rd : Nat) : Prop := rd0 ≤ rd ∧ p ≤ rd ∧ rd ≤ s.length ∧ rd ≤ max rd0 (p + 1)
theorem rdIn_peek {s : List UInt8} {rd0 p rd : Nat} (h : rdIn s rd0 p rd) (hp : p < s.length) : rdIn s rd0 p (rdW s rd p) ∧ rdIn s rd0 (p + 1) (rdW s rd p) := by
  rw [rdW_lt hp]
  unfold rdIn at *
  omega
set_option maxHeartbeats 8000000 in
theorem lk_inner {s : List UInt8} (hs : s.length ≤ 140737488351232) {T p0 rd0 rd1 : Nat} (hp0 : p0 ≤ s.length) (h0 : p0 + skipN true (s.drop p0) = T) (hr0 : rdIn s rd0 p0 rd1) {Q : Exit → St → Prop}
    (hQ : ∀ p rd, p0 ≤ p → p ≤ s.length → p + skipN false (s.drop p) = T → (p = p0 → p0 < s.length → s.getD p0 0 = 10) → rdIn s rd0 p rd → Q (.exit 3) (lkS s p rd)) :
    BWP Tryz.prog 1 51 (.loop ac118L0) (lkS s p0 rd1) Q := by
  refine bwp_fam (ι := { p : Nat × Nat // p0 ≤ p.1 ∧ p.1 ≤ s.length ∧ p.1 + skipN true (s.drop p.1) = T ∧ rdIn s rd0 p.1 p.2 }) (fun p => lkS s p.1.1 p.1.2) (fun p => s.length - p.1.1) ⟨(p0, rd1), Nat.le_refl _, hp0, h0, hr0⟩ ?_
  rintro ⟨⟨p, rd⟩, hle, hl, hT, hrd⟩
  simp only at hle hl hT hrd ⊢
  unfold ac118L0 lkS
  refine bwp_seq fun K1 hK1 => ?_
  refine bwp_seq fun K hK => bwp_region rfl ?_
  simp only [go_sem, ↓reduceIte, lexC]
  refine has_callK s p rd 0 0 p rfl ?_
  by_cases hlt : p < s.length
  · have hd := drop_at hlt
    have hpk := rdIn_peek hrd hlt
    generalize hc : s.getD p 0 = c at hd
    rw [hd] at hT
    simp only [go_sem, ↓reduceIte, hlt, decide_true, lexC, mset]
    refine peek_callK hs p rd 0 0 p rfl ?_
    rw [hc]
    generalize rdW s rd p = rd' at hpk ⊢
    by_cases h10 : (c.toNat : Int) = 10
    · have hc10 := u8eq (k := 10) h10
      simp only [go_sem, ↓reduceIte, h10, lexC, mset]
      refine hK _ ?_; clear hK
      refine bwp_cond false (by simp [ev, fget]) (fun h => nomatch h) (fun _ => ?_)
      refine bwp_leads (S' := lkS s p rd') (Leads.ent [(0, 0)] ⟨by simp [entT, fget, AV.ren, renL, pget, lkS, lexC], by simp [entM, pinv, mget, mset, renL, AV.ren, pget, renL_append, -List.map_map, lkS, lexC], rfl, rfl⟩) ?_
      refine bwp_exit (hQ p rd' hle hl ?_ (fun he _ => ?_) hpk.1)
      · rw [hc10, skip_same] at hT
        rw [hd, hc10]
        exact hT
      · rw [← he, hc, hc10]
    · have hc10 := u8ne (k := 10) h10
      rw [skip_note hc10] at hT
      have hw : IntKind.i64.wrap ((p : Int) + 1) = ((p + 1 : Nat) : Int) := by rw [wrap_i64 (by omega) (by omega)]; rfl
      simp only [go_sem, ↓reduceIte, h10, lexC, mset]
      refine hK _ ?_; clear hK
      refine bwp_cond true (by simp [ev, fget]) (fun _ => ?_) (fun h => nomatch h)
      refine bwp_skip ?_
      refine hK1 _ ?_; clear hK1
      refine bwp_block ?_
      refine bwp_region rfl ?_
      simp only [go_sem, ↓reduceIte, hw]
      refine ⟨⟨(p + 1, rd'), by simp only; omega, by simp only; omega, by simp only; omega, hpk.2⟩, by simp only; omega, ?_⟩
      exact Leads.ent [(0, 0)] ⟨by simp [entT, fget, AV.ren, renL, pget, lkS], by simp [entM, pinv, mget, mset, renL, AV.ren, lkS, lexC], rfl, rfl⟩
  · have he : p = s.length := by omega
    simp only [go_sem, ↓reduceIte, hlt, decide_false, lexC, mset]
    refine hK _ ?_; clear hK
    refine bwp_cond false (by simp [ev, fget]) (fun h => nomatch h) (fun _ => ?_)
    refine bwp_leads (S' := lkS s p rd) (Leads.ent [(0, 0)] ⟨by simp [entT, fget, AV.ren, renL, pget, lkS, lexC], by simp [entM, pinv, mget, mset, renL, AV.ren, pget, renL_append, -List.map_map, lkS, lexC], rfl, rfl⟩) ?_
    refine bwp_exit (hQ p rd hle hl ?_ (fun h1 h2 => by omega) hrd)
    subst he
    rw [List.drop_length] at hT ⊢
    exact hT
set_option maxHeartbeats 8000000 in
theorem lk_outer {s : List UInt8} (hs : s.length ≤ 140737488351232) {a rd0 : Nat} (ha : a ≤ s.length) (hr0 : a ≤ rd0 ∧ rd0 ≤ s.length) {Q : Exit → St → Prop}
    (hQ : ∀ rd, rdIn s rd0 (skipA s a) rd → Q (.exit 0) (lkS s (skipA s a) rd)) (hR : ∀ t rd n, rdIn s rd0 (skipA s a) rd → Q .ret ⟨t, [(0, lexC s (skipA s a) rd 0 0)], n⟩) :
    BWP Tryz.prog 1 51 (.loop ac118L1) (lkS s a rd0) Q := by
  refine bwp_fam (ι := { p : Nat × Nat // p.1 ≤ s.length ∧ p.1 + skipN false (s.drop p.1) = skipA s a ∧ rdIn s rd0 p.1 p.2 }) (fun p => lkS s p.1.1 p.1.2) (fun p => s.length - p.1.1) ⟨(a, rd0), ha, rfl, by unfold rdIn; simp only; omega⟩ ?_
  rintro ⟨⟨p, rd⟩, hl, hT, hrd⟩
  simp only at hl hT hrd ⊢
  unfold ac118L1 lkS
  refine bwp_seq fun K1 hK1 => ?_
  refine bwp_seq fun K hK => bwp_region rfl ?_
  simp only [go_sem, ↓reduceIte, lexC]
  refine has_callK s p rd 0 0 p rfl ?_
  by_cases hlt : p < s.length
  · have hd := drop_at hlt
    have hw : IntKind.i64.wrap ((p : Int) + 1) = ((p + 1 : Nat) : Int) := by rw [wrap_i64 (by omega) (by omega)]; rfl
    have hpk := rdIn_peek hrd hlt
    generalize hc : s.getD p 0 = c at hd
    rw [hd] at hT
    simp only [go_sem, ↓reduceIte, hlt, decide_true, lexC, mset]
    refine hK _ ?_; clear hK
    refine bwp_cond true (by simp [ev, fget]) (fun _ => ?_) (fun h => nomatch h)
    refine bwp_skip ?_
    refine hK1 _ ?_; clear hK1
    refine bwp_block ?_
    refine bwp_seq fun K hK => bwp_region rfl ?_
    simp only [go_sem, ↓reduceIte]
    refine peek_callK hs p rd 0 0 p rfl ?_
    rw [hc]
    generalize rdW s rd p = rd' at hpk ⊢
    simp only [go_sem, ↓reduceIte, lexC, mset]
    refine hK _ ?_; clear hK
    refine bwp_block ?_
    by_cases h35 : (c.toNat : Int) = 35
    · have hc35 := u8eq (k := 35) h35
      refine bwp_seq fun K hK => bwp_region rfl ?_
      simp only [go_sem, ↓reduceIte, h35]
      refine hK _ ?_; clear hK
      refine bwp_cond true (by simp [ev, fget]) (fun _ => ?_) (fun h => nomatch h)
      refine bwp_block ?_
      refine bwp_leads (S' := lkS s p rd') (Leads.ent [(0, 0)] ⟨by simp [entT, fget, AV.ren, renL, pget, lkS, lexC], by simp [entM, pinv, mget, mset, renL, AV.ren, pget, renL_append, -List.map_map, lkS, lexC], rfl, rfl⟩) ?_
      refine lk_inner hs (T := skipA s a) (rd0 := rd0) hl ?_ hpk.1 ?_
      · rw [hd, hc35, skip_note (by decide)]
        rw [hc35] at hT
        exact hT
      · intro q rdq hq1 hq2 hq3 hq4 hq5
        unfold lkS
        simp only [go_sem, ↓reduceIte]
        refine ⟨⟨(q, rdq), hq2, hq3, hq5⟩, ?_, Leads.ent [(0, 0)] ⟨by simp [entT, fget, AV.ren, renL, pget, lkS], by simp [entM, pinv, mget, mset, renL, AV.ren, lkS, lexC], rfl, rfl⟩⟩
        simp only
        have : q ≠ p := fun e => by
          have := hq4 e hlt
          rw [hc, hc35] at this
          cases this
        omega
    · have hc35 := u8ne (k := 35) h35
      refine bwp_seq fun K hK => bwp_region rfl ?_
      simp only [go_sem, ↓reduceIte, h35]
      refine hK _ ?_; clear hK
      refine bwp_cond false (by simp [ev, fget]) (fun h => nomatch h) (fun _ => ?_)
      have k1 := kind_pure c
      refine bwp_seq fun K hK => bwp_region rfl ?_
      simp only [go_sem, ↓reduceIte]
      refine callK_pure k1 rfl rfl ?_
      by_cases hb : blankB c = true
      · have hk1 := (kind_blank c).2 hb
        simp only [go_sem, ↓reduceIte, hk1]
        refine hK _ ?_; clear hK
        refine bwp_cond true (by simp [ev, fget]) (fun _ => ?_) (fun h => nomatch h)
        refine bwp_region rfl ?_
        simp only [go_sem, ↓reduceIte, hw]
        refine ⟨⟨(p + 1, rd'), by simp only; omega, ?_, hpk.2⟩, by simp only; omega, Leads.ent [(0, 0)] ⟨by simp [entT, fget, AV.ren, renL, pget, lkS], by simp [entM, pinv, mget, mset, renL, AV.ren, lkS, lexC], rfl, rfl⟩⟩
        simp only [skipN] at hT
        rw [if_pos hb] at hT
        simp only
        omega
      · have hk1 : ¬ kindW c = 1 := fun h => hb ((kind_blank c).1 h)
        have hz : skipN false (c :: s.drop (p + 1)) = 0 := skip_zero _ ⟨by simpa using hb, hc35⟩
        rw [hz] at hT
        have hT' : p = skipA s a := by omega
        simp only [go_sem, ↓reduceIte, hk1]
        refine hK _ ?_; clear hK
        refine bwp_cond false (by simp [ev, fget]) (fun h => nomatch h) (fun _ => ?_)
        refine bwp_ret ?_
        simp only [go_sem, ↓reduceIte]
        have := fun t n => hR t rd' n (by rw [← hT']; exact hpk.1)
        rw [← hT'] at this
        exact this _ _
  · have he : p = s.length := by omega
    subst he
    rw [List.drop_length] at hT
    have hT' : s.length = skipA s a := by rw [← hT]; rfl
    simp only [go_sem, ↓reduceIte, hlt, decide_false, lexC, mset]
    refine hK _ ?_; clear hK
    refine bwp_cond false (by simp [ev, fget]) (fun h => nomatch h) (fun _ => ?_)
    refine bwp_leads (S' := lkS s s.length rd) (Leads.ent [(0, 0)] ⟨by simp [entT, fget, AV.ren, renL, pget, lkS, lexC], by simp [entM, pinv, mget, mset, renL, AV.ren, pget, renL_append, -List.map_map, lkS, lexC], rfl, rfl⟩) ?_
    refine bwp_exit ?_
    have := hQ rd (by rw [← hT']; exact hrd)
    rw [← hT'] at this
    exact this
theorem skip_calls {s : List UInt8} (hs : s.length ≤ 140737488351232) {a rd : Nat} (ha : a ≤ s.length) (hr : a ≤ rd ∧ rd ≤ s.length) :
    ACalls Tryz.prog 118 [.ptr 0 0] [(0, lexC s a rd 0 0)] fun r m' => r = .tup [] ∧ ∃ rd', rdIn s rd (skipA s a) rd' ∧ m' = [(0, lexC s (skipA s a) rd' 0 0)] := by
  refine acalls_of Tryz.func118 ac118_ok Tryz.ntmps118 Tryz.results118 rfl ?_
  unfold ac118
  refine bwp_block ?_
  refine bwp_leads (S' := lkS s a rd) (Leads.ent [(0, 0)] ⟨by simp [entT, fget, AV.ren, renL, pget, lkS, lexC, frm], by simp [entM, pinv, mget, mset, renL, AV.ren, pget, renL_append, -List.map_map, lkS, lexC, frm], rfl, rfl⟩) ?_
  refine lk_outer hs ha hr ?_ ?_
  · intro rd' h
    unfold lkS
    simp only [go_sem, ↓reduceIte]
    refine ⟨.tup [], rfl, [(0, 0)], [(0, lexC s (skipA s a) rd' 0 0)], rfl, rfl, ?_, ⟨rfl, rd', h, rfl⟩⟩
    simp [entM, pinv, mget, renL, AV.ren, lexC]
  · intro t rd' n h
    simp only [go_sem, ↓reduceIte]
    refine aend_mem (.tup []) [(0, 0)] [(0, lexC s (skipA s a) rd' 0 0)] rfl rfl rfl ?_ ⟨rfl, rd', h, rfl⟩
    simp [entM, pinv, mget, renL, AV.ren, lexC]
def rlS (s : List UInt8) (a p rd : Nat) : St := ⟨[(1, .d (.int .i64 p)), (0, .ptr 0 0), (4, .d (.int .i64 0))], [(0, lexC s a rd 0 0)], 1⟩
set_option maxHeartbeats 8000000 in
theorem rl_loop {s : List UInt8} (hs : s.length ≤ 140737488351232) {a p0 rd0 rd1 : Nat} (hp0 : p0 ≤ s.length) (hr0 : rdIn s rd0 p0 rd1) {Q : Exit → St → Prop}
    (hQ : ∀ rd, rdIn s rd0 (p0 + runL (s.drop p0)) rd → Q (.exit 0) (rlS s a (p0 + runL (s.drop p0)) rd)) :
    BWP Tryz.prog 1 18 (.loop ac122L0) (rlS s a p0 rd1) Q := by
  refine bwp_fam (ι := { p : Nat × Nat // p.1 ≤ s.length ∧ p.1 + runL (s.drop p.1) = p0 + runL (s.drop p0) ∧ rdIn s rd0 p.1 p.2 }) (fun p => rlS s a p.1.1 p.1.2) (fun p => s.length - p.1.1) ⟨(p0, rd1), hp0, rfl, hr0⟩ ?_
  rintro ⟨⟨p, rd⟩, hl, hT, hrd⟩
  simp only at hl hT hrd ⊢
  unfold ac122L0 rlS
  have hout : ∀ rd', rdIn s rd0 p rd' → runL (s.drop p) = 0 → Q (.exit 0) (rlS s a p rd') := fun rd' h h0 => by
    rw [h0] at hT
    have := hQ rd' (by rw [← hT]; exact h)
    rw [← hT] at this
    exact this
  refine bwp_seq fun K1 hK1 => ?_
  refine bwp_seq fun K hK => bwp_region rfl ?_
  simp only [go_sem, ↓reduceIte, lexC]
  refine has_callK s a rd 0 0 p rfl ?_
  by_cases hlt : p < s.length
  · have hd := drop_at hlt
    have hpk := rdIn_peek hrd hlt
    generalize hc : s.getD p 0 = c at hd
    simp only [go_sem, ↓reduceIte, hlt, decide_true, lexC, mset]
    refine peek_callK hs a rd 0 0 p rfl ?_
    rw [hc]
    generalize rdW s rd p = rd' at hpk ⊢
    have k1 := kind_pure c
    simp only [go_sem, ↓reduceIte, lexC, mset]
    refine callK_pure k1 rfl rfl ?_
    by_cases ha : alnB c = true
    · have hk := (kind_aln c).2 ha
      have hw : IntKind.i64.wrap ((p : Int) + 1) = ((p + 1 : Nat) : Int) := by rw [wrap_i64 (by omega) (by omega)]; rfl
      rw [hd, runL, if_pos ha] at hT
      simp only [go_sem, ↓reduceIte, hk]
      refine hK _ ?_; clear hK
      refine bwp_cond true (by simp [ev, fget]) (fun _ => ?_) (fun h => nomatch h)
      refine bwp_skip ?_
      refine hK1 _ ?_; clear hK1
      refine bwp_block ?_
      refine bwp_region rfl ?_
      simp only [go_sem, ↓reduceIte, hw]
      refine ⟨⟨(p + 1, rd'), by simp only; omega, by simp only; omega, hpk.2⟩, by simp only; omega, ?_⟩
      exact Leads.ent [(0, 0)] ⟨by simp [entT, fget, AV.ren, renL, pget, rlS], by simp [entM, pinv, mget, mset, renL, AV.ren, rlS, lexC], rfl, rfl⟩
    · have hk : ¬ 2 ≤ kindW c := fun h => ha ((kind_aln c).1 h)
      simp only [go_sem, ↓reduceIte, hk]
      refine hK _ ?_; clear hK
      refine bwp_cond false (by simp [ev, fget]) (fun h => nomatch h) (fun _ => ?_)
      refine bwp_leads (S' := rlS s a p rd') (Leads.ent [(0, 0)] ⟨by simp [entT, fget, AV.ren, renL, pget, rlS, lexC], by simp [entM, pinv, mget, mset, renL, AV.ren, pget, renL_append, -List.map_map, rlS, lexC], rfl, rfl⟩) ?_
      exact bwp_exit (hout rd' hpk.1 (by rw [hd, runL, if_neg ha]))
  · have he : p = s.length := by omega
    simp only [go_sem, ↓reduceIte, hlt, decide_false, lexC, mset]
    refine hK _ ?_; clear hK
    refine bwp_cond false (by simp [ev, fget]) (fun h => nomatch h) (fun _ => ?_)
    refine bwp_leads (S' := rlS s a p rd) (Leads.ent [(0, 0)] ⟨by simp [entT, fget, AV.ren, renL, pget, rlS, lexC], by simp [entM, pinv, mget, mset, renL, AV.ren, pget, renL_append, -List.map_map, rlS, lexC], rfl, rfl⟩) ?_
    exact bwp_exit (hout rd hrd (by rw [he, List.drop_length]; rfl))
theorem run_calls {s : List UInt8} (hs : s.length ≤ 140737488351232) {a p rd : Nat} (hp : p ≤ s.length) (hr : p ≤ rd ∧ rd ≤ s.length) :
    ACalls Tryz.prog 122 [.ptr 0 0, .d (.int .i64 p)] [(0, lexC s a rd 0 0)] fun r m' => r = .d (.int .i64 (p + runL (s.drop p) : Nat)) ∧ ∃ rd', rdIn s rd (p + runL (s.drop p)) rd' ∧ m' = [(0, lexC s a rd' 0 0)] := by
  refine acalls_of Tryz.func122 ac122_ok Tryz.ntmps122 Tryz.results122 rfl ?_
  unfold ac122
  refine bwp_seq fun K hK => bwp_region rfl ?_
  simp only [go_sem, ↓reduceIte]
  refine hK _ ?_; clear hK
  refine bwp_seq fun K1 hK1 => ?_
  refine bwp_block ?_
  refine bwp_leads (S' := rlS s a p rd) (Leads.ent [(0, 0)] ⟨by simp [entT, fget, AV.ren, renL, pget, rlS, lexC, frm], by simp [entM, pinv, mget, mset, renL, AV.ren, pget, renL_append, -List.map_map, rlS, lexC, frm], rfl, rfl⟩) ?_
  refine rl_loop hs (rd0 := rd) hp (by unfold rdIn; omega) ?_
  intro rd' h
  unfold rlS
  simp only [go_sem, ↓reduceIte]
  refine hK1 _ ?_; clear hK1
  refine bwp_seq fun K hK => bwp_region rfl ?_
  simp only [go_sem, ↓reduceIte]
  refine hK _ ?_; clear hK
  refine bwp_ret ?_
  simp only [go_sem]
  refine aend_mem (.d (.int .i64 (p + runL (s.drop p) : Nat))) [(0, 0)] [(0, lexC s a rd' 0 0)] ?_ rfl rfl ?_ ⟨rfl, rd', h, rfl⟩
  · simp [resA, resVs, resV, fget]
  · simp [entM, pinv, mget, renL, AV.ren, lexC]
theorem skip_callK {s : List UInt8} (hs : s.length ≤ 140737488351232) {a rd : Nat} (ha : a ≤ s.length) (hr : a ≤ rd ∧ rd ≤ s.length) {j : Nat} {dst : Option Nat} {r : List AOper} {K : St → Prop} {t : Fr} {m : Mem} {n : Nat} (hm : mget m j = some (lexC s a rd 0 0))
    (hk : ∀ rd', rdIn s rd (skipA s a) rd' → runOps Tryz.prog r ⟨putF t dst (.tup []), mset m j (lexC s (skipA s a) rd' 0 0), n + 1⟩ K) : callK Tryz.prog 118 [.ptr j 0] dst r K t m n := by
  refine meth_callK (rest := []) (Q := fun r c' => r = .tup [] ∧ ∃ rd', rdIn s rd (skipA s a) rd' ∧ c' = lexC s (skipA s a) rd' 0 0) ((skip_calls hs ha hr).mono fun r m' h => ?_) rfl rfl ?_ hm ?_
  · obtain ⟨h1, rd', h2, h3⟩ := h
    exact ⟨_, h3, h1, rd', h2, rfl⟩
  · rintro _ _ ⟨rfl, rd', _, rfl⟩; exact ⟨rfl, rfl⟩
  · rintro _ _ ⟨rfl, rd', h, rfl⟩; exact hk rd' h
theorem run_callK {s : List UInt8} (hs : s.length ≤ 140737488351232) {a p rd : Nat} (hp : p ≤ s.length) (hr : p ≤ rd ∧ rd ≤ s.length) {j : Nat} {dst : Option Nat} {r : List AOper} {K : St → Prop} {t : Fr} {m : Mem} {n : Nat} (hm : mget m j = some (lexC s a rd 0 0))
    (hk : ∀ rd', rdIn s rd (p + runL (s.drop p)) rd' → runOps Tryz.prog r ⟨putF t dst (.d (.int .i64 (p + runL (s.drop p) : Nat))), mset m j (lexC s a rd' 0 0), n + 1⟩ K) : callK Tryz.prog 122 [.ptr j 0, .d (.int .i64 p)] dst r K t m n := by
  refine meth_callK (rest := [.d (.int .i64 p)]) (Q := fun r c' => r = .d (.int .i64 (p + runL (s.drop p) : Nat)) ∧ ∃ rd', rdIn s rd (p + runL (s.drop p)) rd' ∧ c' = lexC s a rd' 0 0) ((run_calls hs hp hr).mono fun r m' h => ?_) rfl rfl ?_ hm ?_
  · obtain ⟨h1, rd', h2, h3⟩ := h
    exact ⟨_, h3, h1, rd', h2, rfl⟩
  · rintro _ _ ⟨rfl, rd', _, rfl⟩; exact ⟨rfl, rfl⟩
  · rintro _ _ ⟨rfl, rd', h, rfl⟩; exact hk rd' h
end Go.Proofs.YtpfbljkfbjjlkaaGreatDoor

/- The lexer's signs. -/
namespace Go.Proofs.YtpfbljkfbjjlkaaGreatDoor
open Go Go.Jq
set_option maxRecDepth 100000
set_option linter.unusedSimpArgs false
theorem idx_pure (l : List UInt8) (c : UInt8) : Pure Tryz.prog 140 [.d (.str l), .d (.int .u8 c.toNat)] (.d (.int .i64 (Lib.indexByte l c))) := by
  refine pure_of_below fun cx w vs hr hM => ?_
  simp only [RelL, Rel, RelD] at hr
  obtain ⟨v1, vs1, rfl, rfl, v2, vs2, rfl, rfl, rfl⟩ := hr
  refine (Tryz.strings_IndexByte ⟨l.toArray⟩ c.toNat w).mono ?_
  rintro e w' ⟨rfl, rfl⟩
  refine ⟨_, rfl, rfl, rfl, rfl, Nat.le_refl _, fun _ _ => rfl, ?_⟩
  simp [Rel, RelD]
theorem idx_mem (l : List UInt8) (c : UInt8) : 0 ≤ Lib.indexByte l c ↔ c ∈ l := by
  have hg := Lib.indexByte_ge l c
  constructor
  · intro h
    obtain ⟨o, ho⟩ : ∃ o : Nat, Lib.indexByte l c = o := ⟨(Lib.indexByte l c).toNat, by omega⟩
    exact List.mem_of_getElem? (Lib.indexByte_some ho).1
  · intro h
    obtain ⟨k, hk, e⟩ := List.getElem_of_mem h
    rcases Int.lt_or_le (Lib.indexByte l c) 0 with h1 | h1
    · have : Lib.indexByte l c = -1 := by omega
      exact absurd (by rw [List.getElem?_eq_getElem hk, e]) (Lib.indexByte_none this k)
    · exact h1
def plain : List UInt8 := [123, 125, 59, 58, 43, 45, 42, 38, 124, 94]
theorem ones_iff (c : UInt8) : c ∈ ones ↔ c ∈ plain ∨ c = 60 ∨ c = 61 := by
  simp only [ones, plain, List.mem_cons, List.not_mem_nil, or_false]
  constructor
  · rintro (h | h | h | h | h | h | h | h | h | h | h | h) <;> simp [h]
  · rintro ((h | h | h | h | h | h | h | h | h | h) | h | h) <;> simp [h]
def sgQ (s : List UInt8) (a rd : Nat) (r : AV) (m' : Mem) : Prop :=
  r = .d (.str ((s.drop a).take (signL (s.drop a)))) ∧ ∃ rd', (rd ≤ rd' ∧ a + 1 ≤ rd' ∧ rd' ≤ s.length ∧ (signL (s.drop a) ≠ 0 → a + signL (s.drop a) ≤ rd' ∧ rd' ≤ max rd (a + signL (s.drop a) + 1))) ∧ m' = [(0, lexC s a rd' 0 0)]
set_option maxHeartbeats 16000000 in
theorem sign_calls {s : List UInt8} (hs : s.length ≤ 140737488351232) {a rd : Nat} (ha : a < s.length) (hr : a ≤ rd ∧ rd ≤ s.length) :
    ACalls Tryz.prog 125 [.ptr 0 0] [(0, lexC s a rd 0 0)] (sgQ s a rd) := by
  have hd := drop_at ha
  have hw1 : IntKind.i64.wrap ((a : Int) + 1) = ((a + 1 : Nat) : Int) := by rw [wrap_i64 (by omega) (by omega)]; rfl
  have hp1 := rdW_lt (rd := rd) ha
  refine acalls_of Tryz.func125 ac125_ok Tryz.ntmps125 Tryz.results125 rfl ?_
  unfold ac125
  refine bwp_seq fun K hK => bwp_region rfl ?_
  simp -implicitDefEqProofs only [go_sem, ↓reduceIte]
  refine hK _ ?_; clear hK
  refine bwp_seq fun K hK => bwp_region rfl ?_
  simp -implicitDefEqProofs only [go_sem, ↓reduceIte, lexC]
  refine peek_callK hs a rd 0 0 a rfl ?_
  generalize hc : s.getD a 0 = c at hd
  rw [hp1]
  generalize hm1 : max rd (a + 1) = rd1
  simp -implicitDefEqProofs only [go_sem, ↓reduceIte, lexC, mset]
  refine hK _ ?_; clear hK
  refine bwp_seq fun K1 hK1 => ?_
  refine bwp_seq fun K hK => bwp_region rfl ?_
  simp -implicitDefEqProofs only [go_sem, ↓reduceIte]
  refine hK _ ?_; clear hK
  refine bwp_block ?_
  refine bwp_seq fun K2 hK2 => ?_
  by_cases h60 : (c.toNat : Int) = 60
  · have hcv := u8eq (k := 60) h60
    refine bwp_seq fun K hK => bwp_region rfl ?_
    simp -implicitDefEqProofs only [go_sem, ↓reduceIte, h60]
    refine hK _ ?_; clear hK
    refine bwp_cond true (by simp [ev, fget]) (fun _ => ?_) (fun h => nomatch h)
    refine bwp_skip ?_
    refine hK2 _ ?_; clear hK2
    refine bwp_cond true (by simp [ev, fget]) (fun _ => ?_) (fun h => nomatch h)
    refine bwp_seq fun K hK => bwp_region rfl ?_
    simp -implicitDefEqProofs only [go_sem, ↓reduceIte, hw1]
    refine peek_callK hs a rd1 0 0 (a + 1) rfl ?_
    obtain ⟨rd2, hr2, q1, q2, q3, q4⟩ : ∃ rd2, rdW s rd1 (a + 1) = rd2 ∧ rd1 ≤ rd2 ∧ rd2 ≤ s.length ∧ rd2 ≤ max rd (a + 2) ∧ (a + 1 < s.length → a + 2 ≤ rd2) := ⟨_, rfl, by unfold rdW; split <;> omega⟩
    rw [hr2]
    generalize hd2 : s.getD (a + 1) 0 = d
    simp -implicitDefEqProofs only [go_sem, ↓reduceIte, lexC, mset]
    refine hK _ ?_; clear hK
    by_cases hdd : (d.toNat : Int) = 60
    · have hdv := u8eq (k := 60) hdd
      have hin : a + 1 < s.length := by
        rcases Nat.lt_or_ge (a + 1) s.length with h | h
        · exact h
        · rw [List.getD_eq_getElem?_getD, List.getElem?_eq_none (by omega)] at hd2
          rw [← hd2] at hdv
          cases hdv
      have hdr := drop_at hin
      rw [hd2, hdv] at hdr
      have hsg : signL (s.drop a) = 2 := by rw [hd, hdr, hcv]; rfl
      have hw2 : IntKind.i64.wrap ((a : Int) + 2) = ((a + 2 : Nat) : Int) := by rw [wrap_i64 (by omega) (by omega)]; rfl
      have b0 : (0 : Int) ≤ (a : Int) := Int.natCast_nonneg _
      have b1 : (0 : Int) ≤ ((a + 2 : Nat) : Int) := Int.natCast_nonneg _
      have b2 : a ≤ a + 2 := by omega
      have b3 : a + 2 ≤ s.length := by omega
      have hsl : (s.take (a + 2)).drop a = (s.drop a).take 2 := by rw [List.drop_take]; congr 1; omega
      refine bwp_seq fun K hK => bwp_region rfl ?_
      simp -implicitDefEqProofs only [go_sem, ↓reduceIte, h60, hdd]
      refine hK _ ?_; clear hK
      refine bwp_seq fun K3 hK3 => ?_
      refine bwp_block ?_
      refine bwp_seq fun K hK => bwp_region rfl ?_
      simp -implicitDefEqProofs only [go_sem, ↓reduceIte]
      refine hK _ ?_; clear hK
      refine bwp_cond true (by simp [ev, fget]) (fun _ => ?_) (fun h => nomatch h)
      refine bwp_seq fun K hK => bwp_region_draw rfl rfl ?_
      simp -implicitDefEqProofs only [go_sem, ↓reduceIte, hw2, b0, b1, b2, b3, Int.toNat_natCast, hsl]
      refine ⟨rfl, hK _ ?_⟩; clear hK
      refine bwp_ret ?_
      simp only [go_sem]
      refine aend_mem (.d (.str ((s.drop a).take (signL (s.drop a))))) [(0, 0)] [(0, lexC s a rd2 0 0)] ?_ rfl rfl ?_ ⟨rfl, rd2, ⟨by omega, by omega, by omega, fun _ => by rw [hsg]; omega⟩, rfl⟩
      · simp [resA, resVs, resV, fget, hsg]
      · simp [entM, pinv, mget, mset, renL, AV.ren, lexC]
    · have hdn := u8ne (k := 60) hdd
      have hsg : signL (s.drop a) = 1 := by
        rw [hd, hcv, signL, if_neg, if_pos (by decide)]
        have hh : ¬ s[a + 1]? = some 60 := by
          intro h
          apply hdn
          rw [← hd2, List.getD_eq_getElem?_getD, h]
          rfl
        simp [hh]
      refine bwp_seq fun K hK => bwp_region rfl ?_
      simp -implicitDefEqProofs only [go_sem, ↓reduceIte, h60, hdd]
      refine hK _ ?_; clear hK
      refine bwp_seq fun K3 hK3 => ?_
      refine bwp_block ?_
      refine bwp_seq fun K hK => bwp_region rfl ?_
      simp -implicitDefEqProofs only [go_sem, ↓reduceIte]
      refine hK _ ?_; clear hK
      refine bwp_cond false (by simp [ev, fget]) (fun h => nomatch h) (fun _ => ?_)
      refine bwp_seq fun K hK => bwp_region rfl ?_
      simp -implicitDefEqProofs only [go_sem, ↓reduceIte, h60]
      refine hK _ ?_; clear hK
      refine bwp_cond false (by simp [ev, fget]) (fun h => nomatch h) (fun _ => ?_)
      refine bwp_skip ?_
      refine hK3 _ ?_; clear hK3
      refine bwp_seq fun K hK => bwp_region rfl ?_
      simp -implicitDefEqProofs only [go_sem, ↓reduceIte, h60]
      refine hK _ ?_; clear hK
      refine bwp_ret ?_
      simp only [go_sem]
      refine aend_mem (.d (.str ((s.drop a).take (signL (s.drop a))))) [(0, 0)] [(0, lexC s a rd2 0 0)] ?_ rfl rfl ?_ ⟨rfl, rd2, ⟨by omega, by omega, by omega, fun _ => by rw [hsg]; omega⟩, rfl⟩
      · rw [hsg, hd, hcv]
        simp [resA, resVs, resV, fget]
        rfl
      · simp [entM, pinv, mget, mset, renL, AV.ren, lexC]
  by_cases h62 : (c.toNat : Int) = 62
  · have hcv := u8eq (k := 62) h62
    refine bwp_seq fun K hK => bwp_region rfl ?_
    simp -implicitDefEqProofs only [go_sem, ↓reduceIte, h60]
    refine hK _ ?_; clear hK
    refine bwp_cond false (by simp [ev, fget]) (fun h => nomatch h) (fun _ => ?_)
    refine bwp_seq fun K hK => bwp_region rfl ?_
    simp -implicitDefEqProofs only [go_sem, ↓reduceIte, h62]
    refine hK _ ?_; clear hK
    refine bwp_cond true (by simp [ev, fget]) (fun _ => ?_) (fun h => nomatch h)
    refine bwp_skip ?_
    refine hK2 _ ?_; clear hK2
    refine bwp_cond true (by simp [ev, fget]) (fun _ => ?_) (fun h => nomatch h)
    refine bwp_seq fun K hK => bwp_region rfl ?_
    simp -implicitDefEqProofs only [go_sem, ↓reduceIte, hw1]
    refine peek_callK hs a rd1 0 0 (a + 1) rfl ?_
    obtain ⟨rd2, hr2, q1, q2, q3, q4⟩ : ∃ rd2, rdW s rd1 (a + 1) = rd2 ∧ rd1 ≤ rd2 ∧ rd2 ≤ s.length ∧ rd2 ≤ max rd (a + 2) ∧ (a + 1 < s.length → a + 2 ≤ rd2) := ⟨_, rfl, by unfold rdW; split <;> omega⟩
    rw [hr2]
    generalize hd2 : s.getD (a + 1) 0 = d
    simp -implicitDefEqProofs only [go_sem, ↓reduceIte, lexC, mset]
    refine hK _ ?_; clear hK
    by_cases hdd : (d.toNat : Int) = 62
    · have hdv := u8eq (k := 62) hdd
      have hin : a + 1 < s.length := by
        rcases Nat.lt_or_ge (a + 1) s.length with h | h
        · exact h
        · rw [List.getD_eq_getElem?_getD, List.getElem?_eq_none (by omega)] at hd2
          rw [← hd2] at hdv
          cases hdv
      have hdr := drop_at hin
      rw [hd2, hdv] at hdr
      have hsg : signL (s.drop a) = 2 := by rw [hd, hdr, hcv]; rfl
      have hw2 : IntKind.i64.wrap ((a : Int) + 2) = ((a + 2 : Nat) : Int) := by rw [wrap_i64 (by omega) (by omega)]; rfl
      have b0 : (0 : Int) ≤ (a : Int) := Int.natCast_nonneg _
      have b1 : (0 : Int) ≤ ((a + 2 : Nat) : Int) := Int.natCast_nonneg _
      have b2 : a ≤ a + 2 := by omega
      have b3 : a + 2 ≤ s.length := by omega
      have hsl : (s.take (a + 2)).drop a = (s.drop a).take 2 := by rw [List.drop_take]; congr 1; omega
      refine bwp_seq fun K hK => bwp_region rfl ?_
      simp -implicitDefEqProofs only [go_sem, ↓reduceIte, h60, h62, hdd]
      refine hK _ ?_; clear hK
      refine bwp_seq fun K3 hK3 => ?_
      refine bwp_block ?_
      refine bwp_seq fun K hK => bwp_region rfl ?_
      simp -implicitDefEqProofs only [go_sem, ↓reduceIte]
      refine hK _ ?_; clear hK
      refine bwp_cond true (by simp [ev, fget]) (fun _ => ?_) (fun h => nomatch h)
      refine bwp_seq fun K hK => bwp_region_draw rfl rfl ?_
      simp -implicitDefEqProofs only [go_sem, ↓reduceIte, hw2, b0, b1, b2, b3, Int.toNat_natCast, hsl]
      refine ⟨rfl, hK _ ?_⟩; clear hK
      refine bwp_ret ?_
      simp only [go_sem]
      refine aend_mem (.d (.str ((s.drop a).take (signL (s.drop a))))) [(0, 0)] [(0, lexC s a rd2 0 0)] ?_ rfl rfl ?_ ⟨rfl, rd2, ⟨by omega, by omega, by omega, fun _ => by rw [hsg]; omega⟩, rfl⟩
      · simp [resA, resVs, resV, fget, hsg]
      · simp [entM, pinv, mget, mset, renL, AV.ren, lexC]
    · have hdn := u8ne (k := 62) hdd
      have hsg : signL (s.drop a) = 0 := by
        rw [hd, hcv, signL, if_neg, if_neg (by decide)]
        have hh : ¬ s[a + 1]? = some 62 := by
          intro h
          apply hdn
          rw [← hd2, List.getD_eq_getElem?_getD, h]
          rfl
        simp [hh]
      refine bwp_seq fun K hK => bwp_region rfl ?_
      simp -implicitDefEqProofs only [go_sem, ↓reduceIte, h60, h62, hdd]
      refine hK _ ?_; clear hK
      refine bwp_seq fun K3 hK3 => ?_
      refine bwp_block ?_
      refine bwp_seq fun K hK => bwp_region rfl ?_
      simp -implicitDefEqProofs only [go_sem, ↓reduceIte]
      refine hK _ ?_; clear hK
      refine bwp_cond false (by simp [ev, fget]) (fun h => nomatch h) (fun _ => ?_)
      refine bwp_seq fun K hK => bwp_region rfl ?_
      simp -implicitDefEqProofs only [go_sem, ↓reduceIte, h60, h62]
      refine hK _ ?_; clear hK
      refine bwp_cond true (by simp [ev, fget]) (fun _ => ?_) (fun h => nomatch h)
      refine bwp_seq fun K hK => bwp_region rfl ?_
      simp -implicitDefEqProofs only [go_sem, ↓reduceIte]
      refine hK _ ?_; clear hK
      refine bwp_ret ?_
      simp only [go_sem]
      refine aend_mem (.d (.str ((s.drop a).take (signL (s.drop a))))) [(0, 0)] [(0, lexC s a rd2 0 0)] ?_ rfl rfl ?_ ⟨rfl, rd2, ⟨by omega, by omega, by omega, fun h => absurd hsg h⟩, rfl⟩
      · rw [hsg]
        simp [resA, resVs, resV, fget]
      · simp [entM, pinv, mget, mset, renL, AV.ren, lexC]
  by_cases h61 : (c.toNat : Int) = 61
  · have hcv := u8eq (k := 61) h61
    refine bwp_seq fun K hK => bwp_region rfl ?_
    simp -implicitDefEqProofs only [go_sem, ↓reduceIte, h60]
    refine hK _ ?_; clear hK
    refine bwp_cond false (by simp [ev, fget]) (fun h => nomatch h) (fun _ => ?_)
    refine bwp_seq fun K hK => bwp_region rfl ?_
    simp -implicitDefEqProofs only [go_sem, ↓reduceIte, h62]
    refine hK _ ?_; clear hK
    refine bwp_cond false (by simp [ev, fget]) (fun h => nomatch h) (fun _ => ?_)
    refine bwp_seq fun K hK => bwp_region rfl ?_
    simp -implicitDefEqProofs only [go_sem, ↓reduceIte, h61]
    refine hK _ ?_; clear hK
    refine bwp_cond true (by simp [ev, fget]) (fun _ => ?_) (fun h => nomatch h)
    refine bwp_skip ?_
    refine hK2 _ ?_; clear hK2
    refine bwp_cond true (by simp [ev, fget]) (fun _ => ?_) (fun h => nomatch h)
    refine bwp_seq fun K hK => bwp_region rfl ?_
    simp -implicitDefEqProofs only [go_sem, ↓reduceIte, hw1]
    refine peek_callK hs a rd1 0 0 (a + 1) rfl ?_
    obtain ⟨rd2, hr2, q1, q2, q3, q4⟩ : ∃ rd2, rdW s rd1 (a + 1) = rd2 ∧ rd1 ≤ rd2 ∧ rd2 ≤ s.length ∧ rd2 ≤ max rd (a + 2) ∧ (a + 1 < s.length → a + 2 ≤ rd2) := ⟨_, rfl, by unfold rdW; split <;> omega⟩
    rw [hr2]
    generalize hd2 : s.getD (a + 1) 0 = d
    simp -implicitDefEqProofs only [go_sem, ↓reduceIte, lexC, mset]
    refine hK _ ?_; clear hK
    by_cases hdd : (d.toNat : Int) = 61
    · have hdv := u8eq (k := 61) hdd
      have hin : a + 1 < s.length := by
        rcases Nat.lt_or_ge (a + 1) s.length with h | h
        · exact h
        · rw [List.getD_eq_getElem?_getD, List.getElem?_eq_none (by omega)] at hd2
          rw [← hd2] at hdv
          cases hdv
      have hdr := drop_at hin
      rw [hd2, hdv] at hdr
      have hsg : signL (s.drop a) = 2 := by rw [hd, hdr, hcv]; rfl
      have hw2 : IntKind.i64.wrap ((a : Int) + 2) = ((a + 2 : Nat) : Int) := by rw [wrap_i64 (by omega) (by omega)]; rfl
      have b0 : (0 : Int) ≤ (a : Int) := Int.natCast_nonneg _
      have b1 : (0 : Int) ≤ ((a + 2 : Nat) : Int) := Int.natCast_nonneg _
      have b2 : a ≤ a + 2 := by omega
      have b3 : a + 2 ≤ s.length := by omega
      have hsl : (s.take (a + 2)).drop a = (s.drop a).take 2 := by rw [List.drop_take]; congr 1; omega
      refine bwp_seq fun K hK => bwp_region rfl ?_
      simp -implicitDefEqProofs only [go_sem, ↓reduceIte, h60, h62, h61, hdd]
      refine hK _ ?_; clear hK
      refine bwp_seq fun K3 hK3 => ?_
      refine bwp_block ?_
      refine bwp_seq fun K hK => bwp_region rfl ?_
      simp -implicitDefEqProofs only [go_sem, ↓reduceIte]
      refine hK _ ?_; clear hK
      refine bwp_cond true (by simp [ev, fget]) (fun _ => ?_) (fun h => nomatch h)
      refine bwp_seq fun K hK => bwp_region_draw rfl rfl ?_
      simp -implicitDefEqProofs only [go_sem, ↓reduceIte, hw2, b0, b1, b2, b3, Int.toNat_natCast, hsl]
      refine ⟨rfl, hK _ ?_⟩; clear hK
      refine bwp_ret ?_
      simp only [go_sem]
      refine aend_mem (.d (.str ((s.drop a).take (signL (s.drop a))))) [(0, 0)] [(0, lexC s a rd2 0 0)] ?_ rfl rfl ?_ ⟨rfl, rd2, ⟨by omega, by omega, by omega, fun _ => by rw [hsg]; omega⟩, rfl⟩
      · simp [resA, resVs, resV, fget, hsg]
      · simp [entM, pinv, mget, mset, renL, AV.ren, lexC]
    · have hdn := u8ne (k := 61) hdd
      have hsg : signL (s.drop a) = 1 := by
        rw [hd, hcv, signL, if_neg, if_pos (by decide)]
        have hh : ¬ s[a + 1]? = some 61 := by
          intro h
          apply hdn
          rw [← hd2, List.getD_eq_getElem?_getD, h]
          rfl
        simp [hh]
      refine bwp_seq fun K hK => bwp_region rfl ?_
      simp -implicitDefEqProofs only [go_sem, ↓reduceIte, h60, h62, h61, hdd]
      refine hK _ ?_; clear hK
      refine bwp_seq fun K3 hK3 => ?_
      refine bwp_block ?_
      refine bwp_seq fun K hK => bwp_region rfl ?_
      simp -implicitDefEqProofs only [go_sem, ↓reduceIte]
      refine hK _ ?_; clear hK
      refine bwp_cond false (by simp [ev, fget]) (fun h => nomatch h) (fun _ => ?_)
      refine bwp_seq fun K hK => bwp_region rfl ?_
      simp -implicitDefEqProofs only [go_sem, ↓reduceIte, h60, h62, h61]
      refine hK _ ?_; clear hK
      refine bwp_cond false (by simp [ev, fget]) (fun h => nomatch h) (fun _ => ?_)
      refine bwp_skip ?_
      refine hK3 _ ?_; clear hK3
      refine bwp_seq fun K hK => bwp_region rfl ?_
      simp -implicitDefEqProofs only [go_sem, ↓reduceIte, h60, h62, h61]
      refine hK _ ?_; clear hK
      refine bwp_ret ?_
      simp only [go_sem]
      refine aend_mem (.d (.str ((s.drop a).take (signL (s.drop a))))) [(0, 0)] [(0, lexC s a rd2 0 0)] ?_ rfl rfl ?_ ⟨rfl, rd2, ⟨by omega, by omega, by omega, fun _ => by rw [hsg]; omega⟩, rfl⟩
      · rw [hsg, hd, hcv]
        simp [resA, resVs, resV, fget]
        rfl
      · simp [entM, pinv, mget, mset, renL, AV.ren, lexC]
  by_cases h33 : (c.toNat : Int) = 33
  · have hcv := u8eq (k := 33) h33
    refine bwp_seq fun K hK => bwp_region rfl ?_
    simp -implicitDefEqProofs only [go_sem, ↓reduceIte, h60]
    refine hK _ ?_; clear hK
    refine bwp_cond false (by simp [ev, fget]) (fun h => nomatch h) (fun _ => ?_)
    refine bwp_seq fun K hK => bwp_region rfl ?_
    simp -implicitDefEqProofs only [go_sem, ↓reduceIte, h62]
    refine hK _ ?_; clear hK
    refine bwp_cond false (by simp [ev, fget]) (fun h => nomatch h) (fun _ => ?_)
    refine bwp_seq fun K hK => bwp_region rfl ?_
    simp -implicitDefEqProofs only [go_sem, ↓reduceIte, h61]
    refine hK _ ?_; clear hK
    refine bwp_cond false (by simp [ev, fget]) (fun h => nomatch h) (fun _ => ?_)
    refine bwp_region rfl ?_
    simp -implicitDefEqProofs only [go_sem, ↓reduceIte, h33]
    refine hK2 _ ?_; clear hK2
    refine bwp_cond true (by simp [ev, fget]) (fun _ => ?_) (fun h => nomatch h)
    refine bwp_seq fun K hK => bwp_region rfl ?_
    simp -implicitDefEqProofs only [go_sem, ↓reduceIte, hw1]
    refine peek_callK hs a rd1 0 0 (a + 1) rfl ?_
    obtain ⟨rd2, hr2, q1, q2, q3, q4⟩ : ∃ rd2, rdW s rd1 (a + 1) = rd2 ∧ rd1 ≤ rd2 ∧ rd2 ≤ s.length ∧ rd2 ≤ max rd (a + 2) ∧ (a + 1 < s.length → a + 2 ≤ rd2) := ⟨_, rfl, by unfold rdW; split <;> omega⟩
    rw [hr2]
    generalize hd2 : s.getD (a + 1) 0 = d
    simp -implicitDefEqProofs only [go_sem, ↓reduceIte, lexC, mset]
    refine hK _ ?_; clear hK
    by_cases hdd : (d.toNat : Int) = 61
    · have hdv := u8eq (k := 61) hdd
      have hin : a + 1 < s.length := by
        rcases Nat.lt_or_ge (a + 1) s.length with h | h
        · exact h
        · rw [List.getD_eq_getElem?_getD, List.getElem?_eq_none (by omega)] at hd2
          rw [← hd2] at hdv
          cases hdv
      have hdr := drop_at hin
      rw [hd2, hdv] at hdr
      have hsg : signL (s.drop a) = 2 := by rw [hd, hdr, hcv]; rfl
      have hw2 : IntKind.i64.wrap ((a : Int) + 2) = ((a + 2 : Nat) : Int) := by rw [wrap_i64 (by omega) (by omega)]; rfl
      have b0 : (0 : Int) ≤ (a : Int) := Int.natCast_nonneg _
      have b1 : (0 : Int) ≤ ((a + 2 : Nat) : Int) := Int.natCast_nonneg _
      have b2 : a ≤ a + 2 := by omega
      have b3 : a + 2 ≤ s.length := by omega
      have hsl : (s.take (a + 2)).drop a = (s.drop a).take 2 := by rw [List.drop_take]; congr 1; omega
      refine bwp_seq fun K hK => bwp_region rfl ?_
      simp -implicitDefEqProofs only [go_sem, ↓reduceIte, h60, h62, h61, h33, hdd]
      refine hK _ ?_; clear hK
      refine bwp_seq fun K3 hK3 => ?_
      refine bwp_block ?_
      refine bwp_seq fun K hK => bwp_region rfl ?_
      simp -implicitDefEqProofs only [go_sem, ↓reduceIte]
      refine hK _ ?_; clear hK
      refine bwp_cond true (by simp [ev, fget]) (fun _ => ?_) (fun h => nomatch h)
      refine bwp_seq fun K hK => bwp_region_draw rfl rfl ?_
      simp -implicitDefEqProofs only [go_sem, ↓reduceIte, hw2, b0, b1, b2, b3, Int.toNat_natCast, hsl]
      refine ⟨rfl, hK _ ?_⟩; clear hK
      refine bwp_ret ?_
      simp only [go_sem]
      refine aend_mem (.d (.str ((s.drop a).take (signL (s.drop a))))) [(0, 0)] [(0, lexC s a rd2 0 0)] ?_ rfl rfl ?_ ⟨rfl, rd2, ⟨by omega, by omega, by omega, fun _ => by rw [hsg]; omega⟩, rfl⟩
      · simp [resA, resVs, resV, fget, hsg]
      · simp [entM, pinv, mget, mset, renL, AV.ren, lexC]
    · have hdn := u8ne (k := 61) hdd
      have hsg : signL (s.drop a) = 0 := by
        rw [hd, hcv, signL, if_neg, if_neg (by decide)]
        have hh : ¬ s[a + 1]? = some 61 := by
          intro h
          apply hdn
          rw [← hd2, List.getD_eq_getElem?_getD, h]
          rfl
        simp [hh]
      refine bwp_seq fun K hK => bwp_region rfl ?_
      simp -implicitDefEqProofs only [go_sem, ↓reduceIte, h60, h62, h61, h33, hdd]
      refine hK _ ?_; clear hK
      refine bwp_seq fun K3 hK3 => ?_
      refine bwp_block ?_
      refine bwp_seq fun K hK => bwp_region rfl ?_
      simp -implicitDefEqProofs only [go_sem, ↓reduceIte]
      refine hK _ ?_; clear hK
      refine bwp_cond false (by simp [ev, fget]) (fun h => nomatch h) (fun _ => ?_)
      refine bwp_seq fun K hK => bwp_region rfl ?_
      simp -implicitDefEqProofs only [go_sem, ↓reduceIte, h60, h62, h61, h33]
      refine hK _ ?_; clear hK
      refine bwp_cond true (by simp [ev, fget]) (fun _ => ?_) (fun h => nomatch h)
      refine bwp_seq fun K hK => bwp_region rfl ?_
      simp -implicitDefEqProofs only [go_sem, ↓reduceIte]
      refine hK _ ?_; clear hK
      refine bwp_ret ?_
      simp only [go_sem]
      refine aend_mem (.d (.str ((s.drop a).take (signL (s.drop a))))) [(0, 0)] [(0, lexC s a rd2 0 0)] ?_ rfl rfl ?_ ⟨rfl, rd2, ⟨by omega, by omega, by omega, fun h => absurd hsg h⟩, rfl⟩
      · rw [hsg]
        simp [resA, resVs, resV, fget]
      · simp [entM, pinv, mget, mset, renL, AV.ren, lexC]
  refine bwp_seq fun K hK => bwp_region rfl ?_
  simp -implicitDefEqProofs only [go_sem, ↓reduceIte, h60]
  refine hK _ ?_; clear hK
  refine bwp_cond false (by simp [ev, fget]) (fun h => nomatch h) (fun _ => ?_)
  refine bwp_seq fun K hK => bwp_region rfl ?_
  simp -implicitDefEqProofs only [go_sem, ↓reduceIte, h62]
  refine hK _ ?_; clear hK
  refine bwp_cond false (by simp [ev, fget]) (fun h => nomatch h) (fun _ => ?_)
  refine bwp_seq fun K hK => bwp_region rfl ?_
  simp -implicitDefEqProofs only [go_sem, ↓reduceIte, h61]
  refine hK _ ?_; clear hK
  refine bwp_cond false (by simp [ev, fget]) (fun h => nomatch h) (fun _ => ?_)
  refine bwp_region rfl ?_
  simp -implicitDefEqProofs only [go_sem, ↓reduceIte, h33]
  refine hK2 _ ?_; clear hK2
  refine bwp_cond false (by simp [ev, fget]) (fun h => nomatch h) (fun _ => ?_)
  refine bwp_skip ?_
  refine hK1 _ ?_; clear hK1
  have n60 := u8ne (k := 60) h60
  have n62 := u8ne (k := 62) h62
  have n61 := u8ne (k := 61) h61
  have n33 := u8ne (k := 33) h33
  have hsg : signL (s.drop a) = if c ∈ plain then 1 else 0 := by
    rw [hd, signL, if_neg (by simp [n60, n62, n61, n33])]
    simp [ones_iff, n60, n61]
  have ki := idx_pure plain c
  refine bwp_seq fun K1 hK1 => ?_
  by_cases hm : c ∈ plain
  · rw [if_pos hm] at hsg
    have h0 : ¬ (c.toNat : Int) = 0 := by
      intro h
      have := u8eq (k := 0) h
      rw [this] at hm
      revert hm; decide
    have hi := (idx_mem plain c).2 hm
    generalize Lib.indexByte plain c = ix at ki hi
    unfold plain at ki
    refine bwp_seq fun K hK => bwp_region rfl ?_
    simp -implicitDefEqProofs only [go_sem, ↓reduceIte, h0]
    repeat' (first
      | (refine gateK_split (fun hb => ?_) (fun hb => ?_) <;> simp -implicitDefEqProofs only [go_sem, ↓reduceIte, hb, h0, hi])
      | (refine dGateK_split (fun hb => ?_) (fun hb => ?_) <;> simp -implicitDefEqProofs only [go_sem, ↓reduceIte, hb, h0, hi])
      | (refine callK_pure (ki) rfl rfl ?_; simp -implicitDefEqProofs only [go_sem, ↓reduceIte, h0, hi])
      | (refine dCallK_pure (ki) rfl rfl ?_; simp -implicitDefEqProofs only [go_sem, ↓reduceIte, h0, hi])
      | (rw [if_pos (by (try simp only [List.length_append, List.length_cons, List.length_nil, List.length_map]); omega)]; simp -implicitDefEqProofs only [go_sem, ↓reduceIte, h0, hi]))
    refine hK _ ?_; clear hK
    refine bwp_cond true (by simp [ev, fget]) (fun _ => ?_) (fun h => nomatch h)
    have henc : ∀ k ∈ plain, (Utf8.encode (k.toNat : Int)).data.toList = [k] := by decide
    refine bwp_seq fun K hK => bwp_region rfl ?_
    simp -implicitDefEqProofs only [go_sem, ↓reduceIte]
    refine hK _ ?_; clear hK
    refine bwp_ret ?_
    simp only [go_sem]
    refine aend_mem (.d (.str ((s.drop a).take (signL (s.drop a))))) [(0, 0)] [(0, lexC s a rd1 0 0)] ?_ rfl rfl ?_ ⟨rfl, rd1, ⟨by omega, by omega, by omega, fun _ => by rw [hsg]; omega⟩, rfl⟩
    · rw [hsg, hd]
      simp [resA, resVs, resV, fget, henc c hm]
    · simp [entM, pinv, mget, mset, renL, AV.ren, lexC]
  · rw [if_neg hm] at hsg
    have hi : ¬ 0 ≤ Lib.indexByte plain c := fun h => hm ((idx_mem plain c).1 h)
    by_cases h0 : (c.toNat : Int) = 0
    · refine bwp_seq fun K hK => bwp_region rfl ?_
      simp -implicitDefEqProofs only [go_sem, ↓reduceIte, h0]
      refine hK _ ?_; clear hK
      refine bwp_cond false (by simp [ev, fget]) (fun h => nomatch h) (fun _ => ?_)
      refine bwp_skip ?_
      refine hK1 _ ?_; clear hK1
      refine bwp_seq fun K hK => bwp_region rfl ?_
      simp -implicitDefEqProofs only [go_sem, ↓reduceIte]
      refine hK _ ?_; clear hK
      refine bwp_ret ?_
      simp only [go_sem]
      refine aend_mem (.d (.str ((s.drop a).take (signL (s.drop a))))) [(0, 0)] [(0, lexC s a rd1 0 0)] ?_ rfl rfl ?_ ⟨rfl, rd1, ⟨by omega, by omega, by omega, fun h => absurd hsg h⟩, rfl⟩
      · rw [hsg]
        simp [resA, resVs, resV, fget]
      · simp [entM, pinv, mget, mset, renL, AV.ren, lexC]
    · generalize Lib.indexByte plain c = ix at ki hi
      unfold plain at ki
      refine bwp_seq fun K hK => bwp_region rfl ?_
      simp -implicitDefEqProofs only [go_sem, ↓reduceIte, h0]
      repeat' (first
        | (refine gateK_split (fun hb => ?_) (fun hb => ?_) <;> simp -implicitDefEqProofs only [go_sem, ↓reduceIte, hb, h0, hi])
        | (refine dGateK_split (fun hb => ?_) (fun hb => ?_) <;> simp -implicitDefEqProofs only [go_sem, ↓reduceIte, hb, h0, hi])
        | (refine callK_pure (ki) rfl rfl ?_; simp -implicitDefEqProofs only [go_sem, ↓reduceIte, h0, hi])
        | (refine dCallK_pure (ki) rfl rfl ?_; simp -implicitDefEqProofs only [go_sem, ↓reduceIte, h0, hi])
        | (rw [if_pos (by (try simp only [List.length_append, List.length_cons, List.length_nil, List.length_map]); omega)]; simp -implicitDefEqProofs only [go_sem, ↓reduceIte, h0, hi]))
      refine hK _ ?_; clear hK
      refine bwp_cond false (by simp [ev, fget]) (fun h => nomatch h) (fun _ => ?_)
      refine bwp_skip ?_
      refine hK1 _ ?_; clear hK1
      refine bwp_seq fun K hK => bwp_region rfl ?_
      simp -implicitDefEqProofs only [go_sem, ↓reduceIte]
      refine hK _ ?_; clear hK
      refine bwp_ret ?_
      simp only [go_sem]
      refine aend_mem (.d (.str ((s.drop a).take (signL (s.drop a))))) [(0, 0)] [(0, lexC s a rd1 0 0)] ?_ rfl rfl ?_ ⟨rfl, rd1, ⟨by omega, by omega, by omega, fun h => absurd hsg h⟩, rfl⟩
      · rw [hsg]
        simp [resA, resVs, resV, fget]
      · simp [entM, pinv, mget, mset, renL, AV.ren, lexC]
end Go.Proofs.YtpfbljkfbjjlkaaGreatDoor
