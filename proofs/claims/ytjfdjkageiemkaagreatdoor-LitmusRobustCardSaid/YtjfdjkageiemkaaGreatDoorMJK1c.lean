/- What the statement's proof leans on, part 3: the layer, the walks, the plain laws. Names and blanks are short to keep the claim within its limit of bytes. -/
import Derived.Test.YtjfdjkageiemkaaGreatDoorProg
import Derived.Test.YtjfdjkageiemkaaGreatDoorMJK1a
import Derived.KernelRfl
import Derived.Shelf.Strings.Builder1
import Derived.Shelf.Strings.Builder2
import Derived.Shelf.Strings.OnBuilder
import Derived.Shelf.Small.Bits
import Derived.Shelf.Small.Strs
import Derived.Shelf.Strconv.Itoa0
import Derived.Shelf.Strconv.Itoa1
import Derived.Shelf.LaysM
import Derived.Shelf.Strconv.Itoa2
import Derived.Shelf.Strconv.Itoa3
import Derived.Shelf.Strconv.Itoa4
import Derived.Shelf.Strconv.ParseIntEmpty
import Derived.Shelf.Strconv.Clone
import Derived.Shelf.Strconv.SyntaxError
import Derived.Shelf.LaysC
import Derived.Shelf.Strconv.ToError
import Derived.Shelf.Strconv.Lower
import Derived.Shelf.Strconv.ParseUint10
import Derived.Shelf.Strconv.ParseUint10Empty
import Derived.Shelf.Strconv.ParseUint10Any
import Derived.Shelf.Strconv.ParseInt10
import Derived.Shelf.Strconv.RangeError
import Derived.Shelf.Strconv.ToErrorRange
import Derived.Shelf.Strconv.ParseUintEmpty
import Derived.Shelf.Strconv.ParseUint10b64
import Derived.Shelf.Strconv.ParseUint10b32
import Derived.Shelf.Strconv.ParseUint10b16
import Derived.Shelf.Strconv.ParseUint10b8
import Derived.Shelf.Strconv.ParseUint10At
import Derived.Shelf.Strconv.ParseInt10At64
import Derived.Shelf.Strconv.ParseInt10At32
import Derived.Shelf.Strconv.ParseInt10At16
import Derived.Shelf.Strconv.ParseInt10At8
import Derived.Shelf.Strconv.ParseInt10All
import Derived.Shelf.Strconv.ParseIntPublic10
import Derived.Shelf.Strconv.ErrVarParseInt
import Derived.Shelf.Strings.Search1
import Derived.Test.YtjfdjkageiemkaaGreatDoorMJK1b
import Derived.Lib.Join
import Derived.Lib.Walk
set_option linter.unusedSimpArgs false
set_option linter.unusedVariables false
set_option maxRecDepth 100000
open List renaming map_map → acU, length_map → acY, drop_zero → ac3, getElem?_eq_getElem → ac6, range → ac7, take_of_length_le → ac8, replicate → ada, length_append → adk, getD_eq_getElem?_getD → adl, flatMap_cons → adr, length_cons → ads, getElem_mem → adt, mem_cons_self → adw, mem_cons_of_mem → adx, length_nil → adz, foldl_cons → adB, map_append → adC, nil_append → adF, take_add_one → adG
open Nat renaming le_refl → acV, zero_add → ac2
open Int renaming toNat_natCast → acW, natCast_nonneg → acX
open Bool renaming false_eq_true → ac5, and_self → adg, false_and → adi, and_false → adm, and_eq_true → adn
open Go.IntKind renaming i64 → ac9, u64 → adA
open Option renaming isSome_none → adb, isSome_some → adj, map_some → ady, getD_some → adE
open Option.some renaming injEq → adh
namespace Go.Proofs.YtjfdjkageiemkaaGreatDoor
open Go.Proofs.Tryz
open Go.Proofs.Tryz renaming prog → aM
section
open Go Go.Jq
@[reducible]def kI (n:Int):cR:=.c (.d (.int .i64 n))
@[reducible]def sd:cR:=.c (.d (.bool true))
@[reducible]def fA:cR:=.c (.d (.bool false))
@[reducible]def kMv (x:Nat):im:=.mv (.t x)
@[reducible]def kFa (x k:Nat):im:=.c7 (.t x) k
@[reducible]def kLd (x:Nat):im:=.load none (.t x)
@[reducible]def oT (k x:Nat):im:=.load (some k) (.t x)
@[reducible]def uI (o:BinOp) (x y:Nat):im:=.bin o (.t x) (.t y)
@[reducible]def jb (o:BinOp) (x:Nat) (n:Int):im:=.bin o (.t x) (kI n)
@[reducible]def BZ (x y:Nat):im:=.pick (.t x) (.t y) fA
@[reducible]def Nz (x y:Nat):im:=.pick (.t x) sd (.t y)
@[reducible]def ar (d x:Nat):bA:=oM d (kMv x)
@[reducible]def bg (d x k:Nat):bA:=oM d (kFa x k)
@[reducible]def bQ (d x:Nat):bA:=oM d (kLd x)
@[reducible]def cL (d k x:Nat):bA:=oM d (oT k x)
@[reducible]def ey (o:BinOp) (d x y:Nat):bA:=oM d (uI o x y)
@[reducible]def ca (o:BinOp) (d x:Nat) (n:Int):bA:=oM d (jb o x n)
@[reducible]def iA (d x y:Nat):bA:=oM d (BZ x y)
@[reducible]def jX (d x y:Nat):bA:=oM d (Nz x y)
@[reducible]def iN (d x:Nat) (i:Nat):bA:=oM d (.ext (.t x) i)
@[reducible]def bw (d:Nat) (x:cR):bA:=oM d (.mv x)
@[reducible]def cq (d:Nat) (f:Nat) (l:List cR):bA:=oM d (.bW f l)
@[reducible]def cM (k a v:Nat):bA:=⟨none,.store k (.t a) (.t v),none⟩
@[reducible]def zI:AV:=.d (.int .i64 0)
@[reducible]def zB:AV:=.d (.bool false)
@[reducible]def zS:AV:=.d (.str [])
@[reducible]def zN:AV:=.d .cE
@[reducible]def jj (x:Nat):im:=.un .not (.t x)
@[reducible]def nj (x:Nat):im:=.xA (.t x)
@[reducible]def gz (d x:Nat):bA:=oM d (nj x)
@[reducible]def NA (x:Nat):im:=.gu (.t x)
@[reducible]def fP (d x:Nat):bA:=oM d (NA x)
@[reducible]def cw (x:Nat):im:=.box (.t x)
@[reducible]def Yi (e x y:Nat):im:=.bS e none (.t x) (.t y)
@[reducible]def jy (d e x y:Nat):bA:=oM d (Yi e x y)
@[reducible]def db (d:Nat) (a:im) (g:Nat):bA:=oG d a g true
@[reducible]def j4 (d x k g:Nat):bA:=db d (kFa x k) g
@[reducible]def lu (d x g:Nat):bA:=db d (kLd x) g
@[reducible]def jI (d x g:Nat):bA:=db d (kMv x) g
@[reducible]def dI (d:Nat) (a:im) (g:Nat):bA:=oG d a g false
@[reducible]def nI (d x k g:Nat):bA:=dI d (kFa x k) g
@[reducible]def pE (d x g:Nat):bA:=dI d (kLd x) g
@[reducible]def l9 (d x g:Nat):bA:=dI d (kMv x) g
@[reducible]def mF (c:aG):aG:=.block 0 (.loop c)
@[reducible]def kR (l:List bA):aG:=.region false l []
@[reducible]def kS (l:List bA) (c:aG):aG:=.seq (.region false l []) c
@[reducible]def kD (l:List bA) (m:List Nat) (c:aG):aG:=.seq (.region true l m) c
@[reducible]def kC (x:Nat) (a:aG):aG:=.cond (.t x) a .skip
@[reducible]def kE (x:Nat):aG:=.cond (.t x) .skip (.exit 0)
@[reducible]noncomputable def di (f:Func):Option aG:=f.body.bind (ct Tryz.prog f.ntmps)
def ZN:aG:=kS [oM 1 (cw 0),bw 2 fA] (kS [bw 3 (.c (.fn 134 []))] (kS [bg 4 1 0,bQ 5 4,cq 6 138 [.t 5],ar 7 6,j4 8 1 1 7,lu 9 8 7,db 10 (.bW 139 [.t 9,.c (.fn 140 [])]) 7,db 11 (jj 10) 7,iA 12 7 11,ar 13 12,j4 14 1 2 13,lu 15 14 13,jI 16 3 13,db 17 (.bW 142 [.t 15,.t 16]) 13,db 18 (jj 17) 13,iA 19 13 18,ar 20 19,j4 21 1 3 20,db 22 (oT 2 21) 20,db 23 (.bW 143 [.t 22]) 20,iA 24 20 23,ar 2 24] .ret))
theorem RY:di f80=some ZN:=by kernel_rfl
def TU:aG:=kS [oM 3 (cw 0),oM 4 (cw 1),bw 6 (kI 0)] (kS [cL 10 3 3,cL 11 2 4,ar 12 2,cq 13 164 [.t 10,.t 11,.t 12],ar 9 13,iN 14 9 0,iN 15 9 1,ar 7 14,ar 8 15] (.seq (kS [bg 16 4 0,bQ 17 16] (.block 0 (kS [ca .eql 19 17 1,ar 18 19] (.cond (.t 18) (kS [ar 20 7,ca .gtr 21 20 0,cq 22 165 [.t 21],ar 6 22] .ret) (kS [ca .eql 24 17 2,ar 23 24] (kC 23 (kS [ar 25 8,ca .eql 26 25 0,cq 27 165 [.t 26],ar 6 27] .ret))))))) (kS [bw 6 (kI 0)] .ret)))
theorem NB:di f100=some TU:=by kernel_rfl
def IK:aG:=kS [ey .lss 25 24 23] (.seq (.cond (.t 25) .skip (.exit 1)) (.seq (.block 2 (kS [jy 26 1 22 24,bQ 27 26,ar 4 27] (kS [ar 28 4,oM 29 (.o7 183 [.t 1]),cq 30 182 [.t 28,.t 29]] (kC 30 (kS [bw 2 (kI 10)] .ret))))) (kR [ca .add 31 24 1,ar 24 31])))
def TV:aG:=kS [oM 1 (cw 0),bw 2 (kI 0)] (.seq (.block 0 (kS [cL 6 5 1,cq 7 80 [.t 6],oM 8 (jj 7),ar 5 8] (.cond (.t 5) (kS [bw 2 (kI 1)] .ret) (kS [cL 10 5 1,cq 11 178 [.t 10],ar 9 11] (.cond (.t 9) (kS [bw 2 (kI 8)] .ret) (kS [bg 13 1 1,bQ 14 13,cq 15 179 [.t 14],ar 12 15] (.cond (.t 12) (kS [bw 2 (kI 9)] .ret) (kS [bg 17 1 2,bQ 18 17,cq 19 142 [.t 18,.c (.fn 180 [])],ar 16 19] (kC 16 (kS [bw 2 (kI 10)] .ret)))))))))) (.seq (kS [bg 20 1 3,bg 21 20 1,bQ 22 21,gz 23 22,bw 24 (kI 0)] (.block 1 (.loop IK))) (kS [bw 2 (kI 0)] .ret)))
theorem NC:di f105=some TV:=by kernel_rfl
def TW:aG:=kS [bw 2 fA] (kS [ar 3 0,cq 4 135 [.t 3,.c (.fn 136 [])],ar 2 4] .ret)
theorem ND:di f134=some TW:=by kernel_rfl
def TX:aG:=kS [bw 4 fA] (kS [ar 5 0,ar 6 1,cq 7 213 [.t 5,.t 6],ca .geq 8 7 0,ar 4 8] .ret)
theorem En:di f135=some TX:=by kernel_rfl
def TY:aG:=kS [oM 1 (cw 0),bw 2 fA] (kS [cL 3 9 1,cq 4 137 [.t 3],oM 5 (jj 4),ar 2 5] .ret)
theorem NF:di f136=some TY:=by kernel_rfl
def TZ:aG:=kS [oM 1 (cw 0),bw 2 fA] (kS [cL 3 9 1,cq 4 193 [.t 3,.c (.fn 141 [])],ar 2 4] .ret)
theorem NG:di f137=some TZ:=by kernel_rfl
def IL:aG:=kS [ey .lss 8 7 6] (.seq (kE 8) (.seq (.block 1 (kS [ar 9 7,ar 3 9] (kS [ar 10 0,ar 11 3,oM 12 (.idxs (.t 10) (.t 11)),ar 4 12] (kS [ar 13 4,oM 14 (.bin .lss (.t 13) (.c (.d (.int .u8 97)))),ar 15 14,l9 16 4 15,dI 17 (.bin .gtr (.t 16) (.c (.d (.int .u8 122)))) 15,jX 18 15 17,ar 19 18,jI 20 3 19,db 21 (jb .eql 20 0) 19,jI 22 21 19,l9 23 4 22,dI 24 (.bin .lss (.t 23) (.c (.d (.int .u8 48)))) 22,db 25 (Nz 22 24) 19,jI 26 25 19,l9 27 4 26,dI 28 (.bin .gtr (.t 27) (.c (.d (.int .u8 57)))) 26,db 29 (Nz 26 28) 19,iA 30 19 29] (kC 30 (kS [bw 2 fA] .ret)))))) (kR [ca .add 31 7 1,ar 7 31])))
def T0:aG:=kS [bw 2 fA] (.seq (kS [ar 5 0,oM 6 (.lens (.t 5)),bw 7 (kI 0)] (mF IL)) (kS [ar 32 0,oM 33 (.bin .neq (.t 32) (.c zS)),ar 2 33] .ret))
theorem NH:di f138=some T0:=by kernel_rfl
def ZO:aG:=kS [bw 4 fA] (kS [ar 5 0,ar 6 1,cq 7 214 [.t 5,.t 6],ca .geq 8 7 0,ar 4 8] .ret)
theorem NI:di f139=some ZO:=by kernel_rfl
def T2:aG:=kS [oM 1 (cw 0),bw 2 fA] (kS [bg 3 1 0,bQ 4 3,cq 5 141 [.t 4],oM 6 (jj 5),ar 2 6] .ret)
theorem NJ:di f140=some T2:=by kernel_rfl
def T3:aG:=kS [bw 2 fA] (kS [ar 3 0,ca .geq 4 3 97,ar 5 4,jI 6 0 5,db 7 (jb .leq 6 122) 5,iA 8 5 7,ar 2 8] .ret)
theorem NK:di f141=some T3:=by kernel_rfl
def ZP:aG:=kS [bw 4 fA] (kS [ar 5 0,ar 6 1,cq 7 215 [.t 5,.t 6],ca .geq 8 7 0,ar 4 8] .ret)
theorem NL:di f142=some ZP:=by kernel_rfl
def T4:aG:=kS [oM 1 (cw 0),bw 2 fA] (.seq (kS [bg 4 1 0,bQ 5 4,ca .eql 6 5 0] (kC 6 (kS [bg 7 1 1,bQ 8 7,gz 9 8,ca .eql 10 9 0,ar 2 10] .ret))) (kS [bw 3 (.c (.fn 216 []))] (kS [bg 11 1 0,bQ 12 11,ca .eql 13 12 1,ar 14 13,nI 15 1 0 14,pE 16 15 14,dI 17 (jb .eql 16 2) 14,jX 18 14 17,ar 19 18,j4 20 1 1 19,lu 21 20 19,db 22 (nj 21) 19,db 23 (jb .gtr 22 0) 19,iA 24 19 23,ar 25 24,j4 26 1 1 25,lu 27 26 25,jI 28 3 25,db 29 (.bW 219 [.t 27,.t 28]) 25,db 30 (jj 29) 25,iA 31 25 30,ar 2 31] .ret)))
theorem NM:di f143=some T4:=by kernel_rfl
def B0:aG:=kS [ca .lss 9 8 26] (.seq (kE 9) (.seq (.block 1 (kS [ar 10 8,ar 5 10] (kS [ar 11 4,ar 12 5,ey .shr 13 11 12,oM 14 (.bin .and (.t 13) (.c (.d (.int .u64 1)))),oM 15 (.bin .eql (.t 14) (.c (.d (.int .u64 1))))] (kC 15 (kR [ar 16 3,ar 17 5,oM 18 (.Gz .u8 (.t 17)),oM 19 (.bin .add (.c (.d (.int .u8 97))) (.t 18)),oM 20 (.dp 1 1 [.d (.int .u8 0)] [(0,1,.t 19)]),oM 21 (.app 1 1 5 (.t 16) (.t 20)),ar 3 21]))))) (kR [ca .add 22 8 1,ar 8 22])))
def T5:aG:=kS [oM 1 (cw 0),bw 2 (.c zN)] (kS [bw 3 (.c zN)] (kS [cL 6 5 1,cq 7 226 [.t 6],ar 4 7] (.seq (kS [bw 8 (kI 0)] (mF B0)) (kS [ar 23 3,ar 2 23] .ret))))
theorem NN:di f155=some T5:=by kernel_rfl
def RZ:aG:=kS [ey .lss 13 12 11] (.seq (kE 13) (.seq (.block 1 (kS [jy 14 20 10 12,cL 15 20 14,oM 9 (.alloc [zI,zI,zI,zI,zI,zI,zI,zI,zI,zI,zI,zI,zI,zI,zI,zI,zI,zI,zI,zI]),cM 20 9 15] (kS [cL 16 3 3,cL 17 2 4,cL 18 20 9,cq 19 231 [.t 16,.t 17,.t 18]] (.cond (.t 19) (kR [ar 20 6,ca .add 21 20 1,ar 6 21]) (kR [ar 22 7,ca .add 23 22 1,ar 7 23]))))) (kR [ca .add 24 12 1,ar 12 24])))
def T6:aG:=kS [oM 3 (cw 0),oM 4 (cw 1),bw 6 (kI 0),bw 7 (kI 0)] (.seq (kS [ar 10 2,gz 11 10,bw 12 (kI 0)] (mF RZ)) (kS [ar 25 6,ar 26 7,ar 6 25,ar 7 26] .ret))
theorem NO:di f164=some T6:=by kernel_rfl
def T7:aG:=kS [bw 2 (kI 0)] (.seq (kS [ar 3 0] (kC 3 (kS [bw 2 (kI 1)] .ret))) (kS [bw 2 (kI 2)] .ret))
theorem NP:di f165=some T7:=by kernel_rfl
def IM:aG:=kS [ey .lss 11 10 9] (.seq (kE 11) (.seq (.block 1 (kS [jy 12 1 8 10,bQ 13 12,ar 5 13] (.seq (kS [ar 14 5,gz 15 14,ca .gtr 16 15 10] (kC 16 (kS [bw 2 sd] .ret))) (kR [ar 17 3,ar 18 5,gz 19 18,ey .add 20 17 19,ar 3 20])))) (kR [ca .add 21 10 1,ar 10 21])))
def T8:aG:=kS [oM 1 (cw 0),bw 2 fA] (kS [bw 3 (kI 0)] (.seq (kS [bg 7 1 2,bQ 8 7,gz 9 8,bw 10 (kI 0)] (mF IM)) (kS [bw 6 (.c (.fn 239 []))] (kS [bg 22 1 2,bQ 23 22,gz 24 23,ca .eql 25 24 0,ar 26 25,nI 27 1 2 26,pE 28 27 26,dI 29 (nj 28) 26,dI 30 (jb .gtr 29 4) 26,jX 31 26 30,ar 32 31,l9 33 3 32,dI 34 (jb .gtr 33 24) 32,jX 35 32 34,ar 36 35,dI 37 (oT 5 1) 36,dI 38 (.bW 155 [.t 37]) 36,dI 39 (nj 38) 36,dI 40 (jb .gtr 39 4) 36,jX 41 36 40,ar 42 41,nI 43 1 3 42,nI 44 43 1 42,pE 45 44 42,dI 46 (nj 45) 42,dI 47 (jb .gtr 46 8) 42,jX 48 42 47,ar 49 48,nI 50 1 3 49,nI 51 50 1 49,pE 52 51 49,l9 53 6 49,dI 54 (.bW 219 [.t 52,.t 53]) 49,jX 55 49 54,ar 56 55,nI 57 1 0 56,pE 58 57 56,dI 59 (.lens (.t 58)) 56,dI 60 (jb .gtr 59 20) 56,jX 61 56 60,ar 2 61] .ret))))
theorem NQ:di f178=some T8:=by kernel_rfl
def IP:aG:=kS [ey .lss 9 8 7] (.seq (kE 9) (.seq (.block 1 (kS [jy 10 2 6 8,cL 11 2 10,oM 5 (.alloc [zI,zI]),cM 2 5 11] (.seq (kS [ar 12 3,bg 13 5 0,bQ 14 13,ca .sub 15 14 97,ey .shr 16 12 15,oM 17 (.bin .and (.t 16) (.c (.d (.int .u64 1)))),oM 18 (.bin .eql (.t 17) (.c (.d (.int .u64 1))))] (kC 18 (kS [bw 2 sd] .ret))) (kR [ar 19 3,bg 20 5 0,bQ 21 20,ca .sub 22 21 97,oM 23 (.bin .shl (.c (.d (.int .u64 1))) (.t 22)),ey .or 24 19 23,ar 3 24])))) (kR [ca .add 25 8 1,ar 8 25])))
def T9:aG:=kS [bw 2 fA] (kS [bw 3 (.c (.d (.int .u64 0)))] (.seq (kS [ar 6 0,gz 7 6,bw 8 (kI 0)] (mF IP)) (kS [bw 2 fA] .ret)))
theorem NR:di f179=some T9:=by kernel_rfl
def Ua:aG:=kS [bw 2 fA] (kS [ar 3 0,cq 4 181 [.t 3],oM 5 (jj 4),ar 2 5] .ret)
theorem NS:di f180=some Ua:=by kernel_rfl
def IQ:aG:=kS [ey .lss 8 7 6] (.seq (kE 8) (.seq (.block 1 (kS [ar 9 7,jy 10 9 5 7,cL 11 9 10,oM 4 (.alloc [zI,zI,zI,zI,zI,zI,zI,zI,zI]),ar 3 9,cM 9 4 11] (kS [bg 12 4 0,bQ 13 12,ca .eql 14 13 6,ar 15 14,j4 16 4 8 15,lu 17 16 15,db 18 (jb .lss 17 1) 15,jI 19 18 15,nI 20 4 8 19,pE 21 20 19,l9 22 0 19,dI 23 (nj 22) 19,l9 24 3 19,dI 25 (uI .sub 23 24) 19,dI 26 (jb .sub 25 1) 19,dI 27 (uI .gtr 21 26) 19,db 28 (Nz 19 27) 15,iA 29 15 28] (kC 29 (kS [bw 2 fA] .ret))))) (kR [ca .add 30 7 1,ar 7 30])))
def Ub:aG:=kS [bw 2 fA] (.seq (kS [ar 5 0,gz 6 5,bw 7 (kI 0)] (mF IQ)) (kS [bw 2 sd] .ret))
theorem NT:di f181=some Ub:=by kernel_rfl
def ZQ:aG:=kS [bw 4 fA] (kS [ar 5 0,ar 6 1,cq 7 240 [.t 5,.t 6],ca .geq 8 7 0,ar 4 8] .ret)
theorem Eo:di f182=some ZQ:=by kernel_rfl
def Uc:aG:=kS [oM 2 (cw 0),bw 3 fA] (kS [bg 4 2 0,bQ 5 4,ca .neq 6 5 (-1),ar 7 6,j4 8 2 0 7,lu 9 8 7,j4 10 1 2 7,lu 11 10 7,db 12 (nj 11) 7,db 13 (uI .geq 9 12) 7,iA 14 7 13,ar 3 14] .ret)
theorem NU:di f183=some Uc:=by kernel_rfl
def NV:aG:=kS [oM 2 (cw 0),bw 4 fA] (kS [bg 7 2 0,bQ 8 7,oM 9 (.build [zI,zI,zI,zI,zI,zI,zI,zI,zI] [(0,1,.t 8)]),oM 5 (.alloc [zI,zI,zI,zI,zI,zI,zI,zI,zI]),cM 9 5 9] (kS [bw 6 sd] (.seq (kS [bg 10 2 0,bQ 11 10] (.block 0 (kS [ca .eql 13 11 1,ar 12 13] (.cond (.t 12) (kD [bg 14 2 2,bQ 15 14,bg 16 2 3,cL 17 2 16,bg 18 5 2,cM 1 18 15,bg 19 5 3,cM 2 19 17] [0,1,0,4,3,19,63,127] (kR [ar 20 1,bg 21 2 2,bQ 22 21,oM 23 (.fb (.t 20) [.t 22]),ar 24 23,j4 25 2 3 24,db 26 (oT 2 25) 24,db 27 (.bW 246 [.t 26]) 24,iA 28 24 27,ar 6 28])) (kS [ca .eql 30 11 2,ar 29 30] (.cond (.t 29) (kD [bg 31 2 1,bQ 32 31,bg 33 2 2,bQ 34 33,bg 35 5 1,cM 1 35 32,bg 36 5 2,cM 1 36 34] [0,1,0,4,3,19,63,127] (kR [ar 37 1,bg 38 2 2,bQ 39 38,oM 40 (.fb (.t 37) [.t 39]),ar 41 40,j4 42 2 1 41,lu 43 42 41,db 44 (.bW 247 [.t 43]) 41,iA 45 41 44,ar 6 45])) (kS [ca .eql 47 11 3,ar 46 47] (.cond (.t 46) .skip (kS [ca .eql 49 11 4,ar 48 49] (.cond (.t 48) (kD [bg 50 2 1,bQ 51 50,bg 52 2 2,bQ 53 52,bg 54 2 3,cL 55 2 54,bg 56 2 6,cL 57 2 56,bg 58 5 1,cM 1 58 51,bg 59 5 2,cM 1 59 53,bg 60 5 3,cM 2 60 55,bg 61 5 6,cM 2 61 57] [0,1,0,4,0,16,0,64,3,259,783,1807,3903,7999,16383,32767] (kR [ar 62 1,bg 63 2 2,bQ 64 63,oM 65 (.fb (.t 62) [.t 64]),ar 66 65,j4 67 2 1 66,lu 68 67 66,db 69 (.bW 247 [.t 68]) 66,iA 70 66 69,ar 71 70,j4 72 2 3 71,db 73 (oT 2 72) 71,db 74 (.bW 246 [.t 73]) 71,iA 75 71 74,ar 76 75,j4 77 2 6 76,db 78 (oT 2 77) 76,db 79 (.bW 246 [.t 78]) 76,iA 80 76 79,ar 6 80])) (kS [ca .eql 82 11 5,ar 81 82] (.cond (.t 81) (kD [bg 83 2 1,bQ 84 83,bg 85 2 3,cL 86 2 85,bg 87 2 5,bQ 88 87,bg 89 2 6,cL 90 2 89,bg 91 5 1,cM 1 91 84,bg 92 5 3,cM 2 92 86,bg 93 5 5,cM 1 93 88,bg 94 5 6,cM 2 94 90] [0,1,0,4,0,16,0,64,3,259,783,1807,3903,7999,16383,32767] (kR [bg 95 2 1,bQ 96 95,cq 97 247 [.t 96],ar 98 97,j4 99 2 3 98,db 100 (oT 2 99) 98,db 101 (.bW 246 [.t 100]) 98,iA 102 98 101,ar 103 102,j4 104 2 6 103,db 105 (oT 2 104) 103,db 106 (.bW 246 [.t 105]) 103,iA 107 103 106,ar 108 107,j4 109 2 5 108,lu 110 109 108,db 111 (jb .geq 110 0) 108,iA 112 108 111,ar 113 112,j4 114 2 5 113,lu 115 114 113,db 116 (jb .leq 115 11) 113,iA 117 113 116,ar 118 117,j4 119 2 5 118,lu 120 119 118,db 121 (jb .gtr 120 0) 118,jI 122 121 118,nI 123 2 6 122,dI 124 (oT 2 123) 122,dI 125 (.build [zI,zI] [(0,1,kI (-1))]) 122,dI 126 (.eqs [0,0] false (.t 124) (.t 125)) 122,db 127 (Nz 122 126) 118,iA 128 118 127,ar 6 128])) (kS [ca .eql 130 11 6,ar 129 130] (.cond (.t 129) (kD [bg 131 2 8,bQ 132 131,bg 133 2 3,cL 134 2 133,bg 135 2 6,cL 136 2 135,bg 137 5 8,cM 1 137 132,bg 138 5 3,cM 2 138 134,bg 139 5 6,cM 2 139 136] [0,1,0,4,0,16,3,67,207,463,1023,2047] (kR [bg 140 2 8,bQ 141 140,ca .geq 142 141 0,ar 143 142,j4 144 2 3 143,db 145 (oT 2 144) 143,db 146 (.bW 246 [.t 145]) 143,iA 147 143 146,ar 148 147,j4 149 2 6 148,db 150 (oT 2 149) 148,db 151 (.bW 246 [.t 150]) 148,iA 152 148 151,ar 6 152])) (kS [bw 4 fA] .ret))))))))))))))) (kS [ar 153 6,ar 154 153,db 155 (oT 9 2) 154,db 156 (oT 9 5) 154,db 157 (.eqs [0,0,0,0,0,0,0,0,0] false (.t 155) (.t 156)) 154,iA 158 154 157,ar 4 158] .ret))))
theorem Ep:di f193=some NV:=by kernel_rfl
def IU:aG:=kS [ey .lss 9 8 7] (.seq (kE 9) (.seq (.block 1 (kS [ar 10 8,ar 5 10] (kS [ar 11 1,ar 12 0,ar 13 5,jy 14 9 12 13,cL 15 9 14,oM 16 (.fb (.t 11) [.t 15])] (kC 16 (kS [ar 17 5,ar 4 17] .ret))))) (kR [ca .add 18 8 1,ar 8 18])))
def Ud:aG:=kS [bw 4 (kI 0)] (.seq (kS [ar 6 0,gz 7 6,bw 8 (kI 0)] (mF IU)) (kS [bw 4 (kI (-1))] .ret))
theorem Er:di f213=some Ud:=by kernel_rfl
def R0:aG:=kS [ey .lss 9 8 7] (.seq (kE 9) (.seq (.block 1 (kS [ar 10 8,ar 5 10] (kS [ar 11 1,ar 12 0,ar 13 5,jy 14 2 12 13,cL 15 2 14,oM 16 (.fb (.t 11) [.t 15])] (kC 16 (kS [ar 17 5,ar 4 17] .ret))))) (kR [ca .add 18 8 1,ar 8 18])))
def ZR:aG:=kS [bw 4 (kI 0)] (.seq (kS [ar 6 0,gz 7 6,bw 8 (kI 0)] (mF R0)) (kS [bw 4 (kI (-1))] .ret))
theorem NW:di f214=some ZR:=by kernel_rfl
def R1:aG:=kS [ey .lss 9 8 7] (.seq (kE 9) (.seq (.block 1 (kS [ar 10 8,ar 5 10] (kS [ar 11 1,ar 12 0,ar 13 5,jy 14 1 12 13,bQ 15 14,oM 16 (.fb (.t 11) [.t 15])] (kC 16 (kS [ar 17 5,ar 4 17] .ret))))) (kR [ca .add 18 8 1,ar 8 18])))
def ZS:aG:=kS [bw 4 (kI 0)] (.seq (kS [ar 6 0,gz 7 6,bw 8 (kI 0)] (mF R1)) (kS [bw 4 (kI (-1))] .ret))
theorem NX:di f215=some ZS:=by kernel_rfl
def Ue:aG:=kS [bw 2 fA] (kS [ar 3 0,gz 4 3,ca .eql 5 4 0,ar 6 5,l9 7 0 6,dI 8 (.bW 182 [.t 7,.c (.fn 217 [])]) 6,jX 9 6 8,ar 2 9] .ret)
theorem NY:di f216=some Ue:=by kernel_rfl
def Uf:aG:=kS [oM 1 (cw 0),bw 2 fA] (kS [cL 3 4 1,cq 4 218 [.t 3],oM 5 (jj 4),ar 2 5] .ret)
theorem NZ:di f217=some Uf:=by kernel_rfl
def Ug:aG:=kS [oM 1 (cw 0),bw 2 fA] (.seq (kS [bg 3 1 0,bQ 4 3,ca .eql 5 4 (-1)] (kC 5 (kS [bg 6 1 1,bQ 7 6,ca .eql 8 7 0,ar 9 8,j4 10 1 2 9,lu 11 10 9,db 12 (.bW 141 [.t 11]) 9,iA 13 9 12,ar 2 13] .ret))) (kS [bg 14 1 0,bQ 15 14,ca .geq 16 15 0,ar 17 16,j4 18 1 0 17,lu 19 18 17,db 20 (jb .leq 19 9) 17,iA 21 17 20,ar 22 21,j4 23 1 2 22,lu 24 23 22,db 25 (jb .eql 24 0) 22,iA 26 22 25,ar 27 26,j4 28 1 1 27,lu 29 28 27,db 30 (.bW 247 [.t 29]) 27,iA 31 27 30,ar 2 31] .ret))
theorem N0:di f218=some Ug:=by kernel_rfl
def ZT:aG:=kS [bw 4 fA] (kS [ar 5 0,ar 6 1,cq 7 273 [.t 5,.t 6],ca .geq 8 7 0,ar 4 8] .ret)
theorem Es:di f219=some ZT:=by kernel_rfl
def B1:aG:=kS [ey .lss 20 19 18] (.seq (kE 20) (.seq (.block 1 (kS [jy 21 2 17 19,cL 22 2 21,oM 6 (.alloc [zI,zI]),cM 2 6 22] (kR [ar 23 4,bg 24 6 0,bQ 25 24,oM 26 (.fb (.t 23) [.t 25])]))) (kR [ca .add 27 19 1,ar 19 27])))
def B2:aG:=kS [ey .lss 38 37 36] (.seq (.cond (.t 38) .skip (.exit 4)) (.seq (.block 5 (kS [jy 39 9 35 37,cL 40 9 39,oM 10 (.alloc [zI,zI,zI,zI,zI,zI,zI,zI,zI]),cM 9 10 40] (kR [ar 41 4,bg 42 10 2,bQ 43 42,oM 44 (.fb (.t 41) [.t 43])]))) (kR [ca .add 45 37 1,ar 37 45])))
def B3:aG:=kS [ey .lss 32 31 30] (.seq (.cond (.t 32) .skip (.exit 2)) (.seq (.block 3 (kS [jy 33 1 29 31,bQ 34 33,ar 8 34] (kS [ar 35 8,gz 36 35,bw 37 (kI 0)] (.block 4 (.loop B2))))) (kR [ca .add 46 31 1,ar 31 46])))
def B4:aG:=kS [ey .lss 58 57 56] (.seq (.cond (.t 58) .skip (.exit 8)) (.seq (.block 9 (kS [jy 59 4 55 57,cL 60 4 59,oM 14 (.alloc [zI,zI,zI,zI]),cM 4 14 60] (kR [ar 61 4,bg 62 14 2,bQ 63 62,oM 64 (.fb (.t 61) [.t 63])]))) (kR [ca .add 65 57 1,ar 57 65])))
def B5:aG:=kS [ey .lss 52 51 50] (.seq (.cond (.t 52) .skip (.exit 6)) (.seq (.block 7 (kS [jy 53 1 49 51,bQ 54 53,ar 12 54] (kS [ar 55 12,gz 56 55,bw 57 (kI 0)] (.block 8 (.loop B4))))) (kR [ca .add 66 51 1,ar 51 66])))
def Uh:aG:=kS [oM 1 (cw 0),bw 2 (.c (.d (.int .u64 0)))] (kS [oM 3 (.alloc [.d (.int .u64 0)])] (kS [oM 15 (.o7 279 [.t 3]),ar 4 15] (.seq (kS [bg 16 1 1,bQ 17 16,gz 18 17,bw 19 (kI 0)] (mF B1)) (.seq (kS [bg 28 1 2,bQ 29 28,gz 30 29,bw 31 (kI 0)] (.block 2 (.loop B3))) (.seq (kS [bg 47 1 3,bg 48 47 1,bQ 49 48,gz 50 49,bw 51 (kI 0)] (.block 6 (.loop B5))) (kS [bQ 67 3,ar 2 67] .ret))))))
theorem N1:di f226=some Uh:=by kernel_rfl
def Ui:aG:=kS [oM 3 (cw 0),oM 4 (cw 1),oM 5 (cw 2),bw 6 fA] (kS [oM 8 (.o7 291 [.t 3,.t 5]),ar 7 8] (kS [bg 9 4 0,bQ 10 9,ca .eql 11 10 0,ar 12 11,nI 13 4 1 12,pE 14 13 12,l9 15 7 12,dI 16 (.bW 219 [.t 14,.t 15]) 12,jX 17 12 16,ar 6 17] .ret))
theorem N2:di f231=some Ui:=by kernel_rfl
def Uj:aG:=kS [bw 2 fA] (kS [ar 3 0,gz 4 3,ca .gtr 5 4 8,ar 2 5] .ret)
theorem N3:di f239=some Uj:=by kernel_rfl
def R2:aG:=kS [ey .lss 9 8 7] (.seq (kE 9) (.seq (.block 1 (kS [ar 10 8,ar 5 10] (kS [ar 11 1,ar 12 0,ar 13 5,jy 14 4 12 13,cL 15 4 14,oM 16 (.fb (.t 11) [.t 15])] (kC 16 (kS [ar 17 5,ar 4 17] .ret))))) (kR [ca .add 18 8 1,ar 8 18])))
def ZU:aG:=kS [bw 4 (kI 0)] (.seq (kS [ar 6 0,gz 7 6,bw 8 (kI 0)] (mF R2)) (kS [bw 4 (kI (-1))] .ret))
theorem Et:di f240=some ZU:=by kernel_rfl
def Uk:aG:=kS [oM 1 (cw 0),bw 2 fA] (kS [bg 3 1 0,bQ 4 3,ca .eql 5 4 (-1),ar 6 5,nI 7 1 0 6,pE 8 7 6,dI 9 (.bW 247 [.t 8]) 6,l9 10 9 6,j4 11 1 1 10,lu 12 11 10,db 13 (jb .eql 12 0) 10,dI 14 (BZ 10 13) 6,jX 15 6 14,ar 2 15] .ret)
theorem N4:di f246=some Uk:=by kernel_rfl
def Ul:aG:=kS [bw 2 fA] (kS [ar 3 0,ca .geq 4 3 0,ar 5 4,jI 6 0 5,db 7 (jb .lss 6 4) 5,iA 8 5 7,ar 2 8] .ret)
theorem N5:di f247=some Ul:=by kernel_rfl
def Um:aG:=kS [bw 6 (kI 0),bw 7 fA] (kS [ar 9 2,oM 10 (.Gz .u64 (.t 9)),oM 11 (.bin .rem (.t 10) (.c (.d (.int .u64 64)))),ar 8 11] (.seq (kS [ar 12 0] (.block 0 (kS [ca .eql 14 12 1,ar 13 14] (.cond (.t 13) (kS [ar 15 1,ar 16 2,ey .add 17 15 16,ar 6 17,bw 7 sd] .ret) (kS [ca .eql 19 12 2,ar 18 19] (.cond (.t 18) (kS [ar 20 1,ar 21 2,ey .sub 22 20 21,ar 6 22,bw 7 sd] .ret) (kS [ca .eql 24 12 3,ar 23 24] (.cond (.t 23) (kS [ar 25 1,ar 26 2,ey .mul 27 25 26,ar 6 27,bw 7 sd] .ret) (kS [ca .eql 29 12 4,ar 28 29] (.cond (.t 28) (kS [ar 30 1,ar 31 2,ey .and 32 30 31,ar 6 32,bw 7 sd] .ret) (kS [ca .eql 34 12 5,ar 33 34] (.cond (.t 33) (kS [ar 35 1,ar 36 2,ey .or 37 35 36,ar 6 37,bw 7 sd] .ret) (kS [ca .eql 39 12 6,ar 38 39] (.cond (.t 38) (kS [ar 40 1,ar 41 2,ey .xor 42 40 41,ar 6 42,bw 7 sd] .ret) (kS [ca .eql 44 12 7,ar 43 44] (.cond (.t 43) (kS [ar 45 1,ar 46 8,ey .shl 47 45 46,ar 6 47,bw 7 sd] .ret) (kS [ca .eql 49 12 8,ar 48 49] (.cond (.t 48) (kS [ar 50 1,ar 51 8,ey .shr 52 50 51,ar 6 52,bw 7 sd] .ret) (kS [ca .eql 54 12 9,ar 53 54] (.cond (.t 53) (kS [ar 55 1,ar 56 2,ey .eql 57 55 56,cq 58 309 [.t 57],ar 6 58,bw 7 sd] .ret) (kS [ca .eql 60 12 10,ar 59 60] (.cond (.t 59) (kS [ar 61 1,ar 62 2,ey .neq 63 61 62,cq 64 309 [.t 63],ar 6 64,bw 7 sd] .ret) (kS [ca .eql 66 12 11,ar 65 66] (kC 65 (kS [ar 67 1,ar 68 2,ey .lss 69 67 68,cq 70 309 [.t 69],ar 6 70,bw 7 sd] .ret))))))))))))))))))))))))) (kS [bw 6 (kI 0),bw 7 fA] .ret)))
theorem N6:di f249=some Um:=by kernel_rfl
def R3:aG:=kS [ey .lss 9 8 7] (.seq (kE 9) (.seq (.block 1 (kS [ar 10 8,ar 5 10] (kS [ar 11 1,ar 12 0,ar 13 5,jy 14 1 12 13,bQ 15 14,oM 16 (.fb (.t 11) [.t 15])] (kC 16 (kS [ar 17 5,ar 4 17] .ret))))) (kR [ca .add 18 8 1,ar 8 18])))
def ZV:aG:=kS [bw 4 (kI 0)] (.seq (kS [ar 6 0,gz 7 6,bw 8 (kI 0)] (mF R3)) (kS [bw 4 (kI (-1))] .ret))
theorem Eu:di f273=some ZV:=by kernel_rfl
def Un:aG:=kS [ar 3 0,cq 4 141 [.t 3]] (kC 4 (.region true [bQ 5 1,ar 6 0,ca .sub 7 6 97,oM 8 (.bin .shl (.c (.d (.int .u64 1))) (.t 7)),ey .or 9 5 8,cM 1 1 9] [0,0,2,4,9,31]))
theorem N7:di f279=some Un:=by kernel_rfl
def Uo:aG:=kS [bw 4 fA] (kS [ar 5 0,oM 6 (.o7 292 [.t 1,.t 2]),cq 7 182 [.t 5,.t 6],oM 8 (jj 7),ar 4 8] .ret)
theorem N8:di f291=some Uo:=by kernel_rfl
def Up:aG:=kS [oM 3 (cw 0),bw 4 fA] (kS [cL 5 3 1,cL 6 4 3,cL 7 20 2,cq 8 293 [.t 5,.t 6,.t 7],oM 9 (jj 8),ar 4 9] .ret)
theorem N9:di f292=some Up:=by kernel_rfl
def Uq:aG:=kS [oM 3 (cw 0),oM 4 (cw 1),oM 5 (cw 2),bw 6 fA] (.seq (kS [bg 8 4 0,bQ 9 8,ca .eql 10 9 (-1)] (kC 10 (kS [bw 7 (kI (-1))] (.seq (kS [bg 11 4 2,bQ 12 11,ca .geq 13 12 0,ar 14 13,j4 15 4 2 14,lu 16 15 14,db 17 (jb .lss 16 256) 14,iA 18 14 17] (kC 18 (kR [bg 19 3 0,bQ 20 19,bg 21 4 2,bQ 22 21,oM 23 (.Gz .u8 (.t 22)),cq 24 324 [.t 20,.t 23],ar 7 24]))) (kD [ar 25 7,ca .geq 26 25 0,ar 27 26,jI 28 7 27,db 29 (jb .lss 28 4) 27,iA 30 27 29,ar 31 30,jI 32 7 31,j4 33 5 16 31,db 34 (.bS 1 (some 4) (.t 33) (.t 32)) 31,lu 35 34 31,j4 36 4 3 31,lu 37 36 31,db 38 (uI .eql 35 37) 31,iA 39 31 38,ar 6 39] [0,1,2,4,12,20,36,64,64,448,576,64,2112,5184,8256,32767] .ret))))) (.seq (kS [bg 40 4 0,bQ 41 40,ca .lss 42 41 0,ar 43 42,nI 44 4 0 43,pE 45 44 43,nI 46 3 2 43,pE 47 46 43,dI 48 (nj 47) 43,dI 49 (.uu (.t 48) (kI 4)) 43,dI 50 (uI .geq 45 49) 43,jX 51 43 50,ar 52 51,nI 53 4 1 52,pE 54 53 52,dI 55 (jb .lss 54 0) 52,jX 56 52 55,ar 57 56,nI 58 4 1 57,pE 59 58 57,dI 60 (jb .geq 59 4) 57,jX 61 57 60] (kC 61 (kS [bw 6 fA] .ret))) (kD [bg 62 4 0,bQ 63 62,bg 64 4 1,bQ 65 64,bg 66 5 0,oM 67 (.bS 4 (some 4) (.t 66) (.t 63)),oM 68 (.bS 1 (some 4) (.t 67) (.t 65)),bQ 69 68,bg 70 4 3,bQ 71 70,ey .eql 72 69 71,ar 6 72] [0,1,0,4,0,18,40,64,0,256,640,2047] .ret)))
theorem Oa:di f293=some Uq:=by kernel_rfl
def Ur:aG:=kS [bw 2 (kI 0)] (.seq (kS [ar 3 0] (kC 3 (kS [bw 2 (kI 1)] .ret))) (kS [bw 2 (kI 0)] .ret))
theorem Ob:di f309=some Ur:=by kernel_rfl
end
end Go.Proofs.YtjfdjkageiemkaaGreatDoor
namespace Go.Proofs
open Go.Shelf
end Go.Proofs
namespace Go.Proofs.YtjfdjkageiemkaaGreatDoor
open Go.Proofs.Tryz
open Go.Proofs.Tryz renaming prog → aM
section
open Go Go.Jq
def ZW (n:Int):Prop:=-9223372036854775808<=n/\n<=9223372036854775807
theorem R4 (n:Int):adA.wrap n=n%18446744073709551616:=by
 simp only[IntKind.wrap,IntKind.signed,IntKind.bits,adi,ac5,if_false];rfl
def bv (n:Int):BitVec 64:=BitVec.ofInt 64 n
theorem IV (n:Int):ac9.wrap n=(bv n).toInt:=by
 unfold bv;rw[BitVec.toInt_ofInt,Int.bmod_def];have e1:(2:Int)^64=18446744073709551616:=rfl;have e2:(2:Int)^63=9223372036854775808:=rfl;simp only[IntKind.wrap,IntKind.signed,IntKind.bits,Bool.true_and,Nat.reduceSub,e1,e2,decide_eq_true_eq,ge_iff_le];simp only[Nat.reducePow];split<;>split<;>omega
theorem ZX {n:Int} (h:ZW n):(bv n).toInt=n:=by
 rw[<-IV];unfold ZW at h;have e1:(2:Int)^64=18446744073709551616:=rfl;have e2:(2:Int)^63=9223372036854775808:=rfl;simp only[IntKind.wrap,IntKind.signed,IntKind.bits,Bool.true_and,Nat.reduceSub,e1,e2,decide_eq_true_eq,ge_iff_le];split<;>omega
theorem BD {n:Int} (h:ZW n):ac9.wrap n=n:=by rw[IV,ZX h]
def dA (n:Int):Bool:=decide (97<=n)&&decide (n<=122)
theorem eM (x:Int):dA x=true↔97<=x/\x<=122:=by simp[dA]
def gn (n:Int):Bool:=decide (0<=n)&&decide (n<4)
def eD (o:wK):Bool:=decide (o.dF=-1)||(gn o.dF&&decide (o.value=0))
def iO (i:Nat) (c:UInt8):Bool:=(decide (97<=c.toNat)&&decide (c.toNat<=122))||(decide (i≠0)&&decide (48<=c.toNat)&&decide (c.toNat<=57))
def n9 (s:List UInt8):Bool:=(ac7 s.length).all (λi=>iO i (s.getD i 0))&&decide (s≠ [])
theorem KU (s:List UInt8) {i:Nat} (hi:i<s.length) (h:iO i (s.getD i 0)=false):n9 s=false:=by
 have:(ac7 s.length).all (λi=>iO i (s.getD i 0))=false:=by
  rw[List.all_eq_false];exact⟨i,List.mem_range.2 hi,by rw[h];decide⟩
 unfold n9;rw[this];rfl
theorem G7 (s:List UInt8) (h:∀i,i<s.length->iO i (s.getD i 0)=true):n9 s=decide (s≠ []):=by
 have:(ac7 s.length).all (λi=>iO i (s.getD i 0))=true:=by
  rw[List.all_eq_true];exact λi hi=>h i (List.mem_range.1 hi)
 unfold n9;rw[this];rfl
def gH (x w:Ins):Bool:=decide (x.kind=w.kind)&&(decide (x.dF=w.dF)&&(decide (x.loc=w.loc)&&(decide (x.a.dF=w.a.dF)&&(decide (x.a.value=w.a.value)&&(decide (x.op=w.op)&&(decide (x.b.dF=w.b.dF)&&(decide (x.b.value=w.b.value)&&(decide (x.n=w.n)&&true))))))))
def da (x:Ins):Bool:=
 if x.kind=1 then(dA x.loc&&eD x.a)&&gH x ⟨x.kind,0,x.loc,x.a,0,⟨0,0⟩,0⟩
 else if x.kind=2 then(dA x.loc&&gn x.dF)&&gH x ⟨x.kind,x.dF,x.loc,⟨0,0⟩,0,⟨0,0⟩,0⟩
 else if x.kind=3 then gH x ⟨x.kind,0,0,⟨0,0⟩,0,⟨0,0⟩,0⟩
 else if x.kind=4 then(dA x.loc&&gn x.dF&&eD x.a&&eD x.b)&&gH x ⟨x.kind,x.dF,x.loc,x.a,0,x.b,0⟩
 else if x.kind=5 then(gn x.dF&&eD x.a&&eD x.b&&decide (0<=x.op)&&decide (x.op<=11)&&(decide (0<x.op)||(decide (x.b.dF=-1)&&decide (x.b.value=0))))&&gH x ⟨x.kind,x.dF,0,x.a,x.op,x.b,0⟩
 else if x.kind=6 then(decide (0<=x.n)&&eD x.a&&eD x.b)&&gH x ⟨x.kind,0,0,x.a,0,x.b,x.n⟩
 else false
def iG (a:Atom):Bool:=if a.eA=-1 then decide (a.dF=0)&&dA a.loc else decide (0<=a.eA)&&decide (a.eA<=9)&&decide (a.loc=0)&&gn a.dF
def ob (l:List Atom):Bool:=decide (l.length=0)||l.any λa=>!iG a
def lh (kind:Int) (rows:List (List Atom)):Bool:=
 if kind=0 then decide (rows.length=0)else(decide (kind=1)||decide (kind=2))&&decide (0<rows.length)&&!rows.any ob
def gI (l:List Ins):Bool:=l.any λx=>!da x
def nk (l:List Init):Bool:=l.any λx=>!dA x.loc
def okB (t:Test):Bool:=n9 t.name&&!nk t.inits&&!t.threads.any gI&&lh t.kind t.rows
theorem iP (n:Int):Pure aM 141 [aq n] (.d (.bool (dA n))):=by
 refine ay func141 NK ntmps141 results141 rfl ?_;unfold T3;refine J λK hK=>?_;simp only[go_sem];apply hK;by_cases h:97<=n
 ·refine J λK hK=>?_;simp only[go_sem,h];apply hK;apply ak;simp only[go_sem];refine aD _ rfl rfl ⟨?_,rfl⟩;simp[ah,dA,h]
 ·refine J λK hK=>?_;simp only[go_sem,h];apply hK;apply ak;simp only[go_sem];refine aD _ rfl rfl ⟨?_,rfl⟩;simp[ah,dA,h]
theorem gJ (n:Int):Pure aM 247 [aq n] (.d (.bool (gn n))):=by
 refine ay func247 N5 ntmps247 results247 rfl ?_;unfold Ul;refine J λK hK=>?_;simp only[go_sem];apply hK;by_cases h:0<=n
 ·refine J λK hK=>?_;simp only[go_sem,h];apply hK;apply ak;simp only[go_sem];refine aD _ rfl rfl ⟨?_,rfl⟩;simp[ah,gn,h]
 ·refine J λK hK=>?_;simp only[go_sem,h];apply hK;apply ak;simp only[go_sem];refine aD _ rfl rfl ⟨?_,rfl⟩;simp[ah,gn,h]
theorem ec (o:wK):Pure aM 246 [.agg (o.cells.map .d)] (.d (.bool (eD o))):=by
 refine ay func246 N4 ntmps246 results246 rfl ?_;unfold Uk;refine J λK hK=>?_;simp only[go_sem,wK.cells];apply hK;by_cases h:o.dF=-1
 ·refine J λK hK=>?_;simp only[go_sem,h];apply hK;apply ak;simp only[go_sem];refine aD _ rfl rfl ⟨?_,rfl⟩;simp[ah,eD,h]
 ·refine J λK hK=>?_;simp only[go_sem,h];refine aF (gJ o.dF) rfl rfl ?_;cases h2:gn o.dF
  ·simp only[go_sem];apply hK;apply ak;simp only[go_sem];refine aD _ rfl rfl ⟨?_,rfl⟩;simp[ah,eD,h,h2]
  ·simp only[go_sem];apply hK;apply ak;simp only[go_sem];refine aD _ rfl rfl ⟨?_,rfl⟩;simp[ah,eD,h,h2]
def WO (s:List UInt8) (i:Nat):St:=⟨[(7,aq i),(6,aq s.length),(0,.d (.str s)),(2,.d (.bool false))],[],0⟩
theorem Ev (s:List UInt8) (hs:s.length<=9223372036854775807):Pure aM 138 [.d (.str s)] (.d (.bool (n9 s))):=by
 refine ay func138 NH ntmps138 results138 rfl ?_;unfold T0;refine J λK hK=>?_;simp only[go_sem];apply hK;refine aa λK1 a8=>?_;refine aa λK2 fx=>?_;refine af rfl ?_;simp only[go_sem];apply fx;apply aA;refine ax (S':=WO s 0) (aH.cN [] ⟨by simp[bm,ah,AV.aC,aj,ag,WO],by simp[aL,aI,ai,an,aj,AV.aC,ag,ae,-acU,WO],rfl,rfl⟩) ?_;refine jW (λi=>WO s i) (λi=>∀j,j<i->iO j (s.getD j 0)=true) s.length (λj h=>by omega) ?_;intro i hi hp;unfold IL WO;by_cases bd:i<s.length
 ·have aQ:(i:Int)<s.length:=by omega
  refine J λK hK=>?_;simp only[go_sem,aQ];apply hK;refine aa λK2 fx=>?_;refine aN ?_;apply au;apply fx;refine aa λK2 fx=>?_;apply aA;refine J λK hK=>?_;simp only[go_sem];refine hK _ (J λK hK=>?_);simp only[go_sem,acX,aQ,acW];apply hK;have hc:=(s.getD i 0).toNat_lt;generalize hcd:s.getD i 0=c at hc;refine aa λK3 Gs=>?_;have bad:∀t:Fr,ah t 30=.d (.bool true)->iO i c=false->K3 ⟨t,[],0⟩:=by
   intro t h30 hw;apply Gs;refine aN ?_ (by simp[ev,ah,h30]);refine J λK hK=>?_;simp only[go_sem];apply hK;apply ak;simp only[go_sem];refine aD _ rfl rfl ⟨?_,rfl⟩;simp[ah,KU s bd (by rw[hcd];exact hw)]
  have yc:∀t:Fr,ah t 30=.d (.bool false)->ah t 0=.d (.str s)->ah t 6=aq s.length->ah t 7=aq i->ah t 2=.d (.bool false)->iO i c=true->K3 ⟨t,[],0⟩:=by
   intro t h30 h0 h6 h7 h2 hw;apply Gs;refine aK ?_ (by simp[ev,ah,h30]);apply au;simp only[go_sem];apply fx;have Ng:ac9.wrap ((i:Int)+1)=((i+1:Nat):Int):=by rw[wrap_i64 (by omega) (by omega)];rfl
   refine af rfl ?_;simp only[go_sem,h7,Ng];refine⟨bd,λj hj=>?_,aH.cN [] ⟨by simp[WO,bm,ah,AV.aC,ag,h0,h6,h7,h2],by simp[WO,aL],rfl,rfl⟩⟩;by_cases sc:j=i;·subst sc;rw[hcd];exact hw
   ·exact hp j (by omega)
  have hz:((i:Int)=0)=(i=0):=by apply propext;omega
  by_cases h1:(c.toNat:Int)<97
  ·by_cases h2:i=0
   ·have DA:((i:Nat):Int)=0:=by omega
    refine af rfl ?_;simp only[go_sem,h1,DA]
    exact bad _ rfl (by unfold iO;have:¬97<=c.toNat:=by omega
                        simp[h2,this])
   ·have DA:¬((i:Nat):Int)=0:=by omega
    by_cases h3:(c.toNat:Int)<48
    ·refine af rfl ?_;simp only[go_sem,h1,DA,h3]
     exact bad _ rfl (by unfold iO;have e1:¬97<=c.toNat:=by omega
                         have e2:¬48<=c.toNat:=by omega
                         simp[e1,e2])
    ·by_cases h4:(57:Int)<c.toNat
     ·refine af rfl ?_;simp only[go_sem,h1,DA,h3,h4]
      exact bad _ rfl (by unfold iO;have e1:¬97<=c.toNat:=by omega
                          have e2:¬c.toNat<=57:=by omega
                          simp[e1,e2])
     ·refine af rfl ?_;simp only[go_sem,h1,DA,h3,h4]
      exact yc _ rfl rfl rfl rfl rfl (by unfold iO;have e1:48<=c.toNat:=by omega
                                         have e2:c.toNat<=57:=by omega
                                         simp[e1,e2,h2])
  ·by_cases h5:(122:Int)<c.toNat
   ·by_cases h2:i=0
    ·have DA:((i:Nat):Int)=0:=by omega
     refine af rfl ?_;simp only[go_sem,h1,h5,DA]
     exact bad _ rfl (by unfold iO;have:¬c.toNat<=122:=by omega
                         simp[h2,this])
    ·have DA:¬((i:Nat):Int)=0:=by omega
     have h3:¬(c.toNat:Int)<48:=by omega
     have h4:(57:Int)<c.toNat:=by omega
     refine af rfl ?_;simp only[go_sem,h1,h5,DA,h3,h4]
     exact bad _ rfl (by unfold iO;have e1:¬c.toNat<=122:=by omega
                         have e2:¬c.toNat<=57:=by omega
                         simp[e1,e2])
   ·refine af rfl ?_;simp only[go_sem,h1,h5]
    exact yc _ rfl rfl rfl rfl rfl (by unfold iO;have e1:97<=c.toNat:=by omega
                                       have e2:c.toNat<=122:=by omega
                                       simp[e1,e2])
 ·have aQ:¬(i:Int)<s.length:=by omega
  refine J λK hK=>?_;simp only[go_sem,aQ];apply hK;refine aa λK2 fx=>?_;refine aK ?_;apply aZ;simp only[go_sem];apply a8;have ph:=G7 s λj hj=>hp j (by omega);refine J λK hK=>?_;simp only[go_sem];apply hK;apply ak;simp only[go_sem];refine aD _ rfl rfl ⟨?_,rfl⟩;simp[ah,ph]
set_option maxHeartbeats 4000000 in
theorem Ew (x:Ins):Pure aM 193 [.agg (x.cells.map .d),.fn 141 []] (.d (.bool (da x))):=by
 refine ay func193 Ep ntmps193 results193 rfl ?_;unfold NV;refine J λK hK=>?_;simp only[go_sem,Ins.cells];refine hK _ (J λK hK=>?_);simp only[go_sem];refine hK _ (J λK hK=>?_);simp only[go_sem];apply hK;refine aa λK1 a8=>?_;have tail:∀(t:Fr) (n:Nat) (w:Ins) (ok:Bool),ah t 6=.d (.bool ok)->ah t 2=.ptr 0 0->ah t 5=.ptr 1 0->da x=(ok&&gH x w)->K1 ⟨t,[(0,x.cells.map .d),(1,w.cells.map .d)],n⟩:=by
  intro t n w ok h6 h2 h5 b8;apply a8;refine aa λK hK=>af (by simp[aw]) ?_;cases ok
  ·simp only[go_sem,h6,h2,h5,Ins.cells];apply hK;apply ak;simp only[go_sem];refine aD _ rfl rfl ⟨?_,rfl⟩;simp[ah,b8]
  ·simp only[go_sem,h6,h2,h5,Ins.cells];apply hK;apply ak;simp only[go_sem];refine aD _ rfl rfl ⟨?_,rfl⟩;simp[ah,b8,gH]
 refine J λK hK=>?_;simp only[go_sem];apply hK;apply aA;refine J λK hK=>?_;simp only[go_sem];apply hK;by_cases h1:x.kind=1
 ·refine aN ?_ (by simp[ev,ah,h1]);refine aa λK hK=>az rfl rfl ?_;simp only[go_sem];refine⟨rfl,hK _ ?_⟩;refine af rfl ?_;simp only[go_sem];refine⟨rfl,aF (iP x.loc) rfl rfl ?_⟩;cases hb:dA x.loc
  ·simp only[go_sem];exact tail _ _ ⟨x.kind,0,x.loc,x.a,0,⟨0,0⟩,0⟩ false rfl rfl rfl (by simp[da,h1,hb])
  ·simp only[go_sem];refine aF (ec x.a) rfl rfl ?_;simp only[go_sem];exact tail _ _ ⟨x.kind,0,x.loc,x.a,0,⟨0,0⟩,0⟩ (eD x.a) (by simp[ah]) rfl rfl (by simp[da,h1,hb])
 refine aK ?_ (by simp[ev,ah,h1]);refine J λK hK=>?_;simp only[go_sem];apply hK;by_cases h2:x.kind=2
 ·refine aN ?_ (by simp[ev,ah,h2]);refine aa λK hK=>az rfl rfl ?_;simp only[go_sem];refine⟨rfl,hK _ ?_⟩;refine af rfl ?_;simp only[go_sem];refine⟨rfl,aF (iP x.loc) rfl rfl ?_⟩;cases hb:dA x.loc
  ·simp only[go_sem];exact tail _ _ ⟨x.kind,x.dF,x.loc,⟨0,0⟩,0,⟨0,0⟩,0⟩ false rfl rfl rfl (by simp[da,h2,hb])
  ·simp only[go_sem];refine aF (gJ x.dF) rfl rfl ?_;simp only[go_sem];exact tail _ _ ⟨x.kind,x.dF,x.loc,⟨0,0⟩,0,⟨0,0⟩,0⟩ (gn x.dF) (by simp[ah]) rfl rfl (by simp[da,h2,hb])
 refine aK ?_ (by simp[ev,ah,h2]);refine J λK hK=>?_;simp only[go_sem];apply hK;by_cases h3:x.kind=3
 ·refine aN ?_ (by simp[ev,ah,h3]);apply au;simp only[go_sem];exact tail _ _ ⟨x.kind,0,0,⟨0,0⟩,0,⟨0,0⟩,0⟩ true rfl rfl rfl (by simp[da,h3])
 refine aK ?_ (by simp[ev,ah,h3]);refine J λK hK=>?_;simp only[go_sem];apply hK;by_cases h4:x.kind=4
 ·refine aN ?_ (by simp[ev,ah,h4]);refine aa λK hK=>az rfl rfl ?_;simp only[go_sem];refine⟨rfl,hK _ ?_⟩;refine af rfl ?_;simp only[go_sem];refine⟨rfl,aF (iP x.loc) rfl rfl ?_⟩;cases hb:dA x.loc
  ·simp only[go_sem];exact tail _ _ ⟨x.kind,x.dF,x.loc,x.a,0,x.b,0⟩ false rfl rfl rfl (by simp[da,h4,hb])
  ·simp only[go_sem];refine aF (gJ x.dF) rfl rfl ?_;cases sa:gn x.dF
   ·simp only[go_sem];exact tail _ _ ⟨x.kind,x.dF,x.loc,x.a,0,x.b,0⟩ false rfl rfl rfl (by simp[da,h4,sa])
   ·simp only[go_sem];refine aF (ec x.a) rfl rfl ?_;cases zy:eD x.a
    ·simp only[go_sem];exact tail _ _ ⟨x.kind,x.dF,x.loc,x.a,0,x.b,0⟩ false rfl rfl rfl (by simp[da,h4,zy])
    ·simp only[go_sem];refine aF (ec x.b) rfl rfl ?_;simp only[go_sem];exact tail _ _ ⟨x.kind,x.dF,x.loc,x.a,0,x.b,0⟩ (eD x.b) (by simp[ah]) rfl rfl (by simp[da,h4,hb,sa,zy])
 refine aK ?_ (by simp[ev,ah,h4]);refine J λK hK=>?_;simp only[go_sem];apply hK;by_cases h5:x.kind=5
 ·refine aN ?_ (by simp[ev,ah,h5]);refine aa λK hK=>az rfl rfl ?_;simp only[go_sem];refine⟨rfl,hK _ ?_⟩;refine af rfl ?_;simp only[go_sem];refine aF (gJ x.dF) rfl rfl ?_;cases hb:gn x.dF
  ·simp only[go_sem];exact tail _ _ ⟨x.kind,x.dF,0,x.a,x.op,x.b,0⟩ false rfl rfl rfl (by simp[da,h5,hb])
  ·simp only[go_sem];refine aF (ec x.a) rfl rfl ?_;cases zy:eD x.a
   ·simp only[go_sem];exact tail _ _ ⟨x.kind,x.dF,0,x.a,x.op,x.b,0⟩ false rfl rfl rfl (by simp[da,h5,zy])
   ·simp only[go_sem];refine aF (ec x.b) rfl rfl ?_;cases WQ:eD x.b
    ·simp only[go_sem];exact tail _ _ ⟨x.kind,x.dF,0,x.a,x.op,x.b,0⟩ false rfl rfl rfl (by simp[da,h5,WQ])
    ·by_cases g1:0<=x.op
     ·by_cases g2:x.op<=11
      ·by_cases g3:0<x.op
       ·simp only[go_sem,g1,g2,g3];exact tail _ _ ⟨x.kind,x.dF,0,x.a,x.op,x.b,0⟩ true rfl rfl rfl (by simp[da,h5,hb,zy,WQ,g1,g2,g3])
       ·simp only[go_sem,g1,g2,g3];exact tail _ _ ⟨x.kind,x.dF,0,x.a,x.op,x.b,0⟩ (decide (x.b.dF=-1)&&decide (x.b.value=0)) (by simp[ah]) rfl rfl (by simp[da,h5,hb,zy,WQ,g1,g2,g3])
      ·simp only[go_sem,g1,g2];exact tail _ _ ⟨x.kind,x.dF,0,x.a,x.op,x.b,0⟩ false rfl rfl rfl (by simp[da,h5,g2])
     ·simp only[go_sem,g1];exact tail _ _ ⟨x.kind,x.dF,0,x.a,x.op,x.b,0⟩ false rfl rfl rfl (by simp[da,h5,g1])
 refine aK ?_ (by simp[ev,ah,h5]);refine J λK hK=>?_;simp only[go_sem];apply hK;by_cases h6:x.kind=6
 ·refine aN ?_ (by simp[ev,ah,h6]);refine aa λK hK=>az rfl rfl ?_;simp only[go_sem];refine⟨rfl,hK _ ?_⟩;by_cases g1:0<=x.n
  ·refine af rfl ?_;simp only[go_sem,g1];refine aF (ec x.a) rfl rfl ?_;cases zy:eD x.a
   ·simp only[go_sem];exact tail _ _ ⟨x.kind,0,0,x.a,0,x.b,x.n⟩ false rfl rfl rfl (by simp[da,h6,zy])
   ·simp only[go_sem];refine aF (ec x.b) rfl rfl ?_;simp only[go_sem];exact tail _ _ ⟨x.kind,0,0,x.a,0,x.b,x.n⟩ (eD x.b) (by simp[ah]) rfl rfl (by simp[da,h6,zy,g1])
  ·refine af rfl ?_;simp only[go_sem,g1];exact tail _ _ ⟨x.kind,0,0,x.a,0,x.b,x.n⟩ false rfl rfl rfl (by simp[da,h6,g1])
 refine aK ?_ (by simp[ev,ah,h6]);refine J λK hK=>?_;simp only[go_sem];apply hK;apply ak;simp only[go_sem];refine aD _ rfl rfl ⟨?_,rfl⟩;simp[ah,da,h1,h2,h3,h4,h5,h6]
theorem G8 (x:Ins):Pure aM 137 [.agg (x.cells.map .d)] (.d (.bool (da x))):=by
 refine ay func137 NG ntmps137 results137 rfl ?_;unfold TZ;refine J λK hK=>?_;simp only[go_sem,Ins.cells];refine hK _ (J λK hK=>?_);simp only[go_sem];refine aF (Ew x) rfl rfl ?_;simp only[go_sem];apply hK;apply ak;simp only[go_sem];refine aD _ rfl rfl ⟨?_,rfl⟩;rfl
theorem Ex {gf:Nat} {caps:List AV} (hg:jo aM gf=true) (fE:bF (λ_=>none) caps=true) {l:List Atom} {X:DV} (hX:dM Atom.cells l X) (q:Atom->Bool)
 (hq:∀a∈l,Pure aM gf (.agg ((Atom.cells a).map .d)::caps) (.d (.bool (q a)))):Pure aM 182 [.d X,.fn gf caps] (.d (.bool (l.any q))):=by
 have h1:Pure aM 240 [.d X,.fn gf caps] _:=ja func240 Et ntmps240 rfl results240
  (qp (k:=4) Em (by omega) hX) hg fE (λi hi=>by simp[uH,hi,bE,sO]) (p:=λi=>(l[i]?.map q).getD false)
  (λi hi=>by simp only[uH,ac6 hi,ady,adE];exact hq _ (adt hi))
 have h2:=fV func182 Eo ntmps182 rfl results182 fE h1;rw[n4]at h2;exact h2
theorem R5 {gf:Nat} {caps:List AV} (hg:jo aM gf=true) (fE:bF (λ_=>none) caps=true) {l:List Ins} {X:DV} (hX:dM Ins.cells l X) (q:Ins->Bool)
 (hq:∀a∈l,Pure aM gf (.agg ((Ins.cells a).map .d)::caps) (.d (.bool (q a)))):Pure aM 135 [.d X,.fn gf caps] (.d (.bool (l.any q))):=by
 have h1:Pure aM 213 [.d X,.fn gf caps] _:=ja func213 Er ntmps213 rfl results213
  (qp (k:=9) lg (by omega) hX) hg fE (λi hi=>by simp[uH,hi,bE,sO]) (p:=λi=>(l[i]?.map q).getD false)
  (λi hi=>by simp only[uH,ac6 hi,ady,adE];exact hq _ (adt hi))
 have h2:=fV func135 En ntmps135 rfl results135 fE h1;rw[n4]at h2;exact h2
theorem Oc {gf:Nat} {caps:List AV} (hg:jo aM gf=true) (fE:bF (λ_=>none) caps=true) {l:List Init} {X:DV} (hX:dM Init.cells l X) (q:Init->Bool)
 (hq:∀a∈l,Pure aM gf (.agg ((Init.cells a).map .d)::caps) (.d (.bool (q a)))):Pure aM 139 [.d X,.fn gf caps] (.d (.bool (l.any q))):=by
 have h1:Pure aM 214 [.d X,.fn gf caps] _:=ja func214 NW ntmps214 rfl results214
  (qp (k:=2) yb (by omega) hX) hg fE (λi hi=>by simp[uH,hi,bE,sO]) (p:=λi=>(l[i]?.map q).getD false)
  (λi hi=>by simp only[uH,ac6 hi,ady,adE];exact hq _ (adt hi))
 have h2:=fV func139 NI ntmps139 rfl results139 fE h1;rw[n4]at h2;exact h2
theorem IW {gf:Nat} {caps:List AV} (hg:jo aM gf=true) (fE:bF (λ_=>none) caps=true) {ls:List (List Atom)} {X:DV} (hX:cP Atom.cells ls X) (q:List Atom->Bool)
 (hq:∀l∈ls,∀d,dM Atom.cells l d->Pure aM gf (.d d::caps) (.d (.bool (q l)))):Pure aM 219 [.d X,.fn gf caps] (.d (.bool (ls.any q))):=by
 obtain⟨ds,h1,h2⟩:=hX;have hl:=h2.length;have h3:Pure aM 273 [.d X,.fn gf caps] _:=ja func273 Eu ntmps273 rfl results273
  (BV h1) hg fE (λi hi=>by simp[Eg,hi,bE]) (p:=λi=>(ls[i]?.map q).getD false)
  (λi hi=>by
   have gb:i<ls.length:=by omega
   obtain⟨d,h4,h5⟩:=h2.get i _ (ac6 gb);simp only[Eg,h4,ac6 gb,ady,adE];exact hq _ (adt gb) _ h5)
 have h4:=fV func219 Es ntmps219 rfl results219 fE h3;rw[hl,n4]at h4;exact h4
theorem yd {gf:Nat} {caps:List AV} (hg:jo aM gf=true) (fE:bF (λ_=>none) caps=true) {ls:List (List Ins)} {X:DV} (hX:cP Ins.cells ls X) (q:List Ins->Bool)
 (hq:∀l∈ls,∀d,dM Ins.cells l d->Pure aM gf (.d d::caps) (.d (.bool (q l)))):Pure aM 142 [.d X,.fn gf caps] (.d (.bool (ls.any q))):=by
 obtain⟨ds,h1,h2⟩:=hX;have hl:=h2.length;have h3:Pure aM 215 [.d X,.fn gf caps] _:=ja func215 NX ntmps215 rfl results215
  (BV h1) hg fE (λi hi=>by simp[Eg,hi,bE]) (p:=λi=>(ls[i]?.map q).getD false)
  (λi hi=>by
   have gb:i<ls.length:=by omega
   obtain⟨d,h4,h5⟩:=h2.get i _ (ac6 gb);simp only[Eg,h4,ac6 gb,ady,adE];exact hq _ (adt gb) _ h5)
 have h4:=fV func142 NL ntmps142 rfl results142 fE h3;rw[hl,n4]at h4;exact h4
theorem Ey (a:Atom):Pure aM 218 [.agg (a.cells.map .d)] (.d (.bool (iG a))):=by
 refine ay func218 N0 ntmps218 results218 rfl ?_;unfold Ug;refine aa λK hK=>af rfl ?_;simp only[go_sem,↓reduceIte,Atom.cells];refine hK _ ?_;clear hK;refine aa λK hK=>?_;refine aa λK hK=>af rfl ?_;simp only[go_sem,↓reduceIte];refine hK _ ?_;clear hK;by_cases h1:a.eA=-1
 ·refine bP true (by simp[ev,ah,h1]) (λ_=>?_) (λh=>nomatch h);by_cases h2:a.dF=0
  ·refine aa λK hK=>af rfl ?_;simp only[go_sem,↓reduceIte,h2];refine aF (iP a.loc) rfl rfl ?_;simp only[go_sem,↓reduceIte];refine hK _ ?_;clear hK;refine ak ?_;simp only[go_sem];refine aD _ rfl rfl ⟨?_,rfl⟩;simp[ah,iG,h1,h2]
  ·refine aa λK hK=>af rfl ?_;simp only[go_sem,↓reduceIte,h2];refine hK _ ?_;clear hK;refine ak ?_;simp only[go_sem];refine aD _ rfl rfl ⟨?_,rfl⟩;simp[ah,iG,h1,h2]
 ·refine bP false (by simp[ev,ah,h1]) (λh=>nomatch h) (λ_=>?_);refine au ?_;refine hK _ ?_;clear hK;by_cases g1:0<=a.eA
  ·by_cases g2:a.eA<=9
   ·by_cases g3:a.loc=0
    ·refine aa λK hK=>af rfl ?_;simp only[go_sem,↓reduceIte,g1,g2,g3];refine aF (gJ a.dF) rfl rfl ?_;simp only[go_sem,↓reduceIte];refine hK _ ?_;clear hK;refine ak ?_;simp only[go_sem];refine aD _ rfl rfl ⟨?_,rfl⟩;simp[ah,iG,h1,g1,g2,g3]
    ·refine aa λK hK=>af rfl ?_;simp only[go_sem,↓reduceIte,g1,g2,g3];refine hK _ ?_;clear hK;refine ak ?_;simp only[go_sem];refine aD _ rfl rfl ⟨?_,rfl⟩;simp[ah,iG,h1,g1,g2,g3]
   ·refine aa λK hK=>af rfl ?_;simp only[go_sem,↓reduceIte,g1,g2];refine hK _ ?_;clear hK;refine ak ?_;simp only[go_sem];refine aD _ rfl rfl ⟨?_,rfl⟩;simp[ah,iG,h1,g1,g2]
  ·refine aa λK hK=>af rfl ?_;simp only[go_sem,↓reduceIte,g1];refine hK _ ?_;clear hK;refine ak ?_;simp only[go_sem];refine aD _ rfl rfl ⟨?_,rfl⟩;simp[ah,iG,h1,g1]
theorem B6 (a:Atom):Pure aM 217 [.agg (a.cells.map .d)] (.d (.bool (!iG a))):=by
 refine ay func217 NZ ntmps217 results217 rfl ?_;unfold Uf;refine J λK hK=>?_;simp only[go_sem,Atom.cells];refine hK _ (J λK hK=>?_);simp only[go_sem];refine aF (Ey a) rfl rfl ?_;simp only[go_sem];apply hK;apply ak;simp only[go_sem];refine aD _ rfl rfl ⟨?_,rfl⟩;simp[ah]
theorem Ez {l:List Atom} {X:DV} (hX:dM Atom.cells l X):Pure aM 216 [.d X] (.d (.bool (ob l))):=by
 refine ay func216 NY ntmps216 results216 rfl ?_;unfold Ue;refine J λK hK=>?_;simp only[go_sem];apply hK;have hl:=hX.len;by_cases h:l.length=0
 ·have h':(l.length:Int)=0:=by omega
  refine J λK hK=>?_;simp only[go_sem,hl,h'];apply hK;apply ak;simp only[go_sem];refine aD _ rfl rfl ⟨?_,rfl⟩;simp[ah,ob,h]
 ·have h':¬(l.length:Int)=0:=by omega
  refine J λK hK=>?_;simp only[go_sem,hl,h'];refine aF (Ex rfl rfl hX (λa=>!iG a) λa _=>B6 a) rfl rfl ?_;simp only[go_sem];apply hK;apply ak;simp only[go_sem];refine aD _ rfl rfl ⟨?_,rfl⟩;simp[ah,ob,h]
theorem EA {rows:List (List Atom)} {A:DV} (hA:cP Atom.cells rows A) (kind:Int):Pure aM 143 [.agg [aq kind,.d A]] (.d (.bool (lh kind rows))):=by
 refine ay func143 NM ntmps143 results143 rfl ?_;unfold T4;refine aa λK hK=>af rfl ?_;simp only[go_sem,↓reduceIte];refine hK _ ?_;clear hK;refine aa λK hK=>?_;refine aa λK hK=>af rfl ?_;simp only[go_sem,↓reduceIte];refine hK _ ?_;clear hK;have hl:=hA.len;by_cases h0:kind=0
 ·refine bP true (by simp[ev,ah,h0]) (λ_=>?_) (λh=>nomatch h);refine aa λK hK=>af rfl ?_;simp only[go_sem,↓reduceIte,hl];refine hK _ ?_;clear hK;refine ak ?_;simp only[go_sem];refine aD _ rfl rfl ⟨?_,rfl⟩;have:((rows.length:Int)=0)=(rows.length=0):=by apply propext;omega
  simp[ah,lh,h0]
 ·refine bP false (by simp[ev,ah,h0]) (λh=>nomatch h) (λ_=>?_);refine au ?_;refine hK _ ?_;clear hK;refine aa λK hK=>af rfl ?_;simp only[go_sem,↓reduceIte];refine hK _ ?_;clear hK;by_cases hk:kind=1\/kind=2
  ·by_cases hr:0<rows.length
   ·have Ry:(0:Int)<rows.length:=by omega
    have key:∀(dst:Option Nat) (r:List bA) (K:St->Prop) (t:Fr) (m:Mem) (n:Nat),cz aM r ⟨cK t dst (.d (.bool (rows.any ob))),m,n⟩ K->oS aM 219 [.d A,.fn 216 []] dst r K t m n:=
     λdst r K t m n h=>aF (IW rfl rfl hA ob λl _ d hd=>Ez hd) rfl rfl h
    rcases hk with h1|h2
    ·refine aa λK hK=>af rfl ?_;simp only[go_sem,↓reduceIte,h1,hl,Ry];refine key _ _ _ _ _ _ ?_;simp only[go_sem,↓reduceIte];refine hK _ ?_;clear hK;refine ak ?_;simp only[go_sem];refine aD _ rfl rfl ⟨?_,rfl⟩;simp[ah,lh,h1,hr]
    ·refine aa λK hK=>af rfl ?_;simp only[go_sem,↓reduceIte,h2,hl,Ry];refine key _ _ _ _ _ _ ?_;simp only[go_sem,↓reduceIte];refine hK _ ?_;clear hK;refine ak ?_;simp only[go_sem];refine aD _ rfl rfl ⟨?_,rfl⟩;simp[ah,lh,h2,hr]
   ·have Ry:¬(0:Int)<rows.length:=by omega
    rcases hk with h1|h2
    ·refine aa λK hK=>af rfl ?_;simp only[go_sem,↓reduceIte,h1,hl,Ry];refine hK _ ?_;clear hK;refine ak ?_;simp only[go_sem];refine aD _ rfl rfl ⟨?_,rfl⟩;simp[ah,lh,h1,hr]
    ·refine aa λK hK=>af rfl ?_;simp only[go_sem,↓reduceIte,h2,hl,Ry];refine hK _ ?_;clear hK;refine ak ?_;simp only[go_sem];refine aD _ rfl rfl ⟨?_,rfl⟩;simp[ah,lh,h2,hr]
  ·have h1:¬kind=1:=λh=>hk (.inl h);have h2:¬kind=2:=λh=>hk (.inr h);refine aa λK hK=>af rfl ?_;simp only[go_sem,↓reduceIte,h1,h2];refine hK _ ?_;clear hK;refine ak ?_;simp only[go_sem];refine aD _ rfl rfl ⟨?_,rfl⟩;simp[ah,lh,h0,h1,h2]
theorem EB (x:Ins):Pure aM 136 [.agg (x.cells.map .d)] (.d (.bool (!da x))):=by
 refine ay func136 NF ntmps136 results136 rfl ?_;unfold TY;refine J λK hK=>?_;simp only[go_sem,Ins.cells];refine hK _ (J λK hK=>?_);simp only[go_sem];refine aF (G8 x) rfl rfl ?_;simp only[go_sem];apply hK;apply ak;simp only[go_sem];refine aD _ rfl rfl ⟨?_,rfl⟩;simp[ah]
theorem ye {l:List Ins} {X:DV} (hX:dM Ins.cells l X):Pure aM 134 [.d X] (.d (.bool (gI l))):=by
 refine ay func134 ND ntmps134 results134 rfl ?_;unfold TW;refine J λK hK=>?_;simp only[go_sem];refine hK _ (J λK hK=>?_);simp only[go_sem];refine aF (R5 rfl rfl hX (λx=>!da x) λa _=>EB a) rfl rfl ?_;simp only[go_sem];apply hK;apply ak;simp only[go_sem];refine aD _ rfl rfl ⟨?_,rfl⟩;rfl
theorem B7 (x:Init):Pure aM 140 [.agg (x.cells.map .d)] (.d (.bool (!dA x.loc))):=by
 refine ay func140 NJ ntmps140 results140 rfl ?_;unfold T2;refine J λK hK=>?_;simp only[go_sem,Init.cells];refine hK _ (J λK hK=>?_);simp only[go_sem];refine aF (iP x.loc) rfl rfl ?_;simp only[go_sem];apply hK;apply ak;simp only[go_sem];refine aD _ rfl rfl ⟨?_,rfl⟩;simp[ah]
theorem R6 {t:Test} {cs:List DV} (hT:mE t cs) (hn:t.name.length<=9223372036854775807):Pure aM 80 [.agg (cs.map .d)] (.d (.bool (okB t))):=by
 obtain⟨I,T,A,rfl,hI,zQ,hA⟩:=hT;have kI:∀(dst:Option Nat) (r:List bA) (K:St->Prop) (t':Fr) (m:Mem) (n:Nat),cz aM r ⟨cK t' dst (.d (.bool (nk t.inits))),m,n⟩ K->oS aM 139 [.d I,.fn 140 []] dst r K t' m n:=
  λdst r K t m n h=>aF (Oc rfl rfl hI (λx=>!dA x.loc) λa _=>B7 a) rfl rfl h
 have kT:∀(dst:Option Nat) (r:List bA) (K:St->Prop) (t':Fr) (m:Mem) (n:Nat),cz aM r ⟨cK t' dst (.d (.bool (t.threads.any gI))),m,n⟩ K->oS aM 142 [.d T,.fn 134 []] dst r K t' m n:=
  λdst r K t m n h=>aF (yd rfl rfl zQ gI λl _ d hd=>ye hd) rfl rfl h
 refine ay func80 RY ntmps80 results80 rfl ?_;unfold ZN;refine J λK hK=>?_;simp only[go_sem];refine hK _ (J λK hK=>?_);simp only[go_sem];refine hK _ (J λK hK=>?_);simp only[go_sem];refine aF (Ev t.name hn) rfl rfl ?_;cases hw:n9 t.name
 ·simp only[go_sem];apply hK;apply ak;simp only[go_sem];refine aD _ rfl rfl ⟨?_,rfl⟩;simp[ah,okB,hw]
 ·simp only[go_sem];refine kI _ _ _ _ _ _ ?_;cases hi:nk t.inits
  ·simp only[go_sem];refine kT _ _ _ _ _ _ ?_;cases ht:t.threads.any gI
   ·simp only[go_sem];refine aF (EA hA t.kind) rfl rfl ?_;simp only[go_sem];apply hK;apply ak;simp only[go_sem];refine aD _ rfl rfl ⟨?_,rfl⟩;simp[ah,okB,hw,hi,ht]
   ·simp only[go_sem];apply hK;apply ak;simp only[go_sem];refine aD _ rfl rfl ⟨?_,rfl⟩;simp[ah,okB,hw,hi,ht]
  ·simp only[go_sem];apply hK;apply ak;simp only[go_sem];refine aD _ rfl rfl ⟨?_,rfl⟩;simp[ah,okB,hw,hi]
def bV (s:Nat) (x:Int):Nat:=if dA x=true then n5 s (x-97).toNat else s
theorem KV {s:Nat} (hs:s<67108864) (x:Int):bV s x<67108864:=by
 unfold bV;split
 ·rename_i h;have:=(eM x).1 h;exact AH hs (by omega)
 ·exact hs
theorem oc {α:Type} (f:α->Int):∀(l:List α) {s:Nat},s<67108864->l.foldl (λs x=>bV s (f x)) s<67108864
 | [],s,h=>h
 |a::l,s,h=>by rw[adB];exact oc f l (KV h _)
theorem nm {α:Type} (f:α->Int):∀(l:List (List α)) {s:Nat},s<67108864->l.foldl (λs l=>l.foldl (λs x=>bV s (f x)) s) s<67108864
 | [],s,h=>h
 |a::l,s,h=>by rw[adB];exact nm f l (oc f a h)
theorem R7 {x:Int} (h0:97<=x) (h1:x<=122):adA.wrap (1*2^min (x-97).toNat (adA.bits))=((2^(x-97).toNat:Nat):Int):=by
 have hm:min (x-97).toNat (adA.bits)=(x-97).toNat:=Nat.min_eq_left (by have:adA.bits=64:=rfl;omega);have bd:(2:Nat)^(x-97).toNat<2^26:=Nat.pow_lt_pow_right (by omega) (by omega);rw[hm,wrap_u64];·simp
 ·have:(0:Int)<=((2^(x-97).toNat:Nat):Int):=acX _;simpa using this
 ·have:((2^(x-97).toNat:Nat):Int)<18446744073709551616:=by omega
  simpa using this
theorem KW (x:Int) {s:Nat} (hs:s<67108864):
 bT aM 279 [aq x,.ptr 0 0] [(0,[cX s])] λr m'=>r=.cu []/\m'=[(0,[cX (bV s x)])]:=by
 refine ay func279 N7 ntmps279 results279 rfl ?_;unfold Un;refine J λK hK=>?_;simp only[go_sem];refine aF (iP x) rfl rfl ?_;simp only[go_sem];apply hK;cases hb:dA x
 ·refine aK ?_;apply au;exact⟨.cu [],rfl,[(0,0)],[(0,[cX s])],rfl,rfl,by simp[aL,aI,ai,aj,AV.aC],rfl,by simp[bV,hb]⟩
 ·refine aN ?_;have h:=(eM x).1 hb;have hw:ac9.wrap (x-97)=x-97:=wrap_i64 (by omega) (by omega);have hp:(2:Nat)^(x-97).toNat<18446744073709551616:=by
   have:(2:Nat)^(x-97).toNat<2^26:=Nat.pow_lt_pow_right (by omega) (by omega);omega
  have Yj:=BW (a:=s) (b:=2^(x-97).toNat) (by omega) hp;have Rg:=R7 h.1 h.2;have Gt:adA.wrap (2^min (x-97).toNat 64)=((2^(x-97).toNat:Nat):Int):=by rw[Int.one_mul]at Rg;exact Rg
  have hn:¬x-97<0:=by omega
  refine az rfl rfl ?_;have G9:(x-97).toNat<=64:=by omega
  have yf:adA.bits=64:=rfl;have uE:min (x-97).toNat 64=(x-97).toNat:=Nat.min_eq_left G9;rw[yf,uE]at Rg;rw[uE]at Gt;simp only[go_sem,hw,hn,yf,G9,Rg,Gt,Yj];refine⟨rfl,?_⟩;exact⟨.cu [],rfl,[(0,0)],[(0,[cX (bV s x)])],rfl,rfl,by simp only[aL,aI,ai,aj,AV.aC,bV,hb,n5,if_true,Int.one_mul,Rg,Gt,Yj,and_true,true_and,↓reduceIte],rfl,rfl⟩
theorem uJ (x:Int) {s:Nat} (hs:s<67108864) {j:Nat} {dst:Option Nat} {r:List bA} {K:St->Prop} {t:Fr} {m:Mem} {n:Nat} (hm:ai m j=some [cX s])
 (hk:cz aM r ⟨cK t dst (.cu []),an m j [cX (bV s x)],n+1⟩ K):oS aM 279 [aq x,.ptr j 0] dst r K t m n:=by
 refine bt [(0,j)] [aq x,.ptr 0 0] [(0,[cX s])] (nb:=j+1) (KW x hs) (by simp[bC]) (by simp[aj,AV.aC,ag]) (by simp[bF,bE,ag]) ⟨by simp[ag,hm,aj,AV.aC,bF,bE],trivial⟩ (by simp[ai]) ?_;rintro r0 m' ⟨rfl,rfl⟩;have e:bn [(0,j)] [(0,[cX s])] [(0,[cX (bV s x)])] n m=an m j [cX (bV s x)]:=by
  simp[bn,bL,bN,ai,aj,AV.aC]
 rw[e];exact hk
def jk (cs:List DV) (s:Nat) (ex:Fr):St:=⟨ex++[(1,.bj cs),(2,cX 0),(3,.ptr 0 0),(4,.fn 279 [.ptr 0 0])],[(0,[cX s])],1⟩
theorem Ha {l:List Init} {D:DV} (hD:dM Init.cells l D) {cs:List DV} {s:Nat} (hs:s<67108864) {Q:Exit->St->Prop}
 (hQ:Q (.exit 0) (jk cs (l.foldl (λs x=>bV s x.loc) s) [])):
 fN aM (aw []) 68 (.loop B1) (jk cs s [(19,aq (0:Nat)),(17,.d D),(18,aq l.length)]) Q:=by
 have fw:=hD.1;refine bM (λi=>jk cs ((l.take i).foldl (λs x=>bV s x.loc) s) [(19,aq (i:Nat)),(17,.d D),(18,aq l.length)]) l.length ?_;intro i hi;have Gu:(l.take i).foldl (λs (x:Init)=>bV s x.loc) s<67108864:=oc _ _ hs;generalize hv:(l.take i).foldl (λs (x:Init)=>bV s x.loc) s=si at Gu;unfold B1 jk;by_cases bd:i<l.length
 ·have aQ:(i:Int)<l.length:=by omega
  obtain⟨R8,rest,qq,bU,b9⟩:=hD.at yb (by omega) i bd;have b0:=gG (λs (x:Init)=>bV s x.loc) s l i bd;rw[hv]at b0;have hw:=c8 (i:=i) (by omega);refine J λK hK=>?_;simp only[go_sem,aQ];apply hK;refine aa λK1 a8=>?_;refine aN ?_;apply au;apply a8;refine aa λK1 a8=>?_;apply aA;have Dx:∀(n:Nat),(2<=(n+1+1))=True:=λn=>by simp
  refine J λK hK=>?_;simp only[go_sem,qq,aQ,acX,acW,b9,bU,Init.cells,Dx];apply hK;generalize l[i]=x at b0 bU;refine af rfl ?_;simp only[go_sem];refine⟨rfl,uJ x.loc Gu rfl ?_⟩;simp only[go_sem];apply a8;refine af rfl ?_;simp only[go_sem,hw];exact⟨bd,(aH.cN [(0,0)] ⟨by simp[bm,ah,AV.aC,aj,ag,qq,b0],by simp[aL,aI,ai,an,aj,AV.aC,ag,ae,-acU,qq,b0],rfl,rfl⟩)⟩
 ·have aQ:¬(i:Int)<l.length:=by omega
  have dh:i=l.length:=by omega
  subst dh;rw[ac8 (acV _)]at hv;refine J λK hK=>?_;simp only[go_sem,aQ];apply hK;refine aa λK1 a8=>?_;refine aK ?_;refine ax (S':=jk cs (l.foldl (λs x=>bV s x.loc) s) []) (aH.cN [(0,0)] ⟨by simp[bm,ah,AV.aC,aj,ag,jk,hv],by simp[aL,aI,ai,an,aj,AV.aC,ag,ae,-acU,jk,hv],rfl,rfl⟩) ?_;exact aZ hQ
theorem Od {l:List Ins} {D D2:DV} (hD:dM Ins.cells l D) {cs:List DV} {s j n:Nat} (hs:s<67108864) {Q:Exit->St->Prop}
 (hQ:Q (.exit 4) (jk cs (l.foldl (λs x=>bV s x.loc) s) [(31,aq (j:Nat)),(29,.d D2),(30,aq n)])):
 fN aM (aw []) 68 (.loop B2) (jk cs s [(37,aq (0:Nat)),(35,.d D),(36,aq l.length),(31,aq (j:Nat)),(29,.d D2),(30,aq n)]) Q:=by
 have fw:=hD.1;refine bM (λi=>jk cs ((l.take i).foldl (λs x=>bV s x.loc) s) [(37,aq (i:Nat)),(35,.d D),(36,aq l.length),(31,aq (j:Nat)),(29,.d D2),(30,aq n)]) l.length ?_;intro i hi;have Gu:(l.take i).foldl (λs (x:Ins)=>bV s x.loc) s<67108864:=oc _ _ hs;generalize hv:(l.take i).foldl (λs (x:Ins)=>bV s x.loc) s=si at Gu;unfold B2 jk;by_cases bd:i<l.length
 ·have aQ:(i:Int)<l.length:=by omega
  obtain⟨R8,rest,qq,bU,b9⟩:=hD.at lg (by omega) i bd;have b0:=gG (λs (x:Ins)=>bV s x.loc) s l i bd;rw[hv]at b0;have hw:=c8 (i:=i) (by omega);refine J λK hK=>?_;simp only[go_sem,aQ];apply hK;refine aa λK1 a8=>?_;refine aN ?_;apply au;apply a8;refine aa λK1 a8=>?_;apply aA;have Dx:∀(n:Nat),(9<=(n+1+1+1+1+1+1+1+1+1))=True:=λn=>by simp
  refine J λK hK=>?_;simp only[go_sem,qq,aQ,acX,acW,b9,bU,Ins.cells,Dx];apply hK;generalize l[i]=x at b0 bU;refine af rfl ?_;simp only[go_sem];refine⟨rfl,uJ x.loc Gu rfl ?_⟩;simp only[go_sem];apply a8;refine af rfl ?_;simp only[go_sem,hw];exact⟨bd,(aH.cN [(0,0)] ⟨by simp[bm,ah,AV.aC,aj,ag,qq,b0],by simp[aL,aI,ai,an,aj,AV.aC,ag,ae,-acU,qq,b0],rfl,rfl⟩)⟩
 ·have aQ:¬(i:Int)<l.length:=by omega
  have dh:i=l.length:=by omega
  subst dh;rw[ac8 (acV _)]at hv;refine J λK hK=>?_;simp only[go_sem,aQ];apply hK;refine aa λK1 a8=>?_;refine aK ?_;refine ax (S':=jk cs (l.foldl (λs x=>bV s x.loc) s) [(31,aq (j:Nat)),(29,.d D2),(30,aq n)]) (aH.cN [(0,0)] ⟨by simp[bm,ah,AV.aC,aj,ag,jk,hv],by simp[aL,aI,ai,an,aj,AV.aC,ag,ae,-acU,jk,hv],rfl,rfl⟩) ?_;exact aZ hQ
theorem KX {ls:List (List Ins)} {D:DV} (hD:cP Ins.cells ls D) {cs:List DV} {s:Nat} (hs:s<67108864) {Q:Exit->St->Prop}
 (hQ:Q (.exit 2) (jk cs (ls.foldl (λs l=>l.foldl (λs x=>bV s x.loc) s) s) [])):
 fN aM (aw []) 68 (.loop B3) (jk cs s [(31,aq (0:Nat)),(29,.d D),(30,aq ls.length)]) Q:=by
 have fw:=hD.iW;refine bM (λj=>jk cs ((ls.take j).foldl (λs l=>l.foldl (λs x=>bV s x.loc) s) s) [(31,aq (j:Nat)),(29,.d D),(30,aq ls.length)]) ls.length ?_;intro j hj;have Gu:(ls.take j).foldl (λs (l:List Ins)=>l.foldl (λs x=>bV s x.loc) s) s<67108864:=nm _ _ hs;generalize hv:(ls.take j).foldl (λs (l:List Ins)=>l.foldl (λs x=>bV s x.loc) s) s=si at Gu;unfold B3;by_cases bd:j<ls.length
 ·have aQ:(j:Int)<ls.length:=by omega
  obtain⟨R8,d,rest,qq,WR,WS,hd⟩:=hD.at j bd;have b0:=gG (λs (l:List Ins)=>l.foldl (λs x=>bV s x.loc) s) s ls j bd;rw[hv]at b0;have hw:=c8 (i:=j) (by omega);have zz:=hd.len;unfold jk;refine J λK hK=>?_;simp only[go_sem,aQ];apply hK;refine aa λK1 a8=>?_;refine aN ?_;apply au;apply a8;refine aa λK1 a8=>?_;apply aA;refine J λK hK=>?_;simp only[go_sem,qq,aQ,acX,acW,Nat.mul_one,WS,WR];refine hK _ (J λK hK=>?_);simp only[go_sem,zz];apply hK;apply aA
  refine ax (S':=jk cs si [(37,aq (0:Nat)),(35,.d d),(36,aq (ls[j].length)),(31,aq (j:Nat)),(29,.d D),(30,aq ls.length)]) (aH.cN [(0,0)] ⟨by simp[bm,ah,AV.aC,aj,ag,jk,qq],by simp[aL,aI,ai,an,aj,AV.aC,ag,ae,-acU,jk,qq],rfl,rfl⟩) ?_;refine Od hd Gu ?_;rw[<-b0];unfold jk;simp only[go_sem];apply a8;refine af rfl ?_;simp only[go_sem,hw];exact⟨bd,(aH.cN [(0,0)] ⟨by simp[bm,ah,AV.aC,aj,ag,jk],by simp[aL,aI,ai,an,aj,AV.aC,ag,ae,-acU,jk],rfl,rfl⟩)⟩
 ·have aQ:¬(j:Int)<ls.length:=by omega
  have dh:j=ls.length:=by omega
  subst dh;rw[ac8 (acV _)]at hv;unfold jk;refine J λK hK=>?_;simp only[go_sem,aQ];apply hK;refine aa λK1 a8=>?_;refine aK ?_;refine ax (S':=jk cs (ls.foldl (λs l=>l.foldl (λs x=>bV s x.loc) s) s) []) (aH.cN [(0,0)] ⟨by simp[bm,ah,AV.aC,aj,ag,jk,hv],by simp[aL,aI,ai,an,aj,AV.aC,ag,ae,-acU,jk,hv],rfl,rfl⟩) ?_;exact aZ hQ
theorem KY {l:List Atom} {D D2:DV} (hD:dM Atom.cells l D) {cs:List DV} {s j n:Nat} (hs:s<67108864) {Q:Exit->St->Prop}
 (hQ:Q (.exit 8) (jk cs (l.foldl (λs x=>bV s x.loc) s) [(51,aq (j:Nat)),(49,.d D2),(50,aq n)])):
 fN aM (aw []) 68 (.loop B4) (jk cs s [(57,aq (0:Nat)),(55,.d D),(56,aq l.length),(51,aq (j:Nat)),(49,.d D2),(50,aq n)]) Q:=by
 have fw:=hD.1;refine bM (λi=>jk cs ((l.take i).foldl (λs x=>bV s x.loc) s) [(57,aq (i:Nat)),(55,.d D),(56,aq l.length),(51,aq (j:Nat)),(49,.d D2),(50,aq n)]) l.length ?_;intro i hi;have Gu:(l.take i).foldl (λs (x:Atom)=>bV s x.loc) s<67108864:=oc _ _ hs;generalize hv:(l.take i).foldl (λs (x:Atom)=>bV s x.loc) s=si at Gu;unfold B4 jk;by_cases bd:i<l.length
 ·have aQ:(i:Int)<l.length:=by omega
  obtain⟨R8,rest,qq,bU,b9⟩:=hD.at Em (by omega) i bd;have b0:=gG (λs (x:Atom)=>bV s x.loc) s l i bd;rw[hv]at b0;have hw:=c8 (i:=i) (by omega);refine J λK hK=>?_;simp only[go_sem,aQ];apply hK;refine aa λK1 a8=>?_;refine aN ?_;apply au;apply a8;refine aa λK1 a8=>?_;apply aA;have Dx:∀(n:Nat),(4<=(n+1+1+1+1))=True:=λn=>by simp
  refine J λK hK=>?_;simp only[go_sem,qq,aQ,acX,acW,b9,bU,Atom.cells,Dx];apply hK;generalize l[i]=x at b0 bU;refine af rfl ?_;simp only[go_sem];refine⟨rfl,uJ x.loc Gu rfl ?_⟩;simp only[go_sem];apply a8;refine af rfl ?_;simp only[go_sem,hw];exact⟨bd,(aH.cN [(0,0)] ⟨by simp[bm,ah,AV.aC,aj,ag,qq,b0],by simp[aL,aI,ai,an,aj,AV.aC,ag,ae,-acU,qq,b0],rfl,rfl⟩)⟩
 ·have aQ:¬(i:Int)<l.length:=by omega
  have dh:i=l.length:=by omega
  subst dh;rw[ac8 (acV _)]at hv;refine J λK hK=>?_;simp only[go_sem,aQ];apply hK;refine aa λK1 a8=>?_;refine aK ?_;refine ax (S':=jk cs (l.foldl (λs x=>bV s x.loc) s) [(51,aq (j:Nat)),(49,.d D2),(50,aq n)]) (aH.cN [(0,0)] ⟨by simp[bm,ah,AV.aC,aj,ag,jk,hv],by simp[aL,aI,ai,an,aj,AV.aC,ag,ae,-acU,jk,hv],rfl,rfl⟩) ?_;exact aZ hQ
theorem Hb {ls:List (List Atom)} {D:DV} (hD:cP Atom.cells ls D) {cs:List DV} {s:Nat} (hs:s<67108864) {Q:Exit->St->Prop}
 (hQ:Q (.exit 6) (jk cs (ls.foldl (λs l=>l.foldl (λs x=>bV s x.loc) s) s) [])):
 fN aM (aw []) 68 (.loop B5) (jk cs s [(51,aq (0:Nat)),(49,.d D),(50,aq ls.length)]) Q:=by
 have fw:=hD.iW;refine bM (λj=>jk cs ((ls.take j).foldl (λs l=>l.foldl (λs x=>bV s x.loc) s) s) [(51,aq (j:Nat)),(49,.d D),(50,aq ls.length)]) ls.length ?_;intro j hj;have Gu:(ls.take j).foldl (λs (l:List Atom)=>l.foldl (λs x=>bV s x.loc) s) s<67108864:=nm _ _ hs;generalize hv:(ls.take j).foldl (λs (l:List Atom)=>l.foldl (λs x=>bV s x.loc) s) s=si at Gu;unfold B5;by_cases bd:j<ls.length
 ·have aQ:(j:Int)<ls.length:=by omega
  obtain⟨R8,d,rest,qq,WR,WS,hd⟩:=hD.at j bd;have b0:=gG (λs (l:List Atom)=>l.foldl (λs x=>bV s x.loc) s) s ls j bd;rw[hv]at b0;have hw:=c8 (i:=j) (by omega);have zz:=hd.len;unfold jk;refine J λK hK=>?_;simp only[go_sem,aQ];apply hK;refine aa λK1 a8=>?_;refine aN ?_;apply au;apply a8;refine aa λK1 a8=>?_;apply aA;refine J λK hK=>?_;simp only[go_sem,qq,aQ,acX,acW,Nat.mul_one,WS,WR];refine hK _ (J λK hK=>?_);simp only[go_sem,zz];apply hK;apply aA
  refine ax (S':=jk cs si [(57,aq (0:Nat)),(55,.d d),(56,aq (ls[j].length)),(51,aq (j:Nat)),(49,.d D),(50,aq ls.length)]) (aH.cN [(0,0)] ⟨by simp[bm,ah,AV.aC,aj,ag,jk,qq],by simp[aL,aI,ai,an,aj,AV.aC,ag,ae,-acU,jk,qq],rfl,rfl⟩) ?_;refine KY hd Gu ?_;rw[<-b0];unfold jk;simp only[go_sem];apply a8;refine af rfl ?_;simp only[go_sem,hw];exact⟨bd,(aH.cN [(0,0)] ⟨by simp[bm,ah,AV.aC,aj,ag,jk],by simp[aL,aI,ai,an,aj,AV.aC,ag,ae,-acU,jk],rfl,rfl⟩)⟩
 ·have aQ:¬(j:Int)<ls.length:=by omega
  have dh:j=ls.length:=by omega
  subst dh;rw[ac8 (acV _)]at hv;unfold jk;refine J λK hK=>?_;simp only[go_sem,aQ];apply hK;refine aa λK1 a8=>?_;refine aK ?_;refine ax (S':=jk cs (ls.foldl (λs l=>l.foldl (λs x=>bV s x.loc) s) s) []) (aH.cN [(0,0)] ⟨by simp[bm,ah,AV.aC,aj,ag,jk,hv],by simp[aL,aI,ai,an,aj,AV.aC,ag,ae,-acU,jk,hv],rfl,rfl⟩) ?_;exact aZ hQ
def pF (t:Test):Nat:=t.rows.foldl (λs l=>l.foldl (λs x=>bV s x.loc) s) (t.threads.foldl (λs l=>l.foldl (λs x=>bV s x.loc) s) (t.inits.foldl (λs x=>bV s x.loc) 0))
theorem Oe (t:Test):pF t<67108864:=nm _ _ (nm _ _ (oc _ _ (by omega)))
theorem B8 {t:Test} {cs:List DV} (hT:mE t cs):Pure aM 226 [.agg (cs.map .d)] (cX (pF t)):=by
 obtain⟨I,T,A,rfl,hI,zQ,hA⟩:=hT;have h1:t.inits.foldl (λs (x:Init)=>bV s x.loc) 0<67108864:=oc _ _ (by omega);have h2:t.threads.foldl (λs (l:List Ins)=>l.foldl (λs x=>bV s x.loc) s) (t.inits.foldl (λs (x:Init)=>bV s x.loc) 0)<67108864:=nm _ _ h1;have hIl:=hI.len;have Of:=zQ.len;have Yk:=hA.len;refine ay func226 N1 ntmps226 results226 rfl ?_;unfold Uh;refine J λK hK=>?_;simp only[go_sem];apply hK;refine ax (S':=⟨[(1,.bj [.str t.name,I,T,.int .i64 t.kind,A]),(2,cX 0)],[],0⟩) (aH.jn [] [(0,[.str t.name,I,T,.int .i64 t.kind,A])] ⟨?_,?_,rfl,rfl,?_⟩) ?_;·simp[fO,ah,AV.cv,dn,bI,ag]
 ·simp[gd,aI,bI,ai,dn,AV.cv]
 ·simp[bD,ai,dn,AV.cv]
 refine J λK hK=>?_;simp only[go_sem];refine hK _ (J λK hK=>?_);simp only[go_sem];apply hK;refine aa λK1 a8=>?_;refine aa λK2 fx=>?_;refine af rfl ?_;simp only[go_sem,hIl];apply fx;apply aA;refine ax (S':=jk [.str t.name,I,T,.int .i64 t.kind,A] 0 [(19,aq (0:Nat)),(17,.d I),(18,aq t.inits.length)]) (aH.cN [(0,0)] ⟨by simp[bm,ah,AV.aC,aj,ag,jk],by simp[aL,aI,ai,an,aj,AV.aC,ag,ae,-acU,jk],rfl,rfl⟩) ?_;refine Ha hI (by omega) ?_;unfold jk;simp only[go_sem];apply a8;refine aa λK1 a8=>?_;refine aa λK2 fx=>?_;refine af rfl ?_;simp only[go_sem,Of];apply fx;apply aA
 refine ax (S':=jk [.str t.name,I,T,.int .i64 t.kind,A] (t.inits.foldl (λs x=>bV s x.loc) 0) [(31,aq (0:Nat)),(29,.d T),(30,aq t.threads.length)]) (aH.cN [(0,0)] ⟨by simp[bm,ah,AV.aC,aj,ag,jk],by simp[aL,aI,ai,an,aj,AV.aC,ag,ae,-acU,jk],rfl,rfl⟩) ?_;refine KX zQ h1 ?_;unfold jk;simp only[go_sem];apply a8;refine aa λK1 a8=>?_;refine aa λK2 fx=>?_;refine af rfl ?_;simp only[go_sem,Yk];apply fx;apply aA
 refine ax (S':=jk [.str t.name,I,T,.int .i64 t.kind,A] (t.threads.foldl (λs l=>l.foldl (λs x=>bV s x.loc) s) (t.inits.foldl (λs x=>bV s x.loc) 0)) [(51,aq (0:Nat)),(49,.d A),(50,aq t.rows.length)]) (aH.cN [(0,0)] ⟨by simp[bm,ah,AV.aC,aj,ag,jk],by simp[aL,aI,ai,an,aj,AV.aC,ag,ae,-acU,jk],rfl,rfl⟩) ?_;refine Hb hA h2 ?_;unfold jk;simp only[go_sem];refine a8 _ (J λK hK=>?_);simp only[go_sem];apply hK;apply ak;simp only[go_sem];refine aD _ rfl rfl ⟨?_,rfl⟩;rfl
def mark (th:List Bool) (x:Int):List Bool:=th.set (wJ x) true
def letter (i:Nat):UInt8:=UInt8.ofNat (97+i)
def lets (th:List Bool) (i:Nat):List UInt8:=((ac7 i).filter λc=>th.getD (97+c) false).map letter
def yg (b:UInt8):DV:=.int .u8 b.toNat
def qt:List Bool:=ada 256 false
theorem EC:qt.length=256:=by simp[qt]
def pG (t:Test):List Bool:=
 t.rows.foldl (λth l=>l.foldl (λth x=>mark th x.loc) th) (t.threads.foldl (λth l=>l.foldl (λth x=>mark th x.loc) th) (t.inits.foldl (λth x=>mark th x.loc) qt))
def dz (t:Test):List UInt8:=lets (pG t) 26
def fB (s i:Nat):List UInt8:=((ac7 i).filter λc=>s.testBit c).map letter
theorem sR (s:Nat):fB s 0=[]:=rfl
theorem B9 (s i:Nat):fB s (i+1)=if s.testBit i=true then fB s i++[letter i]else fB s i:=by
 unfold fB;rw[List.range_succ,List.filter_append,adC];by_cases h:s.testBit i=true;·rw[if_pos h,List.filter_cons,if_pos h];rfl
 ·rw[if_neg h,List.filter_cons,if_neg h];simp
theorem ED (s i:Nat):(fB s i).length<=i:=by
 unfold fB;rw[acY];exact Nat.le_trans (List.length_filter_le _ _) (by simp)
def df (t:Test):List UInt8:=fB (pF t) 26
def Gv (cs:List DV) (s i:Nat):St:=
 ⟨[(8,aq (i:Nat)),(3,.sl 0 1 0 (fB s i).length),(1,.bj cs),(2,.d .cE),(4,cX s)],[(0,((fB s i).map yg).map .d)],1⟩
theorem zR {cs:List DV} {s:Nat} (hs:s<67108864) {Q:Exit->St->Prop} (hQ:Q (.exit 0) (Gv cs s 26)):
 fN aM (aw []) 24 (.loop B0) (Gv cs s 0) Q:=by
 refine bM (Gv cs s) 26 ?_;intro i hi;unfold B0;by_cases bd:i<26
 ·have aQ:(i:Int)<26:=by omega
  have hn:¬((i:Nat):Int)<0:=by omega
  have zT:i<=64:=by omega
  have hdv:s/2^i<18446744073709551616:=Nat.lt_of_le_of_lt (Nat.div_le_self _ _) (by omega);have hw:ac9.wrap (((i:Nat):Int)+1)=((i+1:Nat):Int):=by rw[wrap_i64 (by omega) (by omega)];omega
  have hwb:IntKind.u8.wrap (((i:Nat):Int))=((i:Nat):Int):=wrap_u8 (by omega) (by omega);have ZY:IntKind.u8.wrap (97+((i:Nat):Int))=((97+i:Nat):Int):=by rw[wrap_u8 (by omega) (by omega)];omega
  have hl:=ED s i;have Dx:(fB s i).length+1<=140737488351232:=by omega
  have mG:=B9 s i;have yf:adA.bits=64:=rfl;unfold Gv;refine J λK hK=>?_;simp only[go_sem,aQ];apply hK;refine aa λK1 a8=>?_;refine aN ?_;apply au;apply a8;refine aa λK1 a8=>?_;apply aA;refine J λK hK=>?_;simp only[go_sem];refine hK _ (J λK hK=>?_);simp only[go_sem,hn,acW,yf,zT,fdiv_pow,Eh _ hdv];apply hK;have RE:=Ei s i;generalize s/2^i%2=q at RE;by_cases hb:s.testBit i=true
  ·rw[if_pos hb]at mG;have fu:=RE.2 hb;refine aN ?_ (by simp[ev,ah,fu]);refine af rfl ?_;simp only[go_sem,hwb,ZY,Dx,adk];apply a8;have XS:yg (letter i)=.int .u8 (97+i:Nat):=by
    have:(letter i).toNat=97+i:=by simp[letter];omega
    rw[yg,this]
   refine af rfl ?_;simp only[go_sem,hw];exact⟨bd,(aH.cN [(2,0)] ⟨by simp[bm,ah,AV.aC,aj,ag,Gv,mG,XS],by simp[aL,aI,ai,an,aj,AV.aC,ag,ae,-acU,Gv,mG,XS],rfl,rfl⟩)⟩
  ·rw[if_neg hb]at mG;have fu:¬((q:Nat):Int)=1:=λh=>hb (RE.1 h);refine aK ?_ (by simp[ev,ah,fu]);apply au;apply a8;refine af rfl ?_;simp only[go_sem,hw];exact⟨bd,(aH.cN [(0,0)] ⟨by simp[bm,ah,AV.aC,aj,ag,Gv,mG],by simp[aL,aI,ai,an,aj,AV.aC,ag,ae,-acU,Gv,mG],rfl,rfl⟩)⟩
 ·have aQ:¬((i:Nat):Int)<26:=by omega
  have dh:i=26:=by omega
  unfold Gv;refine J λK hK=>?_;simp only[go_sem,aQ];apply hK;refine aa λK1 a8=>?_;refine aK ?_;subst dh;refine ax (S':=Gv cs s 26) (aH.cN [(0,0)] ⟨by simp[bm,ah,AV.aC,aj,ag,Gv],by simp[aL,aI,ai,an,aj,AV.aC,ag,ae,-acU,Gv],rfl,rfl⟩) ?_;exact aZ hQ
theorem rf {t:Test} {cs:List DV} (hT:mE t cs):Pure aM 155 [.agg (cs.map .d)] (.d (aR (df t))):=by
 have WT:=hT;obtain⟨I,T,A,rfl,hI,zQ,hA⟩:=hT;refine ay func155 NN ntmps155 results155 rfl ?_;unfold T5;refine J λK hK=>?_;simp only[go_sem];apply hK;refine ax (S':=⟨[(1,.bj [.str t.name,I,T,.int .i64 t.kind,A]),(2,.d .cE)],[],0⟩) (aH.jn [] [(0,[.str t.name,I,T,.int .i64 t.kind,A])] ⟨?_,?_,rfl,rfl,?_⟩) ?_;·simp[fO,ah,AV.cv,dn,bI,ag]
 ·simp[gd,aI,bI,ai,dn,AV.cv]
 ·simp[bD,ai,dn,AV.cv]
 refine J λK hK=>?_;simp only[go_sem];refine hK _ (J λK hK=>?_);simp only[go_sem];refine aF (B8 WT) rfl rfl ?_;simp only[go_sem];apply hK;refine ax (aH.nil 3 1 rfl rfl) ?_;refine aa λK1 a8=>?_;refine aa λK2 fx=>?_;refine af rfl ?_;simp only[go_sem];apply fx;apply aA;refine ax (S':=Gv [.str t.name,I,T,.int .i64 t.kind,A] (pF t) 0) (aH.cN [(0,0)] ⟨by simp[bm,ah,AV.aC,aj,ag,Gv,sR],by simp[aL,aI,ai,an,aj,AV.aC,ag,ae,-acU,Gv,sR],rfl,rfl⟩) ?_;refine zR (Oe t) ?_;simp only[go_sem];apply a8;unfold Gv;refine J λK hK=>?_;simp only[go_sem];apply hK
 have vP:((fB (pF t) 26).map yg).take (fB (pF t) 26).length=(fB (pF t) 26).map yg:=ac8 (by simp);refine ax (S':=⟨[(2,.d (aR (df t)))],[],0⟩) (aH.jn [] [(0,(fB (pF t) 26).map yg)] ⟨?_,?_,rfl,rfl,?_⟩) ?_
 ·have e:(λb:UInt8=>DV.int .u8 b.toNat)=yg:=rfl;simp[fO,ah,AV.cv,dn,bI,ag,vP,aR,df,e,-acU]
 ·simp[gd]
 ·simp[bD,ai,cF,-acU]
 apply ak;simp only[go_sem];refine aD _ rfl rfl ⟨?_,rfl⟩;rfl
def od (l:List (List Ins)):Nat:=l.foldl (λs x=>s+x.length) 0
def AL (l:List Atom):Bool:=decide (8<l.length)
def rD (t:Test):Bool:=
 t.threads.any (λl=>decide (10<l.length))||(decide (t.threads.length=0)||(decide (4<t.threads.length)||(decide (24<od t.threads)||(decide (4<(df t).length)||(decide (8<t.rows.length)||(t.rows.any AL||decide (20<t.name.length)))))))
theorem Hc {l:List Atom} {X:DV} (hX:dM Atom.cells l X):Pure aM 239 [.d X] (.d (.bool (AL l))):=by
 have hl:=hX.len;refine ay func239 N3 ntmps239 results239 rfl ?_;unfold Uj;refine J λK hK=>?_;simp only[go_sem];refine hK _ (J λK hK=>?_);simp only[go_sem,hl];apply hK;apply ak;simp only[go_sem];refine aD _ rfl rfl ⟨?_,rfl⟩;have:((8:Int)<l.length)=(8<l.length):=by apply propext;omega
 simp[ah,AL,this]
def Us (cs:List DV) (D:DV) (n s j:Nat):St:=⟨[(10,aq j),(8,.d D),(9,aq n),(3,aq s),(1,.bj cs),(2,.d (.bool false))],[],0⟩
theorem Og {t:Test} {cs:List DV} (hT:mE t cs) (fw:t.threads.length<=1000000):Pure aM 178 [.agg (cs.map .d)] (.d (.bool (rD t))):=by
 have WT:=hT;obtain⟨I,T,A,rfl,hI,zQ,hA⟩:=hT;have Of:=zQ.len;have Yk:=hA.len;refine ay func178 NQ ntmps178 results178 rfl ?_;unfold T8;refine J λK hK=>?_;simp only[go_sem];apply hK;refine ax (S':=⟨[(1,.bj [.str t.name,I,T,.int .i64 t.kind,A]),(2,.d (.bool false))],[],0⟩) (aH.jn [] [(0,[.str t.name,I,T,.int .i64 t.kind,A])] ⟨?_,?_,rfl,rfl,?_⟩) ?_;·simp[fO,ah,AV.cv,dn,bI,ag]
 ·simp[gd,aI,bI,ai,dn,AV.cv]
 ·simp[bD,ai,dn,AV.cv]
 refine J λK hK=>?_;simp only[go_sem];apply hK;refine aa λK1 a8=>?_;refine aa λK2 fx=>?_;refine af rfl ?_;simp only[go_sem,Of];apply fx;apply aA;refine ax (S':=Us [.str t.name,I,T,.int .i64 t.kind,A] T t.threads.length 0 0) (aH.cN [] ⟨by simp[bm,ah,AV.aC,aj,ag,Us],by simp[aL,aI,ai,an,aj,AV.aC,ag,ae,-acU,Us],rfl,rfl⟩) ?_;refine jW (λj=>Us [.str t.name,I,T,.int .i64 t.kind,A] T t.threads.length (od (t.threads.take j)) j) (λj=>(∀l∈t.threads.take j,l.length<=10)/\od (t.threads.take j)<=10*j) t.threads.length ⟨by simp,by simp[od]⟩ ?_;intro j hj hp;unfold IM
 generalize hs:od (t.threads.take j)=s at hp;obtain⟨R9,hp2⟩:=hp;by_cases bd:j<t.threads.length
 ·have aQ:(j:Int)<t.threads.length:=by omega
  obtain⟨R8,d,rest,qq,WR,WS,hd⟩:=zQ.at j bd;have zz:=hd.len;have hw:=c8 (i:=j) (by omega);unfold Us;refine J λK hK=>?_;simp only[go_sem,aQ];apply hK;refine aa λK2 fx=>?_;refine aN ?_;apply au;apply fx;refine aa λK2 fx=>?_;apply aA;refine J λK hK=>?_;simp only[go_sem,qq,aQ,acX,acW,Nat.mul_one,WS,WR];apply hK;refine aa λK3 Gs=>?_;refine J λK hK=>?_;simp only[go_sem,zz];apply hK;by_cases h10:10<t.threads[j].length
  ·have WU:(10:Int)<t.threads[j].length:=by omega
   refine aN ?_ (by simp[ev,ah,WU]);refine J λK hK=>?_;simp only[go_sem];apply hK;apply ak;simp only[go_sem];refine aD _ rfl rfl ⟨?_,rfl⟩;have:t.threads.any (λl=>decide (10<l.length))=true:=List.any_eq_true.2 ⟨_,adt bd,by simpa using h10⟩;simp[ah,rD,this]
  ·have WU:¬(10:Int)<t.threads[j].length:=by omega
   have WV:od (t.threads.take (j+1))=s+t.threads[j].length:=by
    have:=gG (λs (x:List Ins)=>s+x.length) 0 t.threads j bd;unfold od at hs⊢;rw[this,hs]
   have TB:ac9.wrap ((s:Int)+t.threads[j].length)=((s+t.threads[j].length:Nat):Int):=by rw[wrap_i64 (by omega) (by omega)];omega
   refine aK ?_ (by simp[ev,ah,WU]);apply au;simp only[go_sem];apply Gs;refine af rfl ?_;simp only[go_sem,zz,TB];apply fx;refine af rfl ?_;simp only[go_sem,hw];refine⟨bd,⟨?_,by rw[WV];omega⟩,aH.cN [] ⟨by simp[Us,bm,ah,AV.aC,ag,qq,WV],by simp[Us,aL],rfl,rfl⟩⟩;intro l hl;rw[adG,ac6 bd,List.mem_append]at hl;rcases hl with hl|hl;·exact R9 l hl
   ·simp only[Option.toList_some,List.mem_singleton]at hl;subst hl;omega
 ·have aQ:¬(j:Int)<t.threads.length:=by omega
  have dh:j=t.threads.length:=by omega
  subst dh;rw[ac8 (acV _)]at hs R9;have ab2:t.threads.any (λl=>decide (10<l.length))=false:=by
   rw[List.any_eq_false];intro l hl;have:=R9 l hl;simp only[decide_eq_true_eq];omega
  unfold Us;refine J λK hK=>?_;simp only[go_sem,aQ];apply hK;refine aa λK2 fx=>?_;refine aK ?_;apply aZ;simp only[go_sem];refine a8 _ (J λK hK=>?_);simp only[go_sem];apply hK;by_cases a1:t.threads.length=0
  ·have ZZ:(t.threads.length:Int)=0:=by omega
   refine J λK hK=>?_;simp only[go_sem,Of,ZZ];apply hK;apply ak;simp only[go_sem];refine aD _ rfl rfl ⟨?_,rfl⟩;simp[ah,rD,a1]
  have ZZ:¬(t.threads.length:Int)=0:=by omega
  by_cases a2:4<t.threads.length
  ·have a2':(4:Int)<t.threads.length:=by omega
   refine J λK hK=>?_;simp only[go_sem,Of,ZZ,a2'];apply hK;apply ak;simp only[go_sem];refine aD _ rfl rfl ⟨?_,rfl⟩;simp[ah,rD,a2]
  have a2':¬(4:Int)<t.threads.length:=by omega
  by_cases a3:24<s
  ·have a3':(24:Int)<s:=by omega
   refine J λK hK=>?_;simp only[go_sem,Of,ZZ,a2',a3'];apply hK;apply ak;simp only[go_sem];refine aD _ rfl rfl ⟨?_,rfl⟩;simp[ah,rD,hs,a3]
  have a3':¬(24:Int)<s:=by omega
  refine J λK hK=>?_;simp only[go_sem,Of,ZZ,a2',a3'];refine aF (rf WT) rfl rfl ?_;have WW:∀l:List UInt8,ir (.d (aR l))=some l.length:=λl=>rfl;have kA:∀(dst:Option Nat) (r:List bA) (K:St->Prop) (t':Fr) (m:Mem) (n:Nat),cz aM r ⟨cK t' dst (.d (.bool (t.rows.any AL))),m,n⟩ K->oS aM 219 [.d A,.fn 239 []] dst r K t' m n:=
   λdst r K t m n h=>aF (IW rfl rfl hA AL λl _ d hd=>Hc hd) rfl rfl h
  by_cases a4:4<(df t).length
  ·have a4':(4:Int)<(df t).length:=by omega
   simp only[go_sem,WW,a4'];apply hK;apply ak;simp only[go_sem];refine aD _ rfl rfl ⟨?_,rfl⟩;simp[ah,rD,a4]
  have a4':¬(4:Int)<(df t).length:=by omega
  by_cases a5:8<t.rows.length
  ·have a5':(8:Int)<t.rows.length:=by omega
   simp only[go_sem,WW,a4',Yk,a5'];apply hK;apply ak;simp only[go_sem];refine aD _ rfl rfl ⟨?_,rfl⟩;simp[ah,rD,a5]
  have a5':¬(8:Int)<t.rows.length:=by omega
  simp only[go_sem,WW,a4',Yk,a5'];refine kA _ _ _ _ _ _ ?_;cases a6:t.rows.any AL
  ·simp only[go_sem];apply hK;apply ak;simp only[go_sem];refine aD _ rfl rfl ⟨?_,rfl⟩;have e:((20:Int)<(t.name.length:Int))=(20<t.name.length):=by apply propext;omega
   simp[ah,rD,ab2,a1,a2,hs,a3,a4,a5,a6,e]
  ·simp only[go_sem];apply hK;apply ak;simp only[go_sem];refine aD _ rfl rfl ⟨?_,rfl⟩;simp[ah,rD,a6]
def eS (x:Init):Nat:=(x.loc-97).toNat
def jz (l:List Init):Nat:=l.foldl (λs x=>n5 s (eS x)) 0
def uK (l:List Init):Bool:=!decide (l.map (·.loc)).Nodup
theorem zU (l:List Init) (i:Nat):(jz l).testBit i=l.any λx=>decide (eS x=i):=by
 have:∀(l:List Init) (s:Nat),(l.foldl (λs x=>n5 s (eS x)) s).testBit i=(s.testBit i||l.any λx=>decide (eS x=i)):=by
  intro l;induction l with
  |nil=>intro s;simp
  |cons a l ih=>intro s;rw[adB,ih,vO,List.any_cons,Bool.or_assoc]
 unfold jz;rw[this,Nat.zero_testBit,Bool.false_or]
theorem EE {l:List Init} (h:∀x∈l,97<=x.loc/\x.loc<=122):jz l<67108864:=by
 have:∀(l:List Init) (s:Nat),(∀x∈l,97<=x.loc/\x.loc<=122)->s<67108864->l.foldl (λs x=>n5 s (eS x)) s<67108864:=by
  intro l;induction l with
  |nil=>intro s _ hs;exact hs
  |cons a l ih=>
   intro s hl hs;rw[adB];have:=hl a adw;exact ih _ (λx hx=>hl x (adx _ hx)) (AH hs (by unfold eS;omega))
 exact this l 0 h (by omega)
theorem Hd {l:List Init} (h:∀x∈l,97<=x.loc/\x.loc<=122) {i:Nat} (bd:i<l.length):
 (jz (l.take i)).testBit (eS l[i])=true↔∃x∈l.take i,x.loc=l[i].loc:=by
 rw[zU,List.any_eq_true];constructor
 ·rintro⟨x,hx,he⟩;have h1:=h x (List.mem_of_mem_take hx);have h2:=h l[i] (adt bd);refine⟨x,hx,?_⟩;have Md:eS x=eS l[i]:=by simpa using he
  unfold eS at Md;omega
 ·rintro⟨x,hx,he⟩;exact⟨x,hx,by simp[eS,he]⟩
theorem KZ (l:List Init) (i:Nat) (bd:i<l.length):(l.take (i+1)).map (·.loc)=(l.take i).map (·.loc)++[l[i].loc]:=by
 rw[adG,ac6 bd,adC];rfl
def EF (X:DV) (n s i:Nat):St:=⟨[(8,aq i),(6,.d X),(7,aq n),(3,cX s),(2,.d (.bool false))],[],0⟩
theorem He {l:List Init} {X:DV} (hX:dM Init.cells l X) (hl:∀x∈l,97<=x.loc/\x.loc<=122):Pure aM 179 [.d X] (.d (.bool (uK l))):=by
 have hlen:=hX.len;have fw:=hX.1;refine ay func179 NR ntmps179 results179 rfl ?_;unfold T9;refine J λK hK=>?_;simp only[go_sem];refine hK _ (J λK hK=>?_);simp only[go_sem];apply hK;refine aa λK1 a8=>?_;refine aa λK2 fx=>?_;refine af rfl ?_;simp only[go_sem,hlen];apply fx;apply aA;refine ax (S':=EF X l.length 0 0) (aH.cN [] ⟨by simp[bm,ah,AV.aC,aj,ag,EF],by simp[aL,aI,ai,an,aj,AV.aC,ag,ae,-acU,EF],rfl,rfl⟩) ?_;refine jW (λi=>EF X l.length (jz (l.take i)) i) (λi=>((l.take i).map (·.loc)).Nodup) l.length (by simp) ?_;intro i hi hp
 have iZ:jz (l.take i)<67108864:=EE λx hx=>hl x (List.mem_of_mem_take hx);unfold IP;by_cases bd:i<l.length
 ·have aQ:(i:Int)<l.length:=by omega
  obtain⟨R8,rest,qq,bU,b9⟩:=hX.at yb (by omega) i bd;have Z1:=Hd hl bd;have b0:jz (l.take (i+1))=jz (l.take i)|||2^eS l[i]:=gG (λs (x:Init)=>n5 s (eS x)) 0 l i bd;have htn:=KZ l i bd;have hr:=hl l[i] (adt bd);have hex:∀x∈l.take i,x.loc=l[i].loc->¬(l.map (·.loc)).Nodup:=by
   intro x hx he ab3;have h1:((l.take (i+1)).map (·.loc)).Nodup:=ab3.sublist ((List.take_sublist _ _).map _);rw[htn,List.nodup_append]at h1;exact h1.2.2 x.loc (List.mem_map.2 ⟨x,hx,rfl⟩) l[i].loc (by simp) he
  have hw:=c8 (i:=i) (by omega);generalize TI:jz (l.take i)=s at*;have Sa:eS l[i]<26:=by unfold eS;omega
  have hwk:ac9.wrap (l[i].loc-97)=((eS l[i]:Nat):Int):=by
   rw[wrap_i64 (by omega) (by omega)];unfold eS;omega
  have Dx:∀(n:Nat),(2<=(n+1+1))=True:=λn=>by simp
  generalize hxe:l[i]=x at*;generalize hke:eS x=k at*;have G9:k<=64:=by omega
  have KM:¬((k:Nat):Int)<0:=by omega
  have hdv:s/2^k<18446744073709551616:=Nat.lt_of_le_of_lt (Nat.div_le_self _ _) (by omega);have yf:adA.bits=64:=rfl;have Mg:(2:Nat)^k<18446744073709551616:=by
   have:(2:Nat)^k<2^26:=Nat.pow_lt_pow_right (by omega) Sa;omega
  have Gp:adA.wrap (1*2^k)=((2^k:Nat):Int):=by
   have e:(1*2^k:Int)=((2^k:Nat):Int):=by simp
   rw[e,wrap_u64 (acX _) (by have:=Int.ofNat_lt.2 Mg;exact this)]
  have Yj:=BW (a:=s) (b:=2^k) (by omega) Mg;have RE:=Ei s k;unfold EF;refine J λK hK=>?_;simp only[go_sem,aQ];apply hK;refine aa λK2 fx=>?_;refine aN ?_;apply au;apply fx;refine aa λK2 fx=>?_;apply aA;refine J λK hK=>?_;simp only[go_sem,qq,aQ,acX,acW,b9,bU,Init.cells,Dx];apply hK;refine aa λK3 Gs=>?_;refine J λK hK=>?_;simp only[go_sem,hwk,KM,acW,yf,G9,fdiv_pow,Eh _ hdv];apply hK;generalize s/2^k%2=q at RE;by_cases hb:s.testBit k=true
  ·refine aN ?_ (by simp[ev,ah,RE.2 hb]);obtain⟨y,hy,hye⟩:=Z1.1 hb;refine J λK hK=>?_;simp only[go_sem];apply hK;apply ak;simp only[go_sem];refine aD _ rfl rfl ⟨?_,rfl⟩;have:¬(l.map (·.loc)).Nodup:=hex y hy hye;simp[ah,uK,this]
  ·have fu:¬((q:Nat):Int)=1:=λh=>hb (RE.1 h);refine aK ?_ (by simp[ev,ah,fu]);apply au;simp only[go_sem];apply Gs;refine af rfl ?_;simp only[go_sem,hwk,KM,acW,yf,G9,Gp,Yj];apply fx;refine af rfl ?_;simp only[go_sem,hw];refine⟨bd,?_,aH.cN [] ⟨by simp[EF,bm,ah,AV.aC,ag,qq,b0],by simp[EF,aL],rfl,rfl⟩⟩;rw[htn,List.nodup_append];refine⟨hp,by simp,λa ha b sa=>?_⟩;simp only[List.mem_singleton]at sa;subst sa;obtain⟨y,hy,rfl⟩:=List.mem_map.1 ha;intro he;exact hb (Z1.2 ⟨y,hy,he⟩)
 ·have aQ:¬(i:Int)<l.length:=by omega
  have dh:i=l.length:=by omega
  subst dh;rw[ac8 (acV _)]at hp;unfold EF;refine J λK hK=>?_;simp only[go_sem,aQ];apply hK;refine aa λK2 fx=>?_;refine aK ?_;apply aZ;simp only[go_sem];refine a8 _ (J λK hK=>?_);simp only[go_sem];apply hK;apply ak;simp only[go_sem];refine aD _ rfl rfl ⟨?_,rfl⟩;simp[ah,uK,hp]
def hJ (l:List Ins) (i:Nat):Bool:=match l[i]?with
 |some x=>decide (x.kind=6)&&(decide (x.n<1)||decide ((l.length:Int)-i-1<x.n))
 |none=>false
def jA (l:List Ins):Bool:=!(ac7 l.length).any (hJ l)
def Ut (X:DV) (n i:Nat):St:=⟨[(7,aq i),(5,.d X),(6,aq n),(0,.d X),(2,.d (.bool false))],[],0⟩
theorem yh {l:List Ins} {X:DV} (hX:dM Ins.cells l X):Pure aM 181 [.d X] (.d (.bool (jA l))):=by
 have hlen:=hX.len;have fw:=hX.1;refine ay func181 NT ntmps181 results181 rfl ?_;unfold Ub;refine J λK hK=>?_;simp only[go_sem];apply hK;refine aa λK1 a8=>?_;refine aa λK2 fx=>?_;refine af rfl ?_;simp only[go_sem,hlen];apply fx;apply aA;refine ax (S':=Ut X l.length 0) (aH.cN [] ⟨by simp[bm,ah,AV.aC,aj,ag,Ut],by simp[aL,aI,ai,an,aj,AV.aC,ag,ae,-acU,Ut],rfl,rfl⟩) ?_;refine jW (λi=>Ut X l.length i) (λi=>∀j,j<i->hJ l j=false) l.length (λj h=>by omega) ?_;intro i hi hp;unfold IQ;by_cases bd:i<l.length
 ·have aQ:(i:Int)<l.length:=by omega
  obtain⟨R8,rest,qq,bU,b9⟩:=hX.at lg (by omega) i bd;have hw:=c8 (i:=i) (by omega);have q5:ac9.wrap ((l.length:Int)-i)=(l.length:Int)-i:=wrap_i64 (by omega) (by omega);have Dz:ac9.wrap ((l.length:Int)-i-1)=(l.length:Int)-i-1:=wrap_i64 (by omega) (by omega);have hl9:∀(n:Nat),(9<=(n+1+1+1+1+1+1+1+1+1))=True:=λn=>by simp
  have Sb:hJ l i=(decide (l[i].kind=6)&&(decide (l[i].n<1)||decide ((l.length:Int)-i-1<l[i].n))):=by
   unfold hJ;rw[ac6 bd]
  generalize l[i]=x at Sb bU;unfold Ut;refine J λK hK=>?_;simp only[go_sem,aQ];apply hK;refine aa λK2 fx=>?_;refine aN ?_;apply au;apply fx;refine aa λK2 fx=>?_;apply aA;refine J λK hK=>?_;simp only[go_sem,qq,aQ,acX,acW,b9,bU,Ins.cells,hl9];apply hK;have bad:∀(t:Fr) (m:Mem) (n:Nat) (R:St->Prop),ah t 29=.d (.bool true)->hJ l i=true->fN aM (aw []) 31 (.cond (.t 29) (.seq (.region false [⟨(some 2),.mv (.c (.d (.bool false))),none⟩] []) .ret) .skip) ⟨t,m,n⟩ (Exit.gC 1 (Exit.iy K2 (Exit.iy R (Exit.gC 0 (Exit.iy K1 (mZ aM #[.tmp 2] (aw []) λr m'=>r=.d (.bool (jA l))/\m'=[])))))):=by
   intro t m n R h29 hb;refine aN ?_ (by simp[ev,ah,h29]);refine aa λK hK=>af (by simp[aw]) ?_;simp only[go_sem];apply hK;apply ak;simp only[go_sem];refine aD _ rfl rfl ⟨?_,rfl⟩;have:(ac7 l.length).any (hJ l)=true:=List.any_eq_true.2 ⟨i,List.mem_range.2 bd,hb⟩;simp[ah,jA,this]
  have yc:∀(t:Fr) (m:Mem) (n:Nat) (Q':Exit->St->Prop),ah t 29=.d (.bool false)->ah t 7=aq i->ah t 5=.d X->ah t 6=aq l.length->ah t 0=.d X->ah t 2=.d (.bool false)->hJ l i=false->
   (∀S,K2 S->Q' .normal S)->fN aM (aw []) 31 (.cond (.t 29) (.seq (.region false [⟨(some 2),.mv (.c (.d (.bool false))),none⟩] []) .ret) .skip) ⟨t,m,n⟩ Q':=by
   intro t m n Q' h29 h7 h5 h6 h0 h2 hb hQ';refine aK ?_ (by simp[ev,ah,h29]);apply au;refine hQ' _ ?_;apply fx;refine af (by simp[aw]) ?_;simp only[go_sem,h7,hw];refine⟨bd,λj hj=>?_,aH.cN [] ⟨by simp[Ut,bm,ah,AV.aC,ag,h5,h6,h0,h2],by simp[Ut,aL],rfl,rfl⟩⟩;by_cases sc:j=i;·subst sc;exact hb
   ·exact hp j (by omega)
  by_cases g1:x.kind=6
  ·by_cases g2:x.n<1
   ·refine J λK hK=>?_;simp only[go_sem,g1,g2];apply hK;exact bad _ _ _ _ rfl (by rw[Sb];simp[g1,g2])
   ·by_cases g3:(l.length:Int)-i-1<x.n
    ·refine J λK hK=>?_;simp only[go_sem,g1,g2,hlen,q5,Dz,g3];apply hK;exact bad _ _ _ _ rfl (by rw[Sb];simp[g1,g3])
    ·refine J λK hK=>?_;simp only[go_sem,g1,g2,hlen,q5,Dz,g3];apply hK;exact yc _ _ _ _ rfl rfl (by simp[ah,qq]) rfl (by simp[ah,qq]) rfl (by rw[Sb];simp[g2,g3]) (λS h=>h)
  ·refine J λK hK=>?_;simp only[go_sem,g1];apply hK;exact yc _ _ _ _ rfl rfl (by simp[ah,qq]) rfl (by simp[ah,qq]) rfl (by rw[Sb];simp[g1]) (λS h=>h)
 ·have aQ:¬(i:Int)<l.length:=by omega
  unfold Ut;refine J λK hK=>?_;simp only[go_sem,aQ];apply hK;refine aa λK2 fx=>?_;refine aK ?_;apply aZ;simp only[go_sem];refine a8 _ (J λK hK=>?_);simp only[go_sem];apply hK;apply ak;simp only[go_sem];refine aD _ rfl rfl ⟨?_,rfl⟩;have:(ac7 l.length).any (hJ l)=false:=by
   rw[List.any_eq_false];intro j hj;rw[hp j (by have:=List.mem_range.1 hj;omega)];decide
  simp[ah,jA,this]
def ac4:aG:=kS [bw 4 fA] (kS [cq 12 7 [],ar 11 12,iN 13 11 0,iN 14 11 1,ar 5 13,ar 6 14] (kS [ar 15 0,ca .and 16 15 255,ar 17 5,gz 18 17,ey .rem 19 16 18,ar 20 1,ca .and 21 20 255,ca .rem 22 21 3,ca .add 23 22 1,ar 0 19,ar 1 23] (kS [ar 25 5,ar 26 0,jy 27 1 25 26,bQ 28 27,cq 29 8 [.t 28],ar 24 29,iN 30 24 0,iN 31 24 1,oM 7 (.alloc [zS,zN,zN,zI,zN]),cM 5 7 30,ar 8 31] (.seq (kS [ar 32 8,oM 33 (jj 32),ar 34 33,dI 35 (oT 5 7) 34,dI 36 (.bW 9 [.t 35]) 34,dI 37 (jb .neq 36 0) 34,jX 38 34 37] (kC 38 (kS [bw 4 fA] .ret))) (.seq (kS [bg 39 7 2,bQ 40 39,gz 41 40,ca .neq 42 41 2] (kC 42 (kS [bg 43 7 2,bQ 44 43,gz 45 44,ca .geq 46 45 1,ar 47 46,db 48 (.bW 12 []) 47,iA 49 47 48,ar 4 49] .ret))) (kS [cL 51 5 7,cq 52 10 [.t 51],ar 53 1,cq 54 16 [.t 52,.t 53,kI 2000000],ar 50 54,iN 55 50 0,iN 56 50 1,ar 9 55,ar 10 56] (.seq (kS [ar 57 6,ar 58 0,jy 59 1 57 58,bQ 60 59,ar 61 1,ca .sub 62 61 1,oM 63 (.idxs (.t 60) (.t 62)),oM 64 (.bin .eql (.t 63) (.c (.d (.int .u8 49))))] (kC 64 (kS [ar 65 9,ca .eql 66 65 2,ar 67 66,jI 68 10 67,db 69 (nj 68) 67,db 70 (jb .gtr 69 0) 67,iA 71 67 70,ar 72 71,db 73 (.bW 12 []) 72,iA 74 72 73,ar 4 74] .ret))) (kS [ar 75 9,ca .neq 76 75 0,ar 77 76,jI 78 1 77,db 79 (jb .neq 78 1) 77,jI 80 79 77,l9 81 9 80,dI 82 (jb .eql 81 1) 80,db 83 (Nz 80 82) 77,iA 84 77 83,ar 85 84,db 86 (.bW 12 []) 85,iA 87 85 86,ar 4 87] .ret))))))))
theorem WX:di f4=some ac4:=by kernel_rfl
def Z2:aG:=kS [oM 3 (cw 0),bw 6 (kI 0),bw 7 (.c zN)] (kD [cL 8 3 3,ar 9 1,cL 10 3 3,ar 11 1,ar 12 2,cq 13 39 [.t 10,.t 11,.t 12],ar 14 2,cq 15 38 [.t 8,.t 9,.t 13,.t 14],iN 16 15 0,iN 17 15 1,ar 6 16,ar 7 17] [0,0,0,0,0,28,0,99,128,128,1023,2047] .ret)
theorem Sc:di f16=some Z2:=by kernel_rfl
def Hf:aG:=kS [ey .lss 36 35 34] (.seq (kE 36) (.seq (.block 1 (kS [jy 37 20 33 35,cL 38 20 37,oM 14 (.alloc [zI,zI,zI,zI,zI,zI,zI,zI,zI,zI,zI,zI,zI,zI,zI,zI,zI,zI,zI,zI]),cM 20 14 38] (.region true [ar 39 12,cL 40 20 14,oM 41 (.iW (.XO [0,0,0,0,0,0,0,0,0,0,0,0,0,0,0,0,0,0,0,0] zI false) [.t 39,.t 40]),ca .add 42 41 1,oM 43 (.iW (.Mu [0,0,0,0,0,0,0,0,0,0,0,0,0,0,0,0,0,0,0,0] zI) [.t 39,.t 40]),iN 44 43 1,⟨none,.iW .Mv [.t 39,.t 44,.t 42],none⟩] [0,0,3,4,3,16,63]))) (kR [ca .add 45 35 1,ar 35 45])))
def Hg:aG:=kS [ey .lss 50 49 48] (.seq (.cond (.t 50) .skip (.exit 2)) (.seq (.block 3 (kS [jy 51 1 47 49,bQ 52 51,ar 16 52] (kS [cL 54 3 4,ar 55 1,ar 56 16,cq 57 77 [.t 54,.t 55,.t 56],ar 53 57,iN 58 53 0,iN 59 53 1,oM 17 (.alloc [zI,zI,zI,zI,zI,zI,zI,zI,zI,zI,zI,zI,zI,zI,zI,zI,zI,zI,zI,zI]),cM 20 17 58,ar 18 59] (kS [ar 60 18,ar 61 60,jI 62 12 61,db 63 (oT 20 17) 61,db 64 (.iW (.XO [0,0,0,0,0,0,0,0,0,0,0,0,0,0,0,0,0,0,0,0] zI false) [.t 62,.t 63]) 61,db 65 (jb .eql 64 0) 61,iA 66 61 65] (kC 66 (kS [ar 67 16,oM 68 (.app 1 8 3 (.c zN) (.t 67)),bw 8 (kI 2),ar 9 68] .ret)))))) (kR [ca .add 69 49 1,ar 49 69])))
def Sd:aG:=kS [oM 4 (cw 0),oM 6 (cw 2),bw 8 (kI 0),bw 9 (.c zN)] (kS [cL 20 3 4,ar 21 3,cq 22 76 [.t 20,kI 1,.t 21],ar 19 22,iN 23 19 0,iN 24 19 1,ar 10 23,ar 11 24] (.seq (kS [bg 25 6 3,bQ 26 25,oM 27 (jj 26),ar 28 27,l9 29 11 28,dI 30 (jj 29) 28,jX 31 28 30] (kC 31 (kS [bw 8 (kI 0),bw 9 (.c zN)] .ret))) (kS [oM 32 (.iW .Iu []),ar 12 32] (.seq (kS [ar 33 10,gz 34 33,bw 35 (kI 0)] (mF Hf)) (.seq (kS [bg 46 6 0,bQ 47 46,gz 48 47,bw 49 (kI 0)] (.block 2 (.loop Hg))) (kS [bw 8 (kI 1),bw 9 (.c zN)] .ret))))))
theorem Ca:di f38=some Sd:=by kernel_rfl
def Z3:aG:=kS [oM 3 (cw 0),oM 6 (.alloc [zN,zI,zI,zB])] (kS [cL 11 3 3,ar 12 1,cq 13 78 [.t 11,.t 12],ar 10 13,iN 14 10 0,iN 15 10 1,ar 7 14,ar 8 15] (.seq (kS [ar 16 8,ca .neq 17 16 0] (kC 17 (kS [oM 18 (.build [zN,zI,zI,zB] []),cM 4 6 18] .ret))) (kS [ar 19 1,ar 20 2,oM 21 (.uv (.t 20) (kI 0)),oM 22 (.uu (.t 21) (kI 2000000)),oM 23 (.build [zI,zI,zN,zN,zN,zI,zI,zB] [(0,1,.t 19),(1,1,.t 22)]),oM 24 (cw 23),ar 9 24] (.seq (kS [ar 25 9,ar 26 7,cq 27 79 [.t 25,.t 26],oM 28 (jj 27)] (kC 28 (kS [oM 29 (.build [zN,zI,zI,zB] []),cM 4 6 29] .ret))) (kS [ar 30 9,fP 31 30,bg 32 31 4,bg 33 32 3,⟨none,.store 1 (.t 33) sd,none⟩] (kS [ar 34 9,fP 35 34,bg 36 35 4,cL 37 4 36,cM 4 6 37] .ret))))))
theorem Se:di f39=some Z3:=by kernel_rfl
def Hh:aG:=kS [ey .lss 57 56 55] (.seq (.cond (.t 57) .skip (.exit 1)) (.seq (.block 2 (kS [jy 58 1 54 56,bQ 59 58,ar 15 59] (kS [cL 61 3 7,ar 62 1,ar 63 15,cq 64 77 [.t 61,.t 62,.t 63],ar 60 64,iN 65 60 0,iN 66 60 1,oM 16 (.alloc [zI,zI,zI,zI,zI,zI,zI,zI,zI,zI,zI,zI,zI,zI,zI,zI,zI,zI,zI,zI]),cM 20 16 65,ar 17 66] (kR [ar 67 13,cL 68 20 16,oM 69 (.dp 20 1 [zI,zI,zI,zI,zI,zI,zI,zI,zI,zI,zI,zI,zI,zI,zI,zI,zI,zI,zI,zI] [(0,20,.t 68)]),oM 70 (.app 20 160 102 (.t 67) (.t 69)),ar 13 70])))) (kR [ca .add 71 56 1,ar 56 71])))
def Sg:aG:=kS [oM 3 (cw 0),oM 6 (.alloc [zI,zI,zB,zN,zN,zN,zN,zI,zI,zN,zI,zI])] (kS [cL 19 5 3,cq 20 98 [.t 19],ar 18 20,iN 21 18 0,iN 22 18 1,oM 7 (.alloc [zN,zN,zN]),cM 3 7 21,ar 8 22] (.seq (.block 0 (kS [ar 24 8,ca .neq 25 24 0,ar 23 25] (.cond (.t 23) (kS [ar 26 8,cq 27 49 [.t 26,kI 0],cM 12 6 27] .ret) (kS [ar 29 1,ca .lss 30 29 1,ar 31 30,l9 32 1 31,dI 33 (jb .gtr 32 3) 31,jX 34 31 33,ar 28 34] (kC 28 (kS [cq 35 49 [kI 1,kI 0],cM 12 6 35] .ret)))))) (kS [cL 36 3 7,oM 37 (.build [zI,zI,zB,zN,zN,zN,zN,zI,zI,zN,zI,zI] [(3,3,.t 36)]),oM 9 (.alloc [zI,zI,zB,zN,zN,zN,zN,zI,zI,zN,zI,zI]),cM 12 9 37] (kS [cL 38 3 7,ar 39 1,ar 40 2,cq 41 39 [.t 38,.t 39,.t 40],oM 10 (.alloc [zN,zI,zI,zB]),cM 4 10 41] (kS [cL 43 3 7,ar 44 1,cL 45 4 10,ar 46 2,cq 47 38 [.t 43,.t 44,.t 45,.t 46],ar 42 47,iN 48 42 0,iN 49 42 1,ar 11 48,ar 12 49] (.seq (kS [ar 50 11,ca .eql 51 50 0] (kC 51 (kS [cL 52 12 9,cM 12 6 52] .ret))) (kS [bw 13 (.c zN)] (.seq (kS [bg 53 10 0,bQ 54 53,gz 55 54,bw 56 (kI 0)] (.block 1 (.loop Hh))) (kS [ar 72 13,cq 73 99 [.t 72],bg 74 9 2,⟨none,.store 1 (.t 74) sd,none⟩,bg 75 9 6,cM 1 75 73] (kS [cL 76 3 7,bg 77 3 3,cL 78 2 77,bg 79 9 6,bQ 80 79,cq 81 100 [.t 76,.t 78,.t 80],bg 82 9 7,cM 1 82 81] (kS [ar 83 11,ar 84 12,bg 85 9 8,cM 1 85 83,bg 86 9 9,cM 1 86 84] (kD [bg 87 10 0,bQ 88 87,gz 89 88,bg 90 10 1,bQ 91 90,bg 92 9 10,cM 1 92 89,bg 93 9 11,cM 1 93 91] [0,1,2,0,8,7,39,127,255] (kS [cL 94 12 9,cM 12 6 94] .ret)))))))))))))
theorem Cb:di f43=some Sg:=by kernel_rfl
def Hi:aG:=kS [ey .lss 25 24 23] (.seq (kE 25) (.seq (.block 1 (kS [jy 26 1 22 24,bQ 27 26,ar 11 27] (kS [cL 29 3 3,ar 30 1,ar 31 11,cq 32 77 [.t 29,.t 30,.t 31],ar 28 32,iN 33 28 0,iN 34 28 1,oM 12 (.alloc [zI,zI,zI,zI,zI,zI,zI,zI,zI,zI,zI,zI,zI,zI,zI,zI,zI,zI,zI,zI]),cM 20 12 33,ar 13 34] (kR [ar 35 9,cL 36 20 12,oM 37 (.dp 20 1 [zI,zI,zI,zI,zI,zI,zI,zI,zI,zI,zI,zI,zI,zI,zI,zI,zI,zI,zI,zI] [(0,20,.t 36)]),oM 38 (.app 20 160 102 (.t 35) (.t 37)),ar 9 38])))) (kR [ca .add 39 24 1,ar 24 39])))
def Z4:aG:=kS [oM 3 (cw 0),bw 6 (.c zN),bw 7 fA] (kS [cL 14 3 3,ar 15 1,ar 16 2,cq 17 39 [.t 14,.t 15,.t 16],oM 8 (.alloc [zN,zI,zI,zB]),cM 4 8 17] (.seq (kS [bg 18 8 3,bQ 19 18,oM 20 (jj 19)] (kC 20 (kS [bw 6 (.c zN),bw 7 fA] .ret))) (kS [bw 9 (.c zN)] (.seq (kS [bg 21 8 0,bQ 22 21,gz 23 22,bw 24 (kI 0)] (mF Hi)) (kS [ar 40 9,cq 41 99 [.t 40],ar 6 41,bw 7 sd] .ret)))))
theorem Si:di f76=some Z4:=by kernel_rfl
def Z5:aG:=kS [oM 3 (cw 0),oM 6 (.alloc [zI,zI,zI,zI,zI,zI,zI,zI,zI,zI,zI,zI,zI,zI,zI,zI,zI,zI,zI,zI]),bw 7 fA] (kS [cL 11 3 3,ar 12 1,ar 13 2,cq 14 119 [.t 11,.t 12,.t 13],ar 10 14,iN 15 10 0,iN 16 10 1,ar 8 15,ar 9 16] (.seq (kS [ar 17 8,oM 18 (.Mw false (.t 17) (.c (.d .lA))),ar 19 18,l9 20 9 19,l9 21 2 19,dI 22 (nj 21) 19,dI 23 (uI .lss 20 22) 19,jX 24 19 23,ar 25 24,l9 26 8 25,dI 27 (.bW 120 [.t 26]) 25,dI 28 (jj 27) 25,jX 29 25 28] (kC 29 (kS [oM 30 (.build [zI,zI,zI,zI,zI,zI,zI,zI,zI,zI,zI,zI,zI,zI,zI,zI,zI,zI,zI,zI] []),cM 20 6 30,bw 7 fA] .ret))) (kS [ar 31 8,cq 32 121 [.t 31],cM 20 6 32,bw 7 sd] .ret)))
theorem Sj:di f77=some Z5:=by kernel_rfl
def Oh:aG:=kS [ca .lss 25 24 4] (.seq (kE 25) (.seq (.block 1 (kS [ar 26 24,ar 7 26] (kD [ar 27 6,ar 28 7,ar 29 6,fP 30 29,bg 31 30 0,cL 32 3 31,ar 33 7,cq 34 124 [.t 32,.t 33],fP 35 27,bg 36 35 4,oM 37 (.bS 5 (some 4) (.t 36) (.t 28)),cM 5 37 34] [0,0,0,4,8,16,0,96,1,256,767,1279] (kD [ar 38 6,ar 39 7,ar 40 1,cq 41 125 [.t 40],fP 42 38,bg 43 42 32,oM 44 (.bS 74 (some 4) (.t 43) (.t 39)),cM 74 44 41] [0,0,0,4,1,16,47,79] (kR [ar 45 6,ar 46 7,fP 47 45,bg 48 47 28,oM 49 (.bS 1 (some 4) (.t 48) (.t 46)),⟨none,.store 1 (.t 49) (kI (-1)),none⟩]))))) (kR [ca .add 50 24 1,ar 24 50])))
def Z6:aG:=kS [oM 2 (cw 0),bw 4 (.c (.d .lA)),bw 5 (kI 0)] (.seq (kS [ar 8 1,ca .lss 9 8 1,ar 10 9,l9 11 1 10,dI 12 (jb .gtr 11 3) 10,jX 13 10 12,ar 14 13,dI 15 (oT 3 2) 14,dI 16 (.bW 122 [.t 15]) 14,dI 17 (jj 16) 14,jX 18 14 17] (kC 18 (kS [bw 4 (.c (.d .lA)),bw 5 (kI 1)] .ret))) (kS [cL 19 3 2,cq 20 123 [.t 19],ar 21 1,oM 22 (.build [zN,zN,zN,zI,zI,zI,zI,zI,zI,zI,zI,zI,zI,zI,zI,zI,zI,zI,zI,zI,zI,zI,zI,zI,zI,zI,zI,zI,zI,zI,zI,zI,zI,zI,zI,zI,zI,zI,zI,zI,zI,zI,zI,zI,zI,zI,zI,zI,zI,zI,zI,zI,zI,zI,zI,zI,zI,zI,zI,zI,zI,zI,zI,zI,zI,zI,zI,zI,zI,zI,zI,zI,zI,zI,zI,zI,zI,zI,zI,zI,zI,zI,zI,zI,zI,zI,zI,zI,zI,zI,zI,zI,zI,zI,zI,zI,zI,zI,zI,zI,zI,zI,zI,zI,zI,zI,zI,zI,zI,zI,zI,zI,zI,zI,zI,zI,zI,zI,zI,zI,zI,zI,zI,zI,zI,zI,zI,zI,zI,zI,zI,zI,zI,zI,zI,zI,zI,zI,zI,zI,zI,zI,zI,zI,zI,zI,zI,zI,zI,zI,zI,zI,zI,zI,zI,zI,zI,zI,zI,zI,zI,zI,zI,zI,zI,zI,zI,zI,zI,zI,zI,zI,zI,zI,zI,zI,zI,zI,zI,zI,zI,zI,zI,zI,zI,zI,zI,zI,zI,zI,zI,zI,zI,zI,zI,zI,zI,zI,zI,zI,zI,zI,zI,zI,zI,zI,zI,zI,zI,zI,zI,zI,zI,zI,zI,zI,zI,zI,zI,zI,zI,zI,zI,zI,zI,zI,zI,zI,zI,zI,zI,zI,zI,zI,zI,zI,zI,zI,zI,zI,zI,zI,zI,zI,zI,zI,zI,zI,zI,zI,zI,zI,zI,zI,zI,zI,zI,zI,zI,zI,zI,zI,zI,zI,zI,zI,zI,zI,zI,zI,zI,zI,zI,zI,zI,zI,zI,zI,zI,zI,zI,zI,zI,zI,zI,zI,zI,zI,zI,zI,zI,zI,zI,zI,zI,zI,zI,zI,zI,zI,zI,zI,zI,zI,zI,zI,zI,zI,zI,zI,zI,zI,zI,zI,zI,zI,zI,zI,zI,zI,zI,zI,zI,zI,zI,zI,zI,zI,zN] [(0,3,.t 20),(3,1,.t 21)]),oM 23 (cw 22),ar 6 23] (.seq (kS [bw 24 (kI 0)] (mF Oh)) (kD [ar 51 6,fP 52 51,bg 53 52 24,oM 54 (.iW (.xw 4 1) [.t 53,kI 0,kI 4]),bg 55 2 1,bQ 56 55,oM 57 (.iW (.An 1) [.t 54,.t 56])] [0,1,2,4,0,16,40] (kS [ar 58 6,ar 4 58,bw 5 (kI 0)] .ret)))))
theorem Sk:di f78=some Z6:=by kernel_rfl
def Oi:aG:=.seq (kS [ar 14 0,fP 15 14,bg 16 15 2,bQ 17 16,gz 18 17,ca .gtr 19 18 0] (kE 19)) (.block 1 (kD [ar 20 0,fP 21 20,bg 22 21 2,bQ 23 22,ar 24 0,fP 25 24,bg 26 25 2,bQ 27 26,gz 28 27,ca .sub 29 28 1,jy 30 3 23 29,ar 5 30] [0,1,2,4,0,16,32,64,128,256,520,2047] (kD [ar 31 5,fP 32 31,bg 33 32 2,bQ 34 33,ar 35 5,fP 36 35,bg 37 36 1,bQ 38 37,ey .andNot 39 34 38,cq 40 127 [.t 39],ar 6 40] [0,1,2,4,0,16,32,64,136,256,1023] (.seq (kS [ar 41 6,ca .lss 42 41 0] (kC 42 (kS [ar 43 0,cq 44 128 [.t 43]] (.exit 1)))) (kS [ar 45 5,fP 46 45,bg 47 46 0,bQ 48 47,cq 49 129 [.t 48],ar 7 49] (kS [ar 51 7,ar 52 6,cq 53 130 [.t 51,.t 52],ar 50 53,iN 54 50 0,iN 55 50 1,oM 8 (.alloc [zI,zI,zI,zI,zI,zI,zI]),cM 7 8 54,ar 9 55] (kS [ar 56 0,fP 57 56,bg 58 57 4,bg 59 58 2,bQ 60 59,ca .add 61 60 1,fP 62 56,bg 63 62 4,bg 64 63 2,cM 1 64 61] (kD [ar 65 0,ar 66 5,fP 67 66,cL 68 3 67,cL 69 7 8,cq 70 131 [.t 65,.t 68,.t 69],ar 10 70] [0,0,2,4,0,25,63] (.seq (kD [ar 71 0,fP 72 71,bg 73 72 4,bg 74 73 2,bQ 75 74,ar 76 0,fP 77 76,bg 78 77 1,bQ 79 78,ey .gtr 80 75 79] [0,1,2,4,8,0,32,64,128,272] (kC 80 (kS [bw 4 fA] .ret))) (kS [ar 81 5,ar 82 5,fP 83 82,bg 84 83 1,bQ 85 84,ar 86 6,cq 87 132 [.t 85,.t 86],fP 88 81,bg 89 88 1,cM 1 89 87] (kD [ar 90 0,ar 91 0,fP 92 91,bg 93 92 3,bQ 94 93,cL 95 7 8,oM 96 (.dp 7 1 [zI,zI,zI,zI,zI,zI,zI] [(0,7,.t 95)]),oM 97 (.app 7 56 225 (.t 94) (.t 96)),fP 98 90,bg 99 98 3,cM 1 99 97] [0,0,2,4,8,0,32,80,255,511,767] (kS [ar 100 0,cq 101 133 [.t 100]] (kR [ar 102 0,ar 103 7,ar 104 10,cq 105 126 [.t 102,.t 103,.t 104]])))))))))))))
def Z7:aG:=kS [bw 4 fA] (kS [ar 11 0,ar 12 1,cq 13 126 [.t 11,.t 12,.c (.d (.int .u64 0))]] (.seq (mF Oi) (kS [bw 4 sd] .ret)))
theorem Sl:di f79=some Z7:=by kernel_rfl
def Hj:aG:=kS [ey .lss 32 31 30] (.seq (kE 32) (.seq (.block 1 (kS [jy 33 2 29 31,cL 34 2 33,oM 8 (.alloc [zI,zI]),cM 2 8 34] (.region true [bg 35 5 1,bQ 36 35,ar 37 6,bg 38 8 0,bQ 39 38,oM 40 (.fb (.t 37) [.t 39]),bg 41 8 1,bQ 42 41,jy 43 1 36 40,cM 1 43 42] [0,1,0,0,8,20,0,64,255,511]))) (kR [ca .add 44 31 1,ar 31 44])))
def Hk:aG:=kS [ey .lss 57 56 55] (.seq (.cond (.t 57) .skip (.exit 4)) (.seq (.block 5 (kS [ar 58 56,jy 59 9 54 56,cL 60 9 59,oM 12 (.alloc [zI,zI,zI,zI,zI,zI,zI,zI,zI]),ar 11 58,cM 9 12 60] (kS [bg 61 12 0,bQ 62 61,ca .eql 63 62 1,ar 64 63,nI 65 12 0 64,pE 66 65 64,dI 67 (jb .eql 66 2) 64,jX 68 64 67,ar 69 68,nI 70 12 0 69,pE 71 70 69,dI 72 (jb .eql 71 4) 69,jX 73 69 72] (kC 73 (kR [ar 74 10,ar 75 11,ar 76 6,bg 77 12 2,bQ 78 77,oM 79 (.fb (.t 76) [.t 78]),jy 80 9 74 75,bg 81 80 2,cM 1 81 79]))))) (kR [ca .add 82 56 1,ar 56 82])))
def Hl:aG:=kS [ey .lss 49 48 47] (.seq (.cond (.t 49) .skip (.exit 2)) (.seq (.block 3 (kS [jy 50 1 46 48,bQ 51 50,ar 10 51] (kS [ar 52 10,cq 53 158 [.t 52],ar 10 53] (.seq (kS [ar 54 10,gz 55 54,bw 56 (kI 0)] (.block 4 (.loop Hk))) (kR [bg 83 5 2,bQ 84 83,ar 85 10,oM 86 (.dp 1 1 [zN] [(0,1,.t 85)]),oM 87 (.app 1 24 75 (.t 84) (.t 86)),bg 88 5 2,cM 1 88 87]))))) (kR [ca .add 89 48 1,ar 48 89])))
def Z8:aG:=kS [oM 1 (cw 0),oM 2 (.alloc [zN,zN,zN]),bw 3 (kI 0)] (.seq (kS [cL 13 5 1,cq 14 105 [.t 13],ar 4 14] (kS [ar 15 4,ca .neq 16 15 0] (kC 16 (kS [oM 17 (.build [zN,zN,zN] []),ar 18 4,cM 3 2 17,ar 3 18] .ret)))) (kS [cL 19 5 1,cq 20 155 [.t 19],oM 21 (.build [zN,zN,zN] [(0,1,.t 20)]),oM 5 (.alloc [zN,zN,zN]),cM 3 5 21] (kS [bg 22 5 0,bQ 23 22,gz 24 23,oM 25 (.zC 1 8 [zI] (.t 24) (.t 24)),bg 26 5 1,cM 1 26 25] (kS [oM 27 (.o7 156 [.t 5]),ar 6 27] (.seq (kS [bg 28 1 1,bQ 29 28,gz 30 29,bw 31 (kI 0)] (mF Hj)) (.seq (kS [bg 45 1 2,bQ 46 45,gz 47 46,bw 48 (kI 0)] (.block 2 (.loop Hl))) (kS [cL 90 3 5,cM 3 2 90,bw 3 (kI 0)] .ret)))))))
theorem Sm:di f98=some Z8:=by kernel_rfl
def WY:aG:=kS [bw 2 (.c zN)] (kS [ar 4 0,cq 5 159 [.t 4],ar 3 5] (kS [ar 6 3,cq 7 160 [.t 6,.c (.fn 161 [])]] (kS [ar 8 3,cq 9 163 [.t 8],cq 10 162 [.t 9],ar 2 10] .ret)))
theorem IX:di f99=some WY:=by kernel_rfl
def IY:aG:=kS [ey .lss 25 24 23] (.seq (kE 25) (.seq (.block 1 (kS [ar 26 24,jy 27 1 22 24,bQ 28 27,ar 10 26,ar 11 28] (kS [ar 30 8,ar 31 11,cq 32 130 [.t 30,.t 31],ar 29 32,iN 33 29 0,iN 34 29 1,oM 12 (.alloc [zI,zI,zI,zI,zI,zI,zI]),cM 7 12 33,ar 13 34] (kS [ar 35 13,oM 36 (jj 35)] (kC 36 (kS [ar 37 8,ar 38 10,ar 6 37,ar 7 38] .ret)))))) (kR [ca .add 39 24 1,ar 24 39])))
def Uu:aG:=kS [oM 3 (cw 0),bw 6 (.c (.d .lA)),bw 7 (kI 0)] (kS [cL 15 3 3,ar 16 1,cq 17 78 [.t 15,.t 16],ar 14 17,iN 18 14 0,iN 19 14 1,ar 8 18,ar 9 19] (.seq (kS [ar 20 9,ca .neq 21 20 0] (kC 21 (kS [bw 6 (.c (.d .lA)),bw 7 (kI 0)] .ret))) (.seq (kS [ar 22 2,gz 23 22,bw 24 (kI 0)] (mF IY)) (kS [ar 40 8,ar 41 2,gz 42 41,ar 6 40,ar 7 42] .ret))))
theorem Oj:di f119=some Uu:=by kernel_rfl
def Uv:aG:=kS [bw 2 fA] (kS [ar 3 0,cq 4 189 [.t 3],oM 5 (.bin .eql (.t 4) (.c (.d (.int .u64 0)))),ar 2 5] .ret)
theorem Ol:di f120=some Uv:=by kernel_rfl
def IZ:aG:=kS [ca .lss 6 5 4] (.seq (kE 6) (.seq (.block 1 (kS [ar 7 5,ar 4 7] (kR [ar 8 4,ar 9 0,ar 10 4,fP 11 9,bg 12 11 4,oM 13 (.bS 5 (some 4) (.t 12) (.t 10)),bg 14 13 1,cL 15 4 14,bg 16 3 0,oM 17 (.bS 4 (some 4) (.t 16) (.t 8)),cM 4 17 15]))) (kR [ca .add 18 5 1,ar 5 18])))
def Uw:aG:=kS [oM 2 (.alloc [zI,zI,zI,zI,zI,zI,zI,zI,zI,zI,zI,zI,zI,zI,zI,zI,zI,zI,zI,zI])] (kS [oM 3 (.alloc [zI,zI,zI,zI,zI,zI,zI,zI,zI,zI,zI,zI,zI,zI,zI,zI,zI,zI,zI,zI])] (.seq (kS [bw 5 (kI 0)] (mF IZ)) (kS [ar 19 0,fP 20 19,bg 21 20 24,cL 22 4 21,bg 23 3 16,cM 4 23 22] (kS [cL 24 20 3,cM 20 2 24] .ret))))
theorem Om:di f121=some Uw:=by kernel_rfl
def I0:aG:=kS [ey .lss 42 41 40] (.seq (kE 42) (.seq (.block 1 (kS [ar 43 41,jy 44 1 39 41,bQ 45 44,ar 3 43,ar 4 45] (kS [ar 46 4,oM 47 (.Gz .i64 (.t 46)),cq 48 141 [.t 47],oM 49 (jj 48),ar 50 49,l9 51 3 50,dI 52 (jb .gtr 51 0) 50,l9 53 52 50,jI 54 4 53,j4 55 1 0 53,lu 56 55 53,jI 57 3 53,db 58 (jb .sub 57 1) 53,db 59 (Yi 1 56 58) 53,lu 60 59 53,db 61 (uI .leq 54 60) 53,dI 62 (BZ 53 61) 50,jX 63 50 62] (kC 63 (kS [bw 2 fA] .ret))))) (kR [ca .add 64 41 1,ar 41 64])))
def I1:aG:=kS [ey .lss 70 69 68] (.seq (.cond (.t 70) .skip (.exit 2)) (.seq (.block 3 (kS [jy 71 1 67 69,bQ 72 71,ar 7 72] (kS [ar 73 7,gz 74 73,ca .gtr 75 74 10,ar 76 75,l9 77 7 76,dI 78 (.bW 181 [.t 77]) 76,dI 79 (jj 78) 76,jX 80 76 79,ar 81 80,l9 82 7 81,dI 83 (.o7 192 [.t 5]) 81,dI 84 (.bW 135 [.t 82,.t 83]) 81,jX 85 81 84] (kC 85 (kS [bw 2 fA] .ret))))) (kR [ca .add 86 69 1,ar 69 86])))
def Ux:aG:=kS [oM 1 (cw 0),bw 2 fA] (.seq (kS [bg 8 1 2,bQ 9 8,gz 10 9,ca .eql 11 10 0,ar 12 11,nI 13 1 2 12,pE 14 13 12,dI 15 (nj 14) 12,dI 16 (jb .gtr 15 4) 12,jX 17 12 16,ar 18 17,nI 19 1 0 18,pE 20 19 18,dI 21 (nj 20) 18,dI 22 (jb .gtr 21 4) 18,jX 23 18 22,ar 24 23,nI 25 1 1 24,pE 26 25 24,dI 27 (nj 26) 24,nI 28 1 0 24,pE 29 28 24,dI 30 (nj 29) 24,dI 31 (uI .neq 27 30) 24,jX 32 24 31,ar 33 32,dI 34 (oT 3 1) 33,dI 35 (.bW 190 [.t 34]) 33,dI 36 (jb .gtr 35 24) 33,jX 37 33 36] (kC 37 (kS [bw 2 fA] .ret))) (.seq (kS [bg 38 1 0,bQ 39 38,gz 40 39,bw 41 (kI 0)] (mF I0)) (kS [oM 65 (.o7 191 [.t 1]),oM 5 (.alloc [.d .Mb]),cM 1 5 65] (.seq (kS [bg 66 1 2,bQ 67 66,gz 68 67,bw 69 (kI 0)] (.block 2 (.loop I1))) (kS [bw 2 sd] .ret)))))
theorem On:di f122=some Ux:=by kernel_rfl
def I2:aG:=kS [ey .lss 17 16 15] (.seq (kE 17) (.seq (.block 1 (kS [jy 18 1 14 16,bQ 19 18,ar 5 19] (.region true [bg 20 3 2,bQ 21 20,ar 22 5,cq 23 158 [.t 22],oM 24 (.dp 1 1 [zN] [(0,1,.t 23)]),oM 25 (.app 1 24 75 (.t 21) (.t 24)),bg 26 3 2,cM 1 26 25] [0,1,0,4,8,26,63,127]))) (kR [ca .add 27 16 1,ar 16 27])))
def Uy:aG:=kS [oM 1 (cw 0),oM 2 (.alloc [zN,zN,zN])] (kD [bg 6 1 0,bQ 7 6,cq 8 194 [.t 7],bg 9 1 1,bQ 10 9,cq 11 195 [.t 10],oM 12 (.build [zN,zN,zN] [(0,1,.t 8),(1,1,.t 11)]),oM 3 (.alloc [zN,zN,zN]),cM 3 3 12] [0,1,2,0,8,20,36,0,255] (.seq (kS [bg 13 1 2,bQ 14 13,gz 15 14,bw 16 (kI 0)] (mF I2)) (kS [cL 28 3 3,cM 3 2 28] .ret)))
theorem Oo:di f123=some Uy:=by kernel_rfl
def Uz:aG:=kS [oM 2 (cw 0),oM 4 (.alloc [zI,zI,zI,zI,zI])] (kS [cL 5 3 2,ar 6 1,cq 7 197 [.t 5,.t 6],oM 8 (.build [zI,zI,zI,zI,zI] []),cq 9 196 [.t 7,.t 8],cM 5 4 9] .ret)
theorem Oq:di f124=some Uz:=by kernel_rfl
def UA:aG:=kS [oM 2 (.alloc [zI,zI,zI,zI,zI,zI,zI,zI,zI,zI,zI,zI,zI,zI,zI,zI,zI,zI,zI,zI,zI,zI,zI,zI,zI,zI,zI,zI,zI,zI,zI,zI,zI,zI,zI,zI,zI,zI,zI,zI,zI,zI,zI,zI,zI,zI,zI,zI,zI,zI,zI,zI,zI,zI,zI,zI,zI,zI,zI,zI,zI,zI,zI,zI,zI,zI,zI,zI,zI,zI,zI,zI,zI,zI])] (.seq (kS [ar 3 0,ca .neq 4 3 2,ar 5 4,jI 6 0 5,db 7 (jb .neq 6 3) 5,iA 8 5 7] (kC 8 (kR [bw 0 (kI 0)]))) (kS [ar 9 0,oM 10 (.build [zI,zI,zI,zI,zI,zI,zI,zI,zI,zI,zI,zI,zI,zI,zI,zI,zI,zI,zI,zI,zI,zI,zI,zI,zI,zI,zI,zI,zI,zI,zI,zI,zI,zI,zI,zI,zI,zI,zI,zI,zI,zI,zI,zI,zI,zI,zI,zI,zI,zI,zI,zI,zI,zI,zI,zI,zI,zI,zI,zI,zI,zI,zI,zI,zI,zI,zI,zI,zI,zI,zI,zI,zI,zI] [(0,1,.t 9)]),cM 74 2 10] .ret))
theorem Ot:di f125=some UA:=by kernel_rfl
def I3:aG:=kS [ey .lss 26 25 24] (.seq (.cond (.t 26) .skip (.exit 1)) (.seq (.block 2 (kS [jy 27 7 23 25,cL 28 7 27,oM 10 (.alloc [zI,zI,zI,zI,zI,zI,zI]),cM 7 10 28] (kR [ar 29 8,bg 30 10 0,bQ 31 30,oM 32 (.dp 1 1 [zI] [(0,1,.t 31)]),oM 33 (.app 1 8 3 (.t 29) (.t 32)),ar 8 33]))) (kR [ca .add 34 25 1,ar 25 34])))
def Ou:aG:=kS [ar 11 1,cq 12 189 [.t 11],ar 6 12] (kS [ar 13 6,ar 14 2,ey .andNot 15 13 14,cq 16 127 [.t 15],ar 7 16] (.seq (.block 0 (kS [ar 18 6,oM 19 (.bin .eql (.t 18) (.c (.d (.int .u64 0)))),ar 17 19] (.cond (.t 17) (kS [bw 8 (.c zN)] (.seq (kS [ar 20 0,fP 21 20,bg 22 21 3,bQ 23 22,gz 24 23,bw 25 (kI 0)] (.block 1 (.loop I3))) (kR [ar 35 0,ar 36 0,fP 37 36,bg 38 37 4,bg 39 38 0,bQ 40 39,ar 41 8,oM 42 (.dp 1 1 [zN] [(0,1,.t 41)]),oM 43 (.app 1 24 50 (.t 40) (.t 42)),fP 44 35,bg 45 44 4,bg 46 45 0,cM 1 46 43]))) (kS [ar 48 7,ca .lss 49 48 0,ar 47 49] (kC 47 (kR [ar 50 0,fP 51 50,bg 52 51 4,bg 53 52 1,bQ 54 53,ca .add 55 54 1,fP 56 50,bg 57 56 4,bg 58 57 1,cM 1 58 55])))))) (.region true [ar 59 0,ar 60 0,fP 61 60,bg 62 61 2,bQ 63 62,ar 64 1,ar 65 2,ar 66 7,oM 67 (.dp 1 1 [zI] [(0,1,.t 66)]),cq 68 198 [.t 67],oM 69 (.build [.d .lA,.d (.int .u64 0),.d (.int .u64 0)] [(0,1,.t 64),(1,1,.t 65),(2,1,.t 68)]),oM 70 (.dp 3 1 [.d .lA,.d (.int .u64 0),.d (.int .u64 0)] [(0,3,.t 69)]),oM 71 (.app 3 24 222 (.t 63) (.t 70)),fP 72 59,bg 73 72 2,cM 1 73 71] [0,0,2,4,8,0,0,0,128,256,608,1024,2576,8191,16383,24575])))
theorem EG:di f126=some Ou:=by kernel_rfl
def UB:aG:=kS [bw 2 (kI 0)] (.seq (kS [ar 3 0,oM 4 (.bin .eql (.t 3) (.c (.d (.int .u64 0))))] (kC 4 (kS [bw 2 (kI (-1))] .ret))) (kS [ar 5 0,cq 6 199 [.t 5],ar 2 6] .ret))
theorem Ov:di f127=some UB:=by kernel_rfl
def UC:aG:=kD [ar 2 0,ar 3 0,fP 4 3,bg 5 4 2,bQ 6 5,ar 7 0,fP 8 7,bg 9 8 2,bQ 10 9,gz 11 10,ca .sub 12 11 1,oM 13 (.rm 3 (.t 6) none (some (.t 12))),fP 14 2,bg 15 14 2,cM 1 15 13] [0,0,2,4,8,0,32,64,128,256,512,1040,4095,8191,12287] (.region true [ar 16 0,ar 17 0,fP 18 17,bg 19 18 3,bQ 20 19,ar 21 0,fP 22 21,bg 23 22 3,bQ 24 23,gz 25 24,ca .sub 26 25 1,oM 27 (.uv (.t 26) (kI 0)),oM 28 (.rm 7 (.t 20) none (some (.t 27))),fP 29 16,bg 30 29 3,cM 1 30 28] [0,0,2,4,8,0,32,64,128,256,512,1024,2064,8191,16383,24575])
theorem Ow:di f128=some UC:=by kernel_rfl
def UD:aG:=kS [bw 2 (.c (.d .lA))] (kS [ar 4 0,fP 5 4,cL 6 329 5,oM 3 (.alloc [zN,zN,zN,zI,zI,zI,zI,zI,zI,zI,zI,zI,zI,zI,zI,zI,zI,zI,zI,zI,zI,zI,zI,zI,zI,zI,zI,zI,zI,zI,zI,zI,zI,zI,zI,zI,zI,zI,zI,zI,zI,zI,zI,zI,zI,zI,zI,zI,zI,zI,zI,zI,zI,zI,zI,zI,zI,zI,zI,zI,zI,zI,zI,zI,zI,zI,zI,zI,zI,zI,zI,zI,zI,zI,zI,zI,zI,zI,zI,zI,zI,zI,zI,zI,zI,zI,zI,zI,zI,zI,zI,zI,zI,zI,zI,zI,zI,zI,zI,zI,zI,zI,zI,zI,zI,zI,zI,zI,zI,zI,zI,zI,zI,zI,zI,zI,zI,zI,zI,zI,zI,zI,zI,zI,zI,zI,zI,zI,zI,zI,zI,zI,zI,zI,zI,zI,zI,zI,zI,zI,zI,zI,zI,zI,zI,zI,zI,zI,zI,zI,zI,zI,zI,zI,zI,zI,zI,zI,zI,zI,zI,zI,zI,zI,zI,zI,zI,zI,zI,zI,zI,zI,zI,zI,zI,zI,zI,zI,zI,zI,zI,zI,zI,zI,zI,zI,zI,zI,zI,zI,zI,zI,zI,zI,zI,zI,zI,zI,zI,zI,zI,zI,zI,zI,zI,zI,zI,zI,zI,zI,zI,zI,zI,zI,zI,zI,zI,zI,zI,zI,zI,zI,zI,zI,zI,zI,zI,zI,zI,zI,zI,zI,zI,zI,zI,zI,zI,zI,zI,zI,zI,zI,zI,zI,zI,zI,zI,zI,zI,zI,zI,zI,zI,zI,zI,zI,zI,zI,zI,zI,zI,zI,zI,zI,zI,zI,zI,zI,zI,zI,zI,zI,zI,zI,zI,zI,zI,zI,zI,zI,zI,zI,zI,zI,zI,zI,zI,zI,zI,zI,zI,zI,zI,zI,zI,zI,zI,zI,zI,zI,zI,zI,zI,zI,zI,zI,zI,zI,zI,zI,zI,zI,zI,zI,zI,zI,zI,zI,zI,zI,zI,zI,zI,zI,zI,zI,zI,zI,zN]),cM 329 3 6] (kS [ar 7 0,fP 8 7,bg 9 8 328,bQ 10 9,cq 11 200 [.t 10],bg 12 3 328,cM 1 12 11] (kS [ar 2 3] .ret)))
theorem Ox:di f129=some UD:=by kernel_rfl
def UE:aG:=kS [oM 4 (.alloc [zI,zI,zI,zI,zI,zI,zI]),bw 5 fA] (.seq (kS [ar 7 0,cq 8 189 [.t 7],ar 9 1,cq 10 201 [.t 8,.t 9],oM 11 (jj 10)] (kC 11 (kS [oM 12 (.build [zI,zI,zI,zI,zI,zI,zI] []),cM 7 4 12,bw 5 fA] .ret))) (kS [oM 6 (.alloc [zI,zI,zI,zI,zI,zI,zI])] (.seq (.block 0 (kS [ar 22 1,ca .lss 23 22 4,ar 21 23] (.cond (.t 21) (kR [ar 24 0,ar 25 1,cq 26 202 [.t 24,.t 25],cM 7 6 26]) (kS [ar 28 1,ca .lss 29 28 8,ar 27 29] (.cond (.t 27) (kR [ar 30 0,ar 31 1,ca .sub 32 31 4,cq 33 203 [.t 30,.t 32,kI 0],cM 7 6 33]) (kR [ar 13 0,ar 14 1,ca .sub 15 14 8,ca .quo 16 15 4,ar 17 1,ca .sub 18 17 8,ca .rem 19 18 4,cq 20 203 [.t 13,.t 16,.t 19],cM 7 6 20])))))) (kS [ar 34 1,bg 35 6 0,cM 1 35 34] (kD [ar 36 0,ar 37 0,fP 38 37,bg 39 38 328,bQ 40 39,cL 41 7 6,oM 42 (.dp 7 1 [zI,zI,zI,zI,zI,zI,zI] [(0,7,.t 41)]),oM 43 (.app 7 56 225 (.t 40) (.t 42)),fP 44 36,bg 45 44 328,cM 1 45 43] [0,0,2,4,8,0,32,80,255,511,767] (kS [cL 46 7 6,cM 7 4 46,bw 5 sd] .ret))))))
theorem Oy:di f130=some UE:=by kernel_rfl
def I4:aG:=kS [ey .lss 19 18 17] (.seq (kE 19) (.seq (.block 1 (kS [jy 20 1 16 18,bQ 21 20,ar 9 21] (kS [bg 23 4 0,bQ 24 23,ar 25 9,cq 26 205 [.t 24,.t 25],ar 22 26,iN 27 22 0,iN 28 22 1,oM 10 (.alloc [zI,zI,zI,zI,zI,zI,zI]),cM 7 10 27,ar 11 28] (kS [ar 29 0,fP 30 29,bg 31 30 4,bg 32 31 2,bQ 33 32,ca .add 34 33 1,fP 35 29,bg 36 35 4,bg 37 36 2,cM 1 37 34] (kD [bg 38 4 0,bQ 39 38,cL 40 7 10,cL 41 7 5,ar 42 0,fP 43 42,bg 44 43 0,bQ 45 44,cq 46 206 [.t 39,.t 40,.t 41,.t 45]] [0,1,0,0,0,16,32,64,142] (kC 46 (kR [ar 47 7,ar 48 9,cq 49 207 [.t 47,.t 48],ar 7 49]))))))) (kR [ca .add 50 18 1,ar 18 50])))
def UF:aG:=kS [oM 4 (cw 1),oM 5 (cw 2),bw 6 (.c (.d (.int .u64 0)))] (kS [bg 12 4 1,bQ 13 12,ar 7 13] (.seq (kS [bg 14 4 1,bQ 15 14,cq 16 204 [.t 15],gz 17 16,bw 18 (kI 0)] (mF I4)) (kS [ar 51 7,ar 6 51] .ret)))
theorem Oz:di f131=some UF:=by kernel_rfl
def UG:aG:=kS [bw 4 (.c (.d (.int .u64 0)))] (kS [ar 5 0,ar 6 1,cq 7 208 [.t 6],ey .or 8 5 7,ar 4 8] .ret)
theorem OA:di f132=some UG:=by kernel_rfl
def I5:aG:=kS [ey .lss 36 35 34] (.seq (kE 36) (.seq (.block 1 (kS [jy 37 2 33 35,cL 38 2 37,oM 5 (.alloc [zI,zI]),cM 2 5 38] (.seq (kS [oM 39 (.bS 1 (some 2) (.t 5) (kI 1)),bQ 40 39,ar 41 3,ey .neq 42 40 41] (kC 42 (.exit 1))) (kD [ar 43 0,fP 44 43,bg 45 44 2,bQ 46 45,oM 47 (.bS 1 (some 2) (.t 5) (kI 0)),bQ 48 47,jy 49 3 46 48,ar 6 49] [0,1,2,4,0,16,40,127] (kS [ar 50 0,cL 51 65 2,oM 52 (.bS 1 (some 2) (.t 5) (kI 0)),bQ 53 52,cq 54 211 [.t 50,.t 51,.t 53],ar 7 54] (.seq (kS [ar 55 6,fP 56 55,bg 57 56 2,bQ 58 57,ar 59 7,cq 60 212 [.t 58,.t 59]] (kC 60 (.exit 1))) (.seq (kS [ar 61 7,ar 62 6,fP 63 62,bg 64 63 1,bQ 65 64,ey .and 66 61 65,ar 8 66] (kS [ar 67 8,oM 68 (.bin .neq (.t 67) (.c (.d (.int .u64 0))))] (kC 68 (kR [ar 69 8,ar 7 69])))) (.region true [ar 70 6,ar 71 6,fP 72 71,bg 73 72 2,bQ 74 73,ar 75 7,cq 76 127 [.t 75],cq 77 132 [.t 74,.t 76],fP 78 70,bg 79 78 2,cM 1 79 77] [0,0,2,4,8,0,32,80,255,511,767])))))))) (kR [ca .add 80 35 1,ar 35 80])))
def UH:aG:=kD [ar 9 0,fP 10 9,bg 11 10 3,bQ 12 11,ar 13 0,fP 14 13,bg 15 14 0,bQ 16 15,cq 17 209 [.t 12,.t 16],oM 2 (.alloc [zI,.d (.int .u64 0),.d (.int .u64 0),.d (.int .u64 0),.d (.int .u64 0),.d (.int .u64 0),.d (.int .u64 0),.d (.int .u64 0),.d (.int .u64 0),.d (.int .u64 0),.d (.int .u64 0),.d (.int .u64 0),.d (.int .u64 0),.d (.int .u64 0),.d (.int .u64 0),.d (.int .u64 0),.d (.int .u64 0),.d (.int .u64 0),.d (.int .u64 0),.d (.int .u64 0),.d (.int .u64 0),.d (.int .u64 0),.d (.int .u64 0),.d (.int .u64 0),.d (.int .u64 0),.d (.int .u64 0),.d (.int .u64 0),.d (.int .u64 0),.d (.int .u64 0),.d (.int .u64 0),.d (.int .u64 0),.d (.int .u64 0),.d (.int .u64 0),.d (.int .u64 0),.d (.int .u64 0),.d (.int .u64 0),.d (.int .u64 0),.d (.int .u64 0),.d (.int .u64 0),.d (.int .u64 0),.d (.int .u64 0),.d (.int .u64 0),.d (.int .u64 0),.d (.int .u64 0),.d (.int .u64 0),.d (.int .u64 0),.d (.int .u64 0),.d (.int .u64 0),.d (.int .u64 0),.d (.int .u64 0),.d (.int .u64 0),.d (.int .u64 0),.d (.int .u64 0),.d (.int .u64 0),.d (.int .u64 0),.d (.int .u64 0),.d (.int .u64 0),.d (.int .u64 0),.d (.int .u64 0),.d (.int .u64 0),.d (.int .u64 0),.d (.int .u64 0),.d (.int .u64 0),.d (.int .u64 0),.d (.int .u64 0)]),cM 65 2 17] [0,1,2,4,0,16,32,64,136,0,1023] (kS [ar 18 0,fP 19 18,bg 20 19 3,bQ 21 20,gz 22 21,ca .sub 23 22 1,ar 3 23] (kD [cL 24 65 2,ar 25 0,fP 26 25,bg 27 26 3,bQ 28 27,ar 29 0,fP 30 29,bg 31 30 0,bQ 32 31,cq 33 210 [.t 24,.t 28,.t 32],gz 34 33,bw 35 (kI 0)] [0,0,2,4,8,0,32,64,128,273,512,0] (mF I5)))
theorem OB:di f133=some UH:=by kernel_rfl
def OC:aG:=kS [bw 3 (kI 0)] (kS [bg 4 1 0,bQ 5 4,ar 6 0,oM 7 (.Gz .u8 (.t 6)),cq 8 157 [.t 5,.t 7],ar 3 8] .ret)
theorem EH:di f156=some OC:=by kernel_rfl
def I6:aG:=kS [ey .lss 9 8 7] (.seq (kE 9) (.seq (.block 1 (kS [ar 10 8,ar 5 10] (kS [ar 11 1,ar 12 0,ar 13 5,jy 14 1 12 13,bQ 15 14,ey .eql 16 11 15] (kC 16 (kS [ar 17 5,ar 4 17] .ret))))) (kR [ca .add 18 8 1,ar 8 18])))
def UI:aG:=kS [bw 4 (kI 0)] (.seq (kS [ar 6 0,gz 7 6,bw 8 (kI 0)] (mF I6)) (kS [bw 4 (kI (-1))] .ret))
theorem OD:di f157=some UI:=by kernel_rfl
def Z9:aG:=kS [bw 2 (.c zN)] (.seq (kS [ar 3 0,oM 4 (.iW (.ur false) [.t 3,.c zN])] (kC 4 (kS [bw 2 (.c zN)] .ret))) (kS [oM 5 (.dp 9 0 [] []),ar 6 0,oM 7 (.app 9 72 82 (.t 5) (.t 6)),ar 2 7] .ret))
theorem EI:di f158=some Z9:=by kernel_rfl
def aaa:aG:=kS [bw 2 (.c zN)] (.seq (kS [ar 3 0,oM 4 (.iW (.ur false) [.t 3,.c zN])] (kC 4 (kS [bw 2 (.c zN)] .ret))) (kS [oM 5 (.dp 20 0 [] []),ar 6 0,oM 7 (.app 20 160 102 (.t 5) (.t 6)),ar 2 7] .ret))
theorem OE:di f159=some aaa:=by kernel_rfl
def I7:aG:=kS [ca .lss 8 7 4] (.seq (kE 8) (.seq (.block 1 (kS [ar 9 7,ar 5 9] (kD [ar 10 5,bg 11 2 0,oM 12 (.bS 4 (some 4) (.t 11) (.t 10)),oM 13 (.iW (.xw 4 1) [.t 12,kI 0,kI 4]),ar 14 5,bg 15 3 0,oM 16 (.bS 4 (some 4) (.t 15) (.t 14)),oM 17 (.iW (.xw 4 1) [.t 16,kI 0,kI 4]),cq 18 229 [.t 13,.t 17],ar 6 18] [0,0,3,4,0,0,48,64,136,511] (kS [ar 19 6,ca .neq 20 19 0] (kC 20 (kS [ar 21 6,ar 4 21] .ret)))))) (kR [ca .add 22 7 1,ar 7 22])))
def UJ:aG:=kS [oM 2 (cw 0),oM 3 (cw 1),bw 4 (kI 0)] (.seq (kS [bw 7 (kI 0)] (mF I7)) (kD [bg 23 2 16,oM 24 (.iW (.xw 4 1) [.t 23,kI 0,kI 4]),bg 25 3 16,oM 26 (.iW (.xw 4 1) [.t 25,kI 0,kI 4]),cq 27 229 [.t 24,.t 26],oM 28 (.dp 1 2 [zI,zI] [(0,1,.t 27),(1,1,kI 0)]),cq 29 230 [.t 28],ar 4 29] [0,1,0,4,10,16,48,127] .ret))
theorem OG:di f161=some UJ:=by kernel_rfl
def OH:aG:=kS [bw 2 (.c zN)] (kS [ar 3 0,ar 4 0,gz 5 4,ar 6 0,gz 7 6,oM 8 (.iW (.Gy 20) [.t 3,kI 0,.t 5,.t 7]),ar 2 8] .ret)
theorem EJ:di f162=some OH:=by kernel_rfl
def I8:aG:=.seq (kS [ar 29 5,ar 30 4,gz 31 30,ey .lss 32 29 31] (.cond (.t 32) .skip (.exit 2))) (.seq (.block 3 (kD [ar 35 4,ar 36 5,jy 37 20 35 36,cL 38 20 37,ar 39 4,ar 40 5,ca .sub 41 40 1,jy 42 20 39 41,cL 43 20 42,oM 44 (.eqs [0,0,0,0,0,0,0,0,0,0,0,0,0,0,0,0,0,0,0,0] true (.t 38) (.t 43))] [0,0,3,4,0,0,32,80,128,264] (kC 44 (kS [ar 45 0,ar 46 3,ar 47 4,ar 48 5,jy 49 20 47 48,cL 50 20 49,jy 51 20 45 46,cM 20 51 50] (kR [ar 52 3,ca .add 53 52 1,ar 3 53]))))) (kR [ar 33 5,ca .add 34 33 1,ar 5 34]))
def I9:aG:=.seq (kS [ar 10 3,ar 11 0,gz 12 11,ey .lss 13 10 12] (kE 13)) (.seq (.block 1 (kD [ar 16 0,ar 17 3,jy 18 20 16 17,cL 19 20 18,ar 20 0,ar 21 3,ca .sub 22 21 1,jy 23 20 20 22,cL 24 20 23,oM 25 (.eqs [0,0,0,0,0,0,0,0,0,0,0,0,0,0,0,0,0,0,0,0] false (.t 19) (.t 24))] [0,0,3,4,0,0,32,80,128,264] (kC 25 (kS [ar 26 0,ar 27 3,oM 28 (.rm 20 (.t 26) (some (.t 27)) none),ar 4 28] (.seq (kS [bw 5 (kI 1)] (.block 2 (.loop I8))) (kS [ar 54 0,ar 55 3,oM 56 (.rm 20 (.t 54) (some (.t 55)) none),⟨none,.iW (.xx 20 [zI,zI,zI,zI,zI,zI,zI,zI,zI,zI,zI,zI,zI,zI,zI,zI,zI,zI,zI,zI]) [.t 56],none⟩] (kS [ar 57 0,ar 58 3,oM 59 (.rm 20 (.t 57) none (some (.t 58))),ar 2 59] .ret))))))) (kR [ar 14 3,ca .add 15 14 1,ar 3 15]))
def UK:aG:=kS [bw 2 (.c zN)] (.seq (kS [ar 6 0,gz 7 6,ca .lss 8 7 2] (kC 8 (kS [ar 9 0,ar 2 9] .ret))) (.seq (kS [bw 3 (kI 1)] (mF I9)) (kS [ar 60 0,ar 2 60] .ret)))
theorem OI:di f163=some UK:=by kernel_rfl
def xb:aG:=kS [ca .lss 76 75 4] (.seq (.cond (.t 76) .skip (.exit 2)) (.seq (.block 3 (kS [ar 77 75,ar 8 77] (kS [ar 79 0,ar 80 4,fP 81 79,bg 82 81 32,oM 83 (.bS 74 (some 4) (.t 82) (.t 80)),cL 84 74 83,ar 85 8,cq 86 245 [.t 84,.t 85],ar 78 86,iN 87 78 0,iN 88 78 1,iN 89 78 2,iN 90 78 3,ar 9 87,ar 10 88,ar 11 89,ar 12 90] (kS [ar 91 0,fP 92 91,bg 93 92 3,bQ 94 93,ca .eql 95 94 3,ar 96 95,jI 97 12 96,iA 98 96 97] (kC 98 (kR [ar 99 3,ar 100 4,oM 101 (.bin .mul (kI 4) (.t 100)),oM 102 (.bin .add (kI 8) (.t 101)),ar 103 8,ey .add 104 102 103,cq 105 132 [.t 99,.t 104],ar 3 105])))))) (kR [ca .add 106 75 1,ar 75 106])))
def Ja:aG:=kS [ca .lss 14 13 4] (.seq (kE 14) (.seq (.block 1 (kS [ar 15 13,ar 4 15] (kD [ar 17 0,fP 18 17,bg 19 18 0,cL 20 3 19,ar 21 4,ar 22 0,ar 23 4,fP 24 22,bg 25 24 4,oM 26 (.bS 5 (some 4) (.t 25) (.t 23)),cL 27 5 26,cq 28 243 [.t 20,.t 21,.t 27],ar 16 28,iN 29 16 0,iN 30 16 1,oM 5 (.alloc [zI,zI,zI,zI,zI,zI,zI,zI,zI]),cM 9 5 29,ar 6 30] [0,1,2,4,0,0,0,32,128,320,512,1048,2048,4096,4096,0,49151,131071] (kS [bg 31 5 0,bQ 32 31,ca .eql 33 32 3,ar 34 33,nI 35 5 0 34,pE 36 35 34,dI 37 (jb .eql 36 4) 34,jX 38 34 37,ar 7 38] (.seq (kS [ar 39 6,ar 40 39,jI 41 7 40,db 42 (jj 41) 40,jI 43 42 40,l9 44 0 43,l9 45 4 43,dI 46 (NA 44) 43,nI 47 46 32 43,dI 48 (.bS 74 (some 4) (.t 47) (.t 45)) 43,dI 49 (oT 74 48) 43,dI 50 (.bW 244 [.t 49]) 43,db 51 (Nz 43 50) 40,iA 52 40 51] (kC 52 (kR [ar 53 3,ar 54 4,cq 55 132 [.t 53,.t 54],ar 3 55]))) (.seq (kS [ar 56 0,fP 57 56,bg 58 57 3,bQ 59 58,ca .eql 60 59 2,ar 61 60,jI 62 0 61,jI 63 4 61,db 64 (NA 62) 61,j4 65 64 32 61,db 66 (.bS 74 (some 4) (.t 65) (.t 63)) 61,db 67 (oT 74 66) 61,db 68 (.bW 244 [.t 67]) 61,db 69 (jj 68) 61,iA 70 61 69] (kC 70 (kR [ar 71 3,ar 72 4,oM 73 (.bin .add (kI 4) (.t 72)),cq 74 132 [.t 71,.t 73],ar 3 74]))) (kS [bw 75 (kI 0)] (.block 2 (.loop xb))))))))) (kR [ca .add 107 13 1,ar 13 107])))
def UL:aG:=kS [bw 2 (.c (.d (.int .u64 0)))] (kS [bw 3 (.c (.d (.int .u64 0)))] (.seq (kS [bw 13 (kI 0)] (mF Ja)) (kS [ar 108 3,ar 2 108] .ret)))
theorem OJ:di f189=some UL:=by kernel_rfl
def Jb:aG:=kS [ey .lss 10 9 8] (.seq (kE 10) (.seq (.block 1 (kS [jy 11 1 7 9,bQ 12 11,ar 5 12] (kR [ar 13 3,ar 14 5,gz 15 14,ey .add 16 13 15,ar 3 16]))) (kR [ca .add 17 9 1,ar 9 17])))
def UM:aG:=kS [oM 1 (cw 0),bw 2 (kI 0)] (kS [bw 3 (kI 0)] (.seq (kS [bg 6 1 2,bQ 7 6,gz 8 7,bw 9 (kI 0)] (mF Jb)) (kS [ar 18 3,ar 2 18] .ret)))
theorem OK:di f190=some UM:=by kernel_rfl
def UN:aG:=kS [bw 3 fA] (kS [ar 4 0,ca .geq 5 4 0,ar 6 5,jI 7 0 6,j4 8 1 0 6,lu 9 8 6,db 10 (nj 9) 6,db 11 (uI .lss 7 10) 6,iA 12 6 11,ar 3 12] .ret)
theorem OL:di f191=some UN:=by kernel_rfl
def UO:aG:=kS [oM 2 (cw 0),bw 3 fA] (kS [cL 4 9 2,bQ 5 1,cq 6 193 [.t 4,.t 5],oM 7 (jj 6),ar 3 7] .ret)
theorem OM:di f192=some UO:=by kernel_rfl
def aab:aG:=kS [bw 2 (.c zN)] (.seq (kS [ar 3 0,oM 4 (.iW (.ur false) [.t 3,.c zN])] (kC 4 (kS [bw 2 (.c zN)] .ret))) (kS [oM 5 (.dp 1 0 [] []),ar 6 0,oM 7 (.app 1 1 5 (.t 5) (.t 6)),ar 2 7] .ret))
theorem ON:di f194=some aab:=by kernel_rfl
def aac:aG:=kS [bw 2 (.c zN)] (.seq (kS [ar 3 0,oM 4 (.iW (.ur false) [.t 3,.c zN])] (kC 4 (kS [bw 2 (.c zN)] .ret))) (kS [oM 5 (.dp 1 0 [] []),ar 6 0,oM 7 (.app 1 8 2 (.t 5) (.t 6)),ar 2 7] .ret))
theorem OO:di f195=some aac:=by kernel_rfl
def Jc:aG:=.seq (kS [bg 10 3 0,bQ 11 10,ca .geq 12 11 0,ar 13 12,j4 14 3 0 13,lu 15 14 13,jI 16 0 13,db 17 (nj 16) 13,db 18 (uI .lss 15 17) 13,iA 19 13 18] (kE 19)) (.block 1 (kS [ar 20 0,bg 21 3 0,bQ 22 21,jy 23 9 20 22,cL 24 9 23,oM 5 (.alloc [zI,zI,zI,zI,zI,zI,zI,zI,zI]),cM 9 5 24] (kD [bg 25 5 3,cL 26 2 25,cL 27 5 3,cq 28 248 [.t 26,.t 27],bg 29 5 6,cL 30 2 29,cL 31 5 3,cq 32 248 [.t 30,.t 31],ar 6 28,ar 7 32] [0,1,0,6,0,16,0,104,143,511] (.seq (kS [bg 33 5 0,bQ 34 33] (.block 2 (kS [ca .eql 37 34 5,ar 36 37] (.cond (.t 36) (.seq (kS [bg 39 5 5,bQ 40 39,ar 41 6,ar 42 7,cq 43 249 [.t 40,.t 41,.t 42],ar 38 43,iN 44 38 0,iN 45 38 1,ar 8 44,ar 9 45] (kS [ar 46 9] (kC 46 (kR [ar 47 8,ar 6 47])))) (kR [bg 48 5 1,bQ 49 48,ar 50 6,cq 51 250 [.t 3,.t 49,.t 50]])) (kS [ca .eql 53 34 6,ar 52 53] (.cond (.t 52) (kS [ar 54 6,ar 55 7,ey .eql 56 54 55] (kC 56 (kR [bg 57 3 0,bQ 58 57,bg 59 5 8,bQ 60 59,oM 61 (.uv (.t 60) (kI 0)),ar 62 0,gz 63 62,oM 64 (.uu (.t 61) (.t 63)),ey .add 65 58 64,bg 66 3 0,cM 1 66 65]))) (kS [cL 35 5 3,cM 5 4 35] .ret))))))) (kR [bg 67 3 0,bQ 68 67,ca .add 69 68 1,bg 70 3 0,cM 1 70 69])))))
def UP:aG:=kS [oM 3 (cw 1),oM 4 (.alloc [zI,zI,zI,zI,zI])] (.seq (mF Jc) (kS [cL 71 5 3,cM 5 4 71] .ret))
theorem OP:di f196=some UP:=by kernel_rfl
def UQ:aG:=kS [oM 2 (cw 0),bw 4 (.c zN)] (.seq (kS [ar 5 1,ca .lss 6 5 0,ar 7 6,l9 8 1 7,nI 9 2 2 7,pE 10 9 7,dI 11 (nj 10) 7,dI 12 (uI .geq 8 11) 7,jX 13 7 12] (kC 13 (kS [bw 4 (.c zN)] .ret))) (kS [bg 14 2 2,bQ 15 14,ar 16 1,jy 17 1 15 16,bQ 18 17,ar 4 18] .ret))
theorem OQ:di f197=some UQ:=by kernel_rfl
def Jd:aG:=kS [ey .lss 9 8 7] (.seq (kE 9) (.seq (.block 1 (kS [jy 10 1 6 8,bQ 11 10,ar 5 11] (kR [ar 12 3,ar 13 5,cq 14 132 [.t 12,.t 13],ar 3 14]))) (kR [ca .add 15 8 1,ar 8 15])))
def UR:aG:=kS [bw 2 (.c (.d (.int .u64 0)))] (kS [bw 3 (.c (.d (.int .u64 0)))] (.seq (kS [ar 6 0,gz 7 6,bw 8 (kI 0)] (mF Jd)) (kS [ar 16 3,ar 2 16] .ret)))
theorem OR:di f198=some UR:=by kernel_rfl
def aad:aG:=kS [bw 2 (.c zN)] (.seq (kS [ar 3 0,oM 4 (.iW (.ur false) [.t 3,.c zN])] (kC 4 (kS [bw 2 (.c zN)] .ret))) (kS [oM 5 (.dp 7 0 [] []),ar 6 0,oM 7 (.app 7 56 225 (.t 5) (.t 6)),ar 2 7] .ret))
theorem OS:di f200=some aad:=by kernel_rfl
def US:aG:=kS [bw 4 fA] (kS [ar 5 0,ar 6 1,cq 7 208 [.t 6],ey .and 8 5 7,oM 9 (.bin .neq (.t 8) (.c (.d (.int .u64 0)))),ar 4 9] .ret)
theorem OT:di f201=some US:=by kernel_rfl
def UT:aG:=kS [oM 4 (.alloc [zI,zI,zI,zI,zI,zI,zI])] (kS [ar 16 0,ar 17 1,fP 18 16,bg 19 18 4,oM 20 (.bS 5 (some 4) (.t 19) (.t 17)),cL 21 5 20,oM 5 (.alloc [zI,zI,zI,zI,zI]),cM 5 5 21] (kD [ar 23 0,fP 24 23,bg 25 24 0,cL 26 3 25,ar 27 1,cL 28 5 5,cq 29 243 [.t 26,.t 27,.t 28],ar 22 29,iN 30 22 0,iN 31 22 1,oM 6 (.alloc [zI,zI,zI,zI,zI,zI,zI,zI,zI]),cM 9 6 30,ar 7 31] [0,1,2,4,0,0,56,64,128,128,0,1535,4095] (kD [ar 32 0,bg 33 6 2,bQ 34 33,fP 35 32,bg 36 35 24,oM 37 (.bS 1 (some 4) (.t 36) (.t 34)),bQ 38 37,ar 39 0,bg 40 6 2,bQ 41 40,fP 42 39,bg 43 42 28,oM 44 (.bS 1 (some 4) (.t 43) (.t 41)),bQ 45 44,ar 8 38,ar 9 45] [0,0,2,1,8,20,32,0,0,256,128,1024,2560,4096,127,32767] (.seq (kD [ar 47 0,ar 48 1,fP 49 47,bg 50 49 32,oM 51 (.bS 74 (some 4) (.t 50) (.t 48)),cL 52 74 51,bg 53 6 2,bQ 54 53,cq 55 251 [.t 52,.t 54],ar 46 55,iN 56 46 0,iN 57 46 1,iN 58 46 2,ar 10 56,ar 11 57,ar 12 58] [0,0,1,4,10,16,0,64,160,256,512,512,512,2047,12287,32767] (kS [ar 59 12] (kC 59 (kR [ar 60 10,ar 61 11,ar 8 60,ar 9 61])))) (kS [cL 63 9 6,cL 64 5 5,ar 65 8,cq 66 252 [.t 63,.t 64,.t 65],ar 62 66,iN 67 62 0,iN 68 62 1,oM 13 (.alloc [zI,zI,zI,zI,zI,zI]),cM 6 13 67,ar 14 68] (.seq (kS [ar 69 14,oM 70 (jj 69)] (kC 70 (kR [bw 9 (kI (-1))]))) (kS [ar 71 0,fP 72 71,bg 73 72 328,bQ 74 73,gz 75 74,ar 15 75] (.seq (.block 0 (kS [bg 77 13 2,bQ 78 77,ca .eql 79 78 2,ar 80 79,jI 81 0 80,db 82 (NA 81) 80,j4 83 82 3 80,lu 84 83 80,db 85 (jb .neq 84 1) 80,iA 86 80 85,ar 76 86] (.cond (.t 76) (.region true [ar 87 0,ar 88 1,ar 89 0,ar 90 1,fP 91 89,bg 92 91 32,oM 93 (.bS 74 (some 4) (.t 92) (.t 90)),cL 94 74 93,bg 95 13 3,bQ 96 95,bg 97 13 5,bQ 98 97,ar 99 15,cq 100 253 [.t 94,.t 96,.t 98,.t 99],fP 101 87,bg 102 101 32,oM 103 (.bS 74 (some 4) (.t 102) (.t 88)),cM 74 103 100] [0,0,0,0,4,16,40,64,0,256,0,1024,0,6784,1,16384,49151,81919]) (kS [cL 105 6 13,cq 106 254 [.t 105],ar 104 106] (kC 104 (.region true [ar 107 0,bg 108 13 3,bQ 109 108,ar 110 0,bg 111 13 3,bQ 112 111,bg 113 13 5,bQ 114 113,ar 115 15,fP 116 107,bg 117 116 24,oM 118 (.bS 1 (some 4) (.t 117) (.t 109)),cM 1 118 114,fP 119 110,bg 120 119 28,oM 121 (.bS 1 (some 4) (.t 120) (.t 112)),cM 1 121 115] [0,0,2,0,0,16,0,64,0,1,512,1223,2247,8,8192,24575,40959])))))) (kD [ar 122 0,ar 123 1,ar 124 0,fP 125 124,bg 126 125 0,cL 127 3 126,ar 128 1,cL 129 5 5,ar 130 8,cq 131 255 [.t 127,.t 128,.t 129,.t 130],fP 132 122,bg 133 132 4,oM 134 (.bS 5 (some 4) (.t 133) (.t 123)),cM 5 134 131] [0,0,0,4,8,16,0,0,0,480,1,1024,3071,5119] (kS [ar 135 1,bg 136 13 2,bQ 137 136,bg 138 13 3,bQ 139 138,bg 140 13 4,bQ 141 140,bg 142 13 5,bQ 143 142,ar 144 9,oM 145 (.build [zI,zI,zI,zI,zI,zI,zI] [(1,1,.t 135),(2,1,.t 137),(3,1,.t 139),(4,1,.t 141),(5,1,.t 143),(6,1,.t 144)]),cM 7 4 145] .ret))))))))))
theorem OU:di f202=some UT:=by kernel_rfl
def UU:aG:=kS [oM 6 (.alloc [zI,zI,zI,zI,zI,zI,zI])] (kS [ar 12 0,ar 13 1,fP 14 12,bg 15 14 32,oM 16 (.bS 74 (some 4) (.t 15) (.t 13)),cL 17 74 16,ar 18 2,cq 19 245 [.t 17,.t 18],ar 11 19,iN 20 11 0,iN 21 11 1,iN 22 11 2,iN 23 11 3,ar 7 20,ar 8 21,ar 9 22,ar 10 23] (kD [ar 24 0,ar 25 1,ar 26 0,ar 27 1,fP 28 26,bg 29 28 32,oM 30 (.bS 74 (some 4) (.t 29) (.t 27)),cL 31 74 30,ar 32 2,cq 33 256 [.t 31,.t 32],fP 34 24,bg 35 34 32,oM 36 (.bS 74 (some 4) (.t 35) (.t 25)),cM 74 36 33] [0,0,0,0,4,16,40,64,0,384,1,1024,3071,5119] (kD [ar 37 0,ar 38 7,ar 39 0,ar 40 7,ar 41 8,ar 42 9,fP 43 37,bg 44 43 24,oM 45 (.bS 1 (some 4) (.t 44) (.t 38)),cM 1 45 41,fP 46 39,bg 47 46 28,oM 48 (.bS 1 (some 4) (.t 47) (.t 40)),cM 1 48 42] [0,0,0,0,0,0,1,64,147,275,4,1024,3071,5119] (kS [ar 49 1,ar 50 7,ar 51 8,ar 52 9,oM 53 (.build [zI,zI,zI,zI,zI,zI,zI] [(1,1,.t 49),(2,1,kI 6),(3,1,.t 50),(5,1,.t 51),(6,1,.t 52)]),cM 7 6 53] .ret))))
theorem OV:di f203=some UU:=by kernel_rfl
def Je:aG:=.seq (kS [ar 4 0,oM 5 (.bin .neq (.t 4) (.c (.d (.int .u64 0))))] (kE 5)) (.seq (.block 1 (kR [ar 10 3,ar 11 0,cq 12 127 [.t 11],oM 13 (.dp 1 1 [zI] [(0,1,.t 12)]),oM 14 (.app 1 8 3 (.t 10) (.t 13)),ar 3 14])) (kR [ar 6 0,ar 7 0,oM 8 (.bin .sub (.t 7) (.c (.d (.int .u64 1)))),ey .and 9 6 8,ar 0 9]))
def UW:aG:=kS [bw 2 (.c zN)] (kS [bw 3 (.c zN)] (.seq (mF Je) (kS [ar 15 3,ar 2 15] .ret)))
theorem OW:di f204=some UW:=by kernel_rfl
def UX:aG:=kS [oM 4 (.alloc [zI,zI,zI,zI,zI,zI,zI]),bw 5 fA] (kS [ar 6 0,cq 7 129 [.t 6],ar 8 1,cq 9 130 [.t 7,.t 8],iN 10 9 0,iN 11 9 1,cM 7 4 10,ar 5 11] .ret)
theorem OX:di f205=some UX:=by kernel_rfl
def UY:aG:=kS [oM 4 (cw 0),oM 5 (cw 1),oM 6 (cw 2),bw 8 fA] (kS [oM 10 (.o7 257 [.t 4]),ar 9 10] (kS [cL 11 7 5,cL 12 7 6,ar 13 3,cq 14 259 [.t 11,.t 12,.t 13],ar 15 14,j4 16 5 1 15,lu 17 16 15,j4 18 6 1 15,lu 19 18 15,db 20 (uI .neq 17 19) 15,jI 21 20 15,jI 22 9 21,db 23 (oT 7 5) 21,db 24 (.fb (.t 22) [.t 23]) 21,jI 25 24 21,l9 26 9 25,dI 27 (oT 7 6) 25,dI 28 (.fb (.t 26) [.t 27]) 25,db 29 (Nz 25 28) 21,db 30 (BZ 21 29) 15,db 31 (jj 30) 15,iA 32 15 31,ar 8 32] .ret))
theorem OY:di f206=some UY:=by kernel_rfl
def UZ:aG:=kS [bw 4 (.c (.d (.int .u64 0)))] (kS [ar 5 0,ar 6 1,cq 7 208 [.t 6],ey .andNot 8 5 7,ar 4 8] .ret)
theorem OZ:di f207=some UZ:=by kernel_rfl
def U0:aG:=kS [bw 2 (.c (.d (.int .u64 0)))] (.seq (kS [ar 3 0,ca .lss 4 3 0,ar 5 4,l9 6 0 5,dI 7 (jb .geq 6 64) 5,jX 8 5 7] (kC 8 (kS [bw 2 (.c (.d (.int .u64 0)))] .ret))) (kS [ar 9 0,oM 10 (.Gz .u64 (.t 9)),oM 11 (.bin .shl (.c (.d (.int .u64 1))) (.t 10)),ar 2 11] .ret))
theorem O0:di f208=some U0:=by kernel_rfl
def Cc:aG:=.seq (kS [ar 27 8,ar 28 0,gz 29 28,ey .lss 30 27 29] (.cond (.t 30) .skip (.exit 2))) (.seq (.block 3 (kS [ar 33 0,ar 34 8,jy 35 7 33 34,cL 36 7 35,oM 9 (.alloc [zI,zI,zI,zI,zI,zI,zI]),cM 7 9 36] (kS [cL 37 7 7,ar 38 1,cq 39 261 [.t 37,.t 38],ar 40 39,db 41 (oT 7 9) 40,jI 42 1 40,db 43 (.bW 261 [.t 41,.t 42]) 40,iA 44 40 43,ar 45 44,j4 46 7 3 45,lu 47 46 45,j4 48 9 3 45,lu 49 48 45,db 50 (uI .eql 47 49) 45,iA 51 45 50,ar 10 51] (kS [bg 52 7 0,bQ 53 52,bg 54 9 0,bQ 55 54,ey .eql 56 53 55,ar 57 56,l9 58 10 57,jX 59 57 58,ar 60 59,nI 61 9 2 60,pE 62 61 60,dI 63 (jb .eql 62 6) 60,l9 64 63 60,j4 65 9 6 64,lu 66 65 64,jI 67 6 64,db 68 (uI .eql 66 67) 64,dI 69 (BZ 64 68) 60,jX 70 60 69,ar 71 70,nI 72 7 2 71,pE 73 72 71,dI 74 (jb .eql 73 6) 71,l9 75 74 71,j4 76 7 1 75,lu 77 76 75,j4 78 9 1 75,lu 79 78 75,db 80 (uI .eql 77 79) 75,dI 81 (BZ 75 80) 71,l9 82 81 71,db 83 (oT 7 9) 82,db 84 (.bW 262 [.t 83]) 82,dI 85 (BZ 82 84) 71,jX 86 71 85] (kC 86 (kR [cL 87 65 5,ar 88 6,ar 89 8,cq 90 263 [.t 87,.t 88,.t 89],cM 65 5 90])))))) (kR [ar 31 8,ca .add 32 31 1,ar 8 32]))
def Jf:aG:=kS [ey .lss 21 20 19] (.seq (kE 21) (.seq (.block 1 (kS [ar 22 20,jy 23 7 18 20,cL 24 7 23,oM 7 (.alloc [zI,zI,zI,zI,zI,zI,zI]),ar 6 22,cM 7 7 24] (.seq (kS [ar 25 6,ca .add 26 25 1,ar 8 26] (.block 2 (.loop Cc))) (kS [cL 91 7 7,cq 92 264 [.t 91]] (kC 92 (kR [cL 93 65 5,ar 94 0,ar 95 1,ar 96 6,cq 97 265 [.t 93,.t 94,.t 95,.t 96],cM 65 5 97])))))) (kR [ca .add 98 20 1,ar 20 98])))
def U1:aG:=kS [oM 4 (.alloc [zI,.d (.int .u64 0),.d (.int .u64 0),.d (.int .u64 0),.d (.int .u64 0),.d (.int .u64 0),.d (.int .u64 0),.d (.int .u64 0),.d (.int .u64 0),.d (.int .u64 0),.d (.int .u64 0),.d (.int .u64 0),.d (.int .u64 0),.d (.int .u64 0),.d (.int .u64 0),.d (.int .u64 0),.d (.int .u64 0),.d (.int .u64 0),.d (.int .u64 0),.d (.int .u64 0),.d (.int .u64 0),.d (.int .u64 0),.d (.int .u64 0),.d (.int .u64 0),.d (.int .u64 0),.d (.int .u64 0),.d (.int .u64 0),.d (.int .u64 0),.d (.int .u64 0),.d (.int .u64 0),.d (.int .u64 0),.d (.int .u64 0),.d (.int .u64 0),.d (.int .u64 0),.d (.int .u64 0),.d (.int .u64 0),.d (.int .u64 0),.d (.int .u64 0),.d (.int .u64 0),.d (.int .u64 0),.d (.int .u64 0),.d (.int .u64 0),.d (.int .u64 0),.d (.int .u64 0),.d (.int .u64 0),.d (.int .u64 0),.d (.int .u64 0),.d (.int .u64 0),.d (.int .u64 0),.d (.int .u64 0),.d (.int .u64 0),.d (.int .u64 0),.d (.int .u64 0),.d (.int .u64 0),.d (.int .u64 0),.d (.int .u64 0),.d (.int .u64 0),.d (.int .u64 0),.d (.int .u64 0),.d (.int .u64 0),.d (.int .u64 0),.d (.int .u64 0),.d (.int .u64 0),.d (.int .u64 0),.d (.int .u64 0)])] (.seq (kS [ar 11 0,gz 12 11,ca .gtr 13 12 64] (kC 13 (kS [cq 14 260 [kI 0],cM 65 4 14] .ret))) (kS [ar 15 0,gz 16 15,cq 17 260 [.t 16],oM 5 (.alloc [zI,.d (.int .u64 0),.d (.int .u64 0),.d (.int .u64 0),.d (.int .u64 0),.d (.int .u64 0),.d (.int .u64 0),.d (.int .u64 0),.d (.int .u64 0),.d (.int .u64 0),.d (.int .u64 0),.d (.int .u64 0),.d (.int .u64 0),.d (.int .u64 0),.d (.int .u64 0),.d (.int .u64 0),.d (.int .u64 0),.d (.int .u64 0),.d (.int .u64 0),.d (.int .u64 0),.d (.int .u64 0),.d (.int .u64 0),.d (.int .u64 0),.d (.int .u64 0),.d (.int .u64 0),.d (.int .u64 0),.d (.int .u64 0),.d (.int .u64 0),.d (.int .u64 0),.d (.int .u64 0),.d (.int .u64 0),.d (.int .u64 0),.d (.int .u64 0),.d (.int .u64 0),.d (.int .u64 0),.d (.int .u64 0),.d (.int .u64 0),.d (.int .u64 0),.d (.int .u64 0),.d (.int .u64 0),.d (.int .u64 0),.d (.int .u64 0),.d (.int .u64 0),.d (.int .u64 0),.d (.int .u64 0),.d (.int .u64 0),.d (.int .u64 0),.d (.int .u64 0),.d (.int .u64 0),.d (.int .u64 0),.d (.int .u64 0),.d (.int .u64 0),.d (.int .u64 0),.d (.int .u64 0),.d (.int .u64 0),.d (.int .u64 0),.d (.int .u64 0),.d (.int .u64 0),.d (.int .u64 0),.d (.int .u64 0),.d (.int .u64 0),.d (.int .u64 0),.d (.int .u64 0),.d (.int .u64 0),.d (.int .u64 0)]),cM 65 5 17] (.seq (kS [ar 18 0,gz 19 18,bw 20 (kI 0)] (mF Jf)) (kS [cL 99 65 5,cq 100 266 [.t 99],cM 65 4 100] .ret))))
theorem O1:di f209=some U1:=by kernel_rfl
def Cd:aG:=kS [ey .lss 20 19 18] (.seq (.cond (.t 20) .skip (.exit 2)) (.seq (.block 3 (kS [ar 21 19,ar 10 21] (kD [cL 22 65 3,ar 23 10,ar 24 9,cq 25 269 [.t 22,.t 23,.t 24],ar 26 25,db 27 (oT 65 3) 26,jI 28 10 26,db 29 (.bW 270 [.t 27,.t 28]) 26,db 30 (oT 65 8) 26,jI 31 9 26,db 32 (.bW 270 [.t 30,.t 31]) 26,db 33 (uI .and 29 32) 26,db 34 (.bin .eql (.t 33) (.c (.d (.int .u64 0)))) 26,iA 35 26 34,ar 36 35,jI 37 1 36,jI 38 10 36,db 39 (Yi 7 37 38) 36,db 40 (oT 7 39) 36,jI 41 1 36,jI 42 9 36,db 43 (Yi 7 41 42) 36,db 44 (oT 7 43) 36,jI 45 2 36,db 46 (.bW 271 [.t 40,.t 44,.t 45]) 36,iA 47 36 46] [0,0,0,7,8,16,16,112,16,16,912,1168,2064,4112,9216,16384,16384,114688,147456,16384,16384,1589248,2113536,16384,12861440,16793600] (kC 47 (kR [ar 48 7,ar 49 10,ar 50 9,oM 51 (.build [zI,zI] [(0,1,.t 49),(1,1,.t 50)]),oM 52 (.dp 2 1 [zI,zI] [(0,2,.t 51)]),oM 53 (.app 2 16 288 (.t 48) (.t 52)),ar 7 53]))))) (kR [ca .add 54 19 1,ar 19 54])))
def Jg:aG:=kS [ey .lss 16 15 14] (.seq (kE 16) (.seq (.block 1 (kS [ar 17 15,ar 9 17] (kS [ar 18 9,bw 19 (kI 0)] (.block 2 (.loop Cd))))) (kR [ca .add 55 15 1,ar 15 55])))
def U2:aG:=kS [oM 3 (cw 0),bw 6 (.c zN)] (kS [bw 7 (.c zN)] (kS [cL 11 65 3,cq 12 267 [.t 11],oM 8 (.alloc [zI,.d (.int .u64 0),.d (.int .u64 0),.d (.int .u64 0),.d (.int .u64 0),.d (.int .u64 0),.d (.int .u64 0),.d (.int .u64 0),.d (.int .u64 0),.d (.int .u64 0),.d (.int .u64 0),.d (.int .u64 0),.d (.int .u64 0),.d (.int .u64 0),.d (.int .u64 0),.d (.int .u64 0),.d (.int .u64 0),.d (.int .u64 0),.d (.int .u64 0),.d (.int .u64 0),.d (.int .u64 0),.d (.int .u64 0),.d (.int .u64 0),.d (.int .u64 0),.d (.int .u64 0),.d (.int .u64 0),.d (.int .u64 0),.d (.int .u64 0),.d (.int .u64 0),.d (.int .u64 0),.d (.int .u64 0),.d (.int .u64 0),.d (.int .u64 0),.d (.int .u64 0),.d (.int .u64 0),.d (.int .u64 0),.d (.int .u64 0),.d (.int .u64 0),.d (.int .u64 0),.d (.int .u64 0),.d (.int .u64 0),.d (.int .u64 0),.d (.int .u64 0),.d (.int .u64 0),.d (.int .u64 0),.d (.int .u64 0),.d (.int .u64 0),.d (.int .u64 0),.d (.int .u64 0),.d (.int .u64 0),.d (.int .u64 0),.d (.int .u64 0),.d (.int .u64 0),.d (.int .u64 0),.d (.int .u64 0),.d (.int .u64 0),.d (.int .u64 0),.d (.int .u64 0),.d (.int .u64 0),.d (.int .u64 0),.d (.int .u64 0),.d (.int .u64 0),.d (.int .u64 0),.d (.int .u64 0),.d (.int .u64 0)]),cM 65 8 12] (.seq (kS [cL 13 65 3,cq 14 268 [.t 13],bw 15 (kI 0)] (mF Jg)) (kS [ar 56 7,ar 6 56] .ret))))
theorem O2:di f210=some U2:=by kernel_rfl
def Jh:aG:=kS [ey .lss 21 20 19] (.seq (kE 21) (.seq (.block 1 (kS [ar 22 20,jy 23 7 18 20,cL 24 7 23,oM 10 (.alloc [zI,zI,zI,zI,zI,zI,zI]),ar 9 22,cM 7 10 24] (kS [ar 25 8,bg 26 10 0,bQ 27 26,oM 28 (.dp 1 1 [zI] [(0,1,.t 27)]),oM 29 (.app 1 8 3 (.t 25) (.t 28)),ar 8 29] (kS [ar 30 9,ar 31 2,ey .gtr 32 30 31,ar 33 32,jI 34 9 33,jI 35 0 33,db 36 (NA 35) 33,j4 37 36 3 33,lu 38 37 33,db 39 (nj 38) 33,db 40 (jb .sub 39 1) 33,db 41 (uI .eql 34 40) 33,jI 42 41 33,dI 43 (oT 65 4) 42,l9 44 2 42,l9 45 9 42,dI 46 (.bW 269 [.t 43,.t 44,.t 45]) 42,dI 47 (jj 46) 42,db 48 (Nz 42 47) 33,iA 49 33 48] (kC 49 (kR [ar 50 7,ar 51 9,cq 52 132 [.t 50,.t 51],ar 7 52])))))) (kR [ca .add 53 20 1,ar 20 53])))
def Ji:aG:=kS [ey .lss 62 61 60] (.seq (.cond (.t 62) .skip (.exit 2)) (.seq (.block 3 (kS [jy 63 1 59 61,bQ 64 63,ar 14 64] (kS [cL 65 65 12,ar 66 14,cq 67 270 [.t 65,.t 66],oM 68 (.bin .eql (.t 67) (.c (.d (.int .u64 0))))] (kC 68 (kR [ar 69 11,ar 70 8,ar 71 14,jy 72 1 70 71,bQ 73 72,cq 74 132 [.t 69,.t 73],ar 11 74]))))) (kR [ca .add 75 61 1,ar 61 75])))
def U3:aG:=kS [oM 4 (cw 1),bw 6 (.c (.d (.int .u64 0)))] (kS [bw 7 (.c (.d (.int .u64 0)))] (kS [bw 8 (.c zN)] (.seq (kS [ar 15 0,fP 16 15,bg 17 16 3,bQ 18 17,gz 19 18,bw 20 (kI 0)] (mF Jh)) (kS [bw 11 (.c (.d (.int .u64 0)))] (kS [cL 54 65 4,ar 55 7,cq 56 272 [.t 54,.t 55],cq 57 267 [.t 56],oM 12 (.alloc [zI,.d (.int .u64 0),.d (.int .u64 0),.d (.int .u64 0),.d (.int .u64 0),.d (.int .u64 0),.d (.int .u64 0),.d (.int .u64 0),.d (.int .u64 0),.d (.int .u64 0),.d (.int .u64 0),.d (.int .u64 0),.d (.int .u64 0),.d (.int .u64 0),.d (.int .u64 0),.d (.int .u64 0),.d (.int .u64 0),.d (.int .u64 0),.d (.int .u64 0),.d (.int .u64 0),.d (.int .u64 0),.d (.int .u64 0),.d (.int .u64 0),.d (.int .u64 0),.d (.int .u64 0),.d (.int .u64 0),.d (.int .u64 0),.d (.int .u64 0),.d (.int .u64 0),.d (.int .u64 0),.d (.int .u64 0),.d (.int .u64 0),.d (.int .u64 0),.d (.int .u64 0),.d (.int .u64 0),.d (.int .u64 0),.d (.int .u64 0),.d (.int .u64 0),.d (.int .u64 0),.d (.int .u64 0),.d (.int .u64 0),.d (.int .u64 0),.d (.int .u64 0),.d (.int .u64 0),.d (.int .u64 0),.d (.int .u64 0),.d (.int .u64 0),.d (.int .u64 0),.d (.int .u64 0),.d (.int .u64 0),.d (.int .u64 0),.d (.int .u64 0),.d (.int .u64 0),.d (.int .u64 0),.d (.int .u64 0),.d (.int .u64 0),.d (.int .u64 0),.d (.int .u64 0),.d (.int .u64 0),.d (.int .u64 0),.d (.int .u64 0),.d (.int .u64 0),.d (.int .u64 0),.d (.int .u64 0),.d (.int .u64 0)]),cM 65 12 57] (.seq (kS [ar 58 7,cq 59 204 [.t 58],gz 60 59,bw 61 (kI 0)] (.block 2 (.loop Ji))) (kS [ar 76 11,ar 6 76] .ret)))))))
theorem O3:di f211=some U3:=by kernel_rfl
def U4:aG:=kS [bw 4 fA] (kS [ar 5 1,oM 6 (.bin .eql (.t 5) (.c (.d (.int .u64 0)))),ar 7 6,l9 8 0 7,l9 9 1 7,dI 10 (uI .and 8 9) 7,dI 11 (.bin .neq (.t 10) (.c (.d (.int .u64 0)))) 7,jX 12 7 11,ar 4 12] .ret)
theorem O4:di f212=some U4:=by kernel_rfl
def Jj:aG:=kS [ey .lss 12 11 10] (.seq (kE 12) (.seq (.block 1 (kS [ar 13 11,jy 14 1 9 11,bQ 15 14,ar 5 13,ar 6 15] (.seq (kS [ar 16 5,ar 17 1,gz 18 17,ey .geq 19 16 18] (kC 19 (kS [bw 4 (kI 1)] .ret))) (kS [ar 20 1,ar 21 5,jy 22 1 20 21,bQ 23 22,ar 7 23] (kS [ar 24 6,ar 25 7,cq 26 290 [.t 24,.t 25],ar 8 26] (kS [ar 27 8,ca .neq 28 27 0] (kC 28 (kS [ar 29 8,ar 4 29] .ret)))))))) (kR [ca .add 30 11 1,ar 11 30])))
def U5:aG:=kS [bw 4 (kI 0)] (.seq (kS [ar 9 0,gz 10 9,bw 11 (kI 0)] (mF Jj)) (.seq (kS [ar 31 0,gz 32 31,ar 33 1,gz 34 33,ey .lss 35 32 34] (kC 35 (kS [bw 4 (kI (-1))] .ret))) (kS [bw 4 (kI 0)] .ret)))
theorem O5:di f229=some U5:=by kernel_rfl
def Jk:aG:=kS [ey .lss 9 8 7] (.seq (kE 9) (.seq (.block 1 (kS [jy 10 1 6 8,bQ 11 10,ar 5 11] (kS [ar 12 5,ar 13 3,ey .neq 14 12 13] (kC 14 (kS [ar 15 5,ar 2 15] .ret))))) (kR [ca .add 16 8 1,ar 8 16])))
def U6:aG:=kS [bw 2 (kI 0)] (kS [bw 3 (kI 0)] (.seq (kS [ar 6 0,gz 7 6,bw 8 (kI 0)] (mF Jk)) (kS [ar 17 3,ar 2 17] .ret)))
theorem O6:di f230=some U6:=by kernel_rfl
def U7:aG:=kS [oM 3 (cw 0),oM 5 (cw 2),oM 6 (.alloc [zI,zI,zI,zI,zI,zI,zI,zI,zI]),bw 7 fA] (kS [cL 10 3 3,ar 11 1,cq 12 197 [.t 10,.t 11],ar 8 12] (.seq (kS [bg 13 5 0,bQ 14 13,ca .lss 15 14 0,ar 16 15,nI 17 5 0 16,pE 18 17 16,l9 19 8 16,dI 20 (nj 19) 16,dI 21 (uI .geq 18 20) 16,jX 22 16 21] (kC 22 (kS [oM 23 (.build [zI,zI,zI,zI,zI,zI,zI,zI,zI] []),cM 9 6 23,bw 7 fA] .ret))) (kS [ar 24 8,bg 25 5 0,bQ 26 25,jy 27 9 24 26,cL 28 9 27,oM 9 (.alloc [zI,zI,zI,zI,zI,zI,zI,zI,zI]),cM 9 9 28] (.seq (kS [bg 29 9 0,bQ 30 29,ca .lss 31 30 1,ar 32 31,nI 33 9 0 32,pE 34 33 32,dI 35 (jb .gtr 34 4) 32,jX 36 32 35] (kC 36 (kS [oM 37 (.build [zI,zI,zI,zI,zI,zI,zI,zI,zI] []),cM 9 6 37,bw 7 fA] .ret))) (kS [cL 38 9 9,cM 9 6 38,bw 7 sd] .ret)))))
theorem O7:di f243=some U7:=by kernel_rfl
def U8:aG:=kS [oM 1 (cw 0),bw 2 fA] (kS [bg 3 1 1,bQ 4 3,ca .eql 5 4 0,ar 2 5] .ret)
theorem O8:di f244=some U8:=by kernel_rfl
def U9:aG:=kS [oM 2 (cw 0),bw 4 (kI 0),bw 5 (kI 0),bw 6 (kI 0),bw 7 fA] (kS [cL 9 74 2,ar 10 1,cq 11 308 [.t 9,.t 10],ar 8 11] (.seq (kS [ar 12 8,ca .lss 13 12 0] (kC 13 (kS [bw 4 (kI 0),bw 5 (kI 0),bw 6 (kI 0),bw 7 fA] .ret))) (kD [ar 14 8,bg 15 2 2,oM 16 (.bS 3 (some 24) (.t 15) (.t 14)),bg 17 16 0,bQ 18 17,ar 19 8,bg 20 2 2,oM 21 (.bS 3 (some 24) (.t 20) (.t 19)),bg 22 21 1,bQ 23 22,ar 24 8,bg 25 2 2,oM 26 (.bS 3 (some 24) (.t 25) (.t 24)),bg 27 26 2,bQ 28 27,ar 4 18,ar 5 23,ar 6 28,bw 7 sd] [0,0,3,4,8,0,0,96,128,256,0,0,3072,4096,8192,31,33791,131071,262143] .ret)))
theorem O9:di f245=some U9:=by kernel_rfl
def Va:aG:=kS [oM 2 (cw 0),oM 3 (cw 1),bw 4 (kI 0)] (.seq (kS [bg 5 2 0,bQ 6 5,ca .geq 7 6 0,ar 8 7,j4 9 2 0 8,lu 10 9 8,db 11 (jb .lss 10 4) 8,iA 12 8 11] (kC 12 (kS [bg 13 2 0,bQ 14 13,bg 15 3 1,oM 16 (.bS 1 (some 4) (.t 15) (.t 14)),bQ 17 16,ar 4 17] .ret))) (kS [bg 18 2 1,bQ 19 18,ar 4 19] .ret))
theorem Pa:di f248=some Va:=by kernel_rfl
def Vb:aG:=kS [ar 6 1,ca .geq 7 6 0,ar 8 7,jI 9 1 8,db 10 (jb .lss 9 4) 8,iA 11 8 10] (kC 11 (kR [ar 12 0,ar 13 1,ar 14 2,fP 15 12,bg 16 15 1,oM 17 (.bS 1 (some 4) (.t 16) (.t 13)),cM 1 17 14]))
theorem Pb:di f250=some Vb:=by kernel_rfl
def Jl:aG:=.seq (kS [ar 11 7,ca .geq 12 11 0] (kE 12)) (.seq (.block 1 (kS [ar 15 7,bg 16 2 2,oM 17 (.bS 3 (some 24) (.t 16) (.t 15)),bg 18 17 0,bQ 19 18,ar 20 1,ey .eql 21 19 20] (kC 21 (kD [ar 22 7,bg 23 2 2,oM 24 (.bS 3 (some 24) (.t 23) (.t 22)),bg 25 24 1,bQ 26 25,ar 27 7,bg 28 2 2,oM 29 (.bS 3 (some 24) (.t 28) (.t 27)),bg 30 29 2,bQ 31 30,ar 4 26,ar 5 31,bw 6 sd] [0,0,3,4,8,0,0,96,128,256,31,2047,4095] .ret)))) (kR [ar 13 7,ca .sub 14 13 1,ar 7 14]))
def Vc:aG:=kS [oM 2 (cw 0),bw 4 (kI 0),bw 5 (kI 0),bw 6 fA] (.seq (kS [bg 8 2 1,bQ 9 8,ca .sub 10 9 1,ar 7 10] (mF Jl)) (kS [bw 4 (kI 0),bw 5 (kI 0),bw 6 fA] .ret))
theorem Pc:di f251=some Vc:=by kernel_rfl
def Vd:aG:=kS [oM 3 (cw 0),oM 4 (cw 1),oM 6 (.alloc [zI,zI,zI,zI,zI,zI]),bw 7 fA] (.seq (kS [bg 8 3 0,bQ 9 8] (.block 0 (kS [ca .eql 11 9 1,ar 10 11] (.cond (.t 10) (kD [bg 12 3 2,bQ 13 12,bg 14 3 3,cL 15 2 14,cL 16 5 4,cq 17 248 [.t 15,.t 16],oM 18 (.build [zI,zI,zI,zI,zI,zI] [(2,1,kI 2),(3,1,.t 13),(5,1,.t 17)]),cM 6 6 18,bw 7 fA] [0,1,0,4,0,24,34,127,255] .ret) (kS [ca .eql 20 9 2,ar 19 20] (.cond (.t 19) (kS [bg 21 3 2,bQ 22 21,ar 23 2,oM 24 (.build [zI,zI,zI,zI,zI,zI] [(2,1,kI 1),(3,1,.t 22),(4,1,.t 23)]),cM 6 6 24,bw 7 sd] .ret) (kS [ca .eql 26 9 4,ar 25 26] (kC 25 (.seq (kS [bg 27 3 3,cL 28 2 27,cL 29 5 4,cq 30 248 [.t 28,.t 29],ar 31 2,ey .eql 32 30 31] (kC 32 (kD [bg 33 3 2,bQ 34 33,ar 35 2,bg 36 3 6,cL 37 2 36,cL 38 5 4,cq 39 248 [.t 37,.t 38],oM 40 (.build [zI,zI,zI,zI,zI,zI] [(2,1,kI 4),(3,1,.t 34),(4,1,.t 35),(5,1,.t 39)]),cM 6 6 40,bw 7 sd] [0,1,0,0,8,0,48,70,255,511] .ret))) (kS [bg 41 3 2,bQ 42 41,ar 43 2,oM 44 (.build [zI,zI,zI,zI,zI,zI] [(2,1,kI 5),(3,1,.t 42),(4,1,.t 43)]),cM 6 6 44,bw 7 sd] .ret)))))))))) (kS [oM 45 (.build [zI,zI,zI,zI,zI,zI] [(2,1,kI 3)]),cM 6 6 45,bw 7 fA] .ret))
theorem Pd:di f252=some Vd:=by kernel_rfl
def Ve:aG:=kS [oM 4 (cw 0),oM 8 (.alloc [zI,zI,zI,zI,zI,zI,zI,zI,zI,zI,zI,zI,zI,zI,zI,zI,zI,zI,zI,zI,zI,zI,zI,zI,zI,zI,zI,zI,zI,zI,zI,zI,zI,zI,zI,zI,zI,zI,zI,zI,zI,zI,zI,zI,zI,zI,zI,zI,zI,zI,zI,zI,zI,zI,zI,zI,zI,zI,zI,zI,zI,zI,zI,zI,zI,zI,zI,zI,zI,zI,zI,zI,zI,zI])] (.seq (kS [bg 9 4 0,bQ 10 9,ca .eql 11 10 0,ar 12 11,l9 13 1 12,dI 14 (jb .lss 13 0) 12,jX 15 12 14,ar 16 15,l9 17 1 16,dI 18 (jb .geq 17 4) 16,jX 19 16 18,ar 20 19,nI 21 4 1 20,pE 22 21 20,dI 23 (jb .geq 22 24) 20,jX 24 20 23] (kC 24 (kS [cL 25 74 4,cM 74 8 25] .ret))) (kS [bg 26 4 1,bQ 27 26,ar 28 1,ar 29 2,ar 30 3,oM 31 (.build [zI,zI,zI] [(0,1,.t 28),(1,1,.t 29),(2,1,.t 30)]),bg 32 4 2,oM 33 (.bS 3 (some 24) (.t 32) (.t 27)),cM 3 33 31] (kS [bg 34 4 1,bQ 35 34,ca .add 36 35 1,bg 37 4 1,cM 1 37 36] (kS [cL 38 74 4,cM 74 8 38] .ret))))
theorem Pe:di f253=some Ve:=by kernel_rfl
def Vf:aG:=kS [oM 1 (cw 0),bw 2 fA] (kS [bg 3 1 2,bQ 4 3,ca .eql 5 4 2,ar 6 5,nI 7 1 2 6,pE 8 7 6,dI 9 (jb .eql 8 4) 6,jX 10 6 9,ar 2 10] .ret)
theorem Pf:di f254=some Vf:=by kernel_rfl
def Vg:aG:=kS [oM 4 (cw 0),oM 6 (cw 2),oM 8 (.alloc [zI,zI,zI,zI,zI])] (kS [cL 12 3 4,ar 13 1,cL 14 5 6,cq 15 243 [.t 12,.t 13,.t 14],ar 11 15,iN 16 11 0,iN 17 11 1,oM 9 (.alloc [zI,zI,zI,zI,zI,zI,zI,zI,zI]),cM 9 9 16,ar 10 17] (.seq (kS [ar 18 10,oM 19 (jj 18)] (kC 19 (kS [cL 20 5 6,cM 5 8 20] .ret))) (.seq (kS [bg 21 9 0,bQ 22 21,ca .eql 23 22 2,ar 24 23,nI 25 9 0 24,pE 26 25 24,dI 27 (jb .eql 26 4) 24,jX 28 24 27] (kC 28 (kR [bg 29 9 1,bQ 30 29,ar 31 3,cq 32 250 [.t 6,.t 30,.t 31]]))) (kS [bg 33 6 0,bQ 34 33,ca .add 35 34 1,bg 36 6 0,cM 1 36 35] (kD [cL 37 3 4,ar 38 1,cq 39 197 [.t 37,.t 38],cL 40 5 6,cq 41 196 [.t 39,.t 40],cM 5 8 41] [0,0,3,0,12,31] .ret)))))
theorem Pg:di f255=some Vg:=by kernel_rfl
def Vh:aG:=kS [oM 2 (cw 0),oM 4 (.alloc [zI,zI,zI,zI,zI,zI,zI,zI,zI,zI,zI,zI,zI,zI,zI,zI,zI,zI,zI,zI,zI,zI,zI,zI,zI,zI,zI,zI,zI,zI,zI,zI,zI,zI,zI,zI,zI,zI,zI,zI,zI,zI,zI,zI,zI,zI,zI,zI,zI,zI,zI,zI,zI,zI,zI,zI,zI,zI,zI,zI,zI,zI,zI,zI,zI,zI,zI,zI,zI,zI,zI,zI,zI,zI])] (kS [cL 6 74 2,ar 7 1,cq 8 308 [.t 6,.t 7],ar 5 8] (.seq (kS [ar 9 5,ca .lss 10 9 0] (kC 10 (kS [cL 11 74 2,cM 74 4 11] .ret))) (kD [bg 12 2 2,ar 13 5,oM 14 (.iW (.xw 24 3) [.t 12,.t 13,kI 24]),bg 15 2 2,ar 16 5,ca .add 17 16 1,oM 18 (.iW (.xw 24 3) [.t 15,.t 17,kI 24]),oM 19 (.iW (.An 3) [.t 14,.t 18])] [0,0,3,0,0,16,40,68] (kS [bg 20 2 1,bQ 21 20,ca .sub 22 21 1,bg 23 2 1,cM 1 23 22] (kS [bg 24 2 1,bQ 25 24,oM 26 (.build [zI,zI,zI] []),bg 27 2 2,oM 28 (.bS 3 (some 24) (.t 27) (.t 25)),cM 3 28 26] (kS [cL 29 74 2,cM 74 4 29] .ret))))))
theorem Ph:di f256=some Vh:=by kernel_rfl
def Vi:aG:=kS [oM 2 (cw 0),bw 3 fA] (kS [bg 4 2 2,bQ 5 4,ca .eql 6 5 1,ar 7 6,lu 8 1 7,j4 9 2 1 7,lu 10 9 7,db 11 (.bW 258 [.t 8,.t 10]) 7,iA 12 7 11,ar 3 12] .ret)
theorem Pj:di f257=some Vi:=by kernel_rfl
def Vj:aG:=kS [bw 4 fA] (.seq (kS [ar 10 1,ca .lss 11 10 0,ar 12 11,l9 13 1 12,dI 14 (jb .geq 13 4) 12,jX 15 12 14] (kC 15 (kS [bw 4 fA] .ret))) (kD [ar 17 0,fP 18 17,bg 19 18 0,cL 20 3 19,ar 21 1,ar 22 0,ar 23 1,fP 24 22,bg 25 24 4,oM 26 (.bS 5 (some 4) (.t 25) (.t 23)),cL 27 5 26,cq 28 243 [.t 20,.t 21,.t 27],ar 16 28,iN 29 16 0,iN 30 16 1,oM 5 (.alloc [zI,zI,zI,zI,zI,zI,zI,zI,zI]),cM 9 5 29,ar 6 30] [0,1,2,4,0,0,0,32,128,320,512,1048,2048,4096,4096,0,49151,131071] (.seq (kS [ar 31 6,oM 32 (jj 31),ar 33 32,nI 34 5 0 33,pE 35 34 33,dI 36 (jb .neq 35 2) 33,jX 37 33 36] (kC 37 (kS [bw 4 fA] .ret))) (kD [ar 39 0,ar 40 1,fP 41 39,bg 42 41 32,oM 43 (.bS 74 (some 4) (.t 42) (.t 40)),cL 44 74 43,bg 45 5 2,bQ 46 45,cq 47 251 [.t 44,.t 46],ar 38 47,iN 48 38 0,iN 49 38 1,iN 50 38 2,ar 7 48,ar 8 49,ar 9 50] [0,0,1,4,10,16,0,64,160,256,512,512,512,2047,12287,32767] (kS [ar 51 9,ar 4 51] .ret)))))
theorem Pk:di f258=some Vj:=by kernel_rfl
def Vk:aG:=kS [oM 3 (cw 0),oM 4 (cw 1),bw 6 fA] (.seq (kS [bg 7 3 0,bQ 8 7,bg 9 4 0,bQ 10 9,ey .eql 11 8 10] (kC 11 (kS [bw 6 sd] .ret))) (.seq (kS [bg 12 3 1,bQ 13 12,bg 14 4 1,bQ 15 14,ey .eql 16 13 15] (kC 16 (kS [bg 17 3 2,bQ 18 17,ca .eql 19 18 6,ar 20 19,db 21 (oT 7 4) 20,db 22 (.bW 262 [.t 21]) 20,iA 23 20 22,ar 24 23,nI 25 4 2 24,pE 26 25 24,dI 27 (jb .eql 26 6) 24,l9 28 27 24,db 29 (oT 7 3) 28,db 30 (.bW 262 [.t 29]) 28,dI 31 (BZ 28 30) 24,jX 32 24 31,ar 6 32] .ret))) (kS [cL 33 7 3,ar 34 2,cq 35 310 [.t 33,.t 34],ar 36 35,db 37 (oT 7 4) 36,jI 38 2 36,db 39 (.bW 310 [.t 37,.t 38]) 36,iA 40 36 39,ar 41 40,j4 42 3 3 41,lu 43 42 41,j4 44 4 3 41,lu 45 44 41,db 46 (uI .eql 43 45) 41,iA 47 41 46,ar 48 47,db 49 (oT 7 3) 48,jI 50 2 48,db 51 (.bW 261 [.t 49,.t 50]) 48,jI 52 51 48,dI 53 (oT 7 4) 52,l9 54 2 52,dI 55 (.bW 261 [.t 53,.t 54]) 52,db 56 (Nz 52 55) 48,iA 57 48 56,ar 6 57] .ret)))
theorem Pl:di f259=some Vk:=by kernel_rfl
def Vl:aG:=kS [oM 2 (.alloc [zI,.d (.int .u64 0),.d (.int .u64 0),.d (.int .u64 0),.d (.int .u64 0),.d (.int .u64 0),.d (.int .u64 0),.d (.int .u64 0),.d (.int .u64 0),.d (.int .u64 0),.d (.int .u64 0),.d (.int .u64 0),.d (.int .u64 0),.d (.int .u64 0),.d (.int .u64 0),.d (.int .u64 0),.d (.int .u64 0),.d (.int .u64 0),.d (.int .u64 0),.d (.int .u64 0),.d (.int .u64 0),.d (.int .u64 0),.d (.int .u64 0),.d (.int .u64 0),.d (.int .u64 0),.d (.int .u64 0),.d (.int .u64 0),.d (.int .u64 0),.d (.int .u64 0),.d (.int .u64 0),.d (.int .u64 0),.d (.int .u64 0),.d (.int .u64 0),.d (.int .u64 0),.d (.int .u64 0),.d (.int .u64 0),.d (.int .u64 0),.d (.int .u64 0),.d (.int .u64 0),.d (.int .u64 0),.d (.int .u64 0),.d (.int .u64 0),.d (.int .u64 0),.d (.int .u64 0),.d (.int .u64 0),.d (.int .u64 0),.d (.int .u64 0),.d (.int .u64 0),.d (.int .u64 0),.d (.int .u64 0),.d (.int .u64 0),.d (.int .u64 0),.d (.int .u64 0),.d (.int .u64 0),.d (.int .u64 0),.d (.int .u64 0),.d (.int .u64 0),.d (.int .u64 0),.d (.int .u64 0),.d (.int .u64 0),.d (.int .u64 0),.d (.int .u64 0),.d (.int .u64 0),.d (.int .u64 0),.d (.int .u64 0)])] (kS [ar 3 0,oM 4 (.uv (.t 3) (kI 0)),oM 5 (.uu (.t 4) (kI 64)),oM 6 (.build [zI,.d (.int .u64 0),.d (.int .u64 0),.d (.int .u64 0),.d (.int .u64 0),.d (.int .u64 0),.d (.int .u64 0),.d (.int .u64 0),.d (.int .u64 0),.d (.int .u64 0),.d (.int .u64 0),.d (.int .u64 0),.d (.int .u64 0),.d (.int .u64 0),.d (.int .u64 0),.d (.int .u64 0),.d (.int .u64 0),.d (.int .u64 0),.d (.int .u64 0),.d (.int .u64 0),.d (.int .u64 0),.d (.int .u64 0),.d (.int .u64 0),.d (.int .u64 0),.d (.int .u64 0),.d (.int .u64 0),.d (.int .u64 0),.d (.int .u64 0),.d (.int .u64 0),.d (.int .u64 0),.d (.int .u64 0),.d (.int .u64 0),.d (.int .u64 0),.d (.int .u64 0),.d (.int .u64 0),.d (.int .u64 0),.d (.int .u64 0),.d (.int .u64 0),.d (.int .u64 0),.d (.int .u64 0),.d (.int .u64 0),.d (.int .u64 0),.d (.int .u64 0),.d (.int .u64 0),.d (.int .u64 0),.d (.int .u64 0),.d (.int .u64 0),.d (.int .u64 0),.d (.int .u64 0),.d (.int .u64 0),.d (.int .u64 0),.d (.int .u64 0),.d (.int .u64 0),.d (.int .u64 0),.d (.int .u64 0),.d (.int .u64 0),.d (.int .u64 0),.d (.int .u64 0),.d (.int .u64 0),.d (.int .u64 0),.d (.int .u64 0),.d (.int .u64 0),.d (.int .u64 0),.d (.int .u64 0),.d (.int .u64 0)] [(0,1,.t 5)]),cM 65 2 6] .ret)
theorem Pm:di f260=some Vl:=by kernel_rfl
def Vn:aG:=kS [oM 2 (cw 0),bw 4 fA] (kS [bg 5 2 2,bQ 6 5,ca .eql 7 6 6,ar 8 7,nI 9 2 2 8,pE 10 9 8,dI 11 (jb .eql 10 4) 8,jX 12 8 11,ar 13 12,l9 14 1 13,dI 15 (jb .eql 14 1) 13,l9 16 15 13,j4 17 2 2 16,lu 18 17 16,db 19 (jb .eql 18 2) 16,dI 20 (BZ 16 19) 13,jX 21 13 20,ar 4 21] .ret)
theorem Pn:di f261=some Vn:=by kernel_rfl
def Vo:aG:=kS [oM 1 (cw 0),bw 2 fA] (kS [bg 3 1 2,bQ 4 3,ca .eql 5 4 3,ar 6 5,nI 7 1 2 6,pE 8 7 6,dI 9 (jb .eql 8 4) 6,jX 10 6 9,ar 11 10,nI 12 1 2 11,pE 13 12 11,dI 14 (jb .eql 13 5) 11,jX 15 11 14,ar 2 15] .ret)
theorem Po:di f262=some Vo:=by kernel_rfl
def Vp:aG:=kS [oM 3 (cw 0),oM 6 (.alloc [zI,.d (.int .u64 0),.d (.int .u64 0),.d (.int .u64 0),.d (.int .u64 0),.d (.int .u64 0),.d (.int .u64 0),.d (.int .u64 0),.d (.int .u64 0),.d (.int .u64 0),.d (.int .u64 0),.d (.int .u64 0),.d (.int .u64 0),.d (.int .u64 0),.d (.int .u64 0),.d (.int .u64 0),.d (.int .u64 0),.d (.int .u64 0),.d (.int .u64 0),.d (.int .u64 0),.d (.int .u64 0),.d (.int .u64 0),.d (.int .u64 0),.d (.int .u64 0),.d (.int .u64 0),.d (.int .u64 0),.d (.int .u64 0),.d (.int .u64 0),.d (.int .u64 0),.d (.int .u64 0),.d (.int .u64 0),.d (.int .u64 0),.d (.int .u64 0),.d (.int .u64 0),.d (.int .u64 0),.d (.int .u64 0),.d (.int .u64 0),.d (.int .u64 0),.d (.int .u64 0),.d (.int .u64 0),.d (.int .u64 0),.d (.int .u64 0),.d (.int .u64 0),.d (.int .u64 0),.d (.int .u64 0),.d (.int .u64 0),.d (.int .u64 0),.d (.int .u64 0),.d (.int .u64 0),.d (.int .u64 0),.d (.int .u64 0),.d (.int .u64 0),.d (.int .u64 0),.d (.int .u64 0),.d (.int .u64 0),.d (.int .u64 0),.d (.int .u64 0),.d (.int .u64 0),.d (.int .u64 0),.d (.int .u64 0),.d (.int .u64 0),.d (.int .u64 0),.d (.int .u64 0),.d (.int .u64 0),.d (.int .u64 0)])] (.seq (kS [cL 7 65 3,ar 8 1,cq 9 311 [.t 7,.t 8],ar 10 9,db 11 (oT 65 3) 10,jI 12 2 10,db 13 (.bW 311 [.t 11,.t 12]) 10,iA 14 10 13] (kC 14 (kR [ar 15 1,ar 16 1,bg 17 3 1,oM 18 (.bS 1 (some 64) (.t 17) (.t 16)),bQ 19 18,ar 20 2,cq 21 132 [.t 19,.t 20],bg 22 3 1,oM 23 (.bS 1 (some 64) (.t 22) (.t 15)),cM 1 23 21]))) (kS [cL 24 65 3,cM 65 6 24] .ret))
theorem Pp:di f263=some Vp:=by kernel_rfl
def Vq:aG:=kS [oM 1 (cw 0),bw 2 fA] (kS [bg 3 1 2,bQ 4 3,ca .eql 5 4 1,ar 6 5,nI 7 1 2 6,pE 8 7 6,dI 9 (jb .eql 8 4) 6,jX 10 6 9,ar 11 10,nI 12 1 2 11,pE 13 12 11,dI 14 (jb .eql 13 5) 11,jX 15 11 14,ar 2 15] .ret)
theorem Pq:di f264=some Vq:=by kernel_rfl
def Ce:aG:=.seq (kS [ar 49 11,ar 50 1,gz 51 50,ey .lss 52 49 51] (kE 52)) (.seq (.block 1 (kD [ar 55 11,ar 56 3,ey .neq 57 55 56,ar 58 57,jI 59 1 58,jI 60 11 58,db 61 (Yi 7 59 60) 58,db 62 (oT 7 61) 58,jI 63 2 58,db 64 (.bW 261 [.t 62,.t 63]) 58,iA 65 58 64,ar 66 65,jI 67 1 66,jI 68 11 66,db 69 (Yi 7 67 68) 66,j4 70 69 3 66,lu 71 70 66,j4 72 9 3 66,lu 73 72 66,db 74 (uI .eql 71 73) 66,iA 75 66 74] [0,0,3,4,8,8,56,72,8,392,520,1536,2048,2048,14336,18432,34816,2048,133120,329728,526336] (kC 75 (kR [cL 76 65 4,ar 77 3,ar 78 11,cq 79 263 [.t 76,.t 77,.t 78],cM 65 4 79])))) (kR [ar 53 11,ca .add 54 53 1,ar 11 54]))
def Vr:aG:=kS [oM 4 (cw 0),oM 8 (.alloc [zI,.d (.int .u64 0),.d (.int .u64 0),.d (.int .u64 0),.d (.int .u64 0),.d (.int .u64 0),.d (.int .u64 0),.d (.int .u64 0),.d (.int .u64 0),.d (.int .u64 0),.d (.int .u64 0),.d (.int .u64 0),.d (.int .u64 0),.d (.int .u64 0),.d (.int .u64 0),.d (.int .u64 0),.d (.int .u64 0),.d (.int .u64 0),.d (.int .u64 0),.d (.int .u64 0),.d (.int .u64 0),.d (.int .u64 0),.d (.int .u64 0),.d (.int .u64 0),.d (.int .u64 0),.d (.int .u64 0),.d (.int .u64 0),.d (.int .u64 0),.d (.int .u64 0),.d (.int .u64 0),.d (.int .u64 0),.d (.int .u64 0),.d (.int .u64 0),.d (.int .u64 0),.d (.int .u64 0),.d (.int .u64 0),.d (.int .u64 0),.d (.int .u64 0),.d (.int .u64 0),.d (.int .u64 0),.d (.int .u64 0),.d (.int .u64 0),.d (.int .u64 0),.d (.int .u64 0),.d (.int .u64 0),.d (.int .u64 0),.d (.int .u64 0),.d (.int .u64 0),.d (.int .u64 0),.d (.int .u64 0),.d (.int .u64 0),.d (.int .u64 0),.d (.int .u64 0),.d (.int .u64 0),.d (.int .u64 0),.d (.int .u64 0),.d (.int .u64 0),.d (.int .u64 0),.d (.int .u64 0),.d (.int .u64 0),.d (.int .u64 0),.d (.int .u64 0),.d (.int .u64 0),.d (.int .u64 0),.d (.int .u64 0)])] (kS [ar 12 1,ar 13 3,jy 14 7 12 13,cL 15 7 14,oM 9 (.alloc [zI,zI,zI,zI,zI,zI,zI]),cM 7 9 15] (kS [bw 10 (kI (-1))] (.seq (kS [bg 16 9 6,bQ 17 16,ca .geq 18 17 0,ar 19 18,j4 20 9 6 19,lu 21 20 19,jI 22 1 19,db 23 (nj 22) 19,db 24 (uI .lss 21 23) 19,iA 25 19 24] (kC 25 (.seq (kS [ar 26 1,ar 27 2,bg 28 9 6,bQ 29 28,cq 30 312 [.t 26,.t 27,.t 29],ar 10 30] (kS [ar 31 10,ca .lss 32 31 0] (kC 32 (kS [cL 33 65 4,cM 65 8 33] .ret)))) (kD [ar 34 1,bg 35 9 6,bQ 36 35,jy 37 7 34 36,bg 38 37 1,bQ 39 38,bg 40 9 1,bQ 41 40,ey .neq 42 39 41] [0,0,2,5,8,16,0,64,160] (kC 42 (kR [cL 43 65 4,ar 44 10,ar 45 3,cq 46 263 [.t 43,.t 44,.t 45],cM 65 4 46])))))) (.seq (kS [ar 47 10,ca .add 48 47 1,ar 11 48] (mF Ce)) (kS [cL 80 65 4,cM 65 8 80] .ret)))))
theorem Pr:di f265=some Vr:=by kernel_rfl
def Cf:aG:=kS [ey .lss 13 12 11] (.seq (.cond (.t 13) .skip (.exit 2)) (.seq (.block 3 (kS [ar 14 12,ar 4 14] (kS [ar 15 4,bg 16 1 1,oM 17 (.bS 1 (some 64) (.t 16) (.t 15)),bQ 18 17,ar 19 3,cq 20 201 [.t 18,.t 19]] (kC 20 (.region true [ar 21 4,bg 22 1 1,oM 23 (.bS 1 (some 64) (.t 22) (.t 21)),bQ 24 23,ar 25 3,bg 26 1 1,oM 27 (.bS 1 (some 64) (.t 26) (.t 25)),bQ 28 27,ey .or 29 24 28,bg 30 1 1,oM 31 (.bS 1 (some 64) (.t 30) (.t 21)),cM 1 31 29] [0,0,3,4,0,0,48,64,136,0,1023,1535]))))) (kR [ca .add 32 12 1,ar 12 32])))
def Jm:aG:=kS [ey .lss 8 7 6] (.seq (kE 8) (.seq (.block 1 (kS [ar 9 7,ar 3 9] (kS [bg 10 1 0,bQ 11 10,bw 12 (kI 0)] (.block 2 (.loop Cf))))) (kR [ca .add 33 7 1,ar 7 33])))
def Vs:aG:=kS [oM 1 (cw 0),oM 2 (.alloc [zI,.d (.int .u64 0),.d (.int .u64 0),.d (.int .u64 0),.d (.int .u64 0),.d (.int .u64 0),.d (.int .u64 0),.d (.int .u64 0),.d (.int .u64 0),.d (.int .u64 0),.d (.int .u64 0),.d (.int .u64 0),.d (.int .u64 0),.d (.int .u64 0),.d (.int .u64 0),.d (.int .u64 0),.d (.int .u64 0),.d (.int .u64 0),.d (.int .u64 0),.d (.int .u64 0),.d (.int .u64 0),.d (.int .u64 0),.d (.int .u64 0),.d (.int .u64 0),.d (.int .u64 0),.d (.int .u64 0),.d (.int .u64 0),.d (.int .u64 0),.d (.int .u64 0),.d (.int .u64 0),.d (.int .u64 0),.d (.int .u64 0),.d (.int .u64 0),.d (.int .u64 0),.d (.int .u64 0),.d (.int .u64 0),.d (.int .u64 0),.d (.int .u64 0),.d (.int .u64 0),.d (.int .u64 0),.d (.int .u64 0),.d (.int .u64 0),.d (.int .u64 0),.d (.int .u64 0),.d (.int .u64 0),.d (.int .u64 0),.d (.int .u64 0),.d (.int .u64 0),.d (.int .u64 0),.d (.int .u64 0),.d (.int .u64 0),.d (.int .u64 0),.d (.int .u64 0),.d (.int .u64 0),.d (.int .u64 0),.d (.int .u64 0),.d (.int .u64 0),.d (.int .u64 0),.d (.int .u64 0),.d (.int .u64 0),.d (.int .u64 0),.d (.int .u64 0),.d (.int .u64 0),.d (.int .u64 0),.d (.int .u64 0)])] (.seq (kS [bg 5 1 0,bQ 6 5,bw 7 (kI 0)] (mF Jm)) (kS [cL 34 65 1,cM 65 2 34] .ret))
theorem Ps:di f266=some Vs:=by kernel_rfl
def Cg:aG:=.seq (kS [ar 18 5,oM 19 (.bin .neq (.t 18) (.c (.d (.int .u64 0))))] (.cond (.t 19) .skip (.exit 2))) (.seq (.block 3 (kR [ar 24 5,cq 25 127 [.t 24],ar 26 5,cq 27 127 [.t 26],bg 28 3 1,oM 29 (.bS 1 (some 64) (.t 28) (.t 27)),bQ 30 29,ar 31 4,cq 32 132 [.t 30,.t 31],bg 33 3 1,oM 34 (.bS 1 (some 64) (.t 33) (.t 25)),cM 1 34 32])) (kR [ar 20 5,ar 21 5,oM 22 (.bin .sub (.t 21) (.c (.d (.int .u64 1)))),ey .and 23 20 22,ar 5 23]))
def Jn:aG:=kS [ey .lss 12 11 10] (.seq (kE 12) (.seq (.block 1 (kS [ar 13 11,ar 4 13] (kS [ar 14 4,bg 15 1 1,oM 16 (.bS 1 (some 64) (.t 15) (.t 14)),bQ 17 16,ar 5 17] (.block 2 (.loop Cg))))) (kR [ca .add 35 11 1,ar 11 35])))
def Vt:aG:=kS [oM 1 (cw 0),oM 2 (.alloc [zI,.d (.int .u64 0),.d (.int .u64 0),.d (.int .u64 0),.d (.int .u64 0),.d (.int .u64 0),.d (.int .u64 0),.d (.int .u64 0),.d (.int .u64 0),.d (.int .u64 0),.d (.int .u64 0),.d (.int .u64 0),.d (.int .u64 0),.d (.int .u64 0),.d (.int .u64 0),.d (.int .u64 0),.d (.int .u64 0),.d (.int .u64 0),.d (.int .u64 0),.d (.int .u64 0),.d (.int .u64 0),.d (.int .u64 0),.d (.int .u64 0),.d (.int .u64 0),.d (.int .u64 0),.d (.int .u64 0),.d (.int .u64 0),.d (.int .u64 0),.d (.int .u64 0),.d (.int .u64 0),.d (.int .u64 0),.d (.int .u64 0),.d (.int .u64 0),.d (.int .u64 0),.d (.int .u64 0),.d (.int .u64 0),.d (.int .u64 0),.d (.int .u64 0),.d (.int .u64 0),.d (.int .u64 0),.d (.int .u64 0),.d (.int .u64 0),.d (.int .u64 0),.d (.int .u64 0),.d (.int .u64 0),.d (.int .u64 0),.d (.int .u64 0),.d (.int .u64 0),.d (.int .u64 0),.d (.int .u64 0),.d (.int .u64 0),.d (.int .u64 0),.d (.int .u64 0),.d (.int .u64 0),.d (.int .u64 0),.d (.int .u64 0),.d (.int .u64 0),.d (.int .u64 0),.d (.int .u64 0),.d (.int .u64 0),.d (.int .u64 0),.d (.int .u64 0),.d (.int .u64 0),.d (.int .u64 0),.d (.int .u64 0)])] (kS [bg 6 1 0,bQ 7 6,cq 8 260 [.t 7],oM 3 (.alloc [zI,.d (.int .u64 0),.d (.int .u64 0),.d (.int .u64 0),.d (.int .u64 0),.d (.int .u64 0),.d (.int .u64 0),.d (.int .u64 0),.d (.int .u64 0),.d (.int .u64 0),.d (.int .u64 0),.d (.int .u64 0),.d (.int .u64 0),.d (.int .u64 0),.d (.int .u64 0),.d (.int .u64 0),.d (.int .u64 0),.d (.int .u64 0),.d (.int .u64 0),.d (.int .u64 0),.d (.int .u64 0),.d (.int .u64 0),.d (.int .u64 0),.d (.int .u64 0),.d (.int .u64 0),.d (.int .u64 0),.d (.int .u64 0),.d (.int .u64 0),.d (.int .u64 0),.d (.int .u64 0),.d (.int .u64 0),.d (.int .u64 0),.d (.int .u64 0),.d (.int .u64 0),.d (.int .u64 0),.d (.int .u64 0),.d (.int .u64 0),.d (.int .u64 0),.d (.int .u64 0),.d (.int .u64 0),.d (.int .u64 0),.d (.int .u64 0),.d (.int .u64 0),.d (.int .u64 0),.d (.int .u64 0),.d (.int .u64 0),.d (.int .u64 0),.d (.int .u64 0),.d (.int .u64 0),.d (.int .u64 0),.d (.int .u64 0),.d (.int .u64 0),.d (.int .u64 0),.d (.int .u64 0),.d (.int .u64 0),.d (.int .u64 0),.d (.int .u64 0),.d (.int .u64 0),.d (.int .u64 0),.d (.int .u64 0),.d (.int .u64 0),.d (.int .u64 0),.d (.int .u64 0),.d (.int .u64 0),.d (.int .u64 0)]),cM 65 3 8] (.seq (kS [bg 9 1 0,bQ 10 9,bw 11 (kI 0)] (mF Jn)) (kS [cL 36 65 3,cM 65 2 36] .ret)))
theorem Pt:di f267=some Vt:=by kernel_rfl
def Vu:aG:=kS [oM 1 (cw 0),bw 2 (kI 0)] (kS [bg 3 1 0,bQ 4 3,ar 2 4] .ret)
theorem Pu:di f268=some Vu:=by kernel_rfl
def Vv:aG:=kS [oM 3 (cw 0),bw 6 fA] (kS [cL 7 65 3,ar 8 1,cq 9 311 [.t 7,.t 8],ar 10 9,jI 11 1 10,j4 12 3 1 10,db 13 (.bS 1 (some 64) (.t 12) (.t 11)) 10,lu 14 13 10,jI 15 2 10,db 16 (.bW 201 [.t 14,.t 15]) 10,iA 17 10 16,ar 6 17] .ret)
theorem Pv:di f269=some Vv:=by kernel_rfl
def Vw:aG:=kS [oM 2 (cw 0),bw 4 (.c (.d (.int .u64 0)))] (.seq (kS [cL 5 65 2,ar 6 1,cq 7 311 [.t 5,.t 6],oM 8 (jj 7)] (kC 8 (kS [bw 4 (.c (.d (.int .u64 0)))] .ret))) (kS [ar 9 1,bg 10 2 1,oM 11 (.bS 1 (some 64) (.t 10) (.t 9)),bQ 12 11,ar 4 12] .ret))
theorem Pw:di f270=some Vw:=by kernel_rfl
def Vx:aG:=kS [oM 3 (cw 0),oM 4 (cw 1),bw 6 fA] (kS [bg 7 3 1,bQ 8 7,bg 9 4 1,bQ 10 9,ey .neq 11 8 10,ar 12 11,j4 13 3 3 12,lu 14 13 12,j4 15 4 3 12,lu 16 15 12,db 17 (uI .eql 14 16) 12,iA 18 12 17,ar 19 18,db 20 (oT 7 3) 19,jI 21 2 19,db 22 (.bW 261 [.t 20,.t 21]) 19,jI 23 22 19,dI 24 (oT 7 4) 23,l9 25 2 23,dI 26 (.bW 261 [.t 24,.t 25]) 23,db 27 (Nz 23 26) 19,iA 28 19 27,ar 6 28] .ret)
theorem Px:di f271=some Vx:=by kernel_rfl
def Jo:aG:=kS [ey .lss 13 12 11] (.seq (kE 13) (.seq (.block 1 (kS [ar 14 12,ar 6 14] (kS [ar 15 1,ar 16 6,cq 17 201 [.t 15,.t 16]] (kC 17 (kR [ar 18 6,ar 19 6,bg 20 2 1,oM 21 (.bS 1 (some 64) (.t 20) (.t 19)),bQ 22 21,ar 23 1,ey .and 24 22 23,bg 25 5 1,oM 26 (.bS 1 (some 64) (.t 25) (.t 18)),cM 1 26 24]))))) (kR [ca .add 27 12 1,ar 12 27])))
def Vy:aG:=kS [oM 2 (cw 0),oM 4 (.alloc [zI,.d (.int .u64 0),.d (.int .u64 0),.d (.int .u64 0),.d (.int .u64 0),.d (.int .u64 0),.d (.int .u64 0),.d (.int .u64 0),.d (.int .u64 0),.d (.int .u64 0),.d (.int .u64 0),.d (.int .u64 0),.d (.int .u64 0),.d (.int .u64 0),.d (.int .u64 0),.d (.int .u64 0),.d (.int .u64 0),.d (.int .u64 0),.d (.int .u64 0),.d (.int .u64 0),.d (.int .u64 0),.d (.int .u64 0),.d (.int .u64 0),.d (.int .u64 0),.d (.int .u64 0),.d (.int .u64 0),.d (.int .u64 0),.d (.int .u64 0),.d (.int .u64 0),.d (.int .u64 0),.d (.int .u64 0),.d (.int .u64 0),.d (.int .u64 0),.d (.int .u64 0),.d (.int .u64 0),.d (.int .u64 0),.d (.int .u64 0),.d (.int .u64 0),.d (.int .u64 0),.d (.int .u64 0),.d (.int .u64 0),.d (.int .u64 0),.d (.int .u64 0),.d (.int .u64 0),.d (.int .u64 0),.d (.int .u64 0),.d (.int .u64 0),.d (.int .u64 0),.d (.int .u64 0),.d (.int .u64 0),.d (.int .u64 0),.d (.int .u64 0),.d (.int .u64 0),.d (.int .u64 0),.d (.int .u64 0),.d (.int .u64 0),.d (.int .u64 0),.d (.int .u64 0),.d (.int .u64 0),.d (.int .u64 0),.d (.int .u64 0),.d (.int .u64 0),.d (.int .u64 0),.d (.int .u64 0),.d (.int .u64 0)])] (kS [bg 7 2 0,bQ 8 7,cq 9 260 [.t 8],oM 5 (.alloc [zI,.d (.int .u64 0),.d (.int .u64 0),.d (.int .u64 0),.d (.int .u64 0),.d (.int .u64 0),.d (.int .u64 0),.d (.int .u64 0),.d (.int .u64 0),.d (.int .u64 0),.d (.int .u64 0),.d (.int .u64 0),.d (.int .u64 0),.d (.int .u64 0),.d (.int .u64 0),.d (.int .u64 0),.d (.int .u64 0),.d (.int .u64 0),.d (.int .u64 0),.d (.int .u64 0),.d (.int .u64 0),.d (.int .u64 0),.d (.int .u64 0),.d (.int .u64 0),.d (.int .u64 0),.d (.int .u64 0),.d (.int .u64 0),.d (.int .u64 0),.d (.int .u64 0),.d (.int .u64 0),.d (.int .u64 0),.d (.int .u64 0),.d (.int .u64 0),.d (.int .u64 0),.d (.int .u64 0),.d (.int .u64 0),.d (.int .u64 0),.d (.int .u64 0),.d (.int .u64 0),.d (.int .u64 0),.d (.int .u64 0),.d (.int .u64 0),.d (.int .u64 0),.d (.int .u64 0),.d (.int .u64 0),.d (.int .u64 0),.d (.int .u64 0),.d (.int .u64 0),.d (.int .u64 0),.d (.int .u64 0),.d (.int .u64 0),.d (.int .u64 0),.d (.int .u64 0),.d (.int .u64 0),.d (.int .u64 0),.d (.int .u64 0),.d (.int .u64 0),.d (.int .u64 0),.d (.int .u64 0),.d (.int .u64 0),.d (.int .u64 0),.d (.int .u64 0),.d (.int .u64 0),.d (.int .u64 0),.d (.int .u64 0)]),cM 65 5 9] (.seq (kS [bg 10 2 0,bQ 11 10,bw 12 (kI 0)] (mF Jo)) (kS [cL 28 65 5,cM 65 4 28] .ret)))
theorem Py:di f272=some Vy:=by kernel_rfl
def Vz:aG:=kS [bw 4 (kI 0)] (kS [ar 7 0,cq 8 323 [.t 7],ar 5 8] (kS [ar 9 1,cq 10 323 [.t 9],ar 6 10] (.seq (kS [ar 11 5] (kC 11 (.seq (kS [ar 12 6] (kC 12 (kS [bw 4 (kI 0)] .ret))) (kS [bw 4 (kI (-1))] .ret)))) (.seq (kS [ar 13 6] (kC 13 (kS [bw 4 (kI 1)] .ret))) (.seq (kS [ar 14 0,ar 15 1,ey .lss 16 14 15] (kC 16 (kS [bw 4 (kI (-1))] .ret))) (.seq (kS [ar 17 0,ar 18 1,ey .gtr 19 17 18] (kC 19 (kS [bw 4 (kI 1)] .ret))) (kS [bw 4 (kI 0)] .ret)))))))
theorem Pz:di f290=some Vz:=by kernel_rfl
def Jp:aG:=kS [ey .lss 9 8 7] (.seq (kE 9) (.seq (.block 1 (kS [ar 10 8,ar 5 10] (kS [bg 11 2 0,bQ 12 11,ca .eql 13 12 2,ar 14 13,l9 15 5 14,nI 16 2 2 14,dI 17 (.bS 3 (some 24) (.t 16) (.t 15)) 14,nI 18 17 0 14,pE 19 18 14,l9 20 1 14,dI 21 (uI .eql 19 20) 14,jX 22 14 21] (kC 22 (kS [ar 23 5,ar 4 23] .ret))))) (kR [ca .add 24 8 1,ar 8 24])))
def VA:aG:=kS [oM 2 (cw 0),bw 4 (kI 0)] (.seq (kS [bg 6 2 1,bQ 7 6,bw 8 (kI 0)] (mF Jp)) (kS [bw 4 (kI (-1))] .ret))
theorem PA:di f308=some VA:=by kernel_rfl
def VB:aG:=kS [oM 2 (cw 0),bw 4 fA] (kS [cL 5 7 2,ar 6 1,cq 7 261 [.t 5,.t 6],ar 8 7,dI 9 (oT 7 2) 8,dI 10 (.bW 264 [.t 9]) 8,jX 11 8 10,ar 4 11] .ret)
theorem PB:di f310=some VB:=by kernel_rfl
def VC:aG:=kS [oM 2 (cw 0),bw 4 fA] (kS [ar 5 1,ca .geq 6 5 0,ar 7 6,jI 8 1 7,j4 9 2 0 7,lu 10 9 7,db 11 (uI .lss 8 10) 7,iA 12 7 11,ar 4 12] .ret)
theorem PC:di f311=some VC:=by kernel_rfl
def VD:aG:=kS [oM 5 (cw 2),bw 6 (kI 0)] (.seq (kS [ar 7 0,bQ 8 5,jy 9 7 7 8,cL 10 7 9,ar 11 1,cq 12 261 [.t 10,.t 11]] (kC 12 (kS [bQ 13 5,ar 6 13] .ret))) (kS [ar 14 0,oM 15 (.o7 329 [.t 5]),cq 16 328 [.t 14,.t 15],ar 6 16] .ret))
theorem PD:di f312=some VD:=by kernel_rfl
def VE:aG:=kS [bw 2 fA] (kS [ar 3 0,ar 4 0,ey .neq 5 3 4,ar 2 5] .ret)
theorem PE:di f323=some VE:=by kernel_rfl
def Sn:aG:=kS [ey .lss 9 8 7] (.seq (kE 9) (.seq (.block 1 (kS [ar 10 8,ar 5 10] (kS [ar 11 1,ar 12 0,ar 13 5,jy 14 7 12 13,cL 15 7 14,oM 16 (.fb (.t 11) [.t 15])] (kC 16 (kS [ar 17 5,ar 4 17] .ret))))) (kR [ca .add 18 8 1,ar 8 18])))
def aae:aG:=kS [bw 4 (kI 0)] (.seq (kS [ar 6 0,gz 7 6,bw 8 (kI 0)] (mF Sn)) (kS [bw 4 (kI (-1))] .ret))
theorem PF:di f328=some aae:=by kernel_rfl
def VF:aG:=kS [oM 2 (cw 0),bw 3 fA] (kS [bg 4 2 2,bQ 5 4,ca .eql 6 5 6,ar 7 6,j4 8 2 6 7,lu 9 8 7,lu 10 1 7,db 11 (uI .eql 9 10) 7,iA 12 7 11,ar 3 12] .ret)
theorem PG:di f329=some VF:=by kernel_rfl
end
section
open Go Go.Jq Go.RowKit
def Ch:Nat->Nat->Nat
 |0,_=>0
 |f+1,s=>if s%2=1 then 0 else 1+Ch f (s/2)
def EK:List Nat:=[0,1,56,2,57,49,28,3,61,58,42,50,38,29,17,4,62,47,59,36,45,43,51,22,53,39,33,30,24,18,12,5,63,55,48,27,60,41,37,16,46,35,44,21,52,32,23,11,54,26,40,15,34,20,31,10,25,14,19,9,13,8,7,6]
theorem WZ {c:Ctx} {m:Mem} {w:World} (h:MR c m w) {i:Nat} (hi:i<64):w.cell? ⟨0,i,none⟩=some (.int .u8 (EK.getD i 0:Nat)):=by
 obtain⟨_,cs,T,f,h1,b9⟩:=h.wX 0 _ rfl;have jP:cs=(EK.map λ(z:Nat)=>Value.int .u8 z).toArray:=b9;simp only[World.cell?,h1,jP];have hl:i<EK.length:=hi;simp[adl,ac6 hl]
theorem PH (x r:Int) (w:World) (hx:x≠0) (i:Nat) (hi:i<64)
 (hix:adA.wrap (bits .and .u64 x (adA.wrap (-x))*285870213051353865)/288230376151711744=(i:Int)) (hc:w.cell? ⟨0,i,none⟩=some (.int .u8 r)) (hr:ac9.wrap r=r):
 Calls aM 199 #[.int .u64 x] w λe w'=>e=.returned (.int .i64 r)/\w'=w:=by
 go_enter func199,ntmps199
 go_wp2
 all_goals(try rw[hix]at*)
 all_goals(try simp only[hix])
 ·go_wp2
  go_ret
  exact⟨rfl,rfl⟩
theorem ml {a b:Nat} (ha:a<18446744073709551616) (hb:b<18446744073709551616):bits .and .u64 (a:Int) (b:Int)=((a&&&b:Nat):Int):=by
 have e:bits .and .u64 (a:Int) (b:Int)=adA.wrap (((BitVec.ofInt 64 (a:Int))&&&(BitVec.ofInt 64 (b:Int))).toNat:Nat):=rfl;have bd:a&&&b<2^64:=Nat.and_lt_two_pow a (by omega);rw[e,BitVec.toNat_and,eC ha,eC hb,wrap_u64 (by omega) (by omega)]
def dB (a b:Nat):Nat:=a^^^(a&&&b)
theorem Hm (a b i:Nat):(dB a b).testBit i=(a.testBit i&&!b.testBit i):=by
 unfold dB;rw[Nat.testBit_xor,Nat.testBit_and];cases a.testBit i<;>cases b.testBit i<;>rfl
theorem EL {a b n:Nat} (ha:a<2^n):dB a b<2^n:=Nat.xor_lt_two_pow ha (Nat.lt_of_le_of_lt Nat.and_le_left ha)
theorem oe {a b:Nat} (ha:a<18446744073709551616) (hb:b<18446744073709551616):bits .andNot .u64 (a:Int) (b:Int)=((dB a b:Nat):Int):=by
 have e:bits .andNot .u64 (a:Int) (b:Int)=adA.wrap (((BitVec.ofInt 64 (a:Int))&&&~~~(BitVec.ofInt 64 (b:Int))).toNat:Nat):=rfl;have h:((BitVec.ofInt 64 (a:Int))&&&~~~(BitVec.ofInt 64 (b:Int))).toNat=dB a b:=by
  apply Nat.eq_of_testBit_eq;intro i;rw[Hm,BitVec.testBit_toNat,BitVec.getLsbD_and,BitVec.getLsbD_not,<-BitVec.testBit_toNat,<-BitVec.testBit_toNat,eC ha,eC hb];by_cases hi:i<64;·simp[hi]
  ·have h1:a.testBit i=false:=Nat.testBit_lt_two_pow (Nat.lt_of_lt_of_le ha (Nat.pow_le_pow_right (by omega:0<2) (by omega:64<=i)));simp[h1]
 have bd:dB a b<2^64:=EL (by omega);rw[e,h,wrap_u64 (by omega) (by omega)]
theorem K5 {f h:Nat} (hh:h<2^f):h&&&(2^f-1-h)=0:=by
 apply Nat.eq_of_testBit_eq;intro i;have e:(2^f-1-h).testBit i=(decide (i<f)&&!h.testBit i):=by
  rw[show 2^f-1-h=2^f-(h+1) by omega];exact Nat.testBit_two_pow_sub_succ hh i
 rw[Nat.testBit_and,e,Nat.zero_testBit];cases h.testBit i<;>simp
theorem EM {s:Nat} (h:s%2=1):s=2*(s/2)+1:=by omega
theorem AM {s:Nat} (h:¬s%2=1):s=2*(s/2):=by omega
theorem sS (a b x y:Nat) (hx:x<=1) (hy:y<=1):(2*a+x)&&&(2*b+y)=2*(a&&&b)+x*y:=by
 apply Nat.eq_of_testBit_eq;intro i;have hxy:x*y<=1:=Nat.le_trans (Nat.mul_le_mul hx hy) (acV _);rw[Nat.testBit_and];cases i with
 |zero=>
  simp only[Nat.testBit_zero];have h1:(2*a+x)%2=x:=by omega
  have h2:(2*b+y)%2=y:=by omega
  have h3:(2*(a&&&b)+x*y)%2=x*y:=by omega
  rw[h1,h2,h3];rcases(show x=0\/x=1 by omega)with rfl|rfl<;>rcases(show y=0\/y=1 by omega)with rfl|rfl<;>rfl
 |succ i=>
  simp only[Nat.testBit_succ];have h1:(2*a+x)/2=a:=by omega
  have h2:(2*b+y)/2=b:=by omega
  have h3:(2*(a&&&b)+x*y)/2=a&&&b:=by omega
  rw[h1,h2,h3,Nat.testBit_and]
theorem Jr:∀(f s:Nat),s≠0->s<2^f->s&&&(2^f-s)=2^Ch f s
 |0,s,h0,hs=>by simp at hs;omega
 |f+1,s,h0,hs=>by
  have hp:2^(f+1)=2*2^f:=by rw[Nat.pow_succ];omega
  unfold Ch;by_cases hm:s%2=1
  ·rw[if_pos hm];have h1:=EM hm;have h2:2^(f+1)-s=2*(2^f-1-s/2)+1:=by omega
   rw[h2]
   conv=>lhs;lhs;rw[h1]
   rw[sS _ _ 1 1 (by omega) (by omega),K5 (by omega)]
  ·rw[if_neg hm];have h1:=AM hm;have h2:2^(f+1)-s=2*(2^f-s/2)+0:=by omega
   rw[h2]
   conv=>lhs;lhs;rw[h1]
   have:=sS (s/2) (2^f-s/2) 0 0 (by omega) (by omega);simp only[Nat.add_zero,Nat.mul_zero]at this⊢;rw[this,Jr f (s/2) (by omega) (by omega),Nat.add_comm 1,Nat.pow_succ];omega
theorem Hn:∀(f s:Nat),s≠0->s<2^f->Ch f s<f
 |0,s,h0,hs=>by simp at hs;omega
 |f+1,s,h0,hs=>by
  have hp:2^(f+1)=2*2^f:=by rw[Nat.pow_succ];omega
  unfold Ch;by_cases hm:s%2=1;·rw[if_pos hm];omega
  ·rw[if_neg hm];have:=Hn f (s/2) (by omega) (by omega);omega
theorem aaf (k:Nat) (hk:k<64):∃i,i<64/\(2^k*285870213051353865%18446744073709551616)/288230376151711744=i/\EK.getD i 0=k:=by
 have h:∀k:Fin 64,(2^k.val*285870213051353865%18446744073709551616)/288230376151711744<64/\EK.getD ((2^k.val*285870213051353865%18446744073709551616)/288230376151711744) 0=k.val:=by decide+kernel
 exact⟨_,(h ⟨k,hk⟩).1,rfl,(h ⟨k,hk⟩).2⟩
theorem Sp (n:Nat):adA.wrap (n:Int)=((n%18446744073709551616:Nat):Int):=by
 have e2:(2^64:Int)=18446744073709551616:=rfl;simp only[IntKind.wrap,IntKind.signed,IntKind.bits,e2,adi,ac5,if_false];omega
theorem Sq {x:Nat} (h0:x≠0) (hx:x<18446744073709551616):Pure aM 199 [cX x] (aq (Ch 64 x:Nat)):=by
 refine zO λc w vs hr hM=>?_;simp only[aU,Rel,du]at hr;obtain⟨v1,vs1,rfl,rfl,rfl⟩:=hr;have hk:=Hn 64 x h0 hx;obtain⟨i,hi,hix,hti⟩:=aaf _ hk;have Ho:adA.wrap (-(x:Int))=((18446744073709551616-x:Nat):Int):=by
  have e2:(2^64:Int)=18446744073709551616:=rfl;simp only[IntKind.wrap,IntKind.signed,IntKind.bits,e2,adi,ac5,if_false];omega
 have aag:=Jr 64 x h0 hx;have e64:(2:Nat)^64=18446744073709551616:=rfl;rw[e64]at aag;have hc:=WZ hM hi;rw[hti]at hc;refine(PH x (Ch 64 x:Nat) w (by omega) i hi ?_ hc (wrap_i64 (by omega) (by omega))).mono ?_
 ·rw[Ho,ml hx (by omega),aag];rw[<-hix];have:(((2^Ch 64 x:Nat):Int)*285870213051353865)=((2^Ch 64 x*285870213051353865:Nat):Int):=(Int.natCast_mul _ _).symm;rw[this,Sp];rfl
 ·rintro e w' ⟨rfl,rfl⟩;exact⟨_,rfl,rfl,rfl,rfl,acV _,λ_ _=>rfl,rfl⟩
def dY:Nat->Nat->Nat->List Nat
 |0,_,_=>[]
 |f+1,i,s=>if s=0 then []else if s%2=1 then i::dY f (i+1) (s/2)else dY f (i+1) (s/2)
theorem j5:∀(f i:Nat),dY f i 0=[]
 |0,_=>rfl
 |f+1,i=>by unfold dY;rw[if_pos rfl]
theorem rh:∀(f i s:Nat),s≠0->s<2^f->dY f i s=(i+Ch f s)::dY f i (s&&&(s-1))
 |0,i,s,h0,hs=>by simp at hs;omega
 |f+1,i,s,h0,hs=>by
  have hp:2^(f+1)=2*2^f:=by rw[Nat.pow_succ];omega
  by_cases hm:s%2=1
  ·have h1:=EM hm;have h2:s&&&(s-1)=2*(s/2):=by
    have h3:s-1=2*(s/2)+0:=by omega
    rw[h3]
    conv=>lhs;lhs;rw[h1]
    rw[sS _ _ 1 0 (by omega) (by omega),Nat.and_self];omega
   have h4:Ch (f+1) s=0:=by unfold Ch;rw[if_pos hm]
   rw[h2,h4];by_cases hz:s/2=0
   ·rw[hz,Nat.mul_zero,j5];unfold dY;rw[if_neg h0,if_pos hm,hz,j5,Nat.add_zero]
   ·have h5:¬2*(s/2)=0:=by omega
    have h6:¬2*(s/2)%2=1:=by omega
    have h7:2*(s/2)/2=s/2:=by omega
    conv=>lhs;unfold dY
    rw[if_neg h0,if_pos hm,Nat.add_zero]
    conv=>rhs;rhs;unfold dY
    rw[if_neg h5,if_neg h6,h7];rfl
  ·have h1:=AM hm;have hh:s/2≠0:=by omega
   have h2:s&&&(s-1)=2*(s/2&&&(s/2-1)):=by
    have h3:s-1=2*(s/2-1)+1:=by omega
    rw[h3]
    conv=>lhs;lhs;rw[h1,<-Nat.add_zero (2*(s/2))]
    rw[sS _ _ 0 1 (by omega) (by omega)];omega
   have ih:=rh f (i+1) (s/2) hh (by omega)
   have h4:Ch (f+1) s=1+Ch f (s/2):=by conv=>lhs;unfold Ch
                                       rw[if_neg hm]
   rw[h2,h4]
   conv=>lhs;unfold dY
   rw[if_neg h0,if_neg hm,ih]
   congr 1
   ·omega
   ·by_cases hz:(s/2&&&(s/2-1))=0;·rw[hz,Nat.mul_zero,j5,j5]
    ·have h5:¬2*(s/2&&&(s/2-1))=0:=by omega
     have h6:¬2*(s/2&&&(s/2-1))%2=1:=by omega
     have h7:2*(s/2&&&(s/2-1))/2=(s/2&&&(s/2-1)):=by omega
     conv=>rhs;unfold dY
     rw[if_neg h5,if_neg h6,h7]
theorem sU:∀(f i s j:Nat),s<2^f->(j∈dY f i s↔i<=j/\s.testBit (j-i)=true)
 |0,i,s,j,hs=>by
  have:s=0:=by simp at hs;omega
  subst this;simp[dY]
 |f+1,i,s,j,hs=>by
  have hp:2^(f+1)=2*2^f:=by rw[Nat.pow_succ];omega
  unfold dY;by_cases h0:s=0;·subst h0;simp
  ·rw[if_neg h0];have ih:=sU f (i+1) (s/2) j (by omega);have kH:∀k,s.testBit (k+1)=(s/2).testBit k:=λk=>Nat.testBit_succ s k;have hz:s.testBit 0=decide (s%2=1):=Nat.testBit_zero s;have oQ:(i+1<=j/\(s/2).testBit (j-(i+1))=true)↔(i+1<=j/\s.testBit (j-i)=true):=by
    refine and_congr_right λRe=>?_;rw[<-kH,show j-(i+1)+1=j-i by omega]
   by_cases hm:s%2=1
   ·rw[if_pos hm,List.mem_cons,ih,oQ];constructor
    ·rintro(rfl|⟨h1,h2⟩);·exact⟨acV _,by rw[Nat.sub_self,hz];exact decide_eq_true hm⟩
     ·exact⟨by omega,h2⟩
    ·rintro⟨h1,h2⟩;by_cases Re:j=i;·exact .inl Re
     ·exact .inr ⟨by omega,h2⟩
   ·rw[if_neg hm,ih,oQ];constructor;·rintro⟨h1,h2⟩;exact⟨by omega,h2⟩
    ·rintro⟨h1,h2⟩;by_cases Re:j=i
     ·subst Re;rw[Nat.sub_self,hz]at h2;exact absurd (of_decide_eq_true h2) hm
     ·exact⟨by omega,h2⟩
def cj (s:Nat):List Nat:=dY 64 0 s
theorem rE {s:Nat} (h0:s≠0) (hs:s<18446744073709551616):cj s=Ch 64 s::cj (s&&&(s-1)):=by
 unfold cj;rw[rh 64 0 s h0 hs,ac2]
theorem rF:cj 0=[]:=rfl
theorem K6 {s j:Nat} (hs:s<18446744073709551616):j∈cj s↔s.testBit j=true:=by
 unfold cj;rw[sU 64 0 s j hs];simp
def dO (s:Nat):Int:=match cj s with
 | []=>-1
 |i::_=>i
end
section
open Go Go.Jq
def VG (b:Int):Nat:=(adA.wrap b).toNat%64
def K7 (b:Bool):Int:=if b then 1 else 0
def fq (op a b:Int):Int×Bool:=
 if op=1 then(ac9.wrap (a+b),true)
 else if op=2 then(ac9.wrap (a-b),true)
 else if op=3 then(ac9.wrap (a*b),true)
 else if op=4 then(bits .and .i64 a b,true)
 else if op=5 then(bits .or .i64 a b,true)
 else if op=6 then(bits .xor .i64 a b,true)
 else if op=7 then(ac9.wrap (a*2^VG b),true)
 else if op=8 then(a.fdiv (2^VG b),true)
 else if op=9 then(K7 (decide (a=b)),true)
 else if op=10 then(K7 (!decide (a=b)),true)
 else if op=11 then(K7 (decide (a<b)),true)
 else(0,false)
theorem Sr (b:Int):(adA.wrap b).tmod 64=(VG b:Int):=by
 have h:0<=adA.wrap b:=by rw[R4];omega
 obtain⟨q,hq⟩:∃q:Nat,adA.wrap b=q:=⟨(adA.wrap b).toNat,by omega⟩;unfold VG;rw[hq];rfl
theorem W0 (b:Int):VG b<64:=Nat.mod_lt _ (by omega)
theorem yi (b:Bool):Pure aM 309 [.d (.bool b)] (aq (K7 b)):=by
 refine ay func309 Ob ntmps309 results309 rfl ?_;unfold Ur;refine J λK hK=>?_;simp only[go_sem];apply hK;refine aa λK1 a8=>?_;refine J λK hK=>?_;simp only[go_sem];apply hK;cases b with
 |true=>
  refine aN ?_;refine J λK hK=>?_;simp only[go_sem];apply hK;apply ak;simp only[go_sem];refine aD _ rfl rfl ⟨?_,rfl⟩;simp[ah,K7]
 |false=>
  refine aK ?_;apply au;refine a8 _ (J λK hK=>?_);simp only[go_sem];apply hK;apply ak;simp only[go_sem];refine aD _ rfl rfl ⟨?_,rfl⟩;simp[ah,K7]
set_option maxHeartbeats 4000000 in
theorem Ss (op a b:Int):Pure aM 249 [aq op,aq a,aq b] (.cu [aq ((fq op a b).1),.d (.bool (fq op a b).2)]):=by
 have hs:=W0 b;have uE:min (VG b) 64=VG b:=by omega
 have hi:ac9.bits=64:=rfl;have hu:adA.bits=64:=rfl;have h0:¬(VG b:Int)<0:=by omega
 have ht:=Sr b;refine ay func249 N6 ntmps249 results249 rfl ?_;unfold Um;refine J λK hK=>?_;simp only[go_sem];refine hK _ (J λK hK=>?_);simp only[go_sem,ht];apply hK;refine aa λK1 a8=>?_;refine J λK hK=>?_;simp only[go_sem];apply hK;apply aA;by_cases k1:op=1
 ·refine J λK hK=>?_;simp only[go_sem,k1];apply hK;refine aN ?_;refine J λK hK=>?_;simp only[go_sem,ht,h0,uE,hi,hu,acW];apply hK;apply ak;simp only[go_sem];refine aD _ rfl rfl ⟨?_,rfl⟩;simp[ah,fq,k1]
 refine J λK hK=>?_;simp only[go_sem,k1];apply hK;refine aK ?_ (by simp[ev,ah,k1]);by_cases k2:op=2
 ·refine J λK hK=>?_;simp only[go_sem,k2];apply hK;refine aN ?_;refine J λK hK=>?_;simp only[go_sem,ht,h0,uE,hi,hu,acW];apply hK;apply ak;simp only[go_sem];refine aD _ rfl rfl ⟨?_,rfl⟩;simp[ah,fq,k2]
 refine J λK hK=>?_;simp only[go_sem,k2];apply hK;refine aK ?_ (by simp[ev,ah,k2]);by_cases k3:op=3
 ·refine J λK hK=>?_;simp only[go_sem,k3];apply hK;refine aN ?_;refine J λK hK=>?_;simp only[go_sem,ht,h0,uE,hi,hu,acW];apply hK;apply ak;simp only[go_sem];refine aD _ rfl rfl ⟨?_,rfl⟩;simp[ah,fq,k3]
 refine J λK hK=>?_;simp only[go_sem,k3];apply hK;refine aK ?_ (by simp[ev,ah,k3]);by_cases k4:op=4
 ·refine J λK hK=>?_;simp only[go_sem,k4];apply hK;refine aN ?_;refine J λK hK=>?_;simp only[go_sem,ht,h0,uE,hi,hu,acW];apply hK;apply ak;simp only[go_sem];refine aD _ rfl rfl ⟨?_,rfl⟩;simp[ah,fq,k4]
 refine J λK hK=>?_;simp only[go_sem,k4];apply hK;refine aK ?_ (by simp[ev,ah,k4]);by_cases k5:op=5
 ·refine J λK hK=>?_;simp only[go_sem,k5];apply hK;refine aN ?_;refine J λK hK=>?_;simp only[go_sem,ht,h0,uE,hi,hu,acW];apply hK;apply ak;simp only[go_sem];refine aD _ rfl rfl ⟨?_,rfl⟩;simp[ah,fq,k5]
 refine J λK hK=>?_;simp only[go_sem,k5];apply hK;refine aK ?_ (by simp[ev,ah,k5]);by_cases k6:op=6
 ·refine J λK hK=>?_;simp only[go_sem,k6];apply hK;refine aN ?_;refine J λK hK=>?_;simp only[go_sem,ht,h0,uE,hi,hu,acW];apply hK;apply ak;simp only[go_sem];refine aD _ rfl rfl ⟨?_,rfl⟩;simp[ah,fq,k6]
 refine J λK hK=>?_;simp only[go_sem,k6];apply hK;refine aK ?_ (by simp[ev,ah,k6]);by_cases k7:op=7
 ·refine J λK hK=>?_;simp only[go_sem,k7];apply hK;refine aN ?_;refine J λK hK=>?_;simp only[go_sem,ht,h0,uE,hi,hu,acW];apply hK;apply ak;simp only[go_sem];refine aD _ rfl rfl ⟨?_,rfl⟩;simp[ah,fq,k7]
 refine J λK hK=>?_;simp only[go_sem,k7];apply hK;refine aK ?_ (by simp[ev,ah,k7]);by_cases k8:op=8
 ·refine J λK hK=>?_;simp only[go_sem,k8];apply hK;refine aN ?_;refine J λK hK=>?_;simp only[go_sem,ht,h0,uE,hi,hu,acW];apply hK;apply ak;simp only[go_sem];refine aD _ rfl rfl ⟨?_,rfl⟩;simp[ah,fq,k8]
 refine J λK hK=>?_;simp only[go_sem,k8];apply hK;refine aK ?_ (by simp[ev,ah,k8]);by_cases k9:op=9
 ·refine J λK hK=>?_;simp only[go_sem,k9];apply hK;refine aN ?_;refine J λK hK=>?_;simp only[go_sem];refine aF (yi _) rfl rfl ?_;simp only[go_sem];apply hK;apply ak;simp only[go_sem];refine aD _ rfl rfl ⟨?_,rfl⟩;simp[ah,fq,k9]
 refine J λK hK=>?_;simp only[go_sem,k9];apply hK;refine aK ?_ (by simp[ev,ah,k9]);by_cases k10:op=10
 ·refine J λK hK=>?_;simp only[go_sem,k10];apply hK;refine aN ?_;refine J λK hK=>?_;simp only[go_sem];refine aF (yi _) rfl rfl ?_;simp only[go_sem];apply hK;apply ak;simp only[go_sem];refine aD _ rfl rfl ⟨?_,rfl⟩;simp[ah,fq,k10]
 refine J λK hK=>?_;simp only[go_sem,k10];apply hK;refine aK ?_ (by simp[ev,ah,k10]);by_cases k11:op=11
 ·refine J λK hK=>?_;simp only[go_sem,k11];apply hK;refine aN ?_;refine J λK hK=>?_;simp only[go_sem];refine aF (yi _) rfl rfl ?_;simp only[go_sem];apply hK;apply ak;simp only[go_sem];refine aD _ rfl rfl ⟨?_,rfl⟩;simp[ah,fq,k11]
 refine J λK hK=>?_;simp only[go_sem,k11];apply hK;refine aK ?_ (by simp[ev,ah,k11]);apply au;simp only[go_sem];refine a8 _ (J λK hK=>?_);simp only[go_sem];apply hK;apply ak;simp only[go_sem];refine aD _ rfl rfl ⟨?_,rfl⟩;simp[ah,fq,k1,k2,k3,k4,k5,k6,k7,k8,k9,k10,k11]
def place (aE:List UInt8) (x:Int):Int:=match aE.findIdx? (λb=>decide ((b.toNat:Int)=x))with
 |some i=>i
 |none=>-1
theorem EN {aE:List UInt8} {x:Int} {i:Nat} (hi:i<aE.length) (hx:(aE[i].toNat:Int)=x) (hb:∀j (h:j<aE.length),j<i->(aE[j].toNat:Int)≠x):place aE x=i:=by
 unfold place;have:aE.findIdx? (λb=>decide ((b.toNat:Int)=x))=some i:=by
  rw[List.findIdx?_eq_some_iff_getElem];exact⟨hi,by simpa using hx,λj hj=>by simpa using hb j (by omega) hj⟩
 rw[this]
theorem PI {aE:List UInt8} {x:Int} (hb:∀j (h:j<aE.length),(aE[j].toNat:Int)≠x):place aE x=-1:=by
 unfold place;have:aE.findIdx? (λb=>decide ((b.toNat:Int)=x))=none:=by
  rw[List.findIdx?_eq_none_iff];intro b hbm;obtain⟨j,hj,rfl⟩:=List.mem_iff_getElem.1 hbm;simpa using hb j hj
 rw[this]
structure Prog where
 aE:List UInt8
 init:List Int
 threads:List (List Ins)
def Js (l:List Init) (b:UInt8):Int:=l.foldl (λv x=>if x.loc=(b.toNat:Int)then x.value else v) 0
def mH (aE:List UInt8) (x:Ins):Ins:=if x.loc=0 then x else{x with loc:=place aE x.loc}
def sV (t:Test):Prog:=⟨dz t,(dz t).map (Js t.inits),t.threads.map (·.map (mH (dz t)))⟩
def ma (i:Int):Nat:=if 0<=i/\i<64 then 2^i.toNat else 0
def og (s:Nat) (i:Int):Bool:=!decide (s&&&ma i=0)
def ed (s:Nat) (i:Int):Nat:=s|||ma i
def sW (s:Nat) (i:Int):Nat:=dB s (ma i)
structure Rl where
 n:Nat
 rows:List Nat
def Rl.cells (r:Rl):List DV:=.int .i64 r.n::r.rows.map λ(s:Nat)=>.int .u64 s
def Rl.ok (r:Rl):Prop:=r.n<=64/\r.rows.length=64/\∀s∈r.rows,s<18446744073709551616
def ff (n:Int):Rl:=⟨min n.toNat 64,ada 64 0⟩
def Rl.pH (r:Rl) (a:Int):Bool:=decide (0<=a)&&decide (a<r.n)
def Rl.has (r:Rl) (a b:Int):Bool:=r.pH a&&og (r.rows.getD a.toNat 0) b
def Rl.add (r:Rl) (a b:Int):Rl:=if r.pH a&&r.pH b then{r with rows:=r.rows.set a.toNat (ed (r.rows.getD a.toNat 0) b)}else r
def Rl.row (r:Rl) (a:Int):Nat:=if r.pH a then r.rows.getD a.toNat 0 else 0
def kJ (i:Nat) (rows:List Nat) (j:Nat):List Nat:=rows.set j (ed (rows.getD j 0) i)
def Rl.inv (r:Rl):Rl:=⟨r.n,(ac7 r.n).foldl (λrows i=>(cj (r.rows.getD i 0)).foldl (kJ i) rows) (ada 64 0)⟩
def pI (k:Nat) (rows:List Nat) (i:Nat):List Nat:=if og (rows.getD i 0) k then rows.set i (rows.getD i 0|||rows.getD k 0)else rows
def Rl.W1 (r:Rl):Rl:=⟨r.n,(ac7 r.n).foldl (λrows k=>(ac7 r.n).foldl (pI k) rows) r.rows⟩
def oh (r:Rl) (s:Nat) (rows:List Nat) (i:Nat):List Nat:=if og s i then rows.set i (r.rows.getD i 0&&&s)else rows
def Rl.cI (r:Rl) (s:Nat):Rl:=⟨r.n,(ac7 r.n).foldl (oh r s) (ada 64 0)⟩
structure iH where
 pc:Int
 jl:List Int
def iH.cells (l:iH):List DV:=.int .i64 l.pc::l.jl.map λx=>.int .i64 x
def pJ:iH:=⟨0,[0,0,0,0]⟩
def dZ (o:wK) (l:iH):Int:=if 0<=o.dF/\o.dF<4 then l.jl.getD o.dF.toNat 0 else o.value
def eN (l:iH) (dF v:Int):iH:=if 0<=dF/\dF<4 then{l with jl:=l.jl.set dF.toNat v}else l
def fg:Ins:=⟨0,0,0,⟨0,0⟩,0,⟨0,0⟩,0⟩
def eO (p:Prog) (t:Int):List Ins:=if 0<=t/\t<p.threads.length then p.threads.getD t.toNat []else []
def lj (code:List Ins):Nat->iH->iH
 |0,l=>l
 |f+1,l=>if 0<=l.pc/\l.pc<code.length then
   (let i:=code.getD l.pc.toNat fg
    if i.kind=5 then
     (let l':=eN l i.dF (if(fq i.op (dZ i.a l) (dZ i.b l)).2 then(fq i.op (dZ i.a l) (dZ i.b l)).1 else dZ i.a l)
      lj code f {l' with pc:=l.pc+1})
    else if i.kind=6 then lj code f {l with pc:=(if dZ i.a l=dZ i.b l then l.pc+min (max i.n 0) code.length else l.pc)+1}
    else l)
  else l
def hU (code:List Ins) (l:iH):iH:=lj code (code.length+1) l
def kK (p:Prog) (t:Int):iH:=hU (eO p t) pJ
def dt (p:Prog) (t:Int) (l:iH):Option Ins:=
 if 0<=l.pc/\l.pc<(eO p t).length then
  (let i:=(eO p t).getD l.pc.toNat fg
   if 1<=i.kind/\i.kind<=4 then some i else none)
 else none
def gq (p:Prog) (t:Int) (l:iH) (v:Int):iH:=match dt p t l with
 |none=>l
 |some i=>
  let l':=if i.kind=2\/i.kind=4 then eN l i.dF v else l
  hU (eO p t) {l' with pc:=l.pc+1}
structure nJ where
 t:Int
 i:Int
 kind:Int
 loc:Int
 r:Int
 w:Int
def nJ.cells (e:nJ):List DV:=[.int .i64 e.t,.int .i64 e.i,.int .i64 e.kind,.int .i64 e.loc,.int .i64 e.r,.int .i64 e.w]
def jY (i:Ins) (l:iH) (v:Int):nJ×Bool:=
 if i.kind=1 then(⟨0,0,2,i.loc,0,dZ i.a l⟩,false)
 else if i.kind=2 then(⟨0,0,1,i.loc,v,0⟩,true)
 else if i.kind=4 then
  (if dZ i.a l=v then(⟨0,0,4,i.loc,v,dZ i.b l⟩,true)else(⟨0,0,5,i.loc,v,0⟩,true))
 else(⟨0,0,3,0,0,0⟩,false)
def lQ (kind:Int):Bool:=decide (kind=2)||decide (kind=4)
structure Entry where
 loc:Int
 value:Int
 id:Int
def Entry.cells (e:Entry):List DV:=[.int .i64 e.loc,.int .i64 e.value,.int .i64 e.id]
structure Bf where
 m:Int
 l:List Entry
def cf:Entry:=⟨0,0,0⟩
def Bf.cells (b:Bf):List DV:=.int .i64 b.m::.int .i64 (b.l.length:Int)::(b.l++ada (24-b.l.length) cf).flatMap Entry.cells
def o1 (m:Int):Bf:=⟨if m=2\/m=3 then m else 0,[]⟩
def Bf.put (b:Bf) (loc v id:Int):Bf:=if b.m=0\/loc<0\/4<=loc\/24<=b.l.length then b else{b with l:=b.l++[⟨loc,v,id⟩]}
def qu:List Entry->Int->Option Entry
 | [],_=>none
 |e::r,loc=>match qu r loc with
  |some x=>some x
  |none=>if e.loc=loc then some e else none
def Bf.lR (b:Bf) (loc:Int):Option Entry:=qu b.l loc
def Bf.which (b:Bf) (loc:Int):Option Nat:=b.l.findIdx? λe=>decide (b.m=2)||decide (e.loc=loc)
def Bf.eP (b:Bf) (loc:Int):Option Entry:=(b.which loc).bind λi=>b.l[i]?
def Bf.drop (b:Bf) (loc:Int):Bf:=match b.which loc with
 |none=>b
 |some i=>{b with l:=b.l.eraseIdx i}
def Bf.empty (b:Bf):Bool:=b.l.isEmpty
structure bz where
 pick:Int
 t:Int
 kind:Int
 loc:Int
 r:Int
 w:Int
 src:Int
def bz.cells (s:bz):List DV:=[.int .i64 s.pick,.int .i64 s.t,.int .i64 s.kind,.int .i64 s.loc,.int .i64 s.r,.int .i64 s.w,.int .i64 s.src]
def cp:bz:=⟨0,0,0,0,0,0,0⟩
structure Vm where
 p:Prog
 m:Int
 locals:List iH
 mem:List Int
 src:List Int
 dU:List Bf
 steps:List bz
def EO (l:List Int):List Int:=(l++[0,0,0,0]).take 4
def jJ (p:Prog) (m:Int):Vm:=
 ⟨p,m,[kK p 0,kK p 1,kK p 2,kK p 3],EO p.init,[-1,-1,-1,-1],[o1 m,o1 m,o1 m,o1 m],[]⟩
def Vm.lc (v:Vm) (t:Nat):iH:=v.locals.getD t pJ
def Vm.bf (v:Vm) (t:Nat):Bf:=v.dU.getD t ⟨0,[]⟩
def lS (v:Vm) (t:Nat):Bool:=match dt v.p t (v.lc t)with
 |none=>false
 |some i=>!(decide (i.kind=3)||decide (i.kind=4))||(v.bf t).empty
def oU (v:Vm) (t:Nat) (s:Nat) (loc:Nat):Nat:=if v.m=3/\((v.bf t).eP loc).isSome then ed s (8+4*(t:Int)+loc)else s
def Jt (v:Vm) (s:Nat) (t:Nat):Nat:=
 let s1:=if lS v t then ed s t else s
 let s2:=if v.m=2/\(v.bf t).empty=false then ed s1 (4+(t:Int))else s1
 [0,1,2,3].foldl (oU v t) s2
def Vm.enabled (v:Vm):Nat:=[0,1,2,3].foldl (Jt v) 0
def Vm.done (v:Vm):Bool:=decide (v.enabled=0)
def lT (v:Vm) (t:Nat) (loc:Int):Vm×bz:=
 let e:=((v.bf t).eP loc).getD cf
 ({v with dU:=v.dU.set t ((v.bf t).drop loc),mem:=v.mem.set e.loc.toNat e.value,src:=v.src.set e.loc.toNat e.id},⟨0,t,6,e.loc,0,e.value,e.id⟩)
def lk (v:Vm) (t:Nat):Vm×bz:=
 let l:=v.lc t
 let i:=(dt v.p t l).getD fg
 let vf:=match(v.bf t).lR i.loc with
  |some e=>(e.value,e.id)
  |none=>(v.mem.getD i.loc.toNat 0,v.src.getD i.loc.toNat 0)
 let e:=jY i l vf.1
 let from_:=if e.2 then vf.2 else-1
 let now:Int:=v.steps.length
 let v1:Vm:=if e.1.kind=2/\v.m≠1 then{v with dU:=v.dU.set t ((v.bf t).put e.1.loc e.1.w now)}
  else if lQ e.1.kind then{v with mem:=v.mem.set e.1.loc.toNat e.1.w,src:=v.src.set e.1.loc.toNat now}else v
 ({v1 with locals:=v.locals.set t (gq v.p t l vf.1)},⟨0,t,e.1.kind,e.1.loc,e.1.r,e.1.w,from_⟩)
def cB (v:Vm) (i:Int):Vm×bz×Bool:=
 if og v.enabled i then
  (let r:=if i<4 then lk v i.toNat else if i<8 then lT v (i.toNat-4) 0 else lT v ((i.toNat-8)/4) (((i.toNat-8)%4:Nat):Int)
   let s:={r.2 with pick:=i}
   ({r.1 with steps:=v.steps++[s]},s,true))
 else(v,cp,false)
def Vm.final (v:Vm):List Int:=v.locals.flatMap (·.jl)++v.mem
def cW (v:Vm) (t:Int):Bool:=
 if 0<=t/\t<4 then match dt v.p t (v.lc t.toNat)with
  |none=>false
  |some i=>decide (i.kind=2)&&((v.bf t.toNat).lR i.loc).isSome
 else false
def rG:Vm->List Int->Nat->Vm×Nat
 |v,[],k=>(v,k)
 |v,i::r,k=>match cB v i with
  |(v',_,true)=>rG v' r (k+1)
  |(v',_,false)=>(v',k)
def iQ (p:Prog) (m:Int) (aS:List Int):Option (List Int):=
 let r:=rG (jJ p m) aS 0
 if r.2<aS.length\/r.1.done=false then none else some r.1.final
def eU (s:bz) (m:Int):Bool:=decide (s.kind=6)||decide (s.kind=4)||(decide (m=1)&&decide (s.kind=2))
def uL (s:bz):Bool:=decide (s.kind=1)||decide (s.kind=4)||decide (s.kind=5)
def qv (s:bz):Bool:=decide (s.kind=3)||decide (s.kind=4)||decide (s.kind=5)
def lU (steps:List bz) (m:Int) (store:Nat):Int:=
 if eU (steps.getD store cp) m then store
 else match steps.findIdx? λs=>decide (s.kind=6)&&decide (s.src=(store:Int))with
  |some i=>i
  |none=>-1
def om (steps:List bz) (m:Int) (i:Nat) (r:Rl) (k:Nat):Rl:=
 if !decide (k=i)&&eU (steps.getD k cp) m&&decide ((steps.getD k cp).loc=(steps.getD i cp).loc)then r.add i k else r
def iB (r:Rl) (steps:List bz) (m:Int) (i:Nat):Rl:=
 let s:=steps.getD i cp
 if 0<=s.src/\s.src<steps.length then
  (let c:=lU steps m s.src.toNat
   if c<0 then r else
    (let r1:=if(steps.getD s.src.toNat cp).t=s.t then r else r.add c i
     (List.range' (c.toNat+1) (steps.length-(c.toNat+1))).foldl (om steps m i) r1))
 else(List.range' 0 steps.length).foldl (om steps m i) r
def PJ (steps:List bz) (m:Int) (i:Nat) (r:Rl) (k:Nat):Rl:=
 let a:=steps.getD i cp
 let b:=steps.getD k cp
 if decide (a.pick=b.pick)||(eU a m&&eU b m&&decide (a.loc=b.loc))||(decide (b.kind=6)&&decide (b.src=i))||(decide (a.kind=6)&&decide (a.t=b.t)&&qv b)then r.add i k else r
def AN (steps:List bz) (m:Int) (r:Rl) (i:Nat):Rl:=
 let r1:=(List.range' (i+1) (steps.length-(i+1))).foldl (PJ steps m i) r
 if uL (steps.getD i cp)then iB r1 steps m i else r1
def Hp (steps:List bz) (m:Int):Rl:=
 if 64<steps.length then ff 0 else((ac7 steps.length).foldl (AN steps m) (ff steps.length)).W1
def sX (a b:bz) (m:Int):Bool:=!decide (a.t=b.t)&&decide (a.loc=b.loc)&&(eU a m||eU b m)
def rH (r back:Rl) (steps:List bz) (m:Int) (k:Nat) (i:Nat):Bool:=
 r.has i k&&decide (r.row i&&&back.row k=0)&&sX (steps.getD i cp) (steps.getD k cp) m
def gv (r:Rl) (steps:List bz) (m:Int):List (Nat×Nat):=
 (ac7 r.n).flatMap λk=>((ac7 k).filter (rH r r.inv steps m k)).map λi=>(i,k)
def sY (s:bz) (m:Int):Bool:=eU s m||uL s
def uM (a b:bz) (m:Int):Bool:=
 if a.pick=b.pick then true
 else if a.t=b.t then(decide (a.kind=6)&&qv b)||(decide (b.kind=6)&&qv a)
 else sY a m&&sY b m&&decide (a.loc=b.loc)&&(eU a m||eU b m)
def sZ (back need:Nat):Bool:=decide (need=0)||!decide (back&&&need=0)
structure Fm where
 v:Vm
 sleep:Nat
 back:Nat
structure Wk where
 m:Int
 aO:Int
 stack:List Fm
 steps:List bz
 runs:List (List Int)
 blocked:Int
 aS:Int
def et (w:Wk) (v:Vm) (cJ:Nat):Wk:=
 let en:=v.enabled
 let fst:=dO (dB en cJ)
 let w1:=if en=0 then{w with runs:=w.runs++[w.steps.map (·.pick)]}else if fst<0 then{w with blocked:=w.blocked+1}else w
 {w1 with stack:=w.stack++[⟨v,cJ,ma fst⟩]}
def rI (w:Wk):Wk:={w with stack:=w.stack.dropLast,steps:=w.steps.dropLast}
def s3 (v:Vm) (a b:bz) (m:Int):Bool:=
 uM a b m&&!(!decide (a.t=b.t)&&((decide (a.kind=1)&&cW v a.t)||(decide (b.kind=1)&&cW v b.t)))
def nq (f:Fm) (s:bz) (m:Int) (out:Nat) (i:Nat):Nat:=
 if s3 f.v (cB f.v i).2.1 s m then sW out i else out
def fW (f:Fm) (s:bz) (m:Int):Nat:=(cj f.sleep).foldl (nq f s m) f.sleep
def AO (steps:List bz) (r:Rl) (from_:Nat) (cI:Nat) (i:Nat):Nat:=
 if from_<i/\(i=steps.length-1\/r.has from_ i=false)then ed cI i else cI
def uN (back:Rl) (steps:List bz) (out:Nat) (i:Nat):Nat:=if back.row i=0 then ed out (steps.getD i cp).pick else out
def lv (steps:List bz) (r:Rl) (from_:Nat):Nat:=
 let cI:=(ac7 steps.length).foldl (AO steps r from_) 0
 (cj cI).foldl (uN (r.cI cI).inv steps) 0
def nu (steps:List bz) (r:Rl) (stack:List Fm) (x:Nat×Nat):List Fm:=
 if x.2≠steps.length-1 then stack else
  match stack[x.1]?with
  |none=>stack
  |some f=>
   let need:=lv steps r x.1
   if sZ f.back need then stack else
    stack.set x.1 {f with back:=ed f.back (dO (if need&&&f.sleep=0 then need else need&&&f.sleep))}
def ie (w:Wk):Wk:=
 let r:=Hp w.steps w.m
 {w with stack:=(gv r w.steps w.m).foldl (nu w.steps r) w.stack}
inductive ab4 where
 |on (w:Wk)
 |done (w:Wk)
 |PK
def kV (w:Wk):ab4:=match w.stack.getLast? with
 |none=>.done w
 |some f=>
  let i:=dO (dB f.back f.sleep)
  if i<0 then .on (rI w)else
   let r:=cB f.v i
   let s:=r.2.1
   let cJ:=fW f s w.m
   let aS:=w.aS+1+(cj f.sleep).length
   if w.aO<aS then .PK else
    let w1:={w with aS:=aS,stack:=w.stack.dropLast++[{f with sleep:=ed f.sleep i}],steps:=w.steps++[s]}
    .on (et (ie w1) r.1 cJ)
def rJ:Nat->Wk->Option Wk
 |0,_=>none
 |f+1,w=>match kV w with
  |.on w'=>rJ f w'
  |.done w'=>some w'
  |.PK=>none
structure Found where
 runs:List (List Int)
 blocked:Int
 aS:Int
def VH (p:Prog) (m aO:Int):Wk:=et ⟨m,min (max aO 0) 2000000,[],[],[],0,0⟩ (jJ p m) 0
def explore (p:Prog) (m aO:Int):Option Found:=(rJ 4000010 (VH p m aO)).map λw=>⟨w.runs,w.blocked,w.aS⟩
end
end Go.Proofs.YtjfdjkageiemkaaGreatDoor
namespace Go.Jq
open Go
section
variable{P:Program} {dst:Option Nat} {op:im} {r:List bA} {K:St->Prop} {t:Fr} {m:Mem} {n:Nat} {want b:Bool} {acc:List fH} {ms:List Nat}
theorem dx (h1:b=true->py P dst op r K t m n want (.d (.bool true))) (h0:b=false->py P dst op r K t m n want (.d (.bool false))):py P dst op r K t m n want (.d (.bool b)):=by
 cases b;·exact h0 rfl
 ·exact h1 rfl
theorem dd (h1:b=true->lN P dst op r acc ms K t m n want (.d (.bool true))) (h0:b=false->lN P dst op r acc ms K t m n want (.d (.bool false))):lN P dst op r acc ms K t m n want (.d (.bool b)):=by
 cases b;·exact h0 rfl
 ·exact h1 rfl
end
theorem K8 {α:Type} (l:List α) (i:Nat) (h:i<l.length):l.take (i+1)=l.take i++[l[i]]:=by
 rw[adG,ac6 h];rfl
end Go.Jq
namespace Go.Proofs.YtjfdjkageiemkaaGreatDoor
open Go.Proofs.Tryz
open Go.Proofs.Tryz renaming prog → aM
section
open Go Go.Jq
theorem s4 (i:Int):ma i<18446744073709551616:=by
 unfold ma;split
 ·have h:(2:Nat)^i.toNat<=2^63:=Nat.pow_le_pow_right (by omega) (by omega);have:(2:Nat)^63<18446744073709551616:=by decide
  omega
 ·omega
theorem gK {s:Nat} (hs:s<18446744073709551616) (i:Int):ed s i<18446744073709551616:=Nat.or_lt_two_pow (n:=64) hs (s4 i)
theorem uO {a:Nat} (ha:a<18446744073709551616) (b:Nat):dB a b<18446744073709551616:=EL (n:=64) ha
theorem EP {s:Nat} (hs:s<18446744073709551616) (i:Int):sW s i<18446744073709551616:=uO hs _
theorem xc {a:Nat} (ha:a<18446744073709551616) (b:Nat):a&&&b<18446744073709551616:=Nat.lt_of_le_of_lt Nat.and_le_left ha
theorem W2 {a b:Nat} (ha:a<18446744073709551616) (hb:b<18446744073709551616):a|||b<18446744073709551616:=Nat.or_lt_two_pow (n:=64) ha hb
theorem yj (i:Int):Pure aM 208 [aq i] (cX (ma i)):=by
 refine ay func208 O0 ntmps208 results208 rfl ?_;unfold U0;refine aa λK hK=>af rfl ?_;simp only[go_sem,↓reduceIte];refine hK _ ?_;clear hK;refine aa λK hK=>?_;by_cases h0:i<0
 ·refine aa λK hK=>af rfl ?_;simp only[go_sem,↓reduceIte,eq_true h0,decide_true];refine hK _ ?_;clear hK;refine bP true (by simp[ev,ah]) (λ_=>?_) (λh=>nomatch h);refine aa λK hK=>af rfl ?_;simp only[go_sem,↓reduceIte];refine hK _ ?_;clear hK;refine ak ?_;simp only[go_sem];refine aD _ rfl rfl ⟨?_,rfl⟩;have:¬0<=i:=by omega
  simp[ah,ma,this]
 ·by_cases h1:64<=i
  ·refine aa λK hK=>af rfl ?_;simp only[go_sem,↓reduceIte,eq_false h0,eq_true h1,decide_true,decide_false];refine hK _ ?_;clear hK;refine bP true (by simp[ev,ah]) (λ_=>?_) (λh=>nomatch h);refine aa λK hK=>af rfl ?_;simp only[go_sem,↓reduceIte];refine hK _ ?_;clear hK;refine ak ?_;simp only[go_sem];refine aD _ rfl rfl ⟨?_,rfl⟩;have:¬i<64:=by omega
   simp[ah,ma,this]
  ·have hw:adA.wrap i=i:=wrap_u64 (by omega) (by omega);have h2:¬i<0:=h0;have Gp:adA.wrap (1*2^(if i.toNat<=64 then i.toNat else 64))=((2^i.toNat:Nat):Int):=by
    have hm:(if i.toNat<=64 then i.toNat else 64)=i.toNat:=if_pos (by omega);have hp:(2:Nat)^i.toNat<=2^63:=Nat.pow_le_pow_right (by omega) (by omega);have Yz:(2:Nat)^63=9223372036854775808:=by decide
    rw[hm,Int.one_mul];have:((2:Int)^i.toNat)=((2^i.toNat:Nat):Int):=by simp
    rw[this];generalize 2^i.toNat=q at hp;exact wrap_u64 (by omega) (by omega)
   refine aa λK hK=>af rfl ?_;simp only[go_sem,↓reduceIte,eq_false h0,eq_false h1,decide_true,decide_false];refine hK _ ?_;clear hK;refine bP false (by simp[ev,ah]) (λh=>nomatch h) (λ_=>?_);refine au ?_;refine hK _ ?_;clear hK;have hb:adA.bits=64:=rfl;refine aa λK hK=>af rfl ?_;simp only[go_sem,↓reduceIte,hw,eq_false h2,hb,Gp];refine hK _ ?_;clear hK;refine ak ?_;simp only[go_sem];refine aD _ rfl rfl ⟨?_,rfl⟩;have h3:0<=i/\i<64:=by omega
   simp[ah,ma,h3,Gp]
theorem gi {s:Nat} (hs:s<18446744073709551616) (i:Int):Pure aM 132 [cX s,aq i] (cX (ed s i)):=by
 have k:=yj i;refine ay func132 OA ntmps132 results132 rfl ?_;unfold UG;refine J λK hK=>?_;simp only[go_sem];refine hK _ (J λK hK=>?_);simp only[go_sem]
 repeat' (first
  |(refine dx (λhb=>?_) (λhb=>?_)<;>simp only[go_sem,hb])
  |(refine dd (λhb=>?_) (λhb=>?_)<;>simp only[go_sem,hb])
  |(refine aF (k) rfl rfl ?_;simp only[go_sem])
  |(refine bY (k) rfl rfl ?_;simp only[go_sem])
  |(rw[if_pos (by(try simp only[adk,ads,adz,acY]);omega)];simp only[go_sem]))
 simp only[go_sem,BW hs (s4 i)];apply hK;apply ak;simp only[go_sem];refine aD _ rfl rfl ⟨?_,rfl⟩;simp[ah,ed]
theorem Ci {s:Nat} (hs:s<18446744073709551616) (i:Int):Pure aM 207 [cX s,aq i] (cX (sW s i)):=by
 have k:=yj i;refine ay func207 OZ ntmps207 results207 rfl ?_;unfold UZ;refine J λK hK=>?_;simp only[go_sem];refine hK _ (J λK hK=>?_);simp only[go_sem]
 repeat' (first
  |(refine dx (λhb=>?_) (λhb=>?_)<;>simp only[go_sem,hb])
  |(refine dd (λhb=>?_) (λhb=>?_)<;>simp only[go_sem,hb])
  |(refine aF (k) rfl rfl ?_;simp only[go_sem])
  |(refine bY (k) rfl rfl ?_;simp only[go_sem])
  |(rw[if_pos (by(try simp only[adk,ads,adz,acY]);omega)];simp only[go_sem]))
 simp only[go_sem,oe hs (s4 i)];apply hK;apply ak;simp only[go_sem];refine aD _ rfl rfl ⟨?_,rfl⟩;simp[ah,sW]
theorem s5 {s:Nat} (hs:s<18446744073709551616) (i:Int):Pure aM 201 [cX s,aq i] (.d (.bool (og s i))):=by
 have k:=yj i;refine ay func201 OT ntmps201 results201 rfl ?_;unfold US;refine J λK hK=>?_;simp only[go_sem];refine hK _ (J λK hK=>?_);simp only[go_sem]
 repeat' (first
  |(refine dx (λhb=>?_) (λhb=>?_)<;>simp only[go_sem,hb])
  |(refine dd (λhb=>?_) (λhb=>?_)<;>simp only[go_sem,hb])
  |(refine aF (k) rfl rfl ?_;simp only[go_sem])
  |(refine bY (k) rfl rfl ?_;simp only[go_sem])
  |(rw[if_pos (by(try simp only[adk,ads,adz,acY]);omega)];simp only[go_sem]))
 simp only[go_sem,ml hs (s4 i)];apply hK;apply ak;simp only[go_sem];refine aD _ rfl rfl ⟨?_,rfl⟩;simp[ah,og]
theorem rK {s:Nat} (h0:s≠0) (hs:s<18446744073709551616):dO s=(Ch 64 s:Nat):=by
 unfold dO;rw[rE h0 hs]
theorem jZ {s:Nat} (hs:s<18446744073709551616):Pure aM 127 [cX s] (aq (dO s)):=by
 refine ay func127 Ov ntmps127 results127 rfl ?_;unfold UB;refine aa λK hK=>af rfl ?_;simp only[go_sem,↓reduceIte];refine hK _ ?_;clear hK;refine aa λK hK=>?_;by_cases h0:s=0
 ·subst h0;refine aa λK hK=>af rfl ?_;simp only[go_sem,↓reduceIte];refine hK _ ?_;clear hK;refine bP true (by simp[ev,ah]) (λ_=>?_) (λh=>nomatch h);refine aa λK hK=>af rfl ?_;simp only[go_sem,↓reduceIte];refine hK _ ?_;clear hK;refine ak ?_;simp only[go_sem];refine aD _ rfl rfl ⟨?_,rfl⟩;simp[ah,dO,rF]
 ·have K9:¬(s:Int)=0:=by omega
  refine aa λK hK=>af rfl ?_;simp only[go_sem,↓reduceIte,K9,decide_false];refine hK _ ?_;clear hK;refine bP false (by simp[ev,ah]) (λh=>nomatch h) (λ_=>?_);refine au ?_;refine hK _ ?_;clear hK;refine aa λK hK=>af rfl ?_;simp only[go_sem,↓reduceIte];refine aF (Sq h0 hs) rfl rfl ?_;simp only[go_sem,↓reduceIte];refine hK _ ?_;clear hK;refine ak ?_;simp only[go_sem];refine aD _ rfl rfl ⟨?_,rfl⟩;simp[ah,rK h0 hs]
def Mh (l:List Int):Nat:=l.foldl ed 0
theorem W3 (l:List Int):Mh l<18446744073709551616:=by
 unfold Mh;have:∀(l:List Int) (s:Nat),s<18446744073709551616->l.foldl ed s<18446744073709551616:=by
  intro l;induction l with
  |nil=>intro s h;exact h
  |cons x l ih=>intro s h;exact ih _ (gK h x)
 exact this l 0 (by omega)
theorem ints_at {l:List Int} {X:DV} (h:fJ l X) (i:Nat) (hi:i<l.length):∃cs rest,X=.sl l.length cs/\cs.drop i=.int .i64 l[i]::rest/\i<cs.length:=by
 obtain⟨cs,rest,h1,h2,h3⟩:=dM.at (enc:=λd:DV=>[d]) (w:=1) (λ_=>rfl) (by omega) (h:dM _ _ _) i (by simpa using hi);simp only[List.getElem_map,List.singleton_append,acY,Nat.mul_one]at h1 h2 h3;exact⟨cs,rest,h1,h2,h3⟩
theorem qw {l:List Int} {X:DV} (h:fJ l X):ir (.d X)=some l.length/\l.length<=9223372036854775807:=by
 have h1:=dM.len h;have h2:=h.1;simp only[acY]at h1 h2;exact⟨h1,h2⟩
theorem Su {l:List Int} {X:DV} (hX:fJ l X):Pure aM 198 [.d X] (cX (Mh l)):=by
 obtain⟨hlen,fw⟩:=qw hX;refine ay func198 OR ntmps198 results198 rfl ?_;unfold UR;refine J λK hK=>?_;simp only[go_sem];refine hK _ (J λK hK=>?_);simp only[go_sem];apply hK;refine aa λKE fK=>?_;refine J λK hK=>?_;simp only[go_sem,hlen];apply hK;apply aA;refine ax (S':=⟨[(8,aq (0:Nat)),(6,.d X),(7,aq l.length),(3,cX (Mh (l.take 0)))],[],0⟩) (aH.cN [] ⟨by simp[bm,ah,AV.aC,aj,ag,Mh],by simp[aL,aI,ai,an,aj,AV.aC,ag,ae,-acU,Mh],rfl,rfl⟩) ?_;refine bM (λi=>⟨[(8,aq (i:Nat)),(6,.d X),(7,aq l.length),(3,cX (Mh (l.take i)))],[],0⟩) l.length ?_;intro i hi;unfold Jd;by_cases bd:i<l.length
 ·have aQ:(i:Int)<l.length:=by omega
  obtain⟨cs,rest,iq,bU,b9⟩:=ints_at hX i bd;have hw:=c8 (i:=i) (by omega);have b0:Mh (l.take (i+1))=ed (Mh (l.take i)) l[i]:=gG _ _ _ _ bd;have mG:=W3 (l.take i);generalize Mh (l.take i)=s at b0 mG;have k:=gi mG l[i];refine J λK hK=>?_;simp only[go_sem,aQ];apply hK;refine aa λK1 a8=>?_;refine aN ?_;apply au;apply a8;refine aa λK1 a8=>?_;apply aA;refine J λK hK=>?_;simp only[go_sem,iq,aQ,acX,acW,b9,bU];apply hK;refine af rfl ?_;simp only[go_sem];refine aF k rfl rfl ?_;simp only[go_sem];apply a8;refine af rfl ?_;simp only[go_sem,hw]
  exact⟨bd,(aH.cN [] ⟨by simp[bm,ah,AV.aC,aj,ag,iq,b0],by simp[aL,aI,ai,an,aj,AV.aC,ag,ae,-acU,iq,b0],rfl,rfl⟩)⟩
 ·have dh:i=l.length:=by omega
  subst dh;have aQ:¬(l.length:Int)<l.length:=by omega
  refine J λK hK=>?_;simp only[go_sem,aQ];apply hK;refine aa λK1 a8=>?_;refine aK ?_;apply aZ;show KE _;refine fK _ (J λK hK=>?_);simp only[go_sem,List.take_length];apply hK;apply ak;simp only[go_sem];refine aD _ rfl rfl ⟨?_,rfl⟩;simp[ah]
def iC (l:List Nat):DV:=.sl l.length (l.map λ(j:Nat)=>.int .i64 j)
theorem oo:∀(f i s:Nat),(dY f i s).length<=f
 |0,_,_=>acV _
 |f+1,i,s=>by
  unfold dY;split;·simp
  ·split;·have:=oo f (i+1) (s/2);simp;omega
   ·have:=oo f (i+1) (s/2);omega
theorem qx (s:Nat):(cj s).length<=64:=oo 64 0 s
def slS (s:Nat) (acc:List DV):St:=⟨[(0,cX s),(3,.sl 0 1 0 acc.length)],[(0,acc.map .d)],1⟩
theorem ER {s:Nat} (h0:s≠0):s&&&(s-1)<s:=Nat.lt_of_le_of_lt Nat.and_le_right (by omega)
theorem AP {s:Nat} (hs:s<18446744073709551616):Pure aM 204 [cX s] (.d (iC (cj s))):=by
 refine ay func204 OW ntmps204 results204 rfl ?_;unfold UW;refine J λK hK=>?_;simp only[go_sem];refine hK _ (J λK hK=>?_);simp only[go_sem];apply hK;refine aa λKE fK=>?_;apply aA;refine ax (aH.nil 3 1 rfl rfl) ?_;refine ax (S':=slS s (([]:List Nat).map λ(j:Nat)=>.int .i64 j)) (aH.cN [(0,0)] ⟨by simp[bm,ah,AV.aC,aj,ag,slS],by simp[aL,aI,ai,an,aj,AV.aC,ag,ae,-acU,slS],rfl,rfl⟩) ?_;refine fy (ι:={p:Nat×List Nat//p.1<18446744073709551616/\p.2++cj p.1=cj s}) (λp=>slS p.1.1 (p.1.2.map λ(j:Nat)=>.int .i64 j)) (λp=>p.1.1) ⟨(s,[]),hs,rfl⟩ ?_;rintro⟨⟨x,acc⟩,hx,PL⟩;simp only at hx PL
 have qi:acc.length<=64:=by
  have:=qx s;rw[<-PL,adk]at this;omega
 unfold Je slS;refine aa λK1 a8=>?_;by_cases h0:x=0
 ·subst h0;rw[rF,List.append_nil]at PL;subst PL;refine J λK hK=>?_;simp only[go_sem];apply hK;refine aK ?_;apply aZ;show KE _;refine fK _ (J λK hK=>?_);simp only[go_sem];apply hK;refine ax (aH.jn (S':=⟨[(2,.d (iC (cj s)))],[],0⟩) [] [(0,(cj s).map λ(j:Nat)=>.int .i64 j)] ⟨by simp[fO,ah,AV.cv,dn,bI,ag,iC,ac8],by simp[gd,aI,bI,ai,an,aB,dn,AV.cv,ag,cF,ba,-acU,iC,ac8],rfl,rfl,by simp[bD,bI,ai,an,aB,dn,AV.cv,cF,ba,-acU,iC,ac8]⟩) ?_;apply ak;simp only[go_sem];refine aD _ rfl rfl ⟨?_,rfl⟩;simp[ah]
 ·have K9:¬(x:Int)=0:=by omega
  have k:=jZ hx;rw[rK h0 hx]at k;have hw:adA.wrap ((x:Int)-1)=((x-1:Nat):Int):=by rw[wrap_u64 (by omega) (by omega)];omega
  have h8:(acc.length+1)*8<=140737488351232:=by omega
  have hand:=ml hx (b:=x-1) (by omega);have w3:=rE h0 hx;generalize Ch 64 x=f at k w3;refine J λK hK=>?_;simp only[go_sem,K9,decide_false,Bool.not_false];apply hK;refine aN ?_;apply au;apply a8;refine aa λK1 a8=>?_;apply aA;refine af rfl ?_;simp only[go_sem];refine aF k rfl rfl ?_;simp only[go_sem,h8,acY,adk];apply a8;refine af rfl ?_;simp only[go_sem,hw,hand];refine⟨⟨(x&&&(x-1),acc++[f]),xc hx _,by rw[List.append_assoc,<-PL,w3];rfl⟩,ER h0,?_⟩;exact aH.cN [(2,0)] ⟨by simp[bm,ah,AV.aC,aj,ag],by simp[aL,aI,ai,an,aB,aj,AV.aC,ag,ae,-acU],rfl,rfl⟩
section
variable{r:Rl}
theorem bu (h:r.ok):(r.cells.map AV.d).length=65:=by simp[Rl.cells,h.2.1]
theorem cG (h:r.ok):r.cells.length=65:=by simp[Rl.cells,h.2.1]
theorem Sv (h:r.ok):(r.cells.map AV.d).take 65=r.cells.map AV.d:=ac8 (by rw[bu h];omega)
theorem b6 (h:r.ok):aP (some 65) (r.cells.map AV.d)=some (.agg (r.cells.map AV.d)):=by simp only[aP,bu h,Sv h];rfl
theorem ES:aP none (r.cells.map AV.d)=some (aq r.n):=rfl
theorem pK (h:r.ok) {i:Nat} (hi:i<64):aP none ((r.cells.map AV.d).drop (1+i))=some (cX (r.rows.getD i 0:Nat)):=by
 have:i<r.rows.length:=by rw[h.2.1];exact hi
 simp[aP,Rl.cells,Nat.add_comm 1 i,adl,this]
theorem Cj {i x:Nat}:(r.cells.map AV.d).set (1+i) (cX x)=(Rl.mk r.n (r.rows.set i x)).cells.map AV.d:=by
 simp[Rl.cells,Nat.add_comm 1 i,List.map_set]
theorem dP (h:r.ok) (i:Nat):r.rows.getD i 0<18446744073709551616:=by
 rw[adl];by_cases hi:i<r.rows.length;·rw[ac6 hi];exact h.2.2 _ (adt hi)
 ·rw[List.getElem?_eq_none (by omega)];decide
theorem nv (h:r.ok) {i x:Nat} (hx:x<18446744073709551616):(Rl.mk r.n (r.rows.set i x)).ok:=by
 refine⟨h.1,by simpa using h.2.1,λs hs=>?_⟩;rcases List.mem_or_eq_of_mem_set hs with h1|h1;·exact h.2.2 s h1
 ·rw[h1];exact hx
theorem fh (n:Int):(ff n).ok:=by
 refine⟨by simp[ff];omega,by simp[ff],λs hs=>?_⟩;simp only[ff,List.mem_replicate]at hs;rw[hs.2];decide
theorem rL (h:r.ok) (a b:Int):(r.add a b).ok:=by
 unfold Rl.add;split;·exact nv h (gK (dP h _) _)
 ·exact h
theorem PM (h:r.ok) (a:Int):r.row a<18446744073709551616:=by
 unfold Rl.row;split;·exact dP h _
 ·decide
end
theorem ky: [aq 0,cX 0,cX 0,cX 0,cX 0,cX 0,cX 0,cX 0,cX 0,cX 0,cX 0,cX 0,cX 0,cX 0,cX 0,cX 0,cX 0,cX 0,cX 0,cX 0,cX 0,cX 0,cX 0,cX 0,cX 0,cX 0,cX 0,cX 0,cX 0,cX 0,cX 0,cX 0,cX 0,cX 0,cX 0,cX 0,cX 0,cX 0,cX 0,cX 0,cX 0,cX 0,cX 0,cX 0,cX 0,cX 0,cX 0,cX 0,cX 0,cX 0,cX 0,cX 0,cX 0,cX 0,cX 0,cX 0,cX 0,cX 0,cX 0,cX 0,cX 0,cX 0,cX 0,cX 0,cX 0]=((ff 0).cells.map AV.d):=rfl
theorem ig {r:Rl} {n:Nat}:o8 n (r.cells.map AV.d)=r.cells.map AV.d:=rfl
theorem eY {r:Rl} (h:r.ok) {cs:List AV} (hc:cs.length=65):putAt cs 0 (r.cells.map AV.d)=r.cells.map AV.d:=gZ (by rw[bu h,hc])
theorem dJ {r:Rl}:(r.cells.map AV.d).all j9=true:=eo _
theorem fk:o4 aM 284=some (some 65):=by kernel_rfl
theorem s6 (n:Int):Pure aM 260 [aq n] (.agg ((ff n).cells.map .d)):=by
 have hm:(if(64:Int)<(if n<0 then 0 else n)then(64:Int)else(if n<0 then 0 else n))=(ff n).n:=by
  simp only[ff];split<;>split at*<;>omega
 have hc:((ff 0).cells.map AV.d).set 0 (aq ((ff n).n:Int))=(ff n).cells.map AV.d:=rfl;have h0:=fh 0;have hn:=fh n;refine ay func260 Pm ntmps260 results260 rfl ?_;unfold Vl;refine J λK hK=>?_;simp only[go_sem,ky,ig];refine hK _ (J λK hK=>?_);simp only[go_sem,hm,ky,bu h0,acV,hc,bu hn,dJ,eY hn,ac2];apply hK;apply ak;refine aD (.agg ((ff n).cells.map .d)) (by simp[bB,aV,bK,ah,ai,an,fk,b6 hn]) (by simp[AV.aC,aj]) ⟨rfl,rfl⟩
theorem W4 {r:Rl}:Pure aM 268 [.agg (r.cells.map .d)] (aq r.n):=by
 refine ay func268 Pu ntmps268 results268 rfl ?_;unfold Vu;refine J λK hK=>?_;simp only[go_sem];refine hK _ (J λK hK=>?_);simp only[go_sem,ac3,ES];apply hK;apply ak;simp only[go_sem];refine aD _ rfl rfl ⟨?_,rfl⟩;simp[ah]
theorem xd {r:Rl} (a:Int):Pure aM 311 [.agg (r.cells.map .d),aq a] (.d (.bool (r.pH a))):=by
 refine ay func311 PC ntmps311 results311 rfl ?_;unfold VC;refine J λK hK=>?_;simp only[go_sem];apply hK;by_cases h0:0<=a
 ·refine J λK hK=>?_;simp only[go_sem,eq_true h0,decide_true,ac3,ES];apply hK;apply ak;simp only[go_sem];refine aD _ rfl rfl ⟨?_,rfl⟩;simp[ah,Rl.pH,h0]
 ·refine J λK hK=>?_;simp only[go_sem,eq_false h0,decide_false];apply hK;apply ak;simp only[go_sem];refine aD _ rfl rfl ⟨?_,rfl⟩;simp[ah,Rl.pH,h0]
theorem AQ {r:Rl} (h:r.ok) (a b:Int):Pure aM 269 [.agg (r.cells.map .d),aq a,aq b] (.d (.bool (r.has a b))):=by
 have k1:=xd (r:=r) a;have k2:=s5 (dP h a.toNat) b;have dh:r.pH a=true->0<=a/\a<64:=by
  have:=h.1;simp only[Rl.pH,adn,decide_eq_true_eq];omega
 refine ay func269 Pv ntmps269 results269 rfl ?_;unfold Vv;refine J λK hK=>?_;simp only[go_sem];refine hK _ (J λK hK=>?_);simp only[go_sem,ac3,b6 h];refine aY (k1) ?_;simp only[go_sem];cases hb:r.pH a
 ·simp only[go_sem];apply hK;apply ak;simp only[go_sem];refine aD _ rfl rfl ⟨?_,rfl⟩;simp[ah,Rl.has,hb]
 ·obtain⟨h0,h1⟩:=dh hb;have hg:=pK h (i:=a.toNat) (by omega);simp only[go_sem,h0,h1,hg];refine aY (k2) ?_;simp only[go_sem];apply hK;apply ak;simp only[go_sem];refine aD _ rfl rfl ⟨?_,rfl⟩;simp[ah,Rl.has,hb]
theorem yl {r:Rl} (h:r.ok) (a:Int):Pure aM 270 [.agg (r.cells.map .d),aq a] (cX (r.row a)):=by
 have k1:=xd (r:=r) a;have dh:r.pH a=true->0<=a/\a<64:=by
  have:=h.1;simp only[Rl.pH,adn,decide_eq_true_eq];omega
 refine ay func270 Pw ntmps270 results270 rfl ?_;unfold Vw;refine J λK hK=>?_;simp only[go_sem];apply hK;refine aa λK1 a8=>?_;refine J λK hK=>?_;simp only[go_sem,ac3,b6 h];refine aY (k1) ?_;simp only[go_sem];apply hK;cases hb:r.pH a
 ·refine aN ?_ (by simp[ev,ah,hb]);refine J λK hK=>?_;simp only[go_sem];apply hK;apply ak;simp only[go_sem];refine aD _ rfl rfl ⟨?_,rfl⟩;simp[ah,Rl.row,hb]
 ·obtain⟨h0,h1⟩:=dh hb;have hg:=pK h (i:=a.toNat) (by omega);refine aK ?_ (by simp[ev,ah,hb]);apply au;refine a8 _ (J λK hK=>?_);simp only[go_sem,h0,h1,hg];apply hK;apply ak;simp only[go_sem];refine aD _ rfl rfl ⟨?_,rfl⟩;simp[ah,Rl.row,hb]
theorem ym {r:Rl} (h:r.ok) (a b:Int):Pure aM 263 [.agg (r.cells.map .d),aq a,aq b] (.agg ((r.add a b).cells.map .d)):=by
 have k1:=xd (r:=r) a;have k2:=xd (r:=r) b;have k3:=gi (dP h a.toNat) b;have dh:r.pH a=true->0<=a/\a<64:=by
  have:=h.1;simp only[Rl.pH,adn,decide_eq_true_eq];omega
 have hl:=bu h;have h':=rL h a b;have zx:=bu h';have h0:=fh 0;refine ay func263 Pp ntmps263 results263 rfl ?_;unfold Vp;refine J λK hK=>?_;simp only[go_sem,ky,ig];apply hK;have tail:∀(m:List AV) (t:Fr) (n:Nat),ah t 3=.ptr 0 0->ah t 6=.ptr 1 0->m=(r.add a b).cells.map .d->fN aM (aw []) 25 (.seq (.region false [oM 24 (.load (some 65) (.t 3)),⟨none,.store 65 (.t 6) (.t 24),none⟩] []) .ret) ⟨t,[(0,m),(1,(ff 0).cells.map .d)],n⟩
  (mZ aM #[.cell 6 284] (aw []) λr1 m'=>r1=.agg ((r.add a b).cells.map .d)/\m'=[]):=by
  intro m t n h3 h6 hm;subst hm;refine aa λK hK=>af (by simp[aw]) ?_;simp only[go_sem,h3,h6,ac3,b6 h',bu h',dJ,eY h' (bu h0),bu h0,ac2,acV];apply hK;apply ak;refine aD (.agg ((r.add a b).cells.map .d)) (by simp[bB,aV,bK,ah,ai,an,fk,b6 h',h6]) (by simp[AV.aC,aj]) ⟨rfl,rfl⟩
 refine aa λKE fK=>?_;refine J λK hK=>?_;simp only[go_sem,ac3,b6 h];refine aY (k1) ?_;simp only[go_sem];cases hb:r.pH a
 ·simp only[go_sem];apply hK;refine aK ?_;apply au;refine fK _ (tail _ _ _ (by simp[ah]) (by simp[ah]) ?_);simp[Rl.add,hb]
 ·obtain⟨h1,h2⟩:=dh hb;have hg:=pK h (i:=a.toNat) (by omega);simp only[go_sem,ac3,b6 h];refine aY (k2) ?_;simp only[go_sem];apply hK;cases sa:r.pH b
  ·refine aK ?_ (by simp[ev,ah,sa]);apply au;refine fK _ (tail _ _ _ (by simp[ah]) (by simp[ah]) ?_);simp[Rl.add,hb,sa]
  ·refine aN ?_ (by simp[ev,ah,sa]);have bd:1+a.toNat+1<=65:=by omega
   refine af rfl ?_;simp only[go_sem,h1,h2,hg];refine aY (k3) ?_;simp only[go_sem,h1,h2,bu h,bd,Cj];refine fK _ (tail _ _ _ (by simp[ah]) (by simp[ah]) ?_);simp[Rl.add,hb,sa]
def qO (r o:Rl) (ex:Fr):St:=⟨ex++[(1,.ptr 0 0),(2,.ptr 1 0),(3,.ptr 2 0)],[(0,r.cells.map .d),(1,(ff 0).cells.map .d),(2,o.cells.map .d)],3⟩
theorem W5 {r o:Rl} (ho:o.ok) {x0 i n:Nat} (TO:x0<18446744073709551616) (hi:i<64) {Q:Exit->St->Prop}
 (hQ:Q (.exit 2) (qO r ⟨o.n,(cj x0).foldl (kJ i) o.rows⟩ [(4,aq i),(11,aq i),(10,aq n)])):
 fN aM (aw []) 37 (.loop Cg) (qO r o [(5,cX x0),(4,aq i),(11,aq i),(10,aq n)]) Q:=by
 refine fy (ι:={p:Nat×List Nat//p.1<18446744073709551616/\(Rl.mk o.n p.2).ok/\(cj p.1).foldl (kJ i) p.2=(cj x0).foldl (kJ i) o.rows})
  (λp=>qO r ⟨o.n,p.1.2⟩ [(5,cX p.1.1),(4,aq i),(11,aq i),(10,aq n)]) (λp=>p.1.1) ⟨(x0,o.rows),TO,ho,rfl⟩ ?_
 rintro⟨⟨x,rows⟩,hx,rM,hf⟩;simp only at hx rM hf;unfold Cg qO;refine aa λK1 a8=>?_;by_cases h0:x=0
 ·subst h0;rw[rF,List.foldl_nil]at hf;refine J λK hK=>?_;simp only[go_sem];apply hK;refine aK ?_;refine ax (S':=qO r ⟨o.n,(cj x0).foldl (kJ i) o.rows⟩ [(4,aq i),(11,aq i),(10,aq n)]) (aH.cN [(0,0),(1,1),(2,2)] ⟨by simp[bm,ah,AV.aC,aj,ag,qO,hf],by simp[aL,aI,ai,an,aj,AV.aC,ag,ae,-acU,qO,hf],rfl,rfl⟩) ?_;apply aZ;exact hQ
 ·have K9:¬(x:Int)=0:=by omega
  have k:=jZ hx;rw[rK h0 hx]at k;have aah:=Hn 64 x h0 hx;have hw:adA.wrap ((x:Int)-1)=((x-1:Nat):Int):=by rw[wrap_u64 (by omega) (by omega)];omega
  have hand:=ml hx (b:=x-1) (by omega);have w3:=rE h0 hx;generalize Ch 64 x=f at k w3 aah;have VI:(f:Int)<64:=by omega
  have hg:=pK rM (i:=f) aah;have k2:=gi (dP rM f) i;have hl:=bu rM;have bd:1+f+1<=65:=by omega
  rw[w3,adB]at hf;have ab5:(Rl.mk o.n (kJ i rows f)).ok:=nv rM (gK (dP rM f) _);refine J λK hK=>?_;simp only[go_sem,K9,decide_false,Bool.not_false];apply hK;refine aN ?_;apply au;apply a8;refine aa λK1 a8=>?_;apply aA;refine af rfl ?_;simp only[go_sem];refine aY (k) ?_;simp only[go_sem];refine aY (k) ?_;simp only[go_sem,acX,VI,acW,hg];refine aY (k2) ?_;simp only[go_sem,acX,VI,acW,hl,bd,Cj];apply a8;refine af rfl ?_;simp only[go_sem,hw,hand];refine⟨⟨(x&&&(x-1),kJ i rows f),xc hx _,ab5,hf⟩,ER h0,?_⟩
  exact aH.cN [(0,0),(1,1),(2,2)] ⟨by simp[bm,ah,AV.aC,aj,ag,kJ],by simp[aL,aI,ai,an,aB,aj,AV.aC,ag,ae,-acU,kJ],rfl,rfl⟩
theorem Ju {n i:Nat}:∀(l:List Nat) (rows:List Nat),(Rl.mk n rows).ok->(Rl.mk n (l.foldl (kJ i) rows)).ok
 | [],rows,h=>h
 |f::l,rows,h=>by
  rw[adB];exact Ju l _ (nv h (gK (dP h f) _))
theorem s7 {n:Nat} (hn:n<=64):(Rl.mk n (ada 64 0)).ok:=⟨hn,(fh 0).2⟩
def Hq (r:Rl) (l:List Nat) (rows:List Nat):List Nat:=l.foldl (λrows i=>(cj (r.rows.getD i 0)).foldl (kJ i) rows) rows
theorem uP {r:Rl} {n:Nat}:∀(l:List Nat) (rows:List Nat),(Rl.mk n rows).ok->(Rl.mk n (Hq r l rows)).ok
 | [],rows,h=>h
 |i::l,rows,h=>by
  unfold Hq;rw[adB];exact uP l _ (Ju _ _ h)
theorem dG {α:Type} (f:α->Nat->α) (a:α) (i:Nat):(ac7 (i+1)).foldl f a=f ((ac7 i).foldl f a) i:=by
 rw[List.range_succ,List.foldl_append];rfl
theorem Ck {r:Rl} (h:r.ok):r.inv.ok:=uP _ _ (s7 h.1)
theorem AR {r:Rl} (h:r.ok):ff (r.n:Int)=⟨r.n,ada 64 0⟩:=by
 have:=h.1;simp[ff];omega
def vQ (r:Rl) (i:Nat):List Nat:=Hq r (ac7 i) (ada 64 0)
theorem Hr (r:Rl) (i:Nat):vQ r (i+1)=(cj (r.rows.getD i 0)).foldl (kJ i) (vQ r i):=dG _ _ _
theorem yn (r:Rl):vQ r 0=ada 64 0:=rfl
theorem s8 {r:Rl} (h:r.ok):Pure aM 267 [.agg (r.cells.map .d)] (.agg (r.inv.cells.map .d)):=by
 have k1:=s6 (r.n:Int);rw[AR h]at k1;have PN:=h.1;have h0:(ff 0).ok:=fh 0;have hn:(Rl.mk r.n (ada 64 0)).ok:=s7 PN;have hi:=Ck h;refine ay func267 Pt ntmps267 results267 rfl ?_;unfold Vt;refine J λK hK=>?_;simp only[go_sem,ky,ig];refine hK _ (J λK hK=>?_);simp only[go_sem,ac3,ES];refine aY (k1) ?_;simp only[go_sem,ky,ig,bu hn,dJ,eY hn (bu h0),bu h0,ac2,acV];apply hK;refine aa λKE fK=>?_;refine J λK hK=>?_;simp only[go_sem,ac3,ES];apply hK;apply aA
 refine ax (S':=qO r ⟨r.n,vQ r 0⟩ [(11,aq (0:Nat)),(10,aq r.n)]) (aH.cN [(0,0),(1,1),(2,2)] ⟨by simp[bm,ah,AV.aC,aj,ag,qO,yn],by simp[aL,aI,ai,an,aj,AV.aC,ag,ae,-acU,qO,yn],rfl,rfl⟩) ?_;refine bM (λi=>qO r ⟨r.n,vQ r i⟩ [(11,aq (i:Nat)),(10,aq r.n)]) r.n ?_;intro i dh;have ho:(Rl.mk r.n (vQ r i)).ok:=uP (r:=r) (ac7 i) _ hn;unfold Jn qO;by_cases bd:i<r.n
 ·have aQ:(i:Int)<r.n:=by omega
  have hw:=c8 (i:=i) (by omega);have zT:(i:Int)<64:=by omega
  have hg:=pK h (i:=i) (by omega);have b0:=Hr r i;generalize vQ r i=rows at ho b0;refine J λK hK=>?_;simp only[go_sem,aQ];apply hK;refine aa λK1 a8=>?_;refine aN ?_;apply au;apply a8;refine aa λK1 a8=>?_;apply aA;refine J λK hK=>?_;simp only[go_sem];refine hK _ (J λK hK=>?_);simp only[go_sem,acX,zT,acW,hg];apply hK;apply aA;refine ax (S':=qO r ⟨r.n,rows⟩ [(5,cX (r.rows.getD i 0:Nat)),(4,aq i),(11,aq i),(10,aq r.n)]) (aH.cN [(0,0),(1,1),(2,2)] ⟨by simp[bm,ah,AV.aC,aj,ag,qO],by simp[aL,aI,ai,an,aj,AV.aC,ag,ae,-acU,qO],rfl,rfl⟩) ?_;refine W5 ho (dP h i) (by omega) ?_;simp only[go_sem];apply a8
  unfold qO;refine af rfl ?_;simp only[go_sem,hw];exact⟨bd,(aH.cN [(0,0),(1,1),(2,2)] ⟨by simp[bm,ah,AV.aC,aj,ag,b0],by simp[aL,aI,ai,an,aj,AV.aC,ag,ae,-acU,b0],rfl,rfl⟩)⟩
 ·have Cl:i=r.n:=by omega
  subst Cl;have aQ:¬(r.n:Int)<r.n:=by omega
  refine J λK hK=>?_;simp only[go_sem,aQ];apply hK;refine aa λK1 a8=>?_;refine aK ?_;apply aZ;show KE _;apply fK;have he:Rl.mk r.n (vQ r r.n)=r.inv:=rfl;rw[he];refine J λK hK=>?_;simp only[go_sem,ac3,b6 hi,bu hi,dJ,eY hi (bu h0),bu h0,ac2,acV];apply hK;apply ak;refine aD (.agg (r.inv.cells.map .d)) (by simp[bB,aV,bK,ah,ai,an,fk,b6 hi]) (by simp[AV.aC,aj]) ⟨rfl,rfl⟩
def kpS (r o:Rl) (ex:Fr):St:=⟨ex++[(2,.ptr 0 0),(4,.ptr 1 0),(5,.ptr 2 0)],[(0,r.cells.map .d),(1,(ff 0).cells.map .d),(2,o.cells.map .d)],3⟩
def Cm (r:Rl) (s:Nat) (l:List Nat) (rows:List Nat):List Nat:=l.foldl (oh r s) rows
theorem Hs {r:Rl} (h:r.ok) {s n:Nat} {rows:List Nat} (ho:(Rl.mk n rows).ok) (i:Nat):(Rl.mk n (oh r s rows i)).ok:=by
 unfold oh;split;·exact nv ho (xc (dP h i) _)
 ·exact ho
theorem rN {r:Rl} (h:r.ok) {s n:Nat}:∀(l:List Nat) (rows:List Nat),(Rl.mk n rows).ok->(Rl.mk n (Cm r s l rows)).ok
 | [],rows,ho=>ho
 |i::l,rows,ho=>by
  unfold Cm;rw[adB];exact rN h l _ (Hs h ho i)
theorem Jv {r:Rl} (h:r.ok) (s:Nat):(r.cI s).ok:=rN h _ _ (s7 h.1)
def pL (r:Rl) (s i:Nat):List Nat:=Cm r s (ac7 i) (ada 64 0)
theorem ET (r:Rl) (s i:Nat):pL r s (i+1)=oh r s (pL r s i) i:=dG _ _ _
theorem vR (r:Rl) (s:Nat):pL r s 0=ada 64 0:=rfl
theorem La {r:Rl} (h:r.ok) {s:Nat} (hs:s<18446744073709551616):Pure aM 272 [.agg (r.cells.map .d),cX s] (.agg ((r.cI s).cells.map .d)):=by
 have k1:=s6 (r.n:Int);rw[AR h]at k1;have PN:=h.1;have h0:(ff 0).ok:=fh 0;have hn:(Rl.mk r.n (ada 64 0)).ok:=s7 PN;have hi:=Jv h s;refine ay func272 Py ntmps272 results272 rfl ?_;unfold Vy;refine J λK hK=>?_;simp only[go_sem,ky,ig];refine hK _ (J λK hK=>?_);simp only[go_sem,ac3,ES];refine aY (k1) ?_;simp only[go_sem,ky,ig,bu hn,dJ,eY hn (bu h0),bu h0,ac2,acV];apply hK;refine aa λKE fK=>?_;refine J λK hK=>?_;simp only[go_sem,ac3,ES];apply hK;apply aA
 refine ax (S':=kpS r ⟨r.n,pL r s 0⟩ [(12,aq (0:Nat)),(11,aq r.n),(1,cX s)]) (aH.cN [(0,0),(1,1),(2,2)] ⟨by simp[bm,ah,AV.aC,aj,ag,kpS,vR],by simp[aL,aI,ai,an,aj,AV.aC,ag,ae,-acU,kpS,vR],rfl,rfl⟩) ?_;refine bM (λi=>kpS r ⟨r.n,pL r s i⟩ [(12,aq (i:Nat)),(11,aq r.n),(1,cX s)]) r.n ?_;intro i dh;have ho:(Rl.mk r.n (pL r s i)).ok:=rN (r:=r) h (s:=s) (ac7 i) _ hn;unfold Jo kpS;by_cases bd:i<r.n
 ·have aQ:(i:Int)<r.n:=by omega
  have hw:=c8 (i:=i) (by omega);have zT:(i:Int)<64:=by omega
  have hg:=pK h (i:=i) (by omega);have b0:=ET r s i;generalize pL r s i=rows at ho b0;have k:=s5 hs i;have hl:=bu ho;have mG:1+i+1<=65:=by omega
  have hand:=ml (dP h i) hs;refine J λK hK=>?_;simp only[go_sem,aQ];apply hK;refine aa λK1 a8=>?_;refine aN ?_;apply au;apply a8;refine aa λK1 a8=>?_;apply aA;refine J λK hK=>?_;simp only[go_sem];refine hK _ (J λK hK=>?_);simp only[go_sem];refine aY (k) ?_;simp only[go_sem];apply hK;cases hb:og s i
  ·simp only[oh,hb,ac5,if_false]at b0;refine aK ?_ (by simp[ev,ah,hb]);apply au;simp only[go_sem];apply a8;refine af rfl ?_;simp only[go_sem,hw];exact⟨bd,(aH.cN [(0,0),(1,1),(2,2)] ⟨by simp[bm,ah,AV.aC,aj,ag,b0],by simp[aL,aI,ai,an,aj,AV.aC,ag,ae,-acU,b0],rfl,rfl⟩)⟩
  ·simp only[oh,hb,if_true]at b0;refine aN ?_ (by simp[ev,ah,hb]);refine af rfl ?_;simp only[go_sem,acX,zT,acW,hg,hand,hl,mG,Cj];apply a8;refine af rfl ?_;simp only[go_sem,hw];exact⟨bd,(aH.cN [(0,0),(1,1),(2,2)] ⟨by simp[bm,ah,AV.aC,aj,ag,b0],by simp[aL,aI,ai,an,aj,AV.aC,ag,ae,-acU,b0],rfl,rfl⟩)⟩
 ·have Cl:i=r.n:=by omega
  subst Cl;have aQ:¬(r.n:Int)<r.n:=by omega
  refine J λK hK=>?_;simp only[go_sem,aQ];apply hK;refine aa λK1 a8=>?_;refine aK ?_;apply aZ;show KE _;apply fK;have he:Rl.mk r.n (pL r s r.n)=r.cI s:=rfl;rw[he];refine J λK hK=>?_;simp only[go_sem,ac3,b6 hi,bu hi,dJ,eY hi (bu h0),bu h0,ac2,acV];apply hK;apply ak;refine aD (.agg ((r.cI s).cells.map .d)) (by simp[bB,aV,bK,ah,ai,an,fk,b6 hi]) (by simp[AV.aC,aj]) ⟨rfl,rfl⟩
def Cn (r:Rl) (ex:Fr):St:=⟨ex++[(1,.ptr 0 0),(2,.ptr 1 0)],[(0,r.cells.map .d),(1,(ff 0).cells.map .d)],2⟩
def Ht (n k:Nat) (l:List Nat) (rows:List Nat):List Nat:=l.foldl (pI k) rows
def Hu (n:Nat) (l:List Nat) (rows:List Nat):List Nat:=l.foldl (λrows k=>(ac7 n).foldl (pI k) rows) rows
theorem Lb {k n:Nat} {rows:List Nat} (ho:(Rl.mk n rows).ok) (i:Nat):(Rl.mk n (pI k rows i)).ok:=by
 unfold pI;split;·exact nv ho (W2 (dP ho i) (dP ho k))
 ·exact ho
theorem uQ {k n n':Nat}:∀(l:List Nat) (rows:List Nat),(Rl.mk n rows).ok->(Rl.mk n (Ht n' k l rows)).ok
 | [],rows,ho=>ho
 |i::l,rows,ho=>by
  unfold Ht;rw[adB];exact uQ (n':=n') l _ (Lb ho i)
theorem uR {n n':Nat}:∀(l:List Nat) (rows:List Nat),(Rl.mk n rows).ok->(Rl.mk n (Hu n' l rows)).ok
 | [],rows,ho=>ho
 |i::l,rows,ho=>by
  unfold Hu;rw[adB];exact uR l _ (uQ (n':=n') _ _ ho)
theorem PO {r:Rl} (h:r.ok):r.W1.ok:=uR _ _ h
def gL (n k:Nat) (rows:List Nat) (i:Nat):List Nat:=Ht n k (ac7 i) rows
theorem zV (n k:Nat) (rows:List Nat) (i:Nat):gL n k rows (i+1)=pI k (gL n k rows i) i:=dG _ _ _
theorem ri (n k:Nat) (rows:List Nat):gL n k rows 0=rows:=rfl
def vS (n:Nat) (rows:List Nat) (i:Nat):List Nat:=Hu n (ac7 i) rows
theorem Hv (n:Nat) (rows:List Nat) (i:Nat):vS n rows (i+1)=gL n i (vS n rows i) n:=dG _ _ _
theorem yo (n:Nat) (rows:List Nat):vS n rows 0=rows:=rfl
theorem W6 {r:Rl} {n:Nat} {rows:List Nat} (hn:n<=64) (rM:(Rl.mk n rows).ok) {k:Nat} (hk:k<n) {Q:Exit->St->Prop}
 (hQ:Q (.exit 2) (Cn ⟨n,gL n k rows n⟩ [(3,aq k),(7,aq k),(6,aq n)])):
 fN aM (aw []) 35 (.loop Cf) (Cn ⟨n,gL n k rows 0⟩ [(12,aq (0:Nat)),(11,aq n),(3,aq k),(7,aq k),(6,aq n)]) Q:=by
 refine bM (λi=>Cn ⟨n,gL n k rows i⟩ [(12,aq (i:Nat)),(11,aq n),(3,aq k),(7,aq k),(6,aq n)]) n ?_;intro i dh;have ho:(Rl.mk n (gL n k rows i)).ok:=uQ (n':=n) (k:=k) (ac7 i) _ rM;unfold Cf Cn;by_cases bd:i<n
 ·have aQ:(i:Int)<n:=by omega
  have hw:=c8 (i:=i) (by omega);have zT:(i:Int)<64:=by omega
  have G9:(k:Int)<64:=by omega
  have b0:=zV n k rows i;generalize gL n k rows i=rs at ho b0;have hg:=pK ho (i:=i) (by omega);have hgk:=pK ho (i:=k) (by omega);have kh:=s5 (dP ho i) k;have hl:=bu ho;have mG:1+i+1<=65:=by omega
  have Yj:=BW (dP ho i) (dP ho k);refine J λK hK=>?_;simp only[go_sem,aQ];apply hK;refine aa λK1 a8=>?_;refine aN ?_;apply au;apply a8;refine aa λK1 a8=>?_;apply aA;refine J λK hK=>?_;simp only[go_sem];refine hK _ (J λK hK=>?_);simp only[go_sem,acX,zT,acW,hg];refine aY (kh) ?_;simp only[go_sem];apply hK;cases hb:og (rs.getD i 0) k
  ·simp only[pI,hb,ac5,if_false]at b0;refine aK ?_ (by simp[ev,ah,hb]);apply au;simp only[go_sem];apply a8;refine af rfl ?_;simp only[go_sem,hw];exact⟨bd,(aH.cN [(0,0),(1,1)] ⟨by simp[bm,ah,AV.aC,aj,ag,b0],by simp[aL,aI,ai,an,aj,AV.aC,ag,ae,-acU,b0],rfl,rfl⟩)⟩
  ·simp only[pI,hb,if_true]at b0;refine aN ?_ (by simp[ev,ah,hb]);refine az rfl rfl ?_;simp only[go_sem,acX,zT,G9,acW,hg,hgk,Yj,hl,mG,Cj];refine⟨rfl,?_⟩;apply a8;refine af rfl ?_;simp only[go_sem,hw];exact⟨bd,(aH.cN [(0,0),(1,1)] ⟨by simp[bm,ah,AV.aC,aj,ag,b0],by simp[aL,aI,ai,an,aj,AV.aC,ag,ae,-acU,b0],rfl,rfl⟩)⟩
 ·have Cl:i=n:=by omega
  subst Cl;have aQ:¬(i:Int)<i:=by omega
  refine J λK hK=>?_;simp only[go_sem,aQ];apply hK;refine aa λK1 a8=>?_;refine aK ?_;refine ax (S':=Cn ⟨i,gL i k rows i⟩ [(3,aq k),(7,aq k),(6,aq i)]) (aH.cN [(0,0),(1,1)] ⟨by simp[bm,ah,AV.aC,aj,ag,Cn],by simp[aL,aI,ai,an,aj,AV.aC,ag,ae,-acU,Cn],rfl,rfl⟩) ?_;exact aZ hQ
theorem Co {r:Rl} (h:r.ok):Pure aM 266 [.agg (r.cells.map .d)] (.agg (r.W1.cells.map .d)):=by
 have PN:=h.1;have h0:(ff 0).ok:=fh 0;have hi:=PO h;refine ay func266 Ps ntmps266 results266 rfl ?_;unfold Vs;refine J λK hK=>?_;simp only[go_sem,ky,ig];apply hK;refine aa λKE fK=>?_;refine J λK hK=>?_;simp only[go_sem,ac3,ES];apply hK;apply aA;refine ax (S':=Cn ⟨r.n,vS r.n r.rows 0⟩ [(7,aq (0:Nat)),(6,aq r.n)]) (aH.cN [(0,0),(1,1)] ⟨by simp[bm,ah,AV.aC,aj,ag,Cn,yo],by simp[aL,aI,ai,an,aj,AV.aC,ag,ae,-acU,Cn,yo],rfl,rfl⟩) ?_;refine bM (λi=>Cn ⟨r.n,vS r.n r.rows i⟩ [(7,aq (i:Nat)),(6,aq r.n)]) r.n ?_;intro i dh;have ho:(Rl.mk r.n (vS r.n r.rows i)).ok:=uR (n':=r.n) (ac7 i) _ h;unfold Jm
 by_cases bd:i<r.n
 ·have aQ:(i:Int)<r.n:=by omega
  have hw:=c8 (i:=i) (by omega);have b0:=Hv r.n r.rows i;generalize vS r.n r.rows i=rows at ho b0;unfold Cn;refine J λK hK=>?_;simp only[go_sem,aQ];apply hK;refine aa λK1 a8=>?_;refine aN ?_;apply au;apply a8;refine aa λK1 a8=>?_;apply aA;refine J λK hK=>?_;simp only[go_sem];refine hK _ (J λK hK=>?_);simp only[go_sem,ac3,ES];apply hK;apply aA;refine ax (S':=Cn ⟨r.n,gL r.n i rows 0⟩ [(12,aq (0:Nat)),(11,aq r.n),(3,aq i),(7,aq i),(6,aq r.n)]) (aH.cN [(0,0),(1,1)] ⟨by simp[bm,ah,AV.aC,aj,ag,Cn,ri],by simp[aL,aI,ai,an,aj,AV.aC,ag,ae,-acU,Cn,ri],rfl,rfl⟩) ?_;refine W6 (r:=r) PN ho bd ?_
  simp only[go_sem];apply a8;unfold Cn;refine af rfl ?_;simp only[go_sem,hw];exact⟨bd,(aH.cN [(0,0),(1,1)] ⟨by simp[bm,ah,AV.aC,aj,ag,Cn,b0],by simp[aL,aI,ai,an,aj,AV.aC,ag,ae,-acU,Cn,b0],rfl,rfl⟩)⟩
 ·have Cl:i=r.n:=by omega
  subst Cl;have aQ:¬(r.n:Int)<r.n:=by omega
  unfold Cn;refine J λK hK=>?_;simp only[go_sem,aQ];apply hK;refine aa λK1 a8=>?_;refine aK ?_;apply aZ;show KE _;apply fK;have he:Rl.mk r.n (vS r.n r.rows r.n)=r.W1:=rfl;rw[he];refine J λK hK=>?_;simp only[go_sem,ac3,b6 hi,bu hi,dJ,eY hi (bu h0),bu h0,ac2,acV];apply hK;apply ak;refine aD (.agg (r.W1.cells.map .d)) (by simp[bB,aV,bK,ah,ai,an,fk,b6 hi]) (by simp[AV.aC,aj]) ⟨rfl,rfl⟩
def iH.ok (l:iH):Prop:=l.jl.length=4
section
variable{l:iH}
theorem dH (h:l.ok):(l.cells.map AV.d).length=5:=by have h':l.jl.length=4:=h;simp[iH.cells,h']
theorem mn (h:l.ok):l.cells.length=5:=by have h':l.jl.length=4:=h;simp[iH.cells,h']
theorem cZ (h:l.ok):aP (some 5) (l.cells.map AV.d)=some (.agg (l.cells.map AV.d)):=by
 simp only[aP,dH h,ac8 (Nat.le_of_eq (dH h))];rfl
theorem pM:aP none (l.cells.map AV.d)=some (aq l.pc):=rfl
theorem W7 (h:l.ok) {i:Nat} (hi:i<4):aP none ((l.cells.map AV.d).drop (1+i))=some (aq (l.jl.getD i 0)):=by
 have:i<l.jl.length:=by rw[show l.jl.length=4 from h];exact hi
 simp[aP,iH.cells,Nat.add_comm 1 i,adl,this]
theorem W8 {i:Nat} {x:Int}:(l.cells.map AV.d).set (1+i) (aq x)=(iH.mk l.pc (l.jl.set i x)).cells.map AV.d:=by
 simp[iH.cells,Nat.add_comm 1 i,List.map_set]
theorem yp {x:Int}:(l.cells.map AV.d).set 0 (aq x)=(iH.mk x l.jl).cells.map AV.d:=rfl
theorem mo:(l.cells.map AV.d).all j9=true:=eo _
theorem uS (h:l.ok) {cs:List AV} (hc:cs.length=5):putAt cs 0 (l.cells.map AV.d)=l.cells.map AV.d:=gZ (by rw[dH h,hc])
theorem Cp {n:Nat}:o8 n (l.cells.map AV.d)=l.cells.map AV.d:=rfl
theorem gM:pJ.ok:=rfl
theorem yq: [aq 0,aq 0,aq 0,aq 0,aq 0]=pJ.cells.map AV.d:=rfl
theorem uT (h:l.ok) (dF v:Int):(eN l dF v).ok:=by
 unfold eN;split;·show(l.jl.set _ _).length=4;rw[List.length_set];exact h
 ·exact h
theorem AU (dF v:Int):(eN l dF v).pc=l.pc:=by unfold eN;split<;>rfl
end
theorem fX:o4 aM 135=some (some 5):=by kernel_rfl
theorem oq (o:wK) {l:iH} (h:l.ok):Pure aM 248 [.agg (o.cells.map .d),.agg (l.cells.map .d)] (aq (dZ o l)):=by
 refine ay func248 Pa ntmps248 results248 rfl ?_;unfold Va;refine J λK hK=>?_;simp only[go_sem,wK.cells];apply hK;refine aa λK1 a8=>?_;by_cases h0:0<=o.dF
 ·by_cases h1:o.dF<4
  ·have hg:=W7 h (i:=o.dF.toNat) (by omega);refine J λK hK=>?_;simp only[go_sem,eq_true h0,eq_true h1,decide_true];apply hK;refine aN ?_;refine J λK hK=>?_;simp only[go_sem,h0,h1,hg];apply hK;apply ak;simp only[go_sem];refine aD _ rfl rfl ⟨?_,rfl⟩;simp[ah,dZ,h0,h1]
  ·refine J λK hK=>?_;simp only[go_sem,eq_true h0,eq_false h1,decide_true,decide_false];apply hK;refine aK ?_;apply au;refine a8 _ (J λK hK=>?_);simp only[go_sem];apply hK;apply ak;simp only[go_sem];refine aD _ rfl rfl ⟨?_,rfl⟩;simp[ah,dZ,h1]
 ·refine J λK hK=>?_;simp only[go_sem,eq_false h0,decide_false];apply hK;refine aK ?_;apply au;refine a8 _ (J λK hK=>?_);simp only[go_sem];apply hK;apply ak;simp only[go_sem];refine aD _ rfl rfl ⟨?_,rfl⟩;simp[ah,dZ,h0]
theorem s9 {l:iH} (h:l.ok) (dF v:Int):bT aM 250 [.ptr 0 0,aq dF,aq v] [(0,l.cells.map .d)] λr m'=>r=.cu []/\m'=[(0,(eN l dF v).cells.map .d)]:=by
 have hl:=dH h;refine ay func250 Pb ntmps250 results250 rfl ?_;unfold Vb;by_cases h0:0<=dF
 ·by_cases h1:dF<4
  ·have bd:1+dF.toNat+1<=5:=by omega
   refine J λK hK=>?_;simp only[go_sem,eq_true h0,eq_true h1,decide_true];apply hK;refine aN ?_;refine af rfl ?_;simp only[go_sem,h0,h1,hl,bd,W8];exact⟨.cu [],by simp[bB,aV,bK,ah,ai,an,aB,eN,h0,h1],[(0,0)],[(0,(eN l dF v).cells.map .d)],rfl,rfl,by simp[aL,aI,ai,an,aB,aj,AV.aC,ag,ae,-acU,eN,h0,h1],by simp[AV.aC,aj,ag,eN,h0,h1]⟩
  ·refine J λK hK=>?_;simp only[go_sem,eq_true h0,eq_false h1,decide_true,decide_false];apply hK;refine aK ?_;apply au;exact⟨.cu [],by simp[bB,aV,bK,ah,ai,an,aB,eN,h1],[(0,0)],[(0,(eN l dF v).cells.map .d)],rfl,rfl,by simp[aL,aI,ai,an,aB,aj,AV.aC,ag,ae,-acU,eN,h1],by simp[AV.aC,aj,ag,eN,h1]⟩
 ·refine J λK hK=>?_;simp only[go_sem,eq_false h0,decide_false];apply hK;refine aK ?_;apply au;exact⟨.cu [],by simp[bB,aV,bK,ah,ai,an,aB,eN,h0],[(0,0)],[(0,(eN l dF v).cells.map .d)],rfl,rfl,by simp[aL,aI,ai,an,aB,aj,AV.aC,ag,ae,-acU,eN,h0],by simp[AV.aC,aj,ag,eN,h0]⟩
def ta (T:DV) (t:Int):DV:=match T with
 |.sl n ds=>if 0<=t/\t<n then ds.getD t.toNat .cE else .cE
 |_=>.cE
theorem yt {p:Prog} {T:DV} (hT:cP Ins.cells p.threads T) (t:Int):dM Ins.cells (eO p t) (ta T t):=by
 unfold eO;by_cases h:0<=t/\t<p.threads.length
 ·obtain⟨cs,d,rest,hTe,hd,hi,hs⟩:=hT.at t.toNat (by omega);have hg:cs.getD t.toNat .cE=d:=by
   rw[adl];have:=congrArg (λl=>l[0]?) hd;simp only[List.getElem?_drop,Nat.add_zero,List.getElem?_cons_zero]at this;rw[this];rfl
  have hc:p.threads.getD t.toNat []=p.threads[t.toNat]'(by omega):=by
   rw[adl,ac6];rfl
  rw[if_pos h,hTe,hc];simp only[ta];rw[if_pos h,hg];exact hs
 ·rw[if_neg h];have hz:ta T t=.cE:=by
   unfold ta;split
   ·rename_i n ds;have hlen:=hT.len;simp only[ir,adh]at hlen;subst hlen;rw[if_neg h]
   ·rfl
  rw[hz];exact⟨by simp,.inl ⟨rfl,rfl⟩⟩
theorem pN {p:Prog} {L I T:DV} (hT:cP Ins.cells p.threads T) (t:Int):Pure aM 197 [.agg [.d L,.d I,.d T],aq t] (.d (ta T t)):=by
 have hlen:=hT.len;refine ay func197 OQ ntmps197 results197 rfl ?_;unfold UQ;refine J λK hK=>?_;simp only[go_sem];apply hK;refine aa λK1 a8=>?_;by_cases h0:t<0
 ·refine J λK hK=>?_;simp only[go_sem,eq_true h0,decide_true];apply hK;refine aN ?_;refine J λK hK=>?_;simp only[go_sem];apply hK;apply ak;simp only[go_sem];refine aD _ rfl rfl ⟨?_,rfl⟩;have:¬0<=t:=by omega
  simp only[ah,if_true,ta];split;·rw[if_neg (by omega)]
  ·rfl
 ·by_cases h1:t<p.threads.length
  ·have Kq:¬(p.threads.length:Int)<=t:=by omega
   have h2:0<=t:=by omega
   obtain⟨cs,d,rest,hTe,hd,hi,hs⟩:=hT.at t.toNat (by omega);have hg:ta T t=d:=by
    rw[hTe];simp only[ta];rw[if_pos ⟨h2,h1⟩,adl];have:=congrArg (λl=>l[0]?) hd;simp only[List.getElem?_drop,Nat.add_zero,List.getElem?_cons_zero]at this;rw[this];rfl
   rw[hg];refine J λK hK=>?_;simp only[go_sem,eq_false h0,hlen,eq_false Kq,decide_false];apply hK;refine aK ?_;apply au;refine a8 _ (J λK hK=>?_);simp only[go_sem,hTe,h2,h1,acW,hi,hd];apply hK;apply ak;simp only[go_sem];refine aD _ rfl rfl ⟨?_,rfl⟩;rw[<-hTe,hg];simp[ah]
  ·have Kq:(p.threads.length:Int)<=t:=by omega
   refine J λK hK=>?_;simp only[go_sem,eq_false h0,hlen,eq_true Kq,decide_true,decide_false];apply hK;refine aN ?_;refine J λK hK=>?_;simp only[go_sem];apply hK;apply ak;simp only[go_sem];refine aD _ rfl rfl ⟨?_,rfl⟩;simp only[ah,if_true,ta];split
   ·rename_i n ds;simp only[ir,adh]at hlen;rw[if_neg (by omega)]
   ·rfl
def VJ (X:DV) (l:iH):St:=⟨[(0,.d X),(3,.ptr 0 0),(4,.ptr 1 0)],[(0,l.cells.map .d),(1,pJ.cells.map .d)],2⟩
def gN (code:List Ins) (l:iH):Option iH:=
 if 0<=l.pc/\l.pc<code.length then
  (let i:=code.getD l.pc.toNat fg
   if i.kind=5 then
    (let l':=eN l i.dF (if(fq i.op (dZ i.a l) (dZ i.b l)).2 then(fq i.op (dZ i.a l) (dZ i.b l)).1 else dZ i.a l)
     some {l' with pc:=l.pc+1})
   else if i.kind=6 then some {l with pc:=(if dZ i.a l=dZ i.b l then l.pc+min (max i.n 0) code.length else l.pc)+1}
   else none)
 else none
theorem ot (code:List Ins) (f:Nat) (l:iH):lj code (f+1) l=match gN code l with
 |none=>l
 |some l'=>lj code f l':=by
 unfold gN;rw[lj];by_cases h:0<=l.pc/\l.pc<code.length
 ·rw[if_pos h,if_pos h];simp only;by_cases h5:(code.getD l.pc.toNat fg).kind=5;·rw[if_pos h5,if_pos h5]
  ·rw[if_neg h5,if_neg h5];by_cases h6:(code.getD l.pc.toNat fg).kind=6;·rw[if_pos h6,if_pos h6]
   ·rw[if_neg h6,if_neg h6]
 ·rw[if_neg h,if_neg h]
theorem EU {code:List Ins} {l l':iH} (h:gN code l=some l'):0<=l.pc/\l.pc<code.length/\l.pc<l'.pc/\l'.pc<=l.pc+code.length+1:=by
 unfold gN at h;split at h
 ·rename_i hp;simp only at h;split at h;·cases h;simp only;omega
  ·split at h
   ·cases h;simp only;split<;>omega
   ·cases h
 ·cases h
theorem vT {code:List Ins} {l l':iH} (hl:l.ok) (h:gN code l=some l'):l'.ok:=by
 unfold gN at h;split at h
 ·simp only at h;split at h;·cases h;exact uT hl _ _
  ·split at h;·cases h;exact hl
   ·cases h
 ·cases h
theorem yu {code:List Ins}:∀(f:Nat) (l:iH),l.ok->(lj code f l).ok
 |0,l,h=>h
 |f+1,l,h=>by
  rw[ot];split;·exact h
  ·rename_i l' hs;exact yu f l' (vT h hs)
theorem ou {code:List Ins} {l:iH} (h:l.ok):(hU code l).ok:=yu _ _ h
theorem vU {code:List Ins} {X:DV} (hX:dM Ins.cells code X) (fw:code.length<=1000000) {l:iH} (h:l.ok):
 Pure aM 196 [.d X,.agg (l.cells.map .d)] (.agg ((hU code l).cells.map .d)):=by
 have hlen:=hX.len;have ck:(hU code l).ok:=ou h;refine ay func196 OP ntmps196 results196 rfl ?_;unfold UP;refine J λK hK=>?_;simp only[go_sem,yq,Cp];apply hK;refine aa λKE fK=>?_;apply aA;refine ax (S':=VJ X l) (aH.cN [(0,0),(1,1)] ⟨by simp[bm,ah,AV.aC,aj,ag,VJ],by simp[aL,aI,ai,an,aj,AV.aC,ag,ae,-acU,VJ],rfl,rfl⟩) ?_;refine fy (ι:={p:Nat×iH//p.2.ok/\lj code p.1 p.2=hU code l/\(p.2.pc<0\/(code.length:Int)-p.2.pc<p.1)}) (λp=>VJ X p.1.2) (λp=>p.1.1) ⟨(code.length+1,l),h,rfl,by simp only;omega⟩ ?_;rintro⟨⟨f,q⟩,hq,hf,hm⟩;simp only at hq hf hm;unfold Jc VJ;refine aa λK1 a8=>?_
 by_cases hp:0<=q.pc/\q.pc<code.length
 ·obtain⟨h0,h1⟩:=hp;obtain⟨f,rfl⟩:∃g,f=g+1:=⟨f-1,by omega⟩;rw[ot]at hf;obtain⟨cs,rest,iq,bU,b9⟩:=hX.at lg (by omega) q.pc.toNat (by omega);have hgi:code.getD q.pc.toNat fg=code[q.pc.toNat]'(by omega):=by
   rw[adl,ac6];rfl
  obtain⟨i,hi⟩:∃i,i=code[q.pc.toNat]'(by omega):=⟨_,rfl⟩
  rw[<-hi]at bU hgi;have k1:=oq i.a hq;have k2:=oq i.b hq;have k3:=Ss i.op (dZ i.a q) (dZ i.b q);have bd:q.pc.toNat*9<cs.length:=b9;have hw:ac9.wrap (q.pc+1)=q.pc+1:=wrap_i64 (by omega) (by omega);have back:∀(Q:Exit->St->Prop),(∀S',(∃j:{p:Nat×iH//p.2.ok/\lj code p.1 p.2=hU code l/\(p.2.pc<0\/(code.length:Int)-p.2.pc<p.1)},j.1.1<f+1/\aH (aw []) 72 S' (VJ X j.1.2))->Q .normal S')->
   ∀(t:Fr) (w:Mem) (n:Nat) (q':iH),ah t 0=.d X->ah t 3=.ptr 0 0->ah t 4=.ptr 1 0->ai w 0=some (q'.cells.map .d)->ai w 1=some (pJ.cells.map .d)->2<=n->
   gN code q=some {q' with pc:=ac9.wrap (q'.pc+1)}->
   fN aM (aw []) 72 (.region false [oM 67 (.c7 (.t 3) 0),oM 68 (.load none (.t 67)),oM 69 (.bin .add (.t 68) (.c (aq 1))),oM 70 (.c7 (.t 3) 0),⟨none,.store 1 (.t 70) (.t 69),none⟩] []) ⟨t,w,n⟩ Q:=by
   intro Q hQ t w n q' K9 h3 h4 hw0 q5 hn hs;have VK:q'.ok:=vT (l':={q' with pc:=ac9.wrap (q'.pc+1)}) hq hs;refine af (by simp[aw]) ?_;simp only[go_sem,h3,hw0,ac3,pM,dH VK,yp];rw[hs]at hf;have hpc:=EU hs;refine hQ _ ⟨⟨(f,{q' with pc:=ac9.wrap (q'.pc+1)}),VK,hf,?_⟩,Nat.lt_succ_self _,?_⟩;·simp only at hpc⊢;omega
   ·refine aH.cN [(0,0),(1,1)] ⟨by simp[VJ,bm,ah,AV.aC,ag,K9,h3,h4],by simp[VJ,aL,aI,bh,aj,AV.aC,ag,q5],rfl,rfl⟩
  refine J λK hK=>?_;simp only[go_sem,ac3,pM,eq_true h0,hlen,eq_true h1,decide_true];apply hK;refine aN ?_;apply au;apply a8;apply aA;refine J λK hK=>?_;simp only[go_sem,ac3,pM,iq,h0,h1,bd,bU,Ins.cells];apply hK;refine aa λK hK=>az rfl rfl ?_;simp only[go_sem,ac3,cZ hq];refine ea (k1) ?_;simp only[go_sem,ac3,cZ hq];refine ea (k2) ?_;simp only[go_sem];refine⟨rfl,hK _ ?_⟩;generalize hva:dZ i.a q=va at k3;generalize hvb:dZ i.b q=vb at k3;have zW:gN code q=if i.kind=5 then some {(eN q i.dF (if(fq i.op va vb).2 then(fq i.op va vb).1 else va))with pc:=q.pc+1}
   else if i.kind=6 then some {q with pc:=(if va=vb then q.pc+min (max i.n 0) code.length else q.pc)+1}else none:=by
   unfold gN;rw[if_pos ⟨h0,h1⟩];simp only[hgi,hva,hvb]
  refine aa λK3 Gs=>?_;refine J λK hK=>?_;simp only[go_sem];apply hK;apply aA;by_cases h5:i.kind=5
  ·rw[if_pos h5]at zW;refine J λK hK=>?_;simp only[go_sem,eq_true h5,decide_true];apply hK;refine aN ?_;refine aa λK4 Mi=>?_;refine J λK hK=>?_;simp only[go_sem];refine aF k3 rfl rfl ?_;simp only[go_sem];refine hK _ (J λK hK=>?_);simp only[go_sem];apply hK;have tl:∀(t:Fr) (a:Int) (n:Nat),3<=n->ah t 0=.d X->ah t 3=.ptr 0 0->ah t 4=.ptr 1 0->ah t 5=.ptr 2 0->ah t 6=aq a->a=(if(fq i.op va vb).2 then(fq i.op va vb).1 else va)->
    K4 ⟨t,[(0,q.cells.map .d),(1,pJ.cells.map .d),(2,i.cells.map .d)],n⟩:=by
    intro t a n hn e0 e3 e4 e5 e6 ha;subst ha;apply Mi;refine af (by simp[aw]) ?_;simp only[go_sem,e5,Ins.cells,e6,e3];refine bt [(0,0)] [.ptr 0 0,aq i.dF,aq (if(fq i.op va vb).2 then(fq i.op va vb).1 else va)] [(0,q.cells.map .d)] (nb:=1000) (s9 hq _ _) (by simp[bC]) (by first|(simp[aj,AV.aC,ag];done)|simp[aj,AV.aC,ag]) (by first|(simp[bF,bE,ag];done)|simp[bF,bE,ag]) (by simp[handed,ag,ai,an,aB,aj,AV.aC,bF,bE]) rfl ?_;rintro r0 m' ⟨rfl,rfl⟩;simp only[go_sem,bn,bL,bN,ai,an,aB,bX,ag,aj,bG,AV.aC,adj,adb,adg,adi,adm,ac5];apply Gs
    refine back _ (λS' h=>h) _ _ _ (eN q i.dF (if(fq i.op va vb).2 then(fq i.op va vb).1 else va)) ?_ ?_ ?_ ?_ ?_ ?_ ?_<;>(try(simp[ah,ai,e0,e3,e4];done));·simp[aw];omega
    ·rw[zW,AU,hw]
   cases hb:(fq i.op va vb).2
   ·refine aK ?_ (by simp[ev,ah,hb]);apply au;simp only[go_sem];refine tl _ va _ (by omega) ?_ ?_ ?_ ?_ ?_ ?_<;>simp[ah,iq,hb]
   ·refine aN ?_ (by simp[ev,ah,hb]);refine af rfl ?_;simp only[go_sem];refine tl _ (fq i.op va vb).1 _ (by omega) ?_ ?_ ?_ ?_ ?_ ?_<;>simp[ah,iq,hb]
  ·rw[if_neg h5]at zW;refine J λK hK=>?_;simp only[go_sem,eq_false h5,decide_false];apply hK;refine aK ?_;by_cases h6:i.kind=6
   ·rw[if_pos h6]at zW;refine J λK hK=>?_;simp only[go_sem,eq_true h6,decide_true];apply hK;refine aN ?_;by_cases hv:va=vb
    ·rw[if_pos hv]at zW;have hmx:(if i.n<0 then 0 else i.n)=max i.n 0:=by omega
     have Rh:(if(code.length:Int)<max i.n 0 then(code.length:Int)else max i.n 0)=min (max i.n 0) code.length:=by omega
     have Dz:ac9.wrap (q.pc+min (max i.n 0) code.length)=q.pc+min (max i.n 0) code.length:=wrap_i64 (by omega) (by omega);have Zy:ac9.wrap (q.pc+min (max i.n 0) code.length+1)=q.pc+min (max i.n 0) code.length+1:=wrap_i64 (by omega) (by omega);refine J λK hK=>?_;simp only[go_sem,eq_true hv,decide_true];apply hK;refine aN ?_;refine af rfl ?_;simp only[go_sem,ac3,pM,hmx,Rh,Dz,dH hq,yp,ir];apply Gs;refine back _ (λS' h=>h) _ _ _ {q with pc:=q.pc+min (max i.n 0) code.length} ?_ ?_ ?_ ?_ ?_ ?_ ?_<;>(try(simp[ah,ai,iq];done));rw[zW,Zy]
    ·rw[if_neg hv]at zW;refine J λK hK=>?_;simp only[go_sem,eq_false hv,decide_false];apply hK;refine aK ?_;apply au;simp only[go_sem];apply Gs;refine back _ (λS' h=>h) _ _ _ q ?_ ?_ ?_ ?_ ?_ ?_ ?_<;>(try(simp[ah,ai,iq];done));rw[zW,hw]
   ·rw[if_neg h6]at zW;refine J λK hK=>?_;simp only[go_sem,eq_false h6,decide_false];apply hK;refine aK ?_;have he:hU code l=q:=by rw[<-hf,zW]
    rw[he]at ck;refine J λK hK=>?_;simp only[go_sem,ac3,cZ ck,dH ck,mo,uS ck (dH gM),dH gM,ac2,acV];apply hK;apply ak;exact⟨.agg (q.cells.map .d),by simp[bB,aV,bK,ah,ai,an,aB,fX,cZ ck,he],[],[],rfl,rfl,by simp[aL,aI,ai,an,aB,aj,AV.aC,ag,ae,-acU,fX,cZ ck,he],by simp[AV.aC,aj,ag,fX,cZ ck,he]⟩
 ·have kH:gN code q=none:=by unfold gN;rw[if_neg hp]
  have he:hU code l=q:=by
   rw[<-hf];cases f with
   |zero=>rfl
   |succ f=>rw[ot,kH]
  have go:∀(t:Fr) (n:Nat),ah t 0=.d X->ah t 3=.ptr 0 0->ah t 4=.ptr 1 0->KE ⟨t,[(0,q.cells.map .d),(1,pJ.cells.map .d)],n+2⟩:=by
   intro t n e0 e3 e4;rw[he]at ck;apply fK;refine aa λK hK=>af (by simp[aw]) ?_;simp only[go_sem,e3,e4,ac3,cZ ck,dH ck,mo,uS ck (dH gM),dH gM,ac2,acV];apply hK;apply ak;exact⟨.agg (q.cells.map .d),by simp[bB,aV,bK,ah,ai,an,aB,fX,cZ ck,he,e4],[],[],rfl,rfl,by simp[aL,aI,ai,an,aB,aj,AV.aC,ag,ae,-acU,fX,cZ ck,he,e4],by simp[AV.aC,aj,ag,fX,cZ ck,he,e4]⟩
  by_cases h0:0<=q.pc
  ·have h1:¬q.pc<code.length:=by omega
   refine J λK hK=>?_;simp only[go_sem,ac3,pM,eq_true h0,hlen,eq_false h1,decide_true,decide_false];apply hK;refine aK ?_;apply aZ;exact go _ 0 (by simp[ah]) (by simp[ah]) (by simp[ah])
  ·refine J λK hK=>?_;simp only[go_sem,ac3,pM,eq_false h0,decide_false];apply hK;refine aK ?_;apply aZ;exact go _ 0 (by simp[ah]) (by simp[ah]) (by simp[ah])
def rO (p:Prog):Prop:=∀l∈p.threads,l.length<=1000000
theorem tb {p:Prog} (h:rO p) (t:Int):(eO p t).length<=1000000:=by
 unfold eO;split
 ·rename_i ht;rw[adl,ac6 (by omega)];exact h _ (adt _)
 ·simp
section
variable{p:Prog} {L I T:DV}
theorem yv (t:Int):(kK p t).ok:=ou gM
theorem Hw (hT:cP Ins.cells p.threads T) (hs:rO p) (t:Int):Pure aM 124 [.agg [.d L,.d I,.d T],aq t] (.agg ((kK p t).cells.map .d)):=by
 have k1:=pN (L:=L) (I:=I) hT t;have k2:=vU (yt hT t) (tb hs t) gM;have ck:(kK p t).ok:=yv t;refine ay func124 Oq ntmps124 results124 rfl ?_;unfold Uz;refine J λK hK=>?_;simp only[go_sem,yq,Cp];refine hK _ (J λK hK=>?_);simp only[go_sem];refine aY (k1) ?_;simp only[go_sem,yq];refine aY (k2) ?_;simp only[go_sem,dH gM];have he:hU (eO p t) pJ=kK p t:=rfl;rw[he];simp only[go_sem,dH ck,mn ck,mo,uS ck (dH gM),dH gM,ac2,acV];apply hK;apply ak
 exact⟨.agg ((kK p t).cells.map .d),by simp[bB,aV,bK,ah,ai,an,aB,fX,cZ ck],[],[],rfl,rfl,by simp[aL,aI,ai,an,aB,aj,AV.aC,ag,ae,-acU,fX,cZ ck],by simp[AV.aC,aj,ag,fX,cZ ck]⟩
def dv (o:Option Ins):AV:=.cu [.agg ((o.getD fg).cells.map .d),.d (.bool o.isSome)]
theorem qy (hT:cP Ins.cells p.threads T) (t:Int) {l:iH} (h:l.ok):
 Pure aM 243 [.agg [.d L,.d I,.d T],aq t,.agg (l.cells.map .d)] (dv (dt p t l)):=by
 have k1:=pN (L:=L) (I:=I) hT t;have hX:=yt hT t;have hlen:=hX.len;refine ay func243 O7 ntmps243 results243 rfl ?_;unfold U7;refine J λK hK=>?_;simp only[go_sem];refine hK _ (J λK hK=>?_);simp only[go_sem];refine aY (k1) ?_;simp only[go_sem];apply hK;refine aa λK1 a8=>?_;by_cases h0:l.pc<0
 ·have hn:dt p t l=none:=by unfold dt;rw[if_neg (by omega)]
  refine J λK hK=>?_;simp only[go_sem,ac3,pM,eq_true h0,decide_true];apply hK;refine aN ?_;refine J λK hK=>?_;simp only[go_sem];apply hK;apply ak;exact⟨dv (dt p t l),by simp[bB,aV,bK,ah,ai,an,aB,dv,hn,fg,Ins.cells,aP,show o4 aM 82=some (some 9) by kernel_rfl],[],[],rfl,rfl,by simp[aL,aI,ai,an,aB,aj,AV.aC,ag,ae,-acU,dv,hn,fg,Ins.cells,aP,show o4 aM 82=some (some 9) by kernel_rfl],by simp[AV.aC,aj,ag,dv,hn,fg,Ins.cells,aP,show o4 aM 82=some (some 9) by kernel_rfl]⟩
 ·by_cases h1:l.pc<(eO p t).length
  ·have Kq:¬((eO p t).length:Int)<=l.pc:=by omega
   have h2:0<=l.pc:=by omega
   obtain⟨cs,rest,iq,bU,b9⟩:=hX.at lg (by omega) l.pc.toNat (by omega);have hgi:(eO p t).getD l.pc.toNat fg=(eO p t)[l.pc.toNat]'(by omega):=by
    rw[adl,ac6];rfl
   obtain⟨i,hi⟩:∃i,i=(eO p t)[l.pc.toNat]'(by omega):=⟨_,rfl⟩
   rw[<-hi]at bU hgi;have hn:dt p t l=if 1<=i.kind/\i.kind<=4 then some i else none:=by unfold dt;rw[if_pos ⟨h2,h1⟩];simp only[hgi]
   have bd:l.pc.toNat*9<cs.length:=b9;refine J λK hK=>?_;simp only[go_sem,ac3,pM,eq_false h0,hlen,eq_false Kq,decide_false];apply hK;refine aK ?_;apply au;refine a8 _ (J λK hK=>?_);simp only[go_sem,ac3,pM,iq,h2,h1,bd,bU,Ins.cells];apply hK;refine aa λK2 fx=>?_;by_cases h3:i.kind<1
   ·rw[if_neg (by omega)]at hn;refine J λK hK=>?_;simp only[go_sem,eq_true h3,decide_true];apply hK;refine aN ?_;refine J λK hK=>?_;simp only[go_sem];apply hK;apply ak;exact⟨dv (dt p t l),by simp[bB,aV,bK,ah,ai,an,aB,dv,hn,fg,Ins.cells,aP,show o4 aM 82=some (some 9) by kernel_rfl],[],[],rfl,rfl,by simp[aL,aI,ai,an,aB,aj,AV.aC,ag,ae,-acU,dv,hn,fg,Ins.cells,aP,show o4 aM 82=some (some 9) by kernel_rfl],by simp[AV.aC,aj,ag,dv,hn,fg,Ins.cells,aP,show o4 aM 82=some (some 9) by kernel_rfl]⟩
   ·by_cases h4:4<i.kind
    ·rw[if_neg (by omega)]at hn;refine J λK hK=>?_;simp only[go_sem,eq_false h3,eq_true h4,decide_true,decide_false];apply hK;refine aN ?_;refine J λK hK=>?_;simp only[go_sem];apply hK;apply ak;exact⟨dv (dt p t l),by simp[bB,aV,bK,ah,ai,an,aB,dv,hn,fg,Ins.cells,aP,show o4 aM 82=some (some 9) by kernel_rfl],[],[],rfl,rfl,by simp[aL,aI,ai,an,aB,aj,AV.aC,ag,ae,-acU,dv,hn,fg,Ins.cells,aP,show o4 aM 82=some (some 9) by kernel_rfl],by simp[AV.aC,aj,ag,dv,hn,fg,Ins.cells,aP,show o4 aM 82=some (some 9) by kernel_rfl]⟩
    ·rw[if_pos (by omega)]at hn;refine J λK hK=>?_;simp only[go_sem,eq_false h3,eq_false h4,decide_true,decide_false];apply hK;refine aK ?_;apply au;refine fx _ (J λK hK=>?_);simp only[go_sem];apply hK;apply ak;exact⟨dv (dt p t l),by simp[bB,aV,bK,ah,ai,an,aB,dv,hn,fg,Ins.cells,aP,show o4 aM 82=some (some 9) by kernel_rfl],[],[],rfl,rfl,by simp[aL,aI,ai,an,aB,aj,AV.aC,ag,ae,-acU,dv,hn,fg,Ins.cells,aP,show o4 aM 82=some (some 9) by kernel_rfl],by simp[AV.aC,aj,ag,dv,hn,fg,Ins.cells,aP,show o4 aM 82=some (some 9) by kernel_rfl]⟩
  ·have Kq:((eO p t).length:Int)<=l.pc:=by omega
   have hn:dt p t l=none:=by unfold dt;rw[if_neg (by omega)]
   refine J λK hK=>?_;simp only[go_sem,ac3,pM,eq_false h0,hlen,eq_true Kq,decide_true,decide_false];apply hK;refine aN ?_;refine J λK hK=>?_;simp only[go_sem];apply hK;apply ak;exact⟨dv (dt p t l),by simp[bB,aV,bK,ah,ai,an,aB,dv,hn,fg,Ins.cells,aP,show o4 aM 82=some (some 9) by kernel_rfl],[],[],rfl,rfl,by simp[aL,aI,ai,an,aB,aj,AV.aC,ag,ae,-acU,dv,hn,fg,Ins.cells,aP,show o4 aM 82=some (some 9) by kernel_rfl],by simp[AV.aC,aj,ag,dv,hn,fg,Ins.cells,aP,show o4 aM 82=some (some 9) by kernel_rfl]⟩
theorem EV {t:Int} {l:iH} {i:Ins} (h:dt p t l=some i):0<=l.pc/\l.pc<(eO p t).length:=by
 unfold dt at h;split at h;·assumption
 ·cases h
theorem yw {t:Int} {l:iH} (h:l.ok) (v:Int):(gq p t l v).ok:=by
 unfold gq;split;·exact h
 ·simp only;split;·exact ou (uT h _ _)
  ·exact ou h
theorem Hx (hT:cP Ins.cells p.threads T) (hs:rO p) (t:Int) {l:iH} (h:l.ok) (v:Int):
 Pure aM 255 [.agg [.d L,.d I,.d T],aq t,.agg (l.cells.map .d),aq v] (.agg ((gq p t l v).cells.map .d)):=by
 have k1:=qy (L:=L) (I:=I) hT t h;have k2:=pN (L:=L) (I:=I) hT t;have ck:(gq p t l v).ok:=yw h v;have Gp:=tb hs t;refine ay func255 Pg ntmps255 results255 rfl ?_;unfold Vg;refine J λK hK=>?_;simp only[go_sem,yq,Cp];refine hK _ (J λK hK=>?_);simp only[go_sem,ac3,cZ h];refine aF k1 (by simp[bF,bE]) (by simp[dv,bF,bE]) ?_;cases hn:dt p t l with
 |none=>
  have ha:gq p t l v=l:=by unfold gq;rw[hn]
  simp only[go_sem,dv,Option.getD_none,adb,fg,Ins.cells];apply hK;refine aa λK1 a8=>?_;refine J λK hK=>?_;simp only[go_sem];apply hK;refine aN ?_;rw[ha]at ck⊢;refine J λK hK=>?_;simp only[go_sem,ac3,cZ ck,dH ck,mo,uS ck (dH gM),dH gM,ac2,acV];apply hK;apply ak;exact⟨.agg (l.cells.map .d),by simp[bB,aV,bK,ah,ai,an,aB,fX,cZ ck],[],[],rfl,rfl,by simp[aL,aI,ai,an,aB,aj,AV.aC,ag,ae,-acU,fX,cZ ck],by simp[AV.aC,aj,ag,fX,cZ ck]⟩
 |some i=>
  have hpc:=EV hn;have hw:ac9.wrap (l.pc+1)=l.pc+1:=wrap_i64 (by omega) (by omega);have ha:gq p t l v=hU (eO p t) {(if i.kind=2\/i.kind=4 then eN l i.dF v else l)with pc:=l.pc+1}:=by unfold gq;rw[hn]
  simp only[go_sem,dv,adE,adj,Ins.cells];apply hK;refine aa λK1 a8=>?_;refine J λK hK=>?_;simp only[go_sem];apply hK;refine aK ?_;apply au;apply a8;have tail:∀(tt:Fr) (n:Nat) (q:iH),q.ok->q.pc=l.pc->ah tt 4=.ptr 0 0->ah tt 6=.ptr 1 0->ah tt 8=.ptr 2 0->ah tt 1=aq t->0<=n->gq p t l v=hU (eO p t) {q with pc:=l.pc+1}->
   fN aM (aw []) 42 (.seq (.region false [oM 33 (.c7 (.t 6) 0),oM 34 (.load none (.t 33)),oM 35 (.bin .add (.t 34) (.c (aq 1))),oM 36 (.c7 (.t 6) 0),⟨none,.store 1 (.t 36) (.t 35),none⟩] [])
    (.seq (.region true [oM 37 (.load (some 3) (.t 4)),oM 38 (.mv (.t 1)),oM 39 (.bW 197 [.t 37,.t 38]),oM 40 (.load (some 5) (.t 6)),oM 41 (.bW 196 [.t 39,.t 40]),⟨none,.store 5 (.t 8) (.t 41),none⟩] [0,0,3,0,12,31]) .ret)) ⟨tt,[(0,[.d L,.d I,.d T]),(1,q.cells.map .d),(2,pJ.cells.map .d),(3,i.cells.map .d)],n⟩
    (mZ aM #[.cell 8 135] (aw []) λr m'=>r=.agg ((gq p t l v).cells.map .d)/\m'=[]):=by
   intro tt n q hq hqp e4 e6 e8 e1 hn0 he;have VK:(iH.mk (l.pc+1) q.jl).ok:=hq;have k3:=vU (yt hT t) Gp VK;have Md:hU (eO p t) ⟨l.pc+1,q.jl⟩=gq p t l v:=he.symm;rw[Md]at k3;refine aa λK hK=>af (by simp[aw]) ?_;simp only[go_sem,e6,ac3,pM,hqp,hw,dH hq,mn hq,yp];apply hK;refine aa λK hK=>az rfl (by simp[aw]) ?_;simp only[go_sem,e4,e6,e8,e1,ac3];refine ea (k2) ?_;simp only[go_sem,cZ VK,e6,ac3];refine ea (k3) ?_;simp only[go_sem,e8,dH ck,mn ck,mo,uS ck (dH gM),dH gM,ac2,acV];refine⟨rfl,hK _ ?_⟩;apply ak
   exact⟨.agg ((gq p t l v).cells.map .d),by simp[bB,aV,bK,ah,ai,an,aB,fX,cZ ck,e8],[],[],rfl,rfl,by simp[aL,aI,ai,an,aB,aj,AV.aC,ag,ae,-acU,fX,cZ ck,e8],by simp[AV.aC,aj,ag,fX,cZ ck,e8]⟩
  refine aa λK2 fx=>?_;have tl2:∀(tt:Fr) (n:Nat),ah tt 4=.ptr 0 0->ah tt 6=.ptr 1 0->ah tt 8=.ptr 2 0->ah tt 9=.ptr 3 0->ah tt 3=aq v->ah tt 1=aq t->(i.kind=2\/i.kind=4)->
   fN aM (aw []) 42 (.region false [oM 29 (.c7 (.t 9) 1),oM 30 (.load none (.t 29)),oM 31 (.mv (.t 3)),oM 32 (.bW 250 [.t 6,.t 30,.t 31])] []) ⟨tt,[(0,[.d L,.d I,.d T]),(1,l.cells.map .d),(2,pJ.cells.map .d),(3,i.cells.map .d)],n⟩ (Exit.iy K2 (mZ aM #[.cell 8 135] (aw []) λr m'=>r=.agg ((gq p t l v).cells.map .d)/\m'=[])):=by
   intro tt n e4 e6 e8 e9 e3 e1 hk;rw[if_pos hk]at ha;refine af (by simp[aw]) ?_;simp only[go_sem,e6,e9,e3,Ins.cells];refine bt [(0,1)] [.ptr 0 0,aq i.dF,aq v] [(0,l.cells.map .d)] (nb:=1000) (s9 h _ _) (by simp[bC]) (by first|(simp[aj,AV.aC,ag];done)|simp[aj,AV.aC,ag]) (by first|(simp[bF,bE,ag];done)|simp[bF,bE,ag]) (by simp[handed,ag,ai,an,aB,aj,AV.aC,bF,bE]) rfl ?_;rintro r0 m' ⟨rfl,rfl⟩;simp only[go_sem,bn,bL,bN,ai,an,aB,bX,ag,aj,bG,AV.aC,adj,adb,adg,adi,adm,ac5];apply fx;refine tail _ _ _ (uT h i.dF v) (AU _ _) ?_ ?_ ?_ ?_ (by omega) ha<;>simp[ah,e4,e6,e8,e1]
  by_cases h2:i.kind=2
  ·refine J λK hK=>?_;simp only[go_sem,eq_true h2,decide_true];apply hK;refine aN ?_;exact tl2 _ _ rfl rfl rfl rfl rfl rfl (.inl h2)
  ·by_cases h4:i.kind=4
   ·refine J λK hK=>?_;simp only[go_sem,eq_false h2,eq_true h4,decide_true,decide_false];apply hK;refine aN ?_;exact tl2 _ _ rfl rfl rfl rfl rfl rfl (.inr h4)
   ·rw[if_neg (by omega)]at ha;refine J λK hK=>?_;simp only[go_sem,eq_false h2,eq_false h4,decide_true,decide_false];apply hK;refine aK ?_;apply au;simp only[go_sem];apply fx;exact tail _ _ _ h rfl rfl rfl rfl rfl (by omega) ha
end
end
end Go.Proofs.YtjfdjkageiemkaaGreatDoor
namespace Go.Jq
open Go
section
variable{α:Type} {enc:α->List DV} {w:Nat}
theorem jc (hw:∀a,(enc a).length=w):∀(l:List α),(l.flatMap enc).length=l.length*w
 | []=>by simp
 |a::l=>by rw[adr,adk,hw,jc hw l,ads,Nat.add_mul];omega
theorem qz (hw:∀a,(enc a).length=w):∀(l:List α) (i:Nat),(l.flatMap enc).drop (i*w)=(l.drop i).flatMap enc
 |l,0=>by simp
 | [],i+1=>by simp
 |a::l,i+1=>by
  rw[adr,show(i+1)*w=(enc a).length+i*w by rw[hw,Nat.add_mul];omega,List.drop_append,Nat.add_sub_cancel_left,qz hw l i,List.drop_of_length_le (by omega),adF,List.drop_succ_cons]
theorem rP (hw:∀a,(enc a).length=w):∀(l:List α) (i:Nat),(l.flatMap enc).take (i*w)=(l.take i).flatMap enc
 |l,0=>by simp
 | [],i+1=>by simp
 |a::l,i+1=>by
  rw[adr,show(i+1)*w=(enc a).length+i*w by rw[hw,Nat.add_mul];omega,List.take_append,List.take_succ_cons,adr,<-rP hw l i]
  congr 1
  ·exact ac8 (by omega)
  ·congr 1;omega
theorem AW {l:List α} {i:Nat} (x:α) (hi:i<l.length):l.set i x=l.take i++x::l.drop (i+1):=by
 rw[List.set_eq_take_append_cons_drop,if_pos hi]
variable{pre post:List DV} {l:List α}
theorem EW (hw:∀a,(enc a).length=w) {i:Nat} (hi:i<l.length):(pre++(l.flatMap enc++post)).drop (pre.length+i*w)=enc l[i]++((l.drop (i+1)).flatMap enc++post):=by
 rw[List.drop_append,List.drop_of_length_le (by omega),adF,show pre.length+i*w-pre.length=i*w by omega,List.drop_append,qz hw,List.drop_eq_getElem_cons hi,adr];have hle:i*w<=(l.flatMap enc).length:=by rw[jc hw];exact Nat.mul_le_mul_right _ (by omega)
 rw[show i*w-(l.flatMap enc).length=0 by omega,ac3,List.append_assoc]
theorem xe (hw:∀a,(enc a).length=w):(pre++(l.flatMap enc++post)).length=pre.length+l.length*w+post.length:=by
 rw[adk,adk,jc hw];omega
theorem Sw (hw:∀a,(enc a).length=w) {i:Nat} (hi:i<l.length) (x:α):
 putAt ((pre++(l.flatMap enc++post)).map AV.d) (pre.length+i*w) ((enc x).map AV.d)=(pre++((l.set i x).flatMap enc++post)).map AV.d:=by
 have hle:i*w+w<=l.length*w:=by
  have:=Nat.mul_le_mul_right w (show i+1<=l.length from hi);rw[Nat.add_mul]at this;omega
 rw[lO _ _ _ (by rw[acY,acY,hw,xe hw];omega),acY,hw,<-List.map_take,<-List.map_drop,<-adC,<-adC]
 congr 1
 have h1:(pre++(l.flatMap enc++post)).take (pre.length+i*w)=pre++(l.take i).flatMap enc:=by
  rw[List.take_append,ac8 (by omega),show pre.length+i*w-pre.length=i*w by omega,List.take_append,rP hw,
   show i*w-(l.flatMap enc).length=0 by rw[jc hw];omega]
  simp
 have h2:(pre++(l.flatMap enc++post)).drop (pre.length+i*w+w)=(l.drop (i+1)).flatMap enc++post:=by
  rw[show pre.length+i*w+w=(pre.length+i*w)+w by omega,<-List.drop_drop,EW hw hi,List.drop_append,hw];rw[List.drop_of_length_le (by rw[hw];omega)];simp
 rw[h1,h2,AW x hi,List.flatMap_append,adr];simp only[List.append_assoc]
end
end Go.Jq
namespace Go.Proofs.YtjfdjkageiemkaaGreatDoor
open Go Go.Jq
theorem gj (e:Entry):e.cells.length=3:=rfl
def Bf.ok (b:Bf):Prop:=b.l.length<=24
def Bf.pad (b:Bf):List Entry:=b.l++ada (24-b.l.length) cf
section
variable{b:Bf}
theorem yx:b.cells=[.int .i64 b.m,.int .i64 (b.l.length:Int)]++(b.pad.flatMap Entry.cells++[]):=by simp[Bf.cells,Bf.pad]
theorem xf (h:b.ok):b.pad.length=24:=by have:b.l.length<=24:=h;simp[Bf.pad];omega
theorem eV (h:b.ok):b.cells.length=74:=by rw[yx,xe gj,xf h];rfl
theorem fo (h:b.ok):(b.cells.map AV.d).length=74:=by rw[acY,eV h]
theorem dV (h:b.ok):aP (some 74) (b.cells.map AV.d)=some (.agg (b.cells.map AV.d)):=by
 simp only[aP,fo h,ac8 (Nat.le_of_eq (fo h))];rfl
theorem EX:aP none (b.cells.map AV.d)=some (aq b.m):=rfl
theorem PQ:aP none ((b.cells.map AV.d).drop 1)=some (aq b.l.length):=rfl
theorem mq:(b.cells.map AV.d).all j9=true:=eo _
theorem yy (h:b.ok) {cs:List AV} (hc:cs.length=74):putAt cs 0 (b.cells.map AV.d)=b.cells.map AV.d:=gZ (by rw[fo h,hc])
theorem Hy {n:Nat}:o8 n (b.cells.map AV.d)=b.cells.map AV.d:=rfl
theorem Sx (h:b.ok) {i:Nat} (hi:i<24):b.cells.drop (2+i*3)=(b.pad.getD i cf).cells++((b.pad.drop (i+1)).flatMap Entry.cells):=by
 have hl:=xf h;have:=EW (pre:=[.int .i64 b.m,.int .i64 (b.l.length:Int)]) (post:=[]) gj (l:=b.pad) (i:=i) (by omega);rw[yx];rw[adl,ac6 (by omega:i<b.pad.length),adE];simpa using this
theorem Hz (h:b.ok) {i:Nat} (hi:i<24):aP none ((b.cells.map AV.d).drop (2+i*3))=some (aq ((b.pad.getD i cf).loc))
 /\aP none ((b.cells.map AV.d).drop (2+i*3+1))=some (aq ((b.pad.getD i cf).value))
 /\aP none ((b.cells.map AV.d).drop (2+i*3+2))=some (aq ((b.pad.getD i cf).id)):=by
 have hd:=Sx h hi;refine⟨?_,?_,?_⟩;·rw[<-List.map_drop,hd];rfl
 ·rw[<-List.drop_drop,<-List.map_drop,hd];rfl
 ·rw[<-List.drop_drop,<-List.map_drop,hd];rfl
theorem HA (h:b.ok) {i:Nat} (hi:i<b.l.length):b.pad.getD i cf=b.l[i]:=by
 unfold Bf.pad;rw[adl,List.getElem?_append,if_pos hi,ac6 hi];rfl
end
theorem fY:o4 Tryz.prog 213=some (some 74):=by kernel_rfl
theorem Cq (m:Int):(o1 m).ok:=by simp[o1,Bf.ok]
def Mj:Bf:=⟨0,[]⟩
theorem yz:Mj.ok:=by simp[Mj,Bf.ok]
theorem Jw: [aq 0,aq 0,aq 0,aq 0,aq 0,aq 0,aq 0,aq 0,aq 0,aq 0,aq 0,aq 0,aq 0,aq 0,aq 0,aq 0,aq 0,aq 0,aq 0,aq 0,aq 0,aq 0,aq 0,aq 0,aq 0,aq 0,aq 0,aq 0,aq 0,aq 0,aq 0,aq 0,aq 0,aq 0,aq 0,aq 0,aq 0,aq 0,aq 0,aq 0,aq 0,aq 0,aq 0,aq 0,aq 0,aq 0,aq 0,aq 0,aq 0,aq 0,aq 0,aq 0,aq 0,aq 0,aq 0,aq 0,aq 0,aq 0,aq 0,aq 0,aq 0,aq 0,aq 0,aq 0,aq 0,aq 0,aq 0,aq 0,aq 0,aq 0,aq 0,aq 0,aq 0,aq 0]=Mj.cells.map AV.d:=rfl
theorem EY (m:Int):Pure Tryz.prog 125 [aq m] (.agg ((o1 m).cells.map .d)):=by
 have h0:=yz;have hn:=Cq m;refine ay Tryz.func125 Ot Tryz.ntmps125 Tryz.results125 rfl ?_;unfold UA;refine J λK hK=>?_;simp only[go_sem,Jw,Hy];apply hK;refine aa λK1 a8=>?_;have tail:∀(t:Fr) (n:Nat) (q:Int),ah t 0=aq q->ah t 2=.ptr 0 0->(o1 m)=⟨q,[]⟩->K1 ⟨t,[(0,Mj.cells.map .d)],n⟩:=by
  intro t n q e0 e2 hq;have hc:(Mj.cells.map AV.d).set 0 (aq q)=(o1 m).cells.map AV.d:=by rw[hq];rfl
  apply a8;refine aa λK hK=>af (by simp[aw]) ?_;simp only[go_sem,e0,e2,Jw,fo h0,eV h0,hc,fo hn,eV hn,mq,yy hn (fo h0),ac2,acV];apply hK;apply ak;exact⟨.agg ((o1 m).cells.map .d),by simp[bB,aV,bK,ah,ai,an,aB,fY,dV hn,e2],[],[],rfl,rfl,by simp[aL,aI,ai,an,aB,aj,AV.aC,ag,ae,-acU,fY,dV hn,e2],by simp[AV.aC,aj,ag,fY,dV hn,e2]⟩
 by_cases h2:m=2
 ·refine J λK hK=>?_;simp only[go_sem,eq_true h2,decide_true,Bool.not_true];apply hK;refine aK ?_;apply au;simp only[go_sem];exact tail _ _ m rfl rfl (by simp[o1,h2])
 ·by_cases h3:m=3
  ·refine J λK hK=>?_;simp only[go_sem,eq_false h2,eq_true h3,decide_true,decide_false,Bool.not_true,Bool.not_false];apply hK;refine aK ?_;apply au;simp only[go_sem];exact tail _ _ m rfl rfl (by simp[o1,h3])
  ·refine J λK hK=>?_;simp only[go_sem,eq_false h2,eq_false h3,decide_true,decide_false,Bool.not_true,Bool.not_false];apply hK;refine aN ?_;refine af rfl ?_;simp only[go_sem];exact tail _ _ 0 rfl rfl (by simp[o1,h2,h3])
theorem yA (b:Bf):Pure Tryz.prog 244 [.agg (b.cells.map .d)] (.d (.bool b.empty)):=by
 refine ay Tryz.func244 O8 Tryz.ntmps244 Tryz.results244 rfl ?_;unfold U8;refine J λK hK=>?_;simp only[go_sem];refine hK _ (J λK hK=>?_);simp only[go_sem,ac3,PQ];apply hK;apply ak;simp only[go_sem];refine aD _ rfl rfl ⟨?_,rfl⟩;cases hb:b.l with
 |nil=>simp[ah,Bf.empty,hb]
 |cons x r=>
  have:¬(r.length:Int)+1=0:=by omega
  simp[ah,Bf.empty,hb,this]
end Go.Proofs.YtjfdjkageiemkaaGreatDoor
namespace Go.Proofs.YtjfdjkageiemkaaGreatDoor
open Go.Proofs.Tryz
open Go.Proofs.Tryz renaming prog → aM
section
open Go Go.Jq
def j0 (b:Bf) (loc:Int):Int:=match b.which loc with
 |none=>-1
 |some i=>i
theorem EZ {b:Bf} {loc:Int} {i:Nat} (h:b.which loc=some i):i<b.l.length:=by
 unfold Bf.which at h;rw[List.findIdx?_eq_some_iff_getElem]at h;exact h.1
theorem td {b:Bf} (hb:b.ok) (loc:Int):Pure aM 308 [.agg (b.cells.map .d),aq loc] (aq (j0 b loc)):=by
 have hl:b.l.length<=24:=hb;refine ay func308 PA ntmps308 results308 rfl ?_;unfold VA;refine J λK hK=>?_;simp only[go_sem];apply hK;refine aa λKE fK=>?_;refine J λK hK=>?_;simp only[go_sem,ac3,PQ];apply hK;apply aA;refine ax (S':=⟨[(8,aq (0:Nat)),(7,aq b.l.length),(2,.ptr 0 0),(1,aq loc)],[(0,b.cells.map .d)],1⟩) (aH.cN [(0,0)] ⟨by simp[bm,ah,AV.aC,aj,ag],by simp[aL,aI,ai,an,aj,AV.aC,ag,ae,-acU],rfl,rfl⟩) ?_
 refine jW (λi=>⟨[(8,aq (i:Nat)),(7,aq b.l.length),(2,.ptr 0 0),(1,aq loc)],[(0,b.cells.map .d)],1⟩) (λi=>∀j (hj:j<b.l.length),j<i->(decide (b.m=2)||decide (b.l[j].loc=loc))=false) b.l.length (λj _ h=>absurd h (by omega)) ?_;intro i hi hp;unfold Jp;by_cases bd:i<b.l.length
 ·have aQ:(i:Int)<b.l.length:=by omega
  have uU:(i:Int)<24:=by omega
  have hw:=c8 (i:=i) (by omega);have hg:=(Hz hb (i:=i) (by omega)).1;rw[HA hb bd]at hg;have found:(decide (b.m=2)||decide (b.l[i].loc=loc))=true->j0 b loc=i:=by
   intro h;have:b.which loc=some i:=by
    unfold Bf.which;rw[List.findIdx?_eq_some_iff_getElem];exact⟨bd,h,λj hj=>by rw[hp j (by omega) hj];simp⟩
   unfold j0;rw[this]
  have next:(decide (b.m=2)||decide (b.l[i].loc=loc))=false->∀j (hj:j<b.l.length),j<i+1->(decide (b.m=2)||decide (b.l[j].loc=loc))=false:=by
   intro h j hj sc;by_cases e:j=i;·subst e;exact h
   ·exact hp j hj (by omega)
  refine J λK hK=>?_;simp only[go_sem,aQ];apply hK;refine aa λK1 a8=>?_;refine aN ?_;apply au;apply a8;refine aa λK1 a8=>?_;apply aA;refine J λK hK=>?_;simp only[go_sem];apply hK;by_cases hm:b.m=2
  ·refine J λK hK=>?_;simp only[go_sem,ac3,EX,eq_true hm,decide_true];apply hK;refine aN ?_;refine J λK hK=>?_;simp only[go_sem];apply hK;apply ak;exact⟨aq (i:Nat),by simp[bB,aV,bK,ah,ai,an,aB,found (by simp[hm])],[],[],rfl,rfl,by simp[aL,aI,ai,an,aB,aj,AV.aC,ag,ae,-acU,found (by simp[hm])],by simp[AV.aC,aj,ag,found (by simp[hm])]⟩
  ·by_cases he:b.l[i].loc=loc
   ·refine J λK hK=>?_;simp only[go_sem,ac3,EX,eq_false hm,acX,uU,acW,hg,eq_true he,decide_true,decide_false];apply hK;refine aN ?_;refine J λK hK=>?_;simp only[go_sem];apply hK;apply ak;exact⟨aq (i:Nat),by simp[bB,aV,bK,ah,ai,an,aB,found (by simp[he])],[],[],rfl,rfl,by simp[aL,aI,ai,an,aB,aj,AV.aC,ag,ae,-acU,found (by simp[he])],by simp[AV.aC,aj,ag,found (by simp[he])]⟩
   ·refine J λK hK=>?_;simp only[go_sem,ac3,EX,eq_false hm,acX,uU,acW,hg,eq_false he,decide_true,decide_false];apply hK;refine aK ?_;apply au;simp only[go_sem];apply a8;refine af rfl ?_;simp only[go_sem,hw];refine⟨bd,next (by simp[hm,he]),?_⟩;exact aH.cN [(0,0)] ⟨by simp[bm,ah,AV.aC,aj,ag],by simp[aL,aI,ai,an,aB,aj,AV.aC,ag,ae,-acU],rfl,rfl⟩
 ·have dh:i=b.l.length:=by omega
  have aQ:¬(i:Int)<b.l.length:=by omega
  have hz:j0 b loc=-1:=by
   have:b.which loc=none:=by
    unfold Bf.which;rw[List.findIdx?_eq_none_iff];intro e he;obtain⟨j,hj,rfl⟩:=List.mem_iff_getElem.1 he;exact hp j hj (by omega)
   unfold j0;rw[this]
  refine J λK hK=>?_;simp only[go_sem,aQ];apply hK;refine aa λK1 a8=>?_;refine aK ?_;apply aZ;show KE _;refine fK _ (J λK hK=>?_);simp only[go_sem];apply hK;apply ak;exact⟨aq (-1),by simp[bB,aV,bK,ah,ai,an,aB,hz],[],[],rfl,rfl,by simp[aL,aI,ai,an,aB,aj,AV.aC,ag,ae,-acU,hz],by simp[AV.aC,aj,ag,hz]⟩
def nw (o:Option Entry):AV:=.cu [aq ((o.getD cf).loc),aq ((o.getD cf).value),aq ((o.getD cf).id),.d (.bool o.isSome)]
theorem vV {b:Bf} (hb:b.ok) (loc:Int):Pure aM 245 [.agg (b.cells.map .d),aq loc] (nw (b.eP loc)):=by
 have hl:b.l.length<=24:=hb;have k:=td hb loc;refine ay func245 O9 ntmps245 results245 rfl ?_;unfold U9;refine J λK hK=>?_;simp only[go_sem];refine hK _ (J λK hK=>?_);simp only[go_sem,ac3,dV hb];refine aY (k) ?_;simp only[go_sem];apply hK;refine aa λK1 a8=>?_;cases PR:b.which loc with
 |none=>
  have Ng:j0 b loc=-1:=by unfold j0;rw[PR]
  have ho:b.eP loc=none:=by unfold Bf.eP;rw[PR];rfl
  refine J λK hK=>?_;simp only[go_sem,Ng];apply hK;refine aN ?_;refine J λK hK=>?_;simp only[go_sem];apply hK;apply ak;exact⟨nw (b.eP loc),by simp[bB,aV,bK,ah,ai,an,aB,nw,ho,cf],[],[],rfl,rfl,by simp[aL,aI,ai,an,aB,aj,AV.aC,ag,ae,-acU,nw,ho,cf],by simp[AV.aC,aj,ag,nw,ho,cf]⟩
 |some i=>
  have bd:=EZ PR;have Ng:j0 b loc=i:=by unfold j0;rw[PR]
  have ho:b.eP loc=some b.l[i]:=by unfold Bf.eP;rw[PR];simp[bd]
  have uU:(i:Int)<24:=by omega
  have h0:¬(i:Int)<0:=by omega
  obtain⟨g0,g1,g2⟩:=Hz hb (i:=i) (by omega);rw[HA hb bd]at g0 g1 g2;refine J λK hK=>?_;simp only[go_sem,Ng,eq_false h0,decide_false];apply hK;refine aK ?_;apply au;apply a8;refine aa λK hK=>az rfl rfl ?_;simp only[go_sem,acX,uU,acW,g0,g1,g2];refine⟨rfl,hK _ ?_⟩;apply ak;exact⟨nw (b.eP loc),by simp[bB,aV,bK,ah,ai,an,aB,nw,ho],[],[],rfl,rfl,by simp[aL,aI,ai,an,aB,aj,AV.aC,ag,ae,-acU,nw,ho],by simp[AV.aC,aj,ag,nw,ho]⟩
def mu (o:Option Entry):AV:=.cu [aq ((o.getD cf).value),aq ((o.getD cf).id),.d (.bool o.isSome)]
theorem yB (l:List Entry) (e:Entry) (loc:Int):qu (l++[e]) loc=if e.loc=loc then some e else qu l loc:=by
 induction l with
 |nil=>rfl
 |cons x l ih=>
  simp only[List.cons_append,qu,ih];by_cases h:e.loc=loc;·simp[h]
  ·simp[h]
theorem vW {b:Bf} (hb:b.ok) (loc:Int):Pure aM 251 [.agg (b.cells.map .d),aq loc] (mu (b.lR loc)):=by
 have hl:b.l.length<=24:=hb;have hw0:ac9.wrap ((b.l.length:Int)-1)=(b.l.length:Int)-1:=wrap_i64 (by omega) (by omega);refine ay func251 Pc ntmps251 results251 rfl ?_;unfold Vc;refine J λK hK=>?_;simp only[go_sem];apply hK;refine aa λKE fK=>?_;refine J λK hK=>?_;simp only[go_sem,ac3,PQ,hw0];apply hK;apply aA;refine ax (S':=⟨[(7,aq ((b.l.length:Int)-1)),(2,.ptr 0 0),(1,aq loc)],[(0,b.cells.map .d)],1⟩) (aH.cN [(0,0)] ⟨by simp[bm,ah,AV.aC,aj,ag],by simp[aL,aI,ai,an,aj,AV.aC,ag,ae,-acU],rfl,rfl⟩) ?_
 refine fy (ι:={n:Nat//n<=b.l.length/\qu (b.l.take n) loc=b.lR loc}) (λn=>⟨[(7,aq ((n.1:Int)-1)),(2,.ptr 0 0),(1,aq loc)],[(0,b.cells.map .d)],1⟩) (λn=>n.1) ⟨b.l.length,acV _,by rw[List.take_length];rfl⟩ ?_;rintro⟨n,hn,hf⟩;simp only;unfold Jl;refine aa λK1 a8=>?_;cases n with
 |zero=>
  have hz:b.lR loc=none:=by rw[<-hf];rfl
  refine J λK hK=>?_;simp only[go_sem];apply hK;refine aK ?_;apply aZ;show KE _;refine fK _ (J λK hK=>?_);simp only[go_sem];apply hK;apply ak;exact⟨mu (b.lR loc),by simp[bB,aV,bK,ah,ai,an,aB,mu,hz,cf],[],[],rfl,rfl,by simp[aL,aI,ai,an,aB,aj,AV.aC,ag,ae,-acU,mu,hz,cf],by simp[AV.aC,aj,ag,mu,hz,cf]⟩
 |succ i=>
  have bd:i<b.l.length:=by omega
  have uU:(i:Int)<24:=by omega
  have h0:((i+1:Nat):Int)-1=i:=by omega
  have hw:ac9.wrap ((i:Int)-1)=(i:Int)-1:=wrap_i64 (by omega) (by omega);obtain⟨g0,g1,g2⟩:=Hz hb (i:=i) (by omega);rw[HA hb bd]at g0 g1 g2;rw[K8 b.l i bd,yB]at hf;rw[h0];refine J λK hK=>?_;simp only[go_sem,acX,decide_true];apply hK;refine aN ?_;apply au;apply a8;refine aa λK1 a8=>?_;apply aA;by_cases he:b.l[i].loc=loc
  ·rw[if_pos he]at hf;refine J λK hK=>?_;simp only[go_sem,acX,uU,acW,g0,eq_true he,decide_true];apply hK;refine aN ?_;refine aa λK hK=>az rfl rfl ?_;simp only[go_sem,acX,uU,acW,g0,g1,g2];refine⟨rfl,hK _ ?_⟩;apply ak;exact⟨mu (b.lR loc),by simp[bB,aV,bK,ah,ai,an,aB,mu,hf.symm],[],[],rfl,rfl,by simp[aL,aI,ai,an,aB,aj,AV.aC,ag,ae,-acU,mu,hf.symm],by simp[AV.aC,aj,ag,mu,hf.symm]⟩
  ·rw[if_neg he]at hf;refine J λK hK=>?_;simp only[go_sem,acX,uU,acW,g0,eq_false he,decide_false];apply hK;refine aK ?_;apply au;simp only[go_sem];apply a8;refine af rfl ?_;simp only[go_sem,hw];refine⟨⟨i,by omega,hf⟩,by simp only;omega,?_⟩;exact aH.cN [(0,0)] ⟨by simp[bm,ah,AV.aC,aj,ag],by simp[aL,aI,ai,an,aB,aj,AV.aC,ag,ae,-acU],rfl,rfl⟩
def ij (m n:Int) (E:List Entry):List DV:=[.int .i64 m,.int .i64 n]++(E.flatMap Entry.cells++[])
theorem xg (b:Bf):b.cells=ij b.m b.l.length b.pad:=yx
theorem PS {m n:Int} {E:List Entry} {i:Nat} (hi:i<E.length) (e:Entry):
 putAt ((ij m n E).map AV.d) (2+i*3) (e.cells.map .d)=(ij m n (E.set i e)).map AV.d:=by
 unfold ij;exact Sw (pre:=[.int .i64 m,.int .i64 n]) gj hi e
theorem AX {m n:Int} {E:List Entry} {i:Nat} (hi:i<E.length) (e:Entry):
 ((((ij m n E).map AV.d).set (2+i*3) (aq e.loc)).set (2+i*3+1) (aq e.value)).set (2+i*3+1+1) (aq e.id)=(ij m n (E.set i e)).map AV.d:=PS hi e
theorem AY {m n n':Int} {E:List Entry}:((ij m n E).map AV.d).set 1 (aq n')=(ij m n' E).map AV.d:=rfl
theorem pO {m n:Int} {E:List Entry} (h:E.length=24):(ij m n E).length=74:=by unfold ij;rw[xe gj,h];rfl
theorem Cr {m n:Int} {E:List Entry}:aP none (((ij m n E).map AV.d).drop 1)=some (aq n):=rfl
theorem HB {b:Bf} (h:b.ok) (loc v id:Int):(b.put loc v id).ok:=by
 unfold Bf.put;split;·exact h
 ·show(b.l++[_]).length<=24;simp;omega
theorem Sy {l:List Entry} (h:l.length<24) (e:Entry):(l++ada (24-l.length) cf).set l.length e=(l++[e])++ada (24-(l.length+1)) cf:=by
 rw[List.set_append_right _ _ (acV _),Nat.sub_self,show 24-l.length=(24-(l.length+1))+1 by omega,List.replicate_succ,List.set_cons_zero];simp
theorem PT {b:Bf} (hb:b.ok) (loc v id:Int):Pure aM 253 [.agg (b.cells.map .d),aq loc,aq v,aq id] (.agg ((b.put loc v id).cells.map .d)):=by
 have h0:=yz;have hl:b.l.length<=24:=hb;have ck:=HB hb loc v id;refine ay func253 Pe ntmps253 results253 rfl ?_;unfold Ve;refine J λK hK=>?_;simp only[go_sem,Jw,Hy];apply hK;refine aa λK1 a8=>?_;have same:b.put loc v id=b->∀(t:Fr) (n:Nat),ah t 4=.ptr 0 0->ah t 8=.ptr 1 0->fN aM (aw []) 39 (.seq (.region false [oM 25 (.load (some 74) (.t 4)),⟨none,.store 74 (.t 8) (.t 25),none⟩] []) .ret) ⟨t,[(0,b.cells.map .d),(1,Mj.cells.map .d)],n⟩
  (Exit.iy K1 (mZ aM #[.cell 8 213] (aw []) λr m'=>r=.agg ((b.put loc v id).cells.map .d)/\m'=[])):=by
  intro he t n e4 e8;rw[he];refine aa λK hK=>af (by simp[aw]) ?_;simp only[go_sem,e4,e8,ac3,dV hb,fo hb,eV hb,mq,yy hb (fo h0),fo h0,eV h0,ac2,acV];apply hK;apply ak;simp only[go_sem];exact⟨.agg (b.cells.map .d),by simp[bB,aV,bK,ah,ai,an,aB,fY,dV hb,e8],[],[],rfl,rfl,by simp[aL,aI,ai,an,aB,aj,AV.aC,ag,ae,-acU,fY,dV hb,e8],by simp[AV.aC,aj,ag,fY,dV hb,e8]⟩
 by_cases hm:b.m=0
 ·refine J λK hK=>?_;simp only[go_sem,ac3,EX,eq_true hm,decide_true];apply hK;refine aN ?_;exact same (by simp[Bf.put,hm]) _ _ rfl rfl
 by_cases h1:loc<0
 ·refine J λK hK=>?_;simp only[go_sem,ac3,EX,eq_false hm,eq_true h1,decide_true,decide_false];apply hK;refine aN ?_;exact same (by simp[Bf.put,h1]) _ _ rfl rfl
 by_cases h4:4<=loc
 ·refine J λK hK=>?_;simp only[go_sem,ac3,EX,eq_false hm,eq_false h1,eq_true h4,decide_true,decide_false];apply hK;refine aN ?_;exact same (by simp[Bf.put,h4]) _ _ rfl rfl
 by_cases uU:24<=b.l.length
 ·have W9:(24:Int)<=b.l.length:=by omega
  refine J λK hK=>?_;simp only[go_sem,ac3,EX,PQ,eq_false hm,eq_false h1,eq_false h4,eq_true W9,decide_true,decide_false];apply hK;refine aN ?_;exact same (by simp[Bf.put,uU]) _ _ rfl rfl
 have W9:¬(24:Int)<=b.l.length:=by omega
 have Xa:(b.l.length:Int)<24:=by omega
 have rv:=xf hb;have hw:ac9.wrap ((b.l.length:Int)+1)=((b.l.length+1:Nat):Int):=by rw[wrap_i64 (by omega) (by omega)];rfl
 have he:b.put loc v id={b with l:=b.l++[⟨loc,v,id⟩]}:=by unfold Bf.put;rw[if_neg (by omega)]
 have gy:b.pad.set b.l.length ⟨loc,v,id⟩=(b.put loc v id).pad:=by
  rw[he];unfold Bf.pad;rw[Sy (by omega)];simp
 have Ri:ij b.m (b.l.length+1:Nat) (b.pad.set b.l.length ⟨loc,v,id⟩)=(b.put loc v id).cells:=by
  rw[xg,gy,he];simp
 have Gt:=AX (m:=b.m) (n:=b.l.length) (E:=b.pad) (i:=b.l.length) (by omega) ⟨loc,v,id⟩;have PU:2+b.l.length*3+3<=74:=by omega
 have sa:=xg b;have wL:=eV hb;refine J λK hK=>?_;simp only[go_sem,ac3,EX,PQ,eq_false hm,eq_false h1,eq_false h4,eq_false W9,decide_true,decide_false];apply hK;refine aK ?_;apply au;apply a8;rw[sa]at wL⊢;have Sz:((ij b.m b.l.length b.pad).map AV.d).length=74:=by rw[acY,wL]
 refine J λK hK=>?_;simp only[go_sem,Cr,acX,Xa,acW,wL,Sz,PU,Gt];refine hK _ (J λK hK=>?_);simp only[go_sem,Cr,hw,acY,pO (show(b.pad.set b.l.length ⟨loc,v,id⟩).length=24 by rw[List.length_set];exact rv),AY,Ri];refine hK _ (J λK hK=>?_);simp only[go_sem,ac3,dV ck,fo ck,eV ck,mq,yy ck (fo h0),fo h0,eV h0,ac2,acV];apply hK;apply ak;exact⟨.agg ((b.put loc v id).cells.map .d),by simp[bB,aV,bK,ah,ai,an,aB,fY,dV ck],[],[],rfl,rfl,by simp[aL,aI,ai,an,aB,aj,AV.aC,ag,ae,-acU,fY,dV ck],by simp[AV.aC,aj,ag,fY,dV ck]⟩
theorem Lc {m n:Int} {E F:List Entry} {i:Nat} (hi:i+F.length<=E.length):
 putAt ((ij m n E).map AV.d) (2+i*3) ((F.flatMap Entry.cells).map AV.d)=(ij m n (E.take i++F++E.drop (i+F.length))).map AV.d:=by
 have hF:=jc gj F;have hE:(ij m n E).length=2+E.length*3:=by unfold ij;rw[xe gj];rfl
 rw[lO _ _ _ (by rw[acY,acY,hF,hE];omega),acY,hF,<-List.map_take,<-List.map_drop,<-adC,<-adC]
 congr 1
 have h1:(ij m n E).take (2+i*3)=[.int .i64 m,.int .i64 n]++(E.take i).flatMap Entry.cells:=by
  unfold ij;rw[List.append_nil,List.take_append,ac8 (by simp),show 2+i*3- [DV.int .i64 m,.int .i64 n].length=i*3 by simp,rP gj]
 have h2:(ij m n E).drop (2+i*3+F.length*3)=(E.drop (i+F.length)).flatMap Entry.cells:=by
  unfold ij;rw[List.append_nil,List.drop_append,List.drop_of_length_le (by simp;omega),adF,show 2+i*3+F.length*3- [DV.int .i64 m,.int .i64 n].length=(i+F.length)*3 by simp;omega,qz gj]
 rw[h1,h2];unfold ij;simp only[List.flatMap_append,List.append_nil,List.append_assoc]
theorem Ld {m n:Int} {E:List Entry} (hE:E.length=24) {i:Nat} (hi:i<=24):
 (((ij m n E).map AV.d).drop (2+i*3)).take ((24-i)*3)=((E.drop i).flatMap Entry.cells).map AV.d:=by
 rw[<-List.map_drop,<-List.map_take]
 congr 1
 unfold ij;rw[List.append_nil,List.drop_append,List.drop_of_length_le (by simp),adF,show 2+i*3- [DV.int .i64 m,.int .i64 n].length=i*3 by simp,qz gj];exact ac8 (by rw[jc gj,List.length_drop,hE];exact acV _)
theorem Cs {b:Bf} (h:b.ok) (loc:Int):(b.drop loc).ok:=by
 unfold Bf.drop;split;·exact h
 ·show(b.l.eraseIdx _).length<=24;have:=List.length_eraseIdx_le b.l (by assumption);have h':b.l.length<=24:=h;omega
theorem PV {l:List Entry} (hl:l.length<=24) {i:Nat} (hi:i<l.length):
 (((l++ada (24-l.length) cf).take i++(l++ada (24-l.length) cf).drop (i+1)++(l++ada (24-l.length) cf).drop 23).set (l.length-1) cf)
   =l.eraseIdx i++ada (24-(l.eraseIdx i).length) cf:=by
 have nO:(l.eraseIdx i).length=l.length-1:=by rw[List.length_eraseIdx];simp[hi]
 apply List.ext_getElem?;intro j;rw[List.getElem?_set];have hlen:((l++ada (24-l.length) cf).take i++(l++ada (24-l.length) cf).drop (i+1)++(l++ada (24-l.length) cf).drop 23).length=24:=by simp;omega
 rw[hlen];have hEl:(l++ada (24-l.length) cf).length=24:=by simp;omega
 have hE:∀k,(l++ada (24-l.length) cf)[k]?=if k<l.length then l[k]?else if k<24 then some cf else none:=by
  intro k;rw[List.getElem?_append,List.getElem?_replicate];by_cases h1:k<l.length;·rw[if_pos h1,if_pos h1]
  ·rw[if_neg h1,if_neg h1];by_cases h2:k<24;·rw[if_pos h2,if_pos (by omega)]
   ·rw[if_neg h2,if_neg (by omega)]
 generalize hG:l++ada (24-l.length) cf=E at hE hEl;rw[List.getElem?_append (l₁:=l.eraseIdx i),nO,List.getElem?_replicate,List.getElem?_eraseIdx];by_cases h1:l.length-1=j;·rw[if_pos h1,if_pos (by omega),if_neg (by omega),if_pos (by omega)]
 ·rw[if_neg h1,List.getElem?_append,List.getElem?_append];simp only[adk,List.length_take,List.length_drop,hEl,List.getElem?_take,List.getElem?_drop];by_cases h2:j<l.length-1
  ·rw[if_pos h2,if_pos (by omega)];by_cases h3:j<i;·rw[if_pos (by omega),if_pos h3,if_pos h3,hE,if_pos (by omega)]
   ·rw[if_neg (by omega),if_neg h3,hE,if_pos (by omega)]
    congr 1;omega
  ·rw[if_neg h2];by_cases h4:j<23;·rw[if_pos (by omega),if_neg (by omega),hE,if_neg (by omega),if_pos (by omega),if_pos (by omega)]
   ·rw[if_neg (by omega),hE];by_cases h5:j<24;·rw[if_neg (by omega),if_pos (by omega),if_pos (by omega)]
    ·rw[if_neg (by omega),if_neg (by omega),if_neg (by omega)]
theorem HC (F:List Entry):((F.flatMap Entry.cells).map AV.d).all j9=true:=eo _
theorem Le {b:Bf} (hb:b.ok) (loc:Int):Pure aM 256 [.agg (b.cells.map .d),aq loc] (.agg ((b.drop loc).cells.map .d)):=by
 have h0:=yz;have hl:b.l.length<=24:=hb;have ck:=Cs hb loc;have k:=td hb loc;refine ay func256 Ph ntmps256 results256 rfl ?_;unfold Vh;refine J λK hK=>?_;simp only[go_sem,Jw,Hy];refine hK _ (J λK hK=>?_);simp only[go_sem,ac3,dV hb];refine aY (k) ?_;simp only[go_sem];apply hK;refine aa λK1 a8=>?_;cases PR:b.which loc with
 |none=>
  have Ng:j0 b loc=-1:=by unfold j0;rw[PR]
  have ho:b.drop loc=b:=by unfold Bf.drop;rw[PR]
  refine J λK hK=>?_;simp only[go_sem,Ng];apply hK;refine aN ?_;refine J λK hK=>?_;simp only[go_sem,ac3,dV hb,fo hb,eV hb,mq,yy hb (fo h0),fo h0,eV h0,ac2,acV];apply hK;apply ak;exact⟨.agg (b.cells.map .d),by simp[bB,aV,bK,ah,ai,an,aB,fY,dV hb,ho],[],[],rfl,rfl,by simp[aL,aI,ai,an,aB,aj,AV.aC,ag,ae,-acU,fY,dV hb,ho],by simp[AV.aC,aj,ag,fY,dV hb,ho]⟩
 |some i=>
  have bd:=EZ PR;have Ng:j0 b loc=i:=by unfold j0;rw[PR]
  have ho:b.drop loc={b with l:=b.l.eraseIdx i}:=by unfold Bf.drop;rw[PR]
  have uU:(i:Int)<24:=by omega
  have K9:¬(i:Int)<0:=by omega
  have hw:=c8 (i:=i) (by omega);have rv:=xf hb;have sa:=xg b;have wL:=eV hb;have nO:(b.l.eraseIdx i).length=b.l.length-1:=by rw[List.length_eraseIdx];simp[bd]
  refine J λK hK=>?_;simp only[go_sem,Ng,eq_false K9,decide_false];apply hK;refine aK ?_;apply au;apply a8;rw[sa]at wL⊢;have Sz:((ij b.m b.l.length b.pad).map AV.d).length=74:=by rw[acY,wL]
  let E1:=b.pad.take i++b.pad.drop (i+1)++b.pad.drop 23
  have hE1:E1=b.pad.take i++b.pad.drop (i+1)++b.pad.drop 23:=rfl;have SA:E1.length=24:=by rw[hE1];simp only[adk,List.length_take,List.length_drop,rv];omega
  have hcp:putAt ((ij b.m b.l.length b.pad).map AV.d) (2+i*3) (((b.pad.drop (i+1)).flatMap Entry.cells).map AV.d)=(ij b.m b.l.length E1).map AV.d:=by
   rw[Lc (by rw[List.length_drop,rv];omega),hE1,List.length_drop,rv]
   congr 3
   congr 1
   omega
  have Dy:ij b.m (b.l.length-1:Nat) (E1.set (b.l.length-1) cf)=(b.drop loc).cells:=by
   rw[xg,ho];simp only[nO]
   congr 1
   rw[hE1];exact PV hl bd
  clear_value E1
  have Gt:=AX (m:=b.m) (n:=(b.l.length-1:Nat)) (E:=E1) (i:=b.l.length-1) (by omega) cf;have e0:cf.loc=0/\cf.value=0/\cf.id=0:=⟨rfl,rfl,rfl⟩;rw[e0.1,e0.2.1,e0.2.2]at Gt;have hwn:ac9.wrap ((b.l.length:Int)-1)=((b.l.length-1:Nat):Int):=by rw[wrap_i64 (by omega) (by omega)];omega
  have Xa:((b.l.length-1:Nat):Int)<24:=by omega
  have PU:2+(b.l.length-1)*3+3<=74:=by omega
  have tail:∀(t:Fr) (n:Nat),ah t 2=.ptr 0 0->ah t 4=.ptr 1 0->fN aM (aw []) 30 (.seq (.region false [oM 20 (.c7 (.t 2) 1),oM 21 (.load none (.t 20)),oM 22 (.bin .sub (.t 21) (.c (aq 1))),oM 23 (.c7 (.t 2) 1),⟨none,.store 1 (.t 23) (.t 22),none⟩] [])
   (.seq (.region false [oM 24 (.c7 (.t 2) 1),oM 25 (.load none (.t 24)),oM 26 (.build [aq 0,aq 0,aq 0] []),oM 27 (.c7 (.t 2) 2),oM 28 (.bS 3 (some 24) (.t 27) (.t 25)),⟨none,.store 3 (.t 28) (.t 26),none⟩] [])
   (.seq (.region false [oM 29 (.load (some 74) (.t 2)),⟨none,.store 74 (.t 4) (.t 29),none⟩] []) .ret))) ⟨t,[(0,(ij b.m b.l.length E1).map .d),(1,Mj.cells.map .d)],n⟩
   (mZ aM #[.cell 4 213] (aw []) λr m'=>r=.agg ((b.drop loc).cells.map .d)/\m'=[]):=by
   intro t n e2 e4;have Q5:((ij b.m b.l.length E1).map AV.d).length=74:=by rw[acY,pO SA]
   have Dx:((ij b.m (b.l.length-1:Nat) E1).map AV.d).length=74:=by rw[acY,pO SA]
   refine aa λK hK=>af (by simp[aw]) ?_;simp only[go_sem,e2,Cr,hwn,Q5,pO SA,AY];apply hK;refine aa λK hK=>af (by simp[aw]) ?_;simp only[go_sem,e2,Cr,acX,Xa,acW,Dx,pO SA,PU,Gt,Dy];apply hK;refine aa λK hK=>af (by simp[aw]) ?_;simp only[go_sem,e2,e4,ac3,dV ck,fo ck,eV ck,mq,yy ck (fo h0),fo h0,eV h0,ac2,acV];apply hK;apply ak;exact⟨.agg ((b.drop loc).cells.map .d),by simp[bB,aV,bK,ah,ai,an,aB,fY,dV ck,e4],[],[],rfl,rfl,by simp[aL,aI,ai,an,aB,aj,AV.aC,ag,ae,-acU,fY,dV ck,e4],by simp[AV.aC,aj,ag,fY,dV ck,e4]⟩
  by_cases h23:i+1=24
  ·have hE2:(ij b.m b.l.length E1).map AV.d=(ij b.m b.l.length b.pad).map AV.d:=by
    rw[<-hcp,List.drop_of_length_le (by omega)];rfl
   rw[hE2]at tail;have ab6:i=23:=by omega
   subst ab6;refine aa λK hK=>az rfl rfl ?_;simp only[go_sem,show ac9.wrap (23+1)=24 from rfl,acX,acW,wL,Sz,ne_eq,not_false_eq_true,not_true_eq_false,acY,putAt];refine⟨rfl,hK _ ?_⟩;exact tail _ _ rfl rfl
  ·have Wn:=Ld (m:=b.m) (n:=b.l.length) rv (i:=i+1) (by omega);have ep:=HC (b.pad.drop (i+1));have a1:i<=24:=by omega
   have a2:i+1<=24:=by omega
   have a3:¬i=24:=by omega
   have a4:2+(i+1)*3+(24-(i+1))*3<=74:=by omega
   have a5:24-(i+1)<=24-i:=by omega
   have a6:¬24-i=0:=by omega
   have a7:2+i*3+(24-(i+1))*3<=74:=by omega
   refine aa λK hK=>az rfl rfl ?_;simp only[go_sem,hw,acX,acW,wL,Sz,a1,a2,a3,h23,a4,a5,ne_eq,a6,not_false_eq_true,a7,Wn,ep,hcp];refine⟨rfl,hK _ ?_⟩;exact tail _ _ rfl rfl
theorem iR:o4 aM 93=some (some 6):=by kernel_rfl
theorem zX (e:nJ):Pure aM 254 [.agg (e.cells.map .d)] (.d (.bool (lQ e.kind))):=by
 refine ay func254 Pf ntmps254 results254 rfl ?_;unfold Vf;refine J λK hK=>?_;simp only[go_sem,nJ.cells];apply hK;by_cases h2:e.kind=2
 ·refine J λK hK=>?_;simp only[go_sem,eq_true h2,decide_true];apply hK;apply ak;simp only[go_sem];refine aD _ rfl rfl ⟨?_,rfl⟩;simp[ah,lQ,h2]
 ·by_cases h4:e.kind=4
  ·refine J λK hK=>?_;simp only[go_sem,eq_false h2,eq_true h4,decide_true,decide_false];apply hK;apply ak;simp only[go_sem];refine aD _ rfl rfl ⟨?_,rfl⟩;simp[ah,lQ,h4]
  ·refine J λK hK=>?_;simp only[go_sem,eq_false h2,eq_false h4,decide_true,decide_false];apply hK;apply ak;simp only[go_sem];refine aD _ rfl rfl ⟨?_,rfl⟩;simp[ah,lQ,h2,h4]
def lV (e:nJ×Bool):AV:=.cu [.agg (e.1.cells.map .d),.d (.bool e.2)]
theorem Lf (i:Ins) {l:iH} (h:l.ok) (v:Int):Pure aM 252 [.agg (i.cells.map .d),.agg (l.cells.map .d),aq v] (lV (jY i l v)):=by
 have k1:=oq i.a h;have k2:=oq i.b h;refine ay func252 Pd ntmps252 results252 rfl ?_;unfold Vd;refine J λK hK=>?_;simp only[go_sem,Ins.cells];apply hK;refine aa λK1 a8=>?_;refine J λK hK=>?_;simp only[go_sem];apply hK;apply aA;by_cases h1:i.kind=1
 ·refine J λK hK=>?_;simp only[go_sem,eq_true h1,decide_true];apply hK;refine aN ?_;refine aa λK hK=>az rfl rfl ?_;simp only[go_sem,ac3,cZ h];refine ea (k1) ?_;simp only[go_sem];refine⟨rfl,hK _ ?_⟩;apply ak;exact⟨lV (jY i l v),by simp[bB,aV,bK,ah,ai,an,aB,iR,lV,jY,h1,nJ.cells,aP],[],[],rfl,rfl,by simp[aL,aI,ai,an,aB,aj,AV.aC,ag,ae,-acU,iR,lV,jY,h1,nJ.cells,aP],by simp[AV.aC,aj,ag,iR,lV,jY,h1,nJ.cells,aP]⟩
 by_cases h2:i.kind=2
 ·refine J λK hK=>?_;simp only[go_sem,eq_false h1,decide_false];apply hK;refine aK ?_;refine J λK hK=>?_;simp only[go_sem,eq_true h2,decide_true];apply hK;refine aN ?_;refine J λK hK=>?_;simp only[go_sem];apply hK;apply ak;exact⟨lV (jY i l v),by simp[bB,aV,bK,ah,ai,an,aB,iR,lV,jY,h2,nJ.cells,aP],[],[],rfl,rfl,by simp[aL,aI,ai,an,aB,aj,AV.aC,ag,ae,-acU,iR,lV,jY,h2,nJ.cells,aP],by simp[AV.aC,aj,ag,iR,lV,jY,h2,nJ.cells,aP]⟩
 by_cases h4:i.kind=4
 ·refine J λK hK=>?_;simp only[go_sem,eq_false h1,decide_false];apply hK;refine aK ?_;refine J λK hK=>?_;simp only[go_sem,eq_false h2,decide_false];apply hK;refine aK ?_;refine J λK hK=>?_;simp only[go_sem,eq_true h4,decide_true];apply hK;refine aN ?_;refine aa λK2 fx=>?_;refine J λK hK=>?_;simp only[go_sem,ac3,cZ h];refine aY (k1) ?_;simp only[go_sem];apply hK;by_cases hv:dZ i.a l=v
  ·refine aN ?_ (by simp[ev,ah,hv]);refine aa λK hK=>az rfl rfl ?_;simp only[go_sem,ac3,cZ h];refine ea (k2) ?_;simp only[go_sem];refine⟨rfl,hK _ ?_⟩;apply ak;exact⟨lV (jY i l v),by simp[bB,aV,bK,ah,ai,an,aB,iR,lV,jY,h4,hv,nJ.cells,aP],[],[],rfl,rfl,by simp[aL,aI,ai,an,aB,aj,AV.aC,ag,ae,-acU,iR,lV,jY,h4,hv,nJ.cells,aP],by simp[AV.aC,aj,ag,iR,lV,jY,h4,hv,nJ.cells,aP]⟩
  ·refine aK ?_ (by simp[ev,ah,hv]);apply au;refine fx _ (J λK hK=>?_);simp only[go_sem];apply hK;apply ak;exact⟨lV (jY i l v),by simp[bB,aV,bK,ah,ai,an,aB,iR,lV,jY,h4,hv,nJ.cells,aP],[],[],rfl,rfl,by simp[aL,aI,ai,an,aB,aj,AV.aC,ag,ae,-acU,iR,lV,jY,h4,hv,nJ.cells,aP],by simp[AV.aC,aj,ag,iR,lV,jY,h4,hv,nJ.cells,aP]⟩
 ·refine J λK hK=>?_;simp only[go_sem,eq_false h1,decide_false];apply hK;refine aK ?_;refine J λK hK=>?_;simp only[go_sem,eq_false h2,decide_false];apply hK;refine aK ?_;refine J λK hK=>?_;simp only[go_sem,eq_false h4,decide_false];apply hK;refine aK ?_;apply au;simp only[go_sem];refine a8 _ (J λK hK=>?_);simp only[go_sem];apply hK;apply ak;exact⟨lV (jY i l v),by simp[bB,aV,bK,ah,ai,an,aB,iR,lV,jY,h1,h2,h4,nJ.cells,aP],[],[],rfl,rfl,by simp[aL,aI,ai,an,aB,aj,AV.aC,ag,ae,-acU,iR,lV,jY,h1,h2,h4,nJ.cells,aP],by simp[AV.aC,aj,ag,iR,lV,jY,h1,h2,h4,nJ.cells,aP]⟩
structure l8 where
 L:DV
 I:DV
 T:DV
def i1 (x:Int):List DV:=[.int .i64 x]
theorem qA (s:bz):s.cells.length=7:=rfl
structure Vm.ok (v:Vm):Prop where
 locals:v.locals.length=4
 E0:∀l∈v.locals,l.ok
 mem:v.mem.length=4
 src:v.src.length=4
 dU:v.dU.length=4
 E2:∀b∈v.dU,b.ok
 qP:∀b∈v.dU,∀e∈b.l,0<=e.loc/\e.loc<4
def iI (d:l8) (v:Vm):List DV:=[d.L,d.I,d.T,.int .i64 v.m]++(v.locals.flatMap iH.cells++(v.mem.flatMap i1++(v.src.flatMap i1++(v.dU.flatMap Bf.cells++[]))))
def eG (d:l8) (v:Vm) (s:AV):List AV:=(iI d v).map AV.d++[s]
section
variable{α:Type} {enc:α->List DV} {w:Nat}
theorem gk:∀{l:List α},(∀a∈l,(enc a).length=w)->(l.flatMap enc).length=l.length*w
 | [],_=>by simp
 |a::l,h=>by rw[adr,adk,h a adw,gk λb hb=>h b (adx _ hb),ads,Nat.add_mul];omega
theorem rQ:∀{l:List α} (i:Nat),(∀a∈l,(enc a).length=w)->(l.flatMap enc).drop (i*w)=(l.drop i).flatMap enc
 |l,0,_=>by simp
 | [],i+1,_=>by simp
 |a::l,i+1,h=>by
  rw[adr,show(i+1)*w=(enc a).length+i*w by rw[h a adw,Nat.add_mul];omega,List.drop_append,Nat.add_sub_cancel_left,rQ i λb hb=>h b (adx _ hb),List.drop_of_length_le (by omega),adF,List.drop_succ_cons]
theorem yC:∀{l:List α} (i:Nat),(∀a∈l,(enc a).length=w)->(l.flatMap enc).take (i*w)=(l.take i).flatMap enc
 |l,0,_=>by simp
 | [],i+1,_=>by simp
 |a::l,i+1,h=>by
  rw[adr,show(i+1)*w=(enc a).length+i*w by rw[h a adw,Nat.add_mul];omega,List.take_append,List.take_succ_cons,adr,<-yC i λb hb=>h b (adx _ hb)]
  congr 1
  ·exact ac8 (by omega)
  ·congr 1;omega
variable{pre post:List DV} {l:List α} {s:AV}
theorem te (h:∀a∈l,(enc a).length=w) {i o:Nat} (hi:i<l.length) (ho:o=pre.length+i*w):
 aP (some w) (((pre++(l.flatMap enc++post)).map AV.d++[s]).drop o)=some (.agg ((enc l[i]).map .d)):=by
 subst ho;have hw:=h l[i] (adt hi);have hlen:(l.flatMap enc).length=l.length*w:=gk h;have hle:i*w+w<=l.length*w:=by
  have:=Nat.mul_le_mul_right w (show i+1<=l.length from hi);rw[Nat.add_mul]at this;omega
 have hd:(pre++(l.flatMap enc++post)).drop (pre.length+i*w)=enc l[i]++((l.drop (i+1)).flatMap enc++post):=by
  rw[List.drop_append,List.drop_of_length_le (by omega),adF,show pre.length+i*w-pre.length=i*w by omega,List.drop_append,rQ i h,List.drop_eq_getElem_cons hi,adr,
   show i*w-(l.flatMap enc).length=0 by omega,ac3,List.append_assoc]
 rw[List.drop_append_of_le_length (by simp only[acY,adk,hlen];omega),<-List.map_drop,hd];rw[ej,if_pos (by simp only[adk,acY,hw];omega),adC,List.append_assoc,List.take_append,acY,hw,Nat.sub_self,List.take_zero,List.append_nil];rw[ac8 (by rw[acY,hw];exact acV _)]
theorem xh (h:∀a∈l,(enc a).length=w) {i o:Nat} (hi:i<l.length) (ho:o=pre.length+i*w) {x:α} (hx:(enc x).length=w):
 putAt ((pre++(l.flatMap enc++post)).map AV.d++[s]) o ((enc x).map .d)=(pre++((l.set i x).flatMap enc++post)).map AV.d++[s]:=by
 subst ho;have hlen:(l.flatMap enc).length=l.length*w:=gk h;have hle:i*w+w<=l.length*w:=by
  have:=Nat.mul_le_mul_right w (show i+1<=l.length from hi);rw[Nat.add_mul]at this;omega
 have Ix:(pre++(l.flatMap enc++post)).length=pre.length+l.length*w+post.length:=by simp only[adk,hlen];omega
 rw[lO _ _ _ (by simp only[adk,acY,hlen,hx];omega),acY,hx,
  List.take_append_of_le_length (by rw[acY,Ix];omega),List.drop_append_of_le_length (by rw[acY,Ix];omega),<-List.map_take,<-List.map_drop,<-List.append_assoc,<-adC,<-adC]
 congr 2
 have h1:(pre++(l.flatMap enc++post)).take (pre.length+i*w)=pre++(l.take i).flatMap enc:=by
  rw[List.take_append,ac8 (by omega),show pre.length+i*w-pre.length=i*w by omega,List.take_append,yC i h,show i*w-(l.flatMap enc).length=0 by omega];simp
 have h2:(pre++(l.flatMap enc++post)).drop (pre.length+i*w+w)=(l.drop (i+1)).flatMap enc++post:=by
  have e:pre.length+i*w+w=pre.length+(i+1)*w:=by rw[Nat.add_mul];omega
  rw[e,List.drop_append,List.drop_of_length_le (by omega),adF,show pre.length+(i+1)*w-pre.length=(i+1)*w by omega,List.drop_append,rQ (i+1) h];have:(i+1)*w-(l.flatMap enc).length=0:=by rw[Nat.add_mul];omega
  rw[this,ac3]
 rw[h1,h2,AW x hi,List.flatMap_append,adr];simp only[List.append_assoc]
end
section
variable{d:l8} {v:Vm} {s:AV}
theorem vX (l:List Int):∀a∈l,(i1 a).length=1:=λ_ _=>rfl
theorem xi (h:v.ok):∀l∈v.locals,(iH.cells l).length=5:=λl hl=>mn (h.E0 l hl)
theorem Ct (h:v.ok):∀b∈v.dU,(Bf.cells b).length=74:=λb hb=>eV (h.E2 b hb)
theorem tf (h:v.ok):(iI d v).length=328:=by
 unfold iI;simp only[adk,gk (xi h),gk (vX v.mem),gk (vX v.src),gk (Ct h),h.locals,h.mem,h.src,h.dU,ads,adz]
theorem gr (h:v.ok):(eG d v s).length=329:=by unfold eG;rw[adk,acY,tf h];rfl
theorem xj:iI d v=([d.L,d.I,d.T,.int .i64 v.m]++v.locals.flatMap iH.cells)++(v.mem.flatMap i1++(v.src.flatMap i1++(v.dU.flatMap Bf.cells++[]))):=by unfold iI;simp only[List.append_assoc]
theorem Cu:iI d v=([d.L,d.I,d.T,.int .i64 v.m]++v.locals.flatMap iH.cells++v.mem.flatMap i1)++(v.src.flatMap i1++(v.dU.flatMap Bf.cells++[])):=by unfold iI;simp only[List.append_assoc]
theorem Cv:iI d v=([d.L,d.I,d.T,.int .i64 v.m]++v.locals.flatMap iH.cells++v.mem.flatMap i1++v.src.flatMap i1)++(v.dU.flatMap Bf.cells++[]):=by unfold iI;simp only[List.append_assoc]
theorem tg (h:v.ok):([d.L,d.I,d.T,.int .i64 v.m]++v.locals.flatMap iH.cells).length=24:=by
 simp only[adk,gk (xi h),h.locals,ads,adz]
theorem Cw (h:v.ok):([d.L,d.I,d.T,.int .i64 v.m]++v.locals.flatMap iH.cells++v.mem.flatMap i1).length=28:=by
 rw[adk,tg h,gk (vX v.mem),h.mem]
theorem Jx (h:v.ok):([d.L,d.I,d.T,.int .i64 v.m]++v.locals.flatMap iH.cells++v.mem.flatMap i1++v.src.flatMap i1).length=32:=by
 rw[adk,Cw h,gk (vX v.src),h.src]
theorem xk (h:v.ok):aP (some 3) (eG d v s)=some (.agg [.d d.L,.d d.I,.d d.T]):=by
 have hl:=gr (d:=d) (s:=s) h;rw[ej,if_pos (by omega)];rfl
theorem ab7:aP none ((eG d v s).drop 3)=some (aq v.m):=rfl
theorem E3 (h:v.ok) {t:Nat} (ht:t<4):aP (some 5) ((eG d v s).drop (4+t*5))=some (.agg ((v.lc t).cells.map .d)):=by
 have hl:=h.locals;unfold eG iI Vm.lc;rw[te (xi h) (i:=t) (o:=4+t*5) (by omega) (by simp),adl,ac6 (by omega:t<v.locals.length)];rfl
theorem vY {cs:List AV} {x:AV} (h:aP (some 1) cs=some (.agg [x])):aP none cs=some x:=by
 unfold aP at h⊢;simp only at h⊢;cases cs with
 |nil=>simp at h
 |cons a r=>simp at h;simp[h]
theorem Xb (h:v.ok) {i:Nat} (hi:i<4):aP none ((eG d v s).drop (24+i))=some (aq (v.mem.getD i 0)):=by
 have hl:=h.mem;unfold eG;rw[xj];apply vY;rw[te (vX v.mem) (i:=i) (o:=24+i) (by omega) (by rw[tg h];omega),adl,ac6 (by omega:i<v.mem.length)];rfl
theorem Xc (h:v.ok) {i:Nat} (hi:i<4):aP none ((eG d v s).drop (28+i))=some (aq (v.src.getD i 0)):=by
 have hl:=h.src;unfold eG;rw[Cu];apply vY;rw[te (vX v.src) (i:=i) (o:=28+i) (by omega) (by rw[Cw h];omega),adl,ac6 (by omega:i<v.src.length)];rfl
theorem Cx (h:v.ok) {t:Nat} (ht:t<4):aP (some 74) ((eG d v s).drop (32+t*74))=some (.agg ((v.bf t).cells.map .d)):=by
 have hl:=h.dU;unfold eG Vm.bf;rw[Cv,te (Ct h) (i:=t) (o:=32+t*74) (by omega) (by rw[Jx h]),adl,ac6 (by omega:t<v.dU.length)];rfl
theorem ti (h:v.ok):aP none ((eG d v s).drop 328)=some s:=by
 unfold eG;rw[List.drop_append,List.drop_of_length_le (by rw[acY,tf h];exact acV _),acY,tf h];rfl
theorem vZ (h:v.ok) {t:Nat} (ht:t<4) {l:iH} (hl:l.ok):putAt (eG d v s) (4+t*5) (l.cells.map .d)=eG d {v with locals:=v.locals.set t l} s:=by
 have h4:=h.locals;unfold eG iI;exact xh (xi h) (by omega) (by simp) (mn hl)
theorem uV (h:v.ok) {t:Nat} (ht:t<4) {b:Bf} (hb:b.ok):putAt (eG d v s) (32+t*74) (b.cells.map .d)=eG d {v with dU:=v.dU.set t b} s:=by
 have h4:=h.dU;unfold eG;rw[Cv,Cv];exact xh (Ct h) (by omega) (by rw[Jx h]) (eV hb)
theorem uW (h:v.ok) {i:Nat} (hi:i<4) {x:Int}:(eG d v s).set (24+i) (aq x)=eG d {v with mem:=v.mem.set i x} s:=by
 have h4:=h.mem;unfold eG;rw[xj,xj];exact xh (vX v.mem) (i:=i) (x:=x) (by omega) (by rw[tg h];omega) rfl
theorem uX (h:v.ok) {i:Nat} (hi:i<4) {x:Int}:(eG d v s).set (28+i) (aq x)=eG d {v with src:=v.src.set i x} s:=by
 have h4:=h.src;unfold eG;rw[Cu,Cu];exact xh (vX v.src) (i:=i) (x:=x) (by omega) (by rw[Cw h];omega) rfl
theorem jd (h:v.ok) {s':AV}:(eG d v s).set 328 s'=eG d v s':=by
 unfold eG;rw[List.set_append_right _ _ (by rw[acY,tf h];exact acV _),acY,tf h];rfl
end
end
end Go.Proofs.YtjfdjkageiemkaaGreatDoor
