/- What the statement's proof leans on, part 3: the layer, the walks, the plain laws. Names and blanks are short to keep the claim within its limit of bytes. -/
import Derived.Test.YtadocofdkdiboaaGreatDoorProg
import Derived.Test.YtadocofdkdiboaaGreatDoorMJT1a
import Derived.KernelRfl
import Derived.Shelf.Strings.Builder1
import Derived.Shelf.Strings.Builder2
import Derived.Shelf.Strings.OnBuilder
import Derived.Shelf.Small.Bits
import Derived.Shelf.Small.Strs
import Derived.Shelf.Strconv.Itoa0
import Derived.Shelf.Strconv.Itoa1
import Derived.Shelf.LaysM
import Derived.Shelf.Strconv.Itoa2
import Derived.Shelf.Strconv.Itoa3
import Derived.Shelf.Strconv.Itoa4
import Derived.Shelf.Strconv.ParseIntEmpty
import Derived.Shelf.Strconv.Clone
import Derived.Shelf.Strconv.SyntaxError
import Derived.Shelf.LaysC
import Derived.Shelf.Strconv.ToError
import Derived.Shelf.Strconv.Lower
import Derived.Shelf.Strconv.ParseUint10
import Derived.Shelf.Strconv.ParseUint10Empty
import Derived.Shelf.Strconv.ParseUint10Any
import Derived.Shelf.Strconv.ParseInt10
import Derived.Shelf.Strconv.RangeError
import Derived.Shelf.Strconv.ToErrorRange
import Derived.Shelf.Strconv.ParseUintEmpty
import Derived.Shelf.Strconv.ParseUint10b64
import Derived.Shelf.Strconv.ParseUint10b32
import Derived.Shelf.Strconv.ParseUint10b16
import Derived.Shelf.Strconv.ParseUint10b8
import Derived.Shelf.Strconv.ParseUint10At
import Derived.Shelf.Strconv.ParseInt10At64
import Derived.Shelf.Strconv.ParseInt10At32
import Derived.Shelf.Strconv.ParseInt10At16
import Derived.Shelf.Strconv.ParseInt10At8
import Derived.Shelf.Strconv.ParseInt10All
import Derived.Shelf.Strconv.ParseIntPublic10
import Derived.Shelf.Strconv.ErrVarParseInt
import Derived.Shelf.Strings.Search1
import Derived.Shelf.Strings.Prefix
import Derived.Test.YtadocofdkdiboaaGreatDoorMJT1b
import Derived.OpenShut
import Derived.ChangeOld
import Derived.Below
import Derived.ProofKit
import Derived.ChangeShapes
import Derived.Test.YtadocofdkdiboaaGreatDoorRows
import Derived.Test.YtadocofdkdiboaaGreatDoorTie
import Derived.LaidMore
import Derived.Stop.Joined
import Derived.Carry
import Derived.Lib.LaidTab
import Derived.SevenTiedAt
import Derived.SizedLaws
import Derived.Lib.Join
import Derived.Lib.Walk
set_option linter.unusedSimpArgs false
set_option linter.unusedVariables false
set_option maxRecDepth 100000
open List renaming map_map → alh, length_map → alk, length_append → aln, length_cons → alu, getElem?_eq_getElem → alw, take_of_length_le → alx, replicate → alA, length_nil → alB, getD_eq_getElem?_getD → alC, range → alI, flatMap_cons → alO, getElem_mem → alR, mem_cons_self → alU, mem_cons → alW, mem_cons_of_mem → alY, map_append → al1, foldl_cons → al2, any_eq_false → al3, eq_nil_of_length_eq_zero → amb
open Nat renaming le_refl → ali, zero_add → alo, mul_one → alV, zero_le → alZ
open Int renaming toNat_natCast → alj, natCast_nonneg → alm
open Go.IntKind renaming i64 → alv, u64 → al0
open Bool renaming false_eq_true → aly, and_eq_true → alE, false_and → alK
open Option renaming map_eq_some_iff → alG, map_some → alX, getD_some → al6
open Option.some renaming injEq → alJ, inj → al9
open BitVec renaming ofInt → al5
namespace Go.Proofs.YtadocofdkdiboaaGreatDoor
open Go.Proofs.Tryz
open Go.Proofs.Tryz renaming prog → aK
section
open Go Go.Jq
@[reducible]def kI (n:Int):dx:=.c (.d (.int .i64 n))
@[reducible]def sg:dx:=.c (.d (.bool true))
@[reducible]def fv:dx:=.c (.d (.bool false))
@[reducible]def kMv (x:Nat):j5:=.mv (.t x)
@[reducible]def kFa (x k:Nat):j5:=.dI (.t x) k
@[reducible]def kLd (x:Nat):j5:=.load none (.t x)
@[reducible]def o1 (k x:Nat):j5:=.load (some k) (.t x)
@[reducible]def r9 (o:BinOp) (x y:Nat):j5:=.bin o (.t x) (.t y)
@[reducible]def iX (o:BinOp) (x:Nat) (n:Int):j5:=.bin o (.t x) (kI n)
@[reducible]def wT (x y:Nat):j5:=.pick (.t x) (.t y) fv
@[reducible]def Rt (x y:Nat):j5:=.pick (.t x) sg (.t y)
@[reducible]def aq (d x:Nat):bC:=oM d (kMv x)
@[reducible]def aY (d x k:Nat):bC:=oM d (kFa x k)
@[reducible]def bE (d x:Nat):bC:=oM d (kLd x)
@[reducible]def cN (d k x:Nat):bC:=oM d (o1 k x)
@[reducible]def eF (o:BinOp) (d x y:Nat):bC:=oM d (r9 o x y)
@[reducible]def bP (o:BinOp) (d x:Nat) (n:Int):bC:=oM d (iX o x n)
@[reducible]def ia (d x y:Nat):bC:=oM d (wT x y)
@[reducible]def iK (d x y:Nat):bC:=oM d (Rt x y)
@[reducible]def iL (d x:Nat) (i:Nat):bC:=oM d (.ext (.t x) i)
@[reducible]def bz (d:Nat) (x:dx):bC:=oM d (.mv x)
@[reducible]def bK (d:Nat) (f:Nat) (l:List dx):bC:=oM d (.bW f l)
@[reducible]def b9 (k a v:Nat):bC:=⟨none,.store k (.t a) (.t v),none⟩
@[reducible]def zI:AV:=.d (.int .i64 0)
@[reducible]def zB:AV:=.d (.bool false)
@[reducible]def zS:AV:=.d (.str [])
@[reducible]def zN:AV:=.d .ct
@[reducible]def gl (x:Nat):j5:=.un .not (.t x)
@[reducible]def mq (x:Nat):j5:=.B1 (.t x)
@[reducible]def iy (d x:Nat):bC:=oM d (mq x)
@[reducible]def wU (x:Nat):j5:=.jc (.t x)
@[reducible]def dC (d x:Nat):bC:=oM d (wU x)
@[reducible]def cM (x:Nat):j5:=.box (.t x)
@[reducible]def kIa (e x y:Nat):j5:=.cg e none (.t x) (.t y)
@[reducible]def jm (d e x y:Nat):bC:=oM d (kIa e x y)
@[reducible]def cO (d:Nat) (a:j5) (g:Nat):bC:=oG d a g true
@[reducible]def jn (d x k g:Nat):bC:=cO d (kFa x k) g
@[reducible]def lE (d x g:Nat):bC:=cO d (kLd x) g
@[reducible]def ir (d x g:Nat):bC:=cO d (kMv x) g
@[reducible]def df (d:Nat) (a:j5) (g:Nat):bC:=oG d a g false
@[reducible]def jY (d x k g:Nat):bC:=df d (kFa x k) g
@[reducible]def ma (d x g:Nat):bC:=df d (kLd x) g
@[reducible]def kL (d x g:Nat):bC:=df d (kMv x) g
@[reducible]def mM (c:aJ):aJ:=.block 0 (.loop c)
@[reducible]def kR (l:List bC):aJ:=.region false l []
@[reducible]def kS (l:List bC) (c:aJ):aJ:=.seq (.region false l []) c
@[reducible]def kD (l:List bC) (m:List Nat) (c:aJ):aJ:=.seq (.region true l m) c
@[reducible]def kC (x:Nat) (a:aJ):aJ:=.cond (.t x) a .skip
@[reducible]def kE (x:Nat):aJ:=.cond (.t x) .skip (.exit 0)
@[reducible]noncomputable def cZ (f:Func):Option aJ:=f.body.bind (cX Tryz.prog f.ntmps)
def ahD:aJ:=kS [oM 2 (.alloc [zS,zN,zN,zI,zN]),oM 3 (.alloc [zI,zI])] (kS [aq 8 0,bK 9 62 [.t 8],aq 7 9,iL 10 7 0,iL 11 7 1,oM 4 (.alloc [zS,zN,zN,zI,zN]),oM 5 (.alloc [zI,zI]),b9 5 4 10,b9 2 5 11] (.seq (kS [aY 12 5 0,bE 13 12,bP .neq 14 13 0] (kC 14 (kD [oM 15 (.build [zS,zN,zN,zI,zN] []),cN 16 2 5,b9 5 2 15,b9 2 3 16] [0,0,1,7] .ret))) (.seq (kS [cN 17 5 4,bK 18 63 [.t 17],aq 6 18] (kS [aq 19 6,bP .neq 20 19 0] (kC 20 (kS [oM 21 (.build [zS,zN,zN,zI,zN] []),aq 22 6,oM 23 (.build [zI,zI] [(0,1,.t 22)]),b9 5 2 21,b9 2 3 23] .ret)))) (kS [cN 24 5 4,oM 25 (.build [zI,zI] []),b9 5 2 24,b9 2 3 25] .ret))))
theorem aan:cZ f29=some ahD:=by kernel_rfl
def ahE:aJ:=kS [oM 3 (cM 0),oM 4 (cM 1),bz 6 (kI 0)] (kS [cN 10 3 3,cN 11 2 4,aq 12 2,bK 13 89 [.t 10,.t 11,.t 12],aq 9 13,iL 14 9 0,iL 15 9 1,aq 7 14,aq 8 15] (.seq (kS [aY 16 4 0,bE 17 16] (.block 0 (kS [bP .eql 19 17 1,aq 18 19] (.cond (.t 18) (kS [aq 20 7,bP .gtr 21 20 0,bK 22 90 [.t 21],aq 6 22] .ret) (kS [bP .eql 24 17 2,aq 23 24] (kC 23 (kS [aq 25 8,bP .eql 26 25 0,bK 27 90 [.t 26],aq 6 27] .ret))))))) (kS [bz 6 (kI 0)] .ret)))
theorem aao:cZ f37=some ahE:=by kernel_rfl
def ahF:aJ:=kS [bz 2 (.c zS)] (kS [aq 3 0,bK 4 91 [.t 3,kI 10],aq 2 4] .ret)
theorem aap:cZ f39=some ahF:=by kernel_rfl
def UT:aJ:=kS [eF .lss 25 24 23] (.seq (.cond (.t 25) .skip (.exit 1)) (.seq (.block 2 (kS [jm 26 1 22 24,bE 27 26,aq 4 27] (kS [aq 28 4,oM 29 (.rY 118 [.t 1]),bK 30 117 [.t 28,.t 29]] (kC 30 (kS [bz 2 (kI 10)] .ret))))) (kR [bP .add 31 24 1,aq 24 31])))
def ahG:aJ:=kS [oM 1 (cM 0),bz 2 (kI 0)] (.seq (.block 0 (kS [cN 6 5 1,bK 7 111 [.t 6],oM 8 (gl 7),aq 5 8] (.cond (.t 5) (kS [bz 2 (kI 1)] .ret) (kS [cN 10 5 1,bK 11 112 [.t 10],aq 9 11] (.cond (.t 9) (kS [bz 2 (kI 8)] .ret) (kS [aY 13 1 1,bE 14 13,bK 15 113 [.t 14],aq 12 15] (.cond (.t 12) (kS [bz 2 (kI 9)] .ret) (kS [aY 17 1 2,bE 18 17,bK 19 114 [.t 18,.c (.fn 115 [])],aq 16 19] (kC 16 (kS [bz 2 (kI 10)] .ret)))))))))) (.seq (kS [aY 20 1 3,aY 21 20 1,bE 22 21,iy 23 22,bz 24 (kI 0)] (.block 1 (.loop UT))) (kS [bz 2 (kI 0)] .ret)))
theorem aaq:cZ f63=some ahG:=by kernel_rfl
def M5:aJ:=kS [bP .lss 9 8 26] (.seq (kE 9) (.seq (.block 1 (kS [aq 10 8,aq 5 10] (kS [aq 11 4,aq 12 5,eF .shr 13 11 12,oM 14 (.bin .and (.t 13) (.c (.d (.int .u64 1)))),oM 15 (.bin .eql (.t 14) (.c (.d (.int .u64 1))))] (kC 15 (kR [aq 16 3,aq 17 5,oM 18 (.IJ .u8 (.t 17)),oM 19 (.bin .add (.c (.d (.int .u8 97))) (.t 18)),oM 20 (.cF 1 1 [.d (.int .u8 0)] [(0,1,.t 19)]),oM 21 (.app 1 1 5 (.t 16) (.t 20)),aq 3 21]))))) (kR [bP .add 22 8 1,aq 8 22])))
def ahH:aJ:=kS [oM 1 (cM 0),bz 2 (.c zN)] (kS [bz 3 (.c zN)] (kS [cN 6 5 1,bK 7 122 [.t 6],aq 4 7] (.seq (kS [bz 8 (kI 0)] (mM M5)) (kS [aq 23 3,aq 2 23] .ret))))
theorem aar:cZ f74=some ahH:=by kernel_rfl
def ae9:aJ:=kS [eF .lss 13 12 11] (.seq (kE 13) (.seq (.block 1 (kS [jm 14 20 10 12,cN 15 20 14,oM 9 (.alloc [zI,zI,zI,zI,zI,zI,zI,zI,zI,zI,zI,zI,zI,zI,zI,zI,zI,zI,zI,zI]),b9 20 9 15] (kS [cN 16 3 3,cN 17 2 4,cN 18 20 9,bK 19 140 [.t 16,.t 17,.t 18]] (.cond (.t 19) (kR [aq 20 6,bP .add 21 20 1,aq 6 21]) (kR [aq 22 7,bP .add 23 22 1,aq 7 23]))))) (kR [bP .add 24 12 1,aq 12 24])))
def ahI:aJ:=kS [oM 3 (cM 0),oM 4 (cM 1),bz 6 (kI 0),bz 7 (kI 0)] (.seq (kS [aq 10 2,iy 11 10,bz 12 (kI 0)] (mM ae9)) (kS [aq 25 6,aq 26 7,aq 6 25,aq 7 26] .ret))
theorem aas:cZ f89=some ahI:=by kernel_rfl
def ahJ:aJ:=kS [bz 2 (kI 0)] (.seq (kS [aq 3 0] (kC 3 (kS [bz 2 (kI 1)] .ret))) (kS [bz 2 (kI 2)] .ret))
theorem aat:cZ f90=some ahJ:=by kernel_rfl
def ack:aJ:=kS [oM 2 (.alloc [zI,zI])] (.seq (kS [aq 3 0,oM 4 (.lens (.t 3)),bP .gtr 5 4 4000] (kC 5 (kS [oM 6 (.build [zI,zI] [(0,1,kI 2),(1,1,kI 4000)]),b9 2 2 6] .ret))) (kS [oM 7 (.build [zI,zI] []),b9 2 2 7] .ret))
theorem UU:cZ f100=some ack:=by kernel_rfl
def acm:aJ:=kS [bz 2 (.c (.d .om))] (kS [aq 3 0,oM 4 (.build [zS,zI,zI,zI,zI] [(0,1,.t 3)]),oM 5 (cM 4),aq 2 5] .ret)
theorem UW:cZ f101=some acm:=by kernel_rfl
def acn:aJ:=kS [oM 1 (cM 0),bz 2 fv] (kS [bz 3 (.c (.fn 153 []))] (kS [aY 4 1 0,bE 5 4,bK 6 157 [.t 5],aq 7 6,jn 8 1 1 7,lE 9 8 7,cO 10 (.bW 158 [.t 9,.c (.fn 159 [])]) 7,cO 11 (gl 10) 7,ia 12 7 11,aq 13 12,jn 14 1 2 13,lE 15 14 13,ir 16 3 13,cO 17 (.bW 114 [.t 15,.t 16]) 13,cO 18 (gl 17) 13,ia 19 13 18,aq 20 19,jn 21 1 3 20,cO 22 (o1 2 21) 20,cO 23 (.bW 161 [.t 22]) 20,ia 24 20 23,aq 2 24] .ret))
theorem UX:cZ f111=some acn:=by kernel_rfl
def Pf:aJ:=kS [eF .lss 11 10 9] (.seq (kE 11) (.seq (.block 1 (kS [jm 12 1 8 10,bE 13 12,aq 5 13] (.seq (kS [aq 14 5,iy 15 14,bP .gtr 16 15 10] (kC 16 (kS [bz 2 sg] .ret))) (kR [aq 17 3,aq 18 5,iy 19 18,eF .add 20 17 19,aq 3 20])))) (kR [bP .add 21 10 1,aq 10 21])))
def aco:aJ:=kS [oM 1 (cM 0),bz 2 fv] (kS [bz 3 (kI 0)] (.seq (kS [aY 7 1 2,bE 8 7,iy 9 8,bz 10 (kI 0)] (mM Pf)) (kS [bz 6 (.c (.fn 162 []))] (kS [aY 22 1 2,bE 23 22,iy 24 23,bP .eql 25 24 0,aq 26 25,jY 27 1 2 26,ma 28 27 26,df 29 (mq 28) 26,df 30 (iX .gtr 29 4) 26,iK 31 26 30,aq 32 31,kL 33 3 32,df 34 (iX .gtr 33 24) 32,iK 35 32 34,aq 36 35,df 37 (o1 5 1) 36,df 38 (.bW 74 [.t 37]) 36,df 39 (mq 38) 36,df 40 (iX .gtr 39 4) 36,iK 41 36 40,aq 42 41,jY 43 1 3 42,jY 44 43 1 42,ma 45 44 42,df 46 (mq 45) 42,df 47 (iX .gtr 46 8) 42,iK 48 42 47,aq 49 48,jY 50 1 3 49,jY 51 50 1 49,ma 52 51 49,kL 53 6 49,df 54 (.bW 163 [.t 52,.t 53]) 49,iK 55 49 54,aq 56 55,jY 57 1 0 56,ma 58 57 56,df 59 (.lens (.t 58)) 56,df 60 (iX .gtr 59 20) 56,iK 61 56 60,aq 2 61] .ret))))
theorem UY:cZ f112=some aco:=by kernel_rfl
def Pg:aJ:=kS [eF .lss 9 8 7] (.seq (kE 9) (.seq (.block 1 (kS [jm 10 2 6 8,cN 11 2 10,oM 5 (.alloc [zI,zI]),b9 2 5 11] (.seq (kS [aq 12 3,aY 13 5 0,bE 14 13,bP .sub 15 14 97,eF .shr 16 12 15,oM 17 (.bin .and (.t 16) (.c (.d (.int .u64 1)))),oM 18 (.bin .eql (.t 17) (.c (.d (.int .u64 1))))] (kC 18 (kS [bz 2 sg] .ret))) (kR [aq 19 3,aY 20 5 0,bE 21 20,bP .sub 22 21 97,oM 23 (.bin .shl (.c (.d (.int .u64 1))) (.t 22)),eF .or 24 19 23,aq 3 24])))) (kR [bP .add 25 8 1,aq 8 25])))
def acp:aJ:=kS [bz 2 fv] (kS [bz 3 (.c (.d (.int .u64 0)))] (.seq (kS [aq 6 0,iy 7 6,bz 8 (kI 0)] (mM Pg)) (kS [bz 2 fv] .ret)))
theorem UZ:cZ f113=some acp:=by kernel_rfl
def ahK:aJ:=kS [bz 4 fv] (kS [aq 5 0,aq 6 1,bK 7 164 [.t 5,.t 6],bP .geq 8 7 0,aq 4 8] .ret)
theorem U0:cZ f114=some ahK:=by kernel_rfl
def acq:aJ:=kS [bz 2 fv] (kS [aq 3 0,bK 4 116 [.t 3],oM 5 (gl 4),aq 2 5] .ret)
theorem U1:cZ f115=some acq:=by kernel_rfl
def Ph:aJ:=kS [eF .lss 8 7 6] (.seq (kE 8) (.seq (.block 1 (kS [aq 9 7,jm 10 9 5 7,cN 11 9 10,oM 4 (.alloc [zI,zI,zI,zI,zI,zI,zI,zI,zI]),aq 3 9,b9 9 4 11] (kS [aY 12 4 0,bE 13 12,bP .eql 14 13 6,aq 15 14,jn 16 4 8 15,lE 17 16 15,cO 18 (iX .lss 17 1) 15,ir 19 18 15,jY 20 4 8 19,ma 21 20 19,kL 22 0 19,df 23 (mq 22) 19,kL 24 3 19,df 25 (r9 .sub 23 24) 19,df 26 (iX .sub 25 1) 19,df 27 (r9 .gtr 21 26) 19,cO 28 (Rt 19 27) 15,ia 29 15 28] (kC 29 (kS [bz 2 fv] .ret))))) (kR [bP .add 30 7 1,aq 7 30])))
def acr:aJ:=kS [bz 2 fv] (.seq (kS [aq 5 0,iy 6 5,bz 7 (kI 0)] (mM Ph)) (kS [bz 2 sg] .ret))
theorem U2:cZ f116=some acr:=by kernel_rfl
def ahL:aJ:=kS [bz 4 fv] (kS [aq 5 0,aq 6 1,bK 7 165 [.t 5,.t 6],bP .geq 8 7 0,aq 4 8] .ret)
theorem Jy:cZ f117=some ahL:=by kernel_rfl
def acs:aJ:=kS [oM 2 (cM 0),bz 3 fv] (kS [aY 4 2 0,bE 5 4,bP .neq 6 5 (-1),aq 7 6,jn 8 2 0 7,lE 9 8 7,jn 10 1 2 7,lE 11 10 7,cO 12 (mq 11) 7,cO 13 (r9 .geq 9 12) 7,ia 14 7 13,aq 3 14] .ret)
theorem U3:cZ f118=some acs:=by kernel_rfl
def GO:aJ:=kS [eF .lss 20 19 18] (.seq (kE 20) (.seq (.block 1 (kS [jm 21 2 17 19,cN 22 2 21,oM 6 (.alloc [zI,zI]),b9 2 6 22] (kR [aq 23 4,aY 24 6 0,bE 25 24,oM 26 (.eW (.t 23) [.t 25])]))) (kR [bP .add 27 19 1,aq 19 27])))
def GP:aJ:=kS [eF .lss 38 37 36] (.seq (.cond (.t 38) .skip (.exit 4)) (.seq (.block 5 (kS [jm 39 9 35 37,cN 40 9 39,oM 10 (.alloc [zI,zI,zI,zI,zI,zI,zI,zI,zI]),b9 9 10 40] (kR [aq 41 4,aY 42 10 2,bE 43 42,oM 44 (.eW (.t 41) [.t 43])]))) (kR [bP .add 45 37 1,aq 37 45])))
def GQ:aJ:=kS [eF .lss 32 31 30] (.seq (.cond (.t 32) .skip (.exit 2)) (.seq (.block 3 (kS [jm 33 1 29 31,bE 34 33,aq 8 34] (kS [aq 35 8,iy 36 35,bz 37 (kI 0)] (.block 4 (.loop GP))))) (kR [bP .add 46 31 1,aq 31 46])))
def GR:aJ:=kS [eF .lss 58 57 56] (.seq (.cond (.t 58) .skip (.exit 8)) (.seq (.block 9 (kS [jm 59 4 55 57,cN 60 4 59,oM 14 (.alloc [zI,zI,zI,zI]),b9 4 14 60] (kR [aq 61 4,aY 62 14 2,bE 63 62,oM 64 (.eW (.t 61) [.t 63])]))) (kR [bP .add 65 57 1,aq 57 65])))
def GS:aJ:=kS [eF .lss 52 51 50] (.seq (.cond (.t 52) .skip (.exit 6)) (.seq (.block 7 (kS [jm 53 1 49 51,bE 54 53,aq 12 54] (kS [aq 55 12,iy 56 55,bz 57 (kI 0)] (.block 8 (.loop GR))))) (kR [bP .add 66 51 1,aq 51 66])))
def acu:aJ:=kS [oM 1 (cM 0),bz 2 (.c (.d (.int .u64 0)))] (kS [oM 3 (.alloc [.d (.int .u64 0)])] (kS [oM 15 (.rY 167 [.t 3]),aq 4 15] (.seq (kS [aY 16 1 1,bE 17 16,iy 18 17,bz 19 (kI 0)] (mM GO)) (.seq (kS [aY 28 1 2,bE 29 28,iy 30 29,bz 31 (kI 0)] (.block 2 (.loop GQ))) (.seq (kS [aY 47 1 3,aY 48 47 1,bE 49 48,iy 50 49,bz 51 (kI 0)] (.block 6 (.loop GS))) (kS [bE 67 3,aq 2 67] .ret))))))
theorem U4:cZ f122=some acu:=by kernel_rfl
def acv:aJ:=kS [oM 3 (cM 0),oM 4 (cM 1),oM 5 (cM 2),bz 6 fv] (kS [oM 8 (.rY 205 [.t 3,.t 5]),aq 7 8] (kS [aY 9 4 0,bE 10 9,bP .eql 11 10 0,aq 12 11,jY 13 4 1 12,ma 14 13 12,kL 15 7 12,df 16 (.bW 163 [.t 14,.t 15]) 12,iK 17 12 16,aq 6 17] .ret))
theorem U5:cZ f140=some acv:=by kernel_rfl
def acw:aJ:=kS [oM 2 (.alloc [zI,zS,zI]),oM 3 (.alloc [zI,zI])] (.seq (kS [aq 10 0,dC 11 10,aY 12 11 3,aY 13 12 0,bE 14 13,bP .neq 15 14 0] (kC 15 (kD [oM 16 (.build [zI,zS,zI] []),aq 17 0,dC 18 17,aY 19 18 3,cN 20 2 19,b9 3 2 16,b9 2 3 20] [0,0,2,4,8,1,63] .ret))) (kS [aq 21 0,bK 22 215 [.t 21]] (.seq (kS [aq 23 0,aq 24 0,dC 25 24,aY 26 25 1,bE 27 26,bK 28 216 [.t 23,.t 27],oM 29 (gl 28)] (kC 29 (kS [aq 30 0,dC 31 30,aY 32 31 1,bE 33 32,oM 34 (.build [zI,zS,zI] [(0,1,kI 4),(2,1,.t 33)]),oM 35 (.build [zI,zI] []),b9 3 2 34,b9 2 3 35] .ret))) (kS [aq 36 0,aq 37 0,dC 38 37,aY 39 38 1,bE 40 39,bK 41 217 [.t 36,.t 40],aq 4 41] (kS [aq 42 0,dC 43 42,aY 44 43 1,bE 45 44,oM 46 (.build [zI,zS,zI] [(2,1,.t 45)]),oM 5 (.alloc [zI,zS,zI]),b9 3 5 46] (kS [aq 47 0,dC 48 47,aY 49 48 1,bE 50 49,aq 6 50] (.seq (.block 0 (kS [aq 68 4,bK 69 218 [.t 68],bP .eql 70 69 2,aq 67 70] (.cond (.t 67) (kR [aq 71 0,aq 72 0,dC 73 72,aY 74 73 1,bE 75 74,bK 76 219 [.t 71,.t 75],aY 77 5 0,⟨none,.store 1 (.t 77) (kI 1),none⟩,aq 6 76]) (kS [aq 79 4,bK 80 218 [.t 79],bP .eql 81 80 3,aq 82 81,kL 83 4 82,df 84 (.bin .eql (.t 83) (.c (.d (.int .u8 45)))) 82,kL 85 84 82,ir 86 0 85,ir 87 0 85,cO 88 (wU 87) 85,jn 89 88 1 85,lE 90 89 85,cO 91 (iX .add 90 1) 85,cO 92 (.bW 217 [.t 86,.t 91]) 85,cO 93 (.bW 218 [.t 92]) 85,cO 94 (iX .eql 93 3) 85,df 95 (wT 85 94) 82,iK 96 82 95,aq 78 96] (.cond (.t 78) (kS [aq 97 0,aq 98 0,dC 99 98,aY 100 99 1,bE 101 100,bP .add 102 101 1,bK 103 219 [.t 97,.t 102],aY 104 5 0,⟨none,.store 1 (.t 104) (kI 2),none⟩,aq 6 103] (kD [aq 106 0,dC 107 106,aY 108 107 0,bE 109 108,aq 110 0,dC 111 110,aY 112 111 1,bE 113 112,aq 114 6,oM 115 (.yL (.t 109) (some (.t 113)) (some (.t 114))),bK 116 220 [.t 115],aq 105 116,iL 117 105 0,iL 118 105 1,aq 7 117,aq 8 118] [0,1,2,4,0,16,32,64,0,392,512,1024,2048,2048,8191,32767] (kS [aq 119 8,oM 120 (gl 119)] (kC 120 (kS [aq 121 0,bK 122 221 [.t 121,kI 5],iL 123 122 0,iL 124 122 1,b9 3 2 123,b9 2 3 124] .ret))))) (kS [aq 51 0,bK 52 222 [.t 51],aq 9 52] (.seq (kS [aq 53 9,oM 54 (.bin .eql (.t 53) (.c zS))] (kC 54 (kS [aq 55 0,bK 56 221 [.t 55,kI 4],iL 57 56 0,iL 58 56 1,b9 3 2 57,b9 2 3 58] .ret))) (.region true [aq 59 0,dC 60 59,aY 61 60 1,bE 62 61,aq 63 9,oM 64 (.lens (.t 63)),eF .add 65 62 64,aY 66 5 0,⟨none,.store 1 (.t 66) (kI 3),none⟩,aq 6 65] [0,1,2,4,0,16,40,0,128,511])))))))) (kD [aq 125 0,aq 126 0,dC 127 126,aY 128 127 0,bE 129 128,aq 130 0,dC 131 130,aY 132 131 1,bE 133 132,aq 134 6,oM 135 (.yL (.t 129) (some (.t 133)) (some (.t 134))),aq 136 6,aY 137 5 1,b9 1 137 135,dC 138 125,aY 139 138 1,b9 1 139 136] [0,0,2,4,8,0,32,64,128,0,784,0,2046,6142,16383,32767,49151] (kS [cN 140 3 5,oM 141 (.build [zI,zI] []),b9 3 2 140,b9 2 3 141] .ret)))))))))
theorem U6:cZ f146=some acw:=by kernel_rfl
def acx:aJ:=kS [bz 2 fv] (kS [aq 3 0,bK 4 154 [.t 3,.c (.fn 155 [])],aq 2 4] .ret)
theorem U7:cZ f153=some acx:=by kernel_rfl
def acy:aJ:=kS [bz 4 fv] (kS [aq 5 0,aq 6 1,bK 7 226 [.t 5,.t 6],bP .geq 8 7 0,aq 4 8] .ret)
theorem Jz:cZ f154=some acy:=by kernel_rfl
def acz:aJ:=kS [oM 1 (cM 0),bz 2 fv] (kS [cN 3 9 1,bK 4 156 [.t 3],oM 5 (gl 4),aq 2 5] .ret)
theorem U8:cZ f155=some acz:=by kernel_rfl
def acA:aJ:=kS [oM 1 (cM 0),bz 2 fv] (kS [cN 3 9 1,bK 4 171 [.t 3,.c (.fn 160 [])],aq 2 4] .ret)
theorem U9:cZ f156=some acA:=by kernel_rfl
def Pj:aJ:=kS [eF .lss 8 7 6] (.seq (kE 8) (.seq (.block 1 (kS [aq 9 7,aq 3 9] (kS [aq 10 0,aq 11 3,oM 12 (.idxs (.t 10) (.t 11)),aq 4 12] (kS [aq 13 4,oM 14 (.bin .lss (.t 13) (.c (.d (.int .u8 97)))),aq 15 14,kL 16 4 15,df 17 (.bin .gtr (.t 16) (.c (.d (.int .u8 122)))) 15,iK 18 15 17,aq 19 18,ir 20 3 19,cO 21 (iX .eql 20 0) 19,ir 22 21 19,kL 23 4 22,df 24 (.bin .lss (.t 23) (.c (.d (.int .u8 48)))) 22,cO 25 (Rt 22 24) 19,ir 26 25 19,kL 27 4 26,df 28 (.bin .gtr (.t 27) (.c (.d (.int .u8 57)))) 26,cO 29 (Rt 26 28) 19,ia 30 19 29] (kC 30 (kS [bz 2 fv] .ret)))))) (kR [bP .add 31 7 1,aq 7 31])))
def acB:aJ:=kS [bz 2 fv] (.seq (kS [aq 5 0,oM 6 (.lens (.t 5)),bz 7 (kI 0)] (mM Pj)) (kS [aq 32 0,oM 33 (.bin .neq (.t 32) (.c zS)),aq 2 33] .ret))
theorem Va:cZ f157=some acB:=by kernel_rfl
def ahM:aJ:=kS [bz 4 fv] (kS [aq 5 0,aq 6 1,bK 7 227 [.t 5,.t 6],bP .geq 8 7 0,aq 4 8] .ret)
theorem Vb:cZ f158=some ahM:=by kernel_rfl
def acC:aJ:=kS [oM 1 (cM 0),bz 2 fv] (kS [aY 3 1 0,bE 4 3,bK 5 160 [.t 4],oM 6 (gl 5),aq 2 6] .ret)
theorem Vc:cZ f159=some acC:=by kernel_rfl
def acD:aJ:=kS [bz 2 fv] (kS [aq 3 0,bP .geq 4 3 97,aq 5 4,ir 6 0 5,cO 7 (iX .leq 6 122) 5,ia 8 5 7,aq 2 8] .ret)
theorem Vd:cZ f160=some acD:=by kernel_rfl
def acE:aJ:=kS [oM 1 (cM 0),bz 2 fv] (.seq (kS [aY 4 1 0,bE 5 4,bP .eql 6 5 0] (kC 6 (kS [aY 7 1 1,bE 8 7,iy 9 8,bP .eql 10 9 0,aq 2 10] .ret))) (kS [bz 3 (.c (.fn 228 []))] (kS [aY 11 1 0,bE 12 11,bP .eql 13 12 1,aq 14 13,jY 15 1 0 14,ma 16 15 14,df 17 (iX .eql 16 2) 14,iK 18 14 17,aq 19 18,jn 20 1 1 19,lE 21 20 19,cO 22 (mq 21) 19,cO 23 (iX .gtr 22 0) 19,ia 24 19 23,aq 25 24,jn 26 1 1 25,lE 27 26 25,ir 28 3 25,cO 29 (.bW 163 [.t 27,.t 28]) 25,cO 30 (gl 29) 25,ia 31 25 30,aq 2 31] .ret)))
theorem Ve:cZ f161=some acE:=by kernel_rfl
def acF:aJ:=kS [bz 2 fv] (kS [aq 3 0,iy 4 3,bP .gtr 5 4 8,aq 2 5] .ret)
theorem Vf:cZ f162=some acF:=by kernel_rfl
def ahN:aJ:=kS [bz 4 fv] (kS [aq 5 0,aq 6 1,bK 7 231 [.t 5,.t 6],bP .geq 8 7 0,aq 4 8] .ret)
theorem JA:cZ f163=some ahN:=by kernel_rfl
def aau:aJ:=kS [eF .lss 9 8 7] (.seq (kE 9) (.seq (.block 1 (kS [aq 10 8,aq 5 10] (kS [aq 11 1,aq 12 0,aq 13 5,jm 14 1 12 13,bE 15 14,oM 16 (.eW (.t 11) [.t 15])] (kC 16 (kS [aq 17 5,aq 4 17] .ret))))) (kR [bP .add 18 8 1,aq 8 18])))
def ahO:aJ:=kS [bz 4 (kI 0)] (.seq (kS [aq 6 0,iy 7 6,bz 8 (kI 0)] (mM aau)) (kS [bz 4 (kI (-1))] .ret))
theorem Vg:cZ f164=some ahO:=by kernel_rfl
def aav:aJ:=kS [eF .lss 9 8 7] (.seq (kE 9) (.seq (.block 1 (kS [aq 10 8,aq 5 10] (kS [aq 11 1,aq 12 0,aq 13 5,jm 14 4 12 13,cN 15 4 14,oM 16 (.eW (.t 11) [.t 15])] (kC 16 (kS [aq 17 5,aq 4 17] .ret))))) (kR [bP .add 18 8 1,aq 8 18])))
def ahP:aJ:=kS [bz 4 (kI 0)] (.seq (kS [aq 6 0,iy 7 6,bz 8 (kI 0)] (mM aav)) (kS [bz 4 (kI (-1))] .ret))
theorem JB:cZ f165=some ahP:=by kernel_rfl
def acG:aJ:=kS [aq 3 0,bK 4 160 [.t 3]] (kC 4 (.region true [bE 5 1,aq 6 0,bP .sub 7 6 97,oM 8 (.bin .shl (.c (.d (.int .u64 1))) (.t 7)),eF .or 9 5 8,b9 1 1 9] [0,0,2,4,9,31]))
theorem Vh:cZ f167=some acG:=by kernel_rfl
def Vi:aJ:=kS [oM 2 (cM 0),bz 4 fv] (kS [aY 7 2 0,bE 8 7,oM 9 (.build [zI,zI,zI,zI,zI,zI,zI,zI,zI] [(0,1,.t 8)]),oM 5 (.alloc [zI,zI,zI,zI,zI,zI,zI,zI,zI]),b9 9 5 9] (kS [bz 6 sg] (.seq (kS [aY 10 2 0,bE 11 10] (.block 0 (kS [bP .eql 13 11 1,aq 12 13] (.cond (.t 12) (kD [aY 14 2 2,bE 15 14,aY 16 2 3,cN 17 2 16,aY 18 5 2,b9 1 18 15,aY 19 5 3,b9 2 19 17] [0,1,0,4,3,19,63,127] (kR [aq 20 1,aY 21 2 2,bE 22 21,oM 23 (.eW (.t 20) [.t 22]),aq 24 23,jn 25 2 3 24,cO 26 (o1 2 25) 24,cO 27 (.bW 232 [.t 26]) 24,ia 28 24 27,aq 6 28])) (kS [bP .eql 30 11 2,aq 29 30] (.cond (.t 29) (kD [aY 31 2 1,bE 32 31,aY 33 2 2,bE 34 33,aY 35 5 1,b9 1 35 32,aY 36 5 2,b9 1 36 34] [0,1,0,4,3,19,63,127] (kR [aq 37 1,aY 38 2 2,bE 39 38,oM 40 (.eW (.t 37) [.t 39]),aq 41 40,jn 42 2 1 41,lE 43 42 41,cO 44 (.bW 233 [.t 43]) 41,ia 45 41 44,aq 6 45])) (kS [bP .eql 47 11 3,aq 46 47] (.cond (.t 46) .skip (kS [bP .eql 49 11 4,aq 48 49] (.cond (.t 48) (kD [aY 50 2 1,bE 51 50,aY 52 2 2,bE 53 52,aY 54 2 3,cN 55 2 54,aY 56 2 6,cN 57 2 56,aY 58 5 1,b9 1 58 51,aY 59 5 2,b9 1 59 53,aY 60 5 3,b9 2 60 55,aY 61 5 6,b9 2 61 57] [0,1,0,4,0,16,0,64,3,259,783,1807,3903,7999,16383,32767] (kR [aq 62 1,aY 63 2 2,bE 64 63,oM 65 (.eW (.t 62) [.t 64]),aq 66 65,jn 67 2 1 66,lE 68 67 66,cO 69 (.bW 233 [.t 68]) 66,ia 70 66 69,aq 71 70,jn 72 2 3 71,cO 73 (o1 2 72) 71,cO 74 (.bW 232 [.t 73]) 71,ia 75 71 74,aq 76 75,jn 77 2 6 76,cO 78 (o1 2 77) 76,cO 79 (.bW 232 [.t 78]) 76,ia 80 76 79,aq 6 80])) (kS [bP .eql 82 11 5,aq 81 82] (.cond (.t 81) (kD [aY 83 2 1,bE 84 83,aY 85 2 3,cN 86 2 85,aY 87 2 5,bE 88 87,aY 89 2 6,cN 90 2 89,aY 91 5 1,b9 1 91 84,aY 92 5 3,b9 2 92 86,aY 93 5 5,b9 1 93 88,aY 94 5 6,b9 2 94 90] [0,1,0,4,0,16,0,64,3,259,783,1807,3903,7999,16383,32767] (kR [aY 95 2 1,bE 96 95,bK 97 233 [.t 96],aq 98 97,jn 99 2 3 98,cO 100 (o1 2 99) 98,cO 101 (.bW 232 [.t 100]) 98,ia 102 98 101,aq 103 102,jn 104 2 6 103,cO 105 (o1 2 104) 103,cO 106 (.bW 232 [.t 105]) 103,ia 107 103 106,aq 108 107,jn 109 2 5 108,lE 110 109 108,cO 111 (iX .geq 110 0) 108,ia 112 108 111,aq 113 112,jn 114 2 5 113,lE 115 114 113,cO 116 (iX .leq 115 11) 113,ia 117 113 116,aq 118 117,jn 119 2 5 118,lE 120 119 118,cO 121 (iX .gtr 120 0) 118,ir 122 121 118,jY 123 2 6 122,df 124 (o1 2 123) 122,df 125 (.build [zI,zI] [(0,1,kI (-1))]) 122,df 126 (.eqs [0,0] false (.t 124) (.t 125)) 122,cO 127 (Rt 122 126) 118,ia 128 118 127,aq 6 128])) (kS [bP .eql 130 11 6,aq 129 130] (.cond (.t 129) (kD [aY 131 2 8,bE 132 131,aY 133 2 3,cN 134 2 133,aY 135 2 6,cN 136 2 135,aY 137 5 8,b9 1 137 132,aY 138 5 3,b9 2 138 134,aY 139 5 6,b9 2 139 136] [0,1,0,4,0,16,3,67,207,463,1023,2047] (kR [aY 140 2 8,bE 141 140,bP .geq 142 141 0,aq 143 142,jn 144 2 3 143,cO 145 (o1 2 144) 143,cO 146 (.bW 232 [.t 145]) 143,ia 147 143 146,aq 148 147,jn 149 2 6 148,cO 150 (o1 2 149) 148,cO 151 (.bW 232 [.t 150]) 148,ia 152 148 151,aq 6 152])) (kS [bz 4 fv] .ret))))))))))))))) (kS [aq 153 6,aq 154 153,cO 155 (o1 9 2) 154,cO 156 (o1 9 5) 154,cO 157 (.eqs [0,0,0,0,0,0,0,0,0] false (.t 155) (.t 156)) 154,ia 158 154 157,aq 4 158] .ret))))
theorem JC:cZ f171=some Vi:=by kernel_rfl
def acH:aJ:=kS [bz 4 fv] (kS [aq 5 0,oM 6 (.rY 206 [.t 1,.t 2]),bK 7 117 [.t 5,.t 6],oM 8 (gl 7),aq 4 8] .ret)
theorem Vj:cZ f205=some acH:=by kernel_rfl
def acI:aJ:=kS [oM 3 (cM 0),bz 4 fv] (kS [cN 5 3 1,cN 6 4 3,cN 7 20 2,bK 8 207 [.t 5,.t 6,.t 7],oM 9 (gl 8),aq 4 9] .ret)
theorem Vk:cZ f206=some acI:=by kernel_rfl
def acJ:aJ:=kS [oM 3 (cM 0),oM 4 (cM 1),oM 5 (cM 2),bz 6 fv] (.seq (kS [aY 8 4 0,bE 9 8,bP .eql 10 9 (-1)] (kC 10 (kS [bz 7 (kI (-1))] (.seq (kS [aY 11 4 2,bE 12 11,bP .geq 13 12 0,aq 14 13,jn 15 4 2 14,lE 16 15 14,cO 17 (iX .lss 16 256) 14,ia 18 14 17] (kC 18 (kR [aY 19 3 0,bE 20 19,aY 21 4 2,bE 22 21,oM 23 (.IJ .u8 (.t 22)),bK 24 266 [.t 20,.t 23],aq 7 24]))) (kD [aq 25 7,bP .geq 26 25 0,aq 27 26,ir 28 7 27,cO 29 (iX .lss 28 4) 27,ia 30 27 29,aq 31 30,ir 32 7 31,jn 33 5 16 31,cO 34 (.cg 1 (some 4) (.t 33) (.t 32)) 31,lE 35 34 31,jn 36 4 3 31,lE 37 36 31,cO 38 (r9 .eql 35 37) 31,ia 39 31 38,aq 6 39] [0,1,2,4,12,20,36,64,64,448,576,64,2112,5184,8256,32767] .ret))))) (.seq (kS [aY 40 4 0,bE 41 40,bP .lss 42 41 0,aq 43 42,jY 44 4 0 43,ma 45 44 43,jY 46 3 2 43,ma 47 46 43,df 48 (mq 47) 43,df 49 (.yM (.t 48) (kI 4)) 43,df 50 (r9 .geq 45 49) 43,iK 51 43 50,aq 52 51,jY 53 4 1 52,ma 54 53 52,df 55 (iX .lss 54 0) 52,iK 56 52 55,aq 57 56,jY 58 4 1 57,ma 59 58 57,df 60 (iX .geq 59 4) 57,iK 61 57 60] (kC 61 (kS [bz 6 fv] .ret))) (kD [aY 62 4 0,bE 63 62,aY 64 4 1,bE 65 64,aY 66 5 0,oM 67 (.cg 4 (some 4) (.t 66) (.t 63)),oM 68 (.cg 1 (some 4) (.t 67) (.t 65)),bE 69 68,aY 70 4 3,bE 71 70,eF .eql 72 69 71,aq 6 72] [0,1,0,4,0,18,40,64,0,256,640,2047] .ret)))
theorem Vl:cZ f207=some acJ:=by kernel_rfl
def GU:aJ:=.seq (kS [aq 18 0,aq 19 0,dC 20 19,aY 21 20 1,bE 22 21,bK 23 216 [.t 18,.t 22],aq 24 23,ir 25 0 24,ir 26 0 24,cO 27 (wU 26) 24,jn 28 27 1 24,lE 29 28 24,cO 30 (.bW 217 [.t 25,.t 29]) 24,cO 31 (.bin .neq (.t 30) (.c (.d (.int .u8 10)))) 24,ia 32 24 31] (.cond (.t 32) .skip (.exit 3))) (.block 4 (kR [aq 33 0,dC 34 33,aY 35 34 1,bE 36 35,bP .add 37 36 1,dC 38 33,aY 39 38 1,b9 1 39 37]))
def GV:aJ:=.seq (kS [aq 3 0,aq 4 0,dC 5 4,aY 6 5 1,bE 7 6,bK 8 216 [.t 3,.t 7]] (kE 8)) (.block 1 (kS [aq 9 0,aq 10 0,dC 11 10,aY 12 11 1,bE 13 12,bK 14 217 [.t 9,.t 13],aq 2 14] (.block 2 (kS [aq 16 2,oM 17 (.bin .eql (.t 16) (.c (.d (.int .u8 35)))),aq 15 17] (.cond (.t 15) (.block 3 (.loop GU)) (kS [aq 41 2,bK 42 218 [.t 41],bP .eql 43 42 1,aq 40 43] (.cond (.t 40) (kR [aq 44 0,dC 45 44,aY 46 45 1,bE 47 46,bP .add 48 47 1,dC 49 44,aY 50 49 1,b9 1 50 48]) .ret)))))))
def acK:aJ:=mM GV
theorem Vn:cZ f215=some acK:=by kernel_rfl
def acL:aJ:=kS [bz 4 fv] (kS [aq 5 1,aq 6 0,dC 7 6,aY 8 7 0,bE 9 8,oM 10 (.lens (.t 9)),eF .lss 11 5 10,aq 4 11] .ret)
theorem Vo:cZ f216=some acL:=by kernel_rfl
def acM:aJ:=kS [bz 4 (.c (.d (.int .u8 0)))] (.seq (kS [aq 5 1,aq 6 0,dC 7 6,aY 8 7 0,bE 9 8,oM 10 (.lens (.t 9)),eF .geq 11 5 10] (kC 11 (kS [bz 4 (.c (.d (.int .u8 0)))] .ret))) (kS [aq 12 0,aq 13 0,dC 14 13,aY 15 14 2,bE 16 15,aq 17 1,bP .add 18 17 1,oM 19 (.wk (.t 16) (.t 18)),dC 20 12,aY 21 20 2,b9 1 21 19] (kS [aq 22 0,dC 23 22,aY 24 23 0,bE 25 24,aq 26 1,oM 27 (.idxs (.t 25) (.t 26)),aq 4 27] .ret)))
theorem Vp:cZ f217=some acM:=by kernel_rfl
def acN:aJ:=kS [bz 2 (kI 0)] (.seq (.block 0 (kS [aq 4 0,oM 5 (.bin .eql (.t 4) (.c (.d (.int .u8 32)))),aq 6 5,kL 7 0 6,df 8 (.bin .eql (.t 7) (.c (.d (.int .u8 9)))) 6,iK 9 6 8,aq 10 9,kL 11 0 10,df 12 (.bin .eql (.t 11) (.c (.d (.int .u8 10)))) 10,iK 13 10 12,aq 3 13] (.cond (.t 3) (kS [bz 2 (kI 1)] .ret) (kS [aq 15 0,oM 16 (.bin .geq (.t 15) (.c (.d (.int .u8 97)))),aq 17 16,ir 18 0 17,cO 19 (.bin .leq (.t 18) (.c (.d (.int .u8 122)))) 17,ia 20 17 19,aq 14 20] (.cond (.t 14) (kS [bz 2 (kI 2)] .ret) (kS [aq 22 0,oM 23 (.bin .geq (.t 22) (.c (.d (.int .u8 48)))),aq 24 23,ir 25 0 24,cO 26 (.bin .leq (.t 25) (.c (.d (.int .u8 57)))) 24,ia 27 24 26,aq 21 27] (kC 21 (kS [bz 2 (kI 3)] .ret)))))))) (kS [bz 2 (kI 0)] .ret))
theorem Vq:cZ f218=some acN:=by kernel_rfl
def GW:aJ:=.seq (kS [aq 5 0,aq 6 1,bK 7 216 [.t 5,.t 6],aq 8 7,ir 9 0 8,ir 10 1 8,cO 11 (.bW 217 [.t 9,.t 10]) 8,cO 12 (.bW 218 [.t 11]) 8,cO 13 (iX .geq 12 2) 8,ia 14 8 13] (kE 14)) (.block 1 (kR [aq 15 1,bP .add 16 15 1,aq 1 16]))
def acO:aJ:=kS [bz 4 (kI 0)] (.seq (mM GW) (kS [aq 17 1,aq 4 17] .ret))
theorem Vr:cZ f219=some acO:=by kernel_rfl
def acP:aJ:=kS [oM 4 (.alloc [zI,zS,zI]),oM 5 (.alloc [zI,zI])] (kS [aq 6 0,aq 7 1,aq 8 0,dC 9 8,aY 10 9 1,bE 11 10,oM 12 (.build [zI,zI] [(0,1,.t 7),(1,1,.t 11)]),dC 13 6,aY 14 13 3,b9 2 14 12] (kD [oM 15 (.build [zI,zS,zI] []),aq 16 0,dC 17 16,aY 18 17 3,cN 19 2 18,b9 3 4 15,b9 2 5 19] [0,0,2,4,8,1,63] .ret))
theorem Vs:cZ f221=some acP:=by kernel_rfl
def acQ:aJ:=kS [bz 2 (.c zS)] (kS [aq 6 0,aq 7 0,dC 8 7,aY 9 8 1,bE 10 9,bK 11 217 [.t 6,.t 10],aq 3 11] (.seq (kS [aq 12 3] (.block 0 (.seq (kS [oM 14 (.bin .eql (.t 12) (.c (.d (.int .u8 60)))),aq 13 14] (.cond (.t 13) .skip (kS [oM 15 (.bin .eql (.t 12) (.c (.d (.int .u8 62)))),aq 13 15] (.cond (.t 13) .skip (kS [oM 16 (.bin .eql (.t 12) (.c (.d (.int .u8 61)))),aq 13 16] (.cond (.t 13) .skip (kR [oM 17 (.bin .eql (.t 12) (.c (.d (.int .u8 33)))),aq 13 17]))))))) (kC 13 (kS [aq 18 0,aq 19 0,dC 20 19,aY 21 20 1,bE 22 21,bP .add 23 22 1,bK 24 217 [.t 18,.t 23],aq 4 24] (kS [aq 25 3,oM 26 (.bin .eql (.t 25) (.c (.d (.int .u8 60)))),aq 27 26,ir 28 4 27,cO 29 (.bin .eql (.t 28) (.c (.d (.int .u8 60)))) 27,ia 30 27 29,aq 31 30,kL 32 3 31,df 33 (.bin .eql (.t 32) (.c (.d (.int .u8 62)))) 31,kL 34 33 31,ir 35 4 34,cO 36 (.bin .eql (.t 35) (.c (.d (.int .u8 62)))) 34,df 37 (wT 34 36) 31,iK 38 31 37,aq 39 38,kL 40 3 39,df 41 (.bin .eql (.t 40) (.c (.d (.int .u8 61)))) 39,kL 42 41 39,kL 43 3 42,df 44 (.bin .eql (.t 43) (.c (.d (.int .u8 33)))) 42,df 45 (Rt 42 44) 39,kL 46 45 39,ir 47 4 46,cO 48 (.bin .eql (.t 47) (.c (.d (.int .u8 61)))) 46,df 49 (wT 46 48) 39,iK 50 39 49,aq 5 50] (.seq (.block 1 (kS [aq 52 5,aq 51 52] (.cond (.t 51) (kD [aq 53 0,dC 54 53,aY 55 54 0,bE 56 55,aq 57 0,dC 58 57,aY 59 58 1,bE 60 59,aq 61 0,dC 62 61,aY 63 62 1,bE 64 63,bP .add 65 64 2,oM 66 (.yL (.t 56) (some (.t 60)) (some (.t 65))),aq 2 66] [0,1,2,4,0,16,32,64,0,256,512,1024,2048,4232,16383] .ret) (kS [aq 68 3,oM 69 (.bin .eql (.t 68) (.c (.d (.int .u8 62)))),aq 70 69,kL 71 3 70,df 72 (.bin .eql (.t 71) (.c (.d (.int .u8 33)))) 70,iK 73 70 72,aq 67 73] (kC 67 (kS [bz 2 (.c zS)] .ret)))))) (kS [aq 74 3,oM 75 (.nz (.t 74)),aq 2 75] .ret)))))))) (.seq (kS [aq 76 3,oM 77 (.bin .neq (.t 76) (.c (.d (.int .u8 0)))),aq 78 77,ir 79 3 78,cO 80 (.bW 272 [.c (.d (.str [123,125,59,58,43,45,42,38,124,94])),.t 79]) 78,cO 81 (iX .geq 80 0) 78,ia 82 78 81] (kC 82 (kS [aq 83 3,oM 84 (.nz (.t 83)),aq 2 84] .ret))) (kS [bz 2 (.c zS)] .ret))))
theorem Vt:cZ f222=some acQ:=by kernel_rfl
def Pk:aJ:=kS [eF .lss 9 8 7] (.seq (kE 9) (.seq (.block 1 (kS [aq 10 8,aq 5 10] (kS [aq 11 1,aq 12 0,aq 13 5,jm 14 9 12 13,cN 15 9 14,oM 16 (.eW (.t 11) [.t 15])] (kC 16 (kS [aq 17 5,aq 4 17] .ret))))) (kR [bP .add 18 8 1,aq 8 18])))
def acR:aJ:=kS [bz 4 (kI 0)] (.seq (kS [aq 6 0,iy 7 6,bz 8 (kI 0)] (mM Pk)) (kS [bz 4 (kI (-1))] .ret))
theorem JD:cZ f226=some acR:=by kernel_rfl
def aaw:aJ:=kS [eF .lss 9 8 7] (.seq (kE 9) (.seq (.block 1 (kS [aq 10 8,aq 5 10] (kS [aq 11 1,aq 12 0,aq 13 5,jm 14 2 12 13,cN 15 2 14,oM 16 (.eW (.t 11) [.t 15])] (kC 16 (kS [aq 17 5,aq 4 17] .ret))))) (kR [bP .add 18 8 1,aq 8 18])))
def ahQ:aJ:=kS [bz 4 (kI 0)] (.seq (kS [aq 6 0,iy 7 6,bz 8 (kI 0)] (mM aaw)) (kS [bz 4 (kI (-1))] .ret))
theorem Vu:cZ f227=some ahQ:=by kernel_rfl
def acS:aJ:=kS [bz 2 fv] (kS [aq 3 0,iy 4 3,bP .eql 5 4 0,aq 6 5,kL 7 0 6,df 8 (.bW 117 [.t 7,.c (.fn 229 [])]) 6,iK 9 6 8,aq 2 9] .ret)
theorem Vv:cZ f228=some acS:=by kernel_rfl
def acT:aJ:=kS [oM 1 (cM 0),bz 2 fv] (kS [cN 3 4 1,bK 4 230 [.t 3],oM 5 (gl 4),aq 2 5] .ret)
theorem Vw:cZ f229=some acT:=by kernel_rfl
def acU:aJ:=kS [oM 1 (cM 0),bz 2 fv] (.seq (kS [aY 3 1 0,bE 4 3,bP .eql 5 4 (-1)] (kC 5 (kS [aY 6 1 1,bE 7 6,bP .eql 8 7 0,aq 9 8,jn 10 1 2 9,lE 11 10 9,cO 12 (.bW 160 [.t 11]) 9,ia 13 9 12,aq 2 13] .ret))) (kS [aY 14 1 0,bE 15 14,bP .geq 16 15 0,aq 17 16,jn 18 1 0 17,lE 19 18 17,cO 20 (iX .leq 19 9) 17,ia 21 17 20,aq 22 21,jn 23 1 2 22,lE 24 23 22,cO 25 (iX .eql 24 0) 22,ia 26 22 25,aq 27 26,jn 28 1 1 27,lE 29 28 27,cO 30 (.bW 233 [.t 29]) 27,ia 31 27 30,aq 2 31] .ret))
theorem Vx:cZ f230=some acU:=by kernel_rfl
def aax:aJ:=kS [eF .lss 9 8 7] (.seq (kE 9) (.seq (.block 1 (kS [aq 10 8,aq 5 10] (kS [aq 11 1,aq 12 0,aq 13 5,jm 14 1 12 13,bE 15 14,oM 16 (.eW (.t 11) [.t 15])] (kC 16 (kS [aq 17 5,aq 4 17] .ret))))) (kR [bP .add 18 8 1,aq 8 18])))
def ahR:aJ:=kS [bz 4 (kI 0)] (.seq (kS [aq 6 0,iy 7 6,bz 8 (kI 0)] (mM aax)) (kS [bz 4 (kI (-1))] .ret))
theorem JE:cZ f231=some ahR:=by kernel_rfl
def acV:aJ:=kS [oM 1 (cM 0),bz 2 fv] (kS [aY 3 1 0,bE 4 3,bP .eql 5 4 (-1),aq 6 5,jY 7 1 0 6,ma 8 7 6,df 9 (.bW 233 [.t 8]) 6,kL 10 9 6,jn 11 1 1 10,lE 12 11 10,cO 13 (iX .eql 12 0) 10,df 14 (wT 10 13) 6,iK 15 6 14,aq 2 15] .ret)
theorem Vy:cZ f232=some acV:=by kernel_rfl
def acW:aJ:=kS [bz 2 fv] (kS [aq 3 0,bP .geq 4 3 0,aq 5 4,ir 6 0 5,cO 7 (iX .lss 6 4) 5,ia 8 5 7,aq 2 8] .ret)
theorem Vz:cZ f233=some acW:=by kernel_rfl
def acX:aJ:=kS [bz 6 (kI 0),bz 7 fv] (kS [aq 9 2,oM 10 (.IJ .u64 (.t 9)),oM 11 (.bin .rem (.t 10) (.c (.d (.int .u64 64)))),aq 8 11] (.seq (kS [aq 12 0] (.block 0 (kS [bP .eql 14 12 1,aq 13 14] (.cond (.t 13) (kS [aq 15 1,aq 16 2,eF .add 17 15 16,aq 6 17,bz 7 sg] .ret) (kS [bP .eql 19 12 2,aq 18 19] (.cond (.t 18) (kS [aq 20 1,aq 21 2,eF .sub 22 20 21,aq 6 22,bz 7 sg] .ret) (kS [bP .eql 24 12 3,aq 23 24] (.cond (.t 23) (kS [aq 25 1,aq 26 2,eF .mul 27 25 26,aq 6 27,bz 7 sg] .ret) (kS [bP .eql 29 12 4,aq 28 29] (.cond (.t 28) (kS [aq 30 1,aq 31 2,eF .and 32 30 31,aq 6 32,bz 7 sg] .ret) (kS [bP .eql 34 12 5,aq 33 34] (.cond (.t 33) (kS [aq 35 1,aq 36 2,eF .or 37 35 36,aq 6 37,bz 7 sg] .ret) (kS [bP .eql 39 12 6,aq 38 39] (.cond (.t 38) (kS [aq 40 1,aq 41 2,eF .xor 42 40 41,aq 6 42,bz 7 sg] .ret) (kS [bP .eql 44 12 7,aq 43 44] (.cond (.t 43) (kS [aq 45 1,aq 46 8,eF .shl 47 45 46,aq 6 47,bz 7 sg] .ret) (kS [bP .eql 49 12 8,aq 48 49] (.cond (.t 48) (kS [aq 50 1,aq 51 8,eF .shr 52 50 51,aq 6 52,bz 7 sg] .ret) (kS [bP .eql 54 12 9,aq 53 54] (.cond (.t 53) (kS [aq 55 1,aq 56 2,eF .eql 57 55 56,bK 58 274 [.t 57],aq 6 58,bz 7 sg] .ret) (kS [bP .eql 60 12 10,aq 59 60] (.cond (.t 59) (kS [aq 61 1,aq 62 2,eF .neq 63 61 62,bK 64 274 [.t 63],aq 6 64,bz 7 sg] .ret) (kS [bP .eql 66 12 11,aq 65 66] (kC 65 (kS [aq 67 1,aq 68 2,eF .lss 69 67 68,bK 70 274 [.t 69],aq 6 70,bz 7 sg] .ret))))))))))))))))))))))))) (kS [bz 6 (kI 0),bz 7 fv] .ret)))
theorem VA:cZ f235=some acX:=by kernel_rfl
def Pl:aJ:=kS [bP .lss 8 7 12] (.seq (kE 8) (.seq (.block 1 (kS [aq 9 7,oM 10 (.Es 12 1 none (.t 6) (.t 7)),aq 4 9,aq 5 10] (kS [aq 11 4,bP .gtr 12 11 0,aq 13 12,ir 14 5 13,ir 15 0 13,cO 16 (r9 .eql 14 15) 13,ia 17 13 16] (kC 17 (kS [aq 18 4,aq 2 18,bz 3 sg] .ret))))) (kR [bP .add 19 7 1,aq 7 19])))
def acY:aJ:=kS [bz 2 (kI 0),bz 3 fv] (.seq (kS [bK 6 284 [],bz 7 (kI 0)] (mM Pl)) (kS [bz 2 (kI 0),bz 3 fv] .ret))
theorem VB:cZ f273=some acY:=by kernel_rfl
def acZ:aJ:=kS [bz 2 (kI 0)] (.seq (kS [aq 3 0] (kC 3 (kS [bz 2 (kI 1)] .ret))) (kS [bz 2 (kI 0)] .ret))
theorem VC:cZ f274=some acZ:=by kernel_rfl
def ac0:aJ:=kS [oM 0 (.alloc [zS,zS,zS,zS,zS,zS,zS,zS,zS,zS,zS,zS])] (kS [oM 1 (.build [zS,zS,zS,zS,zS,zS,zS,zS,zS,zS,zS,zS] [(0,1,.c zS),(1,1,.c (.d (.str [43]))),(2,1,.c (.d (.str [45]))),(3,1,.c (.d (.str [42]))),(4,1,.c (.d (.str [38]))),(5,1,.c (.d (.str [124]))),(6,1,.c (.d (.str [94]))),(7,1,.c (.d (.str [60,60]))),(8,1,.c (.d (.str [62,62]))),(9,1,.c (.d (.str [61,61]))),(10,1,.c (.d (.str [33,61]))),(11,1,.c (.d (.str [60])))]),b9 12 0 1] .ret)
theorem VD:cZ f284=some ac0:=by kernel_rfl
end
end Go.Proofs.YtadocofdkdiboaaGreatDoor
namespace Go.Proofs
open Go.Shelf
def Tryz.JF:Go.Shelf.Ren:=⟨λ|137=>272|217=>283|266=>292|n=>n,λ|9=>9|5=>5|3=>3|n=>n,λ|n=>n⟩
theorem Tryz.aay:Go.Proofs.Lays.n137 Tryz.prog Tryz.JF:={
 mixed:=by kernel_rfl
 f137:=Tryz.func272.trans (congrArg some (by kernel_rfl))
 f217:=Tryz.func283.trans (congrArg some (by kernel_rfl))
 f266:=Tryz.func292.trans (congrArg some (by kernel_rfl))
 t3:=Tryz.underlying3
 a3:=Tryz.isAgg3
 z3:=Tryz.sizeOf3
 v3:=Tryz.zeroValue3
 t5:=Tryz.underlying5
 a5:=Tryz.isAgg5
 z5:=Tryz.sizeOf5
 v5:=Tryz.zeroValue5
 t9:=Tryz.underlying9
 a9:=Tryz.isAgg9
 z9:=Tryz.sizeOf9
 v9:=Tryz.zeroValue9}
open Go.RowKit in
theorem Tryz.strings_IndexByte (s:ByteArray) (c:Int) (w:World):
 Calls Tryz.prog 272 #[.string s,.int .u8 c] w λe w'=>e=.returned (.int .i64 (Lib.indexByte s.data.toList c.toNat.toUInt8))/\w'=w:=Any.strings_IndexByte Tryz.aay s c w
def Tryz.GX:Go.Shelf.Ren:=⟨λ|173=>91|246=>141|283=>208|284=>209|285=>210|286=>211|129=>203|317=>267|318=>268|319=>269|320=>270|337=>280|338=>177|n=>n,λ|2=>2|3=>3|9=>9|4=>4|171=>264|0=>0|53=>110|37=>40|5=>5|173=>266|212=>309|51=>262|20=>20|213=>310|46=>75|232=>323|233=>283|n=>n,λ|17=>1|18=>3|19=>0|n=>n⟩
theorem Tryz.VE:Go.Proofs.LaysM.n173 Tryz.prog Tryz.GX:={
 mixed:=by kernel_rfl
 f129:=Tryz.func203.trans (congrArg some (by kernel_rfl))
 f173:=Tryz.func91.trans (congrArg some (by kernel_rfl))
 f246:=Tryz.func141.trans (congrArg some (by kernel_rfl))
 f283:=Tryz.func208.trans (congrArg some (by kernel_rfl))
 f284:=Tryz.func209.trans (congrArg some (by kernel_rfl))
 f285:=Tryz.func210.trans (congrArg some (by kernel_rfl))
 f286:=Tryz.func211.trans (congrArg some (by kernel_rfl))
 f317:=Tryz.func267.trans (congrArg some (by kernel_rfl))
 f318:=Tryz.func268.trans (congrArg some (by kernel_rfl))
 f319:=Tryz.func269.trans (congrArg some (by kernel_rfl))
 f320:=Tryz.func270.trans (congrArg some (by kernel_rfl))
 f337:=Tryz.func280.trans (congrArg some (by kernel_rfl))
 f338:=Tryz.func177.trans (congrArg some (by kernel_rfl))
 t0:=Tryz.underlying0
 a0:=Tryz.isAgg0
 z0:=Tryz.sizeOf0
 v0:=Tryz.zeroValue0
 t2:=Tryz.underlying2
 a2:=Tryz.isAgg2
 z2:=Tryz.sizeOf2
 v2:=Tryz.zeroValue2
 t3:=Tryz.underlying3
 a3:=Tryz.isAgg3
 z3:=Tryz.sizeOf3
 v3:=Tryz.zeroValue3
 t4:=Tryz.underlying4
 a4:=Tryz.isAgg4
 z4:=Tryz.sizeOf4
 v4:=Tryz.zeroValue4
 t5:=Tryz.underlying5
 a5:=Tryz.isAgg5
 z5:=Tryz.sizeOf5
 v5:=Tryz.zeroValue5
 t9:=Tryz.underlying9
 a9:=Tryz.isAgg9
 z9:=Tryz.sizeOf9
 v9:=Tryz.zeroValue9
 t20:=Tryz.underlying20
 a20:=Tryz.isAgg20
 z20:=Tryz.sizeOf20
 v20:=Tryz.zeroValue20
 t37:=Tryz.underlying40
 a37:=Tryz.isAgg40
 z37:=Tryz.sizeOf40
 v37:=Tryz.zeroValue40
 t46:=Tryz.underlying75
 a46:=Tryz.isAgg75
 z46:=Tryz.sizeOf75
 v46:=Tryz.zeroValue75
 t51:=Tryz.underlying262
 a51:=Tryz.isAgg262
 z51:=Tryz.sizeOf262
 v51:=Tryz.zeroValue262
 t53:=Tryz.underlying110
 a53:=Tryz.isAgg110
 z53:=Tryz.sizeOf110
 v53:=Tryz.zeroValue110
 t171:=Tryz.underlying264
 a171:=Tryz.isAgg264
 z171:=Tryz.sizeOf264
 v171:=Tryz.zeroValue264
 t173:=Tryz.underlying266
 a173:=Tryz.isAgg266
 z173:=Tryz.sizeOf266
 v173:=Tryz.zeroValue266
 t212:=Tryz.underlying309
 a212:=Tryz.isAgg309
 z212:=Tryz.sizeOf309
 v212:=Tryz.zeroValue309
 t213:=Tryz.underlying310
 a213:=Tryz.isAgg310
 z213:=Tryz.sizeOf310
 t232:=Tryz.underlying323
 a232:=Tryz.isAgg323
 z232:=Tryz.sizeOf323
 v232:=Tryz.zeroValue323
 t233:=Tryz.underlying283
 a233:=Tryz.isAgg283
 z233:=Tryz.sizeOf283
 v233:=Tryz.zeroValue283
 g17:=by kernel_rfl
 g18:=by kernel_rfl
 g19:=by kernel_rfl
 i0:=by kernel_rfl
 i2:=by kernel_rfl
 i3:=by kernel_rfl
 i4:=by kernel_rfl
 i5:=by kernel_rfl
 i9:=by kernel_rfl
 i20:=by kernel_rfl
 i37:=by kernel_rfl
 i46:=by kernel_rfl
 i51:=by kernel_rfl
 i53:=by kernel_rfl
 i171:=by kernel_rfl
 i173:=by kernel_rfl
 i212:=by kernel_rfl
 i232:=by kernel_rfl
 i233:=by kernel_rfl
 m17:=by kernel_rfl
 m18:=by kernel_rfl
 m19:=by kernel_rfl}
open Go.RowKit Go.Sort Go.Lib in
theorem Tryz.strconv_FormatInt_10 (n:Int) (h0:-9223372036854775808<=n) (h1:n<=9223372036854775807) (w:World) (GY:Lib.TabIs Tryz.prog w "internal/strconv.uint64pow10" .u64 Lib.pow10Tab):
 Calls Tryz.prog 91 #[.int .i64 n,.int .i64 10] w λe w'=>e=.returned (.string ⟨(Lib.itoa n).toArray⟩)/\∃k os,w'=grow (w.drewN k) os:=Any.strconv_FormatInt_10 Tryz.VE n h0 h1 w GY
open Go.RowKit Go.Sort Go.Lib in
def Tryz.GZ:Go.Shelf.Ren:=⟨λ|174=>271|247=>281|245=>282|287=>287|279=>288|280=>289|281=>290|282=>291|321=>293|322=>294|316=>295|171=>143|205=>296|243=>212|246=>141|283=>208|284=>209|285=>210|286=>211|129=>203|317=>267|318=>268|319=>269|320=>270|337=>280|338=>177|n=>n,λ|9=>9|3=>3|2=>2|75=>155|85=>311|4=>4|167=>324|5=>5|53=>110|175=>325|46=>75|168=>327|37=>40|0=>0|210=>333|21=>21|127=>214|145=>337|143=>335|171=>264|173=>266|212=>309|51=>262|20=>20|213=>310|232=>323|233=>283|80=>120|n=>n,λ|15=>4|16=>5|17=>1|18=>3|19=>0|n=>n⟩
theorem Tryz.Cx:Go.Proofs.LaysC.n174 Tryz.prog Tryz.GZ:={
 mixed:=by kernel_rfl
 f129:=Tryz.func203.trans (congrArg some (by kernel_rfl))
 f171:=Tryz.func143.trans (congrArg some (by kernel_rfl))
 f174:=Tryz.func271.trans (congrArg some (by kernel_rfl))
 f205:=Tryz.func296.trans (congrArg some (by kernel_rfl))
 f243:=Tryz.func212.trans (congrArg some (by kernel_rfl))
 f245:=Tryz.func282.trans (congrArg some (by kernel_rfl))
 f246:=Tryz.func141.trans (congrArg some (by kernel_rfl))
 f247:=Tryz.func281.trans (congrArg some (by kernel_rfl))
 f279:=Tryz.func288.trans (congrArg some (by kernel_rfl))
 f280:=Tryz.func289.trans (congrArg some (by kernel_rfl))
 f281:=Tryz.func290.trans (congrArg some (by kernel_rfl))
 f282:=Tryz.func291.trans (congrArg some (by kernel_rfl))
 f283:=Tryz.func208.trans (congrArg some (by kernel_rfl))
 f284:=Tryz.func209.trans (congrArg some (by kernel_rfl))
 f285:=Tryz.func210.trans (congrArg some (by kernel_rfl))
 f286:=Tryz.func211.trans (congrArg some (by kernel_rfl))
 f287:=Tryz.func287.trans (congrArg some (by kernel_rfl))
 f316:=Tryz.func295.trans (congrArg some (by kernel_rfl))
 f317:=Tryz.func267.trans (congrArg some (by kernel_rfl))
 f318:=Tryz.func268.trans (congrArg some (by kernel_rfl))
 f319:=Tryz.func269.trans (congrArg some (by kernel_rfl))
 f320:=Tryz.func270.trans (congrArg some (by kernel_rfl))
 f321:=Tryz.func293.trans (congrArg some (by kernel_rfl))
 f322:=Tryz.func294.trans (congrArg some (by kernel_rfl))
 f337:=Tryz.func280.trans (congrArg some (by kernel_rfl))
 f338:=Tryz.func177.trans (congrArg some (by kernel_rfl))
 t0:=Tryz.underlying0
 a0:=Tryz.isAgg0
 z0:=Tryz.sizeOf0
 v0:=Tryz.zeroValue0
 t2:=Tryz.underlying2
 a2:=Tryz.isAgg2
 z2:=Tryz.sizeOf2
 v2:=Tryz.zeroValue2
 t3:=Tryz.underlying3
 a3:=Tryz.isAgg3
 z3:=Tryz.sizeOf3
 v3:=Tryz.zeroValue3
 t4:=Tryz.underlying4
 a4:=Tryz.isAgg4
 z4:=Tryz.sizeOf4
 v4:=Tryz.zeroValue4
 t5:=Tryz.underlying5
 a5:=Tryz.isAgg5
 z5:=Tryz.sizeOf5
 v5:=Tryz.zeroValue5
 t9:=Tryz.underlying9
 a9:=Tryz.isAgg9
 z9:=Tryz.sizeOf9
 v9:=Tryz.zeroValue9
 t20:=Tryz.underlying20
 a20:=Tryz.isAgg20
 z20:=Tryz.sizeOf20
 v20:=Tryz.zeroValue20
 t21:=Tryz.underlying21
 a21:=Tryz.isAgg21
 z21:=Tryz.sizeOf21
 v21:=Tryz.zeroValue21
 t37:=Tryz.underlying40
 a37:=Tryz.isAgg40
 z37:=Tryz.sizeOf40
 v37:=Tryz.zeroValue40
 t46:=Tryz.underlying75
 a46:=Tryz.isAgg75
 z46:=Tryz.sizeOf75
 v46:=Tryz.zeroValue75
 t51:=Tryz.underlying262
 a51:=Tryz.isAgg262
 z51:=Tryz.sizeOf262
 v51:=Tryz.zeroValue262
 t53:=Tryz.underlying110
 a53:=Tryz.isAgg110
 z53:=Tryz.sizeOf110
 v53:=Tryz.zeroValue110
 t75:=Tryz.underlying155
 a75:=Tryz.isAgg155
 z75:=Tryz.sizeOf155
 v75:=Tryz.zeroValue155
 t85:=Tryz.underlying311
 a85:=Tryz.isAgg311
 z85:=Tryz.sizeOf311
 v85:=Tryz.zeroValue311
 t127:=Tryz.underlying214
 a127:=Tryz.isAgg214
 z127:=Tryz.sizeOf214
 v127:=Tryz.zeroValue214
 t143:=Tryz.underlying335
 a143:=Tryz.isAgg335
 z143:=Tryz.sizeOf335
 v143:=Tryz.zeroValue335
 t145:=Tryz.underlying337
 a145:=Tryz.isAgg337
 z145:=Tryz.sizeOf337
 v145:=Tryz.zeroValue337
 t167:=Tryz.underlying324
 a167:=Tryz.isAgg324
 z167:=Tryz.sizeOf324
 v167:=Tryz.zeroValue324
 t168:=Tryz.underlying327
 a168:=Tryz.isAgg327
 z168:=Tryz.sizeOf327
 v168:=Tryz.zeroValue327
 t171:=Tryz.underlying264
 a171:=Tryz.isAgg264
 z171:=Tryz.sizeOf264
 v171:=Tryz.zeroValue264
 t173:=Tryz.underlying266
 a173:=Tryz.isAgg266
 z173:=Tryz.sizeOf266
 v173:=Tryz.zeroValue266
 t175:=Tryz.underlying325
 a175:=Tryz.isAgg325
 z175:=Tryz.sizeOf325
 v175:=Tryz.zeroValue325
 t210:=Tryz.underlying333
 a210:=Tryz.isAgg333
 z210:=Tryz.sizeOf333
 v210:=Tryz.zeroValue333
 t212:=Tryz.underlying309
 a212:=Tryz.isAgg309
 z212:=Tryz.sizeOf309
 v212:=Tryz.zeroValue309
 t213:=Tryz.underlying310
 a213:=Tryz.isAgg310
 z213:=Tryz.sizeOf310
 t232:=Tryz.underlying323
 a232:=Tryz.isAgg323
 z232:=Tryz.sizeOf323
 v232:=Tryz.zeroValue323
 t233:=Tryz.underlying283
 a233:=Tryz.isAgg283
 z233:=Tryz.sizeOf283
 v233:=Tryz.zeroValue283
 g15:=by kernel_rfl
 g16:=by kernel_rfl
 g17:=by kernel_rfl
 g18:=by kernel_rfl
 g19:=by kernel_rfl
 t80:=Tryz.underlying120
 a80:=Tryz.isAgg120
 z80:=Tryz.sizeOf120
 v80:=Tryz.zeroValue120
 i0:=by kernel_rfl
 i2:=by kernel_rfl
 i3:=by kernel_rfl
 i4:=by kernel_rfl
 i5:=by kernel_rfl
 i9:=by kernel_rfl
 i20:=by kernel_rfl
 i21:=by kernel_rfl
 i37:=by kernel_rfl
 i46:=by kernel_rfl
 i51:=by kernel_rfl
 i53:=by kernel_rfl
 i75:=by kernel_rfl
 i80:=by kernel_rfl
 i85:=by kernel_rfl
 i127:=by kernel_rfl
 i143:=by kernel_rfl
 i145:=by kernel_rfl
 i167:=by kernel_rfl
 i168:=by kernel_rfl
 i171:=by kernel_rfl
 i173:=by kernel_rfl
 i175:=by kernel_rfl
 i210:=by kernel_rfl
 i212:=by kernel_rfl
 i232:=by kernel_rfl
 i233:=by kernel_rfl
 m15:=by kernel_rfl
 m16:=by kernel_rfl
 m17:=by kernel_rfl
 m18:=by kernel_rfl
 m19:=by kernel_rfl
 c0:=by kernel_rfl
 c2:=by kernel_rfl
 c3:=by kernel_rfl
 c4:=by kernel_rfl
 c5:=by kernel_rfl
 c9:=by kernel_rfl
 c20:=by kernel_rfl
 c21:=by kernel_rfl
 c37:=by kernel_rfl
 c46:=by kernel_rfl
 c51:=by kernel_rfl
 c53:=by kernel_rfl
 c75:=by kernel_rfl
 c80:=by kernel_rfl
 c85:=by kernel_rfl
 c127:=by kernel_rfl
 c143:=by kernel_rfl
 c145:=by kernel_rfl
 c167:=by kernel_rfl
 c168:=by kernel_rfl
 c171:=by kernel_rfl
 c173:=by kernel_rfl
 c175:=by kernel_rfl
 c210:=by kernel_rfl
 c212:=by kernel_rfl
 c213:=by kernel_rfl
 c232:=by kernel_rfl
 c233:=by kernel_rfl}
end Go.Proofs
namespace Go.Proofs.YtadocofdkdiboaaGreatDoor
open Go.Proofs.Tryz
open Go.Proofs.Tryz renaming prog → aK
section
open Go Go.Jq
theorem aaz: aK.globalNamed "internal/strconv.uint64pow10"=some 1:=by kernel_rfl
theorem ac1 {c:Ctx} {m:Mem} {w:World} (h:MR c m w):Lib.TabIs aK w "internal/strconv.uint64pow10" .u64 Lib.pow10Tab:=by
 obtain⟨_,cs,T,f,h1,cq⟩:=h.zZ 1 _ rfl;have lO:cs=(Lib.pow10Tab.map λz=>Value.int .u64 z).toArray:=cq;unfold Lib.TabIs World.var?;rw[aaz];simp only[Option.bind_some,h1,lO]
def pj (n:Int):Prop:=-9223372036854775808<=n/\n<=9223372036854775807
theorem vd:∀(k u:Nat),u<10^(k+1)->Lib.nDigits u<=k+1
 |0,u,h=>by rw[Lib.nDigits_small (by simpa using h)];omega
 |k+1,u,h=>by
  by_cases hu:u<10;·rw[Lib.nDigits_small hu];omega
  ·rw[Lib.nDigits_big hu];have:=vd k (u/10) (by rw[Nat.pow_succ]at h;omega);omega
theorem JG {n:Int} (h:pj n):(Lib.itoa n).length<=20:=by
 obtain⟨h0,h1⟩:=h;unfold Lib.itoa;split
 ·have:=vd 18 n.natAbs (by simp;omega);rw[alu,Lib.decDigits_length];omega
 ·have:=vd 18 n.toNat (by simp;omega);rw[Lib.decDigits_length];omega
theorem VF {n:Int} (h:pj n):Pure aK 91 [au n,au 10] (.d (.str (Lib.itoa n))):=by
 refine mL λc w vs hr hM=>?_;simp only[bg,Rel,dS]at hr;obtain⟨v1,vs1,rfl,rfl,v2,vs2,rfl,rfl,rfl⟩:=hr;refine(Tryz.strconv_FormatInt_10 n h.1 h.2 w (ac1 hM)).mono ?_;rintro e w' ⟨rfl,k,os,rfl⟩;refine⟨_,rfl,rfl,rfl,rfl,?_,λj hj=>?_,rfl⟩;·simp[Go.Sort.grow,World.drewN]
 ·simp only[Go.Sort.grow,World.drewN];exact Array.getElem?_append_left hj
theorem Fx {n:Int} (h:pj n):Pure aK 39 [au n] (.d (.str (Lib.itoa n))):=by
 refine ay func39 aap ntmps39 results39 rfl ?_;unfold ahF;refine J λK hK=>?_;simp only[go_sem];refine hK _ (J λK hK=>?_);simp only[go_sem];refine aI (VF h) rfl rfl ?_;simp only[go_sem];apply hK;apply an;simp only[go_sem];refine aD _ rfl rfl ⟨?_,rfl⟩;simp[ah]
end
end Go.Proofs.YtadocofdkdiboaaGreatDoor
namespace Go.Jq
open Go
inductive Sh where
 |int (k:IntKind)
 |bool
 |str
 |sl (es:List Sh)
mutual
def Fits:Sh->DV->Prop
 |.int k,d=>∃n,d=.int k n/\(Lit.int k n).wf=true
 |.bool,d=>∃b,d=.bool b
 |.str,d=>∃s:List UInt8,d=.str s/\s.length<=maxLen
 |.sl es,d=>d=.ct\/∃rows:List (List DV),d=.sl rows.length rows.flatten/\rows.length<=maxLen/\∀r∈rows,fF es r
def fF:List Sh->List DV->Prop
 | [],ds=>ds=[]
 |s::ss,ds=>∃d r,ds=d::r/\Fits s d/\fF ss r
end
theorem fF.length:∀{ss:List Sh} {ds:List DV},fF ss ds->ds.length=ss.length
 | [],_,h=>by simp only[fF]at h;subst h;rfl
 |s::ss,_,h=>by
  simp only[fF]at h;obtain⟨d,r,rfl,_,h⟩:=h;simp[fF.length h]
theorem fF.append:∀{ss ss':List Sh} {ds VG:List DV},fF ss ds->fF ss' VG->fF (ss++ss') (ds++VG)
 | [],_,_,_,h,h'=>by simp only[fF]at h;subst h;simpa using h'
 |s::ss,_,_,_,h,h'=>by
  simp only[fF]at h;obtain⟨d,r,rfl,hd,h⟩:=h;simp only[List.cons_append,fF];exact⟨d,_,rfl,hd,fF.append h h'⟩
def VH (P:Program) (f:TypeId->Option (List Sh)):List Field->Nat->Option (List Sh)
 | [],_=>some []
 |fd::r,acc=>match f fd.type with
  |some s=>if fd.offset=acc/\P.cellsOf fd.type=s.length then(VH P f r (acc+s.length)).map (s++·)else none
  |none=>none
def JH (P:Program):Nat->TypeId->Option (List Sh)
 |0,_=>none
 |k+1,t=>match P.underlying t with
  |some .bool=>some [.bool]
  |some (.int q)=>some [.int q]
  |some .string=>some [.str]
  |some (.slice e)=>match JH P k e with
   |some es=>if es.length=P.cellsOf e/\es.length≠0 then some [.sl es]else none
   |none=>none
  |some (.struct fs)=>match VH P (JH P k) fs.toList 0 with
   |some ss=>if ss.length=P.cellsOf t then some ss else none
   |none=>none
  |some (.array n e)=>match JH P k e with
   |some es=>if es.length=P.cellsOf e/\n*es.length=P.cellsOf t then some (alA n es).flatten else none
   |none=>none
  |_=>none
def iz (I:Nat->Prop) (w:World):List DV->List Value->Prop
 | [],vs=>vs=[]
 |d::ds,vs=>∃v r,vs=v::r/\dS I w d v/\iz I w ds r
section
variable{I:Nat->Prop} {w:World}
theorem iz.append:∀{ds VG:List DV} {vs o6:List Value},iz I w ds vs->iz I w VG o6->iz I w (ds++VG) (vs++o6)
 | [],_,_,_,h,h'=>by simp only[iz]at h;subst h;simpa using h'
 |d::ds,_,_,_,h,h'=>by
  simp only[iz]at h;obtain⟨v,r,rfl,hd,h⟩:=h;simp only[List.cons_append,iz];exact⟨v,_,rfl,hd,iz.append h h'⟩
theorem iz.get:∀{ds:List DV} {vs:List Value},iz I w ds vs->∀(i:Nat) (d:DV),ds[i]?=some d->∃v,vs[i]?=some v/\dS I w d v
 | [],_,_,i,d,h=>by simp at h
 |x::ds,_,h,i,d,hi=>by
  simp only[iz]at h;obtain⟨v,r,rfl,hd,h⟩:=h;cases i with
  |zero=>simp at hi;subst hi;exact⟨v,rfl,hd⟩
  |succ i=>simpa using iz.get h i d (by simpa using hi)
theorem dH.append:∀{xs ys:List DV} {b o:Nat},dH I w xs b o->dH I w ys b (o+xs.length)->dH I w (xs++ys) b o
 | [],ys,b,o,_,h=>by simpa using h
 |x::xs,ys,b,o,h,h'=>by
  simp only[List.cons_append,dH]at h⊢;refine⟨h.1,dH.append h.2 ?_⟩;rw[alu]at h';rw[show o+1+xs.length=o+(xs.length+1) by omega];exact h'
theorem dH.flatten {k b o:Nat}:∀{rows:List (List DV)} {i0:Nat},(∀r∈rows,r.length=k)->(∀(i:Nat) (r:List DV),rows[i]?=some r->dH I w r b (o+(i0+i)*k))->dH I w rows.flatten b (o+i0*k)
 | [],_,_,_=>by simp[dH]
 |r::rows,i0,hk,h=>by
  rw[List.flatten_cons];refine dH.append (by simpa using h 0 r rfl) ?_;have:=dH.flatten (k:=k) (b:=b) (o:=o) (rows:=rows) (i0:=i0+1) (λr hr=>hk r (alY _ hr)) λi r' hi=>by
   have:=h (i+1) r' (by simpa using hi);rwa[show i0+1+i=i0+(i+1) by omega]
  rw[hk r alU];rwa[Nat.succ_mul,<-Nat.add_assoc]at this
theorem Pm {α:Type} {p:Nat->α->Prop}:∀(n:Nat),(∀i,i<n->∃y,p i y)->∃l:List α,l.length=n/\∀i y,l[i]?=some y->p i y
 |0,_=>⟨[],rfl,λi y h=>by simp at h⟩
 |n+1,h=>by
  obtain⟨l,hl,hp⟩:=Pm n λi hi=>h i (by omega);obtain⟨y,hy⟩:=h n (by omega);refine⟨l++[y],by simp[hl],λi z hz=>?_⟩;rcases Nat.lt_or_ge i n with h1|h1;·rw[List.getElem?_append_left (by omega)]at hz;exact hp i z hz
  ·rw[List.getElem?_append_right (by omega)]at hz;have h2:i-l.length=0:=by
    rcases Nat.eq_zero_or_pos (i-l.length)with h3|h3;·exact h3
    ·rw[List.getElem?_eq_none (by simp;omega)]at hz;cases hz
   rw[h2]at hz;simp at hz;subst hz;have:i=n:=by omega
   subst this;exact hy
end
end Go.Jq
namespace Go.Jq
open Go
section
variable{H:Type} {enc:TypeId×Value->H} {P:Program} {w:World} {base:Nat} {spare:Nat->Bool} {held:Bool} {I:Nat->Prop} (hI:∀b,b<w.heap.size->I b)
theorem Fy {a:Addr} {n:Nat} {cs:List Value} (h:w.cells? base a n=some cs):cs.length=n/\∀i,i<n->w.cell? (a.add i)=cs[i]?:=by
 unfold World.cells? at h;split at h;·exact⟨by simpa using mapM_some_length h,λi hi=>mapM_some_get h i i (by simp[hi])⟩
 ·cases h
theorem aaA {a:Addr} {v:Value} (h:w.cell? a=some v):a.block<w.heap.size/\a.spot=none:=by
 unfold World.cell? at h;split at h
 ·rename_i c T f hb;refine⟨?_,?_⟩
  ·rcases Nat.lt_or_ge a.block w.heap.size with h1|h1;·exact h1
   ·rw[Array.getElem?_eq_none h1]at hb;cases hb
  ·split at h;·cases h
   ·rename_i hs;simpa using hs
 ·cases h
theorem Fz {f:TypeId->Option (List Sh)} {g:TypeId->List Value->Option (DataW H×List MemPlace)} (hfg:∀t ss cs x,f t=some ss->g t cs=some x->∃ds,fF ss ds/\iz I w ds cs) (cs:List Value):
 ∀(fs:List Field) (acc:Nat) (ss:List Sh),VH P f fs acc=some ss->acc+ss.length=cs.length->(∀fd∈fs,∃x,g fd.type ((cs.drop fd.offset).take (P.cellsOf fd.type))=some x)->∃ds,fF ss ds/\iz I w ds (cs.drop acc)
 | [],acc,ss,h,hl,_=>by
   simp only[VH,alJ]at h;subst h;exact⟨[],rfl,by simp only[iz];exact List.drop_eq_nil_of_le (by simpa using Nat.le_of_eq hl.symm)⟩
 |fd::fs,acc,ss,h,hl,hx=>by
  simp only[VH]at h;split at h
  ·rename_i s hs;split at h
   ·rename_i hc;rw[alG]at h;obtain⟨r,hr,rfl⟩:=h;obtain⟨x,hx1⟩:=hx fd alU;obtain⟨ds,h1,h2⟩:=hfg _ _ _ _ hs hx1;obtain⟨VG,h3,h4⟩:=Fz hfg cs fs (acc+s.length) r hr (by simp at hl;omega) λfd' h=>hx fd' (alY _ h);refine⟨ds++VG,h1.append h3,?_⟩;have h5:=h2.append h4;rw[hc.1,hc.2,<-List.drop_drop,List.take_append_drop]at h5;exact h5
   ·cases h
  ·cases h
include hI in
theorem wV:∀(k:Nat) (t:TypeId) (ss:List Sh) (fuel:Nat) (cs:List Value) (x:DataW H×List MemPlace),JH P k t=some ss->DataW.trod enc P w base spare held fuel t cs=some x->∃ds,fF ss ds/\iz I w ds cs
 |0,_,_,_,_,_,h,_=>by simp[JH]at h
 |k+1,t,ss,fuel,cs,x,h,hx=>by
  simp only[JH]at h;split at h
  ·rename_i hu;cases h;obtain⟨b,rfl,_⟩:=DataW.trod_bool hu hx;exact⟨[.bool b],by simp only[fF,Fits];exact⟨_,_,rfl,⟨b,rfl⟩,rfl⟩,by simp[iz,dS]⟩
  ·rename_i q hu;cases h;obtain⟨n,rfl,_,hw⟩:=DataW.trod_int hu hx;exact⟨[.int q n],by simp only[fF,Fits];exact⟨_,_,rfl,⟨n,rfl,hw⟩,rfl⟩,by simp[iz,dS]⟩
  ·rename_i hu;cases h;obtain⟨s,rfl,_,hw⟩:=DataW.trod_string hu hx;exact⟨[.str s.data.toList],by simp only[fF,Fits];exact⟨_,_,rfl,⟨_,rfl,by simpa using hw⟩,rfl⟩,by simp[iz,dS]⟩
  ·rename_i e hu;split at h
   ·rename_i es Tw;split at h
    ·rename_i hc;cases h;obtain⟨hlen,pe⟩:=hc;rcases DataW.trod_slice hu hx with⟨rfl,_⟩|⟨a,len,cap,elems,rest,n,_,rfl,_,hb,hl,hm,pU,VI,_⟩;·exact⟨[.ct],by simp only[fF,Fits];exact⟨_,_,rfl,.inl rfl,rfl⟩,by simp[iz,dS]⟩
     ·have each:∀i,i<len->∃r:List DV,∃csi,w.cells? base (a.add (i*P.cellsOf e)) (P.cellsOf e)=some csi/\fF es r/\iz I w r csi:=by
       intro i hi;have h1:=VI i hi;rw[alw (by omega),Option.bind_eq_some_iff]at h1;obtain⟨csi,h2,h3⟩:=h1;obtain⟨r,h4,h5⟩:=wV k e es n csi _ Tw h3;exact⟨r,csi,h2,h4,h5⟩
      obtain⟨rows,pC,ow⟩:=Pm len each;have sC:∀r∈rows,fF es r:=λr hr=>by
       obtain⟨i,hi⟩:=List.mem_iff_getElem?.1 hr;obtain⟨_,_,h2,_⟩:=ow i r hi;exact h2
      refine⟨[.sl rows.length rows.flatten],by simp only[fF,Fits];exact⟨_,_,rfl,.inr ⟨rows,rfl,by omega,sC⟩,rfl⟩,?_⟩;simp only[iz,dS];refine⟨_,_,rfl,⟨some a,cap,by rw[pC],by omega,?_⟩,rfl⟩;rcases Nat.eq_zero_or_pos len with h0|h0
      ·have:rows=[]:=amb (by omega);subst this;exact .inl ⟨rfl,rfl⟩
      ·right;have Cl:rows[0]?=some rows[0]:=alw (by omega);obtain⟨cs0,h1,h2,h3⟩:=ow 0 _ Cl;obtain⟨El,hg0⟩:=Fy h1;have afa:0<P.cellsOf e:=by omega
       have hc0:∃v,w.cell? a=some v:=by
        have:=hg0 0 afa;rw[alw (by omega)]at this;have e1:(a.add (0*P.cellsOf e)).add 0=a:=by simp[Addr.add]
        rw[e1]at this;exact⟨_,this⟩
       obtain⟨v,hv⟩:=hc0;obtain⟨bn,hsp⟩:=aaA hv;obtain⟨ab,ao,asp⟩:=a;simp only at bn hsp;subst hsp;refine⟨ab,ao,rfl,hI ab bn,?_⟩;have:=dH.flatten (I:=I) (w:=w) (k:=es.length) (b:=ab) (o:=ao) (rows:=rows) (i0:=0) (λr hr=>(sC r hr).length) λi r hi=>by
        obtain⟨csi,h4,h5,h6⟩:=ow i r hi;obtain⟨_,hg⟩:=Fy h4;refine dH.sj λj d hj=>?_;obtain⟨v,hv,hr⟩:=h6.get j d hj;have hjl:j<P.cellsOf e:=by
         have:=(List.getElem?_eq_some_iff.1 hj).1;rw[h5.length]at this;omega
        refine⟨v,?_,hr⟩;have:=hg j hjl;rw[hv,addr_add,addr_add]at this;rw[alo,hlen];exact this
       simpa using this
    ·cases h
   ·cases h
  ·rename_i fs hu;split at h
   ·rename_i ss' JI;split at h
    ·rename_i hc;cases h;obtain⟨xs,n,_,_,v8,pN,uu⟩:=DataW.trod_struct hu hx;have:=Fz (P:=P) (I:=I) (w:=w) (f:=JH P k) (g:=λt cs=>DataW.trod enc P w base spare held n t cs) (λt ss cs x h1 h2=>wV k t ss n cs x h1 h2) cs fs.toList 0 ss JI (by omega) λfd hfd=>by
      obtain⟨i,hi⟩:=List.mem_iff_getElem?.1 hfd;rw[Array.getElem?_toList]at hi;have h1:=uu i fd hi;have h2:i<fs.size:=(Array.getElem?_eq_some_iff.1 hi).1;rw[alw (by omega)]at h1;exact⟨_,h1⟩
     simpa using this
    ·cases h
   ·cases h
  ·rename_i n e hu;split at h
   ·rename_i es Tw;split at h
    ·rename_i hc;cases h;obtain⟨xs,m,_,_,v8,pN,uu⟩:=DataW.trod_array hu hx;have key:∀q,q<=n->∃ds,fF (alA q es).flatten ds/\iz I w ds (cs.take (q*es.length)):=by
      intro q;induction q with
      |zero=>intro _;exact⟨[],by simp[fF],by simp[iz]⟩
      |succ q ih=>
       intro hq;obtain⟨ds,h1,h2⟩:=ih (by omega);have h3:=uu q (by omega);rw[alw (by omega)]at h3;obtain⟨VG,h4,h5⟩:=wV k e es m _ _ Tw h3;refine⟨ds++VG,?_,?_⟩
       ·rw[List.replicate_succ',List.flatten_append];simpa using h1.append h4
       ·have:=h2.append h5;rw[<-hc.1]at this;rw[Nat.succ_mul,List.take_add];exact this
     obtain⟨ds,h1,h2⟩:=key n (ali _);exact⟨ds,h1,by rwa[alx (by omega)]at h2⟩
    ·cases h
   ·cases h
  ·cases h
end
end Go.Jq
namespace Go.Jq
open Go Go.RowKit Go.ChangeAt Go.ChangeShapes Go.WideShapes
def VJ (w:World):Ctx:=⟨λ_=>.free,λb=>b<w.heap.size⟩
theorem EC {P:Program} {f:Nat} {args:List AV} (h:Pure P f args (.d (.bool true))) {w:World} {vs:List Value} (hr:bg (VJ w) w args vs)
 (GY:∀g Φ,Mt g=some Φ->∃cs T f,w.heap[g]?=some (.cells cs T f)/\Φ cs:=by intro g Φ h;simp[Mt]at h):
 Calls P f vs.toArray w λe w'=>e=.returned (.bool true)/\Below w.heap.size w w':=by
 have hM:MR (VJ w) [] w:=⟨λid cells h=>by simp[ai]at h,λid mK b h=>by simp[ai]at h,λb hb=>hb,λg Φ hg=>by
  obtain⟨cs,T,f,h1,h2⟩:=GY g Φ hg;exact⟨(Array.getElem?_eq_some_iff.1 h1).1,cs,T,f,h1,h2⟩⟩
 refine(h (VJ w) w vs hr hM λid _=>rfl).mono ?_;rintro e w' ⟨v,r,m',c',rfl,⟨rfl,rfl⟩,mW,_,hs,_⟩;simp only[Rel,dS]at mW;subst mW;exact⟨rfl,hs.os,hs.tape,hs.output,hs.size,λb hb=>hs.di b hb λ⟨id,h1,_⟩=>by simp[ai]at h1⟩
section
variable{H:Type} {enc:TypeId×Value->H} {P:Program} {w:World} {base:Nat} {spare:Nat->Bool} {held:Bool} {t:TypeId} {v:Value} {d:DataW H} {p:List MemPlace}
theorem Bz {k:Nat} {s:Sh} (hs:JH P k t=some [s]) (hv:v.cells=#[v]) (h:DataW.Trod enc P w base spare held t v d p):∃x,Fits s x/\Rel (VJ w) w (.d x) v:=by
 obtain⟨fuel,hf⟩:=h;obtain⟨ds,h1,h2⟩:=wV (I:=(VJ w).dY) (λb hb=>hb) k t [s] fuel _ _ hs hf;simp only[fF]at h1;obtain⟨x,r,rfl,h3,rfl⟩:=h1;rw[hv]at h2;simp only[iz,List.cons.injEq]at h2;obtain⟨u,r,⟨h4,_⟩,h5,_⟩:=h2;subst h4;exact⟨x,h3,by simp only[Rel];exact h5⟩
end
theorem G0 {d:DV} (h:Fits (.sl [.int .i64]) d):∃l:List Int,de l d:=by
 simp only[Fits]at h;rcases h with rfl|⟨rows,rfl,hm,hr⟩;·exact⟨[],by simp,.inl ⟨rfl,rfl⟩⟩
 ·have:∀rows:List (List DV),(∀r∈rows,fF [.int .i64] r)->∃l:List Int,l.length=rows.length/\rows.flatten=l.map (.int .i64):=by
   intro rows;induction rows with
   |nil=>intro _;exact⟨[],rfl,rfl⟩
   |cons r rows ih=>
    intro h;obtain⟨l,h1,h2⟩:=ih λr hr=>h r (alY _ hr);have h3:=h r alU;simp only[fF,Fits]at h3;obtain⟨d,r',rfl,⟨n,rfl,_⟩,rfl⟩:=h3;exact⟨n::l,by simp[h1],by simp[h2]⟩
  obtain⟨l,h1,h2⟩:=this rows hr;refine⟨l,?_,.inr ?_⟩
  ·have:maxLen=9223372036854775807:=rfl;simp;omega
  ·simp[h1,h2]
end Go.Jq
namespace Go.Jq
open Go
theorem fits_int {k:IntKind} {d:DV} (h:Fits (.int k) d):∃n,d=.int k n/\(Lit.int k n).wf=true:=by
 simpa only[Fits]using h
def aj4 (n:Int):Prop:=-9223372036854775808<=n/\n<=9223372036854775807
theorem wf_i64 {n:Int} (h:(Lit.int .i64 n).wf=true):aj4 n:=by
 have e1:alv.min=-9223372036854775808:=rfl;have e2:alv.max=9223372036854775807:=rfl;simp only[Lit.wf,e1,e2,alE,decide_eq_true_eq]at h;exact h
end Go.Jq
namespace Go.Jq
open Go Go.ChangeShapes
section
variable{H:Type} {enc:TypeId×Value->H} {P:Program} {w:World} {base:Nat} {spare:Nat->Bool} {held:Bool}
end
end Go.Jq
namespace Go.Proofs.YtadocofdkdiboaaGreatDoor
open Go.Proofs.Tryz
open Go.Proofs.Tryz renaming prog → aK
section
open Go Go.ChangeAt Go.ChangeShapes Go.Jq Go.RowKit Go.WideShapes
theorem own:ownKnob aK.godebug=none:=by kernel_rfl
theorem laidOut:laidOutB aK=true:=by kernel_rfl
def JJ:List (String×DataW Unit):= [("math/bits.deBruijn32tab",Rows.laid_math_bits_deBruijn32tab), ("math/bits.deBruijn64tab",Rows.laid_math_bits_deBruijn64tab), ("internal/strconv.uint64pow10",Rows.laid_internal_strconv_uint64pow10), ("strconv.ErrRange",Rows.laid_strconv_ErrRange), ("strconv.ErrSyntax",Rows.laid_strconv_ErrSyntax)]
theorem VK (os:Os) (args:Array Value):laidMetH aK JJ ((World.doorLaid aK 400 os).forCall (λ_ _=>0) ⟨#[],args,[]⟩).memory:=
 laidMetH_of_parts3 (fuel:=8) (laidMet_of_run' 8 (by kernel_rfl) (by kernel_rfl)) (by kernel_rfl) (by kernel_rfl)
theorem Ru:∃ms,aK.underlying 155=some (.interface ms):=by
 have h:(match aK.underlying 155 with|some (.interface _)=>true|_=>false)=true:=by kernel_rfl
 split at h
 ·rename_i ms hms;exact⟨ms,hms⟩
 ·cases h
set_option maxRecDepth 100000 in
theorem JK {W:World} (h:laidMetH aK JJ W):∀g Φ,Mt g=some Φ->∃cs T f,W.heap[g]?=some (.cells cs T f)/\Φ cs:=by
 rw[MakeChecks.laidMetH_plain _ _ _ (by kernel_rfl)]at h;obtain⟨ps,⟨g0,t0,cs0,f0,p0,q0,hg0,ht0,hv0,hd0,⟨g1,t1,cs1,f1,p1,q1,G1,ht1,ZA,hd1,⟨g2,t2,Cy,f2,p2,q2,Mj,ht2,M6,Al,⟨g3,t3,cs3,f3,p3,q3,hg3,ht3,hv3,hd3,⟨g4,t4,cs4,f4,p4,q4,hg4,IH,hv4,hd4,_,_⟩,_⟩,_⟩,_⟩,_⟩,_,_⟩:=h;obtain rfl:=al9 (aaz.symm.trans Mj);have gD: aK.globalNamed "math/bits.deBruijn64tab"=some 0:=by kernel_rfl
 obtain rfl:=al9 (gD.symm.trans G1);have tyd:(aK.globals[0]?).map (·.type)=some 283:=by kernel_rfl
 obtain rfl:=al9 (tyd.symm.trans ht1);have gR: aK.globalNamed "strconv.ErrRange"=some 5:=by kernel_rfl
 have gS: aK.globalNamed "strconv.ErrSyntax"=some 4:=by kernel_rfl
 obtain rfl:=al9 (gR.symm.trans hg3);obtain rfl:=al9 (gS.symm.trans hg4);have hty:(aK.globals[1]?).map (·.type)=some 309:=by kernel_rfl
 have ty1:(aK.globals[4]?).map (·.type)=some 155:=by kernel_rfl
 have ty2:(aK.globals[5]?).map (·.type)=some 155:=by kernel_rfl
 obtain rfl:=al9 (hty.symm.trans ht2);obtain rfl:=al9 (ty2.symm.trans ht3);obtain rfl:=al9 (ty1.symm.trans IH);obtain⟨ms,hms⟩:=Ru;obtain⟨_,u3,v3,hc3,_⟩:=iface_of_trod hms hd3;obtain⟨_,u4,v4,hc4,_⟩:=iface_of_trod hms hd4;have cq:=Lib.cells_of_tab (n:=20) (e:=110) (k:=.u64) (zs:=Lib.pow10Tab) (by kernel_rfl) (by kernel_rfl) (by kernel_rfl) (by kernel_rfl) Al
 have aj5:=Lib.cells_of_tab (n:=64) (e:=5) (k:=.u8) (zs:=[0,1,56,2,57,49,28,3,61,58,42,50,38,29,17,4,62,47,59,36,45,43,51,22,53,39,33,30,24,18,12,5,63,55,48,27,60,41,37,16,46,35,44,21,52,32,23,11,54,26,40,15,34,20,31,10,25,14,19,9,13,8,7,6]) (by kernel_rfl) (by kernel_rfl) (by kernel_rfl) (by kernel_rfl) hd1;unfold World.var? at ZA M6 hv3 hv4;rw[gD]at ZA;rw[aaz]at M6;rw[gR]at hv3;rw[gS]at hv4;simp only[Option.bind_some]at ZA M6 hv3 hv4;have row:∀{b:Nat} {cs:Array Value},(match W.heap[b]?with|some (Obj.cells cs _ _)=>some cs|_=>none)=some cs->∃T f,W.heap[b]?=some (.cells cs T f):=by
  intro b cs h;split at h
  ·rename_i c T f hc;obtain rfl:=al9 h;exact⟨T,f,hc⟩
  ·cases h
 obtain⟨T1,f1',r1⟩:=row ZA;obtain⟨T2,f2',r2⟩:=row M6;obtain⟨T3,f3',r3⟩:=row hv3;obtain⟨T4,f4',r4⟩:=row hv4;intro g Φ hg;simp only[Mt]at hg;split at hg
 ·rename_i h0;subst h0;refine⟨_,_,_,r2,?_⟩;obtain rfl:=al9 hg;show Cy=_;apply Array.ext';rw[cq];rfl
 ·split at hg
  ·rename_i h0;subst h0;refine⟨_,_,_,r1,?_⟩;obtain rfl:=al9 hg;show cs1=_;apply Array.ext';rw[aj5];rfl
  ·split at hg
   ·rename_i qD;obtain rfl:=al9 hg;rcases qD with rfl|rfl;·exact⟨_,_,_,r4,u4,v4,Array.ext' hc4⟩
    ·exact⟨_,_,_,r3,u3,v3,Array.ext' hc3⟩
   ·cases hg
end
section
open Go Go.Jq
structure Atom where
 fB:Int
 ez:Int
 loc:Int
 value:Int
def Atom.cells (a:Atom):List DV:=[.int .i64 a.fB,.int .i64 a.ez,.int .i64 a.loc,.int .i64 a.value]
structure nf where
 ez:Int
 value:Int
def nf.cells (o:nf):List DV:=[.int .i64 o.ez,.int .i64 o.value]
structure Ins where
 kind:Int
 ez:Int
 loc:Int
 a:nf
 op:Int
 b:nf
 n:Int
def Ins.cells (i:Ins):List DV:=[.int .i64 i.kind,.int .i64 i.ez,.int .i64 i.loc,.int .i64 i.a.ez,.int .i64 i.a.value,.int .i64 i.op,.int .i64 i.b.ez,.int .i64 i.b.value,.int .i64 i.n]
structure Init where
 loc:Int
 value:Int
def Init.cells (i:Init):List DV:=[.int .i64 i.loc,.int .i64 i.value]
structure Test where
 name:List UInt8
 inits:List Init
 threads:List (List Ins)
 kind:Int
 rows:List (List Atom)
def lU (t:Test) (cs:List DV):Prop:=∃I T A,cs=[.str t.name,I,T,.int .i64 t.kind,A]/\dU Init.cells t.inits I/\cQ Ins.cells t.threads T/\cQ Atom.cells t.rows A
theorem wW (i:Init):(Init.cells i).length=2:=rfl
theorem kM (i:Ins):(Ins.cells i).length=9:=rfl
theorem Cz (i:Atom):(Atom.cells i).length=4:=rfl
theorem aaB (n:Int):al0.wrap n=n%18446744073709551616:=by
 simp only[IntKind.wrap,IntKind.signed,IntKind.bits,alK,aly,if_false];rfl
def bv (n:Int):BitVec 64:=al5 64 n
theorem G2 (n:Int):alv.wrap n=(bv n).toInt:=by
 unfold bv;rw[BitVec.toInt_ofInt,Int.bmod_def];have e1:(2:Int)^64=18446744073709551616:=rfl;have e2:(2:Int)^63=9223372036854775808:=rfl;simp only[IntKind.wrap,IntKind.signed,IntKind.bits,Bool.true_and,Nat.reduceSub,e1,e2,decide_eq_true_eq,ge_iff_le];simp only[Nat.reducePow];split<;>split<;>omega
theorem ahS {n:Int} (h:pj n):(bv n).toInt=n:=by
 rw[<-G2];unfold pj at h;have e1:(2:Int)^64=18446744073709551616:=rfl;have e2:(2:Int)^63=9223372036854775808:=rfl;simp only[IntKind.wrap,IntKind.signed,IntKind.bits,Bool.true_and,Nat.reduceSub,e1,e2,decide_eq_true_eq,ge_iff_le];split<;>omega
theorem wB {n:Int} (h:pj n):alv.wrap n=n:=by rw[G2,ahS h]
theorem JL (v:BitVec 64):alv.wrap v.toNat=v.toInt:=by
 rw[G2]
 congr 1
 unfold bv;simp
theorem JM (a b:Int):bits .and .i64 a b=(bv a&&&bv b).toInt:=JL _
theorem VL (k:Int) (m:Nat) (hm:m<9223372036854775808):0<=bits .and .i64 k m/\bits .and .i64 k m<=m:=by
 have h:(bv k&&&bv m).toNat<=m:=by
  rw[BitVec.toNat_and];refine Nat.le_trans Nat.and_le_right ?_;unfold bv;simp;omega
 rw[JM,<-JL,wB (by unfold pj;omega)];omega
def mu:List (List UInt8):=[[],[43],[45],[42],[38],[124],[94],[60,60],[62,62],[61,61],[33,61],[60]]
def dp (n:Int):Bool:=decide (97<=n)&&decide (n<=122)
theorem eS (x:Int):dp x=true↔97<=x/\x<=122:=by simp[dp]
def dQ (n:Int):Bool:=decide (0<=n)&&decide (n<4)
def eo (o:nf):Bool:=decide (o.ez=-1)||(dQ o.ez&&decide (o.value=0))
def jx (i:Nat) (c:UInt8):Bool:=(decide (97<=c.toNat)&&decide (c.toNat<=122))||(decide (i≠0)&&decide (48<=c.toNat)&&decide (c.toNat<=57))
def mN (s:List UInt8):Bool:=(alI s.length).all (λi=>jx i (s.getD i 0))&&decide (s≠ [])
theorem Rv (s:List UInt8) {i:Nat} (hi:i<s.length) (h:jx i (s.getD i 0)=false):mN s=false:=by
 have:(alI s.length).all (λi=>jx i (s.getD i 0))=false:=by
  rw[List.all_eq_false];exact⟨i,List.mem_range.2 hi,by rw[h];decide⟩
 unfold mN;rw[this];rfl
theorem CA (s:List UInt8) (h:∀i,i<s.length->jx i (s.getD i 0)=true):mN s=decide (s≠ []):=by
 have:(alI s.length).all (λi=>jx i (s.getD i 0))=true:=by
  rw[List.all_eq_true];exact λi hi=>h i (List.mem_range.1 hi)
 unfold mN;rw[this];rfl
def fl (x w:Ins):Bool:=decide (x.kind=w.kind)&&(decide (x.ez=w.ez)&&(decide (x.loc=w.loc)&&(decide (x.a.ez=w.a.ez)&&(decide (x.a.value=w.a.value)&&(decide (x.op=w.op)&&(decide (x.b.ez=w.b.ez)&&(decide (x.b.value=w.b.value)&&(decide (x.n=w.n)&&true))))))))
def cB (x:Ins):Bool:=
 if x.kind=1 then(dp x.loc&&eo x.a)&&fl x ⟨x.kind,0,x.loc,x.a,0,⟨0,0⟩,0⟩
 else if x.kind=2 then(dp x.loc&&dQ x.ez)&&fl x ⟨x.kind,x.ez,x.loc,⟨0,0⟩,0,⟨0,0⟩,0⟩
 else if x.kind=3 then fl x ⟨x.kind,0,0,⟨0,0⟩,0,⟨0,0⟩,0⟩
 else if x.kind=4 then(dp x.loc&&dQ x.ez&&eo x.a&&eo x.b)&&fl x ⟨x.kind,x.ez,x.loc,x.a,0,x.b,0⟩
 else if x.kind=5 then(dQ x.ez&&eo x.a&&eo x.b&&decide (0<=x.op)&&decide (x.op<=11)&&(decide (0<x.op)||(decide (x.b.ez=-1)&&decide (x.b.value=0))))&&fl x ⟨x.kind,x.ez,0,x.a,x.op,x.b,0⟩
 else if x.kind=6 then(decide (0<=x.n)&&eo x.a&&eo x.b)&&fl x ⟨x.kind,0,0,x.a,0,x.b,x.n⟩
 else false
def gy (a:Atom):Bool:=if a.fB=-1 then decide (a.ez=0)&&dp a.loc else decide (0<=a.fB)&&decide (a.fB<=9)&&decide (a.loc=0)&&dQ a.ez
def lV (l:List Atom):Bool:=decide (l.length=0)||l.any λa=>!gy a
def jd (kind:Int) (rows:List (List Atom)):Bool:=
 if kind=0 then decide (rows.length=0)else(decide (kind=1)||decide (kind=2))&&decide (0<rows.length)&&!rows.any lV
def fC (l:List Ins):Bool:=l.any λx=>!cB x
def ky (l:List Init):Bool:=l.any λx=>!dp x.loc
def okB (t:Test):Bool:=mN t.name&&!ky t.inits&&!t.threads.any fC&&jd t.kind t.rows
def ahT (x:Ins):Prop:=pj x.ez/\pj x.a.ez/\pj x.a.value/\pj x.b.ez/\pj x.b.value/\pj x.n
def ahU (a:Atom):Prop:=pj a.fB/\pj a.ez/\pj a.value
theorem kW (n:Int):Pure aK 160 [au n] (.d (.bool (dp n))):=by
 refine ay func160 Vd ntmps160 results160 rfl ?_;unfold acD;refine J λK hK=>?_;simp only[go_sem];apply hK;by_cases h:97<=n
 ·refine J λK hK=>?_;simp only[go_sem,h];apply hK;apply an;simp only[go_sem];refine aD _ rfl rfl ⟨?_,rfl⟩;simp[ah,dp,h]
 ·refine J λK hK=>?_;simp only[go_sem,h];apply hK;apply an;simp only[go_sem];refine aD _ rfl rfl ⟨?_,rfl⟩;simp[ah,dp,h]
theorem jy (n:Int):Pure aK 233 [au n] (.d (.bool (dQ n))):=by
 refine ay func233 Vz ntmps233 results233 rfl ?_;unfold acW;refine J λK hK=>?_;simp only[go_sem];apply hK;by_cases h:0<=n
 ·refine J λK hK=>?_;simp only[go_sem,h];apply hK;apply an;simp only[go_sem];refine aD _ rfl rfl ⟨?_,rfl⟩;simp[ah,dQ,h]
 ·refine J λK hK=>?_;simp only[go_sem,h];apply hK;apply an;simp only[go_sem];refine aD _ rfl rfl ⟨?_,rfl⟩;simp[ah,dQ,h]
theorem fy (o:nf):Pure aK 232 [.agg (o.cells.map .d)] (.d (.bool (eo o))):=by
 refine ay func232 Vy ntmps232 results232 rfl ?_;unfold acV;refine J λK hK=>?_;simp only[go_sem,nf.cells];apply hK;by_cases h:o.ez=-1
 ·refine J λK hK=>?_;simp only[go_sem,h];apply hK;apply an;simp only[go_sem];refine aD _ rfl rfl ⟨?_,rfl⟩;simp[ah,eo,h]
 ·refine J λK hK=>?_;simp only[go_sem,h];refine aI (jy o.ez) rfl rfl ?_;cases h2:dQ o.ez
  ·simp only[go_sem];apply hK;apply an;simp only[go_sem];refine aD _ rfl rfl ⟨?_,rfl⟩;simp[ah,eo,h,h2]
  ·simp only[go_sem];apply hK;apply an;simp only[go_sem];refine aD _ rfl rfl ⟨?_,rfl⟩;simp[ah,eo,h,h2]
def wdS (s:List UInt8) (i:Nat):St:=⟨[(7,au i),(6,au s.length),(0,.d (.str s)),(2,.d (.bool false))],[],0⟩
theorem JN (s:List UInt8) (hs:s.length<=9223372036854775807):Pure aK 157 [.d (.str s)] (.d (.bool (mN s))):=by
 refine ay func157 Va ntmps157 results157 rfl ?_;unfold acB;refine J λK hK=>?_;simp only[go_sem];apply hK;refine aa λK1 aT=>?_;refine aa λK2 eX=>?_;refine ag rfl ?_;simp only[go_sem];apply eX;apply ax;refine aw (S':=wdS s 0) (aB.cj [] ⟨by simp[aV,ah,AV.aA,aj,af,wdS],by simp[aL,aF,ai,ak,aj,AV.aA,af,ae,-alh,wdS],rfl,rfl⟩) ?_;refine kV (λi=>wdS s i) (λi=>∀j,j<i->jx j (s.getD j 0)=true) s.length (λj h=>by omega) ?_;intro i hi hp;unfold Pj wdS;by_cases bn:i<s.length
 ·have aQ:(i:Int)<s.length:=by omega
  refine J λK hK=>?_;simp only[go_sem,aQ];apply hK;refine aa λK2 eX=>?_;refine aM ?_;apply ar;apply eX;refine aa λK2 eX=>?_;apply ax;refine J λK hK=>?_;simp only[go_sem];refine hK _ (J λK hK=>?_);simp only[go_sem,alm,aQ,alj];apply hK;have hc:=(s.getD i 0).toNat_lt;generalize hcd:s.getD i 0=c at hc;refine aa λK3 wc=>?_;have bad:∀t:Fr,ah t 30=.d (.bool true)->jx i c=false->K3 ⟨t,[],0⟩:=by
   intro t h30 hw;apply wc;refine aM ?_ (by simp[ev,ah,h30]);refine J λK hK=>?_;simp only[go_sem];apply hK;apply an;simp only[go_sem];refine aD _ rfl rfl ⟨?_,rfl⟩;simp[ah,Rv s bn (by rw[hcd];exact hw)]
  have CB:∀t:Fr,ah t 30=.d (.bool false)->ah t 0=.d (.str s)->ah t 6=au s.length->ah t 7=au i->ah t 2=.d (.bool false)->jx i c=true->K3 ⟨t,[],0⟩:=by
   intro t h30 h0 h6 h7 h2 hw;apply wc;refine aH ?_ (by simp[ev,ah,h30]);apply ar;simp only[go_sem];apply eX;have Rm:alv.wrap ((i:Int)+1)=((i+1:Nat):Int):=by rw[wrap_i64 (by omega) (by omega)];rfl
   refine ag rfl ?_;simp only[go_sem,h7,Rm];refine⟨bn,λj hj=>?_,aB.cj [] ⟨by simp[wdS,aV,ah,AV.aA,af,h0,h6,h7,h2],by simp[wdS,aL],rfl,rfl⟩⟩;by_cases wb:j=i;·subst wb;rw[hcd];exact hw
   ·exact hp j (by omega)
  have hz:((i:Int)=0)=(i=0):=by apply propext;omega
  by_cases h1:(c.toNat:Int)<97
  ·by_cases h2:i=0
   ·have Ba:((i:Nat):Int)=0:=by omega
    refine ag rfl ?_;simp only[go_sem,h1,Ba]
    exact bad _ rfl (by unfold jx;have:¬97<=c.toNat:=by omega
                        simp[h2,this])
   ·have Ba:¬((i:Nat):Int)=0:=by omega
    by_cases h3:(c.toNat:Int)<48
    ·refine ag rfl ?_;simp only[go_sem,h1,Ba,h3]
     exact bad _ rfl (by unfold jx;have e1:¬97<=c.toNat:=by omega
                         have e2:¬48<=c.toNat:=by omega
                         simp[e1,e2])
    ·by_cases h4:(57:Int)<c.toNat
     ·refine ag rfl ?_;simp only[go_sem,h1,Ba,h3,h4]
      exact bad _ rfl (by unfold jx;have e1:¬97<=c.toNat:=by omega
                          have e2:¬c.toNat<=57:=by omega
                          simp[e1,e2])
     ·refine ag rfl ?_;simp only[go_sem,h1,Ba,h3,h4]
      exact CB _ rfl rfl rfl rfl rfl (by unfold jx;have e1:48<=c.toNat:=by omega
                                         have e2:c.toNat<=57:=by omega
                                         simp[e1,e2,h2])
  ·by_cases h5:(122:Int)<c.toNat
   ·by_cases h2:i=0
    ·have Ba:((i:Nat):Int)=0:=by omega
     refine ag rfl ?_;simp only[go_sem,h1,h5,Ba]
     exact bad _ rfl (by unfold jx;have:¬c.toNat<=122:=by omega
                         simp[h2,this])
    ·have Ba:¬((i:Nat):Int)=0:=by omega
     have h3:¬(c.toNat:Int)<48:=by omega
     have h4:(57:Int)<c.toNat:=by omega
     refine ag rfl ?_;simp only[go_sem,h1,h5,Ba,h3,h4]
     exact bad _ rfl (by unfold jx;have e1:¬c.toNat<=122:=by omega
                         have e2:¬c.toNat<=57:=by omega
                         simp[e1,e2])
   ·refine ag rfl ?_;simp only[go_sem,h1,h5]
    exact CB _ rfl rfl rfl rfl rfl (by unfold jx;have e1:97<=c.toNat:=by omega
                                       have e2:c.toNat<=122:=by omega
                                       simp[e1,e2])
 ·have aQ:¬(i:Int)<s.length:=by omega
  refine J λK hK=>?_;simp only[go_sem,aQ];apply hK;refine aa λK2 eX=>?_;refine aH ?_;apply aW;simp only[go_sem];apply aT;have sw:=CA s λj hj=>hp j (by omega);refine J λK hK=>?_;simp only[go_sem];apply hK;apply an;simp only[go_sem];refine aD _ rfl rfl ⟨?_,rfl⟩;simp[ah,sw]
set_option maxHeartbeats 4000000 in
theorem JO (x:Ins):Pure aK 171 [.agg (x.cells.map .d),.fn 160 []] (.d (.bool (cB x))):=by
 refine ay func171 JC ntmps171 results171 rfl ?_;unfold Vi;refine J λK hK=>?_;simp only[go_sem,Ins.cells];refine hK _ (J λK hK=>?_);simp only[go_sem];refine hK _ (J λK hK=>?_);simp only[go_sem];apply hK;refine aa λK1 aT=>?_;have tail:∀(t:Fr) (n:Nat) (w:Ins) (ok:Bool),ah t 6=.d (.bool ok)->ah t 2=.ptr 0 0->ah t 5=.ptr 1 0->cB x=(ok&&fl x w)->K1 ⟨t,[(0,x.cells.map .d),(1,w.cells.map .d)],n⟩:=by
  intro t n w ok h6 h2 h5 cI;apply aT;refine aa λK hK=>ag (by simp[aE]) ?_;cases ok
  ·simp only[go_sem,h6,h2,h5,Ins.cells];apply hK;apply an;simp only[go_sem];refine aD _ rfl rfl ⟨?_,rfl⟩;simp[ah,cI]
  ·simp only[go_sem,h6,h2,h5,Ins.cells];apply hK;apply an;simp only[go_sem];refine aD _ rfl rfl ⟨?_,rfl⟩;simp[ah,cI,fl]
 refine J λK hK=>?_;simp only[go_sem];apply hK;apply ax;refine J λK hK=>?_;simp only[go_sem];apply hK;by_cases h1:x.kind=1
 ·refine aM ?_ (by simp[ev,ah,h1]);refine aa λK hK=>az rfl rfl ?_;simp only[go_sem];refine⟨rfl,hK _ ?_⟩;refine ag rfl ?_;simp only[go_sem];refine⟨rfl,aI (kW x.loc) rfl rfl ?_⟩;cases hb:dp x.loc
  ·simp only[go_sem];exact tail _ _ ⟨x.kind,0,x.loc,x.a,0,⟨0,0⟩,0⟩ false rfl rfl rfl (by simp[cB,h1,hb])
  ·simp only[go_sem];refine aI (fy x.a) rfl rfl ?_;simp only[go_sem];exact tail _ _ ⟨x.kind,0,x.loc,x.a,0,⟨0,0⟩,0⟩ (eo x.a) (by simp[ah]) rfl rfl (by simp[cB,h1,hb])
 refine aH ?_ (by simp[ev,ah,h1]);refine J λK hK=>?_;simp only[go_sem];apply hK;by_cases h2:x.kind=2
 ·refine aM ?_ (by simp[ev,ah,h2]);refine aa λK hK=>az rfl rfl ?_;simp only[go_sem];refine⟨rfl,hK _ ?_⟩;refine ag rfl ?_;simp only[go_sem];refine⟨rfl,aI (kW x.loc) rfl rfl ?_⟩;cases hb:dp x.loc
  ·simp only[go_sem];exact tail _ _ ⟨x.kind,x.ez,x.loc,⟨0,0⟩,0,⟨0,0⟩,0⟩ false rfl rfl rfl (by simp[cB,h2,hb])
  ·simp only[go_sem];refine aI (jy x.ez) rfl rfl ?_;simp only[go_sem];exact tail _ _ ⟨x.kind,x.ez,x.loc,⟨0,0⟩,0,⟨0,0⟩,0⟩ (dQ x.ez) (by simp[ah]) rfl rfl (by simp[cB,h2,hb])
 refine aH ?_ (by simp[ev,ah,h2]);refine J λK hK=>?_;simp only[go_sem];apply hK;by_cases h3:x.kind=3
 ·refine aM ?_ (by simp[ev,ah,h3]);apply ar;simp only[go_sem];exact tail _ _ ⟨x.kind,0,0,⟨0,0⟩,0,⟨0,0⟩,0⟩ true rfl rfl rfl (by simp[cB,h3])
 refine aH ?_ (by simp[ev,ah,h3]);refine J λK hK=>?_;simp only[go_sem];apply hK;by_cases h4:x.kind=4
 ·refine aM ?_ (by simp[ev,ah,h4]);refine aa λK hK=>az rfl rfl ?_;simp only[go_sem];refine⟨rfl,hK _ ?_⟩;refine ag rfl ?_;simp only[go_sem];refine⟨rfl,aI (kW x.loc) rfl rfl ?_⟩;cases hb:dp x.loc
  ·simp only[go_sem];exact tail _ _ ⟨x.kind,x.ez,x.loc,x.a,0,x.b,0⟩ false rfl rfl rfl (by simp[cB,h4,hb])
  ·simp only[go_sem];refine aI (jy x.ez) rfl rfl ?_;cases iq:dQ x.ez
   ·simp only[go_sem];exact tail _ _ ⟨x.kind,x.ez,x.loc,x.a,0,x.b,0⟩ false rfl rfl rfl (by simp[cB,h4,iq])
   ·simp only[go_sem];refine aI (fy x.a) rfl rfl ?_;cases y2:eo x.a
    ·simp only[go_sem];exact tail _ _ ⟨x.kind,x.ez,x.loc,x.a,0,x.b,0⟩ false rfl rfl rfl (by simp[cB,h4,y2])
    ·simp only[go_sem];refine aI (fy x.b) rfl rfl ?_;simp only[go_sem];exact tail _ _ ⟨x.kind,x.ez,x.loc,x.a,0,x.b,0⟩ (eo x.b) (by simp[ah]) rfl rfl (by simp[cB,h4,hb,iq,y2])
 refine aH ?_ (by simp[ev,ah,h4]);refine J λK hK=>?_;simp only[go_sem];apply hK;by_cases h5:x.kind=5
 ·refine aM ?_ (by simp[ev,ah,h5]);refine aa λK hK=>az rfl rfl ?_;simp only[go_sem];refine⟨rfl,hK _ ?_⟩;refine ag rfl ?_;simp only[go_sem];refine aI (jy x.ez) rfl rfl ?_;cases hb:dQ x.ez
  ·simp only[go_sem];exact tail _ _ ⟨x.kind,x.ez,0,x.a,x.op,x.b,0⟩ false rfl rfl rfl (by simp[cB,h5,hb])
  ·simp only[go_sem];refine aI (fy x.a) rfl rfl ?_;cases y2:eo x.a
   ·simp only[go_sem];exact tail _ _ ⟨x.kind,x.ez,0,x.a,x.op,x.b,0⟩ false rfl rfl rfl (by simp[cB,h5,y2])
   ·simp only[go_sem];refine aI (fy x.b) rfl rfl ?_;cases hb4:eo x.b
    ·simp only[go_sem];exact tail _ _ ⟨x.kind,x.ez,0,x.a,x.op,x.b,0⟩ false rfl rfl rfl (by simp[cB,h5,hb4])
    ·by_cases g1:0<=x.op
     ·by_cases g2:x.op<=11
      ·by_cases g3:0<x.op
       ·simp only[go_sem,g1,g2,g3];exact tail _ _ ⟨x.kind,x.ez,0,x.a,x.op,x.b,0⟩ true rfl rfl rfl (by simp[cB,h5,hb,y2,hb4,g1,g2,g3])
       ·simp only[go_sem,g1,g2,g3];exact tail _ _ ⟨x.kind,x.ez,0,x.a,x.op,x.b,0⟩ (decide (x.b.ez=-1)&&decide (x.b.value=0)) (by simp[ah]) rfl rfl (by simp[cB,h5,hb,y2,hb4,g1,g2,g3])
      ·simp only[go_sem,g1,g2];exact tail _ _ ⟨x.kind,x.ez,0,x.a,x.op,x.b,0⟩ false rfl rfl rfl (by simp[cB,h5,g2])
     ·simp only[go_sem,g1];exact tail _ _ ⟨x.kind,x.ez,0,x.a,x.op,x.b,0⟩ false rfl rfl rfl (by simp[cB,h5,g1])
 refine aH ?_ (by simp[ev,ah,h5]);refine J λK hK=>?_;simp only[go_sem];apply hK;by_cases h6:x.kind=6
 ·refine aM ?_ (by simp[ev,ah,h6]);refine aa λK hK=>az rfl rfl ?_;simp only[go_sem];refine⟨rfl,hK _ ?_⟩;by_cases g1:0<=x.n
  ·refine ag rfl ?_;simp only[go_sem,g1];refine aI (fy x.a) rfl rfl ?_;cases y2:eo x.a
   ·simp only[go_sem];exact tail _ _ ⟨x.kind,0,0,x.a,0,x.b,x.n⟩ false rfl rfl rfl (by simp[cB,h6,y2])
   ·simp only[go_sem];refine aI (fy x.b) rfl rfl ?_;simp only[go_sem];exact tail _ _ ⟨x.kind,0,0,x.a,0,x.b,x.n⟩ (eo x.b) (by simp[ah]) rfl rfl (by simp[cB,h6,y2,g1])
  ·refine ag rfl ?_;simp only[go_sem,g1];exact tail _ _ ⟨x.kind,0,0,x.a,0,x.b,x.n⟩ false rfl rfl rfl (by simp[cB,h6,g1])
 refine aH ?_ (by simp[ev,ah,h6]);refine J λK hK=>?_;simp only[go_sem];apply hK;apply an;simp only[go_sem];refine aD _ rfl rfl ⟨?_,rfl⟩;simp[ah,cB,h1,h2,h3,h4,h5,h6]
theorem M7 (x:Ins):Pure aK 156 [.agg (x.cells.map .d)] (.d (.bool (cB x))):=by
 refine ay func156 U9 ntmps156 results156 rfl ?_;unfold acA;refine J λK hK=>?_;simp only[go_sem,Ins.cells];refine hK _ (J λK hK=>?_);simp only[go_sem];refine aI (JO x) rfl rfl ?_;simp only[go_sem];apply hK;apply an;simp only[go_sem];refine aD _ rfl rfl ⟨?_,rfl⟩;rfl
theorem JP {gf:Nat} {caps:List AV} (hg:lK aK gf=true) (hJ:bZ (λ_=>none) caps=true) {l:List Atom} {X:DV} (hX:dU Atom.cells l X) (q:Atom->Bool)
 (hq:∀a∈l,Pure aK gf (.agg ((Atom.cells a).map .d)::caps) (.d (.bool (q a)))):Pure aK 117 [.d X,.fn gf caps] (.d (.bool (l.any q))):=by
 have h1:Pure aK 165 [.d X,.fn gf caps] _:=lv func165 JB ntmps165 rfl results165
  (tQ (k:=4) Cz (by omega) hX) hg hJ (λi hi=>by simp[y1,hi,cd,sM]) (p:=λi=>(l[i]?.map q).getD false)
  (λi hi=>by simp only[y1,alw hi,alX,al6];exact hq _ (alR hi))
 have h2:=iC func117 Jy ntmps117 rfl results117 hJ h1;rw[qV]at h2;exact h2
theorem aaC {gf:Nat} {caps:List AV} (hg:lK aK gf=true) (hJ:bZ (λ_=>none) caps=true) {l:List Ins} {X:DV} (hX:dU Ins.cells l X) (q:Ins->Bool)
 (hq:∀a∈l,Pure aK gf (.agg ((Ins.cells a).map .d)::caps) (.d (.bool (q a)))):Pure aK 154 [.d X,.fn gf caps] (.d (.bool (l.any q))):=by
 have h1:Pure aK 226 [.d X,.fn gf caps] _:=lv func226 JD ntmps226 rfl results226
  (tQ (k:=9) kM (by omega) hX) hg hJ (λi hi=>by simp[y1,hi,cd,sM]) (p:=λi=>(l[i]?.map q).getD false)
  (λi hi=>by simp only[y1,alw hi,alX,al6];exact hq _ (alR hi))
 have h2:=iC func154 Jz ntmps154 rfl results154 hJ h1;rw[qV]at h2;exact h2
theorem VM {gf:Nat} {caps:List AV} (hg:lK aK gf=true) (hJ:bZ (λ_=>none) caps=true) {l:List Init} {X:DV} (hX:dU Init.cells l X) (q:Init->Bool)
 (hq:∀a∈l,Pure aK gf (.agg ((Init.cells a).map .d)::caps) (.d (.bool (q a)))):Pure aK 158 [.d X,.fn gf caps] (.d (.bool (l.any q))):=by
 have h1:Pure aK 227 [.d X,.fn gf caps] _:=lv func227 Vu ntmps227 rfl results227
  (tQ (k:=2) wW (by omega) hX) hg hJ (λi hi=>by simp[y1,hi,cd,sM]) (p:=λi=>(l[i]?.map q).getD false)
  (λi hi=>by simp only[y1,alw hi,alX,al6];exact hq _ (alR hi))
 have h2:=iC func158 Vb ntmps158 rfl results158 hJ h1;rw[qV]at h2;exact h2
theorem Pn {gf:Nat} {caps:List AV} (hg:lK aK gf=true) (hJ:bZ (λ_=>none) caps=true) {ls:List (List Atom)} {X:DV} (hX:cQ Atom.cells ls X) (q:List Atom->Bool)
 (hq:∀l∈ls,∀d,dU Atom.cells l d->Pure aK gf (.d d::caps) (.d (.bool (q l)))):Pure aK 163 [.d X,.fn gf caps] (.d (.bool (ls.any q))):=by
 obtain⟨ds,h1,h2⟩:=hX;have hl:=h2.length;have h3:Pure aK 231 [.d X,.fn gf caps] _:=lv func231 JE ntmps231 rfl results231
  (Bx h1) hg hJ (λi hi=>by simp[EB,hi,cd]) (p:=λi=>(ls[i]?.map q).getD false)
  (λi hi=>by
   have gK:i<ls.length:=by omega
   obtain⟨d,h4,h5⟩:=h2.get i _ (alw gK);simp only[EB,h4,alw gK,alX,al6];exact hq _ (alR gK) _ h5)
 have h4:=iC func163 JA ntmps163 rfl results163 hJ h3;rw[hl,qV]at h4;exact h4
theorem CC {gf:Nat} {caps:List AV} (hg:lK aK gf=true) (hJ:bZ (λ_=>none) caps=true) {ls:List (List Ins)} {X:DV} (hX:cQ Ins.cells ls X) (q:List Ins->Bool)
 (hq:∀l∈ls,∀d,dU Ins.cells l d->Pure aK gf (.d d::caps) (.d (.bool (q l)))):Pure aK 114 [.d X,.fn gf caps] (.d (.bool (ls.any q))):=by
 obtain⟨ds,h1,h2⟩:=hX;have hl:=h2.length;have h3:Pure aK 164 [.d X,.fn gf caps] _:=lv func164 Vg ntmps164 rfl results164
  (Bx h1) hg hJ (λi hi=>by simp[EB,hi,cd]) (p:=λi=>(ls[i]?.map q).getD false)
  (λi hi=>by
   have gK:i<ls.length:=by omega
   obtain⟨d,h4,h5⟩:=h2.get i _ (alw gK);simp only[EB,h4,alw gK,alX,al6];exact hq _ (alR gK) _ h5)
 have h4:=iC func114 U0 ntmps114 rfl results114 hJ h3;rw[hl,qV]at h4;exact h4
theorem JQ (a:Atom):Pure aK 230 [.agg (a.cells.map .d)] (.d (.bool (gy a))):=by
 refine ay func230 Vx ntmps230 results230 rfl ?_;unfold acU;refine aa λK hK=>ag rfl ?_;simp only[go_sem,↓reduceIte,Atom.cells];refine hK _ ?_;clear hK;refine aa λK hK=>?_;refine aa λK hK=>ag rfl ?_;simp only[go_sem,↓reduceIte];refine hK _ ?_;clear hK;by_cases h1:a.fB=-1
 ·refine cm true (by simp[ev,ah,h1]) (λ_=>?_) (λh=>nomatch h);by_cases h2:a.ez=0
  ·refine aa λK hK=>ag rfl ?_;simp only[go_sem,↓reduceIte,h2];refine aI (kW a.loc) rfl rfl ?_;simp only[go_sem,↓reduceIte];refine hK _ ?_;clear hK;refine an ?_;simp only[go_sem];refine aD _ rfl rfl ⟨?_,rfl⟩;simp[ah,gy,h1,h2]
  ·refine aa λK hK=>ag rfl ?_;simp only[go_sem,↓reduceIte,h2];refine hK _ ?_;clear hK;refine an ?_;simp only[go_sem];refine aD _ rfl rfl ⟨?_,rfl⟩;simp[ah,gy,h1,h2]
 ·refine cm false (by simp[ev,ah,h1]) (λh=>nomatch h) (λ_=>?_);refine ar ?_;refine hK _ ?_;clear hK;by_cases g1:0<=a.fB
  ·by_cases g2:a.fB<=9
   ·by_cases g3:a.loc=0
    ·refine aa λK hK=>ag rfl ?_;simp only[go_sem,↓reduceIte,g1,g2,g3];refine aI (jy a.ez) rfl rfl ?_;simp only[go_sem,↓reduceIte];refine hK _ ?_;clear hK;refine an ?_;simp only[go_sem];refine aD _ rfl rfl ⟨?_,rfl⟩;simp[ah,gy,h1,g1,g2,g3]
    ·refine aa λK hK=>ag rfl ?_;simp only[go_sem,↓reduceIte,g1,g2,g3];refine hK _ ?_;clear hK;refine an ?_;simp only[go_sem];refine aD _ rfl rfl ⟨?_,rfl⟩;simp[ah,gy,h1,g1,g2,g3]
   ·refine aa λK hK=>ag rfl ?_;simp only[go_sem,↓reduceIte,g1,g2];refine hK _ ?_;clear hK;refine an ?_;simp only[go_sem];refine aD _ rfl rfl ⟨?_,rfl⟩;simp[ah,gy,h1,g1,g2]
  ·refine aa λK hK=>ag rfl ?_;simp only[go_sem,↓reduceIte,g1];refine hK _ ?_;clear hK;refine an ?_;simp only[go_sem];refine aD _ rfl rfl ⟨?_,rfl⟩;simp[ah,gy,h1,g1]
theorem G3 (a:Atom):Pure aK 229 [.agg (a.cells.map .d)] (.d (.bool (!gy a))):=by
 refine ay func229 Vw ntmps229 results229 rfl ?_;unfold acT;refine J λK hK=>?_;simp only[go_sem,Atom.cells];refine hK _ (J λK hK=>?_);simp only[go_sem];refine aI (JQ a) rfl rfl ?_;simp only[go_sem];apply hK;apply an;simp only[go_sem];refine aD _ rfl rfl ⟨?_,rfl⟩;simp[ah]
theorem JR {l:List Atom} {X:DV} (hX:dU Atom.cells l X):Pure aK 228 [.d X] (.d (.bool (lV l))):=by
 refine ay func228 Vv ntmps228 results228 rfl ?_;unfold acS;refine J λK hK=>?_;simp only[go_sem];apply hK;have hl:=hX.len;by_cases h:l.length=0
 ·have h':(l.length:Int)=0:=by omega
  refine J λK hK=>?_;simp only[go_sem,hl,h'];apply hK;apply an;simp only[go_sem];refine aD _ rfl rfl ⟨?_,rfl⟩;simp[ah,lV,h]
 ·have h':¬(l.length:Int)=0:=by omega
  refine J λK hK=>?_;simp only[go_sem,hl,h'];refine aI (JP rfl rfl hX (λa=>!gy a) λa _=>G3 a) rfl rfl ?_;simp only[go_sem];apply hK;apply an;simp only[go_sem];refine aD _ rfl rfl ⟨?_,rfl⟩;simp[ah,lV,h]
theorem JS {rows:List (List Atom)} {A:DV} (hA:cQ Atom.cells rows A) (kind:Int):Pure aK 161 [.agg [au kind,.d A]] (.d (.bool (jd kind rows))):=by
 refine ay func161 Ve ntmps161 results161 rfl ?_;unfold acE;refine aa λK hK=>ag rfl ?_;simp only[go_sem,↓reduceIte];refine hK _ ?_;clear hK;refine aa λK hK=>?_;refine aa λK hK=>ag rfl ?_;simp only[go_sem,↓reduceIte];refine hK _ ?_;clear hK;have hl:=hA.len;by_cases h0:kind=0
 ·refine cm true (by simp[ev,ah,h0]) (λ_=>?_) (λh=>nomatch h);refine aa λK hK=>ag rfl ?_;simp only[go_sem,↓reduceIte,hl];refine hK _ ?_;clear hK;refine an ?_;simp only[go_sem];refine aD _ rfl rfl ⟨?_,rfl⟩;have:((rows.length:Int)=0)=(rows.length=0):=by apply propext;omega
  simp[ah,jd,h0]
 ·refine cm false (by simp[ev,ah,h0]) (λh=>nomatch h) (λ_=>?_);refine ar ?_;refine hK _ ?_;clear hK;refine aa λK hK=>ag rfl ?_;simp only[go_sem,↓reduceIte];refine hK _ ?_;clear hK;by_cases hk:kind=1\/kind=2
  ·by_cases hr:0<rows.length
   ·have ZX:(0:Int)<rows.length:=by omega
    have key:∀(dst:Option Nat) (r:List bC) (K:St->Prop) (t:Fr) (m:Mem) (n:Nat),bN aK r ⟨cG t dst (.d (.bool (rows.any lV))),m,n⟩ K->ej aK 163 [.d A,.fn 228 []] dst r K t m n:=
     λdst r K t m n h=>aI (Pn rfl rfl hA lV λl _ d hd=>JR hd) rfl rfl h
    rcases hk with h1|h2
    ·refine aa λK hK=>ag rfl ?_;simp only[go_sem,↓reduceIte,h1,hl,ZX];refine key _ _ _ _ _ _ ?_;simp only[go_sem,↓reduceIte];refine hK _ ?_;clear hK;refine an ?_;simp only[go_sem];refine aD _ rfl rfl ⟨?_,rfl⟩;simp[ah,jd,h1,hr]
    ·refine aa λK hK=>ag rfl ?_;simp only[go_sem,↓reduceIte,h2,hl,ZX];refine key _ _ _ _ _ _ ?_;simp only[go_sem,↓reduceIte];refine hK _ ?_;clear hK;refine an ?_;simp only[go_sem];refine aD _ rfl rfl ⟨?_,rfl⟩;simp[ah,jd,h2,hr]
   ·have ZX:¬(0:Int)<rows.length:=by omega
    rcases hk with h1|h2
    ·refine aa λK hK=>ag rfl ?_;simp only[go_sem,↓reduceIte,h1,hl,ZX];refine hK _ ?_;clear hK;refine an ?_;simp only[go_sem];refine aD _ rfl rfl ⟨?_,rfl⟩;simp[ah,jd,h1,hr]
    ·refine aa λK hK=>ag rfl ?_;simp only[go_sem,↓reduceIte,h2,hl,ZX];refine hK _ ?_;clear hK;refine an ?_;simp only[go_sem];refine aD _ rfl rfl ⟨?_,rfl⟩;simp[ah,jd,h2,hr]
  ·have h1:¬kind=1:=λh=>hk (.inl h);have h2:¬kind=2:=λh=>hk (.inr h);refine aa λK hK=>ag rfl ?_;simp only[go_sem,↓reduceIte,h1,h2];refine hK _ ?_;clear hK;refine an ?_;simp only[go_sem];refine aD _ rfl rfl ⟨?_,rfl⟩;simp[ah,jd,h0,h1,h2]
theorem JT (x:Ins):Pure aK 155 [.agg (x.cells.map .d)] (.d (.bool (!cB x))):=by
 refine ay func155 U8 ntmps155 results155 rfl ?_;unfold acz;refine J λK hK=>?_;simp only[go_sem,Ins.cells];refine hK _ (J λK hK=>?_);simp only[go_sem];refine aI (M7 x) rfl rfl ?_;simp only[go_sem];apply hK;apply an;simp only[go_sem];refine aD _ rfl rfl ⟨?_,rfl⟩;simp[ah]
theorem CD {l:List Ins} {X:DV} (hX:dU Ins.cells l X):Pure aK 153 [.d X] (.d (.bool (fC l))):=by
 refine ay func153 U7 ntmps153 results153 rfl ?_;unfold acx;refine J λK hK=>?_;simp only[go_sem];refine hK _ (J λK hK=>?_);simp only[go_sem];refine aI (aaC rfl rfl hX (λx=>!cB x) λa _=>JT a) rfl rfl ?_;simp only[go_sem];apply hK;apply an;simp only[go_sem];refine aD _ rfl rfl ⟨?_,rfl⟩;rfl
theorem G4 (x:Init):Pure aK 159 [.agg (x.cells.map .d)] (.d (.bool (!dp x.loc))):=by
 refine ay func159 Vc ntmps159 results159 rfl ?_;unfold acC;refine J λK hK=>?_;simp only[go_sem,Init.cells];refine hK _ (J λK hK=>?_);simp only[go_sem];refine aI (kW x.loc) rfl rfl ?_;simp only[go_sem];apply hK;apply an;simp only[go_sem];refine aD _ rfl rfl ⟨?_,rfl⟩;simp[ah]
theorem aaD {t:Test} {cs:List DV} (hT:lU t cs) (hn:t.name.length<=9223372036854775807):Pure aK 111 [.agg (cs.map .d)] (.d (.bool (okB t))):=by
 obtain⟨I,T,A,rfl,hI,CE,hA⟩:=hT;have kI:∀(dst:Option Nat) (r:List bC) (K:St->Prop) (t':Fr) (m:Mem) (n:Nat),bN aK r ⟨cG t' dst (.d (.bool (ky t.inits))),m,n⟩ K->ej aK 158 [.d I,.fn 159 []] dst r K t' m n:=
  λdst r K t m n h=>aI (VM rfl rfl hI (λx=>!dp x.loc) λa _=>G4 a) rfl rfl h
 have kT:∀(dst:Option Nat) (r:List bC) (K:St->Prop) (t':Fr) (m:Mem) (n:Nat),bN aK r ⟨cG t' dst (.d (.bool (t.threads.any fC))),m,n⟩ K->ej aK 114 [.d T,.fn 153 []] dst r K t' m n:=
  λdst r K t m n h=>aI (CC rfl rfl CE fC λl _ d hd=>CD hd) rfl rfl h
 refine ay func111 UX ntmps111 results111 rfl ?_;unfold acn;refine J λK hK=>?_;simp only[go_sem];refine hK _ (J λK hK=>?_);simp only[go_sem];refine hK _ (J λK hK=>?_);simp only[go_sem];refine aI (JN t.name hn) rfl rfl ?_;cases hw:mN t.name
 ·simp only[go_sem];apply hK;apply an;simp only[go_sem];refine aD _ rfl rfl ⟨?_,rfl⟩;simp[ah,okB,hw]
 ·simp only[go_sem];refine kI _ _ _ _ _ _ ?_;cases hi:ky t.inits
  ·simp only[go_sem];refine kT _ _ _ _ _ _ ?_;cases ht:t.threads.any fC
   ·simp only[go_sem];refine aI (JS hA t.kind) rfl rfl ?_;simp only[go_sem];apply hK;apply an;simp only[go_sem];refine aD _ rfl rfl ⟨?_,rfl⟩;simp[ah,okB,hw,hi,ht]
   ·simp only[go_sem];apply hK;apply an;simp only[go_sem];refine aD _ rfl rfl ⟨?_,rfl⟩;simp[ah,okB,hw,hi,ht]
  ·simp only[go_sem];apply hK;apply an;simp only[go_sem];refine aD _ rfl rfl ⟨?_,rfl⟩;simp[ah,okB,hw,hi]
def ck (s:Nat) (x:Int):Nat:=if dp x=true then qW s (x-97).toNat else s
theorem Rw {s:Nat} (hs:s<67108864) (x:Int):ck s x<67108864:=by
 unfold ck;split
 ·rename_i h;have:=(eS x).1 h;exact Fw hs (by omega)
 ·exact hs
theorem qX {α:Type} (f:α->Int):∀(l:List α) {s:Nat},s<67108864->l.foldl (λs x=>ck s (f x)) s<67108864
 | [],s,h=>h
 |a::l,s,h=>by rw[al2];exact qX f l (Rw h _)
theorem qe {α:Type} (f:α->Int):∀(l:List (List α)) {s:Nat},s<67108864->l.foldl (λs l=>l.foldl (λs x=>ck s (f x)) s) s<67108864
 | [],s,h=>h
 |a::l,s,h=>by rw[al2];exact qe f l (qX f a h)
theorem aaE {x:Int} (h0:97<=x) (h1:x<=122):al0.wrap (1*2^min (x-97).toNat (al0.bits))=((2^(x-97).toNat:Nat):Int):=by
 have hm:min (x-97).toNat (al0.bits)=(x-97).toNat:=Nat.min_eq_left (by have:al0.bits=64:=rfl;omega);have bn:(2:Nat)^(x-97).toNat<2^26:=Nat.pow_lt_pow_right (by omega) (by omega);rw[hm,wrap_u64];·simp
 ·have:(0:Int)<=((2^(x-97).toNat:Nat):Int):=alm _;simpa using this
 ·have:((2^(x-97).toNat:Nat):Int)<18446744073709551616:=by omega
  simpa using this
theorem Rx (x:Int) {s:Nat} (hs:s<67108864):
 bB aK 167 [au x,.ptr 0 0] [(0,[dF s])] λr m'=>r=.cC []/\m'=[(0,[dF (ck s x)])]:=by
 refine ay func167 Vh ntmps167 results167 rfl ?_;unfold acG;refine J λK hK=>?_;simp only[go_sem];refine aI (kW x) rfl rfl ?_;simp only[go_sem];apply hK;cases hb:dp x
 ·refine aH ?_;apply ar;exact⟨.cC [],rfl,[(0,0)],[(0,[dF s])],rfl,rfl,by simp[aL,aF,ai,aj,AV.aA],rfl,by simp[ck,hb]⟩
 ·refine aM ?_;have h:=(eS x).1 hb;have hw:alv.wrap (x-97)=x-97:=wrap_i64 (by omega) (by omega);have hp:(2:Nat)^(x-97).toNat<18446744073709551616:=by
   have:(2:Nat)^(x-97).toNat<2^26:=Nat.pow_lt_pow_right (by omega) (by omega);omega
  have hor:=GN (a:=s) (b:=2^(x-97).toNat) (by omega) hp;have ZG:=aaE h.1 h.2;have Mk:al0.wrap (2^min (x-97).toNat 64)=((2^(x-97).toNat:Nat):Int):=by rw[Int.one_mul]at ZG;exact ZG
  have hn:¬x-97<0:=by omega
  refine az rfl rfl ?_;have M8:(x-97).toNat<=64:=by omega
  have CF:al0.bits=64:=rfl;have yW:min (x-97).toNat 64=(x-97).toNat:=Nat.min_eq_left M8;rw[CF,yW]at ZG;rw[yW]at Mk;simp only[go_sem,hw,hn,CF,M8,ZG,Mk,hor];refine⟨rfl,?_⟩;exact⟨.cC [],rfl,[(0,0)],[(0,[dF (ck s x)])],rfl,rfl,by simp only[aL,aF,ai,aj,AV.aA,ck,hb,qW,if_true,Int.one_mul,ZG,Mk,hor,and_true,true_and,↓reduceIte],rfl,rfl⟩
theorem y3 (x:Int) {s:Nat} (hs:s<67108864) {j:Nat} {dst:Option Nat} {r:List bC} {K:St->Prop} {t:Fr} {m:Mem} {n:Nat} (hm:ai m j=some [dF s])
 (hk:bN aK r ⟨cG t dst (.cC []),ak m j [dF (ck s x)],n+1⟩ K):ej aK 167 [au x,.ptr j 0] dst r K t m n:=by
 refine bA [(0,j)] [au x,.ptr 0 0] [(0,[dF s])] (nb:=j+1) (Rx x hs) (by simp[bX]) (by simp[aj,AV.aA,af]) (by simp[bZ,cd,af]) ⟨by simp[af,hm,aj,AV.aA,bZ,cd],trivial⟩ (by simp[ai]) ?_;rintro r0 m' ⟨rfl,rfl⟩;have e:bx [(0,j)] [(0,[dF s])] [(0,[dF (ck s x)])] n m=ak m j [dF (ck s x)]:=by
  simp[bx,bR,bU,ai,aj,AV.aA]
 rw[e];exact hk
def lF (cs:List DV) (s:Nat) (ex:Fr):St:=⟨ex++[(1,.bw cs),(2,dF 0),(3,.ptr 0 0),(4,.fn 167 [.ptr 0 0])],[(0,[dF s])],1⟩
theorem M9 {l:List Init} {D:DV} (hD:dU Init.cells l D) {cs:List DV} {s:Nat} (hs:s<67108864) {Q:Exit->St->Prop}
 (hQ:Q (.exit 0) (lF cs (l.foldl (λs x=>ck s x.loc) s) [])):
 fP aK (aE []) 68 (.loop GO) (lF cs s [(19,au (0:Nat)),(17,.d D),(18,au l.length)]) Q:=by
 have fk:=hD.1;refine bS (λi=>lF cs ((l.take i).foldl (λs x=>ck s x.loc) s) [(19,au (i:Nat)),(17,.d D),(18,au l.length)]) l.length ?_;intro i hi;have Ml:(l.take i).foldl (λs (x:Init)=>ck s x.loc) s<67108864:=qX _ _ hs;generalize hv:(l.take i).foldl (λs (x:Init)=>ck s x.loc) s=si at Ml;unfold GO lF;by_cases bn:i<l.length
 ·have aQ:(i:Int)<l.length:=by omega
  obtain⟨Cy,rest,tR,bT,cq⟩:=hD.at wW (by omega) i bn;have cy:=jv (λs (x:Init)=>ck s x.loc) s l i bn;rw[hv]at cy;have hw:=cY (i:=i) (by omega);refine J λK hK=>?_;simp only[go_sem,aQ];apply hK;refine aa λK1 aT=>?_;refine aM ?_;apply ar;apply aT;refine aa λK1 aT=>?_;apply ax;have Br:∀(n:Nat),(2<=(n+1+1))=True:=λn=>by simp
  refine J λK hK=>?_;simp only[go_sem,tR,aQ,alm,alj,cq,bT,Init.cells,Br];apply hK;generalize l[i]=x at cy bT;refine ag rfl ?_;simp only[go_sem];refine⟨rfl,y3 x.loc Ml rfl ?_⟩;simp only[go_sem];apply aT;refine ag rfl ?_;simp only[go_sem,hw];exact⟨bn,(aB.cj [(0,0)] ⟨by simp[aV,ah,AV.aA,aj,af,tR,cy],by simp[aL,aF,ai,ak,aj,AV.aA,af,ae,-alh,tR,cy],rfl,rfl⟩)⟩
 ·have aQ:¬(i:Int)<l.length:=by omega
  have du:i=l.length:=by omega
  subst du;rw[alx (ali _)]at hv;refine J λK hK=>?_;simp only[go_sem,aQ];apply hK;refine aa λK1 aT=>?_;refine aH ?_;refine aw (S':=lF cs (l.foldl (λs x=>ck s x.loc) s) []) (aB.cj [(0,0)] ⟨by simp[aV,ah,AV.aA,aj,af,lF,hv],by simp[aL,aF,ai,ak,aj,AV.aA,af,ae,-alh,lF,hv],rfl,rfl⟩) ?_;exact aW hQ
theorem VN {l:List Ins} {D D2:DV} (hD:dU Ins.cells l D) {cs:List DV} {s j n:Nat} (hs:s<67108864) {Q:Exit->St->Prop}
 (hQ:Q (.exit 4) (lF cs (l.foldl (λs x=>ck s x.loc) s) [(31,au (j:Nat)),(29,.d D2),(30,au n)])):
 fP aK (aE []) 68 (.loop GP) (lF cs s [(37,au (0:Nat)),(35,.d D),(36,au l.length),(31,au (j:Nat)),(29,.d D2),(30,au n)]) Q:=by
 have fk:=hD.1;refine bS (λi=>lF cs ((l.take i).foldl (λs x=>ck s x.loc) s) [(37,au (i:Nat)),(35,.d D),(36,au l.length),(31,au (j:Nat)),(29,.d D2),(30,au n)]) l.length ?_;intro i hi;have Ml:(l.take i).foldl (λs (x:Ins)=>ck s x.loc) s<67108864:=qX _ _ hs;generalize hv:(l.take i).foldl (λs (x:Ins)=>ck s x.loc) s=si at Ml;unfold GP lF;by_cases bn:i<l.length
 ·have aQ:(i:Int)<l.length:=by omega
  obtain⟨Cy,rest,tR,bT,cq⟩:=hD.at kM (by omega) i bn;have cy:=jv (λs (x:Ins)=>ck s x.loc) s l i bn;rw[hv]at cy;have hw:=cY (i:=i) (by omega);refine J λK hK=>?_;simp only[go_sem,aQ];apply hK;refine aa λK1 aT=>?_;refine aM ?_;apply ar;apply aT;refine aa λK1 aT=>?_;apply ax;have Br:∀(n:Nat),(9<=(n+1+1+1+1+1+1+1+1+1))=True:=λn=>by simp
  refine J λK hK=>?_;simp only[go_sem,tR,aQ,alm,alj,cq,bT,Ins.cells,Br];apply hK;generalize l[i]=x at cy bT;refine ag rfl ?_;simp only[go_sem];refine⟨rfl,y3 x.loc Ml rfl ?_⟩;simp only[go_sem];apply aT;refine ag rfl ?_;simp only[go_sem,hw];exact⟨bn,(aB.cj [(0,0)] ⟨by simp[aV,ah,AV.aA,aj,af,tR,cy],by simp[aL,aF,ai,ak,aj,AV.aA,af,ae,-alh,tR,cy],rfl,rfl⟩)⟩
 ·have aQ:¬(i:Int)<l.length:=by omega
  have du:i=l.length:=by omega
  subst du;rw[alx (ali _)]at hv;refine J λK hK=>?_;simp only[go_sem,aQ];apply hK;refine aa λK1 aT=>?_;refine aH ?_;refine aw (S':=lF cs (l.foldl (λs x=>ck s x.loc) s) [(31,au (j:Nat)),(29,.d D2),(30,au n)]) (aB.cj [(0,0)] ⟨by simp[aV,ah,AV.aA,aj,af,lF,hv],by simp[aL,aF,ai,ak,aj,AV.aA,af,ae,-alh,lF,hv],rfl,rfl⟩) ?_;exact aW hQ
theorem Ry {ls:List (List Ins)} {D:DV} (hD:cQ Ins.cells ls D) {cs:List DV} {s:Nat} (hs:s<67108864) {Q:Exit->St->Prop}
 (hQ:Q (.exit 2) (lF cs (ls.foldl (λs l=>l.foldl (λs x=>ck s x.loc) s) s) [])):
 fP aK (aE []) 68 (.loop GQ) (lF cs s [(31,au (0:Nat)),(29,.d D),(30,au ls.length)]) Q:=by
 have fk:=hD.j6;refine bS (λj=>lF cs ((ls.take j).foldl (λs l=>l.foldl (λs x=>ck s x.loc) s) s) [(31,au (j:Nat)),(29,.d D),(30,au ls.length)]) ls.length ?_;intro j hj;have Ml:(ls.take j).foldl (λs (l:List Ins)=>l.foldl (λs x=>ck s x.loc) s) s<67108864:=qe _ _ hs;generalize hv:(ls.take j).foldl (λs (l:List Ins)=>l.foldl (λs x=>ck s x.loc) s) s=si at Ml;unfold GQ;by_cases bn:j<ls.length
 ·have aQ:(j:Int)<ls.length:=by omega
  obtain⟨Cy,d,rest,tR,G5,hjc,hd⟩:=hD.at j bn;have cy:=jv (λs (l:List Ins)=>l.foldl (λs x=>ck s x.loc) s) s ls j bn;rw[hv]at cy;have hw:=cY (i:=j) (by omega);have uK:=hd.len;unfold lF;refine J λK hK=>?_;simp only[go_sem,aQ];apply hK;refine aa λK1 aT=>?_;refine aM ?_;apply ar;apply aT;refine aa λK1 aT=>?_;apply ax;refine J λK hK=>?_;simp only[go_sem,tR,aQ,alm,alj,alV,hjc,G5];refine hK _ (J λK hK=>?_);simp only[go_sem,uK];apply hK;apply ax
  refine aw (S':=lF cs si [(37,au (0:Nat)),(35,.d d),(36,au (ls[j].length)),(31,au (j:Nat)),(29,.d D),(30,au ls.length)]) (aB.cj [(0,0)] ⟨by simp[aV,ah,AV.aA,aj,af,lF,tR],by simp[aL,aF,ai,ak,aj,AV.aA,af,ae,-alh,lF,tR],rfl,rfl⟩) ?_;refine VN hd Ml ?_;rw[<-cy];unfold lF;simp only[go_sem];apply aT;refine ag rfl ?_;simp only[go_sem,hw];exact⟨bn,(aB.cj [(0,0)] ⟨by simp[aV,ah,AV.aA,aj,af,lF],by simp[aL,aF,ai,ak,aj,AV.aA,af,ae,-alh,lF],rfl,rfl⟩)⟩
 ·have aQ:¬(j:Int)<ls.length:=by omega
  have du:j=ls.length:=by omega
  subst du;rw[alx (ali _)]at hv;unfold lF;refine J λK hK=>?_;simp only[go_sem,aQ];apply hK;refine aa λK1 aT=>?_;refine aH ?_;refine aw (S':=lF cs (ls.foldl (λs l=>l.foldl (λs x=>ck s x.loc) s) s) []) (aB.cj [(0,0)] ⟨by simp[aV,ah,AV.aA,aj,af,lF,hv],by simp[aL,aF,ai,ak,aj,AV.aA,af,ae,-alh,lF,hv],rfl,rfl⟩) ?_;exact aW hQ
theorem Rz {l:List Atom} {D D2:DV} (hD:dU Atom.cells l D) {cs:List DV} {s j n:Nat} (hs:s<67108864) {Q:Exit->St->Prop}
 (hQ:Q (.exit 8) (lF cs (l.foldl (λs x=>ck s x.loc) s) [(51,au (j:Nat)),(49,.d D2),(50,au n)])):
 fP aK (aE []) 68 (.loop GR) (lF cs s [(57,au (0:Nat)),(55,.d D),(56,au l.length),(51,au (j:Nat)),(49,.d D2),(50,au n)]) Q:=by
 have fk:=hD.1;refine bS (λi=>lF cs ((l.take i).foldl (λs x=>ck s x.loc) s) [(57,au (i:Nat)),(55,.d D),(56,au l.length),(51,au (j:Nat)),(49,.d D2),(50,au n)]) l.length ?_;intro i hi;have Ml:(l.take i).foldl (λs (x:Atom)=>ck s x.loc) s<67108864:=qX _ _ hs;generalize hv:(l.take i).foldl (λs (x:Atom)=>ck s x.loc) s=si at Ml;unfold GR lF;by_cases bn:i<l.length
 ·have aQ:(i:Int)<l.length:=by omega
  obtain⟨Cy,rest,tR,bT,cq⟩:=hD.at Cz (by omega) i bn;have cy:=jv (λs (x:Atom)=>ck s x.loc) s l i bn;rw[hv]at cy;have hw:=cY (i:=i) (by omega);refine J λK hK=>?_;simp only[go_sem,aQ];apply hK;refine aa λK1 aT=>?_;refine aM ?_;apply ar;apply aT;refine aa λK1 aT=>?_;apply ax;have Br:∀(n:Nat),(4<=(n+1+1+1+1))=True:=λn=>by simp
  refine J λK hK=>?_;simp only[go_sem,tR,aQ,alm,alj,cq,bT,Atom.cells,Br];apply hK;generalize l[i]=x at cy bT;refine ag rfl ?_;simp only[go_sem];refine⟨rfl,y3 x.loc Ml rfl ?_⟩;simp only[go_sem];apply aT;refine ag rfl ?_;simp only[go_sem,hw];exact⟨bn,(aB.cj [(0,0)] ⟨by simp[aV,ah,AV.aA,aj,af,tR,cy],by simp[aL,aF,ai,ak,aj,AV.aA,af,ae,-alh,tR,cy],rfl,rfl⟩)⟩
 ·have aQ:¬(i:Int)<l.length:=by omega
  have du:i=l.length:=by omega
  subst du;rw[alx (ali _)]at hv;refine J λK hK=>?_;simp only[go_sem,aQ];apply hK;refine aa λK1 aT=>?_;refine aH ?_;refine aw (S':=lF cs (l.foldl (λs x=>ck s x.loc) s) [(51,au (j:Nat)),(49,.d D2),(50,au n)]) (aB.cj [(0,0)] ⟨by simp[aV,ah,AV.aA,aj,af,lF,hv],by simp[aL,aF,ai,ak,aj,AV.aA,af,ae,-alh,lF,hv],rfl,rfl⟩) ?_;exact aW hQ
theorem Na {ls:List (List Atom)} {D:DV} (hD:cQ Atom.cells ls D) {cs:List DV} {s:Nat} (hs:s<67108864) {Q:Exit->St->Prop}
 (hQ:Q (.exit 6) (lF cs (ls.foldl (λs l=>l.foldl (λs x=>ck s x.loc) s) s) [])):
 fP aK (aE []) 68 (.loop GS) (lF cs s [(51,au (0:Nat)),(49,.d D),(50,au ls.length)]) Q:=by
 have fk:=hD.j6;refine bS (λj=>lF cs ((ls.take j).foldl (λs l=>l.foldl (λs x=>ck s x.loc) s) s) [(51,au (j:Nat)),(49,.d D),(50,au ls.length)]) ls.length ?_;intro j hj;have Ml:(ls.take j).foldl (λs (l:List Atom)=>l.foldl (λs x=>ck s x.loc) s) s<67108864:=qe _ _ hs;generalize hv:(ls.take j).foldl (λs (l:List Atom)=>l.foldl (λs x=>ck s x.loc) s) s=si at Ml;unfold GS;by_cases bn:j<ls.length
 ·have aQ:(j:Int)<ls.length:=by omega
  obtain⟨Cy,d,rest,tR,G5,hjc,hd⟩:=hD.at j bn;have cy:=jv (λs (l:List Atom)=>l.foldl (λs x=>ck s x.loc) s) s ls j bn;rw[hv]at cy;have hw:=cY (i:=j) (by omega);have uK:=hd.len;unfold lF;refine J λK hK=>?_;simp only[go_sem,aQ];apply hK;refine aa λK1 aT=>?_;refine aM ?_;apply ar;apply aT;refine aa λK1 aT=>?_;apply ax;refine J λK hK=>?_;simp only[go_sem,tR,aQ,alm,alj,alV,hjc,G5];refine hK _ (J λK hK=>?_);simp only[go_sem,uK];apply hK;apply ax
  refine aw (S':=lF cs si [(57,au (0:Nat)),(55,.d d),(56,au (ls[j].length)),(51,au (j:Nat)),(49,.d D),(50,au ls.length)]) (aB.cj [(0,0)] ⟨by simp[aV,ah,AV.aA,aj,af,lF,tR],by simp[aL,aF,ai,ak,aj,AV.aA,af,ae,-alh,lF,tR],rfl,rfl⟩) ?_;refine Rz hd Ml ?_;rw[<-cy];unfold lF;simp only[go_sem];apply aT;refine ag rfl ?_;simp only[go_sem,hw];exact⟨bn,(aB.cj [(0,0)] ⟨by simp[aV,ah,AV.aA,aj,af,lF],by simp[aL,aF,ai,ak,aj,AV.aA,af,ae,-alh,lF],rfl,rfl⟩)⟩
 ·have aQ:¬(j:Int)<ls.length:=by omega
  have du:j=ls.length:=by omega
  subst du;rw[alx (ali _)]at hv;unfold lF;refine J λK hK=>?_;simp only[go_sem,aQ];apply hK;refine aa λK1 aT=>?_;refine aH ?_;refine aw (S':=lF cs (ls.foldl (λs l=>l.foldl (λs x=>ck s x.loc) s) s) []) (aB.cj [(0,0)] ⟨by simp[aV,ah,AV.aA,aj,af,lF,hv],by simp[aL,aF,ai,ak,aj,AV.aA,af,ae,-alh,lF,hv],rfl,rfl⟩) ?_;exact aW hQ
def sN (t:Test):Nat:=t.rows.foldl (λs l=>l.foldl (λs x=>ck s x.loc) s) (t.threads.foldl (λs l=>l.foldl (λs x=>ck s x.loc) s) (t.inits.foldl (λs x=>ck s x.loc) 0))
theorem VO (t:Test):sN t<67108864:=qe _ _ (qe _ _ (qX _ _ (by omega)))
theorem G6 {t:Test} {cs:List DV} (hT:lU t cs):Pure aK 122 [.agg (cs.map .d)] (dF (sN t)):=by
 obtain⟨I,T,A,rfl,hI,CE,hA⟩:=hT;have h1:t.inits.foldl (λs (x:Init)=>ck s x.loc) 0<67108864:=qX _ _ (by omega);have h2:t.threads.foldl (λs (l:List Ins)=>l.foldl (λs x=>ck s x.loc) s) (t.inits.foldl (λs (x:Init)=>ck s x.loc) 0)<67108864:=qe _ _ h1;have hIl:=hI.len;have VP:=CE.len;have hAl:=hA.len;refine ay func122 U4 ntmps122 results122 rfl ?_;unfold acu;refine J λK hK=>?_;simp only[go_sem];apply hK;refine aw (S':=⟨[(1,.bw [.str t.name,I,T,.int .i64 t.kind,A]),(2,dF 0)],[],0⟩) (aB.jl [] [(0,[.str t.name,I,T,.int .i64 t.kind,A])] ⟨?_,?_,rfl,rfl,?_⟩) ?_;·simp[fb,ah,AV.cv,db,bI,af]
 ·simp[fx,aF,bI,ai,db,AV.cv]
 ·simp[bG,ai,db,AV.cv]
 refine J λK hK=>?_;simp only[go_sem];refine hK _ (J λK hK=>?_);simp only[go_sem];apply hK;refine aa λK1 aT=>?_;refine aa λK2 eX=>?_;refine ag rfl ?_;simp only[go_sem,hIl];apply eX;apply ax;refine aw (S':=lF [.str t.name,I,T,.int .i64 t.kind,A] 0 [(19,au (0:Nat)),(17,.d I),(18,au t.inits.length)]) (aB.cj [(0,0)] ⟨by simp[aV,ah,AV.aA,aj,af,lF],by simp[aL,aF,ai,ak,aj,AV.aA,af,ae,-alh,lF],rfl,rfl⟩) ?_;refine M9 hI (by omega) ?_;unfold lF;simp only[go_sem];apply aT;refine aa λK1 aT=>?_;refine aa λK2 eX=>?_;refine ag rfl ?_;simp only[go_sem,VP];apply eX;apply ax
 refine aw (S':=lF [.str t.name,I,T,.int .i64 t.kind,A] (t.inits.foldl (λs x=>ck s x.loc) 0) [(31,au (0:Nat)),(29,.d T),(30,au t.threads.length)]) (aB.cj [(0,0)] ⟨by simp[aV,ah,AV.aA,aj,af,lF],by simp[aL,aF,ai,ak,aj,AV.aA,af,ae,-alh,lF],rfl,rfl⟩) ?_;refine Ry CE h1 ?_;unfold lF;simp only[go_sem];apply aT;refine aa λK1 aT=>?_;refine aa λK2 eX=>?_;refine ag rfl ?_;simp only[go_sem,hAl];apply eX;apply ax
 refine aw (S':=lF [.str t.name,I,T,.int .i64 t.kind,A] (t.threads.foldl (λs l=>l.foldl (λs x=>ck s x.loc) s) (t.inits.foldl (λs x=>ck s x.loc) 0)) [(51,au (0:Nat)),(49,.d A),(50,au t.rows.length)]) (aB.cj [(0,0)] ⟨by simp[aV,ah,AV.aA,aj,af,lF],by simp[aL,aF,ai,ak,aj,AV.aA,af,ae,-alh,lF],rfl,rfl⟩) ?_;refine Na hA h2 ?_;unfold lF;simp only[go_sem];refine aT _ (J λK hK=>?_);simp only[go_sem];apply hK;apply an;simp only[go_sem];refine aD _ rfl rfl ⟨?_,rfl⟩;rfl
def VQ:aJ:=.seq (kS [aq 51 13,bP .gtr 52 51 0,aq 53 52,ir 54 10 53,ir 55 1 53,cO 56 (r9 .lss 54 55) 53,ia 57 53 56] (.cond (.t 57) .skip (.exit 2))) (.seq (.block 3 (kS [aq 60 7,oM 61 (.eW (.t 60) []),aq 14 61] (kS [aq 62 14,oM 63 (.bin .shr (.t 62) (.c (.d (.int .u64 4)))),aq 64 9,eF .rem 65 63 64,oM 66 (.bin .add (kI 120) (.t 65)),aq 15 66] (kS [aq 67 14,oM 68 (.bin .shr (.t 67) (.c (.d (.int .u64 6)))),bP .rem 69 68 3,oM 70 (.build [zI,zI] [(0,1,kI (-1)),(1,1,.t 69)]),oM 16 (.alloc [zI,zI]),b9 2 16 70] (.seq (kS [aq 71 14,oM 72 (.bin .shr (.t 71) (.c (.d (.int .u64 8)))),bP .rem 73 72 3,bP .eql 74 73 0] (kC 74 (kR [aq 75 14,oM 76 (.bin .shr (.t 75) (.c (.d (.int .u64 10)))),bP .and 77 76 1,oM 78 (.build [zI,zI] [(0,1,.t 77)]),b9 2 16 78]))) (kS [aq 79 14,oM 80 (.bin .shr (.t 79) (.c (.d (.int .u64 11)))),bP .and 81 80 1,aq 17 81] (kS [aq 82 14,bP .rem 83 82 12] (.block 4 (.seq (kS [bP .eql 96 83 0,aq 95 96] (.cond (.t 95) .skip (kS [bP .eql 97 83 1,aq 95 97] (.cond (.t 95) .skip (kS [bP .eql 98 83 2,aq 95 98] (.cond (.t 95) .skip (kR [bP .eql 99 83 3,aq 95 99]))))))) (.cond (.t 95) (kS [aq 100 12,aq 101 15,cN 102 2 16,oM 103 (.build [zI,zI,zI,zI,zI,zI,zI,zI,zI] [(0,1,kI 1),(2,1,.t 101),(3,2,.t 102)]),oM 104 (.cF 9 1 [zI,zI,zI,zI,zI,zI,zI,zI,zI] [(0,9,.t 103)]),oM 105 (.app 9 72 72 (.t 100) (.t 104)),aq 12 105] (kR [aq 106 10,bP .add 107 106 1,aq 10 107])) (.seq (kS [bP .eql 109 83 4,aq 108 109] (.cond (.t 108) .skip (kS [bP .eql 110 83 5,aq 108 110] (.cond (.t 108) .skip (kS [bP .eql 111 83 6,aq 108 111] (.cond (.t 108) .skip (kR [bP .eql 112 83 7,aq 108 112]))))))) (.cond (.t 108) (kS [aq 113 12,aq 114 17,aq 115 15,oM 116 (.build [zI,zI,zI,zI,zI,zI,zI,zI,zI] [(0,1,kI 2),(1,1,.t 114),(2,1,.t 115)]),oM 117 (.cF 9 1 [zI,zI,zI,zI,zI,zI,zI,zI,zI] [(0,9,.t 116)]),oM 118 (.app 9 72 72 (.t 113) (.t 117)),aq 12 118] (kR [aq 119 10,bP .add 120 119 1,aq 10 120])) (kS [bP .eql 122 83 8,aq 121 122] (.cond (.t 121) (kR [aq 123 12,oM 124 (.build [zI,zI,zI,zI,zI,zI,zI,zI,zI] [(0,1,kI 3)]),oM 125 (.cF 9 1 [zI,zI,zI,zI,zI,zI,zI,zI,zI] [(0,9,.t 124)]),oM 126 (.app 9 72 72 (.t 123) (.t 125)),aq 12 126]) (kS [bP .eql 128 83 9,aq 127 128] (.cond (.t 127) (kS [aq 129 12,aq 130 17,aq 131 15,cN 132 2 16,oM 133 (.build [zI,zI] [(0,1,kI (-1)),(1,1,kI 1)]),oM 134 (.build [zI,zI,zI,zI,zI,zI,zI,zI,zI] [(0,1,kI 4),(1,1,.t 130),(2,1,.t 131),(3,2,.t 132),(6,2,.t 133)]),oM 135 (.cF 9 1 [zI,zI,zI,zI,zI,zI,zI,zI,zI] [(0,9,.t 134)]),oM 136 (.app 9 72 72 (.t 129) (.t 135)),aq 12 136] (kR [aq 137 10,bP .add 138 137 1,aq 10 138])) (kS [bP .eql 140 83 10,aq 139 140] (.cond (.t 139) (kR [aq 141 12,aq 142 17,cN 143 2 16,oM 144 (.build [zI,zI] [(0,1,kI (-1)),(1,1,kI 1)]),oM 145 (.build [zI,zI,zI,zI,zI,zI,zI,zI,zI] [(0,1,kI 5),(1,1,.t 142),(3,2,.t 143),(5,1,kI 6),(6,2,.t 144)]),oM 146 (.cF 9 1 [zI,zI,zI,zI,zI,zI,zI,zI,zI] [(0,9,.t 145)]),oM 147 (.app 9 72 72 (.t 141) (.t 146)),aq 12 147]) (kS [aq 84 12,cN 85 2 16,oM 86 (.build [zI,zI] [(0,1,kI (-1))]),oM 87 (.build [zI,zI,zI,zI,zI,zI,zI,zI,zI] [(0,1,kI 6),(3,2,.t 85),(6,2,.t 86),(8,1,kI 1)]),aq 88 15,oM 89 (.build [zI,zI] [(0,1,kI (-1)),(1,1,kI 2)]),oM 90 (.build [zI,zI,zI,zI,zI,zI,zI,zI,zI] [(0,1,kI 1),(2,1,.t 88),(3,2,.t 89)]),oM 91 (.cF 9 2 [zI,zI,zI,zI,zI,zI,zI,zI,zI,zI,zI,zI,zI,zI,zI,zI,zI,zI] [(0,9,.t 87),(9,9,.t 90)]),oM 92 (.app 9 72 72 (.t 84) (.t 91)),aq 12 92] (kR [aq 93 10,bP .add 94 93 1,aq 10 94])))))))))))))))))))) (kR [aq 58 13,bP .sub 59 58 1,aq 13 59]))
def VR:aJ:=.seq (kS [aq 42 11,aq 43 8,eF .lss 44 42 43] (kE 44)) (.seq (.block 1 (kS [bz 12 (.c zN)] (.seq (kS [aq 47 7,oM 48 (.eW (.t 47) []),bP .rem 49 48 3,bP .add 50 49 1,aq 13 50] (.block 2 (.loop VQ))) (kR [aY 148 5 2,bE 149 148,aq 150 12,oM 151 (.cF 1 1 [zN] [(0,1,.t 150)]),oM 152 (.app 1 24 67 (.t 149) (.t 151)),aY 153 5 2,b9 1 153 152])))) (kR [aq 45 11,bP .add 46 45 1,aq 11 46]))
def ac8:aJ:=kS [oM 2 (cM 0),oM 4 (.alloc [zS,zN,zN,zI,zN])] (kS [oM 19 (.build [zS,zN,zN,zI,zN] [(0,1,.c (.d (.str [116])))]),oM 5 (.alloc [zS,zN,zN,zI,zN]),b9 5 5 19] (kS [oM 6 (.alloc [zI]),⟨none,.store 1 (.t 6) (kI 0),none⟩] (kS [oM 20 (.rY 27 [.t 6,.t 2]),aq 7 20] (kS [aq 21 7,oM 22 (.eW (.t 21) []),bP .rem 23 22 2,bP .add 24 23 2,aq 8 24] (kS [aq 25 7,oM 26 (.eW (.t 25) []),bP .rem 27 26 2,bP .add 28 27 2,aq 9 28] (.seq (kS [aq 29 7,oM 30 (.eW (.t 29) []),bP .rem 31 30 4,bP .eql 32 31 0] (kC 32 (.region true [aY 33 5 1,bE 34 33,aq 35 7,oM 36 (.eW (.t 35) []),bP .rem 37 36 3,oM 38 (.build [zI,zI] [(0,1,kI 120),(1,1,.t 37)]),oM 39 (.cF 2 1 [zI,zI] [(0,2,.t 38)]),oM 40 (.app 2 16 65 (.t 34) (.t 39)),aY 41 5 1,b9 1 41 40] [0,1,0,4,8,16,32,74,255,511]))) (kS [bz 10 (kI 0)] (.seq (kS [bz 11 (kI 0)] (mM VR)) (.seq (kS [aq 154 7,oM 155 (.eW (.t 154) []),aq 18 155] (kS [aq 156 18,bP .rem 157 156 3,bP .eql 158 157 0] (kC 158 (kR [aq 159 18,bP .quo 160 159 3,bP .rem 161 160 2,bP .add 162 161 1,aq 163 18,oM 164 (.bin .shr (.t 163) (.c (.d (.int .u64 3)))),bP .and 165 164 1,aq 166 18,oM 167 (.bin .shr (.t 166) (.c (.d (.int .u64 4)))),bP .and 168 167 1,oM 169 (.build [zI,zI,zI,zI] [(0,1,kI 0),(1,1,.t 165),(3,1,.t 168)]),oM 170 (.cF 4 1 [zI,zI,zI,zI] [(0,4,.t 169)]),aq 171 18,oM 172 (.bin .shr (.t 171) (.c (.d (.int .u64 5)))),bP .rem 173 172 3,oM 174 (.build [zI,zI,zI,zI] [(0,1,kI (-1)),(2,1,kI 120),(3,1,.t 173)]),aq 175 18,oM 176 (.bin .shr (.t 175) (.c (.d (.int .u64 7)))),bP .and 177 176 1,oM 178 (.build [zI,zI,zI,zI] [(0,1,kI 1),(1,1,kI 0),(3,1,.t 177)]),oM 179 (.cF 4 2 [zI,zI,zI,zI,zI,zI,zI,zI] [(0,4,.t 174),(4,4,.t 178)]),oM 180 (.cF 1 2 [zN,zN] [(0,1,.t 170),(1,1,.t 179)]),oM 181 (.build [zI,zN] [(0,1,.t 162),(1,1,.t 180)]),aY 182 5 3,b9 2 182 181])))) (kS [cN 183 5 5,b9 5 4 183] .ret))))))))))
theorem afb:cZ f8=some ac8:=by kernel_rfl
def ahV:aJ:=kS [bz 2 (kI 0)] (kS [bE 3 0,bP .add 4 3 1,b9 1 0 4] (.seq (kS [bE 5 0,bE 6 1,iy 7 6,eF .gtr 8 5 7] (kC 8 (kS [bz 2 (kI 0)] .ret))) (kS [bE 9 1,bE 10 0,bP .sub 11 10 1,jm 12 1 9 11,bE 13 12,bP .and 14 13 65535,aq 2 14] .ret)))
theorem aaF:cZ f27=some ahV:=by kernel_rfl
def Nb:aJ:=.seq (kS [aq 32 5,bK 33 105 [.t 32,.c (.d (.str [116,104,114,101,97,100]))]] (kE 33)) (.block 1 (.region true [aY 34 6 2,bE 35 34,aq 36 5,bK 37 107 [.t 36],oM 38 (.cF 1 1 [zN] [(0,1,.t 37)]),oM 39 (.app 1 24 67 (.t 35) (.t 38)),aY 40 6 2,b9 1 40 39] [0,1,0,4,8,26,63,127]))
def ahW:aJ:=kS [oM 2 (.alloc [zS,zN,zN,zI,zN]),oM 3 (.alloc [zI,zI])] (.seq (kS [aq 7 0,bK 8 100 [.t 7],oM 4 (.alloc [zI,zI]),b9 2 4 8] (kS [aY 9 4 0,bE 10 9,bP .neq 11 10 0] (kC 11 (kD [oM 12 (.build [zS,zN,zN,zI,zN] []),cN 13 2 4,b9 5 2 12,b9 2 3 13] [0,0,1,7] .ret)))) (kS [aq 14 0,bK 15 101 [.t 14],oM 16 (.build [.d .om,zI,zS,zI,zI,zI] [(0,1,.t 15)]),oM 17 (cM 16),aq 5 17] (kS [aq 18 5,bK 19 102 [.t 18]] (kS [oM 6 (.alloc [zS,zN,zN,zI,zN])] (kS [aq 20 5,bK 21 103 [.t 20,.c (.d (.str [116,101,115,116]))]] (kS [aq 22 5,bK 23 104 [.t 22],aY 24 6 0,b9 1 24 23] (kS [aq 25 5,bK 26 103 [.t 25,.c (.d (.str [123]))]] (.seq (kS [aq 27 5,bK 28 105 [.t 27,.c (.d (.str [105,110,105,116]))]] (kC 28 (kR [aq 29 5,bK 30 106 [.t 29],aY 31 6 1,b9 1 31 30]))) (.seq (mM Nb) (.seq (.block 2 (kS [aq 42 5,bK 43 105 [.t 42,.c (.d (.str [101,120,105,115,116,115]))],aq 41 43] (.cond (.t 41) (kR [aq 44 5,bK 45 108 [.t 44,kI 1],aY 46 6 3,b9 2 46 45]) (kS [aq 48 5,bK 49 105 [.t 48,.c (.d (.str [102,111,114,97,108,108]))],aq 47 49] (kC 47 (kR [aq 50 5,bK 51 108 [.t 50,kI 2],aY 52 6 3,b9 2 52 51])))))) (kS [aq 53 5,bK 54 103 [.t 53,.c (.d (.str [125]))]] (.seq (kS [aq 55 5,bK 56 109 [.t 55],aq 57 56,ir 58 5 57,cO 59 (wU 58) 57,jn 60 59 1 57,jn 61 60 0 57,lE 62 61 57,cO 63 (iX .neq 62 4) 57,ia 64 57 63] (kC 64 (kR [aq 65 5,bK 66 110 [.t 65,kI 6]]))) (.seq (kS [aq 67 5,bK 68 109 [.t 67],oM 69 (gl 68)] (kC 69 (kD [oM 70 (.build [zS,zN,zN,zI,zN] []),aq 71 5,dC 72 71,aY 73 72 4,cN 74 2 73,b9 5 2 70,b9 2 3 74] [0,0,2,4,8,1,63] .ret))) (kS [cN 75 5 6,oM 76 (.build [zI,zI] []),b9 5 2 75,b9 2 3 76] .ret))))))))))))))
theorem aaG:cZ f62=some ahW:=by kernel_rfl
def Po:aJ:=kS [aq 2 0,dC 3 2,aY 4 3 4,aY 5 4 0,bE 6 5,bP .eql 7 6 0] (kC 7 (kR [aq 9 0,aq 10 0,aq 11 0,dC 12 11,aY 13 12 0,bE 14 13,bK 15 146 [.t 14],aq 8 15,iL 16 8 0,iL 17 8 1,dC 18 9,aY 19 18 1,b9 3 19 16,dC 20 10,aY 21 20 4,b9 2 21 17]))
theorem CG:cZ f102=some Po:=by kernel_rfl
def ac2:aJ:=kS [aq 4 0,aq 5 1,bK 6 105 [.t 4,.t 5],oM 7 (gl 6)] (kC 7 (kR [aq 8 0,bK 9 110 [.t 8,kI 6]]))
theorem VS:cZ f103=some ac2:=by kernel_rfl
def ac3:aJ:=kS [bz 2 (.c zS)] (kS [aq 4 0,dC 5 4,aY 6 5 1,aY 7 6 1,bE 8 7,aq 3 8] (.seq (kS [aq 9 0,dC 10 9,aY 11 10 1,aY 12 11 0,bE 13 12,bP .neq 14 13 1] (kC 14 (kS [aq 15 0,bK 16 110 [.t 15,kI 6]] (kS [bz 2 (.c zS)] .ret)))) (kS [aq 17 0,bK 18 102 [.t 17]] (kS [aq 19 3,aq 2 19] .ret))))
theorem VT:cZ f104=some ac3:=by kernel_rfl
def ac5:aJ:=kS [bz 4 fv] (.seq (kS [aq 5 0,aq 6 1,bK 7 147 [.t 5,.t 6],oM 8 (gl 7)] (kC 8 (kS [bz 4 fv] .ret))) (kS [aq 9 0,bK 10 102 [.t 9]] (kS [bz 4 sg] .ret)))
theorem VU:cZ f105=some ac5:=by kernel_rfl
def G7:aJ:=.seq (kS [aq 7 0,bK 8 109 [.t 7],aq 9 8,ir 10 0 9,cO 11 (.bW 105 [.t 10,.c (.d (.str [125]))]) 9,cO 12 (gl 11) 9,ia 13 9 12] (kE 13)) (.block 1 (kS [aq 14 0,bK 15 148 [.t 14,.c (.fn 149 [])],oM 16 (.build [zI,zI] [(0,1,.t 15)]),oM 4 (.alloc [zI,zI]),b9 2 4 16] (kS [aq 17 0,bK 18 103 [.t 17,.c (.d (.str [61]))]] (kS [aq 19 0,bK 20 150 [.t 19],aY 21 4 1,b9 1 21 20] (kS [aq 22 0,bK 23 103 [.t 22,.c (.d (.str [59]))]] (kR [aq 24 3,cN 25 2 4,oM 26 (.cF 2 1 [zI,zI] [(0,2,.t 25)]),oM 27 (.app 2 16 65 (.t 24) (.t 26)),aq 3 27]))))))
def ac6:aJ:=kS [bz 2 (.c zN)] (kS [bz 3 (.c zN)] (kS [aq 5 0,bK 6 103 [.t 5,.c (.d (.str [123]))]] (.seq (mM G7) (kS [aq 28 3,aq 2 28] .ret))))
theorem VV:cZ f106=some ac6:=by kernel_rfl
def G8:aJ:=.seq (kS [aq 6 0,bK 7 109 [.t 6],aq 8 7,ir 9 0 8,cO 10 (.bW 105 [.t 9,.c (.d (.str [125]))]) 8,cO 11 (gl 10) 8,ia 12 8 11] (kE 12)) (.block 1 (kS [aq 13 3,aq 14 0,bK 15 151 [.t 14],oM 16 (.cF 9 1 [zI,zI,zI,zI,zI,zI,zI,zI,zI] [(0,9,.t 15)]),oM 17 (.app 9 72 72 (.t 13) (.t 16)),aq 3 17] (kR [aq 18 0,bK 19 103 [.t 18,.c (.d (.str [59]))]])))
def ac7:aJ:=kS [bz 2 (.c zN)] (kS [bz 3 (.c zN)] (kS [aq 4 0,bK 5 103 [.t 4,.c (.d (.str [123]))]] (.seq (mM G8) (kS [aq 20 3,aq 2 20] .ret))))
theorem VW:cZ f107=some ac7:=by kernel_rfl
def G9:aJ:=.seq (kS [aq 12 0,bK 13 105 [.t 12,.c (.d (.str [38]))]] (.cond (.t 13) .skip (.exit 2))) (.block 3 (kR [aq 14 6,aq 15 0,bK 16 152 [.t 15],oM 17 (.cF 4 1 [zI,zI,zI,zI] [(0,4,.t 16)]),oM 18 (.app 4 32 77 (.t 14) (.t 17)),aq 6 18]))
def Ha:aJ:=.block 1 (kS [aq 9 0,bK 10 152 [.t 9],oM 11 (.cF 4 1 [zI,zI,zI,zI] [(0,4,.t 10)]),aq 6 11] (.seq (.block 2 (.loop G9)) (kS [aY 19 5 1,bE 20 19,aq 21 6,oM 22 (.cF 1 1 [zN] [(0,1,.t 21)]),oM 23 (.app 1 24 78 (.t 20) (.t 22)),aY 24 5 1,b9 1 24 23] (kS [aq 25 0,bK 26 105 [.t 25,.c (.d (.str [124]))],oM 27 (gl 26)] (kC 27 (kS [aq 28 0,bK 29 103 [.t 28,.c (.d (.str [59]))]] (kS [cN 30 2 5,b9 2 4 30] .ret)))))))
def ac9:aJ:=kS [oM 4 (.alloc [zI,zN])] (kS [aq 7 1,oM 8 (.build [zI,zN] [(0,1,.t 7)]),oM 5 (.alloc [zI,zN]),b9 2 5 8] (mM Ha))
theorem VX:cZ f108=some ac9:=by kernel_rfl
def ada:aJ:=kS [bz 2 fv] (kS [aq 3 0,dC 4 3,aY 5 4 4,aY 6 5 0,bE 7 6,bP .eql 8 7 0,aq 2 8] .ret)
theorem VY:cZ f109=some ada:=by kernel_rfl
def VZ:aJ:=kS [aq 4 0,dC 5 4,aY 6 5 4,aY 7 6 0,bE 8 7,bP .eql 9 8 0] (kC 9 (kR [aq 10 0,aq 11 1,aq 12 0,dC 13 12,aY 14 13 1,aY 15 14 2,bE 16 15,oM 17 (.build [zI,zI] [(0,1,.t 11),(1,1,.t 16)]),dC 18 10,aY 19 18 4,b9 2 19 17]))
theorem JU:cZ f110=some VZ:=by kernel_rfl
def adb:aJ:=kS [bz 4 fv] (kS [aq 5 0,bK 6 109 [.t 5],aq 7 6,ir 8 0 7,cO 9 (wU 8) 7,jn 10 9 1 7,jn 11 10 0 7,lE 12 11 7,cO 13 (iX .eql 12 3) 7,ir 14 13 7,kL 15 0 14,df 16 (wU 15) 14,jY 17 16 1 14,jY 18 17 0 14,ma 19 18 14,df 20 (iX .eql 19 1) 14,cO 21 (Rt 14 20) 7,ia 22 7 21,aq 23 22,ir 24 0 23,cO 25 (wU 24) 23,jn 26 25 1 23,jn 27 26 1 23,lE 28 27 23,ir 29 1 23,cO 30 (r9 .eql 28 29) 23,ia 31 23 30,aq 4 31] .ret)
theorem V0:cZ f147=some adb:=by kernel_rfl
def ade:aJ:=kS [bz 4 (kI 0)] (.seq (kS [aq 7 0,dC 8 7,aY 9 8 1,aY 10 9 0,bE 11 10,bP .neq 12 11 1] (kC 12 (kS [aq 13 0,bK 14 110 [.t 13,kI 6]] (kS [bz 4 (kI 0)] .ret)))) (kS [aq 16 1,aq 17 0,dC 18 17,aY 19 18 1,aY 20 19 1,bE 21 20,oM 22 (.eW (.t 16) [.t 21]),aq 15 22,iL 23 15 0,iL 24 15 1,aq 5 23,aq 6 24] (.seq (kS [aq 25 6,oM 26 (gl 25)] (kC 26 (kS [aq 27 0,bK 28 110 [.t 27,kI 7]] (kS [bz 4 (kI 0)] .ret)))) (kS [aq 29 0,bK 30 102 [.t 29]] (kS [aq 31 5,aq 4 31] .ret)))))
theorem V1:cZ f148=some ade:=by kernel_rfl
def adf:aJ:=kS [bz 2 (kI 0),bz 3 fv] (kS [aq 4 0,oM 5 (.idxs (.t 4) (kI 0)),oM 6 (.IJ .i64 (.t 5)),aq 7 0,oM 8 (.lens (.t 7)),bP .eql 9 8 1,aq 2 6,aq 3 9] .ret)
theorem V2:cZ f149=some adf:=by kernel_rfl
def adg:aJ:=kS [bz 2 (kI 0)] (.seq (kS [aq 5 0,dC 6 5,aY 7 6 1,aY 8 7 0,bE 9 8,bP .neq 10 9 2] (kC 10 (kR [aq 11 0,bK 12 110 [.t 11,kI 6]]))) (.seq (kS [aq 13 0,bK 14 109 [.t 13],oM 15 (gl 14)] (kC 15 (kS [bz 2 (kI 0)] .ret))) (kS [aq 17 0,dC 18 17,aY 19 18 1,aY 20 19 1,bE 21 20,bK 22 220 [.t 21],aq 16 22,iL 23 16 0,iL 24 16 1,aq 3 23,aq 4 24] (kS [aq 25 0,bK 26 102 [.t 25]] (kS [aq 27 3,aq 2 27] .ret)))))
theorem V3:cZ f150=some adg:=by kernel_rfl
def adh:aJ:=kS [oM 2 (.alloc [zI,zI,zI,zI,zI,zI,zI,zI,zI])] (kS [oM 6 (.build [zI,zI,zI,zI,zI,zI,zI,zI,zI] []),oM 3 (.alloc [zI,zI,zI,zI,zI,zI,zI,zI,zI]),b9 9 3 6] (.seq (.block 0 (kS [aq 15 0,bK 16 105 [.t 15,.c (.d (.str [115,116,111,114,101]))],aq 14 16] (.cond (.t 14) (kS [aq 17 0,bK 18 148 [.t 17,.c (.fn 149 [])],aY 19 3 0,⟨none,.store 1 (.t 19) (kI 1),none⟩,aY 20 3 2,b9 1 20 18] (kR [aq 21 0,bK 22 223 [.t 21],aY 23 3 3,b9 2 23 22])) (kS [aq 25 0,bK 26 105 [.t 25,.c (.d (.str [102,101,110,99,101]))],aq 24 26] (.cond (.t 24) (kR [aY 27 3 0,⟨none,.store 1 (.t 27) (kI 3),none⟩]) (kS [aq 29 0,bK 30 105 [.t 29,.c (.d (.str [115,107,105,112]))],aq 28 30] (.cond (.t 28) (kS [aY 31 3 0,⟨none,.store 1 (.t 31) (kI 6),none⟩] (.seq (kS [aq 33 0,dC 34 33,aY 35 34 1,aY 36 35 1,bE 37 36,bK 38 220 [.t 37],aq 32 38,iL 39 32 0,iL 40 32 1,aq 4 39,aq 5 40] (kS [aq 41 0,dC 42 41,aY 43 42 1,aY 44 43 0,bE 45 44,bP .eql 46 45 2,aq 47 46,ir 48 4 47,cO 49 (iX .lss 48 0) 47,ia 50 47 49] (kC 50 (kR [aq 51 0,bK 52 110 [.t 51,kI 6]])))) (kS [aq 53 0,bK 54 150 [.t 53],aY 55 3 8,b9 1 55 54] (kS [aq 56 0,bK 57 103 [.t 56,.c (.d (.str [105,102]))]] (kS [aq 58 0,bK 59 223 [.t 58],aY 60 3 3,b9 2 60 59] (kS [aq 61 0,bK 62 103 [.t 61,.c (.d (.str [61,61]))]] (kR [aq 63 0,bK 64 223 [.t 63],aY 65 3 6,b9 2 65 64]))))))) (kS [aq 7 0,bK 8 148 [.t 7,.c (.fn 224 [])],aY 9 3 1,b9 1 9 8] (kS [aq 10 0,bK 11 103 [.t 10,.c (.d (.str [61]))]] (kR [aq 12 0,bK 13 225 [.t 12,.t 3]])))))))))) (kS [cN 66 9 3,b9 9 2 66] .ret)))
theorem V4:cZ f151=some adh:=by kernel_rfl
def adi:aJ:=kS [oM 2 (.alloc [zI,zI,zI,zI])] (kS [oM 6 (.build [zI,zI,zI,zI] [(0,1,kI (-1))]),oM 3 (.alloc [zI,zI,zI,zI]),b9 4 3 6] (.seq (kS [aq 7 0,bK 8 109 [.t 7],aq 9 8,ir 10 0 9,cO 11 (wU 10) 9,jn 12 11 1 9,jn 13 12 0 9,lE 14 13 9,cO 15 (iX .eql 14 2) 9,ia 16 9 15] (.cond (.t 16) (kS [aq 18 0,dC 19 18,aY 20 19 1,aY 21 20 1,bE 22 21,bK 23 220 [.t 22],aq 17 23,iL 24 17 0,iL 25 17 1,aq 4 24,aq 5 25] (.seq (kS [aq 26 4,bP .lss 27 26 0,aq 28 27,kL 29 4 28,df 30 (iX .gtr 29 9) 28,iK 31 28 30] (kC 31 (kS [aq 32 0,bK 33 110 [.t 32,kI 7]] (kS [oM 34 (.build [zI,zI,zI,zI] []),b9 4 2 34] .ret)))) (kS [aq 35 4,aY 36 3 0,b9 1 36 35] (kS [aq 37 0,bK 38 102 [.t 37]] (kS [aq 39 0,bK 40 103 [.t 39,.c (.d (.str [58]))]] (kR [aq 41 0,bK 42 148 [.t 41,.c (.fn 224 [])],aY 43 3 1,b9 1 43 42])))))) (kR [aq 44 0,bK 45 148 [.t 44,.c (.fn 149 [])],aY 46 3 2,b9 1 46 45]))) (kS [aq 47 0,bK 48 103 [.t 47,.c (.d (.str [61]))]] (kS [aq 49 0,bK 50 150 [.t 49],aY 51 3 3,b9 1 51 50] (kS [cN 52 4 3,b9 4 2 52] .ret)))))
theorem V5:cZ f152=some adi:=by kernel_rfl
def adj:aJ:=kS [oM 2 (.alloc [zI,zI])] (.seq (kS [aq 3 0,bK 4 109 [.t 3],aq 5 4,ir 6 0 5,cO 7 (wU 6) 5,jn 8 7 1 5,jn 9 8 0 5,lE 10 9 5,cO 11 (iX .eql 10 2) 5,ia 12 5 11] (kC 12 (kS [aq 13 0,bK 14 150 [.t 13],oM 15 (.build [zI,zI] [(0,1,kI (-1)),(1,1,.t 14)]),b9 2 2 15] .ret))) (kS [aq 16 0,bK 17 148 [.t 16,.c (.fn 224 [])],oM 18 (.build [zI,zI] [(0,1,.t 17)]),b9 2 2 18] .ret))
theorem V6:cZ f223=some adj:=by kernel_rfl
def adk:aJ:=kS [bz 2 (kI 0),bz 3 fv] (.seq (kS [aq 4 0,oM 5 (.lens (.t 4)),bP .neq 6 5 2,aq 7 6,kL 8 0 7,df 9 (.idxs (.t 8) (kI 0)) 7,df 10 (.bin .neq (.t 9) (.c (.d (.int .u8 114)))) 7,iK 11 7 10,aq 12 11,kL 13 0 12,df 14 (.idxs (.t 13) (kI 1)) 12,df 15 (.bin .lss (.t 14) (.c (.d (.int .u8 48)))) 12,iK 16 12 15,aq 17 16,kL 18 0 17,df 19 (.idxs (.t 18) (kI 1)) 17,df 20 (.bin .gtr (.t 19) (.c (.d (.int .u8 51)))) 17,iK 21 17 20] (kC 21 (kS [bz 2 (kI 0),bz 3 fv] .ret))) (kS [aq 22 0,oM 23 (.idxs (.t 22) (kI 1)),oM 24 (.bin .and (.t 23) (.c (.d (.int .u8 3)))),oM 25 (.IJ .i64 (.t 24)),aq 2 25,bz 3 sg] .ret))
theorem V7:cZ f224=some adk:=by kernel_rfl
def adl:aJ:=.block 0 (kS [aq 51 0,bK 52 105 [.t 51,.c (.d (.str [108,111,97,100]))],aq 50 52] (.cond (.t 50) (kR [aq 53 1,aq 54 1,aq 55 0,bK 56 148 [.t 55,.c (.fn 149 [])],dC 57 53,aY 58 57 0,⟨none,.store 1 (.t 58) (kI 2),none⟩,dC 59 54,aY 60 59 2,b9 1 60 56]) (kS [aq 62 0,bK 63 105 [.t 62,.c (.d (.str [99,97,115]))],aq 61 63] (.cond (.t 61) (kS [aq 64 1,aq 65 1,aq 66 0,bK 67 148 [.t 66,.c (.fn 149 [])],dC 68 64,aY 69 68 0,⟨none,.store 1 (.t 69) (kI 4),none⟩,dC 70 65,aY 71 70 2,b9 1 71 67] (kS [aq 72 1,aq 73 0,bK 74 223 [.t 73],dC 75 72,aY 76 75 3,b9 2 76 74] (kR [aq 77 1,aq 78 0,bK 79 223 [.t 78],dC 80 77,aY 81 80 6,b9 2 81 79]))) (kS [aq 6 1,aq 7 1,aq 8 1,aq 9 0,bK 10 223 [.t 9],oM 11 (.build [zI,zI] [(0,1,kI (-1))]),dC 12 6,aY 13 12 0,⟨none,.store 1 (.t 13) (kI 5),none⟩,dC 14 7,aY 15 14 3,b9 2 15 10,dC 16 8,aY 17 16 6,b9 2 17 11] (.seq (kS [aq 18 0,bK 19 109 [.t 18],oM 20 (gl 19),aq 21 20,kL 22 0 21,df 23 (wU 22) 21,jY 24 23 1 21,jY 25 24 0 21,ma 26 25 21,df 27 (iX .neq 26 3) 21,iK 28 21 27] (kC 28 .ret)) (kS [aq 30 0,dC 31 30,aY 32 31 1,aY 33 32 1,bE 34 33,bK 35 273 [.t 34],aq 29 35,iL 36 29 0,iL 37 29 1,aq 4 36,aq 5 37] (kS [aq 38 5] (kC 38 (kS [aq 39 0,bK 40 102 [.t 39]] (kR [aq 41 1,aq 42 1,aq 43 4,aq 44 0,bK 45 223 [.t 44],dC 46 41,aY 47 46 5,b9 1 47 43,dC 48 42,aY 49 48 6,b9 2 49 45])))))))))))
theorem V8:cZ f225=some adl:=by kernel_rfl
def nx (ls:List Int) (a:Nat):Int:=match ls[a]?with
 |some n=>bits .and .i64 n 65535
 |none=>0
theorem adm (ls:List Int) (a:Nat):∃q:Nat,q<=65535/\nx ls a=(q:Int):=by
 unfold nx;cases ls[a]?with
 |none=>exact⟨0,by omega,rfl⟩
 |some n=>exact Ju n 65535 (by omega)
theorem wX {ls:List Int} {X:DV} (hX:de ls X) (a:Nat) (ha:a<9223372036854775807):
 bB aK 27 [.ptr 0 0,.bw [X]] [(0,[au a])] λr m'=>r=au (nx ls a)/\m'=[(0,[au (a+1:Nat)])]:=by
 have iw:=hX.sl;have fk:=iw.j6;have hw:=cY (i:=a) (by omega);have Tv:alv.wrap (((a+1:Nat):Int)-1)=(a:Int):=by rw[wrap_i64 (by omega) (by omega)];omega
 refine ay func27 aaF ntmps27 results27 rfl ?_;unfold ahV;refine J λK hK=>?_;simp only[go_sem];refine hK _ (J λK hK=>?_);simp only[go_sem,hw];apply hK;refine aa λK1 aT=>?_;refine J λK hK=>?_;simp only[go_sem,iw.len];apply hK;by_cases bn:a<ls.length
 ·have h1:¬(ls.length:Int)<((a+1:Nat):Int):=by omega
  obtain⟨cs,gL,cq,qU⟩:=iw.get a bn;have pU:(ls.map (DV.int .i64))[a]?=some (.int .i64 ls[a]):=by simp[bn]
  simp only[EB,pU,alV]at qU cq;have h2:(a:Int)<ls.length:=by omega
  refine aH ?_ (by simp[ev,ah];omega);apply ar;refine aT _ (J λK hK=>?_);simp only[go_sem,Tv,gL,h2,alj,alm,cq,qU];apply hK;apply an;simp only[go_sem];refine bO (au (nx ls a)) [(0,0)] [(0,[au (a+1:Nat)])] ?_ rfl rfl ?_ ⟨rfl,rfl⟩;·simp[bj,aP,bt,ah,nx,bn]
  ·simp[aL,aF,ai,aj,AV.aA]
 ·have h1:(ls.length:Int)<((a+1:Nat):Int):=by omega
  have h2:ls[a]?=none:=List.getElem?_eq_none (by omega);refine aM ?_ (by simp[ev,ah];omega);refine J λK hK=>?_;simp only[go_sem];apply hK;apply an;simp only[go_sem];refine bO (au (nx ls a)) [(0,0)] [(0,[au (a+1:Nat)])] ?_ rfl rfl ?_ ⟨rfl,rfl⟩;·simp[bj,aP,bt,ah,nx,h2]
  ·simp[aL,aF,ai,aj,AV.aA]
def qY (ls:List Int) (a:Nat):Nat:=(nx ls a).toNat
theorem V9 (ls:List Int) (a:Nat):nx ls a=(qY ls a:Int):=by
 obtain⟨q,_,h⟩:=adm ls a;simp[qY,h]
theorem Wa (ls:List Int) (a:Nat):qY ls a<=65535:=by
 obtain⟨q,hq,h⟩:=adm ls a;simp[qY,h,hq]
theorem jK {ls:List Int} {X:DV} (hX:de ls X) {a:Nat} (ha:a<9223372036854775807) {j:Nat} {dst:Option Nat} {r:List bC} {K:St->Prop} {t:Fr} {m:Mem} {n:Nat} (hm:ai m j=some [au a])
 (hk:bN aK r ⟨cG t dst (au (qY ls a)),ak m j [au (a+1:Nat)],n+1⟩ K):ej aK 27 [.ptr j 0,.bw [X]] dst r K t m n:=by
 refine bA [(0,j)] [.ptr 0 0,.bw [X]] [(0,[au a])] (nb:=j+1) (wX hX a ha) (by simp[bX]) (by simp[aj,AV.aA,af]) (by simp[bZ,cd,af]) ⟨by simp[af,hm,aj,AV.aA,bZ,cd],trivial⟩ (by simp[ai]) ?_;rintro r0 m' ⟨rfl,rfl⟩;rw[V9];have e:bx [(0,j)] [(0,[au a])] [(0,[au (a+1:Nat)])] n m=ak m j [au (a+1:Nat)]:=by
  simp[bx,bR,bU,ai,aj,AV.aA]
 rw[e];exact hk
theorem ED {ls:List Int} {X:DV} (hX:de ls X) {a:Nat} (ha:a<9223372036854775807) {j:Nat} {dst:Option Nat} {r:List bC} {acc:List nc} {ms:List Nat} {K:St->Prop} {t:Fr} {m:Mem} {n:Nat} (hm:ai m j=some [au a])
 (hk:gx aK r (⟨[j,n],[j]⟩::acc) ms ⟨cG t dst (au (qY ls a)),ak m j [au (a+1:Nat)],n+1⟩ K):nE aK 27 [.ptr j 0,.bw [X]] dst r acc ms K t m n:=by
 unfold nE Ag;refine Or.inl ⟨[(0,j)],[(0,[au a])],[.ptr 0 0,.bw [X]],_,_,j+1,by simp[bX],by simp[aj,AV.aA,af],by simp[bZ,cd,af],⟨by simp[af,hm,aj,AV.aA,bZ,cd],trivial⟩,λi id h=>?_,wX hX a ha,?_⟩
 ·simp only[af]at h;split at h;·rename_i e;subst e;rfl
  ·cases h
 rw[V9];have e:bx [(0,j)] [(0,[au a])] [(0,[au (a+1:Nat)])] n m=ak m j [au (a+1:Nat)]:=by
  simp[bx,bR,bU,ai,aj,AV.aA]
 rw[e];exact hk
def eO (aC x:Nat):Nat:=120+x/16%aC
def fo (x:Nat):nf:=if x/256%3=0 then⟨(x/1024%2:Nat),0⟩else⟨-1,(x/64%3:Nat)⟩
def lW (x:Nat):Nat:=x/2048%2
def gz (aC x:Nat):List Ins:=
 if x%12<4 then [⟨1,0,eO aC x,fo x,0,⟨0,0⟩,0⟩]
 else if x%12<8 then [⟨2,lW x,eO aC x,⟨0,0⟩,0,⟨0,0⟩,0⟩]
 else if x%12=8 then [⟨3,0,0,⟨0,0⟩,0,⟨0,0⟩,0⟩]
 else if x%12=9 then [⟨4,lW x,eO aC x,fo x,0,⟨-1,1⟩,0⟩]
 else if x%12=10 then [⟨5,lW x,0,fo x,6,⟨-1,1⟩,0⟩]
 else [⟨6,0,0,fo x,0,⟨-1,0⟩,1⟩,⟨1,0,eO aC x,⟨-1,2⟩,0,⟨0,0⟩,0⟩]
def ib (x:Nat):Nat:=if x%12=8\/x%12=10 then 0 else 1
def cr (ls:List Int) (aC most:Nat):Nat->Nat->Nat->List Ins->Nat×Nat×List Ins
 |0,a,mem,s=>(a,mem,s)
 |k+1,a,mem,s=>if mem<most then cr ls aC most k (a+1) (mem+ib (qY ls a)) (s++gz aC (qY ls a))else(a,mem,s)
def dq (ls:List Int) (aC most:Nat):Nat->Nat->Nat->List (List Ins)->Nat×List (List Ins)
 |0,a,_,ts=>(a,ts)
 |n+1,a,mem,ts=>
  let r:=cr ls aC most (qY ls a%3+1) (a+1) mem []
  dq ls aC most n r.1 r.2.1 (ts++[r.2.2])
def smT (X:DV) (n aC most i mem:Nat) (s:List Ins):Fr:=
 [(1,au most),(4,.ptr 0 0),(5,.ptr 1 0),(7,.fn 27 [.ptr 2 0,.bw [X]]),(8,au n),(9,au aC),(10,au mem),(11,au i),(12,.sl 4 9 0 s.length)]
def smM (Iv:DV) (ds:List DV) (i a:Nat) (s:List Ins):Mem:=
 [(0,[.d (.str []),.d .ct,.d .ct,au 0,.d .ct]),(1,[.d (.str [116]),.d Iv,.sl 3 1 0 i,au 0,.d .ct]),(2,[au a]),(3,ds.map .d),(4,(s.flatMap Ins.cells).map .d)]
def ZH (X Iv:DV) (ds:List DV) (n aC most i k a mem:Nat) (s:List Ins):St:=⟨(13,au k)::smT X n aC most i mem s,smM Iv ds i a s,5⟩
def smE (X Iv:DV) (ds:List DV) (n aC most i a mem:Nat) (s:List Ins):St:=⟨smT X n aC most i mem s,smM Iv ds i a s,5⟩
theorem Wb (s:List Ins):(s.flatMap Ins.cells).length=s.length*9:=by
 induction s with
 |nil=>rfl
 |cons a l ih=>rw[alO,aln,ih,alu,Nat.succ_mul,Nat.add_comm];rfl
set_option maxHeartbeats 4000000 in
theorem Nc {ls:List Int} {X Iv:DV} (hX:de ls X) {ds:List DV} {n aC most i:Nat} (El:0<aC) (hl:aC<=10) (Pp:most<=1000) {Q:Exit->St->Prop}:
 ∀(k a mem:Nat) (s:List Ins),k<=10->a+k<=1000000->mem+k<=1000000->s.length+2*k<=1000000->
  Q (.exit 2) (smE X Iv ds n aC most i (cr ls aC most k a mem s).1 (cr ls aC most k a mem s).2.1 (cr ls aC most k a mem s).2.2)->fP aK (aE []) 184 (.loop VQ) (ZH X Iv ds n aC most i k a mem s) Q:=by
 intro k a mem s hk ha hme hs hQ;refine sF (λS=>∃k' a' wY s',k'<=10/\a'+k'<=1000000/\wY+k'<=1000000/\s'.length+2*k'<=1000000/\cr ls aC most k' a' wY s'=cr ls aC most k a mem s/\S=ZH X Iv ds n aC most i k' a' wY s')
  (λS=>match ah S.t 13 with
   |.d (.int _ k)=>k.toNat
   |_=>0) ⟨k,a,mem,s,hk,ha,hme,hs,rfl,rfl⟩ ?_
 rintro S ⟨k,a,mem,s,hk,ha,hme,hs,Nd,rfl⟩;rw[<-Nd]at hQ;unfold VQ ZH smT smM;have stop:∀(t:Fr),ah t 57=.d (.bool false)->ah t 1=au most->ah t 4=.ptr 0 0->ah t 5=.ptr 1 0->ah t 7=.fn 27 [.ptr 2 0,.bw [X]]->ah t 8=au n->ah t 9=au aC->
  ah t 10=au mem->ah t 11=au i->ah t 12=.sl 4 9 0 s.length->cr ls aC most k a mem s=(a,mem,s)->∀Q',(∀S,Q (.exit 2) S->Q' (.exit 2) S)->fP aK (aE []) 184 (.cond (.t 57) .skip (.exit 2)) ⟨t,smM Iv ds i a s,5⟩ Q':=by
  intro t h57 h1 h4 h5 h7 h8 h9 ng pO qD he Q' hQ';refine aH ?_ (by simp[ev,ah,h57]);rw[he]at hQ;refine aw (S':=smE X Iv ds n aC most i a mem s) (aB.cj [(0,0),(1,1),(2,2),(3,3),(4,4)] ⟨?_,?_,rfl,?_⟩) (aW (hQ' _ hQ));·simp[smE,smT,aV,AV.aA,aj,af,h1,h4,h5,h7,h8,h9,ng,pO,qD]
  ·simp[smE,smM,aL,aF,ai,aj,AV.aA,af]
  ·simp[nV]
 refine aa λK1 aT=>?_;cases k with
 |zero=>
  have h0:¬(0:Int)<((0:Nat):Int):=by omega
  refine J λK hK=>?_;simp only[go_sem,h0];apply hK;exact stop _ rfl rfl rfl rfl rfl rfl rfl rfl rfl rfl rfl _ λ_ h=>h
 |succ k=>
  have h0:(0:Int)<((k+1:Nat):Int):=by omega
  by_cases hmm:mem<most
  ·have afc:(mem:Int)<most:=by omega
   refine J λK hK=>?_;simp only[go_sem,h0,afc];apply hK;refine aM ?_;apply ar;apply aT;refine aa λK1 aT=>?_;apply ax;refine J λK hK=>?_;simp only[go_sem];refine⟨rfl,jK hX (by omega) rfl ?_⟩;simp only[go_sem];apply hK;have hx:=Wa ls a;generalize hxe:qY ls a=x at hx;have aj6:¬(aC:Int)=0:=by omega
   have agx:x/16%aC<10:=Nat.lt_of_lt_of_le (Nat.mod_lt _ El) hl;have hwl:alv.wrap (120+((x/16%aC:Nat):Int))=(eO aC x:Int):=by rw[wrap_i64 (by omega) (by omega)];simp[eO]
   refine J λK hK=>?_;simp only[go_sem,ahA x,aj6,Jv,hwl];refine hK _ (J λK hK=>?_);simp only[go_sem,aj2 x,tm3];apply hK;refine aa λK2 eX=>?_;have Wc:∀t:Fr,ah t 1=au most->ah t 4=.ptr 0 0->ah t 5=.ptr 1 0->ah t 7=.fn 27 [.ptr 2 0,.bw [X]]->ah t 8=au n->ah t 9=au aC->
    ah t 10=au mem->ah t 11=au i->ah t 12=.sl 4 9 0 s.length->ah t 13=au (k+1:Nat)->ah t 14=au x->ah t 15=au (eO aC x)->ah t 16=.ptr 6 0->
    K2 ⟨t,[(0,[.d (.str []),.d .ct,.d .ct,au 0,.d .ct]),(1,[.d (.str [116]),.d Iv,.sl 3 1 0 i,au 0,.d .ct]),(2,[au (a+1:Nat)]),(3,ds.map .d),(4,(s.flatMap Ins.cells).map .d),(6,[au ((fo x).ez),au ((fo x).value)])],7⟩:=by
    intro t h1 h4 h5 h7 h8 h9 ng pO qD rR uL we uM;have back:∀(t:Fr) (is:List Ins) (wY:Nat) (c7:List AV),ah t 1=au most->ah t 4=.ptr 0 0->ah t 5=.ptr 1 0->ah t 7=.fn 27 [.ptr 2 0,.bw [X]]->ah t 8=au n->ah t 9=au aC->
     ah t 10=au wY->ah t 11=au i->ah t 12=.sl 8 9 0 (s.length+is.length)->ah t 13=au (k+1:Nat)->gz aC x=is->is.length<=2->wY=mem+ib x->
     K1 ⟨t,[(0,[.d (.str []),.d .ct,.d .ct,au 0,.d .ct]),(1,[.d (.str [116]),.d Iv,.sl 3 1 0 i,au 0,.d .ct]),(2,[au (a+1:Nat)]),(3,ds.map .d),(6,[au ((fo x).ez),au ((fo x).value)]),(7,c7),
      (8,(s.flatMap Ins.cells).map .d++(is.flatMap Ins.cells).map .d)],9⟩:=by
     intro t is wY c7 h1 h4 h5 h7 h8 h9 ng pO qD rR Ui po Cb;have hwk:alv.wrap (((k+1:Nat):Int)-1)=(k:Int):=by rw[wrap_i64 (by omega) (by omega)];omega
     apply aT;refine ag rfl ?_;simp only[go_sem,rR,hwk];have ahX:cr ls aC most k (a+1) wY (s++is)=cr ls aC most (k+1) a mem s:=by
      simp only[cr,hmm,if_true,hxe,Ui,Cb]
     have ZI:ib x<=1:=by unfold ib;split<;>omega
     refine⟨ZH X Iv ds n aC most i k (a+1) wY (s++is),aB.cj [(0,0),(1,1),(2,2),(3,3),(8,4)] ⟨?_,?_,rfl,rfl⟩,⟨k,a+1,wY,s++is,by omega,by omega,by omega,by simp;omega,ahX.trans Nd,rfl⟩,?_⟩;·simp[ZH,smT,aV,ah,AV.aA,aj,af,h1,h4,h5,h7,h8,h9,ng,pO,qD]
     ·simp[ZH,smM,aL,aF,ai,aj,AV.aA,af,ae]
     ·simp only[ZH,ah,↓reduceIte,Nat.reduceEqDiff,alj];omega
    have uN:alv.wrap ((mem:Int)+1)=((mem+1:Nat):Int):=by rw[wrap_i64 (by omega) (by omega)];rfl
    have jR:(s.length+1)*72<=140737488351232:=by omega
    have iq:(s.length+2)*72<=140737488351232:=by omega
    have po:=Wb s;refine eX _ (J λK hK=>?_);simp only[go_sem,uL,ae3 x,ae4];refine hK _ (J λK hK=>?_);simp only[go_sem,uL,aj3 x];apply hK;apply ax;have aj7:x%12=0\/x%12=1\/x%12=2\/x%12=3\/x%12=4\/x%12=5\/x%12=6\/x%12=7\/x%12=8\/x%12=9\/x%12=10\/x%12=11:=by omega
    rcases aj7 with h|h|h|h|h|h|h|h|h|h|h|h
    iterate 4
     ·have hc:=congrArg (Nat.cast:Nat->Int) h;simp only[Int.cast_ofNat_Int]at hc
      repeat(first
       |(refine J λK hK=>?_;simp only[go_sem,h1,h4,h5,h7,h8,h9,ng,pO,qD,rR,uL,we,uM,hc,uN,jR,iq,po,aln];apply hK;clear hK)
       |(refine aa λK hK=>?_)
       |(refine cm true ?_ (λ_=>?_) nofun;focus(simp[ev,ah,h1,h4,h5,h7,h8,h9,ng,pO,qD,rR,uL,we,uM,hc,uN,jR,iq,po,aln];done))
       |(refine cm false ?_ nofun (λ_=>?_);focus(simp[ev,ah,h1,h4,h5,h7,h8,h9,ng,pO,qD,rR,uL,we,uM,hc,uN,jR,iq,po,aln];done))
       |(apply ax)
       |(apply ar;apply hK;clear hK)
       |(refine ag rfl ?_;simp only[go_sem,h1,h4,h5,h7,h8,h9,ng,pO,qD,rR,uL,we,uM,hc,uN,jR,iq,po,aln];apply hK;clear hK))
      refine ag rfl ?_;simp only[go_sem,h1,h4,h5,h7,h8,h9,ng,pO,qD,rR,uL,we,uM,hc,uN,jR,iq,po,aln];exact back _ [⟨1,0,eO aC x,fo x,0,⟨0,0⟩,0⟩] (mem+1) _ h1 h4 h5 h7 h8 h9 rfl pO rfl rR (by simp[gz,h]) (by simp) (by simp[ib,h])
    iterate 4
     ·have hc:=congrArg (Nat.cast:Nat->Int) h;simp only[Int.cast_ofNat_Int]at hc
      repeat(first
       |(refine J λK hK=>?_;simp only[go_sem,h1,h4,h5,h7,h8,h9,ng,pO,qD,rR,uL,we,uM,hc,uN,jR,iq,po,aln];apply hK;clear hK)
       |(refine aa λK hK=>?_)
       |(refine cm true ?_ (λ_=>?_) nofun;focus(simp[ev,ah,h1,h4,h5,h7,h8,h9,ng,pO,qD,rR,uL,we,uM,hc,uN,jR,iq,po,aln];done))
       |(refine cm false ?_ nofun (λ_=>?_);focus(simp[ev,ah,h1,h4,h5,h7,h8,h9,ng,pO,qD,rR,uL,we,uM,hc,uN,jR,iq,po,aln];done))
       |(apply ax)
       |(apply ar;apply hK;clear hK)
       |(refine ag rfl ?_;simp only[go_sem,h1,h4,h5,h7,h8,h9,ng,pO,qD,rR,uL,we,uM,hc,uN,jR,iq,po,aln];apply hK;clear hK))
      refine ag rfl ?_;simp only[go_sem,h1,h4,h5,h7,h8,h9,ng,pO,qD,rR,uL,we,uM,hc,uN,jR,iq,po,aln];exact back _ [⟨2,lW x,eO aC x,⟨0,0⟩,0,⟨0,0⟩,0⟩] (mem+1) _ h1 h4 h5 h7 h8 h9 rfl pO rfl rR (by simp[gz,h]) (by simp) (by simp[ib,h])
    ·have hc:((x%12:Nat):Int)=8:=by omega
     repeat(first
      |(refine J λK hK=>?_;simp only[go_sem,h1,h4,h5,h7,h8,h9,ng,pO,qD,rR,uL,we,uM,hc,uN,jR,iq,po,aln];apply hK;clear hK)
      |(refine aa λK hK=>?_)
      |(refine cm true ?_ (λ_=>?_) nofun;focus(simp[ev,ah,h1,h4,h5,h7,h8,h9,ng,pO,qD,rR,uL,we,uM,hc,uN,jR,iq,po,aln];done))
      |(refine cm false ?_ nofun (λ_=>?_);focus(simp[ev,ah,h1,h4,h5,h7,h8,h9,ng,pO,qD,rR,uL,we,uM,hc,uN,jR,iq,po,aln];done))
      |(apply ax)
      |(apply ar;apply hK;clear hK)
      |(refine ag rfl ?_;simp only[go_sem,h1,h4,h5,h7,h8,h9,ng,pO,qD,rR,uL,we,uM,hc,uN,jR,iq,po,aln];apply hK;clear hK))
     refine ag rfl ?_;simp only[go_sem,h1,h4,h5,h7,h8,h9,ng,pO,qD,rR,uL,we,uM,hc,uN,jR,iq,po,aln];exact back _ [⟨3,0,0,⟨0,0⟩,0,⟨0,0⟩,0⟩] mem _ h1 h4 h5 h7 h8 h9 ng pO rfl rR (by simp[gz,h]) (by simp) (by simp[ib,h])
    ·have hc:((x%12:Nat):Int)=9:=by omega
     repeat(first
      |(refine J λK hK=>?_;simp only[go_sem,h1,h4,h5,h7,h8,h9,ng,pO,qD,rR,uL,we,uM,hc,uN,jR,iq,po,aln];apply hK;clear hK)
      |(refine aa λK hK=>?_)
      |(refine cm true ?_ (λ_=>?_) nofun;focus(simp[ev,ah,h1,h4,h5,h7,h8,h9,ng,pO,qD,rR,uL,we,uM,hc,uN,jR,iq,po,aln];done))
      |(refine cm false ?_ nofun (λ_=>?_);focus(simp[ev,ah,h1,h4,h5,h7,h8,h9,ng,pO,qD,rR,uL,we,uM,hc,uN,jR,iq,po,aln];done))
      |(apply ax)
      |(apply ar;apply hK;clear hK)
      |(refine ag rfl ?_;simp only[go_sem,h1,h4,h5,h7,h8,h9,ng,pO,qD,rR,uL,we,uM,hc,uN,jR,iq,po,aln];apply hK;clear hK))
     refine ag rfl ?_;simp only[go_sem,h1,h4,h5,h7,h8,h9,ng,pO,qD,rR,uL,we,uM,hc,uN,jR,iq,po,aln];exact back _ [⟨4,lW x,eO aC x,fo x,0,⟨-1,1⟩,0⟩] (mem+1) _ h1 h4 h5 h7 h8 h9 rfl pO rfl rR (by simp[gz,h]) (by simp) (by simp[ib,h])
    ·have hc:((x%12:Nat):Int)=10:=by omega
     repeat(first
      |(refine J λK hK=>?_;simp only[go_sem,h1,h4,h5,h7,h8,h9,ng,pO,qD,rR,uL,we,uM,hc,uN,jR,iq,po,aln];apply hK;clear hK)
      |(refine aa λK hK=>?_)
      |(refine cm true ?_ (λ_=>?_) nofun;focus(simp[ev,ah,h1,h4,h5,h7,h8,h9,ng,pO,qD,rR,uL,we,uM,hc,uN,jR,iq,po,aln];done))
      |(refine cm false ?_ nofun (λ_=>?_);focus(simp[ev,ah,h1,h4,h5,h7,h8,h9,ng,pO,qD,rR,uL,we,uM,hc,uN,jR,iq,po,aln];done))
      |(apply ax)
      |(apply ar;apply hK;clear hK)
      |(refine ag rfl ?_;simp only[go_sem,h1,h4,h5,h7,h8,h9,ng,pO,qD,rR,uL,we,uM,hc,uN,jR,iq,po,aln];apply hK;clear hK))
     refine ag rfl ?_;simp only[go_sem,h1,h4,h5,h7,h8,h9,ng,pO,qD,rR,uL,we,uM,hc,uN,jR,iq,po,aln];exact back _ [⟨5,lW x,0,fo x,6,⟨-1,1⟩,0⟩] mem _ h1 h4 h5 h7 h8 h9 ng pO rfl rR (by simp[gz,h]) (by simp) (by simp[ib,h])
    ·have hc:((x%12:Nat):Int)=11:=by omega
     repeat(first
      |(refine J λK hK=>?_;simp only[go_sem,h1,h4,h5,h7,h8,h9,ng,pO,qD,rR,uL,we,uM,hc,uN,jR,iq,po,aln];apply hK;clear hK)
      |(refine aa λK hK=>?_)
      |(refine cm true ?_ (λ_=>?_) nofun;focus(simp[ev,ah,h1,h4,h5,h7,h8,h9,ng,pO,qD,rR,uL,we,uM,hc,uN,jR,iq,po,aln];done))
      |(refine cm false ?_ nofun (λ_=>?_);focus(simp[ev,ah,h1,h4,h5,h7,h8,h9,ng,pO,qD,rR,uL,we,uM,hc,uN,jR,iq,po,aln];done))
      |(apply ax)
      |(apply ar;apply hK;clear hK)
      |(refine ag rfl ?_;simp only[go_sem,h1,h4,h5,h7,h8,h9,ng,pO,qD,rR,uL,we,uM,hc,uN,jR,iq,po,aln];apply hK;clear hK))
     refine ag rfl ?_;simp only[go_sem,h1,h4,h5,h7,h8,h9,ng,pO,qD,rR,uL,we,uM,hc,uN,jR,iq,po,aln];exact back _ [⟨6,0,0,fo x,0,⟨-1,0⟩,1⟩,⟨1,0,eO aC x,⟨-1,2⟩,0,⟨0,0⟩,0⟩] (mem+1) _ h1 h4 h5 h7 h8 h9 rfl pO rfl rR (by simp[gz,h]) (by simp) (by simp[ib,h])
   refine J λK hK=>?_;simp only[go_sem,ahC x,tm3];apply hK;by_cases hv:x/256%3=0
   ·have Ek:((x/256%3:Nat):Int)=0:=by omega
    refine aM ?_ (by simp[ev,ah,hv]);refine ag rfl ?_;simp only[go_sem,ae2 x,ae4];have:=Wc;simp only[fo,hv,if_true]at this;exact this _ rfl rfl rfl rfl rfl rfl rfl rfl rfl rfl rfl rfl rfl
   ·refine aH ?_ (by simp[ev,ah];omega);apply ar;have:=Wc;simp only[fo,hv,if_false]at this;exact this _ rfl rfl rfl rfl rfl rfl rfl rfl rfl rfl rfl rfl rfl
  ·have afc:¬(mem:Int)<most:=by omega
   refine J λK hK=>?_;simp only[go_sem,h0,afc];apply hK;exact stop _ rfl rfl rfl rfl rfl rfl rfl rfl rfl rfl (by simp[cr,hmm]) _ λ_ h=>h
theorem Hb (aC x:Nat):(gz aC x).length<=2:=by
 unfold gz
 repeat' split
 all_goals simp
theorem JV (x:Nat):ib x<=1:=by unfold ib;split<;>omega
theorem kX (ls:List Int) (aC most:Nat):∀(k a mem:Nat) (s:List Ins),(cr ls aC most k a mem s).1<=a+k/\(cr ls aC most k a mem s).2.1<=mem+k/\(cr ls aC most k a mem s).2.2.length<=s.length+2*k
 |0,a,mem,s=>by simp[cr]
 |k+1,a,mem,s=>by
  simp only[cr];split
  ·have h:=kX ls aC most k (a+1) (mem+ib (qY ls a)) (s++gz aC (qY ls a));have h1:=Hb aC (qY ls a);have h2:=JV (qY ls a);simp only[aln]at h;omega
  ·simp only;omega
def II (X Iv:DV) (ds:List DV) (n aC most i a mem:Nat):St:=
 ⟨[(1,au most),(4,.ptr 0 0),(5,.ptr 1 0),(7,.fn 27 [.ptr 2 0,.bw [X]]),(8,au n),(9,au aC),(10,au mem),(11,au i)],
   [(0,[.d (.str []),.d .ct,.d .ct,au 0,.d .ct]),(1,[.d (.str [116]),.d Iv,.sl 3 1 0 i,au 0,.d .ct]),(2,[au a]),(3,ds.map .d)],4⟩
set_option maxHeartbeats 4000000 in
theorem EE {ls:List Int} {X Iv:DV} (hX:de ls X) {n aC most:Nat} (hn:n<=3) (El:0<aC) (hl:aC<=10) (Pp:most<=1000) {Q:Exit->St->Prop} {a0:Nat} (ha0:a0<=10)
 (hQ:∀ds,nM Ins.cells (dq ls aC most n a0 0 []).2 ds->ds.length=n->(dq ls aC most n a0 0 []).1<=100->∀mem,Q (.exit 0) (II X Iv ds n aC most n (dq ls aC most n a0 0 []).1 mem)):
 fP aK (aE []) 184 (.loop VR) (II X Iv [] n aC most 0 a0 0) Q:=by
 refine sF (λS=>∃i a mem ts ds,nM Ins.cells ts ds/\ts.length=i/\i<=n/\a<=10+10*i/\mem<=10*i/\dq ls aC most (n-i) a mem ts=dq ls aC most n a0 0 []/\S=II X Iv ds n aC most i a mem)
  (λS=>match ah S.t 11 with
   |.d (.int _ i)=>n-i.toNat
   |_=>0) ⟨0,a0,0,[],[],trivial,rfl,alZ _,by omega,by omega,rfl,rfl⟩ ?_
 rintro S ⟨i,a,mem,ts,ds,yH,Pq,hi,ha,hme,Nd,rfl⟩;have uK:ds.length=i:=by rw[yH.length,Pq]
 unfold VR;refine aa λK1 aT=>?_;by_cases bn:i<n
 ·have aQ:(i:Int)<n:=by omega
  unfold II;refine J λK hK=>?_;simp only[go_sem,aQ];apply hK;refine aM ?_;apply ar;apply aT;refine aa λK1 aT=>?_;apply ax;refine J λK hK=>?_;simp only[go_sem];apply hK;refine aa λK2 eX=>?_;refine J λK hK=>?_;simp only[go_sem];refine⟨rfl,jK hX (by omega) rfl ?_⟩;have hk4:qY ls a%3+1<=10:=by omega
  have hw3:alv.wrap (((qY ls a%3:Nat):Int)+1)=((qY ls a%3+1:Nat):Int):=by rw[wrap_i64 (by omega) (by omega)];rfl
  simp only[go_sem,tm3,hw3];apply hK;apply ax;refine aw (S':=⟨[(12,.d .ct),(13,au (qY ls a%3+1:Nat)),(1,au most),(4,.ptr 0 0),(5,.ptr 1 0),(7,.fn 27 [.ptr 2 0,.bw [X]]),(8,au n),(9,au aC),(10,au mem),(11,au i)],
   [(0,[.d (.str []),.d .ct,.d .ct,au 0,.d .ct]),(1,[.d (.str [116]),.d Iv,.sl 3 1 0 i,au 0,.d .ct]),(2,[au (a+1:Nat)]),(3,ds.map .d)],4⟩) (aB.cj [(0,0),(1,1),(2,2),(3,3)] ⟨?_,?_,rfl,rfl⟩) ?_
  ·simp[aV,ah,AV.aA,aj,af]
  ·simp[aL,aF,ai,aj,AV.aA,af]
  refine aw (aB.nil 12 9 rfl rfl) ?_;refine aw (S':=ZH X Iv ds n aC most i (qY ls a%3+1) (a+1) mem []) (aB.cj [(0,0),(1,1),(2,2),(3,3),(4,4)] ⟨?_,?_,rfl,rfl⟩) ?_;·simp[ZH,smT,aV,ah,AV.aA,aj,af]
  ·simp[ZH,smM,aL,aF,ai,ak,aj,AV.aA,af]
  refine Nc hX El hl Pp _ _ _ _ hk4 (by omega) (by omega) (by simp;omega) ?_;have hb:=kX ls aC most (qY ls a%3+1) (a+1) mem [];have adn:dq ls aC most (n-i) a mem ts=dq ls aC most (n-(i+1)) (cr ls aC most (qY ls a%3+1) (a+1) mem []).1 (cr ls aC most (qY ls a%3+1) (a+1) mem []).2.1 (ts++[(cr ls aC most (qY ls a%3+1) (a+1) mem []).2.2]):=by
   rw[show n-i=(n-(i+1))+1 by omega];rfl
  generalize cr ls aC most (qY ls a%3+1) (a+1) mem []=r at hb adn;obtain⟨a',wY,s'⟩:=r;simp only[alB,alo]at hb;simp only[go_sem];apply eX;have pq:(s'.flatMap Ins.cells).take (s'.length*9)=s'.flatMap Ins.cells:=alx (by rw[Wb];omega);refine aw (aB.jl (S':=⟨[(12,.d (.sl s'.length (s'.flatMap Ins.cells))),(1,au most),(4,.ptr 0 0),(5,.ptr 1 0),(7,.fn 27 [.ptr 2 0,.bw [X]]),(8,au n),(9,au aC),(10,au wY),(11,au i)],
   [(0,[.d (.str []),.d .ct,.d .ct,au 0,.d .ct]),(1,[.d (.str [116]),.d Iv,.sl 3 1 0 i,au 0,.d .ct]),(2,[au a']),(3,ds.map .d)],4⟩) [(0,0),(1,1),(2,2),(3,3)] [(4,s'.flatMap Ins.cells)] ⟨?_,?_,rfl,rfl,?_⟩) ?_
  ·simp[smE,smT,fb,ah,AV.cv,db,bI,af,pq]
  ·simp[smE,smM,fx,aF,bI,ai,db,AV.cv,af,cD]
  ·simp[smE,smM,bG,ai,cD]
  have afd:(i+1)*24<=140737488351232:=by omega
  refine ag rfl ?_;simp only[go_sem,aln,uK,afd];apply aT;have Rm:alv.wrap ((i:Int)+1)=((i+1:Nat):Int):=by rw[wrap_i64 (by omega) (by omega)];rfl
  refine ag rfl ?_;simp only[go_sem,Rm];refine⟨II X Iv (ds++[.sl s'.length (s'.flatMap Ins.cells)]) n aC most (i+1) a' wY,aB.cj [(0,0),(1,1),(2,2),(5,3)] ⟨?_,?_,rfl,rfl⟩,⟨i+1,a',wY,ts++[s'],_,yH.append ⟨by omega,.inr rfl⟩,by simp[Pq],by omega,by omega,by omega,adn.symm.trans Nd,rfl⟩,?_⟩;·simp[II,aV,ah,AV.aA,aj,af]
  ·simp[II,aL,aF,ai,aj,AV.aA,af,ae]
  ·simp only[II,ah,↓reduceIte,Nat.reduceEqDiff,alj];omega
 ·have aQ:¬(i:Int)<n:=by omega
  have du:i=n:=by omega
  unfold II;refine J λK hK=>?_;simp only[go_sem,aQ];apply hK;refine aH ?_;subst du;refine aw (S':=II X Iv ds i aC most i a mem) (aB.cj [(0,0),(1,1),(2,2),(3,3)] ⟨?_,?_,rfl,rfl⟩) (aW ?_);·simp[II,aV,ah,AV.aA,aj,af]
  ·simp[II,aL,aF,ai,aj,AV.aA,af]
  ·rw[Nat.sub_self]at Nd;simp only[dq]at Nd;simp only[go_sem];rw[<-Nd]at hQ;exact hQ ds yH uK (by simp only;omega) mem
def iD (ls:List Int):Nat:=qY ls 0%2+2
def gr (ls:List Int):Nat:=qY ls 1%2+2
def mw (ls:List Int):List Init:=if qY ls 2%4=0 then [⟨120,(qY ls 3%3:Nat)⟩]else []
def qZ (ls:List Int):Nat:=if qY ls 2%4=0 then 4 else 3
def tS (ls:List Int) (most:Nat):Nat×List (List Ins):=dq ls (gr ls) most (iD ls) (qZ ls) 0 []
def ve (ls:List Int) (most:Nat):Nat:=qY ls (tS ls most).1
def ic (x:Nat):List (List Atom):=if x%3=0 then [[⟨0,(x/8%2:Nat),0,(x/16%2:Nat)⟩],[⟨-1,0,120,(x/32%3:Nat)⟩,⟨1,0,0,(x/128%2:Nat)⟩]]else []
def my (x:Nat):Int:=if x%3=0 then((x/3%2+1:Nat):Int)else 0
def small (ls:List Int) (most:Nat):Test:=⟨[116],mw ls,(tS ls most).2,my (ve ls most),ic (ve ls most)⟩
def smL (X Iv:DV) (ds:List DV) (n a:Nat):St:=
 ⟨[(4,.ptr 0 0),(5,.ptr 1 0),(7,.fn 27 [.ptr 2 0,.bw [X]])],
   [(0,[.d (.str []),.d .ct,.d .ct,au 0,.d .ct]),(1,[.d (.str [116]),.d Iv,.d (.sl n ds),au 0,.d .ct]),(2,[au a])],3⟩
def CH (Iv:DV) (ds:List DV) (n:Nat) (kind:Int) (Av:DV):St:=
 ⟨[(4,.ptr 0 0),(5,.ptr 1 0)],[(0,[.d (.str []),.d .ct,.d .ct,au 0,.d .ct]),(1,[.d (.str [116]),.d Iv,.d (.sl n ds),au kind,.d Av])],2⟩
theorem RA {Iv Av:DV} {ds:List DV} {n:Nat} {kind:Int} {Q:AV->Mem->Prop} (hQ:Q (.agg [.d (.str [116]),.d Iv,.d (.sl n ds),au kind,.d Av]) []):
 fP aK (aE []) 184 (.seq (.region false [⟨(some 183),.load (some 5) (.t 5),none⟩,⟨none,.store 5 (.t 4) (.t 183),none⟩] []) .ret) (CH Iv ds n kind Av) (nC aK #[.cell 4 30] (aE []) Q):=by
 have qU:mV aK 30=some (some 5):=by kernel_rfl
 unfold CH;refine J λK hK=>?_;simp-implicitDefEqProofs only[go_sem];apply hK;apply an;simp only[go_sem];refine bO (.agg [.d (.str [116]),.d Iv,.d (.sl n ds),au kind,.d Av]) [] [] ?_ rfl rfl trivial ?_;·simp[bj,aP,bt,ah,qU,ai,aN]
 ·simpa[AV.aA,aj]using hQ
def Wd:Nat->aJ->aJ
 |0,c=>c
 |n+1,.seq _ b=>Wd n b
 |_,c=>c
theorem Nf {ls:List Int} {X:DV} (hX:de ls X) {Iv:DV} {ds:List DV} {n a x:Nat} (ha:a<=1000) (hxe:qY ls a=x) (uK:ds.length=n) {Q:AV->Mem->Prop}
 (hQ:∀Av,cQ Atom.cells (ic x) Av->Q (.agg [.d (.str [116]),.d Iv,.d (.sl n ds),au (my x),.d Av]) []):
 fP aK (aE []) 184 (Wd 9 ac8) (smL X Iv ds n a) (nC aK #[.cell 4 30] (aE []) Q):=by
 have hx:=Wa ls a;rw[hxe]at hx;unfold ac8 smL;simp only[Wd];refine aa λK1 aT=>?_;refine J λK hK=>?_;simp-implicitDefEqProofs only[go_sem];refine⟨rfl,jK (a:=a) hX (by omega) rfl ?_⟩;simp-implicitDefEqProofs only[go_sem,hxe];apply hK;have fin:∀(S:St) (Av:DV),aB (aE []) 184 S (CH Iv ds n (my x) Av)->cQ Atom.cells (ic x) Av->K1 S:=by
  intro S Av hS hAv;apply aT;exact aw hS (RA (hQ Av hAv))
 refine J λK hK=>?_;simp-implicitDefEqProofs only[go_sem,tm3];apply hK;have pq:ds.take n=ds:=alx (by omega);by_cases hz:x%3=0
 ·refine aM ?_ (by simp[ev,ah,hz]);have hwk:alv.wrap (((x/3%2:Nat):Int)+1)=((x/3%2+1:Nat):Int):=by rw[wrap_i64 (by omega) (by omega)];rfl
  have hw3:alv.wrap ((x/3:Nat):Int)=((x/3:Nat):Int):=Go.Jq.wrap_small (by omega);refine ag rfl ?_;simp-implicitDefEqProofs only[go_sem,td3,hw3,tm2,tm3,hwk,fd8,ahA,aj1,ahB,ae4];refine fin _ (.sl 2 [.sl 1 (Atom.cells ⟨0,(x/8%2:Nat),0,(x/16%2:Nat)⟩),.sl 2 (Atom.cells ⟨-1,0,120,(x/32%3:Nat)⟩++Atom.cells ⟨1,0,0,(x/128%2:Nat)⟩)])
   (aB.jl [(0,0),(1,1)] [(4,Atom.cells ⟨0,(x/8%2:Nat),0,(x/16%2:Nat)⟩),(5,Atom.cells ⟨-1,0,120,(x/32%3:Nat)⟩++Atom.cells ⟨1,0,0,(x/128%2:Nat)⟩),
    (6,[.sl 1 (Atom.cells ⟨0,(x/8%2:Nat),0,(x/16%2:Nat)⟩),.sl 2 (Atom.cells ⟨-1,0,120,(x/32%3:Nat)⟩++Atom.cells ⟨1,0,0,(x/128%2:Nat)⟩)])] ⟨?_,?_,rfl,rfl,?_⟩) ?_
  ·simp[CH,fb,ah,AV.cv,bI,af]
  ·simp[CH,fx,aF,bI,ai,db,AV.cv,my,hz]
  ·simp[bG,bI,ai,db,AV.cv,Atom.cells]
  ·simp only[ic,hz,if_true];refine⟨[.sl 1 (Atom.cells ⟨0,(x/8%2:Nat),0,(x/16%2:Nat)⟩),.sl 2 (Atom.cells ⟨-1,0,120,(x/32%3:Nat)⟩++Atom.cells ⟨1,0,0,(x/128%2:Nat)⟩)],⟨by simp,.inr ?_⟩,?_⟩;·rfl
   ·exact⟨⟨by simp,.inr rfl⟩,⟨by simp,.inr rfl⟩,trivial⟩
 ·refine aH ?_ (by simp[ev,ah];omega);apply ar;refine fin _ .ct (aB.cj [(0,0),(1,1)] ⟨?_,?_,rfl,rfl⟩) ?_;·simp[CH,aV,ah,AV.aA,af]
  ·simp[CH,aL,aF,ai,aj,AV.aA,my,hz]
  ·simp only[ic,hz,if_false];exact⟨[],⟨by decide,.inl ⟨rfl,rfl⟩⟩,trivial⟩
set_option maxHeartbeats 4000000 in
theorem JW {ls:List Int} {X:DV} (hX:de ls X) {most:Nat} (Pp:most<=1000):
 bB aK 8 [.d X,au most] [] λr m'=>(∃cs,r=.agg (cs.map .d)/\lU (small ls most) cs)/\m'=[]:=by
 refine ay func8 afb ntmps8 results8 rfl ?_;unfold ac8;refine J λK hK=>?_;simp only[go_sem];refine hK _ (J λK hK=>?_);simp only[go_sem];refine hK _ (J λK hK=>?_);simp only[go_sem];refine hK _ (J λK hK=>?_);simp only[go_sem];apply hK;refine aw (aB.jl (S':=⟨[(1,au most),(4,.ptr 0 0),(5,.ptr 1 0),(7,.fn 27 [.ptr 2 0,.bw [X]])],
  [(0,[.d (.str []),.d .ct,.d .ct,au 0,.d .ct]),(1,[.d (.str [116]),.d .ct,.d .ct,au 0,.d .ct]),(2,[au (0:Nat)])],3⟩) [(1,0),(2,1),(3,2)] [(0,[X])] ⟨?_,?_,rfl,rfl,?_⟩) ?_
 ·simp[fb,ah,AV.cv,db,bI,af]
 ·simp[fx,aF,bI,ai,db,AV.cv]
 ·simp[bG,ai,db,AV.cv]
 have wC:∀q:Nat,q<=10->alv.wrap ((q:Int)+2)=((q+2:Nat):Int):=λq hq=>by rw[wrap_i64 (by omega) (by omega)];rfl
 have hn:iD ls<=3:=by unfold iD;omega
 have hl:gr ls<=10:=by unfold gr;omega
 have El:0<gr ls:=by unfold gr;omega
 refine J λK hK=>?_;simp only[go_sem];refine⟨rfl,jK (a:=0) hX (by omega) rfl ?_⟩;simp only[go_sem,tm2,wC (qY ls 0%2) (by omega)];refine hK _ (J λK hK=>?_);simp only[go_sem];refine⟨rfl,jK (a:=1) hX (by omega) rfl ?_⟩;simp only[go_sem,tm2,wC (qY ls 1%2) (by omega)];apply hK;refine aa λK1 aT=>?_;refine J λK hK=>?_;simp only[go_sem];refine⟨rfl,jK (a:=2) hX (by omega) rfl ?_⟩;simp only[go_sem,tm4];apply hK;have Wc:∀(S:St) (Iv:DV),aB (aE []) 184 S ⟨[(1,au most),(4,.ptr 0 0),(5,.ptr 1 0),(7,.fn 27 [.ptr 2 0,.bw [X]]),(8,au (iD ls)),(9,au (gr ls))],
  [(0,[.d (.str []),.d .ct,.d .ct,au 0,.d .ct]),(1,[.d (.str [116]),.d Iv,.d .ct,au 0,.d .ct]),(2,[au (qZ ls)])],3⟩->dU Init.cells (mw ls) Iv->K1 S:=by
  intro S Iv hS hIv;apply aT;refine aw hS ?_;refine aw (aB.lS 1 2 1 rfl rfl rfl rfl) ?_;refine J λK hK=>?_;simp only[go_sem];apply hK;refine aa λK1 aT=>?_;refine aa λK2 eX=>?_;refine ag rfl ?_;simp only[go_sem];apply eX;apply ax;refine aw (S':=II X Iv [] (iD ls) (gr ls) most 0 (qZ ls) 0) (aB.cj [(0,0),(1,1),(2,2),(3,3)] ⟨?_,?_,rfl,rfl⟩) ?_;·simp[II,aV,ah,AV.aA,aj,af]
  ·simp[II,aL,aF,ai,ak,aj,AV.aA,af]
  refine EE hX hn El hl Pp (by unfold qZ;split<;>omega) ?_;intro ds yH uK Mm mem;simp only[go_sem];apply aT;have I6:dq ls (gr ls) most (iD ls) (qZ ls) 0 []=tS ls most:=rfl;rw[I6]at yH Mm⊢;have pq:ds.take (iD ls)=ds:=alx (by omega);refine aw (S':=smL X Iv ds (iD ls) (tS ls most).1) (aB.jl [(0,0),(1,1),(2,2)] [(3,ds)] ⟨?_,?_,rfl,rfl,?_⟩) ?_;·simp[smL,II,fb,ah,AV.cv,db,bI,af]
  ·simp[smL,II,fx,aF,bI,ai,db,AV.cv,pq]
  ·simp[II,bG,ai,cD]
  refine Nf (x:=ve ls most) hX (by omega) rfl uK ?_;intro Av hAv;have hc:∀l:List DV,(AV.agg (l.map .d)).aA (af [])=.agg (l.map .d):=λl=>by simp[AV.aA]
  exact⟨⟨[.str [116],Iv,.sl (iD ls) ds,.int .i64 (my (ve ls most)),Av],rfl,Iv,.sl (iD ls) ds,Av,rfl,hIv,⟨ds,⟨by omega,.inr (by simp[uK])⟩,yH⟩,hAv⟩,rfl⟩
 by_cases hz:qY ls 2%4=0
 ·refine aM ?_ (by simp[ev,ah,hz]);refine az rfl rfl ?_;simp only[go_sem];refine⟨rfl,ED (a:=3) hX (by omega) rfl ?_⟩;simp only[go_sem,tm3];refine⟨rfl,Wc _ (.sl 1 [.int .i64 120,.int .i64 (qY ls 3%3:Nat)]) (aB.jl [(0,0),(1,1),(2,2)] [(13,[.int .i64 120,.int .i64 (qY ls 3%3:Nat)])] ⟨?_,?_,rfl,rfl,?_⟩) ?_⟩;·simp[fb,ah,AV.cv,db,bI,af,iD,gr]
  ·simp[fx,aF,bI,ai,db,AV.cv,qZ,hz]
  ·simp[bG,ai,db,AV.cv]
  ·simp[mw,hz,dU,Init.cells]
 ·refine aH ?_ (by simp[ev,ah];omega);apply ar;refine Wc _ .ct (aB.cj [(0,0),(1,1),(2,2)] ⟨?_,?_,rfl,rfl⟩) ?_;·simp[aV,ah,AV.aA,aj,af,iD,gr]
  ·simp[aL,aF,ai,aj,AV.aA,qZ,hz]
  ·simp[mw,hz,dU]
def mark (th:List Bool) (x:Int):List Bool:=th.set (Rs x) true
def letter (i:Nat):UInt8:=UInt8.ofNat (97+i)
def lets (th:List Bool) (i:Nat):List UInt8:=((alI i).filter λc=>th.getD (97+c) false).map letter
def CI (b:UInt8):DV:=.int .u8 b.toNat
def tT:List Bool:=alA 256 false
theorem JX:tT.length=256:=by simp[tT]
def sO (t:Test):List Bool:=
 t.rows.foldl (λth l=>l.foldl (λth x=>mark th x.loc) th) (t.threads.foldl (λth l=>l.foldl (λth x=>mark th x.loc) th) (t.inits.foldl (λth x=>mark th x.loc) tT))
def eA (t:Test):List UInt8:=lets (sO t) 26
def gA (s i:Nat):List UInt8:=((alI i).filter λc=>s.testBit c).map letter
theorem wZ (s:Nat):gA s 0=[]:=rfl
theorem Hc (s i:Nat):gA s (i+1)=if s.testBit i=true then gA s i++[letter i]else gA s i:=by
 unfold gA;rw[List.range_succ,List.filter_append,al1];by_cases h:s.testBit i=true;·rw[if_pos h,List.filter_cons,if_pos h];rfl
 ·rw[if_neg h,List.filter_cons,if_neg h];simp
theorem JY (s i:Nat):(gA s i).length<=i:=by
 unfold gA;rw[alk];exact Nat.le_trans (List.length_filter_le _ _) (by simp)
def dj (t:Test):List UInt8:=gA (sN t) 26
def Mn (cs:List DV) (s i:Nat):St:=
 ⟨[(8,au (i:Nat)),(3,.sl 0 1 0 (gA s i).length),(1,.bw cs),(2,.d .ct),(4,dF s)],[(0,((gA s i).map CI).map .d)],1⟩
theorem EF {cs:List DV} {s:Nat} (hs:s<67108864) {Q:Exit->St->Prop} (hQ:Q (.exit 0) (Mn cs s 26)):
 fP aK (aE []) 24 (.loop M5) (Mn cs s 0) Q:=by
 refine bS (Mn cs s) 26 ?_;intro i hi;unfold M5;by_cases bn:i<26
 ·have aQ:(i:Int)<26:=by omega
  have hn:¬((i:Nat):Int)<0:=by omega
  have EG:i<=64:=by omega
  have Hd:s/2^i<18446744073709551616:=Nat.lt_of_le_of_lt (Nat.div_le_self _ _) (by omega);have hw:alv.wrap (((i:Nat):Int)+1)=((i+1:Nat):Int):=by rw[wrap_i64 (by omega) (by omega)];omega
  have hwb:IntKind.u8.wrap (((i:Nat):Int))=((i:Nat):Int):=wrap_u8 (by omega) (by omega);have hwc:IntKind.u8.wrap (97+((i:Nat):Int))=((97+i:Nat):Int):=by rw[wrap_u8 (by omega) (by omega)];omega
  have hl:=JY s i;have Br:(gA s i).length+1<=140737488351232:=by omega
  have pD:=Hc s i;have CF:al0.bits=64:=rfl;unfold Mn;refine J λK hK=>?_;simp only[go_sem,aQ];apply hK;refine aa λK1 aT=>?_;refine aM ?_;apply ar;apply aT;refine aa λK1 aT=>?_;apply ax;refine J λK hK=>?_;simp only[go_sem];refine hK _ (J λK hK=>?_);simp only[go_sem,hn,alj,CF,EG,fdiv_pow,Jw _ Hd];apply hK;have Z4:=Jx s i;generalize s/2^i%2=q at Z4;by_cases hb:s.testBit i=true
  ·rw[if_pos hb]at pD;have gi:=Z4.2 hb;refine aM ?_ (by simp[ev,ah,gi]);refine ag rfl ?_;simp only[go_sem,hwb,hwc,Br,aln];apply aT;have hbn:CI (letter i)=.int .u8 (97+i:Nat):=by
    have:(letter i).toNat=97+i:=by simp[letter];omega
    rw[CI,this]
   refine ag rfl ?_;simp only[go_sem,hw];exact⟨bn,(aB.cj [(2,0)] ⟨by simp[aV,ah,AV.aA,aj,af,Mn,pD,hbn],by simp[aL,aF,ai,ak,aj,AV.aA,af,ae,-alh,Mn,pD,hbn],rfl,rfl⟩)⟩
  ·rw[if_neg hb]at pD;have gi:¬((q:Nat):Int)=1:=λh=>hb (Z4.1 h);refine aH ?_ (by simp[ev,ah,gi]);apply ar;apply aT;refine ag rfl ?_;simp only[go_sem,hw];exact⟨bn,(aB.cj [(0,0)] ⟨by simp[aV,ah,AV.aA,aj,af,Mn,pD],by simp[aL,aF,ai,ak,aj,AV.aA,af,ae,-alh,Mn,pD],rfl,rfl⟩)⟩
 ·have aQ:¬((i:Nat):Int)<26:=by omega
  have du:i=26:=by omega
  unfold Mn;refine J λK hK=>?_;simp only[go_sem,aQ];apply hK;refine aa λK1 aT=>?_;refine aH ?_;subst du;refine aw (S':=Mn cs s 26) (aB.cj [(0,0)] ⟨by simp[aV,ah,AV.aA,aj,af,Mn],by simp[aL,aF,ai,ak,aj,AV.aA,af,ae,-alh,Mn],rfl,rfl⟩) ?_;exact aW hQ
theorem uO {t:Test} {cs:List DV} (hT:lU t cs):Pure aK 74 [.agg (cs.map .d)] (.d (aX (dj t))):=by
 have hT0:=hT;obtain⟨I,T,A,rfl,hI,CE,hA⟩:=hT;refine ay func74 aar ntmps74 results74 rfl ?_;unfold ahH;refine J λK hK=>?_;simp only[go_sem];apply hK;refine aw (S':=⟨[(1,.bw [.str t.name,I,T,.int .i64 t.kind,A]),(2,.d .ct)],[],0⟩) (aB.jl [] [(0,[.str t.name,I,T,.int .i64 t.kind,A])] ⟨?_,?_,rfl,rfl,?_⟩) ?_;·simp[fb,ah,AV.cv,db,bI,af]
 ·simp[fx,aF,bI,ai,db,AV.cv]
 ·simp[bG,ai,db,AV.cv]
 refine J λK hK=>?_;simp only[go_sem];refine hK _ (J λK hK=>?_);simp only[go_sem];refine aI (G6 hT0) rfl rfl ?_;simp only[go_sem];apply hK;refine aw (aB.nil 3 1 rfl rfl) ?_;refine aa λK1 aT=>?_;refine aa λK2 eX=>?_;refine ag rfl ?_;simp only[go_sem];apply eX;apply ax;refine aw (S':=Mn [.str t.name,I,T,.int .i64 t.kind,A] (sN t) 0) (aB.cj [(0,0)] ⟨by simp[aV,ah,AV.aA,aj,af,Mn,wZ],by simp[aL,aF,ai,ak,aj,AV.aA,af,ae,-alh,Mn,wZ],rfl,rfl⟩) ?_;refine EF (VO t) ?_;simp only[go_sem];apply aT;unfold Mn;refine J λK hK=>?_;simp only[go_sem];apply hK
 have pq:((gA (sN t) 26).map CI).take (gA (sN t) 26).length=(gA (sN t) 26).map CI:=alx (by simp);refine aw (S':=⟨[(2,.d (aX (dj t)))],[],0⟩) (aB.jl [] [(0,(gA (sN t) 26).map CI)] ⟨?_,?_,rfl,rfl,?_⟩) ?_
 ·have e:(λb:UInt8=>DV.int .u8 b.toNat)=CI:=rfl;simp[fb,ah,AV.cv,db,bI,af,pq,aX,dj,e,-alh]
 ·simp[fx]
 ·simp[bG,ai,cD,-alh]
 apply an;simp only[go_sem];refine aD _ rfl rfl ⟨?_,rfl⟩;rfl
def nF (l:List (List Ins)):Nat:=l.foldl (λs x=>s+x.length) 0
def Am (l:List Atom):Bool:=decide (8<l.length)
def sP (t:Test):Bool:=
 t.threads.any (λl=>decide (10<l.length))||(decide (t.threads.length=0)||(decide (4<t.threads.length)||(decide (24<nF t.threads)||(decide (4<(dj t).length)||(decide (8<t.rows.length)||(t.rows.any Am||decide (20<t.name.length)))))))
theorem Ng {l:List Atom} {X:DV} (hX:dU Atom.cells l X):Pure aK 162 [.d X] (.d (.bool (Am l))):=by
 have hl:=hX.len;refine ay func162 Vf ntmps162 results162 rfl ?_;unfold acF;refine J λK hK=>?_;simp only[go_sem];refine hK _ (J λK hK=>?_);simp only[go_sem,hl];apply hK;apply an;simp only[go_sem];refine aD _ rfl rfl ⟨?_,rfl⟩;have:((8:Int)<l.length)=(8<l.length):=by apply propext;omega
 simp[ah,Am,this]
def bgS (cs:List DV) (D:DV) (n s j:Nat):St:=⟨[(10,au j),(8,.d D),(9,au n),(3,au s),(1,.bw cs),(2,.d (.bool false))],[],0⟩
theorem We {t:Test} {cs:List DV} (hT:lU t cs) (fk:t.threads.length<=1000000):Pure aK 112 [.agg (cs.map .d)] (.d (.bool (sP t))):=by
 have hT0:=hT;obtain⟨I,T,A,rfl,hI,CE,hA⟩:=hT;have VP:=CE.len;have hAl:=hA.len;refine ay func112 UY ntmps112 results112 rfl ?_;unfold aco;refine J λK hK=>?_;simp only[go_sem];apply hK;refine aw (S':=⟨[(1,.bw [.str t.name,I,T,.int .i64 t.kind,A]),(2,.d (.bool false))],[],0⟩) (aB.jl [] [(0,[.str t.name,I,T,.int .i64 t.kind,A])] ⟨?_,?_,rfl,rfl,?_⟩) ?_;·simp[fb,ah,AV.cv,db,bI,af]
 ·simp[fx,aF,bI,ai,db,AV.cv]
 ·simp[bG,ai,db,AV.cv]
 refine J λK hK=>?_;simp only[go_sem];apply hK;refine aa λK1 aT=>?_;refine aa λK2 eX=>?_;refine ag rfl ?_;simp only[go_sem,VP];apply eX;apply ax;refine aw (S':=bgS [.str t.name,I,T,.int .i64 t.kind,A] T t.threads.length 0 0) (aB.cj [] ⟨by simp[aV,ah,AV.aA,aj,af,bgS],by simp[aL,aF,ai,ak,aj,AV.aA,af,ae,-alh,bgS],rfl,rfl⟩) ?_;refine kV (λj=>bgS [.str t.name,I,T,.int .i64 t.kind,A] T t.threads.length (nF (t.threads.take j)) j) (λj=>(∀l∈t.threads.take j,l.length<=10)/\nF (t.threads.take j)<=10*j) t.threads.length ⟨by simp,by simp[nF]⟩ ?_;intro j hj hp;unfold Pf
 generalize hs:nF (t.threads.take j)=s at hp;obtain⟨Wf,hp2⟩:=hp;by_cases bn:j<t.threads.length
 ·have aQ:(j:Int)<t.threads.length:=by omega
  obtain⟨Cy,d,rest,tR,G5,hjc,hd⟩:=CE.at j bn;have uK:=hd.len;have hw:=cY (i:=j) (by omega);unfold bgS;refine J λK hK=>?_;simp only[go_sem,aQ];apply hK;refine aa λK2 eX=>?_;refine aM ?_;apply ar;apply eX;refine aa λK2 eX=>?_;apply ax;refine J λK hK=>?_;simp only[go_sem,tR,aQ,alm,alj,alV,hjc,G5];apply hK;refine aa λK3 wc=>?_;refine J λK hK=>?_;simp only[go_sem,uK];apply hK;by_cases ng:10<t.threads[j].length
  ·have afe:(10:Int)<t.threads[j].length:=by omega
   refine aM ?_ (by simp[ev,ah,afe]);refine J λK hK=>?_;simp only[go_sem];apply hK;apply an;simp only[go_sem];refine aD _ rfl rfl ⟨?_,rfl⟩;have:t.threads.any (λl=>decide (10<l.length))=true:=List.any_eq_true.2 ⟨_,alR bn,by simpa using ng⟩;simp[ah,sP,this]
  ·have afe:¬(10:Int)<t.threads[j].length:=by omega
   have aff:nF (t.threads.take (j+1))=s+t.threads[j].length:=by
    have:=jv (λs (x:List Ins)=>s+x.length) 0 t.threads j bn;unfold nF at hs⊢;rw[this,hs]
   have hws:alv.wrap ((s:Int)+t.threads[j].length)=((s+t.threads[j].length:Nat):Int):=by rw[wrap_i64 (by omega) (by omega)];omega
   refine aH ?_ (by simp[ev,ah,afe]);apply ar;simp only[go_sem];apply wc;refine ag rfl ?_;simp only[go_sem,uK,hws];apply eX;refine ag rfl ?_;simp only[go_sem,hw];refine⟨bn,⟨?_,by rw[aff];omega⟩,aB.cj [] ⟨by simp[bgS,aV,ah,AV.aA,af,tR,aff],by simp[bgS,aL],rfl,rfl⟩⟩;intro l hl;rw[List.take_add_one,alw bn,List.mem_append]at hl;rcases hl with hl|hl;·exact Wf l hl
   ·simp only[Option.toList_some,List.mem_singleton]at hl;subst hl;omega
 ·have aQ:¬(j:Int)<t.threads.length:=by omega
  have du:j=t.threads.length:=by omega
  subst du;rw[alx (ali _)]at hs Wf;have aj8:t.threads.any (λl=>decide (10<l.length))=false:=by
   rw[al3];intro l hl;have:=Wf l hl;simp only[decide_eq_true_eq];omega
  unfold bgS;refine J λK hK=>?_;simp only[go_sem,aQ];apply hK;refine aa λK2 eX=>?_;refine aH ?_;apply aW;simp only[go_sem];refine aT _ (J λK hK=>?_);simp only[go_sem];apply hK;by_cases a1:t.threads.length=0
  ·have a1':(t.threads.length:Int)=0:=by omega
   refine J λK hK=>?_;simp only[go_sem,VP,a1'];apply hK;apply an;simp only[go_sem];refine aD _ rfl rfl ⟨?_,rfl⟩;simp[ah,sP,a1]
  have a1':¬(t.threads.length:Int)=0:=by omega
  by_cases a2:4<t.threads.length
  ·have a2':(4:Int)<t.threads.length:=by omega
   refine J λK hK=>?_;simp only[go_sem,VP,a1',a2'];apply hK;apply an;simp only[go_sem];refine aD _ rfl rfl ⟨?_,rfl⟩;simp[ah,sP,a2]
  have a2':¬(4:Int)<t.threads.length:=by omega
  by_cases a3:24<s
  ·have a3':(24:Int)<s:=by omega
   refine J λK hK=>?_;simp only[go_sem,VP,a1',a2',a3'];apply hK;apply an;simp only[go_sem];refine aD _ rfl rfl ⟨?_,rfl⟩;simp[ah,sP,hs,a3]
  have a3':¬(24:Int)<s:=by omega
  refine J λK hK=>?_;simp only[go_sem,VP,a1',a2',a3'];refine aI (uO hT0) rfl rfl ?_;have hln:∀l:List UInt8,jV (.d (aX l))=some l.length:=λl=>rfl;have kA:∀(dst:Option Nat) (r:List bC) (K:St->Prop) (t':Fr) (m:Mem) (n:Nat),bN aK r ⟨cG t' dst (.d (.bool (t.rows.any Am))),m,n⟩ K->ej aK 163 [.d A,.fn 162 []] dst r K t' m n:=
   λdst r K t m n h=>aI (Pn rfl rfl hA Am λl _ d hd=>Ng hd) rfl rfl h
  by_cases a4:4<(dj t).length
  ·have a4':(4:Int)<(dj t).length:=by omega
   simp only[go_sem,hln,a4'];apply hK;apply an;simp only[go_sem];refine aD _ rfl rfl ⟨?_,rfl⟩;simp[ah,sP,a4]
  have a4':¬(4:Int)<(dj t).length:=by omega
  by_cases a5:8<t.rows.length
  ·have a5':(8:Int)<t.rows.length:=by omega
   simp only[go_sem,hln,a4',hAl,a5'];apply hK;apply an;simp only[go_sem];refine aD _ rfl rfl ⟨?_,rfl⟩;simp[ah,sP,a5]
  have a5':¬(8:Int)<t.rows.length:=by omega
  simp only[go_sem,hln,a4',hAl,a5'];refine kA _ _ _ _ _ _ ?_;cases a6:t.rows.any Am
  ·simp only[go_sem];apply hK;apply an;simp only[go_sem];refine aD _ rfl rfl ⟨?_,rfl⟩;have e:((20:Int)<(t.name.length:Int))=(20<t.name.length):=by apply propext;omega
   simp[ah,sP,aj8,a1,a2,hs,a3,a4,a5,a6,e]
  ·simp only[go_sem];apply hK;apply an;simp only[go_sem];refine aD _ rfl rfl ⟨?_,rfl⟩;simp[ah,sP,a6]
def gb (x:Init):Nat:=(x.loc-97).toNat
def lX (l:List Init):Nat:=l.foldl (λs x=>qW s (gb x)) 0
def sQ (l:List Init):Bool:=!decide (l.map (·.loc)).Nodup
theorem EH (l:List Init) (i:Nat):(lX l).testBit i=l.any λx=>decide (gb x=i):=by
 have:∀(l:List Init) (s:Nat),(l.foldl (λs x=>qW s (gb x)) s).testBit i=(s.testBit i||l.any λx=>decide (gb x=i)):=by
  intro l;induction l with
  |nil=>intro s;simp
  |cons a l ih=>intro s;rw[al2,ih,Ak,List.any_cons,Bool.or_assoc]
 unfold lX;rw[this,Nat.zero_testBit,Bool.false_or]
theorem JZ {l:List Init} (h:∀x∈l,97<=x.loc/\x.loc<=122):lX l<67108864:=by
 have:∀(l:List Init) (s:Nat),(∀x∈l,97<=x.loc/\x.loc<=122)->s<67108864->l.foldl (λs x=>qW s (gb x)) s<67108864:=by
  intro l;induction l with
  |nil=>intro s _ hs;exact hs
  |cons a l ih=>
   intro s hl hs;rw[al2];have:=hl a alU;exact ih _ (λx hx=>hl x (alY _ hx)) (Fw hs (by unfold gb;omega))
 exact this l 0 h (by omega)
theorem Nh {l:List Init} (h:∀x∈l,97<=x.loc/\x.loc<=122) {i:Nat} (bn:i<l.length):
 (lX (l.take i)).testBit (gb l[i])=true↔∃x∈l.take i,x.loc=l[i].loc:=by
 rw[EH,List.any_eq_true];constructor
 ·rintro⟨x,hx,he⟩;have h1:=h x (List.mem_of_mem_take hx);have h2:=h l[i] (alR bn);refine⟨x,hx,?_⟩;have Ty:gb x=gb l[i]:=by simpa using he
  unfold gb at Ty;omega
 ·rintro⟨x,hx,he⟩;exact⟨x,hx,by simp[gb,he]⟩
theorem RB (l:List Init) (i:Nat) (bn:i<l.length):(l.take (i+1)).map (·.loc)=(l.take i).map (·.loc)++[l[i].loc]:=by
 rw[List.take_add_one,alw bn,al1];rfl
def J0 (X:DV) (n s i:Nat):St:=⟨[(8,au i),(6,.d X),(7,au n),(3,dF s),(2,.d (.bool false))],[],0⟩
theorem Ni {l:List Init} {X:DV} (hX:dU Init.cells l X) (hl:∀x∈l,97<=x.loc/\x.loc<=122):Pure aK 113 [.d X] (.d (.bool (sQ l))):=by
 have hlen:=hX.len;have fk:=hX.1;refine ay func113 UZ ntmps113 results113 rfl ?_;unfold acp;refine J λK hK=>?_;simp only[go_sem];refine hK _ (J λK hK=>?_);simp only[go_sem];apply hK;refine aa λK1 aT=>?_;refine aa λK2 eX=>?_;refine ag rfl ?_;simp only[go_sem,hlen];apply eX;apply ax;refine aw (S':=J0 X l.length 0 0) (aB.cj [] ⟨by simp[aV,ah,AV.aA,aj,af,J0],by simp[aL,aF,ai,ak,aj,AV.aA,af,ae,-alh,J0],rfl,rfl⟩) ?_;refine kV (λi=>J0 X l.length (lX (l.take i)) i) (λi=>((l.take i).map (·.loc)).Nodup) l.length (by simp) ?_;intro i hi hp
 have iw:lX (l.take i)<67108864:=JZ λx hx=>hl x (List.mem_of_mem_take hx);unfold Pg;by_cases bn:i<l.length
 ·have aQ:(i:Int)<l.length:=by omega
  obtain⟨Cy,rest,tR,bT,cq⟩:=hX.at wW (by omega) i bn;have hnd:=Nh hl bn;have cy:lX (l.take (i+1))=lX (l.take i)|||2^gb l[i]:=jv (λs (x:Init)=>qW s (gb x)) 0 l i bn;have htn:=RB l i bn;have hr:=hl l[i] (alR bn);have hex:∀x∈l.take i,x.loc=l[i].loc->¬(l.map (·.loc)).Nodup:=by
   intro x hx he aj9;have h1:((l.take (i+1)).map (·.loc)).Nodup:=aj9.sublist ((List.take_sublist _ _).map _);rw[htn,List.nodup_append]at h1;exact h1.2.2 x.loc (List.mem_map.2 ⟨x,hx,rfl⟩) l[i].loc (by simp) he
  have hw:=cY (i:=i) (by omega);generalize hse:lX (l.take i)=s at*;have hkb:gb l[i]<26:=by unfold gb;omega
  have hwk:alv.wrap (l[i].loc-97)=((gb l[i]:Nat):Int):=by
   rw[wrap_i64 (by omega) (by omega)];unfold gb;omega
  have Br:∀(n:Nat),(2<=(n+1+1))=True:=λn=>by simp
  generalize hxe:l[i]=x at*;generalize hke:gb x=k at*;have M8:k<=64:=by omega
  have GF:¬((k:Nat):Int)<0:=by omega
  have Hd:s/2^k<18446744073709551616:=Nat.lt_of_le_of_lt (Nat.div_le_self _ _) (by omega);have CF:al0.bits=64:=rfl;have Be:(2:Nat)^k<18446744073709551616:=by
   have:(2:Nat)^k<2^26:=Nat.pow_lt_pow_right (by omega) hkb;omega
  have O8:al0.wrap (1*2^k)=((2^k:Nat):Int):=by
   have e:(1*2^k:Int)=((2^k:Nat):Int):=by simp
   rw[e,wrap_u64 (alm _) (by have:=Int.ofNat_lt.2 Be;exact this)]
  have hor:=GN (a:=s) (b:=2^k) (by omega) Be;have Z4:=Jx s k;unfold J0;refine J λK hK=>?_;simp only[go_sem,aQ];apply hK;refine aa λK2 eX=>?_;refine aM ?_;apply ar;apply eX;refine aa λK2 eX=>?_;apply ax;refine J λK hK=>?_;simp only[go_sem,tR,aQ,alm,alj,cq,bT,Init.cells,Br];apply hK;refine aa λK3 wc=>?_;refine J λK hK=>?_;simp only[go_sem,hwk,GF,alj,CF,M8,fdiv_pow,Jw _ Hd];apply hK;generalize s/2^k%2=q at Z4;by_cases hb:s.testBit k=true
  ·refine aM ?_ (by simp[ev,ah,Z4.2 hb]);obtain⟨y,hy,hye⟩:=hnd.1 hb;refine J λK hK=>?_;simp only[go_sem];apply hK;apply an;simp only[go_sem];refine aD _ rfl rfl ⟨?_,rfl⟩;have:¬(l.map (·.loc)).Nodup:=hex y hy hye;simp[ah,sQ,this]
  ·have gi:¬((q:Nat):Int)=1:=λh=>hb (Z4.1 h);refine aH ?_ (by simp[ev,ah,gi]);apply ar;simp only[go_sem];apply wc;refine ag rfl ?_;simp only[go_sem,hwk,GF,alj,CF,M8,O8,hor];apply eX;refine ag rfl ?_;simp only[go_sem,hw];refine⟨bn,?_,aB.cj [] ⟨by simp[J0,aV,ah,AV.aA,af,tR,cy],by simp[J0,aL],rfl,rfl⟩⟩;rw[htn,List.nodup_append];refine⟨hp,by simp,λa ha b iq=>?_⟩;simp only[List.mem_singleton]at iq;subst iq;obtain⟨y,hy,rfl⟩:=List.mem_map.1 ha;intro he;exact hb (hnd.2 ⟨y,hy,he⟩)
 ·have aQ:¬(i:Int)<l.length:=by omega
  have du:i=l.length:=by omega
  subst du;rw[alx (ali _)]at hp;unfold J0;refine J λK hK=>?_;simp only[go_sem,aQ];apply hK;refine aa λK2 eX=>?_;refine aH ?_;apply aW;simp only[go_sem];refine aT _ (J λK hK=>?_);simp only[go_sem];apply hK;apply an;simp only[go_sem];refine aD _ rfl rfl ⟨?_,rfl⟩;simp[ah,sQ,hp]
def ie (l:List Ins) (i:Nat):Bool:=match l[i]?with
 |some x=>decide (x.kind=6)&&(decide (x.n<1)||decide ((l.length:Int)-i-1<x.n))
 |none=>false
def jz (l:List Ins):Bool:=!(alI l.length).any (ie l)
def jpS (X:DV) (n i:Nat):St:=⟨[(7,au i),(5,.d X),(6,au n),(0,.d X),(2,.d (.bool false))],[],0⟩
theorem CJ {l:List Ins} {X:DV} (hX:dU Ins.cells l X):Pure aK 116 [.d X] (.d (.bool (jz l))):=by
 have hlen:=hX.len;have fk:=hX.1;refine ay func116 U2 ntmps116 results116 rfl ?_;unfold acr;refine J λK hK=>?_;simp only[go_sem];apply hK;refine aa λK1 aT=>?_;refine aa λK2 eX=>?_;refine ag rfl ?_;simp only[go_sem,hlen];apply eX;apply ax;refine aw (S':=jpS X l.length 0) (aB.cj [] ⟨by simp[aV,ah,AV.aA,aj,af,jpS],by simp[aL,aF,ai,ak,aj,AV.aA,af,ae,-alh,jpS],rfl,rfl⟩) ?_;refine kV (λi=>jpS X l.length i) (λi=>∀j,j<i->ie l j=false) l.length (λj h=>by omega) ?_;intro i hi hp;unfold Ph;by_cases bn:i<l.length
 ·have aQ:(i:Int)<l.length:=by omega
  obtain⟨Cy,rest,tR,bT,cq⟩:=hX.at kM (by omega) i bn;have hw:=cY (i:=i) (by omega);have qC:alv.wrap ((l.length:Int)-i)=(l.length:Int)-i:=wrap_i64 (by omega) (by omega);have wC:alv.wrap ((l.length:Int)-i-1)=(l.length:Int)-i-1:=wrap_i64 (by omega) (by omega);have hl9:∀(n:Nat),(9<=(n+1+1+1+1+1+1+1+1+1))=True:=λn=>by simp
  have Mm:ie l i=(decide (l[i].kind=6)&&(decide (l[i].n<1)||decide ((l.length:Int)-i-1<l[i].n))):=by
   unfold ie;rw[alw bn]
  generalize l[i]=x at Mm bT;unfold jpS;refine J λK hK=>?_;simp only[go_sem,aQ];apply hK;refine aa λK2 eX=>?_;refine aM ?_;apply ar;apply eX;refine aa λK2 eX=>?_;apply ax;refine J λK hK=>?_;simp only[go_sem,tR,aQ,alm,alj,cq,bT,Ins.cells,hl9];apply hK;have bad:∀(t:Fr) (m:Mem) (n:Nat) (R:St->Prop),ah t 29=.d (.bool true)->ie l i=true->fP aK (aE []) 31 (.cond (.t 29) (.seq (.region false [⟨(some 2),.mv (.c (.d (.bool false))),none⟩] []) .ret) .skip) ⟨t,m,n⟩ (Exit.kq 1 (Exit.jQ K2 (Exit.jQ R (Exit.kq 0 (Exit.jQ K1 (nC aK #[.tmp 2] (aE []) λr m'=>r=.d (.bool (jz l))/\m'=[])))))):=by
   intro t m n R h29 hb;refine aM ?_ (by simp[ev,ah,h29]);refine aa λK hK=>ag (by simp[aE]) ?_;simp only[go_sem];apply hK;apply an;simp only[go_sem];refine aD _ rfl rfl ⟨?_,rfl⟩;have:(alI l.length).any (ie l)=true:=List.any_eq_true.2 ⟨i,List.mem_range.2 bn,hb⟩;simp[ah,jz,this]
  have CB:∀(t:Fr) (m:Mem) (n:Nat) (Q':Exit->St->Prop),ah t 29=.d (.bool false)->ah t 7=au i->ah t 5=.d X->ah t 6=au l.length->ah t 0=.d X->ah t 2=.d (.bool false)->ie l i=false->
   (∀S,K2 S->Q' .normal S)->fP aK (aE []) 31 (.cond (.t 29) (.seq (.region false [⟨(some 2),.mv (.c (.d (.bool false))),none⟩] []) .ret) .skip) ⟨t,m,n⟩ Q':=by
   intro t m n Q' h29 h7 h5 h6 h0 h2 hb hQ';refine aH ?_ (by simp[ev,ah,h29]);apply ar;refine hQ' _ ?_;apply eX;refine ag (by simp[aE]) ?_;simp only[go_sem,h7,hw];refine⟨bn,λj hj=>?_,aB.cj [] ⟨by simp[jpS,aV,ah,AV.aA,af,h5,h6,h0,h2],by simp[jpS,aL],rfl,rfl⟩⟩;by_cases wb:j=i;·subst wb;exact hb
   ·exact hp j (by omega)
  by_cases g1:x.kind=6
  ·by_cases g2:x.n<1
   ·refine J λK hK=>?_;simp only[go_sem,g1,g2];apply hK;exact bad _ _ _ _ rfl (by rw[Mm];simp[g1,g2])
   ·by_cases g3:(l.length:Int)-i-1<x.n
    ·refine J λK hK=>?_;simp only[go_sem,g1,g2,hlen,qC,wC,g3];apply hK;exact bad _ _ _ _ rfl (by rw[Mm];simp[g1,g3])
    ·refine J λK hK=>?_;simp only[go_sem,g1,g2,hlen,qC,wC,g3];apply hK;exact CB _ _ _ _ rfl rfl (by simp[ah,tR]) rfl (by simp[ah,tR]) rfl (by rw[Mm];simp[g2,g3]) (λS h=>h)
  ·refine J λK hK=>?_;simp only[go_sem,g1];apply hK;exact CB _ _ _ _ rfl rfl (by simp[ah,tR]) rfl (by simp[ah,tR]) rfl (by rw[Mm];simp[g1]) (λS h=>h)
 ·have aQ:¬(i:Int)<l.length:=by omega
  unfold jpS;refine J λK hK=>?_;simp only[go_sem,aQ];apply hK;refine aa λK2 eX=>?_;refine aH ?_;apply aW;simp only[go_sem];refine aT _ (J λK hK=>?_);simp only[go_sem];apply hK;apply an;simp only[go_sem];refine aD _ rfl rfl ⟨?_,rfl⟩;have:(alI l.length).any (ie l)=false:=by
   rw[al3];intro j hj;rw[hp j (by have:=List.mem_range.1 hj;omega)];decide
  simp[ah,jz,this]
def ac4:aJ:=kS [bz 8 fv] (kS [aq 13 0,bK 14 8 [.t 13,kI 5],oM 9 (.alloc [zS,zN,zN,zI,zN]),b9 5 9 14] (kS [aq 15 1,bP .and 16 15 255,bP .rem 17 16 3,bP .add 18 17 1,aq 1 18] (kS [aq 19 2,bP .and 20 19 65535,aq 21 3,bP .and 22 21 65535,aq 2 20,aq 3 22] (.seq (kS [aq 23 2,aq 24 3,eF .gtr 25 23 24] (kC 25 (kR [aq 26 3,aq 27 2,aq 2 26,aq 3 27]))) (kD [cN 28 5 9,aq 29 1,aq 30 2,bK 31 13 [.t 28,.t 29,.t 30],cN 32 5 9,aq 33 1,aq 34 3,bK 35 13 [.t 32,.t 33,.t 34],oM 10 (.alloc [zI,zI,zB,zN,zN,zN,zN,zI,zI,zN,zI,zI]),oM 11 (.alloc [zI,zI,zB,zN,zN,zN,zN,zI,zI,zN,zI,zI]),b9 12 10 31,b9 12 11 35] [0,0,0,7,0,0,0,120,0,0,911,2047] (.seq (kS [aY 36 10 0,cN 37 2 36,oM 38 (.build [zI,zI] []),oM 39 (.eqs [0,0] true (.t 37) (.t 38)),aq 40 39,jY 41 11 0 40,df 42 (o1 2 41) 40,df 43 (.build [zI,zI] []) 40,df 44 (.eqs [0,0] true (.t 42) (.t 43)) 40,iK 45 40 44,aq 46 45,jY 47 10 2 46,ma 48 47 46,kL 49 48 46,cO 50 (o1 12 10) 49,cO 51 (o1 12 11) 49,cO 52 (.bW 14 [.t 50,.t 51]) 49,cO 53 (gl 52) 49,df 54 (wT 49 53) 46,iK 55 46 54] (kC 55 (kS [bz 8 fv] .ret))) (kS [cN 56 5 9,aq 57 1,bK 58 13 [.t 56,.t 57,kI (-1)],oM 12 (.alloc [zI,zI,zB,zN,zN,zN,zN,zI,zI,zN,zI,zI]),b9 12 12 58] (kD [aY 59 12 2,bE 60 59,oM 61 (gl 60),aq 62 61,df 63 (o1 12 12) 62,df 64 (o1 5 9) 62,kL 65 1 62,df 66 (.bW 13 [.t 64,.t 65,kI 0]) 62,df 67 (.bW 14 [.t 63,.t 66]) 62,iK 68 62 67,aq 69 68,jn 70 12 2 69,lE 71 70 69,ir 72 71 69,jY 73 12 6 72,ma 74 73 72,df 75 (mq 74) 72,df 76 (iX .eql 75 0) 72,kL 77 76 72,cO 78 (o1 12 12) 77,cO 79 (.bW 15 [.t 78]) 77,cO 80 (.bin .eql (.t 79) (.c (.d (.str [105,110,99,111,109,112,108,101,116,101,10])))) 77,df 81 (wT 77 80) 72,cO 82 (Rt 72 81) 69,ia 83 69 82,aq 84 83,cO 85 (.bW 12 []) 84,ia 86 84 85,aq 8 86] [0,1,2,4,8,8,8,104,152,264,768,1024,3072,5120,8192,24576,40960,73728,139264,262144,786432,1310720,2367488,4203520,8389632,17825792,33554432,100663296,268435455] .ret))))))))
theorem afg:cZ f4=some ac4:=by kernel_rfl
def afh:aJ:=kS [oM 6 (.alloc [zI,zI,zB,zN,zN,zN,zN,zI,zI,zN,zI,zI])] (kS [aq 10 0,bK 11 29 [.t 10],aq 9 11,iL 12 9 0,iL 13 9 1,oM 7 (.alloc [zS,zN,zN,zI,zN]),oM 8 (.alloc [zI,zI]),b9 5 7 12,b9 2 8 13] (.seq (kS [aY 14 8 0,bE 15 14,bP .neq 16 15 0] (kC 16 (kS [aY 17 8 0,bE 18 17,aY 19 8 1,bE 20 19,bK 21 30 [.t 18,.t 20],b9 12 6 21] .ret))) (kS [cN 22 5 7,aq 23 1,aq 24 2,bK 25 13 [.t 22,.t 23,.t 24],b9 12 6 25] .ret)))
theorem Pr:cZ f10=some afh:=by kernel_rfl
def ahY:aJ:=kS [bz 0 fv] (kS [bK 2 10 [.c (.d (.str [116,101,115,116,32,97,32,123,32,116,104,114,101,97,100,32,123,32,115,116,111,114,101,32,120,32,49,32,59,32,125,32,101,120,105,115,116,115,32,120,32,61,32,49,32,59,32,125])),kI 1,kI 1000],oM 1 (.alloc [zI,zI,zB,zN,zN,zN,zN,zI,zI,zN,zI,zI]),b9 12 1 2] (kS [bK 3 10 [.c zS,kI 1,kI 9],bK 4 15 [.t 3],oM 5 (.bin .eql (.t 4) (.c (.d (.str [101,114,114,111,114,32,54,32,97,116,32,48,10])))),aq 6 5,jn 7 1 2 6,lE 8 7 6,ia 9 6 8,aq 10 9,jn 11 1 7 10,lE 12 11 10,cO 13 (iX .eql 12 1) 10,ia 14 10 13,aq 15 14,jn 16 1 8 15,lE 17 16 15,cO 18 (iX .eql 17 1) 15,ia 19 15 18,aq 20 19,jn 21 1 6 20,lE 22 21 20,cO 23 (mq 22) 20,cO 24 (iX .eql 23 1) 20,ia 25 20 24,aq 26 25,jn 27 1 10 26,lE 28 27 26,cO 29 (iX .eql 28 1) 26,ia 30 26 29,aq 0 30] .ret))
theorem aaH:cZ f12=some ahY:=by kernel_rfl
def Nj:aJ:=kS [eF .lss 57 56 55] (.seq (.cond (.t 57) .skip (.exit 1)) (.seq (.block 2 (kS [jm 58 1 54 56,bE 59 58,aq 15 59] (kS [cN 61 3 7,aq 62 1,aq 63 15,bK 64 35 [.t 61,.t 62,.t 63],aq 60 64,iL 65 60 0,iL 66 60 1,oM 16 (.alloc [zI,zI,zI,zI,zI,zI,zI,zI,zI,zI,zI,zI,zI,zI,zI,zI,zI,zI,zI,zI]),b9 20 16 65,aq 17 66] (kR [aq 67 13,cN 68 20 16,oM 69 (.cF 20 1 [zI,zI,zI,zI,zI,zI,zI,zI,zI,zI,zI,zI,zI,zI,zI,zI,zI,zI,zI,zI] [(0,20,.t 68)]),oM 70 (.app 20 160 93 (.t 67) (.t 69)),aq 13 70])))) (kR [bP .add 71 56 1,aq 56 71])))
def Nk:aJ:=kS [oM 3 (cM 0),oM 6 (.alloc [zI,zI,zB,zN,zN,zN,zN,zI,zI,zN,zI,zI])] (kS [cN 19 5 3,bK 20 32 [.t 19],aq 18 20,iL 21 18 0,iL 22 18 1,oM 7 (.alloc [zN,zN,zN]),b9 3 7 21,aq 8 22] (.seq (.block 0 (kS [aq 24 8,bP .neq 25 24 0,aq 23 25] (.cond (.t 23) (kS [aq 26 8,bK 27 30 [.t 26,kI 0],b9 12 6 27] .ret) (kS [aq 29 1,bP .lss 30 29 1,aq 31 30,kL 32 1 31,df 33 (iX .gtr 32 3) 31,iK 34 31 33,aq 28 34] (kC 28 (kS [bK 35 30 [kI 1,kI 0],b9 12 6 35] .ret)))))) (kS [cN 36 3 7,oM 37 (.build [zI,zI,zB,zN,zN,zN,zN,zI,zI,zN,zI,zI] [(3,3,.t 36)]),oM 9 (.alloc [zI,zI,zB,zN,zN,zN,zN,zI,zI,zN,zI,zI]),b9 12 9 37] (kS [cN 38 3 7,aq 39 1,aq 40 2,bK 41 33 [.t 38,.t 39,.t 40],oM 10 (.alloc [zN,zI,zI,zB]),b9 4 10 41] (kS [cN 43 3 7,aq 44 1,cN 45 4 10,aq 46 2,bK 47 34 [.t 43,.t 44,.t 45,.t 46],aq 42 47,iL 48 42 0,iL 49 42 1,aq 11 48,aq 12 49] (.seq (kS [aq 50 11,bP .eql 51 50 0] (kC 51 (kS [cN 52 12 9,b9 12 6 52] .ret))) (kS [bz 13 (.c zN)] (.seq (kS [aY 53 10 0,bE 54 53,iy 55 54,bz 56 (kI 0)] (.block 1 (.loop Nj))) (kS [aq 72 13,bK 73 36 [.t 72],aY 74 9 2,⟨none,.store 1 (.t 74) sg,none⟩,aY 75 9 6,b9 1 75 73] (kS [cN 76 3 7,aY 77 3 3,cN 78 2 77,aY 79 9 6,bE 80 79,bK 81 37 [.t 76,.t 78,.t 80],aY 82 9 7,b9 1 82 81] (kS [aq 83 11,aq 84 12,aY 85 9 8,b9 1 85 83,aY 86 9 9,b9 1 86 84] (kD [aY 87 10 0,bE 88 87,iy 89 88,aY 90 10 1,bE 91 90,aY 92 9 10,b9 1 92 89,aY 93 9 11,b9 1 93 91] [0,1,2,0,8,7,39,127,255] (kS [cN 94 12 9,b9 12 6 94] .ret)))))))))))))
theorem tU:cZ f13=some Nk:=by kernel_rfl
def Wg:aJ:=.seq (kS [aq 71 5,aY 72 2 9,bE 73 72,iy 74 73,eF .lss 75 71 74] (kE 75)) (.seq (.block 1 (kD [aY 78 2 9,bE 79 78,aq 80 5,jm 81 1 79 80,bE 82 81,aY 83 3 9,bE 84 83,aq 85 5,jm 86 1 84 85,bE 87 86,eF .neq 88 82 87] [0,1,0,6,8,0,32,0,192,256,528] (kC 88 (kS [bz 4 fv] .ret)))) (kR [aq 76 5,bP .add 77 76 1,aq 5 77]))
def ahZ:aJ:=kS [oM 2 (cM 0),oM 3 (cM 1),bz 4 fv] (.seq (kS [aY 6 2 0,cN 7 2 6,aY 8 3 0,cN 9 2 8,oM 10 (.eqs [0,0] true (.t 7) (.t 9)),aq 11 10,jY 12 2 2 11,ma 13 12 11,jY 14 3 2 11,ma 15 14 11,df 16 (.TU true (.t 13) (.t 15)) 11,iK 17 11 16,aq 18 17,jY 19 2 7 18,ma 20 19 18,jY 21 3 7 18,ma 22 21 18,df 23 (r9 .neq 20 22) 18,iK 24 18 23,aq 25 24,jY 26 2 8 25,ma 27 26 25,jY 28 3 8 25,ma 29 28 25,df 30 (r9 .neq 27 29) 25,iK 31 25 30,aq 32 31,jY 33 2 10 32,ma 34 33 32,jY 35 3 10 32,ma 36 35 32,df 37 (r9 .neq 34 36) 32,iK 38 32 37,aq 39 38,jY 40 2 11 39,ma 41 40 39,jY 42 3 11 39,ma 43 42 39,df 44 (r9 .neq 41 43) 39,iK 45 39 44,aq 46 45,jY 47 2 6 46,ma 48 47 46,jY 49 3 6 46,ma 50 49 46,df 51 (.bW 38 [.t 48,.t 50]) 46,df 52 (gl 51) 46,iK 53 46 52,aq 54 53,jY 55 2 9 54,ma 56 55 54,df 57 (mq 56) 54,jY 58 3 9 54,ma 59 58 54,df 60 (mq 59) 54,df 61 (r9 .neq 57 60) 54,iK 62 54 61,aq 63 62,jY 64 2 3 63,df 65 (o1 3 64) 63,jY 66 3 3 63,df 67 (o1 3 66) 63,df 68 (.bW 18 [.t 65,.t 67]) 63,df 69 (gl 68) 63,iK 70 63 69] (kC 70 (kS [bz 4 fv] .ret))) (.seq (kS [bz 5 (kI 0)] (mM Wg)) (kS [bz 4 sg] .ret)))
theorem aaI:cZ f14=some ahZ:=by kernel_rfl
def afi:aJ:=kS [eF .lss 32 31 30] (.seq (.cond (.t 32) .skip (.exit 1)) (.seq (.block 2 (kS [jm 33 20 29 31,cN 34 20 33,oM 5 (.alloc [zI,zI,zI,zI,zI,zI,zI,zI,zI,zI,zI,zI,zI,zI,zI,zI,zI,zI,zI,zI]),b9 20 5 34] (kR [aq 35 3,aY 36 1 3,cN 37 3 36,cN 38 20 5,bK 39 41 [.t 37,.t 38],oM 40 (.bin .add (.c (.d (.str [101,110,100,32]))) (.t 39)),bK 41 40 [.t 40,.c (.d (.str [32]))],oM 42 (.cF 1 1 [zS] [(0,1,.t 41)]),oM 43 (.app 1 16 9 (.t 35) (.t 42)),aq 3 43]))) (kR [bP .add 44 31 1,aq 31 44])))
def afj:aJ:=kS [oM 1 (cM 0),bz 2 (.c zS)] (.seq (.block 0 (kS [aY 8 1 0,aY 9 8 0,bE 10 9,bP .neq 11 10 0,aq 7 11] (.cond (.t 7) (kD [aY 12 1 0,aY 13 12 0,bE 14 13,bK 15 39 [.t 14],oM 16 (.bin .add (.c (.d (.str [101,114,114,111,114,32]))) (.t 15)),oM 17 (.bin .add (.t 16) (.c (.d (.str [32,97,116,32])))),aY 18 1 0,aY 19 18 1,bE 20 19,bK 21 39 [.t 20],eF .add 22 17 21,oM 23 (.bin .add (.t 22) (.c (.d (.str [10])))),aq 2 23] [0,1,2,4,8,16,0,64,128,264,544,1024,4095] .ret) (kS [aY 25 1 2,bE 26 25,oM 27 (gl 26),aq 24 27] (kC 24 (kS [bz 2 (.c (.d (.str [105,110,99,111,109,112,108,101,116,101,10])))] .ret)))))) (kS [bz 3 (.c zN)] (.seq (kS [aY 28 1 6,bE 29 28,iy 30 29,bz 31 (kI 0)] (.block 1 (.loop afi))) (kS [aY 45 1 8,bE 46 45,bK 47 42 [.t 46],oM 48 (.bin .add (.c (.d (.str [114,111,98,117,115,116,32]))) (.t 47)),aq 6 48] (.seq (kS [aY 49 1 8,bE 50 49,bP .eql 51 50 2] (kC 51 (kR [aq 52 6,aY 53 1 9,bE 54 53,bK 55 43 [.t 54],oM 56 (.bin .add (.c (.d (.str [32]))) (.t 55)),eF .add 57 52 56,aq 6 57]))) (kS [aq 58 3,aY 59 1 7,bE 60 59,bK 61 42 [.t 60],oM 62 (.bin .add (.c (.d (.str [118,101,114,100,105,99,116,32]))) (.t 61)),aq 63 6,oM 64 (.cF 1 2 [zS,zS] [(0,1,.t 62),(1,1,.t 63)]),oM 65 (.app 1 16 9 (.t 58) (.t 64)),aq 3 65] (kS [aq 66 3,bK 67 44 [.t 66,.c (.d (.str [10]))],oM 68 (.bin .add (.t 67) (.c (.d (.str [10])))),aq 2 68] .ret)))))))
theorem Ps:cZ f15=some afj:=by kernel_rfl
def Nl:aJ:=.seq (kS [aq 33 5,aY 34 2 1,bE 35 34,iy 36 35,eF .lss 37 33 36] (kE 37)) (.seq (.block 1 (kD [aY 40 2 1,bE 41 40,aq 42 5,jm 43 1 41 42,bE 44 43,aY 45 3 1,bE 46 45,aq 47 5,jm 48 1 46 47,bE 49 48,eF .neq 50 44 49] [0,1,0,6,8,0,32,0,192,256,528] (kC 50 (kS [bz 4 fv] .ret)))) (kR [aq 38 5,bP .add 39 38 1,aq 5 39]))
def Nn:aJ:=.seq (kS [aq 71 7,aY 72 2 2,bE 73 72,aq 74 6,jm 75 1 73 74,bE 76 75,iy 77 76,eF .lss 78 71 77] (.cond (.t 78) .skip (.exit 4))) (.seq (.block 5 (kD [aY 81 2 2,bE 82 81,aq 83 6,jm 84 1 82 83,bE 85 84,aq 86 7,jm 87 9 85 86,cN 88 9 87,aY 89 3 2,bE 90 89,aq 91 6,jm 92 1 90 91,bE 93 92,aq 94 7,jm 95 9 93 94,cN 96 9 95,oM 97 (.eqs [0,0,0,0,0,0,0,0,0] true (.t 88) (.t 96))] [0,1,0,6,8,0,48,64,0,256,0,1536,2048,0,12288,16384,32896] (kC 97 (kS [bz 4 fv] .ret)))) (kR [aq 79 7,bP .add 80 79 1,aq 7 80]))
def Np:aJ:=.seq (kS [aq 51 6,aY 52 2 2,bE 53 52,iy 54 53,eF .lss 55 51 54] (.cond (.t 55) .skip (.exit 2))) (.seq (.block 3 (.seq (kD [aY 58 2 2,bE 59 58,aq 60 6,jm 61 1 59 60,bE 62 61,iy 63 62,aY 64 3 2,bE 65 64,aq 66 6,jm 67 1 65 66,bE 68 67,iy 69 68,eF .neq 70 63 69] [0,1,0,6,8,16,0,64,0,384,512,1024,2080] (kC 70 (kS [bz 4 fv] .ret))) (kS [bz 7 (kI 0)] (.block 4 (.loop Nn))))) (kR [aq 56 6,bP .add 57 56 1,aq 6 57]))
def ah0:aJ:=kS [oM 2 (cM 0),oM 3 (cM 1),bz 4 fv] (.seq (kS [aY 8 2 0,bE 9 8,oM 10 (.yK (.t 9)),aY 11 3 0,bE 12 11,oM 13 (.yK (.t 12)),eF .neq 14 10 13,aq 15 14,jY 16 2 1 15,ma 17 16 15,df 18 (mq 17) 15,jY 19 3 1 15,ma 20 19 15,df 21 (mq 20) 15,df 22 (r9 .neq 18 21) 15,iK 23 15 22,aq 24 23,jY 25 2 2 24,ma 26 25 24,df 27 (mq 26) 24,jY 28 3 2 24,ma 29 28 24,df 30 (mq 29) 24,df 31 (r9 .neq 27 30) 24,iK 32 24 31] (kC 32 (kS [bz 4 fv] .ret))) (.seq (kS [bz 5 (kI 0)] (mM Nl)) (.seq (kS [bz 6 (kI 0)] (.block 2 (.loop Np))) (kS [bz 4 sg] .ret))))
theorem aaJ:cZ f18=some ah0:=by kernel_rfl
def ah1:aJ:=kS [oM 4 (.alloc [zI,zI,zB,zN,zN,zN,zN,zI,zI,zN,zI,zI])] (kS [aq 5 0,aq 6 1,oM 7 (.build [zI,zI] [(0,1,.t 5),(1,1,.t 6)]),oM 8 (.build [zI,zI,zB,zN,zN,zN,zN,zI,zI,zN,zI,zI] [(0,2,.t 7)]),b9 12 4 8] .ret)
theorem aaK:cZ f30=some ah1:=by kernel_rfl
def Nq:aJ:=kS [eF .lss 32 31 30] (.seq (kE 32) (.seq (.block 1 (kS [jm 33 2 29 31,cN 34 2 33,oM 8 (.alloc [zI,zI]),b9 2 8 34] (.region true [aY 35 5 1,bE 36 35,aq 37 6,aY 38 8 0,bE 39 38,oM 40 (.eW (.t 37) [.t 39]),aY 41 8 1,bE 42 41,jm 43 1 36 40,b9 1 43 42] [0,1,0,0,8,20,0,64,255,511]))) (kR [bP .add 44 31 1,aq 31 44])))
def Nr:aJ:=kS [eF .lss 57 56 55] (.seq (.cond (.t 57) .skip (.exit 4)) (.seq (.block 5 (kS [aq 58 56,jm 59 9 54 56,cN 60 9 59,oM 12 (.alloc [zI,zI,zI,zI,zI,zI,zI,zI,zI]),aq 11 58,b9 9 12 60] (kS [aY 61 12 0,bE 62 61,bP .eql 63 62 1,aq 64 63,jY 65 12 0 64,ma 66 65 64,df 67 (iX .eql 66 2) 64,iK 68 64 67,aq 69 68,jY 70 12 0 69,ma 71 70 69,df 72 (iX .eql 71 4) 69,iK 73 69 72] (kC 73 (kR [aq 74 10,aq 75 11,aq 76 6,aY 77 12 2,bE 78 77,oM 79 (.eW (.t 76) [.t 78]),jm 80 9 74 75,aY 81 80 2,b9 1 81 79]))))) (kR [bP .add 82 56 1,aq 56 82])))
def Ns:aJ:=kS [eF .lss 49 48 47] (.seq (.cond (.t 49) .skip (.exit 2)) (.seq (.block 3 (kS [jm 50 1 46 48,bE 51 50,aq 10 51] (kS [aq 52 10,bK 53 77 [.t 52],aq 10 53] (.seq (kS [aq 54 10,iy 55 54,bz 56 (kI 0)] (.block 4 (.loop Nr))) (kR [aY 83 5 2,bE 84 83,aq 85 10,oM 86 (.cF 1 1 [zN] [(0,1,.t 85)]),oM 87 (.app 1 24 67 (.t 84) (.t 86)),aY 88 5 2,b9 1 88 87]))))) (kR [bP .add 89 48 1,aq 48 89])))
def afk:aJ:=kS [oM 1 (cM 0),oM 2 (.alloc [zN,zN,zN]),bz 3 (kI 0)] (.seq (kS [cN 13 5 1,bK 14 63 [.t 13],aq 4 14] (kS [aq 15 4,bP .neq 16 15 0] (kC 16 (kS [oM 17 (.build [zN,zN,zN] []),aq 18 4,b9 3 2 17,aq 3 18] .ret)))) (kS [cN 19 5 1,bK 20 74 [.t 19],oM 21 (.build [zN,zN,zN] [(0,1,.t 20)]),oM 5 (.alloc [zN,zN,zN]),b9 3 5 21] (kS [aY 22 5 0,bE 23 22,iy 24 23,oM 25 (.Er 1 8 [zI] (.t 24) (.t 24)),aY 26 5 1,b9 1 26 25] (kS [oM 27 (.rY 75 [.t 5]),aq 6 27] (.seq (kS [aY 28 1 1,bE 29 28,iy 30 29,bz 31 (kI 0)] (mM Nq)) (.seq (kS [aY 45 1 2,bE 46 45,iy 47 46,bz 48 (kI 0)] (.block 2 (.loop Ns))) (kS [cN 90 3 5,b9 3 2 90,bz 3 (kI 0)] .ret)))))))
theorem Pt:cZ f32=some afk:=by kernel_rfl
def ah2:aJ:=kS [oM 3 (cM 0),oM 6 (.alloc [zN,zI,zI,zB])] (kS [cN 11 3 3,aq 12 1,bK 13 78 [.t 11,.t 12],aq 10 13,iL 14 10 0,iL 15 10 1,aq 7 14,aq 8 15] (.seq (kS [aq 16 8,bP .neq 17 16 0] (kC 17 (kS [oM 18 (.build [zN,zI,zI,zB] []),b9 4 6 18] .ret))) (kS [aq 19 1,aq 20 2,oM 21 (.wk (.t 20) (kI 0)),oM 22 (.yM (.t 21) (kI 2000000)),oM 23 (.build [zI,zI,zN,zN,zN,zI,zI,zB] [(0,1,.t 19),(1,1,.t 22)]),oM 24 (cM 23),aq 9 24] (.seq (kS [aq 25 9,aq 26 7,bK 27 79 [.t 25,.t 26],oM 28 (gl 27)] (kC 28 (kS [oM 29 (.build [zN,zI,zI,zB] []),b9 4 6 29] .ret))) (kS [aq 30 9,dC 31 30,aY 32 31 4,aY 33 32 3,⟨none,.store 1 (.t 33) sg,none⟩] (kS [aq 34 9,dC 35 34,aY 36 35 4,cN 37 4 36,b9 4 6 37] .ret))))))
theorem aaL:cZ f33=some ah2:=by kernel_rfl
def Nt:aJ:=kS [eF .lss 36 35 34] (.seq (kE 36) (.seq (.block 1 (kS [jm 37 20 33 35,cN 38 20 37,oM 14 (.alloc [zI,zI,zI,zI,zI,zI,zI,zI,zI,zI,zI,zI,zI,zI,zI,zI,zI,zI,zI,zI]),b9 20 14 38] (.region true [aq 39 12,cN 40 20 14,oM 41 (.j6 (.lkp [0,0,0,0,0,0,0,0,0,0,0,0,0,0,0,0,0,0,0,0] zI false) [.t 39,.t 40]),bP .add 42 41 1,oM 43 (.j6 (.TS [0,0,0,0,0,0,0,0,0,0,0,0,0,0,0,0,0,0,0,0] zI) [.t 39,.t 40]),iL 44 43 1,⟨none,.j6 .TT [.t 39,.t 44,.t 42],none⟩] [0,0,3,4,3,16,63]))) (kR [bP .add 45 35 1,aq 35 45])))
def Nu:aJ:=kS [eF .lss 50 49 48] (.seq (.cond (.t 50) .skip (.exit 2)) (.seq (.block 3 (kS [jm 51 1 47 49,bE 52 51,aq 16 52] (kS [cN 54 3 4,aq 55 1,aq 56 16,bK 57 35 [.t 54,.t 55,.t 56],aq 53 57,iL 58 53 0,iL 59 53 1,oM 17 (.alloc [zI,zI,zI,zI,zI,zI,zI,zI,zI,zI,zI,zI,zI,zI,zI,zI,zI,zI,zI,zI]),b9 20 17 58,aq 18 59] (kS [aq 60 18,aq 61 60,ir 62 12 61,cO 63 (o1 20 17) 61,cO 64 (.j6 (.lkp [0,0,0,0,0,0,0,0,0,0,0,0,0,0,0,0,0,0,0,0] zI false) [.t 62,.t 63]) 61,cO 65 (iX .eql 64 0) 61,ia 66 61 65] (kC 66 (kS [aq 67 16,oM 68 (.app 1 8 3 (.c zN) (.t 67)),bz 8 (kI 2),aq 9 68] .ret)))))) (kR [bP .add 69 49 1,aq 49 69])))
def aaM:aJ:=kS [oM 4 (cM 0),oM 6 (cM 2),bz 8 (kI 0),bz 9 (.c zN)] (kS [cN 20 3 4,aq 21 3,bK 22 80 [.t 20,kI 1,.t 21],aq 19 22,iL 23 19 0,iL 24 19 1,aq 10 23,aq 11 24] (.seq (kS [aY 25 6 3,bE 26 25,oM 27 (gl 26),aq 28 27,kL 29 11 28,df 30 (gl 29) 28,iK 31 28 30] (kC 31 (kS [bz 8 (kI 0),bz 9 (.c zN)] .ret))) (kS [oM 32 (.j6 .O6 []),aq 12 32] (.seq (kS [aq 33 10,iy 34 33,bz 35 (kI 0)] (mM Nt)) (.seq (kS [aY 46 6 0,bE 47 46,iy 48 47,bz 49 (kI 0)] (.block 2 (.loop Nu))) (kS [bz 8 (kI 1),bz 9 (.c zN)] .ret))))))
theorem He:cZ f34=some aaM:=by kernel_rfl
def ah3:aJ:=kS [oM 3 (cM 0),oM 6 (.alloc [zI,zI,zI,zI,zI,zI,zI,zI,zI,zI,zI,zI,zI,zI,zI,zI,zI,zI,zI,zI]),bz 7 fv] (kS [cN 11 3 3,aq 12 1,aq 13 2,bK 14 81 [.t 11,.t 12,.t 13],aq 10 14,iL 15 10 0,iL 16 10 1,aq 8 15,aq 9 16] (.seq (kS [aq 17 8,oM 18 (.TV false (.t 17) (.c (.d .om))),aq 19 18,kL 20 9 19,kL 21 2 19,df 22 (mq 21) 19,df 23 (r9 .lss 20 22) 19,iK 24 19 23,aq 25 24,kL 26 8 25,df 27 (.bW 82 [.t 26]) 25,df 28 (gl 27) 25,iK 29 25 28] (kC 29 (kS [oM 30 (.build [zI,zI,zI,zI,zI,zI,zI,zI,zI,zI,zI,zI,zI,zI,zI,zI,zI,zI,zI,zI] []),b9 20 6 30,bz 7 fv] .ret))) (kS [aq 31 8,bK 32 83 [.t 31],b9 20 6 32,bz 7 sg] .ret)))
theorem aaN:cZ f35=some ah3:=by kernel_rfl
def afl:aJ:=kS [bz 2 (.c zN)] (kS [aq 4 0,bK 5 84 [.t 4],aq 3 5] (kS [aq 6 3,bK 7 85 [.t 6,.c (.fn 86 [])]] (kS [aq 8 3,bK 9 88 [.t 8],bK 10 87 [.t 9],aq 2 10] .ret)))
theorem Pu:cZ f36=some afl:=by kernel_rfl
def Wh:aJ:=.seq (kS [aq 11 5,aq 12 0,iy 13 12,eF .lss 14 11 13] (kE 14)) (.seq (.block 1 (kD [aq 17 0,aq 18 5,jm 19 20 17 18,cN 20 20 19,aq 21 1,aq 22 5,jm 23 20 21 22,cN 24 20 23,oM 25 (.eqs [0,0,0,0,0,0,0,0,0,0,0,0,0,0,0,0,0,0,0,0] true (.t 20) (.t 24))] [0,0,3,4,0,0,48,64,136] (kC 25 (kS [bz 4 fv] .ret)))) (kR [aq 15 5,bP .add 16 15 1,aq 5 16]))
def ah4:aJ:=kS [bz 4 fv] (.seq (kS [aq 6 0,iy 7 6,aq 8 1,iy 9 8,eF .neq 10 7 9] (kC 10 (kS [bz 4 fv] .ret))) (.seq (kS [bz 5 (kI 0)] (mM Wh)) (kS [bz 4 sg] .ret)))
theorem aaO:cZ f38=some ah4:=by kernel_rfl
def afm:aJ:=kS [bz 3 (kI 0)] (kS [aY 4 1 0,bE 5 4,aq 6 0,oM 7 (.IJ .u8 (.t 6)),bK 8 76 [.t 5,.t 7],aq 3 8] .ret)
theorem Pv:cZ f75=some afm:=by kernel_rfl
def Wi:aJ:=kS [eF .lss 9 8 7] (.seq (kE 9) (.seq (.block 1 (kS [aq 10 8,aq 5 10] (kS [aq 11 1,aq 12 0,aq 13 5,jm 14 1 12 13,bE 15 14,eF .eql 16 11 15] (kC 16 (kS [aq 17 5,aq 4 17] .ret))))) (kR [bP .add 18 8 1,aq 8 18])))
def ah5:aJ:=kS [bz 4 (kI 0)] (.seq (kS [aq 6 0,iy 7 6,bz 8 (kI 0)] (mM Wi)) (kS [bz 4 (kI (-1))] .ret))
theorem aaP:cZ f76=some ah5:=by kernel_rfl
def aka:aJ:=kS [bz 2 (.c zN)] (.seq (kS [aq 3 0,oM 4 (.j6 (.yJ false) [.t 3,.c zN])] (kC 4 (kS [bz 2 (.c zN)] .ret))) (kS [oM 5 (.cF 9 0 [] []),aq 6 0,oM 7 (.app 9 72 72 (.t 5) (.t 6)),aq 2 7] .ret))
theorem Pw:cZ f77=some aka:=by kernel_rfl
def Wj:aJ:=kS [bP .lss 25 24 4] (.seq (kE 25) (.seq (.block 1 (kS [aq 26 24,aq 7 26] (kD [aq 27 6,aq 28 7,aq 29 6,dC 30 29,aY 31 30 0,cN 32 3 31,aq 33 7,bK 34 125 [.t 32,.t 33],dC 35 27,aY 36 35 4,oM 37 (.cg 5 (some 4) (.t 36) (.t 28)),b9 5 37 34] [0,0,0,4,8,16,0,96,1,256,767,1279] (kD [aq 38 6,aq 39 7,aq 40 1,bK 41 126 [.t 40],dC 42 38,aY 43 42 32,oM 44 (.cg 74 (some 4) (.t 43) (.t 39)),b9 74 44 41] [0,0,0,4,1,16,47,79] (kR [aq 45 6,aq 46 7,dC 47 45,aY 48 47 28,oM 49 (.cg 1 (some 4) (.t 48) (.t 46)),⟨none,.store 1 (.t 49) (kI (-1)),none⟩]))))) (kR [bP .add 50 24 1,aq 24 50])))
def ah6:aJ:=kS [oM 2 (cM 0),bz 4 (.c (.d .om)),bz 5 (kI 0)] (.seq (kS [aq 8 1,bP .lss 9 8 1,aq 10 9,kL 11 1 10,df 12 (iX .gtr 11 3) 10,iK 13 10 12,aq 14 13,df 15 (o1 3 2) 14,df 16 (.bW 123 [.t 15]) 14,df 17 (gl 16) 14,iK 18 14 17] (kC 18 (kS [bz 4 (.c (.d .om)),bz 5 (kI 1)] .ret))) (kS [cN 19 3 2,bK 20 124 [.t 19],aq 21 1,oM 22 (.build [zN,zN,zN,zI,zI,zI,zI,zI,zI,zI,zI,zI,zI,zI,zI,zI,zI,zI,zI,zI,zI,zI,zI,zI,zI,zI,zI,zI,zI,zI,zI,zI,zI,zI,zI,zI,zI,zI,zI,zI,zI,zI,zI,zI,zI,zI,zI,zI,zI,zI,zI,zI,zI,zI,zI,zI,zI,zI,zI,zI,zI,zI,zI,zI,zI,zI,zI,zI,zI,zI,zI,zI,zI,zI,zI,zI,zI,zI,zI,zI,zI,zI,zI,zI,zI,zI,zI,zI,zI,zI,zI,zI,zI,zI,zI,zI,zI,zI,zI,zI,zI,zI,zI,zI,zI,zI,zI,zI,zI,zI,zI,zI,zI,zI,zI,zI,zI,zI,zI,zI,zI,zI,zI,zI,zI,zI,zI,zI,zI,zI,zI,zI,zI,zI,zI,zI,zI,zI,zI,zI,zI,zI,zI,zI,zI,zI,zI,zI,zI,zI,zI,zI,zI,zI,zI,zI,zI,zI,zI,zI,zI,zI,zI,zI,zI,zI,zI,zI,zI,zI,zI,zI,zI,zI,zI,zI,zI,zI,zI,zI,zI,zI,zI,zI,zI,zI,zI,zI,zI,zI,zI,zI,zI,zI,zI,zI,zI,zI,zI,zI,zI,zI,zI,zI,zI,zI,zI,zI,zI,zI,zI,zI,zI,zI,zI,zI,zI,zI,zI,zI,zI,zI,zI,zI,zI,zI,zI,zI,zI,zI,zI,zI,zI,zI,zI,zI,zI,zI,zI,zI,zI,zI,zI,zI,zI,zI,zI,zI,zI,zI,zI,zI,zI,zI,zI,zI,zI,zI,zI,zI,zI,zI,zI,zI,zI,zI,zI,zI,zI,zI,zI,zI,zI,zI,zI,zI,zI,zI,zI,zI,zI,zI,zI,zI,zI,zI,zI,zI,zI,zI,zI,zI,zI,zI,zI,zI,zI,zI,zI,zI,zI,zI,zI,zI,zI,zI,zI,zI,zI,zI,zI,zI,zI,zI,zI,zI,zI,zI,zI,zI,zI,zI,zI,zI,zI,zI,zI,zI,zN] [(0,3,.t 20),(3,1,.t 21)]),oM 23 (cM 22),aq 6 23] (.seq (kS [bz 24 (kI 0)] (mM Wj)) (kD [aq 51 6,dC 52 51,aY 53 52 24,oM 54 (.j6 (.BX 4 1) [.t 53,kI 0,kI 4]),aY 55 2 1,bE 56 55,oM 57 (.j6 (.Fb 1) [.t 54,.t 56])] [0,1,2,4,0,16,40] (kS [aq 58 6,aq 4 58,bz 5 (kI 0)] .ret)))))
theorem aaQ:cZ f78=some ah6:=by kernel_rfl
def Wl:aJ:=.seq (kS [aq 14 0,dC 15 14,aY 16 15 2,bE 17 16,iy 18 17,bP .gtr 19 18 0] (kE 19)) (.block 1 (kD [aq 20 0,dC 21 20,aY 22 21 2,bE 23 22,aq 24 0,dC 25 24,aY 26 25 2,bE 27 26,iy 28 27,bP .sub 29 28 1,jm 30 3 23 29,aq 5 30] [0,1,2,4,0,16,32,64,128,256,520,2047] (kD [aq 31 5,dC 32 31,aY 33 32 2,bE 34 33,aq 35 5,dC 36 35,aY 37 36 1,bE 38 37,eF .andNot 39 34 38,bK 40 128 [.t 39],aq 6 40] [0,1,2,4,0,16,32,64,136,256,1023] (.seq (kS [aq 41 6,bP .lss 42 41 0] (kC 42 (kS [aq 43 0,bK 44 129 [.t 43]] (.exit 1)))) (kS [aq 45 5,dC 46 45,aY 47 46 0,bE 48 47,bK 49 130 [.t 48],aq 7 49] (kS [aq 51 7,aq 52 6,bK 53 131 [.t 51,.t 52],aq 50 53,iL 54 50 0,iL 55 50 1,oM 8 (.alloc [zI,zI,zI,zI,zI,zI,zI]),b9 7 8 54,aq 9 55] (kS [aq 56 0,dC 57 56,aY 58 57 4,aY 59 58 2,bE 60 59,bP .add 61 60 1,dC 62 56,aY 63 62 4,aY 64 63 2,b9 1 64 61] (kD [aq 65 0,aq 66 5,dC 67 66,cN 68 3 67,cN 69 7 8,bK 70 132 [.t 65,.t 68,.t 69],aq 10 70] [0,0,2,4,0,25,63] (.seq (kD [aq 71 0,dC 72 71,aY 73 72 4,aY 74 73 2,bE 75 74,aq 76 0,dC 77 76,aY 78 77 1,bE 79 78,eF .gtr 80 75 79] [0,1,2,4,8,0,32,64,128,272] (kC 80 (kS [bz 4 fv] .ret))) (kS [aq 81 5,aq 82 5,dC 83 82,aY 84 83 1,bE 85 84,aq 86 6,bK 87 133 [.t 85,.t 86],dC 88 81,aY 89 88 1,b9 1 89 87] (kD [aq 90 0,aq 91 0,dC 92 91,aY 93 92 3,bE 94 93,cN 95 7 8,oM 96 (.cF 7 1 [zI,zI,zI,zI,zI,zI,zI] [(0,7,.t 95)]),oM 97 (.app 7 56 203 (.t 94) (.t 96)),dC 98 90,aY 99 98 3,b9 1 99 97] [0,0,2,4,8,0,32,80,255,511,767] (kS [aq 100 0,bK 101 134 [.t 100]] (kR [aq 102 0,aq 103 7,aq 104 10,bK 105 127 [.t 102,.t 103,.t 104]])))))))))))))
def ah7:aJ:=kS [bz 4 fv] (kS [aq 11 0,aq 12 1,bK 13 127 [.t 11,.t 12,.c (.d (.int .u64 0))]] (.seq (mM Wl) (kS [bz 4 sg] .ret)))
theorem aaR:cZ f79=some ah7:=by kernel_rfl
def Nv:aJ:=kS [eF .lss 25 24 23] (.seq (kE 25) (.seq (.block 1 (kS [jm 26 1 22 24,bE 27 26,aq 11 27] (kS [cN 29 3 3,aq 30 1,aq 31 11,bK 32 35 [.t 29,.t 30,.t 31],aq 28 32,iL 33 28 0,iL 34 28 1,oM 12 (.alloc [zI,zI,zI,zI,zI,zI,zI,zI,zI,zI,zI,zI,zI,zI,zI,zI,zI,zI,zI,zI]),b9 20 12 33,aq 13 34] (kR [aq 35 9,cN 36 20 12,oM 37 (.cF 20 1 [zI,zI,zI,zI,zI,zI,zI,zI,zI,zI,zI,zI,zI,zI,zI,zI,zI,zI,zI,zI] [(0,20,.t 36)]),oM 38 (.app 20 160 93 (.t 35) (.t 37)),aq 9 38])))) (kR [bP .add 39 24 1,aq 24 39])))
def ah8:aJ:=kS [oM 3 (cM 0),bz 6 (.c zN),bz 7 fv] (kS [cN 14 3 3,aq 15 1,aq 16 2,bK 17 33 [.t 14,.t 15,.t 16],oM 8 (.alloc [zN,zI,zI,zB]),b9 4 8 17] (.seq (kS [aY 18 8 3,bE 19 18,oM 20 (gl 19)] (kC 20 (kS [bz 6 (.c zN),bz 7 fv] .ret))) (kS [bz 9 (.c zN)] (.seq (kS [aY 21 8 0,bE 22 21,iy 23 22,bz 24 (kI 0)] (mM Nv)) (kS [aq 40 9,bK 41 36 [.t 40],aq 6 41,bz 7 sg] .ret)))))
theorem aaS:cZ f80=some ah8:=by kernel_rfl
def Wm:aJ:=kS [eF .lss 25 24 23] (.seq (kE 25) (.seq (.block 1 (kS [aq 26 24,jm 27 1 22 24,bE 28 27,aq 10 26,aq 11 28] (kS [aq 30 8,aq 31 11,bK 32 131 [.t 30,.t 31],aq 29 32,iL 33 29 0,iL 34 29 1,oM 12 (.alloc [zI,zI,zI,zI,zI,zI,zI]),b9 7 12 33,aq 13 34] (kS [aq 35 13,oM 36 (gl 35)] (kC 36 (kS [aq 37 8,aq 38 10,aq 6 37,aq 7 38] .ret)))))) (kR [bP .add 39 24 1,aq 24 39])))
def ah9:aJ:=kS [oM 3 (cM 0),bz 6 (.c (.d .om)),bz 7 (kI 0)] (kS [cN 15 3 3,aq 16 1,bK 17 78 [.t 15,.t 16],aq 14 17,iL 18 14 0,iL 19 14 1,aq 8 18,aq 9 19] (.seq (kS [aq 20 9,bP .neq 21 20 0] (kC 21 (kS [bz 6 (.c (.d .om)),bz 7 (kI 0)] .ret))) (.seq (kS [aq 22 2,iy 23 22,bz 24 (kI 0)] (mM Wm)) (kS [aq 40 8,aq 41 2,iy 42 41,aq 6 40,aq 7 42] .ret))))
theorem aaT:cZ f81=some ah9:=by kernel_rfl
def aia:aJ:=kS [bz 2 fv] (kS [aq 3 0,bK 4 135 [.t 3],oM 5 (.bin .eql (.t 4) (.c (.d (.int .u64 0)))),aq 2 5] .ret)
theorem aaU:cZ f82=some aia:=by kernel_rfl
def Wn:aJ:=kS [bP .lss 6 5 4] (.seq (kE 6) (.seq (.block 1 (kS [aq 7 5,aq 4 7] (kR [aq 8 4,aq 9 0,aq 10 4,dC 11 9,aY 12 11 4,oM 13 (.cg 5 (some 4) (.t 12) (.t 10)),aY 14 13 1,cN 15 4 14,aY 16 3 0,oM 17 (.cg 4 (some 4) (.t 16) (.t 8)),b9 4 17 15]))) (kR [bP .add 18 5 1,aq 5 18])))
def aib:aJ:=kS [oM 2 (.alloc [zI,zI,zI,zI,zI,zI,zI,zI,zI,zI,zI,zI,zI,zI,zI,zI,zI,zI,zI,zI])] (kS [oM 3 (.alloc [zI,zI,zI,zI,zI,zI,zI,zI,zI,zI,zI,zI,zI,zI,zI,zI,zI,zI,zI,zI])] (.seq (kS [bz 5 (kI 0)] (mM Wn)) (kS [aq 19 0,dC 20 19,aY 21 20 24,cN 22 4 21,aY 23 3 16,b9 4 23 22] (kS [cN 24 20 3,b9 20 2 24] .ret))))
theorem aaV:cZ f83=some aib:=by kernel_rfl
def akb:aJ:=kS [bz 2 (.c zN)] (.seq (kS [aq 3 0,oM 4 (.j6 (.yJ false) [.t 3,.c zN])] (kC 4 (kS [bz 2 (.c zN)] .ret))) (kS [oM 5 (.cF 20 0 [] []),aq 6 0,oM 7 (.app 20 160 93 (.t 5) (.t 6)),aq 2 7] .ret))
theorem aaW:cZ f84=some akb:=by kernel_rfl
def Wo:aJ:=kS [bP .lss 8 7 4] (.seq (kE 8) (.seq (.block 1 (kS [aq 9 7,aq 5 9] (kD [aq 10 5,aY 11 2 0,oM 12 (.cg 4 (some 4) (.t 11) (.t 10)),oM 13 (.j6 (.BX 4 1) [.t 12,kI 0,kI 4]),aq 14 5,aY 15 3 0,oM 16 (.cg 4 (some 4) (.t 15) (.t 14)),oM 17 (.j6 (.BX 4 1) [.t 16,kI 0,kI 4]),bK 18 138 [.t 13,.t 17],aq 6 18] [0,0,3,4,0,0,48,64,136,511] (kS [aq 19 6,bP .neq 20 19 0] (kC 20 (kS [aq 21 6,aq 4 21] .ret)))))) (kR [bP .add 22 7 1,aq 7 22])))
def aic:aJ:=kS [oM 2 (cM 0),oM 3 (cM 1),bz 4 (kI 0)] (.seq (kS [bz 7 (kI 0)] (mM Wo)) (kD [aY 23 2 16,oM 24 (.j6 (.BX 4 1) [.t 23,kI 0,kI 4]),aY 25 3 16,oM 26 (.j6 (.BX 4 1) [.t 25,kI 0,kI 4]),bK 27 138 [.t 24,.t 26],oM 28 (.cF 1 2 [zI,zI] [(0,1,.t 27),(1,1,kI 0)]),bK 29 139 [.t 28],aq 4 29] [0,1,0,4,10,16,48,127] .ret))
theorem aaX:cZ f86=some aic:=by kernel_rfl
def afn:aJ:=kS [bz 2 (.c zN)] (kS [aq 3 0,aq 4 0,iy 5 4,aq 6 0,iy 7 6,oM 8 (.j6 (.Mu 20) [.t 3,kI 0,.t 5,.t 7]),aq 2 8] .ret)
theorem Px:cZ f87=some afn:=by kernel_rfl
def Wp:aJ:=.seq (kS [aq 29 5,aq 30 4,iy 31 30,eF .lss 32 29 31] (.cond (.t 32) .skip (.exit 2))) (.seq (.block 3 (kD [aq 35 4,aq 36 5,jm 37 20 35 36,cN 38 20 37,aq 39 4,aq 40 5,bP .sub 41 40 1,jm 42 20 39 41,cN 43 20 42,oM 44 (.eqs [0,0,0,0,0,0,0,0,0,0,0,0,0,0,0,0,0,0,0,0] true (.t 38) (.t 43))] [0,0,3,4,0,0,32,80,128,264] (kC 44 (kS [aq 45 0,aq 46 3,aq 47 4,aq 48 5,jm 49 20 47 48,cN 50 20 49,jm 51 20 45 46,b9 20 51 50] (kR [aq 52 3,bP .add 53 52 1,aq 3 53]))))) (kR [aq 33 5,bP .add 34 33 1,aq 5 34]))
def Wq:aJ:=.seq (kS [aq 10 3,aq 11 0,iy 12 11,eF .lss 13 10 12] (kE 13)) (.seq (.block 1 (kD [aq 16 0,aq 17 3,jm 18 20 16 17,cN 19 20 18,aq 20 0,aq 21 3,bP .sub 22 21 1,jm 23 20 20 22,cN 24 20 23,oM 25 (.eqs [0,0,0,0,0,0,0,0,0,0,0,0,0,0,0,0,0,0,0,0] false (.t 19) (.t 24))] [0,0,3,4,0,0,32,80,128,264] (kC 25 (kS [aq 26 0,aq 27 3,oM 28 (.uZ 20 (.t 26) (some (.t 27)) none),aq 4 28] (.seq (kS [bz 5 (kI 1)] (.block 2 (.loop Wp))) (kS [aq 54 0,aq 55 3,oM 56 (.uZ 20 (.t 54) (some (.t 55)) none),⟨none,.j6 (.BZ 20 [zI,zI,zI,zI,zI,zI,zI,zI,zI,zI,zI,zI,zI,zI,zI,zI,zI,zI,zI,zI]) [.t 56],none⟩] (kS [aq 57 0,aq 58 3,oM 59 (.uZ 20 (.t 57) none (some (.t 58))),aq 2 59] .ret))))))) (kR [aq 14 3,bP .add 15 14 1,aq 3 15]))
def aid:aJ:=kS [bz 2 (.c zN)] (.seq (kS [aq 6 0,iy 7 6,bP .lss 8 7 2] (kC 8 (kS [aq 9 0,aq 2 9] .ret))) (.seq (kS [bz 3 (kI 1)] (mM Wq)) (kS [aq 60 0,aq 2 60] .ret)))
theorem aaY:cZ f88=some aid:=by kernel_rfl
def Py:aJ:=kS [eF .lss 42 41 40] (.seq (kE 42) (.seq (.block 1 (kS [aq 43 41,jm 44 1 39 41,bE 45 44,aq 3 43,aq 4 45] (kS [aq 46 4,oM 47 (.IJ .i64 (.t 46)),bK 48 160 [.t 47],oM 49 (gl 48),aq 50 49,kL 51 3 50,df 52 (iX .gtr 51 0) 50,kL 53 52 50,ir 54 4 53,jn 55 1 0 53,lE 56 55 53,ir 57 3 53,cO 58 (iX .sub 57 1) 53,cO 59 (kIa 1 56 58) 53,lE 60 59 53,cO 61 (r9 .leq 54 60) 53,df 62 (wT 53 61) 50,iK 63 50 62] (kC 63 (kS [bz 2 fv] .ret))))) (kR [bP .add 64 41 1,aq 41 64])))
def Pz:aJ:=kS [eF .lss 70 69 68] (.seq (.cond (.t 70) .skip (.exit 2)) (.seq (.block 3 (kS [jm 71 1 67 69,bE 72 71,aq 7 72] (kS [aq 73 7,iy 74 73,bP .gtr 75 74 10,aq 76 75,kL 77 7 76,df 78 (.bW 116 [.t 77]) 76,df 79 (gl 78) 76,iK 80 76 79,aq 81 80,kL 82 7 81,df 83 (.rY 170 [.t 5]) 81,df 84 (.bW 154 [.t 82,.t 83]) 81,iK 85 81 84] (kC 85 (kS [bz 2 fv] .ret))))) (kR [bP .add 86 69 1,aq 69 86])))
def ado:aJ:=kS [oM 1 (cM 0),bz 2 fv] (.seq (kS [aY 8 1 2,bE 9 8,iy 10 9,bP .eql 11 10 0,aq 12 11,jY 13 1 2 12,ma 14 13 12,df 15 (mq 14) 12,df 16 (iX .gtr 15 4) 12,iK 17 12 16,aq 18 17,jY 19 1 0 18,ma 20 19 18,df 21 (mq 20) 18,df 22 (iX .gtr 21 4) 18,iK 23 18 22,aq 24 23,jY 25 1 1 24,ma 26 25 24,df 27 (mq 26) 24,jY 28 1 0 24,ma 29 28 24,df 30 (mq 29) 24,df 31 (r9 .neq 27 30) 24,iK 32 24 31,aq 33 32,df 34 (o1 3 1) 33,df 35 (.bW 168 [.t 34]) 33,df 36 (iX .gtr 35 24) 33,iK 37 33 36] (kC 37 (kS [bz 2 fv] .ret))) (.seq (kS [aY 38 1 0,bE 39 38,iy 40 39,bz 41 (kI 0)] (mM Py)) (kS [oM 65 (.rY 169 [.t 1]),oM 5 (.alloc [.d .Zx]),b9 1 5 65] (.seq (kS [aY 66 1 2,bE 67 66,iy 68 67,bz 69 (kI 0)] (.block 2 (.loop Pz))) (kS [bz 2 sg] .ret)))))
theorem Wr:cZ f123=some ado:=by kernel_rfl
def PA:aJ:=kS [eF .lss 17 16 15] (.seq (kE 17) (.seq (.block 1 (kS [jm 18 1 14 16,bE 19 18,aq 5 19] (.region true [aY 20 3 2,bE 21 20,aq 22 5,bK 23 77 [.t 22],oM 24 (.cF 1 1 [zN] [(0,1,.t 23)]),oM 25 (.app 1 24 67 (.t 21) (.t 24)),aY 26 3 2,b9 1 26 25] [0,1,0,4,8,26,63,127]))) (kR [bP .add 27 16 1,aq 16 27])))
def adp:aJ:=kS [oM 1 (cM 0),oM 2 (.alloc [zN,zN,zN])] (kD [aY 6 1 0,bE 7 6,bK 8 172 [.t 7],aY 9 1 1,bE 10 9,bK 11 173 [.t 10],oM 12 (.build [zN,zN,zN] [(0,1,.t 8),(1,1,.t 11)]),oM 3 (.alloc [zN,zN,zN]),b9 3 3 12] [0,1,2,0,8,20,36,0,255] (.seq (kS [aY 13 1 2,bE 14 13,iy 15 14,bz 16 (kI 0)] (mM PA)) (kS [cN 28 3 3,b9 3 2 28] .ret)))
theorem Ws:cZ f124=some adp:=by kernel_rfl
def adq:aJ:=kS [oM 2 (cM 0),oM 4 (.alloc [zI,zI,zI,zI,zI])] (kS [cN 5 3 2,aq 6 1,bK 7 175 [.t 5,.t 6],oM 8 (.build [zI,zI,zI,zI,zI] []),bK 9 174 [.t 7,.t 8],b9 5 4 9] .ret)
theorem Wt:cZ f125=some adq:=by kernel_rfl
def adr:aJ:=kS [oM 2 (.alloc [zI,zI,zI,zI,zI,zI,zI,zI,zI,zI,zI,zI,zI,zI,zI,zI,zI,zI,zI,zI,zI,zI,zI,zI,zI,zI,zI,zI,zI,zI,zI,zI,zI,zI,zI,zI,zI,zI,zI,zI,zI,zI,zI,zI,zI,zI,zI,zI,zI,zI,zI,zI,zI,zI,zI,zI,zI,zI,zI,zI,zI,zI,zI,zI,zI,zI,zI,zI,zI,zI,zI,zI,zI,zI])] (.seq (kS [aq 3 0,bP .neq 4 3 2,aq 5 4,ir 6 0 5,cO 7 (iX .neq 6 3) 5,ia 8 5 7] (kC 8 (kR [bz 0 (kI 0)]))) (kS [aq 9 0,oM 10 (.build [zI,zI,zI,zI,zI,zI,zI,zI,zI,zI,zI,zI,zI,zI,zI,zI,zI,zI,zI,zI,zI,zI,zI,zI,zI,zI,zI,zI,zI,zI,zI,zI,zI,zI,zI,zI,zI,zI,zI,zI,zI,zI,zI,zI,zI,zI,zI,zI,zI,zI,zI,zI,zI,zI,zI,zI,zI,zI,zI,zI,zI,zI,zI,zI,zI,zI,zI,zI,zI,zI,zI,zI,zI,zI] [(0,1,.t 9)]),b9 74 2 10] .ret))
theorem Wu:cZ f126=some adr:=by kernel_rfl
def PB:aJ:=kS [eF .lss 26 25 24] (.seq (.cond (.t 26) .skip (.exit 1)) (.seq (.block 2 (kS [jm 27 7 23 25,cN 28 7 27,oM 10 (.alloc [zI,zI,zI,zI,zI,zI,zI]),b9 7 10 28] (kR [aq 29 8,aY 30 10 0,bE 31 30,oM 32 (.cF 1 1 [zI] [(0,1,.t 31)]),oM 33 (.app 1 8 3 (.t 29) (.t 32)),aq 8 33]))) (kR [bP .add 34 25 1,aq 25 34])))
def Wv:aJ:=kS [aq 11 1,bK 12 135 [.t 11],aq 6 12] (kS [aq 13 6,aq 14 2,eF .andNot 15 13 14,bK 16 128 [.t 15],aq 7 16] (.seq (.block 0 (kS [aq 18 6,oM 19 (.bin .eql (.t 18) (.c (.d (.int .u64 0)))),aq 17 19] (.cond (.t 17) (kS [bz 8 (.c zN)] (.seq (kS [aq 20 0,dC 21 20,aY 22 21 3,bE 23 22,iy 24 23,bz 25 (kI 0)] (.block 1 (.loop PB))) (kR [aq 35 0,aq 36 0,dC 37 36,aY 38 37 4,aY 39 38 0,bE 40 39,aq 41 8,oM 42 (.cF 1 1 [zN] [(0,1,.t 41)]),oM 43 (.app 1 24 22 (.t 40) (.t 42)),dC 44 35,aY 45 44 4,aY 46 45 0,b9 1 46 43]))) (kS [aq 48 7,bP .lss 49 48 0,aq 47 49] (kC 47 (kR [aq 50 0,dC 51 50,aY 52 51 4,aY 53 52 1,bE 54 53,bP .add 55 54 1,dC 56 50,aY 57 56 4,aY 58 57 1,b9 1 58 55])))))) (.region true [aq 59 0,aq 60 0,dC 61 60,aY 62 61 2,bE 63 62,aq 64 1,aq 65 2,aq 66 7,oM 67 (.cF 1 1 [zI] [(0,1,.t 66)]),bK 68 176 [.t 67],oM 69 (.build [.d .om,.d (.int .u64 0),.d (.int .u64 0)] [(0,1,.t 64),(1,1,.t 65),(2,1,.t 68)]),oM 70 (.cF 3 1 [.d .om,.d (.int .u64 0),.d (.int .u64 0)] [(0,3,.t 69)]),oM 71 (.app 3 24 200 (.t 63) (.t 70)),dC 72 59,aY 73 72 2,b9 1 73 71] [0,0,2,4,8,0,0,0,128,256,608,1024,2576,8191,16383,24575])))
theorem J1:cZ f127=some Wv:=by kernel_rfl
def ads:aJ:=kS [bz 2 (kI 0)] (.seq (kS [aq 3 0,oM 4 (.bin .eql (.t 3) (.c (.d (.int .u64 0))))] (kC 4 (kS [bz 2 (kI (-1))] .ret))) (kS [aq 5 0,bK 6 177 [.t 5],aq 2 6] .ret))
theorem Ww:cZ f128=some ads:=by kernel_rfl
def adt:aJ:=kD [aq 2 0,aq 3 0,dC 4 3,aY 5 4 2,bE 6 5,aq 7 0,dC 8 7,aY 9 8 2,bE 10 9,iy 11 10,bP .sub 12 11 1,oM 13 (.uZ 3 (.t 6) none (some (.t 12))),dC 14 2,aY 15 14 2,b9 1 15 13] [0,0,2,4,8,0,32,64,128,256,512,1040,4095,8191,12287] (.region true [aq 16 0,aq 17 0,dC 18 17,aY 19 18 3,bE 20 19,aq 21 0,dC 22 21,aY 23 22 3,bE 24 23,iy 25 24,bP .sub 26 25 1,oM 27 (.wk (.t 26) (kI 0)),oM 28 (.uZ 7 (.t 20) none (some (.t 27))),dC 29 16,aY 30 29 3,b9 1 30 28] [0,0,2,4,8,0,32,64,128,256,512,1024,2064,8191,16383,24575])
theorem Wx:cZ f129=some adt:=by kernel_rfl
def adu:aJ:=kS [bz 2 (.c (.d .om))] (kS [aq 4 0,dC 5 4,cN 6 329 5,oM 3 (.alloc [zN,zN,zN,zI,zI,zI,zI,zI,zI,zI,zI,zI,zI,zI,zI,zI,zI,zI,zI,zI,zI,zI,zI,zI,zI,zI,zI,zI,zI,zI,zI,zI,zI,zI,zI,zI,zI,zI,zI,zI,zI,zI,zI,zI,zI,zI,zI,zI,zI,zI,zI,zI,zI,zI,zI,zI,zI,zI,zI,zI,zI,zI,zI,zI,zI,zI,zI,zI,zI,zI,zI,zI,zI,zI,zI,zI,zI,zI,zI,zI,zI,zI,zI,zI,zI,zI,zI,zI,zI,zI,zI,zI,zI,zI,zI,zI,zI,zI,zI,zI,zI,zI,zI,zI,zI,zI,zI,zI,zI,zI,zI,zI,zI,zI,zI,zI,zI,zI,zI,zI,zI,zI,zI,zI,zI,zI,zI,zI,zI,zI,zI,zI,zI,zI,zI,zI,zI,zI,zI,zI,zI,zI,zI,zI,zI,zI,zI,zI,zI,zI,zI,zI,zI,zI,zI,zI,zI,zI,zI,zI,zI,zI,zI,zI,zI,zI,zI,zI,zI,zI,zI,zI,zI,zI,zI,zI,zI,zI,zI,zI,zI,zI,zI,zI,zI,zI,zI,zI,zI,zI,zI,zI,zI,zI,zI,zI,zI,zI,zI,zI,zI,zI,zI,zI,zI,zI,zI,zI,zI,zI,zI,zI,zI,zI,zI,zI,zI,zI,zI,zI,zI,zI,zI,zI,zI,zI,zI,zI,zI,zI,zI,zI,zI,zI,zI,zI,zI,zI,zI,zI,zI,zI,zI,zI,zI,zI,zI,zI,zI,zI,zI,zI,zI,zI,zI,zI,zI,zI,zI,zI,zI,zI,zI,zI,zI,zI,zI,zI,zI,zI,zI,zI,zI,zI,zI,zI,zI,zI,zI,zI,zI,zI,zI,zI,zI,zI,zI,zI,zI,zI,zI,zI,zI,zI,zI,zI,zI,zI,zI,zI,zI,zI,zI,zI,zI,zI,zI,zI,zI,zI,zI,zI,zI,zI,zI,zI,zI,zI,zI,zI,zI,zI,zI,zI,zI,zI,zI,zI,zN]),b9 329 3 6] (kS [aq 7 0,dC 8 7,aY 9 8 328,bE 10 9,bK 11 178 [.t 10],aY 12 3 328,b9 1 12 11] (kS [aq 2 3] .ret)))
theorem Wy:cZ f130=some adu:=by kernel_rfl
def adv:aJ:=kS [oM 4 (.alloc [zI,zI,zI,zI,zI,zI,zI]),bz 5 fv] (.seq (kS [aq 7 0,bK 8 135 [.t 7],aq 9 1,bK 10 179 [.t 8,.t 9],oM 11 (gl 10)] (kC 11 (kS [oM 12 (.build [zI,zI,zI,zI,zI,zI,zI] []),b9 7 4 12,bz 5 fv] .ret))) (kS [oM 6 (.alloc [zI,zI,zI,zI,zI,zI,zI])] (.seq (.block 0 (kS [aq 22 1,bP .lss 23 22 4,aq 21 23] (.cond (.t 21) (kR [aq 24 0,aq 25 1,bK 26 180 [.t 24,.t 25],b9 7 6 26]) (kS [aq 28 1,bP .lss 29 28 8,aq 27 29] (.cond (.t 27) (kR [aq 30 0,aq 31 1,bP .sub 32 31 4,bK 33 181 [.t 30,.t 32,kI 0],b9 7 6 33]) (kR [aq 13 0,aq 14 1,bP .sub 15 14 8,bP .quo 16 15 4,aq 17 1,bP .sub 18 17 8,bP .rem 19 18 4,bK 20 181 [.t 13,.t 16,.t 19],b9 7 6 20])))))) (kS [aq 34 1,aY 35 6 0,b9 1 35 34] (kD [aq 36 0,aq 37 0,dC 38 37,aY 39 38 328,bE 40 39,cN 41 7 6,oM 42 (.cF 7 1 [zI,zI,zI,zI,zI,zI,zI] [(0,7,.t 41)]),oM 43 (.app 7 56 203 (.t 40) (.t 42)),dC 44 36,aY 45 44 328,b9 1 45 43] [0,0,2,4,8,0,32,80,255,511,767] (kS [cN 46 7 6,b9 7 4 46,bz 5 sg] .ret))))))
theorem Wz:cZ f131=some adv:=by kernel_rfl
def PC:aJ:=kS [eF .lss 19 18 17] (.seq (kE 19) (.seq (.block 1 (kS [jm 20 1 16 18,bE 21 20,aq 9 21] (kS [aY 23 4 0,bE 24 23,aq 25 9,bK 26 183 [.t 24,.t 25],aq 22 26,iL 27 22 0,iL 28 22 1,oM 10 (.alloc [zI,zI,zI,zI,zI,zI,zI]),b9 7 10 27,aq 11 28] (kS [aq 29 0,dC 30 29,aY 31 30 4,aY 32 31 2,bE 33 32,bP .add 34 33 1,dC 35 29,aY 36 35 4,aY 37 36 2,b9 1 37 34] (kD [aY 38 4 0,bE 39 38,cN 40 7 10,cN 41 7 5,aq 42 0,dC 43 42,aY 44 43 0,bE 45 44,bK 46 184 [.t 39,.t 40,.t 41,.t 45]] [0,1,0,0,0,16,32,64,142] (kC 46 (kR [aq 47 7,aq 48 9,bK 49 185 [.t 47,.t 48],aq 7 49]))))))) (kR [bP .add 50 18 1,aq 18 50])))
def adw:aJ:=kS [oM 4 (cM 1),oM 5 (cM 2),bz 6 (.c (.d (.int .u64 0)))] (kS [aY 12 4 1,bE 13 12,aq 7 13] (.seq (kS [aY 14 4 1,bE 15 14,bK 16 182 [.t 15],iy 17 16,bz 18 (kI 0)] (mM PC)) (kS [aq 51 7,aq 6 51] .ret)))
theorem WA:cZ f132=some adw:=by kernel_rfl
def adx:aJ:=kS [bz 4 (.c (.d (.int .u64 0)))] (kS [aq 5 0,aq 6 1,bK 7 186 [.t 6],eF .or 8 5 7,aq 4 8] .ret)
theorem WB:cZ f133=some adx:=by kernel_rfl
def PD:aJ:=kS [eF .lss 36 35 34] (.seq (kE 36) (.seq (.block 1 (kS [jm 37 2 33 35,cN 38 2 37,oM 5 (.alloc [zI,zI]),b9 2 5 38] (.seq (kS [oM 39 (.cg 1 (some 2) (.t 5) (kI 1)),bE 40 39,aq 41 3,eF .neq 42 40 41] (kC 42 (.exit 1))) (kD [aq 43 0,dC 44 43,aY 45 44 2,bE 46 45,oM 47 (.cg 1 (some 2) (.t 5) (kI 0)),bE 48 47,jm 49 3 46 48,aq 6 49] [0,1,2,4,0,16,40,127] (kS [aq 50 0,cN 51 65 2,oM 52 (.cg 1 (some 2) (.t 5) (kI 0)),bE 53 52,bK 54 189 [.t 50,.t 51,.t 53],aq 7 54] (.seq (kS [aq 55 6,dC 56 55,aY 57 56 2,bE 58 57,aq 59 7,bK 60 190 [.t 58,.t 59]] (kC 60 (.exit 1))) (.seq (kS [aq 61 7,aq 62 6,dC 63 62,aY 64 63 1,bE 65 64,eF .and 66 61 65,aq 8 66] (kS [aq 67 8,oM 68 (.bin .neq (.t 67) (.c (.d (.int .u64 0))))] (kC 68 (kR [aq 69 8,aq 7 69])))) (.region true [aq 70 6,aq 71 6,dC 72 71,aY 73 72 2,bE 74 73,aq 75 7,bK 76 128 [.t 75],bK 77 133 [.t 74,.t 76],dC 78 70,aY 79 78 2,b9 1 79 77] [0,0,2,4,8,0,32,80,255,511,767])))))))) (kR [bP .add 80 35 1,aq 35 80])))
def ady:aJ:=kD [aq 9 0,dC 10 9,aY 11 10 3,bE 12 11,aq 13 0,dC 14 13,aY 15 14 0,bE 16 15,bK 17 187 [.t 12,.t 16],oM 2 (.alloc [zI,.d (.int .u64 0),.d (.int .u64 0),.d (.int .u64 0),.d (.int .u64 0),.d (.int .u64 0),.d (.int .u64 0),.d (.int .u64 0),.d (.int .u64 0),.d (.int .u64 0),.d (.int .u64 0),.d (.int .u64 0),.d (.int .u64 0),.d (.int .u64 0),.d (.int .u64 0),.d (.int .u64 0),.d (.int .u64 0),.d (.int .u64 0),.d (.int .u64 0),.d (.int .u64 0),.d (.int .u64 0),.d (.int .u64 0),.d (.int .u64 0),.d (.int .u64 0),.d (.int .u64 0),.d (.int .u64 0),.d (.int .u64 0),.d (.int .u64 0),.d (.int .u64 0),.d (.int .u64 0),.d (.int .u64 0),.d (.int .u64 0),.d (.int .u64 0),.d (.int .u64 0),.d (.int .u64 0),.d (.int .u64 0),.d (.int .u64 0),.d (.int .u64 0),.d (.int .u64 0),.d (.int .u64 0),.d (.int .u64 0),.d (.int .u64 0),.d (.int .u64 0),.d (.int .u64 0),.d (.int .u64 0),.d (.int .u64 0),.d (.int .u64 0),.d (.int .u64 0),.d (.int .u64 0),.d (.int .u64 0),.d (.int .u64 0),.d (.int .u64 0),.d (.int .u64 0),.d (.int .u64 0),.d (.int .u64 0),.d (.int .u64 0),.d (.int .u64 0),.d (.int .u64 0),.d (.int .u64 0),.d (.int .u64 0),.d (.int .u64 0),.d (.int .u64 0),.d (.int .u64 0),.d (.int .u64 0),.d (.int .u64 0)]),b9 65 2 17] [0,1,2,4,0,16,32,64,136,0,1023] (kS [aq 18 0,dC 19 18,aY 20 19 3,bE 21 20,iy 22 21,bP .sub 23 22 1,aq 3 23] (kD [cN 24 65 2,aq 25 0,dC 26 25,aY 27 26 3,bE 28 27,aq 29 0,dC 30 29,aY 31 30 0,bE 32 31,bK 33 188 [.t 24,.t 28,.t 32],iy 34 33,bz 35 (kI 0)] [0,0,2,4,8,0,32,64,128,273,512,0] (mM PD)))
theorem WC:cZ f134=some ady:=by kernel_rfl
def BA:aJ:=kS [bP .lss 76 75 4] (.seq (.cond (.t 76) .skip (.exit 2)) (.seq (.block 3 (kS [aq 77 75,aq 8 77] (kS [aq 79 0,aq 80 4,dC 81 79,aY 82 81 32,oM 83 (.cg 74 (some 4) (.t 82) (.t 80)),cN 84 74 83,aq 85 8,bK 86 193 [.t 84,.t 85],aq 78 86,iL 87 78 0,iL 88 78 1,iL 89 78 2,iL 90 78 3,aq 9 87,aq 10 88,aq 11 89,aq 12 90] (kS [aq 91 0,dC 92 91,aY 93 92 3,bE 94 93,bP .eql 95 94 3,aq 96 95,ir 97 12 96,ia 98 96 97] (kC 98 (kR [aq 99 3,aq 100 4,oM 101 (.bin .mul (kI 4) (.t 100)),oM 102 (.bin .add (kI 8) (.t 101)),aq 103 8,eF .add 104 102 103,bK 105 133 [.t 99,.t 104],aq 3 105])))))) (kR [bP .add 106 75 1,aq 75 106])))
def PF:aJ:=kS [bP .lss 14 13 4] (.seq (kE 14) (.seq (.block 1 (kS [aq 15 13,aq 4 15] (kD [aq 17 0,dC 18 17,aY 19 18 0,cN 20 3 19,aq 21 4,aq 22 0,aq 23 4,dC 24 22,aY 25 24 4,oM 26 (.cg 5 (some 4) (.t 25) (.t 23)),cN 27 5 26,bK 28 191 [.t 20,.t 21,.t 27],aq 16 28,iL 29 16 0,iL 30 16 1,oM 5 (.alloc [zI,zI,zI,zI,zI,zI,zI,zI,zI]),b9 9 5 29,aq 6 30] [0,1,2,4,0,0,0,32,128,320,512,1048,2048,4096,4096,0,49151,131071] (kS [aY 31 5 0,bE 32 31,bP .eql 33 32 3,aq 34 33,jY 35 5 0 34,ma 36 35 34,df 37 (iX .eql 36 4) 34,iK 38 34 37,aq 7 38] (.seq (kS [aq 39 6,aq 40 39,ir 41 7 40,cO 42 (gl 41) 40,ir 43 42 40,kL 44 0 43,kL 45 4 43,df 46 (wU 44) 43,jY 47 46 32 43,df 48 (.cg 74 (some 4) (.t 47) (.t 45)) 43,df 49 (o1 74 48) 43,df 50 (.bW 192 [.t 49]) 43,cO 51 (Rt 43 50) 40,ia 52 40 51] (kC 52 (kR [aq 53 3,aq 54 4,bK 55 133 [.t 53,.t 54],aq 3 55]))) (.seq (kS [aq 56 0,dC 57 56,aY 58 57 3,bE 59 58,bP .eql 60 59 2,aq 61 60,ir 62 0 61,ir 63 4 61,cO 64 (wU 62) 61,jn 65 64 32 61,cO 66 (.cg 74 (some 4) (.t 65) (.t 63)) 61,cO 67 (o1 74 66) 61,cO 68 (.bW 192 [.t 67]) 61,cO 69 (gl 68) 61,ia 70 61 69] (kC 70 (kR [aq 71 3,aq 72 4,oM 73 (.bin .add (kI 4) (.t 72)),bK 74 133 [.t 71,.t 73],aq 3 74]))) (kS [bz 75 (kI 0)] (.block 2 (.loop BA))))))))) (kR [bP .add 107 13 1,aq 13 107])))
def adz:aJ:=kS [bz 2 (.c (.d (.int .u64 0)))] (kS [bz 3 (.c (.d (.int .u64 0)))] (.seq (kS [bz 13 (kI 0)] (mM PF)) (kS [aq 108 3,aq 2 108] .ret)))
theorem WD:cZ f135=some adz:=by kernel_rfl
def PG:aJ:=kS [eF .lss 12 11 10] (.seq (kE 12) (.seq (.block 1 (kS [aq 13 11,jm 14 1 9 11,bE 15 14,aq 5 13,aq 6 15] (.seq (kS [aq 16 5,aq 17 1,iy 18 17,eF .geq 19 16 18] (kC 19 (kS [bz 4 (kI 1)] .ret))) (kS [aq 20 1,aq 21 5,jm 22 1 20 21,bE 23 22,aq 7 23] (kS [aq 24 6,aq 25 7,bK 26 204 [.t 24,.t 25],aq 8 26] (kS [aq 27 8,bP .neq 28 27 0] (kC 28 (kS [aq 29 8,aq 4 29] .ret)))))))) (kR [bP .add 30 11 1,aq 11 30])))
def adA:aJ:=kS [bz 4 (kI 0)] (.seq (kS [aq 9 0,iy 10 9,bz 11 (kI 0)] (mM PG)) (.seq (kS [aq 31 0,iy 32 31,aq 33 1,iy 34 33,eF .lss 35 32 34] (kC 35 (kS [bz 4 (kI (-1))] .ret))) (kS [bz 4 (kI 0)] .ret)))
theorem WE:cZ f138=some adA:=by kernel_rfl
def PH:aJ:=kS [eF .lss 9 8 7] (.seq (kE 9) (.seq (.block 1 (kS [jm 10 1 6 8,bE 11 10,aq 5 11] (kS [aq 12 5,aq 13 3,eF .neq 14 12 13] (kC 14 (kS [aq 15 5,aq 2 15] .ret))))) (kR [bP .add 16 8 1,aq 8 16])))
def adB:aJ:=kS [bz 2 (kI 0)] (kS [bz 3 (kI 0)] (.seq (kS [aq 6 0,iy 7 6,bz 8 (kI 0)] (mM PH)) (kS [aq 17 3,aq 2 17] .ret)))
theorem WG:cZ f139=some adB:=by kernel_rfl
def PI:aJ:=kS [eF .lss 10 9 8] (.seq (kE 10) (.seq (.block 1 (kS [jm 11 1 7 9,bE 12 11,aq 5 12] (kR [aq 13 3,aq 14 5,iy 15 14,eF .add 16 13 15,aq 3 16]))) (kR [bP .add 17 9 1,aq 9 17])))
def adC:aJ:=kS [oM 1 (cM 0),bz 2 (kI 0)] (kS [bz 3 (kI 0)] (.seq (kS [aY 6 1 2,bE 7 6,iy 8 7,bz 9 (kI 0)] (mM PI)) (kS [aq 18 3,aq 2 18] .ret)))
theorem WH:cZ f168=some adC:=by kernel_rfl
def adD:aJ:=kS [bz 3 fv] (kS [aq 4 0,bP .geq 5 4 0,aq 6 5,ir 7 0 6,jn 8 1 0 6,lE 9 8 6,cO 10 (mq 9) 6,cO 11 (r9 .lss 7 10) 6,ia 12 6 11,aq 3 12] .ret)
theorem WI:cZ f169=some adD:=by kernel_rfl
def adE:aJ:=kS [oM 2 (cM 0),bz 3 fv] (kS [cN 4 9 2,bE 5 1,bK 6 171 [.t 4,.t 5],oM 7 (gl 6),aq 3 7] .ret)
theorem WJ:cZ f170=some adE:=by kernel_rfl
def aie:aJ:=kS [bz 2 (.c zN)] (.seq (kS [aq 3 0,oM 4 (.j6 (.yJ false) [.t 3,.c zN])] (kC 4 (kS [bz 2 (.c zN)] .ret))) (kS [oM 5 (.cF 1 0 [] []),aq 6 0,oM 7 (.app 1 1 5 (.t 5) (.t 6)),aq 2 7] .ret))
theorem WK:cZ f172=some aie:=by kernel_rfl
def aif:aJ:=kS [bz 2 (.c zN)] (.seq (kS [aq 3 0,oM 4 (.j6 (.yJ false) [.t 3,.c zN])] (kC 4 (kS [bz 2 (.c zN)] .ret))) (kS [oM 5 (.cF 1 0 [] []),aq 6 0,oM 7 (.app 1 8 2 (.t 5) (.t 6)),aq 2 7] .ret))
theorem WL:cZ f173=some aif:=by kernel_rfl
def PJ:aJ:=.seq (kS [aY 10 3 0,bE 11 10,bP .geq 12 11 0,aq 13 12,jn 14 3 0 13,lE 15 14 13,ir 16 0 13,cO 17 (mq 16) 13,cO 18 (r9 .lss 15 17) 13,ia 19 13 18] (kE 19)) (.block 1 (kS [aq 20 0,aY 21 3 0,bE 22 21,jm 23 9 20 22,cN 24 9 23,oM 5 (.alloc [zI,zI,zI,zI,zI,zI,zI,zI,zI]),b9 9 5 24] (kD [aY 25 5 3,cN 26 2 25,cN 27 5 3,bK 28 234 [.t 26,.t 27],aY 29 5 6,cN 30 2 29,cN 31 5 3,bK 32 234 [.t 30,.t 31],aq 6 28,aq 7 32] [0,1,0,6,0,16,0,104,143,511] (.seq (kS [aY 33 5 0,bE 34 33] (.block 2 (kS [bP .eql 37 34 5,aq 36 37] (.cond (.t 36) (.seq (kS [aY 39 5 5,bE 40 39,aq 41 6,aq 42 7,bK 43 235 [.t 40,.t 41,.t 42],aq 38 43,iL 44 38 0,iL 45 38 1,aq 8 44,aq 9 45] (kS [aq 46 9] (kC 46 (kR [aq 47 8,aq 6 47])))) (kR [aY 48 5 1,bE 49 48,aq 50 6,bK 51 236 [.t 3,.t 49,.t 50]])) (kS [bP .eql 53 34 6,aq 52 53] (.cond (.t 52) (kS [aq 54 6,aq 55 7,eF .eql 56 54 55] (kC 56 (kR [aY 57 3 0,bE 58 57,aY 59 5 8,bE 60 59,oM 61 (.wk (.t 60) (kI 0)),aq 62 0,iy 63 62,oM 64 (.yM (.t 61) (.t 63)),eF .add 65 58 64,aY 66 3 0,b9 1 66 65]))) (kS [cN 35 5 3,b9 5 4 35] .ret))))))) (kR [aY 67 3 0,bE 68 67,bP .add 69 68 1,aY 70 3 0,b9 1 70 69])))))
def adF:aJ:=kS [oM 3 (cM 1),oM 4 (.alloc [zI,zI,zI,zI,zI])] (.seq (mM PJ) (kS [cN 71 5 3,b9 5 4 71] .ret))
theorem WN:cZ f174=some adF:=by kernel_rfl
def adG:aJ:=kS [oM 2 (cM 0),bz 4 (.c zN)] (.seq (kS [aq 5 1,bP .lss 6 5 0,aq 7 6,kL 8 1 7,jY 9 2 2 7,ma 10 9 7,df 11 (mq 10) 7,df 12 (r9 .geq 8 11) 7,iK 13 7 12] (kC 13 (kS [bz 4 (.c zN)] .ret))) (kS [aY 14 2 2,bE 15 14,aq 16 1,jm 17 1 15 16,bE 18 17,aq 4 18] .ret))
theorem WO:cZ f175=some adG:=by kernel_rfl
def PK:aJ:=kS [eF .lss 9 8 7] (.seq (kE 9) (.seq (.block 1 (kS [jm 10 1 6 8,bE 11 10,aq 5 11] (kR [aq 12 3,aq 13 5,bK 14 133 [.t 12,.t 13],aq 3 14]))) (kR [bP .add 15 8 1,aq 8 15])))
def adH:aJ:=kS [bz 2 (.c (.d (.int .u64 0)))] (kS [bz 3 (.c (.d (.int .u64 0)))] (.seq (kS [aq 6 0,iy 7 6,bz 8 (kI 0)] (mM PK)) (kS [aq 16 3,aq 2 16] .ret)))
theorem WQ:cZ f176=some adH:=by kernel_rfl
def aih:aJ:=kS [bz 2 (.c zN)] (.seq (kS [aq 3 0,oM 4 (.j6 (.yJ false) [.t 3,.c zN])] (kC 4 (kS [bz 2 (.c zN)] .ret))) (kS [oM 5 (.cF 7 0 [] []),aq 6 0,oM 7 (.app 7 56 203 (.t 5) (.t 6)),aq 2 7] .ret))
theorem WR:cZ f178=some aih:=by kernel_rfl
def adI:aJ:=kS [bz 4 fv] (kS [aq 5 0,aq 6 1,bK 7 186 [.t 6],eF .and 8 5 7,oM 9 (.bin .neq (.t 8) (.c (.d (.int .u64 0)))),aq 4 9] .ret)
theorem WS:cZ f179=some adI:=by kernel_rfl
def adJ:aJ:=kS [oM 4 (.alloc [zI,zI,zI,zI,zI,zI,zI])] (kS [aq 16 0,aq 17 1,dC 18 16,aY 19 18 4,oM 20 (.cg 5 (some 4) (.t 19) (.t 17)),cN 21 5 20,oM 5 (.alloc [zI,zI,zI,zI,zI]),b9 5 5 21] (kD [aq 23 0,dC 24 23,aY 25 24 0,cN 26 3 25,aq 27 1,cN 28 5 5,bK 29 191 [.t 26,.t 27,.t 28],aq 22 29,iL 30 22 0,iL 31 22 1,oM 6 (.alloc [zI,zI,zI,zI,zI,zI,zI,zI,zI]),b9 9 6 30,aq 7 31] [0,1,2,4,0,0,56,64,128,128,0,1535,4095] (kD [aq 32 0,aY 33 6 2,bE 34 33,dC 35 32,aY 36 35 24,oM 37 (.cg 1 (some 4) (.t 36) (.t 34)),bE 38 37,aq 39 0,aY 40 6 2,bE 41 40,dC 42 39,aY 43 42 28,oM 44 (.cg 1 (some 4) (.t 43) (.t 41)),bE 45 44,aq 8 38,aq 9 45] [0,0,2,1,8,20,32,0,0,256,128,1024,2560,4096,127,32767] (.seq (kD [aq 47 0,aq 48 1,dC 49 47,aY 50 49 32,oM 51 (.cg 74 (some 4) (.t 50) (.t 48)),cN 52 74 51,aY 53 6 2,bE 54 53,bK 55 237 [.t 52,.t 54],aq 46 55,iL 56 46 0,iL 57 46 1,iL 58 46 2,aq 10 56,aq 11 57,aq 12 58] [0,0,1,4,10,16,0,64,160,256,512,512,512,2047,12287,32767] (kS [aq 59 12] (kC 59 (kR [aq 60 10,aq 61 11,aq 8 60,aq 9 61])))) (kS [cN 63 9 6,cN 64 5 5,aq 65 8,bK 66 238 [.t 63,.t 64,.t 65],aq 62 66,iL 67 62 0,iL 68 62 1,oM 13 (.alloc [zI,zI,zI,zI,zI,zI]),b9 6 13 67,aq 14 68] (.seq (kS [aq 69 14,oM 70 (gl 69)] (kC 70 (kR [bz 9 (kI (-1))]))) (kS [aq 71 0,dC 72 71,aY 73 72 328,bE 74 73,iy 75 74,aq 15 75] (.seq (.block 0 (kS [aY 77 13 2,bE 78 77,bP .eql 79 78 2,aq 80 79,ir 81 0 80,cO 82 (wU 81) 80,jn 83 82 3 80,lE 84 83 80,cO 85 (iX .neq 84 1) 80,ia 86 80 85,aq 76 86] (.cond (.t 76) (.region true [aq 87 0,aq 88 1,aq 89 0,aq 90 1,dC 91 89,aY 92 91 32,oM 93 (.cg 74 (some 4) (.t 92) (.t 90)),cN 94 74 93,aY 95 13 3,bE 96 95,aY 97 13 5,bE 98 97,aq 99 15,bK 100 239 [.t 94,.t 96,.t 98,.t 99],dC 101 87,aY 102 101 32,oM 103 (.cg 74 (some 4) (.t 102) (.t 88)),b9 74 103 100] [0,0,0,0,4,16,40,64,0,256,0,1024,0,6784,1,16384,49151,81919]) (kS [cN 105 6 13,bK 106 240 [.t 105],aq 104 106] (kC 104 (.region true [aq 107 0,aY 108 13 3,bE 109 108,aq 110 0,aY 111 13 3,bE 112 111,aY 113 13 5,bE 114 113,aq 115 15,dC 116 107,aY 117 116 24,oM 118 (.cg 1 (some 4) (.t 117) (.t 109)),b9 1 118 114,dC 119 110,aY 120 119 28,oM 121 (.cg 1 (some 4) (.t 120) (.t 112)),b9 1 121 115] [0,0,2,0,0,16,0,64,0,1,512,1223,2247,8,8192,24575,40959])))))) (kD [aq 122 0,aq 123 1,aq 124 0,dC 125 124,aY 126 125 0,cN 127 3 126,aq 128 1,cN 129 5 5,aq 130 8,bK 131 241 [.t 127,.t 128,.t 129,.t 130],dC 132 122,aY 133 132 4,oM 134 (.cg 5 (some 4) (.t 133) (.t 123)),b9 5 134 131] [0,0,0,4,8,16,0,0,0,480,1,1024,3071,5119] (kS [aq 135 1,aY 136 13 2,bE 137 136,aY 138 13 3,bE 139 138,aY 140 13 4,bE 141 140,aY 142 13 5,bE 143 142,aq 144 9,oM 145 (.build [zI,zI,zI,zI,zI,zI,zI] [(1,1,.t 135),(2,1,.t 137),(3,1,.t 139),(4,1,.t 141),(5,1,.t 143),(6,1,.t 144)]),b9 7 4 145] .ret))))))))))
theorem WT:cZ f180=some adJ:=by kernel_rfl
def adK:aJ:=kS [oM 6 (.alloc [zI,zI,zI,zI,zI,zI,zI])] (kS [aq 12 0,aq 13 1,dC 14 12,aY 15 14 32,oM 16 (.cg 74 (some 4) (.t 15) (.t 13)),cN 17 74 16,aq 18 2,bK 19 193 [.t 17,.t 18],aq 11 19,iL 20 11 0,iL 21 11 1,iL 22 11 2,iL 23 11 3,aq 7 20,aq 8 21,aq 9 22,aq 10 23] (kD [aq 24 0,aq 25 1,aq 26 0,aq 27 1,dC 28 26,aY 29 28 32,oM 30 (.cg 74 (some 4) (.t 29) (.t 27)),cN 31 74 30,aq 32 2,bK 33 242 [.t 31,.t 32],dC 34 24,aY 35 34 32,oM 36 (.cg 74 (some 4) (.t 35) (.t 25)),b9 74 36 33] [0,0,0,0,4,16,40,64,0,384,1,1024,3071,5119] (kD [aq 37 0,aq 38 7,aq 39 0,aq 40 7,aq 41 8,aq 42 9,dC 43 37,aY 44 43 24,oM 45 (.cg 1 (some 4) (.t 44) (.t 38)),b9 1 45 41,dC 46 39,aY 47 46 28,oM 48 (.cg 1 (some 4) (.t 47) (.t 40)),b9 1 48 42] [0,0,0,0,0,0,1,64,147,275,4,1024,3071,5119] (kS [aq 49 1,aq 50 7,aq 51 8,aq 52 9,oM 53 (.build [zI,zI,zI,zI,zI,zI,zI] [(1,1,.t 49),(2,1,kI 6),(3,1,.t 50),(5,1,.t 51),(6,1,.t 52)]),b9 7 6 53] .ret))))
theorem WU:cZ f181=some adK:=by kernel_rfl
def PL:aJ:=.seq (kS [aq 4 0,oM 5 (.bin .neq (.t 4) (.c (.d (.int .u64 0))))] (kE 5)) (.seq (.block 1 (kR [aq 10 3,aq 11 0,bK 12 128 [.t 11],oM 13 (.cF 1 1 [zI] [(0,1,.t 12)]),oM 14 (.app 1 8 3 (.t 10) (.t 13)),aq 3 14])) (kR [aq 6 0,aq 7 0,oM 8 (.bin .sub (.t 7) (.c (.d (.int .u64 1)))),eF .and 9 6 8,aq 0 9]))
def adL:aJ:=kS [bz 2 (.c zN)] (kS [bz 3 (.c zN)] (.seq (mM PL) (kS [aq 15 3,aq 2 15] .ret)))
theorem WV:cZ f182=some adL:=by kernel_rfl
def adM:aJ:=kS [oM 4 (.alloc [zI,zI,zI,zI,zI,zI,zI]),bz 5 fv] (kS [aq 6 0,bK 7 130 [.t 6],aq 8 1,bK 9 131 [.t 7,.t 8],iL 10 9 0,iL 11 9 1,b9 7 4 10,aq 5 11] .ret)
theorem WW:cZ f183=some adM:=by kernel_rfl
def adN:aJ:=kS [oM 4 (cM 0),oM 5 (cM 1),oM 6 (cM 2),bz 8 fv] (kS [oM 10 (.rY 243 [.t 4]),aq 9 10] (kS [cN 11 7 5,cN 12 7 6,aq 13 3,bK 14 245 [.t 11,.t 12,.t 13],aq 15 14,jn 16 5 1 15,lE 17 16 15,jn 18 6 1 15,lE 19 18 15,cO 20 (r9 .neq 17 19) 15,ir 21 20 15,ir 22 9 21,cO 23 (o1 7 5) 21,cO 24 (.eW (.t 22) [.t 23]) 21,ir 25 24 21,kL 26 9 25,df 27 (o1 7 6) 25,df 28 (.eW (.t 26) [.t 27]) 25,cO 29 (Rt 25 28) 21,cO 30 (wT 21 29) 15,cO 31 (gl 30) 15,ia 32 15 31,aq 8 32] .ret))
theorem WX:cZ f184=some adN:=by kernel_rfl
def adO:aJ:=kS [bz 4 (.c (.d (.int .u64 0)))] (kS [aq 5 0,aq 6 1,bK 7 186 [.t 6],eF .andNot 8 5 7,aq 4 8] .ret)
theorem WY:cZ f185=some adO:=by kernel_rfl
def adP:aJ:=kS [bz 2 (.c (.d (.int .u64 0)))] (.seq (kS [aq 3 0,bP .lss 4 3 0,aq 5 4,kL 6 0 5,df 7 (iX .geq 6 64) 5,iK 8 5 7] (kC 8 (kS [bz 2 (.c (.d (.int .u64 0)))] .ret))) (kS [aq 9 0,oM 10 (.IJ .u64 (.t 9)),oM 11 (.bin .shl (.c (.d (.int .u64 1))) (.t 10)),aq 2 11] .ret))
theorem WZ:cZ f186=some adP:=by kernel_rfl
def Hf:aJ:=.seq (kS [aq 27 8,aq 28 0,iy 29 28,eF .lss 30 27 29] (.cond (.t 30) .skip (.exit 2))) (.seq (.block 3 (kS [aq 33 0,aq 34 8,jm 35 7 33 34,cN 36 7 35,oM 9 (.alloc [zI,zI,zI,zI,zI,zI,zI]),b9 7 9 36] (kS [cN 37 7 7,aq 38 1,bK 39 247 [.t 37,.t 38],aq 40 39,cO 41 (o1 7 9) 40,ir 42 1 40,cO 43 (.bW 247 [.t 41,.t 42]) 40,ia 44 40 43,aq 45 44,jn 46 7 3 45,lE 47 46 45,jn 48 9 3 45,lE 49 48 45,cO 50 (r9 .eql 47 49) 45,ia 51 45 50,aq 10 51] (kS [aY 52 7 0,bE 53 52,aY 54 9 0,bE 55 54,eF .eql 56 53 55,aq 57 56,kL 58 10 57,iK 59 57 58,aq 60 59,jY 61 9 2 60,ma 62 61 60,df 63 (iX .eql 62 6) 60,kL 64 63 60,jn 65 9 6 64,lE 66 65 64,ir 67 6 64,cO 68 (r9 .eql 66 67) 64,df 69 (wT 64 68) 60,iK 70 60 69,aq 71 70,jY 72 7 2 71,ma 73 72 71,df 74 (iX .eql 73 6) 71,kL 75 74 71,jn 76 7 1 75,lE 77 76 75,jn 78 9 1 75,lE 79 78 75,cO 80 (r9 .eql 77 79) 75,df 81 (wT 75 80) 71,kL 82 81 71,cO 83 (o1 7 9) 82,cO 84 (.bW 248 [.t 83]) 82,df 85 (wT 82 84) 71,iK 86 71 85] (kC 86 (kR [cN 87 65 5,aq 88 6,aq 89 8,bK 90 249 [.t 87,.t 88,.t 89],b9 65 5 90])))))) (kR [aq 31 8,bP .add 32 31 1,aq 8 32]))
def PM:aJ:=kS [eF .lss 21 20 19] (.seq (kE 21) (.seq (.block 1 (kS [aq 22 20,jm 23 7 18 20,cN 24 7 23,oM 7 (.alloc [zI,zI,zI,zI,zI,zI,zI]),aq 6 22,b9 7 7 24] (.seq (kS [aq 25 6,bP .add 26 25 1,aq 8 26] (.block 2 (.loop Hf))) (kS [cN 91 7 7,bK 92 250 [.t 91]] (kC 92 (kR [cN 93 65 5,aq 94 0,aq 95 1,aq 96 6,bK 97 251 [.t 93,.t 94,.t 95,.t 96],b9 65 5 97])))))) (kR [bP .add 98 20 1,aq 20 98])))
def adQ:aJ:=kS [oM 4 (.alloc [zI,.d (.int .u64 0),.d (.int .u64 0),.d (.int .u64 0),.d (.int .u64 0),.d (.int .u64 0),.d (.int .u64 0),.d (.int .u64 0),.d (.int .u64 0),.d (.int .u64 0),.d (.int .u64 0),.d (.int .u64 0),.d (.int .u64 0),.d (.int .u64 0),.d (.int .u64 0),.d (.int .u64 0),.d (.int .u64 0),.d (.int .u64 0),.d (.int .u64 0),.d (.int .u64 0),.d (.int .u64 0),.d (.int .u64 0),.d (.int .u64 0),.d (.int .u64 0),.d (.int .u64 0),.d (.int .u64 0),.d (.int .u64 0),.d (.int .u64 0),.d (.int .u64 0),.d (.int .u64 0),.d (.int .u64 0),.d (.int .u64 0),.d (.int .u64 0),.d (.int .u64 0),.d (.int .u64 0),.d (.int .u64 0),.d (.int .u64 0),.d (.int .u64 0),.d (.int .u64 0),.d (.int .u64 0),.d (.int .u64 0),.d (.int .u64 0),.d (.int .u64 0),.d (.int .u64 0),.d (.int .u64 0),.d (.int .u64 0),.d (.int .u64 0),.d (.int .u64 0),.d (.int .u64 0),.d (.int .u64 0),.d (.int .u64 0),.d (.int .u64 0),.d (.int .u64 0),.d (.int .u64 0),.d (.int .u64 0),.d (.int .u64 0),.d (.int .u64 0),.d (.int .u64 0),.d (.int .u64 0),.d (.int .u64 0),.d (.int .u64 0),.d (.int .u64 0),.d (.int .u64 0),.d (.int .u64 0),.d (.int .u64 0)])] (.seq (kS [aq 11 0,iy 12 11,bP .gtr 13 12 64] (kC 13 (kS [bK 14 246 [kI 0],b9 65 4 14] .ret))) (kS [aq 15 0,iy 16 15,bK 17 246 [.t 16],oM 5 (.alloc [zI,.d (.int .u64 0),.d (.int .u64 0),.d (.int .u64 0),.d (.int .u64 0),.d (.int .u64 0),.d (.int .u64 0),.d (.int .u64 0),.d (.int .u64 0),.d (.int .u64 0),.d (.int .u64 0),.d (.int .u64 0),.d (.int .u64 0),.d (.int .u64 0),.d (.int .u64 0),.d (.int .u64 0),.d (.int .u64 0),.d (.int .u64 0),.d (.int .u64 0),.d (.int .u64 0),.d (.int .u64 0),.d (.int .u64 0),.d (.int .u64 0),.d (.int .u64 0),.d (.int .u64 0),.d (.int .u64 0),.d (.int .u64 0),.d (.int .u64 0),.d (.int .u64 0),.d (.int .u64 0),.d (.int .u64 0),.d (.int .u64 0),.d (.int .u64 0),.d (.int .u64 0),.d (.int .u64 0),.d (.int .u64 0),.d (.int .u64 0),.d (.int .u64 0),.d (.int .u64 0),.d (.int .u64 0),.d (.int .u64 0),.d (.int .u64 0),.d (.int .u64 0),.d (.int .u64 0),.d (.int .u64 0),.d (.int .u64 0),.d (.int .u64 0),.d (.int .u64 0),.d (.int .u64 0),.d (.int .u64 0),.d (.int .u64 0),.d (.int .u64 0),.d (.int .u64 0),.d (.int .u64 0),.d (.int .u64 0),.d (.int .u64 0),.d (.int .u64 0),.d (.int .u64 0),.d (.int .u64 0),.d (.int .u64 0),.d (.int .u64 0),.d (.int .u64 0),.d (.int .u64 0),.d (.int .u64 0),.d (.int .u64 0)]),b9 65 5 17] (.seq (kS [aq 18 0,iy 19 18,bz 20 (kI 0)] (mM PM)) (kS [cN 99 65 5,bK 100 252 [.t 99],b9 65 4 100] .ret))))
theorem W0:cZ f187=some adQ:=by kernel_rfl
def Hg:aJ:=kS [eF .lss 20 19 18] (.seq (.cond (.t 20) .skip (.exit 2)) (.seq (.block 3 (kS [aq 21 19,aq 10 21] (kD [cN 22 65 3,aq 23 10,aq 24 9,bK 25 255 [.t 22,.t 23,.t 24],aq 26 25,cO 27 (o1 65 3) 26,ir 28 10 26,cO 29 (.bW 256 [.t 27,.t 28]) 26,cO 30 (o1 65 8) 26,ir 31 9 26,cO 32 (.bW 256 [.t 30,.t 31]) 26,cO 33 (r9 .and 29 32) 26,cO 34 (.bin .eql (.t 33) (.c (.d (.int .u64 0)))) 26,ia 35 26 34,aq 36 35,ir 37 1 36,ir 38 10 36,cO 39 (kIa 7 37 38) 36,cO 40 (o1 7 39) 36,ir 41 1 36,ir 42 9 36,cO 43 (kIa 7 41 42) 36,cO 44 (o1 7 43) 36,ir 45 2 36,cO 46 (.bW 257 [.t 40,.t 44,.t 45]) 36,ia 47 36 46] [0,0,0,7,8,16,16,112,16,16,912,1168,2064,4112,9216,16384,16384,114688,147456,16384,16384,1589248,2113536,16384,12861440,16793600] (kC 47 (kR [aq 48 7,aq 49 10,aq 50 9,oM 51 (.build [zI,zI] [(0,1,.t 49),(1,1,.t 50)]),oM 52 (.cF 2 1 [zI,zI] [(0,2,.t 51)]),oM 53 (.app 2 16 247 (.t 48) (.t 52)),aq 7 53]))))) (kR [bP .add 54 19 1,aq 19 54])))
def PN:aJ:=kS [eF .lss 16 15 14] (.seq (kE 16) (.seq (.block 1 (kS [aq 17 15,aq 9 17] (kS [aq 18 9,bz 19 (kI 0)] (.block 2 (.loop Hg))))) (kR [bP .add 55 15 1,aq 15 55])))
def adR:aJ:=kS [oM 3 (cM 0),bz 6 (.c zN)] (kS [bz 7 (.c zN)] (kS [cN 11 65 3,bK 12 253 [.t 11],oM 8 (.alloc [zI,.d (.int .u64 0),.d (.int .u64 0),.d (.int .u64 0),.d (.int .u64 0),.d (.int .u64 0),.d (.int .u64 0),.d (.int .u64 0),.d (.int .u64 0),.d (.int .u64 0),.d (.int .u64 0),.d (.int .u64 0),.d (.int .u64 0),.d (.int .u64 0),.d (.int .u64 0),.d (.int .u64 0),.d (.int .u64 0),.d (.int .u64 0),.d (.int .u64 0),.d (.int .u64 0),.d (.int .u64 0),.d (.int .u64 0),.d (.int .u64 0),.d (.int .u64 0),.d (.int .u64 0),.d (.int .u64 0),.d (.int .u64 0),.d (.int .u64 0),.d (.int .u64 0),.d (.int .u64 0),.d (.int .u64 0),.d (.int .u64 0),.d (.int .u64 0),.d (.int .u64 0),.d (.int .u64 0),.d (.int .u64 0),.d (.int .u64 0),.d (.int .u64 0),.d (.int .u64 0),.d (.int .u64 0),.d (.int .u64 0),.d (.int .u64 0),.d (.int .u64 0),.d (.int .u64 0),.d (.int .u64 0),.d (.int .u64 0),.d (.int .u64 0),.d (.int .u64 0),.d (.int .u64 0),.d (.int .u64 0),.d (.int .u64 0),.d (.int .u64 0),.d (.int .u64 0),.d (.int .u64 0),.d (.int .u64 0),.d (.int .u64 0),.d (.int .u64 0),.d (.int .u64 0),.d (.int .u64 0),.d (.int .u64 0),.d (.int .u64 0),.d (.int .u64 0),.d (.int .u64 0),.d (.int .u64 0),.d (.int .u64 0)]),b9 65 8 12] (.seq (kS [cN 13 65 3,bK 14 254 [.t 13],bz 15 (kI 0)] (mM PN)) (kS [aq 56 7,aq 6 56] .ret))))
theorem W3:cZ f188=some adR:=by kernel_rfl
def PO:aJ:=kS [eF .lss 21 20 19] (.seq (kE 21) (.seq (.block 1 (kS [aq 22 20,jm 23 7 18 20,cN 24 7 23,oM 10 (.alloc [zI,zI,zI,zI,zI,zI,zI]),aq 9 22,b9 7 10 24] (kS [aq 25 8,aY 26 10 0,bE 27 26,oM 28 (.cF 1 1 [zI] [(0,1,.t 27)]),oM 29 (.app 1 8 3 (.t 25) (.t 28)),aq 8 29] (kS [aq 30 9,aq 31 2,eF .gtr 32 30 31,aq 33 32,ir 34 9 33,ir 35 0 33,cO 36 (wU 35) 33,jn 37 36 3 33,lE 38 37 33,cO 39 (mq 38) 33,cO 40 (iX .sub 39 1) 33,cO 41 (r9 .eql 34 40) 33,ir 42 41 33,df 43 (o1 65 4) 42,kL 44 2 42,kL 45 9 42,df 46 (.bW 255 [.t 43,.t 44,.t 45]) 42,df 47 (gl 46) 42,cO 48 (Rt 42 47) 33,ia 49 33 48] (kC 49 (kR [aq 50 7,aq 51 9,bK 52 133 [.t 50,.t 51],aq 7 52])))))) (kR [bP .add 53 20 1,aq 20 53])))
def PU:aJ:=kS [eF .lss 62 61 60] (.seq (.cond (.t 62) .skip (.exit 2)) (.seq (.block 3 (kS [jm 63 1 59 61,bE 64 63,aq 14 64] (kS [cN 65 65 12,aq 66 14,bK 67 256 [.t 65,.t 66],oM 68 (.bin .eql (.t 67) (.c (.d (.int .u64 0))))] (kC 68 (kR [aq 69 11,aq 70 8,aq 71 14,jm 72 1 70 71,bE 73 72,bK 74 133 [.t 69,.t 73],aq 11 74]))))) (kR [bP .add 75 61 1,aq 61 75])))
def adS:aJ:=kS [oM 4 (cM 1),bz 6 (.c (.d (.int .u64 0)))] (kS [bz 7 (.c (.d (.int .u64 0)))] (kS [bz 8 (.c zN)] (.seq (kS [aq 15 0,dC 16 15,aY 17 16 3,bE 18 17,iy 19 18,bz 20 (kI 0)] (mM PO)) (kS [bz 11 (.c (.d (.int .u64 0)))] (kS [cN 54 65 4,aq 55 7,bK 56 258 [.t 54,.t 55],bK 57 253 [.t 56],oM 12 (.alloc [zI,.d (.int .u64 0),.d (.int .u64 0),.d (.int .u64 0),.d (.int .u64 0),.d (.int .u64 0),.d (.int .u64 0),.d (.int .u64 0),.d (.int .u64 0),.d (.int .u64 0),.d (.int .u64 0),.d (.int .u64 0),.d (.int .u64 0),.d (.int .u64 0),.d (.int .u64 0),.d (.int .u64 0),.d (.int .u64 0),.d (.int .u64 0),.d (.int .u64 0),.d (.int .u64 0),.d (.int .u64 0),.d (.int .u64 0),.d (.int .u64 0),.d (.int .u64 0),.d (.int .u64 0),.d (.int .u64 0),.d (.int .u64 0),.d (.int .u64 0),.d (.int .u64 0),.d (.int .u64 0),.d (.int .u64 0),.d (.int .u64 0),.d (.int .u64 0),.d (.int .u64 0),.d (.int .u64 0),.d (.int .u64 0),.d (.int .u64 0),.d (.int .u64 0),.d (.int .u64 0),.d (.int .u64 0),.d (.int .u64 0),.d (.int .u64 0),.d (.int .u64 0),.d (.int .u64 0),.d (.int .u64 0),.d (.int .u64 0),.d (.int .u64 0),.d (.int .u64 0),.d (.int .u64 0),.d (.int .u64 0),.d (.int .u64 0),.d (.int .u64 0),.d (.int .u64 0),.d (.int .u64 0),.d (.int .u64 0),.d (.int .u64 0),.d (.int .u64 0),.d (.int .u64 0),.d (.int .u64 0),.d (.int .u64 0),.d (.int .u64 0),.d (.int .u64 0),.d (.int .u64 0),.d (.int .u64 0),.d (.int .u64 0)]),b9 65 12 57] (.seq (kS [aq 58 7,bK 59 182 [.t 58],iy 60 59,bz 61 (kI 0)] (.block 2 (.loop PU))) (kS [aq 76 11,aq 6 76] .ret)))))))
theorem W4:cZ f189=some adS:=by kernel_rfl
def adT:aJ:=kS [bz 4 fv] (kS [aq 5 1,oM 6 (.bin .eql (.t 5) (.c (.d (.int .u64 0)))),aq 7 6,kL 8 0 7,kL 9 1 7,df 10 (r9 .and 8 9) 7,df 11 (.bin .neq (.t 10) (.c (.d (.int .u64 0)))) 7,iK 12 7 11,aq 4 12] .ret)
theorem W5:cZ f190=some adT:=by kernel_rfl
def adU:aJ:=kS [oM 3 (cM 0),oM 5 (cM 2),oM 6 (.alloc [zI,zI,zI,zI,zI,zI,zI,zI,zI]),bz 7 fv] (kS [cN 10 3 3,aq 11 1,bK 12 175 [.t 10,.t 11],aq 8 12] (.seq (kS [aY 13 5 0,bE 14 13,bP .lss 15 14 0,aq 16 15,jY 17 5 0 16,ma 18 17 16,kL 19 8 16,df 20 (mq 19) 16,df 21 (r9 .geq 18 20) 16,iK 22 16 21] (kC 22 (kS [oM 23 (.build [zI,zI,zI,zI,zI,zI,zI,zI,zI] []),b9 9 6 23,bz 7 fv] .ret))) (kS [aq 24 8,aY 25 5 0,bE 26 25,jm 27 9 24 26,cN 28 9 27,oM 9 (.alloc [zI,zI,zI,zI,zI,zI,zI,zI,zI]),b9 9 9 28] (.seq (kS [aY 29 9 0,bE 30 29,bP .lss 31 30 1,aq 32 31,jY 33 9 0 32,ma 34 33 32,df 35 (iX .gtr 34 4) 32,iK 36 32 35] (kC 36 (kS [oM 37 (.build [zI,zI,zI,zI,zI,zI,zI,zI,zI] []),b9 9 6 37,bz 7 fv] .ret))) (kS [cN 38 9 9,b9 9 6 38,bz 7 sg] .ret)))))
theorem W6:cZ f191=some adU:=by kernel_rfl
def adV:aJ:=kS [oM 1 (cM 0),bz 2 fv] (kS [aY 3 1 1,bE 4 3,bP .eql 5 4 0,aq 2 5] .ret)
theorem W7:cZ f192=some adV:=by kernel_rfl
def adW:aJ:=kS [oM 2 (cM 0),bz 4 (kI 0),bz 5 (kI 0),bz 6 (kI 0),bz 7 fv] (kS [cN 9 74 2,aq 10 1,bK 11 259 [.t 9,.t 10],aq 8 11] (.seq (kS [aq 12 8,bP .lss 13 12 0] (kC 13 (kS [bz 4 (kI 0),bz 5 (kI 0),bz 6 (kI 0),bz 7 fv] .ret))) (kD [aq 14 8,aY 15 2 2,oM 16 (.cg 3 (some 24) (.t 15) (.t 14)),aY 17 16 0,bE 18 17,aq 19 8,aY 20 2 2,oM 21 (.cg 3 (some 24) (.t 20) (.t 19)),aY 22 21 1,bE 23 22,aq 24 8,aY 25 2 2,oM 26 (.cg 3 (some 24) (.t 25) (.t 24)),aY 27 26 2,bE 28 27,aq 4 18,aq 5 23,aq 6 28,bz 7 sg] [0,0,3,4,8,0,0,96,128,256,0,0,3072,4096,8192,31,33791,131071,262143] .ret)))
theorem W8:cZ f193=some adW:=by kernel_rfl
def adX:aJ:=kS [bz 4 (kI 0)] (kS [aq 7 0,bK 8 265 [.t 7],aq 5 8] (kS [aq 9 1,bK 10 265 [.t 9],aq 6 10] (.seq (kS [aq 11 5] (kC 11 (.seq (kS [aq 12 6] (kC 12 (kS [bz 4 (kI 0)] .ret))) (kS [bz 4 (kI (-1))] .ret)))) (.seq (kS [aq 13 6] (kC 13 (kS [bz 4 (kI 1)] .ret))) (.seq (kS [aq 14 0,aq 15 1,eF .lss 16 14 15] (kC 16 (kS [bz 4 (kI (-1))] .ret))) (.seq (kS [aq 17 0,aq 18 1,eF .gtr 19 17 18] (kC 19 (kS [bz 4 (kI 1)] .ret))) (kS [bz 4 (kI 0)] .ret)))))))
theorem W9:cZ f204=some adX:=by kernel_rfl
def adY:aJ:=kS [oM 2 (cM 0),oM 3 (cM 1),bz 4 (kI 0)] (.seq (kS [aY 5 2 0,bE 6 5,bP .geq 7 6 0,aq 8 7,jn 9 2 0 8,lE 10 9 8,cO 11 (iX .lss 10 4) 8,ia 12 8 11] (kC 12 (kS [aY 13 2 0,bE 14 13,aY 15 3 1,oM 16 (.cg 1 (some 4) (.t 15) (.t 14)),bE 17 16,aq 4 17] .ret))) (kS [aY 18 2 1,bE 19 18,aq 4 19] .ret))
theorem Xa:cZ f234=some adY:=by kernel_rfl
def adZ:aJ:=kS [aq 6 1,bP .geq 7 6 0,aq 8 7,ir 9 1 8,cO 10 (iX .lss 9 4) 8,ia 11 8 10] (kC 11 (kR [aq 12 0,aq 13 1,aq 14 2,dC 15 12,aY 16 15 1,oM 17 (.cg 1 (some 4) (.t 16) (.t 13)),b9 1 17 14]))
theorem Xb:cZ f236=some adZ:=by kernel_rfl
def PV:aJ:=.seq (kS [aq 11 7,bP .geq 12 11 0] (kE 12)) (.seq (.block 1 (kS [aq 15 7,aY 16 2 2,oM 17 (.cg 3 (some 24) (.t 16) (.t 15)),aY 18 17 0,bE 19 18,aq 20 1,eF .eql 21 19 20] (kC 21 (kD [aq 22 7,aY 23 2 2,oM 24 (.cg 3 (some 24) (.t 23) (.t 22)),aY 25 24 1,bE 26 25,aq 27 7,aY 28 2 2,oM 29 (.cg 3 (some 24) (.t 28) (.t 27)),aY 30 29 2,bE 31 30,aq 4 26,aq 5 31,bz 6 sg] [0,0,3,4,8,0,0,96,128,256,31,2047,4095] .ret)))) (kR [aq 13 7,bP .sub 14 13 1,aq 7 14]))
def ad0:aJ:=kS [oM 2 (cM 0),bz 4 (kI 0),bz 5 (kI 0),bz 6 fv] (.seq (kS [aY 8 2 1,bE 9 8,bP .sub 10 9 1,aq 7 10] (mM PV)) (kS [bz 4 (kI 0),bz 5 (kI 0),bz 6 fv] .ret))
theorem Xc:cZ f237=some ad0:=by kernel_rfl
def ad1:aJ:=kS [oM 3 (cM 0),oM 4 (cM 1),oM 6 (.alloc [zI,zI,zI,zI,zI,zI]),bz 7 fv] (.seq (kS [aY 8 3 0,bE 9 8] (.block 0 (kS [bP .eql 11 9 1,aq 10 11] (.cond (.t 10) (kD [aY 12 3 2,bE 13 12,aY 14 3 3,cN 15 2 14,cN 16 5 4,bK 17 234 [.t 15,.t 16],oM 18 (.build [zI,zI,zI,zI,zI,zI] [(2,1,kI 2),(3,1,.t 13),(5,1,.t 17)]),b9 6 6 18,bz 7 fv] [0,1,0,4,0,24,34,127,255] .ret) (kS [bP .eql 20 9 2,aq 19 20] (.cond (.t 19) (kS [aY 21 3 2,bE 22 21,aq 23 2,oM 24 (.build [zI,zI,zI,zI,zI,zI] [(2,1,kI 1),(3,1,.t 22),(4,1,.t 23)]),b9 6 6 24,bz 7 sg] .ret) (kS [bP .eql 26 9 4,aq 25 26] (kC 25 (.seq (kS [aY 27 3 3,cN 28 2 27,cN 29 5 4,bK 30 234 [.t 28,.t 29],aq 31 2,eF .eql 32 30 31] (kC 32 (kD [aY 33 3 2,bE 34 33,aq 35 2,aY 36 3 6,cN 37 2 36,cN 38 5 4,bK 39 234 [.t 37,.t 38],oM 40 (.build [zI,zI,zI,zI,zI,zI] [(2,1,kI 4),(3,1,.t 34),(4,1,.t 35),(5,1,.t 39)]),b9 6 6 40,bz 7 sg] [0,1,0,0,8,0,48,70,255,511] .ret))) (kS [aY 41 3 2,bE 42 41,aq 43 2,oM 44 (.build [zI,zI,zI,zI,zI,zI] [(2,1,kI 5),(3,1,.t 42),(4,1,.t 43)]),b9 6 6 44,bz 7 sg] .ret)))))))))) (kS [oM 45 (.build [zI,zI,zI,zI,zI,zI] [(2,1,kI 3)]),b9 6 6 45,bz 7 fv] .ret))
theorem Xd:cZ f238=some ad1:=by kernel_rfl
def ad2:aJ:=kS [oM 4 (cM 0),oM 8 (.alloc [zI,zI,zI,zI,zI,zI,zI,zI,zI,zI,zI,zI,zI,zI,zI,zI,zI,zI,zI,zI,zI,zI,zI,zI,zI,zI,zI,zI,zI,zI,zI,zI,zI,zI,zI,zI,zI,zI,zI,zI,zI,zI,zI,zI,zI,zI,zI,zI,zI,zI,zI,zI,zI,zI,zI,zI,zI,zI,zI,zI,zI,zI,zI,zI,zI,zI,zI,zI,zI,zI,zI,zI,zI,zI])] (.seq (kS [aY 9 4 0,bE 10 9,bP .eql 11 10 0,aq 12 11,kL 13 1 12,df 14 (iX .lss 13 0) 12,iK 15 12 14,aq 16 15,kL 17 1 16,df 18 (iX .geq 17 4) 16,iK 19 16 18,aq 20 19,jY 21 4 1 20,ma 22 21 20,df 23 (iX .geq 22 24) 20,iK 24 20 23] (kC 24 (kS [cN 25 74 4,b9 74 8 25] .ret))) (kS [aY 26 4 1,bE 27 26,aq 28 1,aq 29 2,aq 30 3,oM 31 (.build [zI,zI,zI] [(0,1,.t 28),(1,1,.t 29),(2,1,.t 30)]),aY 32 4 2,oM 33 (.cg 3 (some 24) (.t 32) (.t 27)),b9 3 33 31] (kS [aY 34 4 1,bE 35 34,bP .add 36 35 1,aY 37 4 1,b9 1 37 36] (kS [cN 38 74 4,b9 74 8 38] .ret))))
theorem Xe:cZ f239=some ad2:=by kernel_rfl
def ad3:aJ:=kS [oM 1 (cM 0),bz 2 fv] (kS [aY 3 1 2,bE 4 3,bP .eql 5 4 2,aq 6 5,jY 7 1 2 6,ma 8 7 6,df 9 (iX .eql 8 4) 6,iK 10 6 9,aq 2 10] .ret)
theorem Xf:cZ f240=some ad3:=by kernel_rfl
def ad4:aJ:=kS [oM 4 (cM 0),oM 6 (cM 2),oM 8 (.alloc [zI,zI,zI,zI,zI])] (kS [cN 12 3 4,aq 13 1,cN 14 5 6,bK 15 191 [.t 12,.t 13,.t 14],aq 11 15,iL 16 11 0,iL 17 11 1,oM 9 (.alloc [zI,zI,zI,zI,zI,zI,zI,zI,zI]),b9 9 9 16,aq 10 17] (.seq (kS [aq 18 10,oM 19 (gl 18)] (kC 19 (kS [cN 20 5 6,b9 5 8 20] .ret))) (.seq (kS [aY 21 9 0,bE 22 21,bP .eql 23 22 2,aq 24 23,jY 25 9 0 24,ma 26 25 24,df 27 (iX .eql 26 4) 24,iK 28 24 27] (kC 28 (kR [aY 29 9 1,bE 30 29,aq 31 3,bK 32 236 [.t 6,.t 30,.t 31]]))) (kS [aY 33 6 0,bE 34 33,bP .add 35 34 1,aY 36 6 0,b9 1 36 35] (kD [cN 37 3 4,aq 38 1,bK 39 175 [.t 37,.t 38],cN 40 5 6,bK 41 174 [.t 39,.t 40],b9 5 8 41] [0,0,3,0,12,31] .ret)))))
theorem Xg:cZ f241=some ad4:=by kernel_rfl
def ad5:aJ:=kS [oM 2 (cM 0),oM 4 (.alloc [zI,zI,zI,zI,zI,zI,zI,zI,zI,zI,zI,zI,zI,zI,zI,zI,zI,zI,zI,zI,zI,zI,zI,zI,zI,zI,zI,zI,zI,zI,zI,zI,zI,zI,zI,zI,zI,zI,zI,zI,zI,zI,zI,zI,zI,zI,zI,zI,zI,zI,zI,zI,zI,zI,zI,zI,zI,zI,zI,zI,zI,zI,zI,zI,zI,zI,zI,zI,zI,zI,zI,zI,zI,zI])] (kS [cN 6 74 2,aq 7 1,bK 8 259 [.t 6,.t 7],aq 5 8] (.seq (kS [aq 9 5,bP .lss 10 9 0] (kC 10 (kS [cN 11 74 2,b9 74 4 11] .ret))) (kD [aY 12 2 2,aq 13 5,oM 14 (.j6 (.BX 24 3) [.t 12,.t 13,kI 24]),aY 15 2 2,aq 16 5,bP .add 17 16 1,oM 18 (.j6 (.BX 24 3) [.t 15,.t 17,kI 24]),oM 19 (.j6 (.Fb 3) [.t 14,.t 18])] [0,0,3,0,0,16,40,68] (kS [aY 20 2 1,bE 21 20,bP .sub 22 21 1,aY 23 2 1,b9 1 23 22] (kS [aY 24 2 1,bE 25 24,oM 26 (.build [zI,zI,zI] []),aY 27 2 2,oM 28 (.cg 3 (some 24) (.t 27) (.t 25)),b9 3 28 26] (kS [cN 29 74 2,b9 74 4 29] .ret))))))
theorem Xh:cZ f242=some ad5:=by kernel_rfl
def ad6:aJ:=kS [oM 2 (cM 0),bz 3 fv] (kS [aY 4 2 2,bE 5 4,bP .eql 6 5 1,aq 7 6,lE 8 1 7,jn 9 2 1 7,lE 10 9 7,cO 11 (.bW 244 [.t 8,.t 10]) 7,ia 12 7 11,aq 3 12] .ret)
theorem Xi:cZ f243=some ad6:=by kernel_rfl
def ad7:aJ:=kS [bz 4 fv] (.seq (kS [aq 10 1,bP .lss 11 10 0,aq 12 11,kL 13 1 12,df 14 (iX .geq 13 4) 12,iK 15 12 14] (kC 15 (kS [bz 4 fv] .ret))) (kD [aq 17 0,dC 18 17,aY 19 18 0,cN 20 3 19,aq 21 1,aq 22 0,aq 23 1,dC 24 22,aY 25 24 4,oM 26 (.cg 5 (some 4) (.t 25) (.t 23)),cN 27 5 26,bK 28 191 [.t 20,.t 21,.t 27],aq 16 28,iL 29 16 0,iL 30 16 1,oM 5 (.alloc [zI,zI,zI,zI,zI,zI,zI,zI,zI]),b9 9 5 29,aq 6 30] [0,1,2,4,0,0,0,32,128,320,512,1048,2048,4096,4096,0,49151,131071] (.seq (kS [aq 31 6,oM 32 (gl 31),aq 33 32,jY 34 5 0 33,ma 35 34 33,df 36 (iX .neq 35 2) 33,iK 37 33 36] (kC 37 (kS [bz 4 fv] .ret))) (kD [aq 39 0,aq 40 1,dC 41 39,aY 42 41 32,oM 43 (.cg 74 (some 4) (.t 42) (.t 40)),cN 44 74 43,aY 45 5 2,bE 46 45,bK 47 237 [.t 44,.t 46],aq 38 47,iL 48 38 0,iL 49 38 1,iL 50 38 2,aq 7 48,aq 8 49,aq 9 50] [0,0,1,4,10,16,0,64,160,256,512,512,512,2047,12287,32767] (kS [aq 51 9,aq 4 51] .ret)))))
theorem Xj:cZ f244=some ad7:=by kernel_rfl
def ad8:aJ:=kS [oM 3 (cM 0),oM 4 (cM 1),bz 6 fv] (.seq (kS [aY 7 3 0,bE 8 7,aY 9 4 0,bE 10 9,eF .eql 11 8 10] (kC 11 (kS [bz 6 sg] .ret))) (.seq (kS [aY 12 3 1,bE 13 12,aY 14 4 1,bE 15 14,eF .eql 16 13 15] (kC 16 (kS [aY 17 3 2,bE 18 17,bP .eql 19 18 6,aq 20 19,cO 21 (o1 7 4) 20,cO 22 (.bW 248 [.t 21]) 20,ia 23 20 22,aq 24 23,jY 25 4 2 24,ma 26 25 24,df 27 (iX .eql 26 6) 24,kL 28 27 24,cO 29 (o1 7 3) 28,cO 30 (.bW 248 [.t 29]) 28,df 31 (wT 28 30) 24,iK 32 24 31,aq 6 32] .ret))) (kS [cN 33 7 3,aq 34 2,bK 35 275 [.t 33,.t 34],aq 36 35,cO 37 (o1 7 4) 36,ir 38 2 36,cO 39 (.bW 275 [.t 37,.t 38]) 36,ia 40 36 39,aq 41 40,jn 42 3 3 41,lE 43 42 41,jn 44 4 3 41,lE 45 44 41,cO 46 (r9 .eql 43 45) 41,ia 47 41 46,aq 48 47,cO 49 (o1 7 3) 48,ir 50 2 48,cO 51 (.bW 247 [.t 49,.t 50]) 48,ir 52 51 48,df 53 (o1 7 4) 52,kL 54 2 52,df 55 (.bW 247 [.t 53,.t 54]) 52,cO 56 (Rt 52 55) 48,ia 57 48 56,aq 6 57] .ret)))
theorem Xk:cZ f245=some ad8:=by kernel_rfl
def ad9:aJ:=kS [oM 2 (.alloc [zI,.d (.int .u64 0),.d (.int .u64 0),.d (.int .u64 0),.d (.int .u64 0),.d (.int .u64 0),.d (.int .u64 0),.d (.int .u64 0),.d (.int .u64 0),.d (.int .u64 0),.d (.int .u64 0),.d (.int .u64 0),.d (.int .u64 0),.d (.int .u64 0),.d (.int .u64 0),.d (.int .u64 0),.d (.int .u64 0),.d (.int .u64 0),.d (.int .u64 0),.d (.int .u64 0),.d (.int .u64 0),.d (.int .u64 0),.d (.int .u64 0),.d (.int .u64 0),.d (.int .u64 0),.d (.int .u64 0),.d (.int .u64 0),.d (.int .u64 0),.d (.int .u64 0),.d (.int .u64 0),.d (.int .u64 0),.d (.int .u64 0),.d (.int .u64 0),.d (.int .u64 0),.d (.int .u64 0),.d (.int .u64 0),.d (.int .u64 0),.d (.int .u64 0),.d (.int .u64 0),.d (.int .u64 0),.d (.int .u64 0),.d (.int .u64 0),.d (.int .u64 0),.d (.int .u64 0),.d (.int .u64 0),.d (.int .u64 0),.d (.int .u64 0),.d (.int .u64 0),.d (.int .u64 0),.d (.int .u64 0),.d (.int .u64 0),.d (.int .u64 0),.d (.int .u64 0),.d (.int .u64 0),.d (.int .u64 0),.d (.int .u64 0),.d (.int .u64 0),.d (.int .u64 0),.d (.int .u64 0),.d (.int .u64 0),.d (.int .u64 0),.d (.int .u64 0),.d (.int .u64 0),.d (.int .u64 0),.d (.int .u64 0)])] (kS [aq 3 0,oM 4 (.wk (.t 3) (kI 0)),oM 5 (.yM (.t 4) (kI 64)),oM 6 (.build [zI,.d (.int .u64 0),.d (.int .u64 0),.d (.int .u64 0),.d (.int .u64 0),.d (.int .u64 0),.d (.int .u64 0),.d (.int .u64 0),.d (.int .u64 0),.d (.int .u64 0),.d (.int .u64 0),.d (.int .u64 0),.d (.int .u64 0),.d (.int .u64 0),.d (.int .u64 0),.d (.int .u64 0),.d (.int .u64 0),.d (.int .u64 0),.d (.int .u64 0),.d (.int .u64 0),.d (.int .u64 0),.d (.int .u64 0),.d (.int .u64 0),.d (.int .u64 0),.d (.int .u64 0),.d (.int .u64 0),.d (.int .u64 0),.d (.int .u64 0),.d (.int .u64 0),.d (.int .u64 0),.d (.int .u64 0),.d (.int .u64 0),.d (.int .u64 0),.d (.int .u64 0),.d (.int .u64 0),.d (.int .u64 0),.d (.int .u64 0),.d (.int .u64 0),.d (.int .u64 0),.d (.int .u64 0),.d (.int .u64 0),.d (.int .u64 0),.d (.int .u64 0),.d (.int .u64 0),.d (.int .u64 0),.d (.int .u64 0),.d (.int .u64 0),.d (.int .u64 0),.d (.int .u64 0),.d (.int .u64 0),.d (.int .u64 0),.d (.int .u64 0),.d (.int .u64 0),.d (.int .u64 0),.d (.int .u64 0),.d (.int .u64 0),.d (.int .u64 0),.d (.int .u64 0),.d (.int .u64 0),.d (.int .u64 0),.d (.int .u64 0),.d (.int .u64 0),.d (.int .u64 0),.d (.int .u64 0),.d (.int .u64 0)] [(0,1,.t 5)]),b9 65 2 6] .ret)
theorem Xl:cZ f246=some ad9:=by kernel_rfl
def aea:aJ:=kS [oM 2 (cM 0),bz 4 fv] (kS [aY 5 2 2,bE 6 5,bP .eql 7 6 6,aq 8 7,jY 9 2 2 8,ma 10 9 8,df 11 (iX .eql 10 4) 8,iK 12 8 11,aq 13 12,kL 14 1 13,df 15 (iX .eql 14 1) 13,kL 16 15 13,jn 17 2 2 16,lE 18 17 16,cO 19 (iX .eql 18 2) 16,df 20 (wT 16 19) 13,iK 21 13 20,aq 4 21] .ret)
theorem Xm:cZ f247=some aea:=by kernel_rfl
def aeb:aJ:=kS [oM 1 (cM 0),bz 2 fv] (kS [aY 3 1 2,bE 4 3,bP .eql 5 4 3,aq 6 5,jY 7 1 2 6,ma 8 7 6,df 9 (iX .eql 8 4) 6,iK 10 6 9,aq 11 10,jY 12 1 2 11,ma 13 12 11,df 14 (iX .eql 13 5) 11,iK 15 11 14,aq 2 15] .ret)
theorem Xn:cZ f248=some aeb:=by kernel_rfl
def aec:aJ:=kS [oM 3 (cM 0),oM 6 (.alloc [zI,.d (.int .u64 0),.d (.int .u64 0),.d (.int .u64 0),.d (.int .u64 0),.d (.int .u64 0),.d (.int .u64 0),.d (.int .u64 0),.d (.int .u64 0),.d (.int .u64 0),.d (.int .u64 0),.d (.int .u64 0),.d (.int .u64 0),.d (.int .u64 0),.d (.int .u64 0),.d (.int .u64 0),.d (.int .u64 0),.d (.int .u64 0),.d (.int .u64 0),.d (.int .u64 0),.d (.int .u64 0),.d (.int .u64 0),.d (.int .u64 0),.d (.int .u64 0),.d (.int .u64 0),.d (.int .u64 0),.d (.int .u64 0),.d (.int .u64 0),.d (.int .u64 0),.d (.int .u64 0),.d (.int .u64 0),.d (.int .u64 0),.d (.int .u64 0),.d (.int .u64 0),.d (.int .u64 0),.d (.int .u64 0),.d (.int .u64 0),.d (.int .u64 0),.d (.int .u64 0),.d (.int .u64 0),.d (.int .u64 0),.d (.int .u64 0),.d (.int .u64 0),.d (.int .u64 0),.d (.int .u64 0),.d (.int .u64 0),.d (.int .u64 0),.d (.int .u64 0),.d (.int .u64 0),.d (.int .u64 0),.d (.int .u64 0),.d (.int .u64 0),.d (.int .u64 0),.d (.int .u64 0),.d (.int .u64 0),.d (.int .u64 0),.d (.int .u64 0),.d (.int .u64 0),.d (.int .u64 0),.d (.int .u64 0),.d (.int .u64 0),.d (.int .u64 0),.d (.int .u64 0),.d (.int .u64 0),.d (.int .u64 0)])] (.seq (kS [cN 7 65 3,aq 8 1,bK 9 276 [.t 7,.t 8],aq 10 9,cO 11 (o1 65 3) 10,ir 12 2 10,cO 13 (.bW 276 [.t 11,.t 12]) 10,ia 14 10 13] (kC 14 (kR [aq 15 1,aq 16 1,aY 17 3 1,oM 18 (.cg 1 (some 64) (.t 17) (.t 16)),bE 19 18,aq 20 2,bK 21 133 [.t 19,.t 20],aY 22 3 1,oM 23 (.cg 1 (some 64) (.t 22) (.t 15)),b9 1 23 21]))) (kS [cN 24 65 3,b9 65 6 24] .ret))
theorem Xo:cZ f249=some aec:=by kernel_rfl
def aed:aJ:=kS [oM 1 (cM 0),bz 2 fv] (kS [aY 3 1 2,bE 4 3,bP .eql 5 4 1,aq 6 5,jY 7 1 2 6,ma 8 7 6,df 9 (iX .eql 8 4) 6,iK 10 6 9,aq 11 10,jY 12 1 2 11,ma 13 12 11,df 14 (iX .eql 13 5) 11,iK 15 11 14,aq 2 15] .ret)
theorem Xp:cZ f250=some aed:=by kernel_rfl
def Hh:aJ:=.seq (kS [aq 49 11,aq 50 1,iy 51 50,eF .lss 52 49 51] (kE 52)) (.seq (.block 1 (kD [aq 55 11,aq 56 3,eF .neq 57 55 56,aq 58 57,ir 59 1 58,ir 60 11 58,cO 61 (kIa 7 59 60) 58,cO 62 (o1 7 61) 58,ir 63 2 58,cO 64 (.bW 247 [.t 62,.t 63]) 58,ia 65 58 64,aq 66 65,ir 67 1 66,ir 68 11 66,cO 69 (kIa 7 67 68) 66,jn 70 69 3 66,lE 71 70 66,jn 72 9 3 66,lE 73 72 66,cO 74 (r9 .eql 71 73) 66,ia 75 66 74] [0,0,3,4,8,8,56,72,8,392,520,1536,2048,2048,14336,18432,34816,2048,133120,329728,526336] (kC 75 (kR [cN 76 65 4,aq 77 3,aq 78 11,bK 79 249 [.t 76,.t 77,.t 78],b9 65 4 79])))) (kR [aq 53 11,bP .add 54 53 1,aq 11 54]))
def aee:aJ:=kS [oM 4 (cM 0),oM 8 (.alloc [zI,.d (.int .u64 0),.d (.int .u64 0),.d (.int .u64 0),.d (.int .u64 0),.d (.int .u64 0),.d (.int .u64 0),.d (.int .u64 0),.d (.int .u64 0),.d (.int .u64 0),.d (.int .u64 0),.d (.int .u64 0),.d (.int .u64 0),.d (.int .u64 0),.d (.int .u64 0),.d (.int .u64 0),.d (.int .u64 0),.d (.int .u64 0),.d (.int .u64 0),.d (.int .u64 0),.d (.int .u64 0),.d (.int .u64 0),.d (.int .u64 0),.d (.int .u64 0),.d (.int .u64 0),.d (.int .u64 0),.d (.int .u64 0),.d (.int .u64 0),.d (.int .u64 0),.d (.int .u64 0),.d (.int .u64 0),.d (.int .u64 0),.d (.int .u64 0),.d (.int .u64 0),.d (.int .u64 0),.d (.int .u64 0),.d (.int .u64 0),.d (.int .u64 0),.d (.int .u64 0),.d (.int .u64 0),.d (.int .u64 0),.d (.int .u64 0),.d (.int .u64 0),.d (.int .u64 0),.d (.int .u64 0),.d (.int .u64 0),.d (.int .u64 0),.d (.int .u64 0),.d (.int .u64 0),.d (.int .u64 0),.d (.int .u64 0),.d (.int .u64 0),.d (.int .u64 0),.d (.int .u64 0),.d (.int .u64 0),.d (.int .u64 0),.d (.int .u64 0),.d (.int .u64 0),.d (.int .u64 0),.d (.int .u64 0),.d (.int .u64 0),.d (.int .u64 0),.d (.int .u64 0),.d (.int .u64 0),.d (.int .u64 0)])] (kS [aq 12 1,aq 13 3,jm 14 7 12 13,cN 15 7 14,oM 9 (.alloc [zI,zI,zI,zI,zI,zI,zI]),b9 7 9 15] (kS [bz 10 (kI (-1))] (.seq (kS [aY 16 9 6,bE 17 16,bP .geq 18 17 0,aq 19 18,jn 20 9 6 19,lE 21 20 19,ir 22 1 19,cO 23 (mq 22) 19,cO 24 (r9 .lss 21 23) 19,ia 25 19 24] (kC 25 (.seq (kS [aq 26 1,aq 27 2,aY 28 9 6,bE 29 28,bK 30 277 [.t 26,.t 27,.t 29],aq 10 30] (kS [aq 31 10,bP .lss 32 31 0] (kC 32 (kS [cN 33 65 4,b9 65 8 33] .ret)))) (kD [aq 34 1,aY 35 9 6,bE 36 35,jm 37 7 34 36,aY 38 37 1,bE 39 38,aY 40 9 1,bE 41 40,eF .neq 42 39 41] [0,0,2,5,8,16,0,64,160] (kC 42 (kR [cN 43 65 4,aq 44 10,aq 45 3,bK 46 249 [.t 43,.t 44,.t 45],b9 65 4 46])))))) (.seq (kS [aq 47 10,bP .add 48 47 1,aq 11 48] (mM Hh)) (kS [cN 80 65 4,b9 65 8 80] .ret)))))
theorem Xq:cZ f251=some aee:=by kernel_rfl
def Hi:aJ:=kS [eF .lss 13 12 11] (.seq (.cond (.t 13) .skip (.exit 2)) (.seq (.block 3 (kS [aq 14 12,aq 4 14] (kS [aq 15 4,aY 16 1 1,oM 17 (.cg 1 (some 64) (.t 16) (.t 15)),bE 18 17,aq 19 3,bK 20 179 [.t 18,.t 19]] (kC 20 (.region true [aq 21 4,aY 22 1 1,oM 23 (.cg 1 (some 64) (.t 22) (.t 21)),bE 24 23,aq 25 3,aY 26 1 1,oM 27 (.cg 1 (some 64) (.t 26) (.t 25)),bE 28 27,eF .or 29 24 28,aY 30 1 1,oM 31 (.cg 1 (some 64) (.t 30) (.t 21)),b9 1 31 29] [0,0,3,4,0,0,48,64,136,0,1023,1535]))))) (kR [bP .add 32 12 1,aq 12 32])))
def PW:aJ:=kS [eF .lss 8 7 6] (.seq (kE 8) (.seq (.block 1 (kS [aq 9 7,aq 3 9] (kS [aY 10 1 0,bE 11 10,bz 12 (kI 0)] (.block 2 (.loop Hi))))) (kR [bP .add 33 7 1,aq 7 33])))
def aef:aJ:=kS [oM 1 (cM 0),oM 2 (.alloc [zI,.d (.int .u64 0),.d (.int .u64 0),.d (.int .u64 0),.d (.int .u64 0),.d (.int .u64 0),.d (.int .u64 0),.d (.int .u64 0),.d (.int .u64 0),.d (.int .u64 0),.d (.int .u64 0),.d (.int .u64 0),.d (.int .u64 0),.d (.int .u64 0),.d (.int .u64 0),.d (.int .u64 0),.d (.int .u64 0),.d (.int .u64 0),.d (.int .u64 0),.d (.int .u64 0),.d (.int .u64 0),.d (.int .u64 0),.d (.int .u64 0),.d (.int .u64 0),.d (.int .u64 0),.d (.int .u64 0),.d (.int .u64 0),.d (.int .u64 0),.d (.int .u64 0),.d (.int .u64 0),.d (.int .u64 0),.d (.int .u64 0),.d (.int .u64 0),.d (.int .u64 0),.d (.int .u64 0),.d (.int .u64 0),.d (.int .u64 0),.d (.int .u64 0),.d (.int .u64 0),.d (.int .u64 0),.d (.int .u64 0),.d (.int .u64 0),.d (.int .u64 0),.d (.int .u64 0),.d (.int .u64 0),.d (.int .u64 0),.d (.int .u64 0),.d (.int .u64 0),.d (.int .u64 0),.d (.int .u64 0),.d (.int .u64 0),.d (.int .u64 0),.d (.int .u64 0),.d (.int .u64 0),.d (.int .u64 0),.d (.int .u64 0),.d (.int .u64 0),.d (.int .u64 0),.d (.int .u64 0),.d (.int .u64 0),.d (.int .u64 0),.d (.int .u64 0),.d (.int .u64 0),.d (.int .u64 0),.d (.int .u64 0)])] (.seq (kS [aY 5 1 0,bE 6 5,bz 7 (kI 0)] (mM PW)) (kS [cN 34 65 1,b9 65 2 34] .ret))
theorem Xr:cZ f252=some aef:=by kernel_rfl
def Hj:aJ:=.seq (kS [aq 18 5,oM 19 (.bin .neq (.t 18) (.c (.d (.int .u64 0))))] (.cond (.t 19) .skip (.exit 2))) (.seq (.block 3 (kR [aq 24 5,bK 25 128 [.t 24],aq 26 5,bK 27 128 [.t 26],aY 28 3 1,oM 29 (.cg 1 (some 64) (.t 28) (.t 27)),bE 30 29,aq 31 4,bK 32 133 [.t 30,.t 31],aY 33 3 1,oM 34 (.cg 1 (some 64) (.t 33) (.t 25)),b9 1 34 32])) (kR [aq 20 5,aq 21 5,oM 22 (.bin .sub (.t 21) (.c (.d (.int .u64 1)))),eF .and 23 20 22,aq 5 23]))
def PX:aJ:=kS [eF .lss 12 11 10] (.seq (kE 12) (.seq (.block 1 (kS [aq 13 11,aq 4 13] (kS [aq 14 4,aY 15 1 1,oM 16 (.cg 1 (some 64) (.t 15) (.t 14)),bE 17 16,aq 5 17] (.block 2 (.loop Hj))))) (kR [bP .add 35 11 1,aq 11 35])))
def aeg:aJ:=kS [oM 1 (cM 0),oM 2 (.alloc [zI,.d (.int .u64 0),.d (.int .u64 0),.d (.int .u64 0),.d (.int .u64 0),.d (.int .u64 0),.d (.int .u64 0),.d (.int .u64 0),.d (.int .u64 0),.d (.int .u64 0),.d (.int .u64 0),.d (.int .u64 0),.d (.int .u64 0),.d (.int .u64 0),.d (.int .u64 0),.d (.int .u64 0),.d (.int .u64 0),.d (.int .u64 0),.d (.int .u64 0),.d (.int .u64 0),.d (.int .u64 0),.d (.int .u64 0),.d (.int .u64 0),.d (.int .u64 0),.d (.int .u64 0),.d (.int .u64 0),.d (.int .u64 0),.d (.int .u64 0),.d (.int .u64 0),.d (.int .u64 0),.d (.int .u64 0),.d (.int .u64 0),.d (.int .u64 0),.d (.int .u64 0),.d (.int .u64 0),.d (.int .u64 0),.d (.int .u64 0),.d (.int .u64 0),.d (.int .u64 0),.d (.int .u64 0),.d (.int .u64 0),.d (.int .u64 0),.d (.int .u64 0),.d (.int .u64 0),.d (.int .u64 0),.d (.int .u64 0),.d (.int .u64 0),.d (.int .u64 0),.d (.int .u64 0),.d (.int .u64 0),.d (.int .u64 0),.d (.int .u64 0),.d (.int .u64 0),.d (.int .u64 0),.d (.int .u64 0),.d (.int .u64 0),.d (.int .u64 0),.d (.int .u64 0),.d (.int .u64 0),.d (.int .u64 0),.d (.int .u64 0),.d (.int .u64 0),.d (.int .u64 0),.d (.int .u64 0),.d (.int .u64 0)])] (kS [aY 6 1 0,bE 7 6,bK 8 246 [.t 7],oM 3 (.alloc [zI,.d (.int .u64 0),.d (.int .u64 0),.d (.int .u64 0),.d (.int .u64 0),.d (.int .u64 0),.d (.int .u64 0),.d (.int .u64 0),.d (.int .u64 0),.d (.int .u64 0),.d (.int .u64 0),.d (.int .u64 0),.d (.int .u64 0),.d (.int .u64 0),.d (.int .u64 0),.d (.int .u64 0),.d (.int .u64 0),.d (.int .u64 0),.d (.int .u64 0),.d (.int .u64 0),.d (.int .u64 0),.d (.int .u64 0),.d (.int .u64 0),.d (.int .u64 0),.d (.int .u64 0),.d (.int .u64 0),.d (.int .u64 0),.d (.int .u64 0),.d (.int .u64 0),.d (.int .u64 0),.d (.int .u64 0),.d (.int .u64 0),.d (.int .u64 0),.d (.int .u64 0),.d (.int .u64 0),.d (.int .u64 0),.d (.int .u64 0),.d (.int .u64 0),.d (.int .u64 0),.d (.int .u64 0),.d (.int .u64 0),.d (.int .u64 0),.d (.int .u64 0),.d (.int .u64 0),.d (.int .u64 0),.d (.int .u64 0),.d (.int .u64 0),.d (.int .u64 0),.d (.int .u64 0),.d (.int .u64 0),.d (.int .u64 0),.d (.int .u64 0),.d (.int .u64 0),.d (.int .u64 0),.d (.int .u64 0),.d (.int .u64 0),.d (.int .u64 0),.d (.int .u64 0),.d (.int .u64 0),.d (.int .u64 0),.d (.int .u64 0),.d (.int .u64 0),.d (.int .u64 0),.d (.int .u64 0),.d (.int .u64 0)]),b9 65 3 8] (.seq (kS [aY 9 1 0,bE 10 9,bz 11 (kI 0)] (mM PX)) (kS [cN 36 65 3,b9 65 2 36] .ret)))
theorem Xs:cZ f253=some aeg:=by kernel_rfl
def aeh:aJ:=kS [oM 1 (cM 0),bz 2 (kI 0)] (kS [aY 3 1 0,bE 4 3,aq 2 4] .ret)
theorem Xt:cZ f254=some aeh:=by kernel_rfl
def aei:aJ:=kS [oM 3 (cM 0),bz 6 fv] (kS [cN 7 65 3,aq 8 1,bK 9 276 [.t 7,.t 8],aq 10 9,ir 11 1 10,jn 12 3 1 10,cO 13 (.cg 1 (some 64) (.t 12) (.t 11)) 10,lE 14 13 10,ir 15 2 10,cO 16 (.bW 179 [.t 14,.t 15]) 10,ia 17 10 16,aq 6 17] .ret)
theorem Xu:cZ f255=some aei:=by kernel_rfl
def aej:aJ:=kS [oM 2 (cM 0),bz 4 (.c (.d (.int .u64 0)))] (.seq (kS [cN 5 65 2,aq 6 1,bK 7 276 [.t 5,.t 6],oM 8 (gl 7)] (kC 8 (kS [bz 4 (.c (.d (.int .u64 0)))] .ret))) (kS [aq 9 1,aY 10 2 1,oM 11 (.cg 1 (some 64) (.t 10) (.t 9)),bE 12 11,aq 4 12] .ret))
theorem Xv:cZ f256=some aej:=by kernel_rfl
def aek:aJ:=kS [oM 3 (cM 0),oM 4 (cM 1),bz 6 fv] (kS [aY 7 3 1,bE 8 7,aY 9 4 1,bE 10 9,eF .neq 11 8 10,aq 12 11,jn 13 3 3 12,lE 14 13 12,jn 15 4 3 12,lE 16 15 12,cO 17 (r9 .eql 14 16) 12,ia 18 12 17,aq 19 18,cO 20 (o1 7 3) 19,ir 21 2 19,cO 22 (.bW 247 [.t 20,.t 21]) 19,ir 23 22 19,df 24 (o1 7 4) 23,kL 25 2 23,df 26 (.bW 247 [.t 24,.t 25]) 23,cO 27 (Rt 23 26) 19,ia 28 19 27,aq 6 28] .ret)
theorem Xw:cZ f257=some aek:=by kernel_rfl
def PY:aJ:=kS [eF .lss 13 12 11] (.seq (kE 13) (.seq (.block 1 (kS [aq 14 12,aq 6 14] (kS [aq 15 1,aq 16 6,bK 17 179 [.t 15,.t 16]] (kC 17 (kR [aq 18 6,aq 19 6,aY 20 2 1,oM 21 (.cg 1 (some 64) (.t 20) (.t 19)),bE 22 21,aq 23 1,eF .and 24 22 23,aY 25 5 1,oM 26 (.cg 1 (some 64) (.t 25) (.t 18)),b9 1 26 24]))))) (kR [bP .add 27 12 1,aq 12 27])))
def ael:aJ:=kS [oM 2 (cM 0),oM 4 (.alloc [zI,.d (.int .u64 0),.d (.int .u64 0),.d (.int .u64 0),.d (.int .u64 0),.d (.int .u64 0),.d (.int .u64 0),.d (.int .u64 0),.d (.int .u64 0),.d (.int .u64 0),.d (.int .u64 0),.d (.int .u64 0),.d (.int .u64 0),.d (.int .u64 0),.d (.int .u64 0),.d (.int .u64 0),.d (.int .u64 0),.d (.int .u64 0),.d (.int .u64 0),.d (.int .u64 0),.d (.int .u64 0),.d (.int .u64 0),.d (.int .u64 0),.d (.int .u64 0),.d (.int .u64 0),.d (.int .u64 0),.d (.int .u64 0),.d (.int .u64 0),.d (.int .u64 0),.d (.int .u64 0),.d (.int .u64 0),.d (.int .u64 0),.d (.int .u64 0),.d (.int .u64 0),.d (.int .u64 0),.d (.int .u64 0),.d (.int .u64 0),.d (.int .u64 0),.d (.int .u64 0),.d (.int .u64 0),.d (.int .u64 0),.d (.int .u64 0),.d (.int .u64 0),.d (.int .u64 0),.d (.int .u64 0),.d (.int .u64 0),.d (.int .u64 0),.d (.int .u64 0),.d (.int .u64 0),.d (.int .u64 0),.d (.int .u64 0),.d (.int .u64 0),.d (.int .u64 0),.d (.int .u64 0),.d (.int .u64 0),.d (.int .u64 0),.d (.int .u64 0),.d (.int .u64 0),.d (.int .u64 0),.d (.int .u64 0),.d (.int .u64 0),.d (.int .u64 0),.d (.int .u64 0),.d (.int .u64 0),.d (.int .u64 0)])] (kS [aY 7 2 0,bE 8 7,bK 9 246 [.t 8],oM 5 (.alloc [zI,.d (.int .u64 0),.d (.int .u64 0),.d (.int .u64 0),.d (.int .u64 0),.d (.int .u64 0),.d (.int .u64 0),.d (.int .u64 0),.d (.int .u64 0),.d (.int .u64 0),.d (.int .u64 0),.d (.int .u64 0),.d (.int .u64 0),.d (.int .u64 0),.d (.int .u64 0),.d (.int .u64 0),.d (.int .u64 0),.d (.int .u64 0),.d (.int .u64 0),.d (.int .u64 0),.d (.int .u64 0),.d (.int .u64 0),.d (.int .u64 0),.d (.int .u64 0),.d (.int .u64 0),.d (.int .u64 0),.d (.int .u64 0),.d (.int .u64 0),.d (.int .u64 0),.d (.int .u64 0),.d (.int .u64 0),.d (.int .u64 0),.d (.int .u64 0),.d (.int .u64 0),.d (.int .u64 0),.d (.int .u64 0),.d (.int .u64 0),.d (.int .u64 0),.d (.int .u64 0),.d (.int .u64 0),.d (.int .u64 0),.d (.int .u64 0),.d (.int .u64 0),.d (.int .u64 0),.d (.int .u64 0),.d (.int .u64 0),.d (.int .u64 0),.d (.int .u64 0),.d (.int .u64 0),.d (.int .u64 0),.d (.int .u64 0),.d (.int .u64 0),.d (.int .u64 0),.d (.int .u64 0),.d (.int .u64 0),.d (.int .u64 0),.d (.int .u64 0),.d (.int .u64 0),.d (.int .u64 0),.d (.int .u64 0),.d (.int .u64 0),.d (.int .u64 0),.d (.int .u64 0),.d (.int .u64 0),.d (.int .u64 0)]),b9 65 5 9] (.seq (kS [aY 10 2 0,bE 11 10,bz 12 (kI 0)] (mM PY)) (kS [cN 28 65 5,b9 65 4 28] .ret)))
theorem Xx:cZ f258=some ael:=by kernel_rfl
def PZ:aJ:=kS [eF .lss 9 8 7] (.seq (kE 9) (.seq (.block 1 (kS [aq 10 8,aq 5 10] (kS [aY 11 2 0,bE 12 11,bP .eql 13 12 2,aq 14 13,kL 15 5 14,jY 16 2 2 14,df 17 (.cg 3 (some 24) (.t 16) (.t 15)) 14,jY 18 17 0 14,ma 19 18 14,kL 20 1 14,df 21 (r9 .eql 19 20) 14,iK 22 14 21] (kC 22 (kS [aq 23 5,aq 4 23] .ret))))) (kR [bP .add 24 8 1,aq 8 24])))
def aem:aJ:=kS [oM 2 (cM 0),bz 4 (kI 0)] (.seq (kS [aY 6 2 1,bE 7 6,bz 8 (kI 0)] (mM PZ)) (kS [bz 4 (kI (-1))] .ret))
theorem Xy:cZ f259=some aem:=by kernel_rfl
def aen:aJ:=kS [bz 2 fv] (kS [aq 3 0,aq 4 0,eF .neq 5 3 4,aq 2 5] .ret)
theorem Xz:cZ f265=some aen:=by kernel_rfl
def aeo:aJ:=kS [oM 2 (cM 0),bz 4 fv] (kS [cN 5 7 2,aq 6 1,bK 7 247 [.t 5,.t 6],aq 8 7,df 9 (o1 7 2) 8,df 10 (.bW 250 [.t 9]) 8,iK 11 8 10,aq 4 11] .ret)
theorem XA:cZ f275=some aeo:=by kernel_rfl
def aep:aJ:=kS [oM 2 (cM 0),bz 4 fv] (kS [aq 5 1,bP .geq 6 5 0,aq 7 6,ir 8 1 7,jn 9 2 0 7,lE 10 9 7,cO 11 (r9 .lss 8 10) 7,ia 12 7 11,aq 4 12] .ret)
theorem XB:cZ f276=some aep:=by kernel_rfl
def aeq:aJ:=kS [oM 5 (cM 2),bz 6 (kI 0)] (.seq (kS [aq 7 0,bE 8 5,jm 9 7 7 8,cN 10 7 9,aq 11 1,bK 12 247 [.t 10,.t 11]] (kC 12 (kS [bE 13 5,aq 6 13] .ret))) (kS [aq 14 0,oM 15 (.rY 286 [.t 5]),bK 16 285 [.t 14,.t 15],aq 6 16] .ret))
theorem XC:cZ f277=some aeq:=by kernel_rfl
def aaZ:aJ:=kS [eF .lss 9 8 7] (.seq (kE 9) (.seq (.block 1 (kS [aq 10 8,aq 5 10] (kS [aq 11 1,aq 12 0,aq 13 5,jm 14 7 12 13,cN 15 7 14,oM 16 (.eW (.t 11) [.t 15])] (kC 16 (kS [aq 17 5,aq 4 17] .ret))))) (kR [bP .add 18 8 1,aq 8 18])))
def aii:aJ:=kS [bz 4 (kI 0)] (.seq (kS [aq 6 0,iy 7 6,bz 8 (kI 0)] (mM aaZ)) (kS [bz 4 (kI (-1))] .ret))
theorem XD:cZ f285=some aii:=by kernel_rfl
def aer:aJ:=kS [oM 2 (cM 0),bz 3 fv] (kS [aY 4 2 2,bE 5 4,bP .eql 6 5 6,aq 7 6,jn 8 2 6 7,lE 9 8 7,lE 10 1 7,cO 11 (r9 .eql 9 10) 7,ia 12 7 11,aq 3 12] .ret)
theorem XE:cZ f286=some aer:=by kernel_rfl
end
section
open Go Go.Jq Go.RowKit
def Hk:Nat->Nat->Nat
 |0,_=>0
 |f+1,s=>if s%2=1 then 0 else 1+Hk f (s/2)
def J2:List Nat:=[0,1,56,2,57,49,28,3,61,58,42,50,38,29,17,4,62,47,59,36,45,43,51,22,53,39,33,30,24,18,12,5,63,55,48,27,60,41,37,16,46,35,44,21,52,32,23,11,54,26,40,15,34,20,31,10,25,14,19,9,13,8,7,6]
theorem afo {c:Ctx} {m:Mem} {w:World} (h:MR c m w) {i:Nat} (hi:i<64):w.cell? ⟨0,i,none⟩=some (.int .u8 (J2.getD i 0:Nat)):=by
 obtain⟨_,cs,T,f,h1,cq⟩:=h.zZ 0 _ rfl;have lO:cs=(J2.map λ(z:Nat)=>Value.int .u8 z).toArray:=cq;simp only[World.cell?,h1,lO];have hl:i<J2.length:=hi;simp[alC,alw hl]
theorem XF (x r:Int) (w:World) (hx:x≠0) (i:Nat) (hi:i<64)
 (hix:al0.wrap (bits .and .u64 x (al0.wrap (-x))*285870213051353865)/288230376151711744=(i:Int)) (hc:w.cell? ⟨0,i,none⟩=some (.int .u8 r)) (hr:alv.wrap r=r):
 Calls aK 177 #[.int .u64 x] w λe w'=>e=.returned (.int .i64 r)/\w'=w:=by
 go_enter func177,ntmps177
 go_wp2
 all_goals(try rw[hix]at*)
 all_goals(try simp only[hix])
 ·go_wp2
  go_ret
  exact⟨rfl,rfl⟩
theorem pt {a b:Nat} (ha:a<18446744073709551616) (hb:b<18446744073709551616):bits .and .u64 (a:Int) (b:Int)=((a&&&b:Nat):Int):=by
 have e:bits .and .u64 (a:Int) (b:Int)=al0.wrap (((al5 64 (a:Int))&&&(al5 64 (b:Int))).toNat:Nat):=rfl;have bn:a&&&b<2^64:=Nat.and_lt_two_pow a (by omega);rw[e,BitVec.toNat_and,fK ha,fK hb,wrap_u64 (by omega) (by omega)]
def dO (a b:Nat):Nat:=a^^^(a&&&b)
theorem Nw (a b i:Nat):(dO a b).testBit i=(a.testBit i&&!b.testBit i):=by
 unfold dO;rw[Nat.testBit_xor,Nat.testBit_and];cases a.testBit i<;>cases b.testBit i<;>rfl
theorem J3 {a b n:Nat} (ha:a<2^n):dO a b<2^n:=Nat.xor_lt_two_pow ha (Nat.lt_of_le_of_lt Nat.and_le_left ha)
theorem ra {a b:Nat} (ha:a<18446744073709551616) (hb:b<18446744073709551616):bits .andNot .u64 (a:Int) (b:Int)=((dO a b:Nat):Int):=by
 have e:bits .andNot .u64 (a:Int) (b:Int)=al0.wrap (((al5 64 (a:Int))&&&~~~(al5 64 (b:Int))).toNat:Nat):=rfl;have h:((al5 64 (a:Int))&&&~~~(al5 64 (b:Int))).toNat=dO a b:=by
  apply Nat.eq_of_testBit_eq;intro i;rw[Nw,BitVec.testBit_toNat,BitVec.getLsbD_and,BitVec.getLsbD_not,<-BitVec.testBit_toNat,<-BitVec.testBit_toNat,fK ha,fK hb];by_cases hi:i<64;·simp[hi]
  ·have h1:a.testBit i=false:=Nat.testBit_lt_two_pow (Nat.lt_of_lt_of_le ha (Nat.pow_le_pow_right (by omega:0<2) (by omega:64<=i)));simp[h1]
 have bn:dO a b<2^64:=J3 (by omega);rw[e,h,wrap_u64 (by omega) (by omega)]
theorem RC {f h:Nat} (hh:h<2^f):h&&&(2^f-1-h)=0:=by
 apply Nat.eq_of_testBit_eq;intro i;have e:(2^f-1-h).testBit i=(decide (i<f)&&!h.testBit i):=by
  rw[show 2^f-1-h=2^f-(h+1) by omega];exact Nat.testBit_two_pow_sub_succ hh i
 rw[Nat.testBit_and,e,Nat.zero_testBit];cases h.testBit i<;>simp
theorem J4 {s:Nat} (h:s%2=1):s=2*(s/2)+1:=by omega
theorem FA {s:Nat} (h:¬s%2=1):s=2*(s/2):=by omega
theorem w0 (a b x y:Nat) (hx:x<=1) (hy:y<=1):(2*a+x)&&&(2*b+y)=2*(a&&&b)+x*y:=by
 apply Nat.eq_of_testBit_eq;intro i;have hxy:x*y<=1:=Nat.le_trans (Nat.mul_le_mul hx hy) (ali _);rw[Nat.testBit_and];cases i with
 |zero=>
  simp only[Nat.testBit_zero];have h1:(2*a+x)%2=x:=by omega
  have h2:(2*b+y)%2=y:=by omega
  have h3:(2*(a&&&b)+x*y)%2=x*y:=by omega
  rw[h1,h2,h3];rcases(show x=0\/x=1 by omega)with rfl|rfl<;>rcases(show y=0\/y=1 by omega)with rfl|rfl<;>rfl
 |succ i=>
  simp only[Nat.testBit_succ];have h1:(2*a+x)/2=a:=by omega
  have h2:(2*b+y)/2=b:=by omega
  have h3:(2*(a&&&b)+x*y)/2=a&&&b:=by omega
  rw[h1,h2,h3,Nat.testBit_and]
theorem P0:∀(f s:Nat),s≠0->s<2^f->s&&&(2^f-s)=2^Hk f s
 |0,s,h0,hs=>by simp at hs;omega
 |f+1,s,h0,hs=>by
  have hp:2^(f+1)=2*2^f:=by rw[Nat.pow_succ];omega
  unfold Hk;by_cases hm:s%2=1
  ·rw[if_pos hm];have h1:=J4 hm;have h2:2^(f+1)-s=2*(2^f-1-s/2)+1:=by omega
   rw[h2]
   conv=>lhs;lhs;rw[h1]
   rw[w0 _ _ 1 1 (by omega) (by omega),RC (by omega)]
  ·rw[if_neg hm];have h1:=FA hm;have h2:2^(f+1)-s=2*(2^f-s/2)+0:=by omega
   rw[h2]
   conv=>lhs;lhs;rw[h1]
   have:=w0 (s/2) (2^f-s/2) 0 0 (by omega) (by omega);simp only[Nat.add_zero,Nat.mul_zero]at this⊢;rw[this,P0 f (s/2) (by omega) (by omega),Nat.add_comm 1,Nat.pow_succ];omega
theorem Nx:∀(f s:Nat),s≠0->s<2^f->Hk f s<f
 |0,s,h0,hs=>by simp at hs;omega
 |f+1,s,h0,hs=>by
  have hp:2^(f+1)=2*2^f:=by rw[Nat.pow_succ];omega
  unfold Hk;by_cases hm:s%2=1;·rw[if_pos hm];omega
  ·rw[if_neg hm];have:=Nx f (s/2) (by omega) (by omega);omega
theorem aij (k:Nat) (hk:k<64):∃i,i<64/\(2^k*285870213051353865%18446744073709551616)/288230376151711744=i/\J2.getD i 0=k:=by
 have h:∀k:Fin 64,(2^k.val*285870213051353865%18446744073709551616)/288230376151711744<64/\J2.getD ((2^k.val*285870213051353865%18446744073709551616)/288230376151711744) 0=k.val:=by decide+kernel
 exact⟨_,(h ⟨k,hk⟩).1,rfl,(h ⟨k,hk⟩).2⟩
theorem aa0 (n:Nat):al0.wrap (n:Int)=((n%18446744073709551616:Nat):Int):=by
 have e2:(2^64:Int)=18446744073709551616:=rfl;simp only[IntKind.wrap,IntKind.signed,IntKind.bits,e2,alK,aly,if_false];omega
theorem aa1 {x:Nat} (h0:x≠0) (hx:x<18446744073709551616):Pure aK 177 [dF x] (au (Hk 64 x:Nat)):=by
 refine mL λc w vs hr hM=>?_;simp only[bg,Rel,dS]at hr;obtain⟨v1,vs1,rfl,rfl,rfl⟩:=hr;have hk:=Nx 64 x h0 hx;obtain⟨i,hi,hix,hti⟩:=aij _ hk;have w4:al0.wrap (-(x:Int))=((18446744073709551616-x:Nat):Int):=by
  have e2:(2^64:Int)=18446744073709551616:=rfl;simp only[IntKind.wrap,IntKind.signed,IntKind.bits,e2,alK,aly,if_false];omega
 have aik:=P0 64 x h0 hx;have e64:(2:Nat)^64=18446744073709551616:=rfl;rw[e64]at aik;have hc:=afo hM hi;rw[hti]at hc;refine(XF x (Hk 64 x:Nat) w (by omega) i hi ?_ hc (wrap_i64 (by omega) (by omega))).mono ?_
 ·rw[w4,pt hx (by omega),aik];rw[<-hix];have:(((2^Hk 64 x:Nat):Int)*285870213051353865)=((2^Hk 64 x*285870213051353865:Nat):Int):=(Int.natCast_mul _ _).symm;rw[this,aa0];rfl
 ·rintro e w' ⟨rfl,rfl⟩;exact⟨_,rfl,rfl,rfl,rfl,ali _,λ_ _=>rfl,rfl⟩
def fp:Nat->Nat->Nat->List Nat
 |0,_,_=>[]
 |f+1,i,s=>if s=0 then []else if s%2=1 then i::fp f (i+1) (s/2)else fp f (i+1) (s/2)
theorem mO:∀(f i:Nat),fp f i 0=[]
 |0,_=>rfl
 |f+1,i=>by unfold fp;rw[if_pos rfl]
theorem uP:∀(f i s:Nat),s≠0->s<2^f->fp f i s=(i+Hk f s)::fp f i (s&&&(s-1))
 |0,i,s,h0,hs=>by simp at hs;omega
 |f+1,i,s,h0,hs=>by
  have hp:2^(f+1)=2*2^f:=by rw[Nat.pow_succ];omega
  by_cases hm:s%2=1
  ·have h1:=J4 hm;have h2:s&&&(s-1)=2*(s/2):=by
    have h3:s-1=2*(s/2)+0:=by omega
    rw[h3]
    conv=>lhs;lhs;rw[h1]
    rw[w0 _ _ 1 0 (by omega) (by omega),Nat.and_self];omega
   have h4:Hk (f+1) s=0:=by unfold Hk;rw[if_pos hm]
   rw[h2,h4];by_cases hz:s/2=0
   ·rw[hz,Nat.mul_zero,mO];unfold fp;rw[if_neg h0,if_pos hm,hz,mO,Nat.add_zero]
   ·have h5:¬2*(s/2)=0:=by omega
    have h6:¬2*(s/2)%2=1:=by omega
    have h7:2*(s/2)/2=s/2:=by omega
    conv=>lhs;unfold fp
    rw[if_neg h0,if_pos hm,Nat.add_zero]
    conv=>rhs;rhs;unfold fp
    rw[if_neg h5,if_neg h6,h7];rfl
  ·have h1:=FA hm;have hh:s/2≠0:=by omega
   have h2:s&&&(s-1)=2*(s/2&&&(s/2-1)):=by
    have h3:s-1=2*(s/2-1)+1:=by omega
    rw[h3]
    conv=>lhs;lhs;rw[h1,<-Nat.add_zero (2*(s/2))]
    rw[w0 _ _ 0 1 (by omega) (by omega)];omega
   have ih:=uP f (i+1) (s/2) hh (by omega)
   have h4:Hk (f+1) s=1+Hk f (s/2):=by conv=>lhs;unfold Hk
                                       rw[if_neg hm]
   rw[h2,h4]
   conv=>lhs;unfold fp
   rw[if_neg h0,if_neg hm,ih]
   congr 1
   ·omega
   ·by_cases hz:(s/2&&&(s/2-1))=0;·rw[hz,Nat.mul_zero,mO,mO]
    ·have h5:¬2*(s/2&&&(s/2-1))=0:=by omega
     have h6:¬2*(s/2&&&(s/2-1))%2=1:=by omega
     have h7:2*(s/2&&&(s/2-1))/2=(s/2&&&(s/2-1)):=by omega
     conv=>rhs;unfold fp
     rw[if_neg h5,if_neg h6,h7]
theorem w7:∀(f i s j:Nat),s<2^f->(j∈fp f i s↔i<=j/\s.testBit (j-i)=true)
 |0,i,s,j,hs=>by
  have:s=0:=by simp at hs;omega
  subst this;simp[fp]
 |f+1,i,s,j,hs=>by
  have hp:2^(f+1)=2*2^f:=by rw[Nat.pow_succ];omega
  unfold fp;by_cases h0:s=0;·subst h0;simp
  ·rw[if_neg h0];have ih:=w7 f (i+1) (s/2) j (by omega);have nB:∀k,s.testBit (k+1)=(s/2).testBit k:=λk=>Nat.testBit_succ s k;have hz:s.testBit 0=decide (s%2=1):=Nat.testBit_zero s;have rQ:(i+1<=j/\(s/2).testBit (j-(i+1))=true)↔(i+1<=j/\s.testBit (j-i)=true):=by
    refine and_congr_right λZF=>?_;rw[<-nB,show j-(i+1)+1=j-i by omega]
   by_cases hm:s%2=1
   ·rw[if_pos hm,alW,ih,rQ];constructor
    ·rintro(rfl|⟨h1,h2⟩);·exact⟨ali _,by rw[Nat.sub_self,hz];exact decide_eq_true hm⟩
     ·exact⟨by omega,h2⟩
    ·rintro⟨h1,h2⟩;by_cases ZF:j=i;·exact .inl ZF
     ·exact .inr ⟨by omega,h2⟩
   ·rw[if_neg hm,ih,rQ];constructor;·rintro⟨h1,h2⟩;exact⟨by omega,h2⟩
    ·rintro⟨h1,h2⟩;by_cases ZF:j=i
     ·subst ZF;rw[Nat.sub_self,hz]at h2;exact absurd (of_decide_eq_true h2) hm
     ·exact⟨by omega,h2⟩
def cH (s:Nat):List Nat:=fp 64 0 s
theorem vg {s:Nat} (h0:s≠0) (hs:s<18446744073709551616):cH s=Hk 64 s::cH (s&&&(s-1)):=by
 unfold cH;rw[uP 64 0 s h0 hs,alo]
theorem vh:cH 0=[]:=rfl
theorem RD {s j:Nat} (hs:s<18446744073709551616):j∈cH s↔s.testBit j=true:=by
 unfold cH;rw[w7 64 0 s j hs];simp
def ea (s:Nat):Int:=match cH s with
 | []=>-1
 |i::_=>i
end
section
open Go Go.Jq
def shB (b:Int):Nat:=(al0.wrap b).toNat%64
def RE (b:Bool):Int:=if b then 1 else 0
def gQ (op a b:Int):Int×Bool:=
 if op=1 then(alv.wrap (a+b),true)
 else if op=2 then(alv.wrap (a-b),true)
 else if op=3 then(alv.wrap (a*b),true)
 else if op=4 then(bits .and .i64 a b,true)
 else if op=5 then(bits .or .i64 a b,true)
 else if op=6 then(bits .xor .i64 a b,true)
 else if op=7 then(alv.wrap (a*2^shB b),true)
 else if op=8 then(a.fdiv (2^shB b),true)
 else if op=9 then(RE (decide (a=b)),true)
 else if op=10 then(RE (!decide (a=b)),true)
 else if op=11 then(RE (decide (a<b)),true)
 else(0,false)
theorem aa2 (b:Int):(al0.wrap b).tmod 64=(shB b:Int):=by
 have h:0<=al0.wrap b:=by rw[aaB];omega
 obtain⟨q,hq⟩:∃q:Nat,al0.wrap b=q:=⟨(al0.wrap b).toNat,by omega⟩;unfold shB;rw[hq];rfl
theorem afp (b:Int):shB b<64:=Nat.mod_lt _ (by omega)
theorem CK (b:Bool):Pure aK 274 [.d (.bool b)] (au (RE b)):=by
 refine ay func274 VC ntmps274 results274 rfl ?_;unfold acZ;refine J λK hK=>?_;simp only[go_sem];apply hK;refine aa λK1 aT=>?_;refine J λK hK=>?_;simp only[go_sem];apply hK;cases b with
 |true=>
  refine aM ?_;refine J λK hK=>?_;simp only[go_sem];apply hK;apply an;simp only[go_sem];refine aD _ rfl rfl ⟨?_,rfl⟩;simp[ah,RE]
 |false=>
  refine aH ?_;apply ar;refine aT _ (J λK hK=>?_);simp only[go_sem];apply hK;apply an;simp only[go_sem];refine aD _ rfl rfl ⟨?_,rfl⟩;simp[ah,RE]
set_option maxHeartbeats 4000000 in
theorem aa3 (op a b:Int):Pure aK 235 [au op,au a,au b] (.cC [au ((gQ op a b).1),.d (.bool (gQ op a b).2)]):=by
 have hs:=afp b;have yW:min (shB b) 64=shB b:=by omega
 have hi:alv.bits=64:=rfl;have hu:al0.bits=64:=rfl;have h0:¬(shB b:Int)<0:=by omega
 have ht:=aa2 b;refine ay func235 VA ntmps235 results235 rfl ?_;unfold acX;refine J λK hK=>?_;simp only[go_sem];refine hK _ (J λK hK=>?_);simp only[go_sem,ht];apply hK;refine aa λK1 aT=>?_;refine J λK hK=>?_;simp only[go_sem];apply hK;apply ax;by_cases k1:op=1
 ·refine J λK hK=>?_;simp only[go_sem,k1];apply hK;refine aM ?_;refine J λK hK=>?_;simp only[go_sem,ht,h0,yW,hi,hu,alj];apply hK;apply an;simp only[go_sem];refine aD _ rfl rfl ⟨?_,rfl⟩;simp[ah,gQ,k1]
 refine J λK hK=>?_;simp only[go_sem,k1];apply hK;refine aH ?_ (by simp[ev,ah,k1]);by_cases k2:op=2
 ·refine J λK hK=>?_;simp only[go_sem,k2];apply hK;refine aM ?_;refine J λK hK=>?_;simp only[go_sem,ht,h0,yW,hi,hu,alj];apply hK;apply an;simp only[go_sem];refine aD _ rfl rfl ⟨?_,rfl⟩;simp[ah,gQ,k2]
 refine J λK hK=>?_;simp only[go_sem,k2];apply hK;refine aH ?_ (by simp[ev,ah,k2]);by_cases k3:op=3
 ·refine J λK hK=>?_;simp only[go_sem,k3];apply hK;refine aM ?_;refine J λK hK=>?_;simp only[go_sem,ht,h0,yW,hi,hu,alj];apply hK;apply an;simp only[go_sem];refine aD _ rfl rfl ⟨?_,rfl⟩;simp[ah,gQ,k3]
 refine J λK hK=>?_;simp only[go_sem,k3];apply hK;refine aH ?_ (by simp[ev,ah,k3]);by_cases k4:op=4
 ·refine J λK hK=>?_;simp only[go_sem,k4];apply hK;refine aM ?_;refine J λK hK=>?_;simp only[go_sem,ht,h0,yW,hi,hu,alj];apply hK;apply an;simp only[go_sem];refine aD _ rfl rfl ⟨?_,rfl⟩;simp[ah,gQ,k4]
 refine J λK hK=>?_;simp only[go_sem,k4];apply hK;refine aH ?_ (by simp[ev,ah,k4]);by_cases k5:op=5
 ·refine J λK hK=>?_;simp only[go_sem,k5];apply hK;refine aM ?_;refine J λK hK=>?_;simp only[go_sem,ht,h0,yW,hi,hu,alj];apply hK;apply an;simp only[go_sem];refine aD _ rfl rfl ⟨?_,rfl⟩;simp[ah,gQ,k5]
 refine J λK hK=>?_;simp only[go_sem,k5];apply hK;refine aH ?_ (by simp[ev,ah,k5]);by_cases k6:op=6
 ·refine J λK hK=>?_;simp only[go_sem,k6];apply hK;refine aM ?_;refine J λK hK=>?_;simp only[go_sem,ht,h0,yW,hi,hu,alj];apply hK;apply an;simp only[go_sem];refine aD _ rfl rfl ⟨?_,rfl⟩;simp[ah,gQ,k6]
 refine J λK hK=>?_;simp only[go_sem,k6];apply hK;refine aH ?_ (by simp[ev,ah,k6]);by_cases k7:op=7
 ·refine J λK hK=>?_;simp only[go_sem,k7];apply hK;refine aM ?_;refine J λK hK=>?_;simp only[go_sem,ht,h0,yW,hi,hu,alj];apply hK;apply an;simp only[go_sem];refine aD _ rfl rfl ⟨?_,rfl⟩;simp[ah,gQ,k7]
 refine J λK hK=>?_;simp only[go_sem,k7];apply hK;refine aH ?_ (by simp[ev,ah,k7]);by_cases k8:op=8
 ·refine J λK hK=>?_;simp only[go_sem,k8];apply hK;refine aM ?_;refine J λK hK=>?_;simp only[go_sem,ht,h0,yW,hi,hu,alj];apply hK;apply an;simp only[go_sem];refine aD _ rfl rfl ⟨?_,rfl⟩;simp[ah,gQ,k8]
 refine J λK hK=>?_;simp only[go_sem,k8];apply hK;refine aH ?_ (by simp[ev,ah,k8]);by_cases k9:op=9
 ·refine J λK hK=>?_;simp only[go_sem,k9];apply hK;refine aM ?_;refine J λK hK=>?_;simp only[go_sem];refine aI (CK _) rfl rfl ?_;simp only[go_sem];apply hK;apply an;simp only[go_sem];refine aD _ rfl rfl ⟨?_,rfl⟩;simp[ah,gQ,k9]
 refine J λK hK=>?_;simp only[go_sem,k9];apply hK;refine aH ?_ (by simp[ev,ah,k9]);by_cases k10:op=10
 ·refine J λK hK=>?_;simp only[go_sem,k10];apply hK;refine aM ?_;refine J λK hK=>?_;simp only[go_sem];refine aI (CK _) rfl rfl ?_;simp only[go_sem];apply hK;apply an;simp only[go_sem];refine aD _ rfl rfl ⟨?_,rfl⟩;simp[ah,gQ,k10]
 refine J λK hK=>?_;simp only[go_sem,k10];apply hK;refine aH ?_ (by simp[ev,ah,k10]);by_cases k11:op=11
 ·refine J λK hK=>?_;simp only[go_sem,k11];apply hK;refine aM ?_;refine J λK hK=>?_;simp only[go_sem];refine aI (CK _) rfl rfl ?_;simp only[go_sem];apply hK;apply an;simp only[go_sem];refine aD _ rfl rfl ⟨?_,rfl⟩;simp[ah,gQ,k11]
 refine J λK hK=>?_;simp only[go_sem,k11];apply hK;refine aH ?_ (by simp[ev,ah,k11]);apply ar;simp only[go_sem];refine aT _ (J λK hK=>?_);simp only[go_sem];apply hK;apply an;simp only[go_sem];refine aD _ rfl rfl ⟨?_,rfl⟩;simp[ah,gQ,k1,k2,k3,k4,k5,k6,k7,k8,k9,k10,k11]
def place (aC:List UInt8) (x:Int):Int:=match aC.findIdx? (λb=>decide ((b.toNat:Int)=x))with
 |some i=>i
 |none=>-1
theorem J5 {aC:List UInt8} {x:Int} {i:Nat} (hi:i<aC.length) (hx:(aC[i].toNat:Int)=x) (hb:∀j (h:j<aC.length),j<i->(aC[j].toNat:Int)≠x):place aC x=i:=by
 unfold place;have:aC.findIdx? (λb=>decide ((b.toNat:Int)=x))=some i:=by
  rw[List.findIdx?_eq_some_iff_getElem];exact⟨hi,by simpa using hx,λj hj=>by simpa using hb j (by omega) hj⟩
 rw[this]
theorem XG {aC:List UInt8} {x:Int} (hb:∀j (h:j<aC.length),(aC[j].toNat:Int)≠x):place aC x=-1:=by
 unfold place;have:aC.findIdx? (λb=>decide ((b.toNat:Int)=x))=none:=by
  rw[List.findIdx?_eq_none_iff];intro b hbm;obtain⟨j,hj,rfl⟩:=List.mem_iff_getElem.1 hbm;simpa using hb j hj
 rw[this]
structure Prog where
 aC:List UInt8
 init:List Int
 threads:List (List Ins)
def P1 (l:List Init) (b:UInt8):Int:=l.foldl (λv x=>if x.loc=(b.toNat:Int)then x.value else v) 0
def pE (aC:List UInt8) (x:Ins):Ins:=if x.loc=0 then x else{x with loc:=place aC x.loc}
def w8 (t:Test):Prog:=⟨eA t,(eA t).map (P1 t.inits),t.threads.map (·.map (pE (eA t)))⟩
def o2 (i:Int):Nat:=if 0<=i/\i<64 then 2^i.toNat else 0
def rb (s:Nat) (i:Int):Bool:=!decide (s&&&o2 i=0)
def fq (s:Nat) (i:Int):Nat:=s|||o2 i
def w9 (s:Nat) (i:Int):Nat:=dO s (o2 i)
structure Rl where
 n:Nat
 rows:List Nat
def Rl.cells (r:Rl):List DV:=.int .i64 r.n::r.rows.map λ(s:Nat)=>.int .u64 s
def Rl.ok (r:Rl):Prop:=r.n<=64/\r.rows.length=64/\∀s∈r.rows,s<18446744073709551616
def gB (n:Int):Rl:=⟨min n.toNat 64,alA 64 0⟩
def Rl.sR (r:Rl) (a:Int):Bool:=decide (0<=a)&&decide (a<r.n)
def Rl.has (r:Rl) (a b:Int):Bool:=r.sR a&&rb (r.rows.getD a.toNat 0) b
def Rl.add (r:Rl) (a b:Int):Rl:=if r.sR a&&r.sR b then{r with rows:=r.rows.set a.toNat (fq (r.rows.getD a.toNat 0) b)}else r
def Rl.row (r:Rl) (a:Int):Nat:=if r.sR a then r.rows.getD a.toNat 0 else 0
def nG (i:Nat) (rows:List Nat) (j:Nat):List Nat:=rows.set j (fq (rows.getD j 0) i)
def Rl.inv (r:Rl):Rl:=⟨r.n,(alI r.n).foldl (λrows i=>(cH (r.rows.getD i 0)).foldl (nG i) rows) (alA 64 0)⟩
def sS (k:Nat) (rows:List Nat) (i:Nat):List Nat:=if rb (rows.getD i 0) k then rows.set i (rows.getD i 0|||rows.getD k 0)else rows
def Rl.clo (r:Rl):Rl:=⟨r.n,(alI r.n).foldl (λrows k=>(alI r.n).foldl (sS k) rows) r.rows⟩
def re (r:Rl) (s:Nat) (rows:List Nat) (i:Nat):List Nat:=if rb s i then rows.set i (r.rows.getD i 0&&&s)else rows
def Rl.di (r:Rl) (s:Nat):Rl:=⟨r.n,(alI r.n).foldl (re r s) (alA 64 0)⟩
structure kN where
 pc:Int
 lG:List Int
def kN.cells (l:kN):List DV:=.int .i64 l.pc::l.lG.map λx=>.int .i64 x
def sU:kN:=⟨0,[0,0,0,0]⟩
def ft (o:nf) (l:kN):Int:=if 0<=o.ez/\o.ez<4 then l.lG.getD o.ez.toNat 0 else o.value
def fS (l:kN) (ez v:Int):kN:=if 0<=ez/\ez<4 then{l with lG:=l.lG.set ez.toNat v}else l
def gC:Ins:=⟨0,0,0,⟨0,0⟩,0,⟨0,0⟩,0⟩
def fT (p:Prog) (t:Int):List Ins:=if 0<=t/\t<p.threads.length then p.threads.getD t.toNat []else []
def nX (code:List Ins):Nat->kN->kN
 |0,l=>l
 |f+1,l=>if 0<=l.pc/\l.pc<code.length then
   (let i:=code.getD l.pc.toNat gC
    if i.kind=5 then
     (let l':=fS l i.ez (if(gQ i.op (ft i.a l) (ft i.b l)).2 then(gQ i.op (ft i.a l) (ft i.b l)).1 else ft i.a l)
      nX code f {l' with pc:=l.pc+1})
    else if i.kind=6 then nX code f {l with pc:=(if ft i.a l=ft i.b l then l.pc+min (max i.n 0) code.length else l.pc)+1}
    else l)
  else l
def jL (code:List Ins) (l:kN):kN:=nX code (code.length+1) l
def nH (p:Prog) (t:Int):kN:=jL (fT p t) sU
def ec (p:Prog) (t:Int) (l:kN):Option Ins:=
 if 0<=l.pc/\l.pc<(fT p t).length then
  (let i:=(fT p t).getD l.pc.toNat gC
   if 1<=i.kind/\i.kind<=4 then some i else none)
 else none
def iY (p:Prog) (t:Int) (l:kN) (v:Int):kN:=match ec p t l with
 |none=>l
 |some i=>
  let l':=if i.kind=2\/i.kind=4 then fS l i.ez v else l
  jL (fT p t) {l' with pc:=l.pc+1}
structure qE where
 t:Int
 i:Int
 kind:Int
 loc:Int
 r:Int
 w:Int
def qE.cells (e:qE):List DV:=[.int .i64 e.t,.int .i64 e.i,.int .i64 e.kind,.int .i64 e.loc,.int .i64 e.r,.int .i64 e.w]
def mA (i:Ins) (l:kN) (v:Int):qE×Bool:=
 if i.kind=1 then(⟨0,0,2,i.loc,0,ft i.a l⟩,false)
 else if i.kind=2 then(⟨0,0,1,i.loc,v,0⟩,true)
 else if i.kind=4 then
  (if ft i.a l=v then(⟨0,0,4,i.loc,v,ft i.b l⟩,true)else(⟨0,0,5,i.loc,v,0⟩,true))
 else(⟨0,0,3,0,0,0⟩,false)
def oE (kind:Int):Bool:=decide (kind=2)||decide (kind=4)
structure Entry where
 loc:Int
 value:Int
 id:Int
def Entry.cells (e:Entry):List DV:=[.int .i64 e.loc,.int .i64 e.value,.int .i64 e.id]
structure Bf where
 m:Int
 l:List Entry
def cK:Entry:=⟨0,0,0⟩
def Bf.cells (b:Bf):List DV:=.int .i64 b.m::.int .i64 (b.l.length:Int)::(b.l++alA (24-b.l.length) cK).flatMap Entry.cells
def sa (m:Int):Bf:=⟨if m=2\/m=3 then m else 0,[]⟩
def Bf.put (b:Bf) (loc v id:Int):Bf:=if b.m=0\/loc<0\/4<=loc\/24<=b.l.length then b else{b with l:=b.l++[⟨loc,v,id⟩]}
def tV:List Entry->Int->Option Entry
 | [],_=>none
 |e::r,loc=>match tV r loc with
  |some x=>some x
  |none=>if e.loc=loc then some e else none
def Bf.oF (b:Bf) (loc:Int):Option Entry:=tV b.l loc
def Bf.which (b:Bf) (loc:Int):Option Nat:=b.l.findIdx? λe=>decide (b.m=2)||decide (e.loc=loc)
def Bf.fU (b:Bf) (loc:Int):Option Entry:=(b.which loc).bind λi=>b.l[i]?
def Bf.drop (b:Bf) (loc:Int):Bf:=match b.which loc with
 |none=>b
 |some i=>{b with l:=b.l.eraseIdx i}
def Bf.empty (b:Bf):Bool:=b.l.isEmpty
structure bM where
 pick:Int
 t:Int
 kind:Int
 loc:Int
 r:Int
 w:Int
 src:Int
def bM.cells (s:bM):List DV:=[.int .i64 s.pick,.int .i64 s.t,.int .i64 s.kind,.int .i64 s.loc,.int .i64 s.r,.int .i64 s.w,.int .i64 s.src]
def cU:bM:=⟨0,0,0,0,0,0,0⟩
structure Vm where
 p:Prog
 m:Int
 locals:List kN
 mem:List Int
 src:List Int
 fe:List Bf
 steps:List bM
def J6 (l:List Int):List Int:=(l++[0,0,0,0]).take 4
def lY (p:Prog) (m:Int):Vm:=
 ⟨p,m,[nH p 0,nH p 1,nH p 2,nH p 3],J6 p.init,[-1,-1,-1,-1],[sa m,sa m,sa m,sa m],[]⟩
def Vm.lc (v:Vm) (t:Nat):kN:=v.locals.getD t sU
def Vm.bf (v:Vm) (t:Nat):Bf:=v.fe.getD t ⟨0,[]⟩
def oH (v:Vm) (t:Nat):Bool:=match ec v.p t (v.lc t)with
 |none=>false
 |some i=>!(decide (i.kind=3)||decide (i.kind=4))||(v.bf t).empty
def rS (v:Vm) (t:Nat) (s:Nat) (loc:Nat):Nat:=if v.m=3/\((v.bf t).fU loc).isSome then fq s (8+4*(t:Int)+loc)else s
def P2 (v:Vm) (s:Nat) (t:Nat):Nat:=
 let s1:=if oH v t then fq s t else s
 let s2:=if v.m=2/\(v.bf t).empty=false then fq s1 (4+(t:Int))else s1
 [0,1,2,3].foldl (rS v t) s2
def Vm.enabled (v:Vm):Nat:=[0,1,2,3].foldl (P2 v) 0
def Vm.done (v:Vm):Bool:=decide (v.enabled=0)
def oI (v:Vm) (t:Nat) (loc:Int):Vm×bM:=
 let e:=((v.bf t).fU loc).getD cK
 ({v with fe:=v.fe.set t ((v.bf t).drop loc),mem:=v.mem.set e.loc.toNat e.value,src:=v.src.set e.loc.toNat e.id},⟨0,t,6,e.loc,0,e.value,e.id⟩)
def nY (v:Vm) (t:Nat):Vm×bM:=
 let l:=v.lc t
 let i:=(ec v.p t l).getD gC
 let vf:=match(v.bf t).oF i.loc with
  |some e=>(e.value,e.id)
  |none=>(v.mem.getD i.loc.toNat 0,v.src.getD i.loc.toNat 0)
 let e:=mA i l vf.1
 let from_:=if e.2 then vf.2 else-1
 let now:Int:=v.steps.length
 let v1:Vm:=if e.1.kind=2/\v.m≠1 then{v with fe:=v.fe.set t ((v.bf t).put e.1.loc e.1.w now)}
  else if oE e.1.kind then{v with mem:=v.mem.set e.1.loc.toNat e.1.w,src:=v.src.set e.1.loc.toNat now}else v
 ({v1 with locals:=v.locals.set t (iY v.p t l vf.1)},⟨0,t,e.1.kind,e.1.loc,e.1.r,e.1.w,from_⟩)
def cR (v:Vm) (i:Int):Vm×bM×Bool:=
 if rb v.enabled i then
  (let r:=if i<4 then nY v i.toNat else if i<8 then oI v (i.toNat-4) 0 else oI v ((i.toNat-8)/4) (((i.toNat-8)%4:Nat):Int)
   let s:={r.2 with pick:=i}
   ({r.1 with steps:=v.steps++[s]},s,true))
 else(v,cU,false)
def Vm.final (v:Vm):List Int:=v.locals.flatMap (·.lG)++v.mem
def dD (v:Vm) (t:Int):Bool:=
 if 0<=t/\t<4 then match ec v.p t (v.lc t.toNat)with
  |none=>false
  |some i=>decide (i.kind=2)&&((v.bf t.toNat).oF i.loc).isSome
 else false
def vi:Vm->List Int->Nat->Vm×Nat
 |v,[],k=>(v,k)
 |v,i::r,k=>match cR v i with
  |(v',_,true)=>vi v' r (k+1)
  |(v',_,false)=>(v',k)
def kY (p:Prog) (m:Int) (ba:List Int):Option (List Int):=
 let r:=vi (lY p m) ba 0
 if r.2<ba.length\/r.1.done=false then none else some r.1.final
def gd (s:bM) (m:Int):Bool:=decide (s.kind=6)||decide (s.kind=4)||(decide (m=1)&&decide (s.kind=2))
def y4 (s:bM):Bool:=decide (s.kind=1)||decide (s.kind=4)||decide (s.kind=5)
def tW (s:bM):Bool:=decide (s.kind=3)||decide (s.kind=4)||decide (s.kind=5)
def oJ (steps:List bM) (m:Int) (store:Nat):Int:=
 if gd (steps.getD store cU) m then store
 else match steps.findIdx? λs=>decide (s.kind=6)&&decide (s.src=(store:Int))with
  |some i=>i
  |none=>-1
def rf (steps:List bM) (m:Int) (i:Nat) (r:Rl) (k:Nat):Rl:=
 if !decide (k=i)&&gd (steps.getD k cU) m&&decide ((steps.getD k cU).loc=(steps.getD i cU).loc)then r.add i k else r
def kB (r:Rl) (steps:List bM) (m:Int) (i:Nat):Rl:=
 let s:=steps.getD i cU
 if 0<=s.src/\s.src<steps.length then
  (let c:=oJ steps m s.src.toNat
   if c<0 then r else
    (let r1:=if(steps.getD s.src.toNat cU).t=s.t then r else r.add c i
     (List.range' (c.toNat+1) (steps.length-(c.toNat+1))).foldl (rf steps m i) r1))
 else(List.range' 0 steps.length).foldl (rf steps m i) r
def XH (steps:List bM) (m:Int) (i:Nat) (r:Rl) (k:Nat):Rl:=
 let a:=steps.getD i cU
 let b:=steps.getD k cU
 if decide (a.pick=b.pick)||(gd a m&&gd b m&&decide (a.loc=b.loc))||(decide (b.kind=6)&&decide (b.src=i))||(decide (a.kind=6)&&decide (a.t=b.t)&&tW b)then r.add i k else r
def FB (steps:List bM) (m:Int) (r:Rl) (i:Nat):Rl:=
 let r1:=(List.range' (i+1) (steps.length-(i+1))).foldl (XH steps m i) r
 if y4 (steps.getD i cU)then kB r1 steps m i else r1
def Ny (steps:List bM) (m:Int):Rl:=
 if 64<steps.length then gB 0 else((alI steps.length).foldl (FB steps m) (gB steps.length)).clo
def xa (a b:bM) (m:Int):Bool:=!decide (a.t=b.t)&&decide (a.loc=b.loc)&&(gd a m||gd b m)
def vk (r back:Rl) (steps:List bM) (m:Int) (k:Nat) (i:Nat):Bool:=
 r.has i k&&decide (r.row i&&&back.row k=0)&&xa (steps.getD i cU) (steps.getD k cU) m
def je (r:Rl) (steps:List bM) (m:Int):List (Nat×Nat):=
 (alI r.n).flatMap λk=>((alI k).filter (vk r r.inv steps m k)).map λi=>(i,k)
def xb (s:bM) (m:Int):Bool:=gd s m||y4 s
def y5 (a b:bM) (m:Int):Bool:=
 if a.pick=b.pick then true
 else if a.t=b.t then(decide (a.kind=6)&&tW b)||(decide (b.kind=6)&&tW a)
 else xb a m&&xb b m&&decide (a.loc=b.loc)&&(gd a m||gd b m)
def xe (back need:Nat):Bool:=decide (need=0)||!decide (back&&&need=0)
structure Fm where
 v:Vm
 sleep:Nat
 back:Nat
structure Wk where
 m:Int
 aR:Int
 stack:List Fm
 steps:List bM
 runs:List (List Int)
 blocked:Int
 ba:Int
def eY (w:Wk) (v:Vm) (dh:Nat):Wk:=
 let en:=v.enabled
 let fst:=ea (dO en dh)
 let w1:=if en=0 then{w with runs:=w.runs++[w.steps.map (·.pick)]}else if fst<0 then{w with blocked:=w.blocked+1}else w
 {w1 with stack:=w.stack++[⟨v,dh,o2 fst⟩]}
def qg (w:Wk):Wk:={w with stack:=w.stack.dropLast,steps:=w.steps.dropLast}
def xf (v:Vm) (a b:bM) (m:Int):Bool:=
 y5 a b m&&!(!decide (a.t=b.t)&&((decide (a.kind=1)&&dD v a.t)||(decide (b.kind=1)&&dD v b.t)))
def qh (f:Fm) (s:bM) (m:Int) (out:Nat) (i:Nat):Nat:=
 if xf f.v (cR f.v i).2.1 s m then w9 out i else out
def gU (f:Fm) (s:bM) (m:Int):Nat:=(cH f.sleep).foldl (qh f s m) f.sleep
def FC (steps:List bM) (r:Rl) (from_:Nat) (di:Nat) (i:Nat):Nat:=
 if from_<i/\(i=steps.length-1\/r.has from_ i=false)then fq di i else di
def y6 (back:Rl) (steps:List bM) (out:Nat) (i:Nat):Nat:=if back.row i=0 then fq out (steps.getD i cU).pick else out
def od (steps:List bM) (r:Rl) (from_:Nat):Nat:=
 let di:=(alI steps.length).foldl (FC steps r from_) 0
 (cH di).foldl (y6 (r.di di).inv steps) 0
def qi (steps:List bM) (r:Rl) (stack:List Fm) (x:Nat×Nat):List Fm:=
 if x.2≠steps.length-1 then stack else
  match stack[x.1]?with
  |none=>stack
  |some f=>
   let need:=od steps r x.1
   if xe f.back need then stack else
    stack.set x.1 {f with back:=fq f.back (ea (if need&&&f.sleep=0 then need else need&&&f.sleep))}
def iE (w:Wk):Wk:=
 let r:=Ny w.steps w.m
 {w with stack:=(je r w.steps w.m).foldl (qi w.steps r) w.stack}
inductive akc where
 |on (w:Wk)
 |done (w:Wk)
 |XI
def jf (w:Wk):akc:=match w.stack.getLast? with
 |none=>.done w
 |some f=>
  let i:=ea (dO f.back f.sleep)
  if i<0 then .on (qg w)else
   let r:=cR f.v i
   let s:=r.2.1
   let dh:=gU f s w.m
   let ba:=w.ba+1+(cH f.sleep).length
   if w.aR<ba then .XI else
    let w1:={w with ba:=ba,stack:=w.stack.dropLast++[{f with sleep:=fq f.sleep i}],steps:=w.steps++[s]}
    .on (eY (iE w1) r.1 dh)
def sb:Nat->Wk->Option Wk
 |0,_=>none
 |f+1,w=>match jf w with
  |.on w'=>sb f w'
  |.done w'=>some w'
  |.XI=>none
structure Found where
 runs:List (List Int)
 blocked:Int
 ba:Int
def CL (p:Prog) (m aR:Int):Wk:=eY ⟨m,min (max aR 0) 2000000,[],[],[],0,0⟩ (lY p m) 0
def explore (p:Prog) (m aR:Int):Option Found:=(sb 4000010 (CL p m aR)).map λw=>⟨w.runs,w.blocked,w.ba⟩
end
end Go.Proofs.YtadocofdkdiboaaGreatDoor
namespace Go.Jq
open Go
section
variable{P:Program} {dst:Option Nat} {op:j5} {r:List bC} {K:St->Prop} {t:Fr} {m:Mem} {n:Nat} {want b:Bool} {acc:List nc} {ms:List Nat}
theorem cn (h1:b=true->sG P dst op r K t m n want (.d (.bool true))) (h0:b=false->sG P dst op r K t m n want (.d (.bool false))):sG P dst op r K t m n want (.d (.bool b)):=by
 cases b;·exact h0 rfl
 ·exact h1 rfl
theorem b7 (h1:b=true->oB P dst op r acc ms K t m n want (.d (.bool true))) (h0:b=false->oB P dst op r acc ms K t m n want (.d (.bool false))):oB P dst op r acc ms K t m n want (.d (.bool b)):=by
 cases b;·exact h0 rfl
 ·exact h1 rfl
end
theorem RF {α:Type} (l:List α) (i:Nat) (h:i<l.length):l.take (i+1)=l.take i++[l[i]]:=by
 rw[List.take_add_one,alw h];rfl
end Go.Jq
