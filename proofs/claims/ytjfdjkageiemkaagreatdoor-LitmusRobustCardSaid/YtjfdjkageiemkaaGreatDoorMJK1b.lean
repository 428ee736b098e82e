/- What the statement's proof leans on, part 2: the layer, the walks, the plain laws. Names and blanks are short to keep the claim within its limit of bytes. -/
import Derived.Test.YtjfdjkageiemkaaGreatDoorMJK1a
set_option linter.unusedSimpArgs false
set_option linter.unusedVariables false
set_option maxRecDepth 100000
open List renaming length_map → acY, drop_zero → ac3, getElem?_eq_getElem → ac6, take_of_length_le → ac8, map_cons → ade, length_append → adk, flatMap_cons → adr, length_cons → ads, map_nil → adu, mem_cons_self → adw, mem_cons_of_mem → adx, length_nil → adz, foldl_cons → adB, nil_append → adF, take_add_one → adG
open Nat renaming le_refl → acV, zero_add → ac2, max_def → ado
open Int renaming toNat_natCast → acW, natCast_nonneg → acX
open Bool renaming false_eq_true → ac5, and_self → adg, false_and → adi, and_eq_true → adn
open Go.IntKind renaming i64 → ac9, u64 → adA
open Option renaming map_eq_some_iff → adf, isSome_iff_exists → adv, map_some → ady, getD_some → adE
open Option.some renaming injEq → adh
namespace Go.Jq
open Go
def l7 (P:Program) (dst:Option Nat) (op:im) (r:List bA) (K:St->Prop) (t:Fr) (m:Mem) (n:Nat):Prop:=
 ju P ⟨dst,op,none⟩ ⟨t,m,n⟩ λS'=>cz P r S' K
def dL (P:Program) (dst:Option Nat) (r:List bA) (K:St->Prop) (t:Fr) (m:Mem) (n:Nat):Option (AV×eX)->Prop
 |some (v,e)=>cz P r ⟨cK t dst v,e.mem m n,e.next n⟩ K
 |none=>False
def py (P:Program) (dst:Option Nat) (op:im) (r:List bA) (K:St->Prop) (t:Fr) (m:Mem) (n:Nat) (want:Bool):AV->Prop
 |.d (.bool b)=>if b=want then l7 P dst op r K t m n else cz P r ⟨cK t dst (.cu []),m,n⟩ K
 |.cu _=>cz P r ⟨cK t dst (.cu []),m,n⟩ K
 |_=>False
def oS (P:Program) (f:Nat) (args:List AV) (dst:Option Nat) (r:List bA) (K:St->Prop) (t:Fr) (m:Mem) (n:Nat):Prop:=
 ∃R,oR P f args m n (n<=·) R/\∀v m' n',R v m' n'->cz P r ⟨cK t dst v,m',n'⟩ K
def Nd (P:Program) (args:List AV) (dst:Option Nat) (r:List bA) (K:St->Prop) (t:Fr) (m:Mem) (n:Nat):AV->Prop
 |.fn f caps=>jo P f=true/\oS P f (args++caps) dst r K t m n
 |_=>False
section
variable{P:Program} {dst:Option Nat} {op:im} {r:List bA} {K:St->Prop} {t:Fr} {m:Mem} {n:Nat}
@[go_sem]theorem Wu {S:St}:cz P [] S K=K S:=rfl
@[go_sem]theorem TL:cz P (⟨dst,op,none⟩::r) ⟨t,m,n⟩ K=l7 P dst op r K t m n:=by
  simp only[cz,l7,ju]
@[go_sem]theorem RP {g:Nat} {want:Bool}:cz P (⟨dst,op,some (g,want)⟩::r) ⟨t,m,n⟩ K=py P dst op r K t m n want (ah t g):=by
  simp only[cz];generalize ah t g=x;cases x with
  |d x=>cases x<;>simp only[py,l7,ju]
  |_=>simp only[py]
@[go_sem]theorem YL:py P dst op r K t m n true (.d (.bool true))=l7 P dst op r K t m n:=rfl
@[go_sem]theorem YM:py P dst op r K t m n false (.d (.bool false))=l7 P dst op r K t m n:=rfl
@[go_sem]theorem YN:py P dst op r K t m n true (.d (.bool false))=cz P r ⟨cK t dst (.cu []),m,n⟩ K:=rfl
@[go_sem]theorem YO:py P dst op r K t m n false (.d (.bool true))=cz P r ⟨cK t dst (.cu []),m,n⟩ K:=rfl
@[go_sem]theorem XT {want:Bool} {cs:List AV}:py P dst op r K t m n want (.cu cs)=cz P r ⟨cK t dst (.cu []),m,n⟩ K:=rfl
theorem cD (h:nU op=false):l7 P dst op r K t m n=dL P dst r K t m n (aW op t m n):=by
 have:ju P ⟨dst,op,none⟩ ⟨t,m,n⟩ (λS'=>cz P r S' K)=dL P dst r K t m n (aW op t m n):=by
  cases op<;>first
   |(simp[nU]at h;done)
   |(simp only[ju]
     generalize aW _ t m n=x;cases x with
     |none=>rfl
     |some p=>obtain⟨v,e⟩:=p;rfl)
 exact this
@[go_sem]theorem Wv {v:AV} {e:eX}:dL P dst r K t m n (some (v,e))=cz P r ⟨cK t dst v,e.mem m n,e.next n⟩ K:=rfl
@[go_sem]theorem Ww:dL P dst r K t m n none=False:=rfl
@[go_sem]theorem XU {f:Nat} {args:List cR}:l7 P dst (.bW f args) r K t m n=oS P f (args.map (ev t)) dst r K t m n:=rfl
@[go_sem]theorem XV {x:cR} {args:List cR}:l7 P dst (.fb x args) r K t m n=Nd P (args.map (ev t)) dst r K t m n (ev t x):=by
  unfold l7;simp only[ju];generalize ev t x=y;cases y<;>rfl
@[go_sem]theorem XW {f:Nat} {caps args:List AV}:Nd P args dst r K t m n (.fn f caps)=(jo P f=true/\oS P f (args++caps) dst r K t m n):=rfl
@[go_sem]theorem abE {x:cR}:l7 P dst (.mv x) r K t m n=cz P r ⟨cK t dst (ev t x),m,n⟩ K:=rfl
@[go_sem]theorem YP {a b c:cR}:l7 P dst (.pick a b c) r K t m n=dL P dst r K t m n (aW (.pick a b c) t m n):=cD rfl
@[go_sem]theorem abF {n:Nat} {x:DV} {r:List AV}:o8 n (.d x::r)=.d x::r:=rfl
@[go_sem]theorem YQ {n i T:Nat} {r:List AV}:o8 n (.r8 i T::r)=.r8 n T::r:=rfl
@[go_sem]theorem YR {n:Nat}:o8 n []=[]:=rfl
@[go_sem]theorem XX {z:List AV}:l7 P dst (.alloc z) r K t m n=cz P r ⟨cK t dst (.ptr n 0),an m n (o8 n z),n+1⟩ K:=rfl
@[go_sem]theorem aaR {x:cR}:l7 P dst (.box x) r K t m n=dL P dst r K t m n (aW (.box x) t m n):=cD rfl
@[go_sem]theorem XY {z:List AV} {p:List (Nat×Nat×cR)}:l7 P dst (.build z p) r K t m n=dL P dst r K t m n (aW (.build z p) t m n):=cD rfl
@[go_sem]theorem Wx {a b:Nat} {z:List AV} {p:List (Nat×Nat×cR)}:l7 P dst (.dp a b z p) r K t m n=dL P dst r K t m n (aW (.dp a b z p) t m n):=cD rfl
@[go_sem]theorem YS {k:Option Nat} {x:cR}:l7 P dst (.load k x) r K t m n=dL P dst r K t m n (aW (.load k x) t m n):=cD rfl
@[go_sem]theorem XZ {k:Nat} {x y:cR}:l7 P dst (.store k x y) r K t m n=dL P dst r K t m n (aW (.store k x y) t m n):=cD rfl
@[go_sem]theorem X0 {x:cR}:l7 P dst (.gu x) r K t m n=dL P dst r K t m n (aW (.gu x) t m n):=cD rfl
@[go_sem]theorem aaS {o:BinOp} {x y:cR}:l7 P dst (.bin o x y) r K t m n=dL P dst r K t m n (aW (.bin o x y) t m n):=cD rfl
@[go_sem]theorem aaT {o:Bool} {x y:cR}:l7 P dst (.Q1 o x y) r K t m n=dL P dst r K t m n (aW (.Q1 o x y) t m n):=cD rfl
@[go_sem]theorem aaU {o:Bool} {x y:cR}:l7 P dst (.Mw o x y) r K t m n=dL P dst r K t m n (aW (.Mw o x y) t m n):=cD rfl
@[go_sem]theorem aaV {o:Bool} {x y:cR}:l7 P dst (.Q3 o x y) r K t m n=dL P dst r K t m n (aW (.Q3 o x y) t m n):=cD rfl
@[go_sem]theorem aaW {k:List Nat} {o:Bool} {x y:cR}:l7 P dst (.eqs k o x y) r K t m n=dL P dst r K t m n (aW (.eqs k o x y) t m n):=cD rfl
@[go_sem]theorem abG {o:UnOp} {x:cR}:l7 P dst (.un o x) r K t m n=dL P dst r K t m n (aW (.un o x) t m n):=cD rfl
@[go_sem]theorem aaX {k:IntKind} {x:cR}:l7 P dst (.Gz k x) r K t m n=dL P dst r K t m n (aW (.Gz k x) t m n):=cD rfl
@[go_sem]theorem Wy {x:cR}:l7 P dst (.mA x) r K t m n=dL P dst r K t m n (aW (.mA x) t m n):=cD rfl
@[go_sem]theorem YT {x:cR}:l7 P dst (.xy x) r K t m n=dL P dst r K t m n (aW (.xy x) t m n):=cD rfl
@[go_sem]theorem YU {x:cR}:l7 P dst (.BA x) r K t m n=dL P dst r K t m n (aW (.BA x) t m n):=cD rfl
@[go_sem]theorem YV {x:cR}:l7 P dst (.xz x) r K t m n=dL P dst r K t m n (aW (.xz x) t m n):=cD rfl
@[go_sem]theorem YW {f:Nat} {c:List cR}:l7 P dst (.o7 f c) r K t m n=cz P r ⟨cK t dst (.fn f (c.map (ev t))),m,n⟩ K:=rfl
@[go_sem]theorem YX {a b:Nat} {z:List AV} {x y:cR}:l7 P dst (.zC a b z x y) r K t m n=dL P dst r K t m n (aW (.zC a b z x y) t m n):=cD rfl
@[go_sem]theorem YY {x:cR} {l h:Option cR}:l7 P dst (.zD x l h) r K t m n=dL P dst r K t m n (aW (.zD x l h) t m n):=cD rfl
@[go_sem]theorem YZ {a:Nat} {x:cR} {l h:Option cR}:l7 P dst (.rm a x l h) r K t m n=dL P dst r K t m n (aW (.rm a x l h) t m n):=cD rfl
@[go_sem]theorem X1 {x:cR} {o:Nat}:l7 P dst (.c7 x o) r K t m n=dL P dst r K t m n (aW (.c7 x o) t m n):=cD rfl
@[go_sem]theorem aaY {x:cR} {o:Nat} {k:Option Nat}:l7 P dst (.Rs x o k) r K t m n=dL P dst r K t m n (aW (.Rs x o k) t m n):=cD rfl
@[go_sem]theorem X2 {e:Nat} {k:Option Nat} {x i:cR}:l7 P dst (.bS e k x i) r K t m n=dL P dst r K t m n (aW (.bS e k x i) t m n):=cD rfl
@[go_sem]theorem Y0 {x i:cR}:l7 P dst (.idxs x i) r K t m n=dL P dst r K t m n (aW (.idxs x i) t m n):=cD rfl
@[go_sem]theorem Y1 {a e:Nat} {k:Option Nat} {x i:cR}:l7 P dst (.BB a e k x i) r K t m n=dL P dst r K t m n (aW (.BB a e k x i) t m n):=cD rfl
@[go_sem]theorem aaZ {x:cR} {i:Nat}:l7 P dst (.ext x i) r K t m n=dL P dst r K t m n (aW (.ext x i) t m n):=cD rfl
@[go_sem]theorem Y2 {x:cR}:l7 P dst (.lens x) r K t m n=dL P dst r K t m n (aW (.lens x) t m n):=cD rfl
@[go_sem]theorem Y3 {x:cR}:l7 P dst (.xA x) r K t m n=dL P dst r K t m n (aW (.xA x) t m n):=cD rfl
@[go_sem]theorem Y4 {x y:cR}:l7 P dst (.uu x y) r K t m n=dL P dst r K t m n (aW (.uu x y) t m n):=cD rfl
@[go_sem]theorem Y5 {x y:cR}:l7 P dst (.uv x y) r K t m n=dL P dst r K t m n (aW (.uv x y) t m n):=cD rfl
@[go_sem]theorem aa0 {k:jL} {xs:List cR}:l7 P dst (.iW k xs) r K t m n=dL P dst r K t m n (kg k (xs.map (ev t)) m n):=cD rfl
@[go_sem]theorem aa1 {a b e:Nat} {x y:cR}:l7 P dst (.app a b e x y) r K t m n=dL P dst r K t m n (aW (.app a b e x y) t m n):=cD rfl
end
attribute [go_sem] Nat.reduceEqDiff Nat.reduceAdd Nat.reduceLeDiff Nat.reduceMul Nat.reduceSub Int.reduceLE Int.reduceLT Int.reduceEq Int.reduceToNat Int.reducePow Int.reduceNeg
attribute [go_sem] aW kg mapOf qJ ev ah cK eX.mem eX.next ai an aB XP unA Rt Ru o9 b7 DC Wa cellsOf j9 putAt qY nK kX ez lD dq IA lr
section
variable{k:IntKind} {a b:Int}
@[go_sem]theorem Y6:fv .add (.d (.int k a)) (.d (.int k b))=some (.d (.int k (k.wrap (a+b)))):=by simp[fv,o0,lD]
@[go_sem]theorem Y7:fv .sub (.d (.int k a)) (.d (.int k b))=some (.d (.int k (k.wrap (a-b)))):=by simp[fv,o0,lD]
@[go_sem]theorem Y8:fv .mul (.d (.int k a)) (.d (.int k b))=some (.d (.int k (k.wrap (a*b)))):=by simp[fv,o0,lD]
@[go_sem]theorem Y9:fv .quo (.d (.int k a)) (.d (.int k b))=if b=0 then none else some (.d (.int k (k.wrap (a.tdiv b)))):=by simp[fv,o0,lD]
@[go_sem]theorem Za:fv .rem (.d (.int k a)) (.d (.int k b))=if b=0 then none else some (.d (.int k (a.tmod b))):=by simp[fv,o0]
@[go_sem]theorem Zb:fv .and (.d (.int k a)) (.d (.int k b))=some (.d (.int k (bits .and k a b))):=by simp[fv,o0]
@[go_sem]theorem aa2:fv .or (.d (.int k a)) (.d (.int k b))=some (.d (.int k (bits .or k a b))):=by simp[fv,o0]
@[go_sem]theorem Zc:fv .xor (.d (.int k a)) (.d (.int k b))=some (.d (.int k (bits .xor k a b))):=by simp[fv,o0]
@[go_sem]theorem TM:fv .andNot (.d (.int k a)) (.d (.int k b))=some (.d (.int k (bits .andNot k a b))):=by simp[fv,o0]
@[go_sem]theorem Zd {k':IntKind}:fv .shl (.d (.int k a)) (.d (.int k' b))=if b<0 then none else some (.d (.int k (k.wrap (a*2^min b.toNat k.bits)))):=by simp[fv,XP,lD]
@[go_sem]theorem Ze {k':IntKind}:fv .shr (.d (.int k a)) (.d (.int k' b))=if b<0 then none else some (.d (.int k (a.fdiv (2^min b.toNat k.bits)))):=by simp[fv,XP]
@[go_sem]theorem Zf:fv .eql (.d (.int k a)) (.d (.int k b))=some (.d (.bool (decide (a=b)))):=by simp[fv,o0,dq]
@[go_sem]theorem Zg:fv .neq (.d (.int k a)) (.d (.int k b))=some (.d (.bool (!decide (a=b)))):=by simp[fv,o0,dq]
@[go_sem]theorem Zh:fv .lss (.d (.int k a)) (.d (.int k b))=some (.d (.bool (decide (a<b)))):=by simp[fv,o0,dq]
@[go_sem]theorem Zi:fv .leq (.d (.int k a)) (.d (.int k b))=some (.d (.bool (decide (a<=b)))):=by simp[fv,o0,dq]
@[go_sem]theorem Zj:fv .gtr (.d (.int k a)) (.d (.int k b))=some (.d (.bool (decide (b<a)))):=by simp[fv,o0,dq]
@[go_sem]theorem Zk:fv .geq (.d (.int k a)) (.d (.int k b))=some (.d (.bool (decide (b<=a)))):=by simp[fv,o0,dq]
end
section
variable{a b:List UInt8}
@[go_sem]theorem X3:fv .add (.d (.str a)) (.d (.str b))=if a.length+b.length<=9223372036854775807 then some (.d (.str (a++b)))else none:=by simp[fv,J8]
@[go_sem]theorem X4:fv .eql (.d (.str a)) (.d (.str b))=some (.d (.bool (decide (a=b)))):=by simp[fv,J8,dq]
@[go_sem]theorem X5:fv .neq (.d (.str a)) (.d (.str b))=some (.d (.bool (!decide (a=b)))):=by simp[fv,J8,dq]
end
attribute [go_sem] Int.cast_ofNat_Int true_and and_true and_self Nat.mul_one Nat.add_zero ac2 Nat.zero_mul ady Option.map_none ade adu decide_eq_true_eq decide_eq_false_iff_not
theorem wrap_i64 {n:Int} (h0:-9223372036854775808<=n) (h1:n<=9223372036854775807):ac9.wrap n=n:=by
 have e1:(2^(64-1):Int)=9223372036854775808:=rfl;have e2:(2^64:Int)=18446744073709551616:=rfl;simp only[IntKind.wrap,IntKind.signed,IntKind.bits,e1,e2,Bool.true_and,decide_eq_true_eq];split<;>omega
theorem wrap_u8 {n:Int} (h0:0<=n) (h1:n<=255):IntKind.u8.wrap n=n:=by
 have e2:(2^8:Int)=256:=rfl;simp only[IntKind.wrap,IntKind.signed,IntKind.bits,e2,adi,ac5,if_false];omega
@[go_sem]theorem RQ {N:St->Prop} {Q:Exit->St->Prop} {S:St}:Exit.iy N Q .normal S=N S:=rfl
@[go_sem]theorem X6 {N:St->Prop} {Q:Exit->St->Prop} {S:St}:Exit.iy N Q .ret S=Q .ret S:=rfl
@[go_sem]theorem Wz {N:St->Prop} {Q:Exit->St->Prop} {S:St} {i:Nat}:Exit.iy N Q (.exit i) S=Q (.exit i) S:=rfl
@[go_sem]theorem Me {j:Nat} {Q:Exit->St->Prop} {S:St}:Exit.gC j Q .normal S=Q .normal S:=rfl
@[go_sem]theorem RR {j:Nat} {Q:Exit->St->Prop} {S:St}:Exit.gC j Q .ret S=Q .ret S:=rfl
@[go_sem]theorem Ra {j i:Nat} {Q:Exit->St->Prop} {S:St}:Exit.gC j Q (.exit i) S=if i=j then Q .normal S else Q (.exit i) S:=rfl
@[go_sem]theorem Zl:ir (.d .cE)=some 0:=rfl
@[go_sem]theorem abH {n:Nat} {cs:List DV}:ir (.d (.sl n cs))=some n:=rfl
@[go_sem]theorem aa3 {i e o n:Nat}:ir (.sl i e o n)=some n:=rfl
@[go_sem]theorem WA {cs:List AV}:aP none cs=cs[0]?:=rfl
@[go_sem]theorem ej {k:Nat} {cs:List AV}:aP (some k) cs=if k<=cs.length then some (.agg (cs.take k))else none:=rfl
@[go_sem]theorem WB {a b:Nat}:Nat.max a b=if a<=b then b else a:=ado
@[go_sem]theorem WC:aw []=0:=rfl
@[go_sem]theorem TN {i:Nat} {c:List AV} {r:Mem}:aw ((i,c)::r)=Nat.max (i+1) (aw r):=rfl
theorem aD {P:Program} {rs:Array ResultVar} {n0:Nat} {Q:AV->Mem->Prop} {S:St} (v:AV) (hv:bB P rs S=some v) (hc:v.aC (λ_=>none)=v) (hq:Q v []):mZ P rs n0 Q .ret S:=
 ⟨v,hv,[],[],rfl,rfl,trivial,by
   have:ag []=λ_=>none:=rfl;rw[this,hc];exact hq⟩
end Go.Jq
namespace Go.Jq
open Go
structure Out where
 v:AV
 act:Mem->Mem
 U:Nat->Option (Option (List AV))
 keys:List Nat
 F:List Nat
 lo:Nat
 hi:Nat
def Out.ok (o:Out):Prop:=
 (∀m id,ai (o.act m) id=match o.U id with
  |some x=>x
  |none=>ai m id)/\(∀id,o.U id≠none->id∈o.keys)
section
variable{P:Program} {k:Nat} {ops:Array Oper}
def Zm (P:Program) (k:Nat) (o:Oper) (t:Fr) (m:Mem) (out:Out):Prop:=
 ∀(c:Ctx) (a:Act) (w:World),a.defers=[]->a.tmps.size=k->FR c w t a.tmps->MR c m w->(∀id,out.lo<=id->id<out.hi->c.φ id=.free)->
  ∀(Kw:Act->World->Prop) (Q:Exit->Act->World->Prop),
   (∀u w' c',(Rel c' w' out.v u\/out.v=.any)->MR c' (out.act m) w'->Step (gm c m) c c' w w'->(∀b,gm c' (out.act m) b->gm c m b\/w.heap.size<=b)->
    (∀id,¬(out.lo<=id/\id<out.hi)->c'.φ id=c.φ id)->(∀id,¬(out.lo<=id/\id<out.hi)->(ai (out.act m) id).isSome->(ai m id).isSome)->Kw (a.put o.dst u) w')->
   o.wp P a w Kw Q
def ng (P:Program) (k:Nat) (ops:Array Oper) (o:Oper) (t:Fr) (m:Mem) (out:Out):Prop:=
 ∀t' m',(∀s∈o.looksAt ops,ah t' s=ah t s)->(∀id∈out.F,ai m' id=ai m id)->Zm P k o t' m' out
def mh (ops:Array Oper) (o:Oper) (t:Fr):Option Bool:=
 match o.guard with
 |none=>some true
 |some (j,w)=>match(ops[j]?).bind (·.dst)with
  |some d=>match ah t d with
   |.d (.bool b)=>some (b==w)
   |.cu _=>some false
   |_=>none
  |none=>none
def pz (P:Program) (k:Nat) (ops:Array Oper) (o:Oper) (t:Fr) (m:Mem) (out:Out):Prop:=
 (mh ops o t=some true/\ng P k ops o t m out)\/(mh ops o t=some false/\out.v=.cu []/\(∀id,out.U id=none))
theorem GX {o:Oper} {t t':Fr} (h:∀s∈o.looksAt ops,ah t' s=ah t s):mh ops o t'=mh ops o t:=by
 unfold mh;cases hg:o.guard with
 |none=>rfl
 |some jw=>
  obtain⟨j,w⟩:=jw;simp only;cases hd:(ops[j]?).bind (·.dst)with
  |none=>rfl
  |some d=>
   have:=h d (by simp[Oper.looksAt,hg,hd]);simp only[this]
theorem pz.same {o:Oper} {t t':Fr} {m m':Mem} {out:Out} (h:pz P k ops o t m out) (ht:∀s∈o.looksAt ops,ah t' s=ah t s) (hm:∀id∈out.F,ai m' id=ai m id):
 pz P k ops o t' m' out:=by
 have hw:=GX ht;rcases h with⟨h1,h2⟩|⟨h1,h2⟩;·exact .inl ⟨hw.trans h1,λt2 m2 ht2 hm2=>h2 t2 m2 (λs hs=>(ht2 s hs).trans (ht s hs)) (λid hid=>(hm2 id hid).trans (hm id hid))⟩
 ·exact .inr ⟨hw.trans h1,h2⟩
def Rb (t:Fr) (m:Mem) (t':Fr) (m':Mem):Prop:=(∀i,ah t' i=ah t i)/\(∀id,ai m' id=ai m id)
theorem qk (t:Fr) (dst:Option Nat) (v:AV) (i:Nat):ah (cK t dst v) i=if dst=some i then v else ah t i:=by
 cases dst with
 |none=>simp[cK]
 |some d=>by_cases h:d=i<;>simp[cK,ah,h]
theorem Rb.next {t t':Fr} {m m':Mem} {out:Out} (h:Rb t m t' m') (b8:out.ok) (dst:Option Nat):Rb (cK t dst out.v) (out.act m) (cK t' dst out.v) (out.act m'):=by
 refine⟨λi=>?_,λid=>?_⟩;·rw[qk,qk,h.1 i]
 ·rw[b8.1,b8.1,h.2 id]
def aOp (P:Program) (k:Nat) (ops:Array Oper) (outs:List Out) (i:Nat) (K:Fr->Mem->Prop) (t:Fr) (m:Mem):Prop:=
 ∃o out,ops[i]?=some o/\outs[i]?=some out/\pz P k ops o t m out/\K (cK t o.dst out.v) (out.act m)
def rA (P:Program) (k:Nat) (ops:Array Oper) (outs:List Out) (K:Fr->Mem->Prop):Nat->Array Bool->Fr->Mem->Prop
 |0,listed,t,m=>Region.ready .any ops listed=[]/\K t m
 |fuel+1,listed,t,m=>(Region.ready .any ops listed=[]->K t m)/\∀i∈Region.ready .any ops listed,aOp P k ops outs i (rA P k ops outs K fuel (listed.setIfInBounds i true)) t m
theorem xW {outs:List Out} (b8:∀(i:Nat) (o:Out),outs[i]?=some o->o.ok) {K:Fr->Mem->Prop} (hK:∀t m t' m',Rb t m t' m'->K t m->K t' m'):
 ∀(fuel:Nat) (listed:Array Bool) (t:Fr) (m:Mem) (t':Fr) (m':Mem),Rb t m t' m'->rA P k ops outs K fuel listed t m->rA P k ops outs K fuel listed t' m'
 |0,_,t,m,t',m',ha,h=>⟨h.1,hK t m t' m' ha h.2⟩
 |fuel+1,listed,t,m,t',m',ha,h=>by
  refine⟨λh0=>hK t m t' m' ha (h.1 h0),λi hi=>?_⟩;obtain⟨o,out,h1,h2,h3,h4⟩:=h.2 i hi;exact⟨o,out,h1,h2,h3.same (λs _=>ha.1 s) (λid _=>ha.2 id),xW b8 hK fuel _ _ _ _ _ (ha.next (b8 i out h2) o.dst) h4⟩
def indep (x y:Out):Prop:=(∀id∈x.keys,id∉y.F)/\(∀id∈y.keys,id∉x.F)/\(∀id∈x.keys,id∉y.keys)
theorem D4 {x:Out} (hx:x.ok) {m:Mem} {id:Nat} (h:id∉x.keys):ai (x.act m) id=ai m id:=by
 rw[hx.1];cases hu:x.U id with
 |none=>rfl
 |some y=>exact absurd (hx.2 id (by rw[hu];simp)) h
theorem AB {oi oj:Oper} (hap:∀d,oi.dst=some d->d∉oj.looksAt ops) (t:Fr) (v:AV):∀s∈oj.looksAt ops,ah (cK t oi.dst v) s=ah t s:=by
 intro s hs;rw[qk];split;·rename_i e;exact absurd hs (hap s e)
 ·rfl
theorem Nf {oi oj:Oper} {x y:Out} (hx:x.ok) (hy:y.ok) (hd:∀d,oi.dst=some d->oj.dst≠some d) (hk:∀id∈x.keys,id∉y.keys) (t:Fr) (m:Mem):
 Rb (cK (cK t oi.dst x.v) oj.dst y.v) (y.act (x.act m)) (cK (cK t oj.dst y.v) oi.dst x.v) (x.act (y.act m)):=by
 refine⟨λs=>?_,λid=>?_⟩
 ·simp only[qk];by_cases h1:oi.dst=some s;·rw[if_pos h1,if_neg (hd s h1),if_pos h1]
  ·rw[if_neg h1,if_neg h1]
 ·rw[hx.1,hy.1,hy.1,hx.1];cases hu:x.U id with
  |none=>rfl
  |some q=>
   have:y.U id=none:=by
    cases RD:y.U id with
    |none=>rfl
    |some q'=>exact absurd (hy.2 id (by rw[RD];simp)) (hk id (hx.2 id (by rw[hu];simp)))
   rw[this]
inductive KK (ops:Array Oper):Nat->Nat->Prop
 |one {i j:Nat} {oj:Oper} {e:Edge}:ops[j]?=some oj->e∈oj.after->Region.binds .any e=true->e.on=i->KK ops i j
 |more {i k j:Nat} {oj:Oper} {e:Edge}:ops[j]?=some oj->e∈oj.after->Region.binds .any e=true->e.on=k->KK ops i k->KK ops i j
theorem KK.trans {i k j:Nat} (h:KK ops i k) (h':KK ops k j):KK ops i j:=by
 induction h' with
 |one ho he hb heq=>exact .more ho he hb heq h
 |more ho he hb heq _ ih=>exact .more ho he hb heq ih
def Down (ops:Array Oper) (listed:Array Bool):Prop:=
 ∀(a:Nat) (oa:Oper),ops[a]?=some oa->listed.getD a false=true->∀e∈oa.after,Region.binds .any e=true->listed.getD e.on false=true
theorem Down.anc {listed:Array Bool} (h:Down ops listed) {i j:Nat} (ha:KK ops i j):listed.getD j false=true->listed.getD i false=true:=by
 induction ha with
 |one ho he hb heq=>intro hj;rw[<-heq];exact h _ _ ho hj _ he hb
 |more ho he hb heq _ ih=>intro hj;refine ih ?_;rw[<-heq];exact h _ _ ho hj _ he hb
theorem Down.RS {listed:Array Bool} (h:Down ops listed) {i j:Nat} (hi:i∈Region.ready .any ops listed) (hj:j∈Region.ready .any ops listed):¬KK ops i j:=by
 intro ha;have h0:listed.getD i false=false:=by
  have:=(mem_ready.1 hi).1;rcases Nat.lt_or_ge i listed.size with h'|h';·simp[h']at this⊢;exact this
  ·simp[Array.getElem?_eq_none h']at this
 obtain⟨_,oj,Mf,ph⟩:=mem_ready.1 hj;have h1:listed.getD i false=true:=by
  cases ha with
  |one ho he hb heq=>
   rw[Mf]at ho;cases ho;rw[<-heq];exact ph _ he hb
  |more ho he hb heq ha'=>
   rw[Mf]at ho;cases ho;refine h.anc ha' ?_;rw[<-heq];exact ph _ he hb
 rw[h1]at h0;cases h0
theorem Down.next {listed:Array Bool} (h:Down ops listed) {j:Nat} (hj:j∈Region.ready .any ops listed):Down ops (listed.setIfInBounds j true):=by
 intro a oa Zn hl e he hb;obtain⟨_,oj,Mf,ph⟩:=mem_ready.1 hj;refine getD_set_true ?_;by_cases haj:j=a
 ·subst haj;rw[Mf]at Zn;cases Zn;exact ph e he hb
 ·rw[getD_set_ne false haj]at hl;exact h a oa Zn hl e he hb
theorem BQ {outs:List Out} (b8:∀(i:Nat) (o:Out),outs[i]?=some o->o.ok) {K:Fr->Mem->Prop} (hK:∀t m t' m',Rb t m t' m'->K t m->K t' m') {i:Nat} {oi:Oper} {x:Out}
 (hi:ops[i]?=some oi) (hx:outs[i]?=some x):
 ∀(fuel:Nat) (listed:Array Bool) (t:Fr) (m:Mem),
  (∀(j:Nat) (oj:Oper) (y:Out),ops[j]?=some oj->outs[j]?=some y->j≠i->listed.getD j true=false->¬KK ops i j->oi.apart ops oj=true/\indep x y)->
  Down ops listed->i∈Region.ready .any ops listed->pz P k ops oi t m x->
  rA P k ops outs K fuel (listed.setIfInBounds i true) (cK t oi.dst x.v) (x.act m)->rA P k ops outs K (fuel+1) listed t m:=by
 intro fuel;induction fuel with
 |zero=>
  intro listed t m _ _ hr hy H;refine⟨λh=>(by rw[h]at hr;cases hr),λj hj=>?_⟩;by_cases sc:j=i;·subst sc;exact⟨oi,x,hi,hx,hy,H⟩
  ·have:=ready_mono hj sc;rw[H.1]at this;cases this
 |succ fuel ih=>
  intro listed t m fG Zo hr hy H;refine⟨λh=>(by rw[h]at hr;cases hr),λj hj=>?_⟩;by_cases sc:j=i;·subst sc;exact⟨oi,x,hi,hx,hy,H⟩
  ·obtain⟨oj,y,Mf,Zp,Zq,oQ⟩:=H.2 j (ready_mono hj sc);have Zr:=(mem_ready.1 hj).1;have abI:=Zo.RS hr hj;obtain⟨hap,Zt,Zu,Zv⟩:=fG j oj y Mf Zp sc Zr abI;obtain⟨a1,a2,a3⟩:=Oper.apart_spec hap;have RT:=b8 i x hx;have Zw:=b8 j y Zp;have hwj:pz P k ops oj t m y:=Zq.same (λs hs=>(AB a1 t x.v s hs).symm) (λid hid=>(D4 RT (λh=>Zt id h hid)).symm);refine⟨oj,y,Mf,Zp,hwj,?_⟩;have WD:∀(l:Nat) (ol:Oper) (z:Out),ops[l]?=some ol->outs[l]?=some z->l≠i->(listed.setIfInBounds j true).getD l true=false->
    ¬KK ops i l->oi.apart ops ol=true/\indep x z:=λl ol z hl hz hli Rc uB=>by
    refine fG l ol z hl hz hli ?_ uB;by_cases TG:j=l;·subst TG;exact Zr
    ·rw[getD_set_ne true TG]at Rc;exact Rc
   have Ng:pz P k ops oi (cK t oj.dst y.v) (y.act m) x:=hy.same (AB a3 t y.v) (λid hid=>D4 Zw (λh=>Zu id h hid));refine ih (listed.setIfInBounds j true) _ _ WD (Zo.next hj) (ready_mono hr (Ne.symm sc)) Ng ?_;rw[Array.setIfInBounds_comm _ _ sc];exact xW b8 hK _ _ _ _ _ _ (Nf RT Zw a2 Zv t m) oQ
def mi (P:Program) (k:Nat) (ops:Array Oper) (K:Fr->Mem->Prop):List Oper->List Out->Fr->Mem->Prop
 | [],[],t,m=>K t m
 |o::r,x::xs,t,m=>pz P k ops o t m x/\mi P k ops K r xs (cK t o.dst x.v) (x.act m)
 |_,_,_,_=>False
theorem xX {outs:List Out} (b8:∀(i:Nat) (o:Out),outs[i]?=some o->o.ok) {K:Fr->Mem->Prop} (hK:∀t m t' m',Rb t m t' m'->K t m->K t' m')
 (zL:∀(i j:Nat) (oj:Oper) (x y:Out),i<j->ops[j]?=some oj->outs[i]?=some x->outs[j]?=some y->¬KK ops i j->indep x y):
 ∀(l:List Oper) (xs:List Out) (i:Nat) (listed:Array Bool) (t:Fr) (m:Mem),(∀j,l[j]?=ops[i+j]?)->(∀j,xs[j]?=outs[i+j]?)->(∀j,j<i->listed.getD j true=true)->Down ops listed->
  Region.lexFrom .any ops l.length i listed=true->mi P k ops K l xs t m->rA P k ops outs K l.length listed t m
 | [],[],_,_,_,_,_,_,_,_,hB,h=>⟨by simpa[Region.lexFrom]using hB,h⟩
 | [],_::_,_,_,_,_,_,_,_,_,_,h=>h.elim
 |_::_,[],_,_,_,_,_,_,_,_,_,h=>h.elim
 |o::l,x::xs,i,listed,t,m,hl,q6,Zx,Zo,hB,h=>by
  have h0:ops[i]?=some o:=by simpa using(hl 0).symm
  have TO:outs[i]?=some x:=by simpa using(q6 0).symm
  simp only[ads,Region.lexFrom,adn]at hB;obtain⟨⟨hr,hf⟩,hB'⟩:=hB;obtain⟨hw,oQ⟩:=h;refine BQ b8 hK h0 TO l.length listed t m (λj oj y Mf Zp sc Rc uB=>?_) Zo (by simpa using hr) hw
   (xX b8 hK zL l xs (i+1) _ _ _ (λj=>by have:=hl (j+1);simpa[Nat.add_assoc,Nat.add_comm 1 j]using this) (λj=>by have:=q6 (j+1);simpa[Nat.add_assoc,Nat.add_comm 1 j]using this)
    (λj hj=>?_) (Zo.next (by simpa using hr)) hB' oQ)
  ·have bd:i<j:=by
    rcases Nat.lt_or_ge i j with h1|h1;·exact h1
    ·have:j<i:=by omega
     rw[Zx j this]at Rc;cases Rc
   exact⟨Region.free_spec h0 hf j oj Mf sc Rc (λe he hb heq=>uB (.one Mf he hb heq)),zL i j oj x y bd Mf TO Zp uB⟩
  ·by_cases sc:j=i
   ·subst sc;rcases Nat.lt_or_ge j listed.size with h1|h1;·simp[h1]
    ·simp[Nat.not_lt.2 (by simpa using h1:listed.size<=j)]
   ·rw[getD_set_ne true (Ne.symm sc)];exact Zx j (by omega)
end
end Go.Jq
namespace Go.Jq
open Go
structure fH where
 keys:List Nat
 F:List Nat
def xY (x y:fH):Bool:=x.keys.all (λi=>!y.F.contains i&&!y.keys.contains i)&&y.keys.all (λi=>!x.F.contains i)
def RU (f:fH) (m:Nat):Nat->List fH->Bool
 |_,[]=>true
 |i,g::r=>(m.testBit i||xY g f)&&RU f m (i+1) r
def gY (early:List fH):List fH->List Nat->Bool
 | [],_=>true
 |f::r,m::ms=>RU f m 0 early&&gY (early++[f]) r ms
 |_::_,[]=>false
theorem AD {f:fH} {m:Nat}:∀{l:List fH} {k:Nat},RU f m k l=true->∀i g,l[i]?=some g->m.testBit (k+i)=false->xY g f=true
 | [],_,_,i,g,hi,_=>by simp at hi
 |x::l,k,h,i,g,hi,hb=>by
  simp only[RU,adn,Bool.or_eq_true]at h;cases i with
  |zero=>simp at hi;subst hi;rw[Nat.add_zero]at hb;rcases h.1 with h1|h1
         ·rw[hb]at h1;cases h1
         ·exact h1
  |succ i=>exact AD h.2 i g (by simpa using hi) (by rw[<-hb];congr 1;omega)
theorem pA:∀{l early:List fH} {ms:List Nat},gY early l ms=true->∀i j fi fj,i<early.length+j->(early++l)[i]?=some fi->l[j]?=some fj->
 ∃m,ms[j]?=some m/\(m.testBit i=false->xY fi fj=true)
 | [],_,_,_,i,j,fi,fj,_,_,hj=>by simp at hj
 |f::l,early,[],h,i,j,fi,fj,_,_,_=>by simp[gY]at h
 |f::l,early,m::ms,h,i,j,fi,fj,bd,hi,hj=>by
  simp only[gY,adn]at h;cases j with
  |zero=>
   simp at hj;subst hj;refine⟨m,rfl,λhb=>AD h.1 i fi ?_ (by simpa using hb)⟩;rw[List.getElem?_append_left (by simpa using bd)]at hi;exact hi
  |succ j=>
   obtain⟨m',h1,h2⟩:=pA h.2 i j fi fj (by simp;omega) (by simpa using hi) (by simpa using hj);exact⟨m',by simpa using h1,h2⟩
def orM (m:Nat):Nat->List Nat->Nat
 |_,[]=>0
 |i,c::r=>(if m.testBit i then c else 0)|||orM m (i+1) r
def mB (done:List Nat):List Nat->List Nat
 | []=>[]
 |m::ms=>(m|||orM m 0 done)::mB (done++[m|||orM m 0 done]) ms
theorem D5 {m b:Nat}:∀{l:List Nat} {i:Nat},(orM m i l).testBit b=true->∃k c,l[k]?=some c/\m.testBit (i+k)=true/\c.testBit b=true
 | [],_,h=>by simp[orM]at h
 |c::r,i,h=>by
  rw[orM,Nat.testBit_or,Bool.or_eq_true]at h;rcases h with h|h
  ·split at h;·rename_i hm;exact⟨0,c,rfl,hm,h⟩
   ·simp at h
  ·obtain⟨k,c',h1,h2,h3⟩:=D5 h;exact⟨k+1,c',by simpa using h1,by rw[<-h2];congr 1;omega,h3⟩
theorem vK {R:Nat->Nat->Prop} (hR:∀{i k j},R i k->R k j->R i j):∀{ms done:List Nat},(∀k c b,done[k]?=some c->c.testBit b=true->R b k)->(∀j m b,ms[j]?=some m->m.testBit b=true->R b (done.length+j))->
 ∀j c b,(mB done ms)[j]?=some c->c.testBit b=true->R b (done.length+j)
 | [],_,_,_,j,c,b,h,_=>by simp[mB]at h
 |m::ms,done,hd,hm,j,c,b,h,hb=>by
  have Q9:∀b,(m|||orM m 0 done).testBit b=true->R b done.length:=by
   intro b hb;rw[Nat.testBit_or,Bool.or_eq_true]at hb;rcases hb with hb|hb;·simpa using hm 0 m b rfl hb
   ·obtain⟨k,c',h1,h2,h3⟩:=D5 hb;exact hR (hd k c' b h1 h3) (by simpa using hm 0 m k rfl (by simpa using h2))
  cases j with
  |zero=>
   simp only[mB,List.getElem?_cons_zero,adh]at h;subst h;exact Q9 b hb
  |succ j=>
   simp only[mB,List.getElem?_cons_succ]at h;have:=vK (R:=R) hR (ms:=ms) (done:=done++[m|||orM m 0 done]) (λk c' b' h1 h2=>by
    rcases Nat.lt_or_ge k done.length with hk|hk
    ·rw[List.getElem?_append_left hk]at h1;exact hd k c' b' h1 h2
    ·rw[List.getElem?_append_right hk]at h1;have KM:k-done.length=0:=by
      rcases Nat.eq_zero_or_pos (k-done.length)with h0|h0;·exact h0
      ·rw[List.getElem?_eq_none (by simp;omega)]at h1;cases h1
     rw[KM]at h1;simp only[List.getElem?_cons_zero,adh]at h1;subst h1;have:k=done.length:=by omega
     rw[this];exact Q9 b' h2) (λj' m' b' h1 h2=>by
      have:=hm (j'+1) m' b' (by simpa using h1) h2;rw[adk,ads,adz];rw[show done.length+(0+1)+j'=done.length+(j'+1) by omega];exact this) j c b h hb
   rw[adk,ads,adz]at this;rw[show done.length+(j+1)=done.length+(0+1)+j by omega];exact this
def lf:AV->List Nat
 |.ptr id _=>[id]
 |.sl id _ _ _=>[id]
 |.uh id _ _=>[id]
 |.oZ id=>[id]
 |_=>[]
def cV (t:Fr):im->List Nat
 |.load _ x=>lf (ev t x)
 |.store _ a _=>lf (ev t a)
 |.xy x=>lf (ev t x)
 |.xz x=>lf (ev t x)
 |.app _ _ _ x y=>lf (ev t x)++lf (ev t y)
 |.iW _ xs=>(xs.map (ev t)).flatMap lf
 |_=>[]
def mC (n:Nat):eX->List Nat
 |.nil=>[]
 |.new _=>[n]
 |.put id _=>[id]
 |.Q4 id _=>[id,n]
theorem ql {t t':Fr} {x:cR} (h:∀s∈x.bJ,ah t' s=ah t s):ev t' x=ev t x:=by
 cases x with
 |t i=>exact h i (by simp[cR.bJ])
 |c x=>rfl
theorem pB {t t':Fr}:∀{xs:List cR},(∀s∈xs.flatMap cR.bJ,ah t' s=ah t s)->xs.map (ev t')=xs.map (ev t)
 | [],_=>rfl
 |x::xs,h=>by
  simp only[ade];rw[ql λs hs=>h s (by simp[adr,hs]),pB λs hs=>h s (by rw[adr];exact List.mem_append_right _ hs)]
theorem nW {t t':Fr}:∀{ps:List (Nat×Nat×cR)},(∀s∈ps.flatMap (λp=>p.2.2.bJ),ah t' s=ah t s)->nK t' ps=nK t ps
 | [],_=>rfl
 |p::ps,h=>by
  have ih:=nW (t:=t) (t':=t') (ps:=ps) λs hs=>h s (by rw[adr];exact List.mem_append_right _ hs);simp only[nK]at ih⊢;simp only[ade];rw[ql λs hs=>h s (by rw[adr];exact List.mem_append_left _ hs),ih]
theorem sK {t t':Fr} {x:Option cR} (h:∀s∈px x,ah t' s=ah t s):x.map (ev t')=x.map (ev t):=by
 cases x with
 |none=>rfl
 |some x=>simp only[ady];rw[ql h]
theorem nX {m m':Mem} {de:Nat} {y:AV} (h:∀id∈lf y,ai m' id=ai m id):ez m' de y=ez m de y:=by
 cases y with
 |sl id e off len=>simp only[ez,h id (by simp[lf])]
 |d x=>cases x<;>rfl
 |_=>rfl
theorem GY {k:jL} {xs:List AV} {m m':Mem} {n:Nat} (hm:∀id∈xs.flatMap lf,ai m' id=ai m id):kg k xs m' n=kg k xs m n:=by
 unfold kg;split
 ·rename_i id off lo hi;rw[hm id (by simp[lf])]
 ·rfl
 ·rename_i id e off len y;rw[hm id (by simp[lf]),nX λi hi=>hm i (by simp[hi])]
 ·rfl
 ·rename_i id kc;have:mapOf m' id=mapOf m id:=by unfold mapOf;rw[hm id (by simp[lf])]
  rw[this]
 ·rename_i id kc x;have:mapOf m' id=mapOf m id:=by unfold mapOf;rw[hm id (by simp[lf])]
  rw[this]
 ·rename_i id kc;have:mapOf m' id=mapOf m id:=by unfold mapOf;rw[hm id (by simp[lf])]
  rw[this]
 ·rename_i id j x;have:mapOf m' id=mapOf m id:=by unfold mapOf;rw[hm id (by simp[lf])]
  rw[this]
 ·rfl
 ·rename_i id e off len;rw[hm id (by simp[lf])]
 ·rename_i id;have:mapOf m' id=mapOf m id:=by unfold mapOf;rw[hm id (by simp[lf])]
  rw[this]
 ·rfl
theorem GZ {o:im} {t t':Fr} {m m':Mem} {n:Nat} (ht:∀s∈o.bJ,ah t' s=ah t s) (hm:∀id∈cV t o,ai m' id=ai m id):aW o t' m' n=aW o t m n:=by
 have one:∀{x:cR},(∀s∈x.bJ,s∈o.bJ)->ev t' x=ev t x:=λh=>ql λs hs=>ht s (h s hs);cases o with
 |alloc z=>rfl
 |bW f as=>rfl
 |fb x as=>rfl
 |build z ps=>simp only[aW,nW ht]
 |dp a b z ps=>simp only[aW,nW ht]
 |o7 f cs=>simp only[aW,pB ht]
 |iW k xs=>simp only[aW];rw[pB ht];exact GY hm
 |pick c a b=>simp only[aW];rw[one (x:=c) (by simp+contextual [im.bJ]),one (x:=a) (by simp+contextual [im.bJ]),one (x:=b) (by simp+contextual [im.bJ])]
 |zD x l h=>simp only[aW];rw[one (x:=x) (by simp+contextual [im.bJ]),sK (x:=l) λs hs=>ht s (by simp[im.bJ,hs]),sK (x:=h) λs hs=>ht s (by simp[im.bJ,hs])]
 |rm a x l h=>simp only[aW];rw[one (x:=x) (by simp+contextual [im.bJ]),sK (x:=l) λs hs=>ht s (by simp[im.bJ,hs]),sK (x:=h) λs hs=>ht s (by simp[im.bJ,hs])]
 |load k x=>
  simp only[aW];rw[one (x:=x) (by simp[im.bJ])];simp only[cV]at hm;split
  ·rename_i id off he;rw[hm id (by rw[he];simp[lf])]
  all_goals rfl
 |store k a v=>
  simp only[aW];rw[one (x:=a) (by simp+contextual [im.bJ]),one (x:=v) (by simp+contextual [im.bJ])];simp only[cV]at hm;split
  ·rename_i id off vs he hv;rw[hm id (by rw[he];simp[lf])]
  ·rfl
 |xy x=>
  simp only[aW];rw[one (x:=x) (by simp[im.bJ])];simp only[cV]at hm;generalize ev t x=y at hm⊢;split;·rfl
  ·rw[nX hm]
 |xz x=>
  simp only[aW];rw[one (x:=x) (by simp[im.bJ])];simp only[cV]at hm;split
  ·rename_i id e off len he;rw[hm id (by rw[he];simp[lf])]
  ·rfl
 |app a b el x y=>
  simp only[aW];rw[one (x:=x) (by simp+contextual [im.bJ]),one (x:=y) (by simp+contextual [im.bJ])];simp only[cV]at hm;rw[nX λid hid=>hm id (List.mem_append_right _ hid)];split
  ·split;·rfl
   ·rename_i id e off len he;rw[hm id (by rw[he];simp[lf])]
   ·rename_i id T len he;rw[hm id (by rw[he];simp[lf])]
   ·rfl
  ·rfl
 |_=>
  simp only[aW]
  first
   |rw[ql ht]
   |(rename_i x y;rw[one (x:=x) (by simp+contextual [im.bJ]),one (x:=y) (by simp+contextual [im.bJ])])
def D6 (n:Nat):eX->Nat->Option (Option (List AV))
 |.nil=>λ_=>none
 |.new cs=>λj=>if n=j then some (some cs)else none
 |.put id cs=>λj=>if id=j then some (some cs)else none
 |.Q4 id cs=>λj=>if n=j then some (some cs)else if id=j then some none else none
def fe (v:AV) (e:eX) (n:Nat) (F:List Nat):Out:=⟨v,λm=>e.mem m n,D6 n e,mC n e,F,n,n+1⟩
theorem D7 (v:AV) (e:eX) (n:Nat) (F:List Nat):(fe v e n F).ok:=by
 refine⟨λm id=>?_,λid h=>?_⟩
 ·cases e with
  |nil=>rfl
  |new cs=>simp only[fe,eX.mem,D6,bh];split<;>rfl
  |put i cs=>simp only[fe,eX.mem,D6,bh];split<;>rfl
  |Q4 i cs=>
   simp only[fe,eX.mem,D6,bh,eF];split;·rfl
   ·split<;>rfl
 ·cases e with
  |nil=>simp[fe,D6]at h
  |new cs=>simp only[fe,D6]at h;split at h
           ·simp[fe,mC, *]
           ·cases h rfl
  |put i cs=>simp only[fe,D6]at h;split at h
             ·simp[fe,mC, *]
             ·cases h rfl
  |Q4 i cs=>
   simp only[fe,D6]at h;split at h;·simp[fe,mC, *]
   ·split at h;·simp[fe,mC, *]
    ·cases h rfl
def sL (n:Nat):Out:=⟨.cu [],λm=>m,λ_=>none,[],[],n,n+1⟩
theorem xZ (n:Nat):(sL n).ok:=⟨λ_ _=>rfl,λ_ h=>(h rfl).elim⟩
def Nh (ρ:Ren) (m0 m1:Mem) (n:Nat) (id:Nat):Option (Option (List AV)):=
 if n<=id/\(ai m0 (id-n))=none/\(ai m1 (id-n)).isSome then some ((ai m1 (id-n)).map (aj (bX ρ m0 m1 n)))else
  match aI ρ id with
  |some j=>some ((ai m1 j).map (aj (bX ρ m0 m1 n)))
  |none=>none
def bn (ρ:Ren) (m0 m1:Mem) (n:Nat) (m:Mem):Mem:=bL m0 n (bX ρ m0 m1 n) m1 (bN m1 (bX ρ m0 m1 n) ρ m)
def dX (ρ:Ren) (m1:Mem) (n:Nat):List Nat:=ρ.map (·.2)++m1.map λp=>n+p.1
def qm (ρ:Ren) (m0 m1:Mem) (r0:AV) (n:Nat):Out:=
 ⟨r0.aC (bX ρ m0 m1 n),bn ρ m0 m1 n,Nh ρ m0 m1 n,dX ρ m1 n,ρ.map (·.2),n,n+Nat.max (aw m0) (aw m1)⟩
theorem D8:∀{m:Mem} {i:Nat},(ai m i).isSome->∃p∈m,p.1=i
 | [],i,h=>by simp[ai]at h
 |(k,x)::r,i,h=>by
  simp only[ai]at h;split at h;·rename_i e;exact⟨_,adw,e⟩
  ·obtain⟨p,h1,h2⟩:=D8 h;exact⟨p,adx _ h1,h2⟩
theorem G0 {ρ:Ren} {nb:Nat} (b8:bC nb ρ=true) (m0 m1:Mem) (r0:AV) (n:Nat):(qm ρ m0 m1 r0 n).ok:=by
 refine⟨λm id=>?_,λid h=>?_⟩
 ·simp only[qm,bn,Nh];rw[kx,gF b8];split;·rfl
  ·split;·rename_i j hj;simp only[hj]
   ·rename_i hj;simp only[hj]
 ·simp only[qm,Nh]at h;simp only[qm,dX];split at h
  ·rename_i hc;obtain⟨p,h1,h2⟩:=D8 hc.2.2;exact List.mem_append_right _ (List.mem_map.2 ⟨p,h1,by omega⟩)
  ·split at h
   ·rename_i j hj;exact List.mem_append_left _ (List.mem_map.2 ⟨_,fF hj,rfl⟩)
   ·exact(h rfl).elim
mutual
theorem KN {π Ni:Nat->Option Nat} (hp:∀i j,π i=some j->Ni i=some j):∀(x:AV),bE π x=true->x.aC Ni=x.aC π
 |.d _,_=>rfl
 |.ptr id _,h=>by obtain⟨j,hj⟩:=adv.1 h;simp only[AV.aC,hj,hp _ _ hj]
 |.r8 id _,h=>by obtain⟨j,hj⟩:=adv.1 h;simp only[AV.aC,hj,hp _ _ hj]
 |.uh id _ _,h=>by obtain⟨j,hj⟩:=adv.1 h;simp only[AV.aC,hj,hp _ _ hj]
 |.bj _,_=>rfl
 |.sl id _ _ _,h=>by obtain⟨j,hj⟩:=adv.1 h;simp only[AV.aC,hj,hp _ _ hj]
 |.fn _ caps,h=>by simp only[AV.aC,lK hp caps h]
 |.agg cs,h=>by simp only[AV.aC,lK hp cs h]
 |.cu cs,h=>by simp only[AV.aC,lK hp cs h]
 |.oZ id,h=>by obtain⟨j,hj⟩:=adv.1 h;simp only[AV.aC,hj,hp _ _ hj]
 |.ui _,_=>rfl
 |.any,_=>rfl
theorem lK {π Ni:Nat->Option Nat} (hp:∀i j,π i=some j->Ni i=some j):∀(xs:List AV),bF π xs=true->aj Ni xs=aj π xs
 | [],_=>rfl
 |x::xs,h=>by
  simp only[bF,adn]at h;simp only[aj,KN hp x h.1,lK hp xs h.2]
end
theorem sM {ρ:Ren} {nb n:Nat} {m m0:Mem} (b8:bC nb ρ=true) (hh:handed ρ m m0) (ji:∀j id,ag ρ j=some id->(ai m0 j).isSome) (id:Nat):ai (bn ρ m0 m0 n m) id=ai m id:=by
 unfold bn;rw[kx,if_neg (λh=>by rw[h.2.1]at h;cases h.2.2),gF b8];cases hp:aI ρ id with
 |none=>rfl
 |some j=>
  simp only;have hj:=(eK b8 j id (fF hp)).1;obtain⟨cs,b9⟩:=adv.1 (ji j id hj);obtain⟨j3,h1,h2,h3⟩:=gE hh j cs b9;rw[hj]at h1;cases h1;rw[b9,h2,ady]
  congr 1
  refine lK (λi k hi=>?_) cs h3;unfold bX;obtain⟨c',w8⟩:=adv.1 (ji i k hi);rw[w8];simpa using hi
def ra (P:Program) (f:Nat) (args:List AV) (m:Mem) (n:Nat) (K:AV->Mem->Nat->fH->Prop):Prop:=
 (∃ρ m0 cU r0 m1 nb,bC nb ρ=true/\args=aj (ag ρ) cU/\bF (ag ρ) cU=true/\handed ρ m m0/\(∀j id,ag ρ j=some id->(ai m0 j).isSome)/\
  bT P f cU m0 (λr m'=>r=r0/\m'=m1)/\
  K (r0.aC (bX ρ m0 m1 n)) (bn ρ m0 m1 n m) (n+Nat.max (aw m0) (aw m1)) ⟨dX ρ m1 n,ρ.map (·.2)⟩)\/
 (∃ρ m0 cU r0 nb,bC nb ρ=true/\args=aj (ag ρ) cU/\bF (ag ρ) cU=true/\handed ρ m m0/\(∀j id,ag ρ j=some id->(ai m0 j).isSome)/\
  bT P f cU m0 (λr m'=>r=r0/\m'=m0)/\(∀π,r0.aC π=r0)/\
  K r0 m (n+Nat.max (aw m0) (aw m0)) ⟨[],ρ.map (·.2)⟩)
def rb (P:Program) (dst:Option Nat) (op:im) (S:St) (K:St->fH->Prop):Prop:=
 match op with
 |.bW f args=>ra P f (args.map (ev S.t)) S.m S.n λv m n F=>K ⟨cK S.t dst v,m,n⟩ F
 |.fb x args=>match ev S.t x with
  |.fn f caps=>jo P f=true/\ra P f (args.map (ev S.t)++caps) S.m S.n λv m n F=>K ⟨cK S.t dst v,m,n⟩ F
  |_=>False
 |op=>match aW op S.t S.m S.n with
  |some (v,e)=>K ⟨cK S.t dst v,e.mem S.m S.n,S.n+1⟩ ⟨mC S.n e,cV S.t op⟩
  |none=>False
def eW (P:Program):List bA->List fH->List Nat->St->(St->Prop)->Prop
 | [],acc,ms,S,K=>gY [] acc.reverse (mB [] ms)=true/\K S
 |o::r,acc,ms,S,K=>match o.guard with
  |none=>rb P o.dst o.op S λS' f=>eW P r (f::acc) ms S' K
  |some (g,want)=>match ah S.t g with
   |.d (.bool b)=>if b=want then rb P o.dst o.op S (λS' f=>eW P r (f::acc) ms S' K)else eW P r (⟨[],[]⟩::acc) ms ⟨cK S.t o.dst (.cu []),S.m,S.n+1⟩ K
   |.cu _=>eW P r (⟨[],[]⟩::acc) ms ⟨cK S.t o.dst (.cu []),S.m,S.n+1⟩ K
   |_=>False
end Go.Jq
namespace Go.Jq
open Go
section
variable{P:Program} {k:Nat} {ops:Array Oper}
theorem ia.of_heap {c:Ctx} {w w':World} (h:w'.heap=w.heap):ia c c w w':=
 ⟨λ_ h=>h,λb _=>by rw[h],λ_ _=>rfl,λb n hn=>by rw[<-hn];exact fT (by rw[h])⟩
theorem MR.of_heap {c:Ctx} {m:Mem} {w w':World} (hM:MR c m w) (h:w'.heap=w.heap):MR c m w' where
 own:=λid cells hid=>(hM.own id cells hid).later (ia.of_heap h) λb hb=>⟨by rw[h],λhi=>hM.sep hi ⟨id,by rw[hid];rfl,hb⟩⟩
 inj:=hM.inj
 dm:=λb hb=>by rw[h];exact hM.dm b hb
 wX:=hM.lC (λ_ h=>h) λb _=>by rw[h]
theorem MR.qn {c:Ctx} {m m':Mem} {w:World} (hM:MR c m w) (h:∀id,ai m' id=ai m id):MR c m' w where
 own:=λid cells hid=>hM.own id cells (by rw[<-h];exact hid)
 inj:=λid j3 b h1 h2=>hM.inj id j3 b (by rw[<-h];exact h1) (by rw[<-h];exact h2)
 dm:=hM.dm
 wX:=hM.wX
theorem wG.qn {E:Env} {c:Ctx} {m m':Mem} {w:World} (hp:wG E c m w) (h:∀id,ai m' id=ai m id):wG E c m' w where
 step:=hp.step
 own:=λb ⟨id,h1,h2⟩=>hp.own b ⟨id,by rw[<-h];exact h1,h2⟩
 cI:=λid hid hm=>hp.cI id hid (by rw[<-h];exact hm)
theorem AE {E:Env} {S:St} {a:Act} {w w':World} (h:jS E k S a w) (hh:w'.heap=w.heap) (ho:w'.os=w.os) (ht:w'.tape=w.tape) (hu:w'.output=w.output):jS E k S a w':=by
 obtain⟨c,hc,hp⟩:=h;refine⟨c,⟨hc.defers,hc.size,λi=>lB (ia.of_heap hh) _ _ (hc.fr i),hc.mr.of_heap hh,hc.free⟩,⟨?_,λb hb=>hp.own b hb,hp.cI⟩⟩;have:=hp.step;exact⟨ho.trans this.os,ht.trans this.tape,hu.trans this.output,by rw[hh];exact this.size,λb hb hn=>by rw[hh];exact this.cI b hb hn,
  λb n hn=>by rw[fT (by rw[hh]:w'.heap[b]?=w.heap[b]?)];exact this.rows b n hn,this.dm,this.sk⟩
theorem sN {o:Oper} {t:Fr} {c:Ctx} {a:Act} {w:World} {b:Bool} (h:mh ops o t=some b) (hF:FR c w t a.tmps):Region.wanted o (yielded ops a.tmps)=b:=by
 unfold mh at h;unfold Region.wanted;cases ho:o.guard with
 |none=>rw[ho]at h;cases h;rfl
 |some jw=>
  obtain⟨j,wt⟩:=jw;rw[ho]at h;simp only at h;split at h
  ·rename_i d hd;split at h
   ·rename_i b' hb;cases h;have hx:=hF d;rw[hb]at hx;have hv:=eJ hx;have hy:yielded ops a.tmps j=some b':=by
     unfold yielded;cases hj:ops[j]?with
     |none=>rw[hj]at hd;cases hd
     |some o'=>
      rw[hj]at hd;simp only[Option.bind_some]at hd;simp only[Option.bind_some,hd];rw[Array.getD_eq_getD_getElem?]at hv;cases hq:a.tmps[d]?with
      |none=>rw[hq]at hv;cases hv
      |some u=>rw[hq]at hv;simp only[adE]at hv;subst hv;rfl
    simp only[hy];cases b'<;>cases wt<;>rfl
   ·rename_i cs hb;cases h;have hx:=hF d;rw[hb]at hx;simp only[Rel]at hx;obtain⟨vs,hv,_⟩:=hx;have hy:yielded ops a.tmps j=none:=by
     unfold yielded;cases hj:ops[j]?with
     |none=>rfl
     |some o'=>
      rw[hj]at hd;simp only[Option.bind_some]at hd;simp only[Option.bind_some,hd];rw[Array.getD_eq_getD_getElem?]at hv;cases hq:a.tmps[d]?with
      |none=>rfl
      |some u=>rw[hq]at hv;simp only[adE]at hv;subst hv;rfl
    simp only[hy];cases wt<;>rfl
   ·cases h
  ·cases h
def Inv (E:Env) (k:Nat) (outs:List Out) (N:Nat) (listed:Array Bool) (t:Fr) (m:Mem) (a:Act) (w:World):Prop:=
 ∃c,a.defers=[]/\a.tmps.size=k/\FR c w t a.tmps/\MR c m w/\wG E c m w/\(∀id,N<=id->c.φ id=.free)/\
  ∀(j:Nat) (x:Out),outs[j]?=some x->listed.getD j true=false->∀id,x.lo<=id->id<x.hi->c.φ id=.free
def jU:Nat->List Out->Nat->Prop
 |n,[],N=>n=N
 |n,x::xs,N=>x.lo=n/\n<=x.hi/\jU x.hi xs N
theorem jU.spec:∀{l:List Out} {n N:Nat},jU n l N->n<=N/\∀(j:Nat) (x:Out),l[j]?=some x->n<=x.lo/\x.lo<=x.hi/\x.hi<=N
 | [],n,N,h=>⟨by simp only[jU]at h;omega,λj x hj=>by simp at hj⟩
 |y::l,n,N,h=>by
  simp only[jU]at h;obtain⟨h1,h2,h3⟩:=h;obtain⟨h4,h5⟩:=jU.spec h3;refine⟨by omega,λj x hj=>?_⟩;cases j with
  |zero=>simp at hj;subst hj;omega
  |succ j=>have:=h5 j x (by simpa using hj);omega
theorem jU.apart:∀{l:List Out} {n N:Nat},jU n l N->∀(i j:Nat) (x y:Out),i<j->l[i]?=some x->l[j]?=some y->x.hi<=y.lo
 | [],n,N,h,i,j,x,y,_,hi,_=>by simp at hi
 |z::l,n,N,h,i,j,x,y,bd,hi,hj=>by
  simp only[jU]at h;cases j with
  |zero=>omega
  |succ j=>
   cases i with
   |zero=>simp at hi;subst hi;exact(h.2.2.spec.2 j y (by simpa using hj)).1
   |succ i=>exact jU.apart h.2.2 i j x y (by omega) (by simpa using hi) (by simpa using hj)
theorem rB {E:Env} {outs:List Out} {n N:Nat} (Gr:jU n outs N) (RM:E.n<=n) (b8:∀(i:Nat) (o:Out),outs[i]?=some o->o.ok) (KJ:∀(i:Nat) (o:Oper),ops[i]?=some o->∀d,o.dst=some d->d<k)
 {K:Fr->Mem->Prop} {Q:Exit->Act->World->Prop} (hK:∀t m a w,K t m->jS E k ⟨t,m,N⟩ a w->Q .normal a w):
 ∀(fuel:Nat) (listed:Array Bool) (t:Fr) (m:Mem) (a:Act) (w:World),Inv E k outs N listed t m a w->rA P k ops outs K fuel listed t m->wpAny P .any ops Q fuel listed a w
 |0,listed,t,m,a,w,⟨c,h1,h2,h3,h4,h5,h6,_⟩,h=>⟨h.1,hK t m a w h.2 ⟨c,⟨h1,h2,h3,h4,h6⟩,h5⟩⟩
 |fuel+1,listed,t,m,a,w,⟨c,h1,h2,h3,h4,h5,h6,h7⟩,h=>by
  refine⟨λh0=>hK t m a w (h.1 h0) ⟨c,⟨h1,h2,h3,h4,h6⟩,h5⟩,λi hi=>?_⟩;obtain⟨o,out,ho,KO,hw,oQ⟩:=h.2 i hi;have Rc:=(mem_ready.1 hi).1;have hx:=Gr.spec.2 i out KO;have RT:=b8 i out KO;unfold wpOp;simp only[ho];have put:∀(c':Ctx) (w':World) (u:Value),(Rel c' w' out.v u\/out.v=.any)->MR c' (out.act m) w'->Step (gm c m) c c' w w'->(∀b,gm c' (out.act m) b->gm c m b\/w.heap.size<=b)->
   (∀id,¬(out.lo<=id/\id<out.hi)->c'.φ id=c.φ id)->(∀id,¬(out.lo<=id/\id<out.hi)->(ai (out.act m) id).isSome->(ai m id).isSome)->
   Inv E k outs N (listed.setIfInBounds i true) (cK t o.dst out.v) (out.act m) (a.put o.dst u) w':=by
   intro c' w' u hr sb hs rz eI Gq;have rl:∀id,c.φ id≠.free->c'.φ id=c.φ id:=λid hid=>eI id λhr=>hid (h7 i out KO Rc id hr.1 hr.2);have hl:=hs.later h4 rl;have Wm:FR c' w' t a.tmps:=λi=>lB hl _ _ (h3 i);refine⟨c',?_,?_,?_,sb,h5.next hs rz λid hid hm=>?_,λid hid=>?_,λj y hy zx id abJ abK=>?_⟩;·cases o.dst<;>exact h1
   ·cases o.dst with
    |none=>exact h2
    |some d=>simp only[Act.put,Array.size_setIfInBounds];exact h2
   ·cases hd:o.dst with
    |none=>exact Wm
    |some d=>
     simp only[cK,Act.put];refine M5 Wm (by rw[h2];exact KJ i o ho d hd) ?_;rcases hr with h|h;·exact h
     ·rw[h];simp[Rel]
   ·exact⟨Gq id (by omega) hm,eI id (by omega)⟩
   ·rw[eI id (by omega)];exact h6 id hid
   ·by_cases sc:j=i
    ·subst sc;exfalso;rcases Nat.lt_or_ge j listed.size with h'|h';·simp[h']at zx
     ·simp[Array.getElem?_eq_none h']at Rc
    ·have TD:=Gr.spec.2 j y hy;rw[getD_set_ne true (Ne.symm sc)]at zx;rw[eI id ?_];·exact h7 j y hy zx id abJ abK
     ·rcases Nat.lt_or_gt_of_ne sc with h'|h';·have:=Gr.apart j i y out h' hy KO;omega
      ·have:=Gr.apart i j out y h' KO hy;omega
  rcases hw with⟨q5,Dz⟩|⟨q5,Dz,Zy⟩
  ·rw[sN q5 h3,if_pos rfl];refine .inl (Dz t m (λ_ _=>rfl) (λ_ _=>rfl) c a w h1 h2 h3 h4 (h7 i out KO Rc) _ _ ?_);intro u w' c' hr sb hs rz eI Gq;exact rB Gr RM b8 KJ hK fuel _ _ _ _ _ (put c' w' u hr sb hs rz eI Gq) oQ
  ·rw[sN q5 h3];simp only[ac5,if_false];have hm:∀id,ai (out.act m) id=ai m id:=λid=>by rw[RT.1,Zy id]
   refine rB Gr RM b8 KJ hK fuel _ _ _ _ _ (put c w undef (.inl (by rw[Dz];exact nc _ _)) (h4.qn hm) (Step.refl _ _ _) (λb ⟨id,h8,h9⟩=>.inl ⟨id,by rw[<-hm];exact h8,h9⟩) (λ_ _=>rfl) (λid _ h=>by rw[<-hm];exact h)) oQ
theorem D9 {o:Oper} {ao:bA} (o5:oN P ops k o=some ao) (iZ:ao.op.bJ.all (λi=>(o.looksAt ops).contains i)=true) {t:Fr} {m:Mem} {n:Nat} {v:AV} {e:eX}
 (he:aW ao.op t m n=some (v,e)):ng P k ops o t m (fe v e n (cV t ao.op)):=by
 intro t' m' ht hm c a w _ _ hF hM fG Kw Q X7;have abL:jG P o.op=some ao.op:=by
  unfold oN at o5;split at o5
  ·rename_i h1 _;split at o5;·cases o5;exact h1
   ·cases o5
  ·cases o5
 have Md:aW ao.op t' m' n=some (v,e):=by
  rw[GZ (λs hs=>ht s ?_) hm];·exact he
  ·have:=List.all_eq_true.1 iZ s hs;simpa using this
 have hn:c.φ n=.free:=fG n (acV _) (Nat.lt_succ_self _);obtain⟨r,w',c',dD,hr,sb,hs,eI,ho⟩:=xP (o:=o) abL hF hM hn Md;have Gq:∀id,¬(n<=id/\id<n+1)->(ai (e.mem m' n) id).isSome->(ai m' id).isSome:=by
  intro id hid h;have l6:n≠id:=by omega
  cases e with
  |nil=>exact h
  |new cs=>simp only[eX.mem,bh]at h;rw[if_neg l6]at h;exact h
  |put i cs=>
   simp only[eX.mem,bh]at h;split at h;·rename_i e;subst e;exact DZ Md
   ·exact h
  |Q4 i cs=>
   simp only[eX.mem,bh,eF]at h;rw[if_neg l6]at h;split at h;·simp at h
   ·exact h
 have Zz:∀id,¬(n<=id/\id<n+1)->c'.φ id=c.φ id:=λid hid=>eI id (.inl (by omega));unfold Oper.wp;rw[dD];rcases hr with⟨u,rfl,iL⟩|⟨rfl,hv⟩;·exact X7 u w' c' (.inl iL) sb hs ho Zz Gq
 ·exact X7 undef w' c' (.inr hv) sb hs ho Zz Gq
theorem pC {ρ:Ren} {m m':Mem} (h:∀id∈ρ.map (·.2),ai m' id=ai m id):∀{m0:Mem},handed ρ m m0->handed ρ m' m0
 | [],_=>trivial
 |(j,cs)::r,hh=>by
  simp only[handed]at hh⊢;refine⟨?_,pC h hh.2⟩;have h1:=hh.1;split at h1
  ·rename_i id hid;rw[h id (List.mem_map.2 ⟨_,ix hid,rfl⟩)];exact h1
  ·exact h1.elim
theorem Ea {o:Oper} {f:Nat} {cU:List AV} {ρ:Ren} {m0 m1:Mem} {r0:AV} {nb n:Nat} {t:Fr} {m:Mem} (b8:bC nb ρ=true) (dh:bF (ag ρ) cU=true) (hh:handed ρ m m0)
 (ji:∀j id,ag ρ j=some id->(ai m0 j).isSome) (hA:bT P f cU m0 (λr m'=>r=r0/\m'=m1))
 (KP:∀(t':Fr),(∀s∈o.looksAt ops,ah t' s=ah t s)->∀(c:Ctx) (a:Act) (w:World),FR c w t' a.tmps->∃vs,aU c w (aj (ag ρ) cU) vs/\(execOp a.eval o).run P w=.ok (.enter f vs.toArray) w):
 ng P k ops o t m (qm ρ m0 m1 r0 n):=by
 intro t' m' ht hm c a w _ _ hF hM fG Kw Q X7;obtain⟨vs,nH,dD⟩:=KP t' ht c a w hF;have hR:=nf (n:=n) hA ρ b8 dh (pC hm hh) ji (F:=λid=>n<=id/\id<n+Nat.max (aw m0) (aw m1)) (λr m2 hq id h1 h2=>by obtain⟨rfl,rfl⟩:=hq;exact⟨h1,h2⟩);unfold Oper.wp;rw[dD,Oper.upon_enter];refine(hR c w vs nH hM (λid hid=>fG id hid.1 hid.2)).mono ?_;rintro e' w' ⟨v,r,m2,n',c',rfl,⟨r1,m3,⟨rfl,rfl⟩,rfl,rfl,rfl⟩,iL,sb,hs,ho,eI,Gq,Q8⟩;exact X7 v w' c' (.inl iL) sb hs ho eI Gq
def Eb (r0:AV) (n hi:Nat) (F:List Nat):Out:=⟨r0,λm=>m,λ_=>none,[],F,n,hi⟩
theorem Ec {o:Oper} {f:Nat} {cU:List AV} {ρ:Ren} {m0:Mem} {r0:AV} {nb n:Nat} {t:Fr} {m:Mem} (b8:bC nb ρ=true) (dh:bF (ag ρ) cU=true) (hh:handed ρ m m0)
 (ji:∀j id,ag ρ j=some id->(ai m0 j).isSome) (hA:bT P f cU m0 (λr m'=>r=r0/\m'=m0)) (Az:∀π,r0.aC π=r0)
 (KP:∀(t':Fr),(∀s∈o.looksAt ops,ah t' s=ah t s)->∀(c:Ctx) (a:Act) (w:World),FR c w t' a.tmps->∃vs,aU c w (aj (ag ρ) cU) vs/\(execOp a.eval o).run P w=.ok (.enter f vs.toArray) w):
 ng P k ops o t m (Eb r0 n (n+Nat.max (aw m0) (aw m0)) (ρ.map (·.2))):=by
 intro t' m' ht hm c a w _ _ hF hM fG Kw Q X7;obtain⟨vs,nH,dD⟩:=KP t' ht c a w hF;have hh':=pC hm hh;have kQ:=sM (n:=n) b8 hh' ji;have hR:=nf (n:=n) hA ρ b8 dh hh' ji (F:=λid=>n<=id/\id<n+Nat.max (aw m0) (aw m0)) (λr m2 hq id h1 h2=>by obtain⟨rfl,rfl⟩:=hq;exact⟨h1,h2⟩);unfold Oper.wp;rw[dD,Oper.upon_enter];refine(hR c w vs nH hM (λid hid=>fG id hid.1 hid.2)).mono ?_;rintro e' w' ⟨v,r,m2,n',c',rfl,⟨r1,m3,⟨hr1,uo⟩,rfl,rfl,rfl⟩,iL,sb,hs,ho,eI,Gq,Q8⟩;subst hr1;subst uo;rw[Az]at iL
 exact X7 v w' c' (.inl iL) (sb.qn λid=>(kQ id).symm) hs (λb ⟨id,h1,h2⟩=>ho b ⟨id,by exact(congrArg Option.isSome (kQ id)).trans h1,h2⟩) eI λ_ _ h=>h
theorem AF {o:Oper} {f:Nat} {args:List AV} {n:Nat} {t:Fr} {m:Mem} {K:AV->Mem->Nat->fH->Prop} (h:ra P f args m n K)
 (KP:∀(t':Fr),(∀s∈o.looksAt ops,ah t' s=ah t s)->∀(c:Ctx) (a:Act) (w:World),FR c w t' a.tmps->∃vs,aU c w args vs/\(execOp a.eval o).run P w=.ok (.enter f vs.toArray) w):
 ∃out:Out,out.ok/\out.lo=n/\n<=out.hi/\ng P k ops o t m out/\K out.v (out.act m) out.hi ⟨out.keys,out.F⟩:=by
 rcases h with⟨ρ,m0,cU,r0,m1,nb,b8,rfl,dh,hh,ji,hA,hk⟩|⟨ρ,m0,cU,r0,nb,b8,rfl,dh,hh,ji,hA,Az,hk⟩;·exact⟨qm ρ m0 m1 r0 n,G0 b8 _ _ _ _,rfl,Nat.le_add_right _ _,Ea b8 dh hh ji hA KP,hk⟩
 ·exact⟨Eb r0 n _ _,⟨λ_ _=>rfl,λ_ h=>(h rfl).elim⟩,rfl,Nat.le_add_right _ _,Ec b8 dh hh ji hA Az KP,hk⟩
theorem Nj {o:Oper} {ao:bA} (o5:oN P ops k o=some ao):jG P o.op=some ao.op:=by
 unfold oN at o5;split at o5
 ·rename_i h1 _;split at o5;·cases o5;exact h1
  ·cases o5
 ·cases o5
theorem KQ {o:Oper} {ao:bA} (o5:oN P ops k o=some ao) (iZ:ao.op.bJ.all (λi=>(o.looksAt ops).contains i)=true) {S:St} {K:St->fH->Prop} (h:rb P ao.dst ao.op S K):
 ∃out:Out,out.ok/\out.lo=S.n/\S.n<=out.hi/\ng P k ops o S.t S.m out/\K ⟨cK S.t o.dst out.v,out.act S.m,out.hi⟩ ⟨out.keys,out.F⟩:=by
 have hd:ao.dst=o.dst:=(ku o5).2.1;have wF:=Nj o5;have Nk:∀{t':Fr},(∀s∈o.looksAt ops,ah t' s=ah S.t s)->∀s∈ao.op.bJ,ah t' s=ah S.t s:=λht s hs=>ht s (by simpa using List.all_eq_true.1 iZ s hs);rw[hd]at h;unfold rb at h;split at h
 ·rename_i f args xa;rw[xa]at wF Nk;refine AF h λt' ht c a w hF=>?_;obtain⟨callee,iz,ts,Nl,w3|w3⟩:=sG wF rfl
  ·obtain⟨f',rfl,RN,he⟩:=w3;cases he;refine⟨iz.toList.map a.eval,?_,?_⟩
   ·rw[<-pB (t':=t') (Nk ht)];exact qe hF iz.toList
   ·obtain⟨dst,op,ty,pos,after,guard⟩:=o;simp only at Nl;subst Nl;have h1:(execOp a.eval ⟨dst,.call ⟨.value (.func f),iz,ts⟩,ty,pos,after,guard⟩).run P w=(callFunc f ((#[]++iz.map a.eval)++#[])).run P w:=rfl
    rw[h1,jv RN w]
    congr 2
    apply Array.ext';simp
  ·obtain⟨y,_,he⟩:=w3;cases he
 ·rename_i x args xa;split at h
  ·rename_i f caps mf;obtain⟨RN,h⟩:=h;rw[xa]at wF Nk;refine AF h λt' ht c a w hF=>?_;obtain⟨callee,iz,ts,Nl,w3|w3⟩:=sG wF rfl
   ·obtain⟨f',_,_,he⟩:=w3;cases he
   ·obtain⟨y,rfl,he⟩:=w3;cases he;have hx:=bx (w:=w) hF y;rw[ql (t:=S.t) (λs hs=>Nk ht s (by simp only[im.bJ];exact List.mem_append_left _ hs)),mf]at hx;obtain⟨us,hu,iL⟩:=xH hx;refine⟨iz.toList.map a.eval++us,?_,?_⟩
    ·rw[<-pB (t':=t') (λs hs=>Nk ht s (by simp only[im.bJ];exact List.mem_append_right _ hs))];exact(qe hF iz.toList).append iL
    ·obtain⟨dst,op,ty,pos,after,guard⟩:=o;simp only at Nl;subst Nl;have h1:(execOp a.eval ⟨dst,.call ⟨.value y,iz,ts⟩,ty,pos,after,guard⟩).run P w=((Deferred.ofValue (a.eval y) (iz.map a.eval))>>=λd=>invoke d.target d.args).run P w:=rfl;rw[h1,hu];have h2:((Deferred.ofValue (.func (.func f) #[] us.toArray) (iz.map a.eval))>>=λd=>invoke d.target d.args).run P w=(callFunc f ((#[]++iz.map a.eval)++us.toArray)).run P w:=rfl
     rw[h2,jv RN w]
     congr 2
     apply Array.ext';simp
  ·exact h.elim
 ·split at h
  ·rename_i v e he;exact⟨fe v e S.n (cV S.t ao.op),D7 _ _ _ _,rfl,Nat.le_succ _,D9 o5 iZ he,h⟩
  ·exact h.elim
theorem Ed {o:Oper} {g:Nat} {want:Bool} {t:Fr} {b:Bool} (hg:jq ops o.guard=some (some (g,want))) (hb:ah t g=.d (.bool b)):mh ops o t=some (b==want):=by
 unfold jq at hg;unfold mh;cases ho:o.guard with
 |none=>rw[ho]at hg;cases hg
 |some jw=>
  obtain⟨j,wt⟩:=jw;rw[ho]at hg;simp only at hg⊢;split at hg
  ·rename_i o' hj;split at hg
   ·rename_i d hd;cases hg;simp only[hj,Option.bind_some,hd,hb]
   ·cases hg
  ·cases hg
theorem BR {o:Oper} {g:Nat} {want:Bool} {t:Fr} {cs:List AV} (hg:jq ops o.guard=some (some (g,want))) (hb:ah t g=.cu cs):mh ops o t=some false:=by
 unfold jq at hg;unfold mh;cases ho:o.guard with
 |none=>rw[ho]at hg;cases hg
 |some jw=>
  obtain⟨j,wt⟩:=jw;rw[ho]at hg;simp only at hg⊢;split at hg
  ·rename_i o' hj;split at hg
   ·rename_i d hd;cases hg;simp only[hj,Option.bind_some,hd,hb]
   ·cases hg
  ·cases hg
theorem BS {o:Oper} {t:Fr} (hg:jq ops o.guard=some none):mh ops o t=some true:=by
 unfold jq at hg;unfold mh;cases ho:o.guard with
 |none=>rfl
 |some jw=>
  obtain⟨j,wt⟩:=jw;rw[ho]at hg;simp only at hg;split at hg
  ·split at hg;·cases hg
   ·cases hg
  ·cases hg
theorem nY {K:St->Prop} {ms:List Nat}:∀(l:List Oper) (al:List bA) (acc:List fH) (S:St),ib P ops k l=some al->xS ops l al=true->eW P al acc ms S K->
 ∃(outs:List Out) (Sf:St),K Sf/\mi P k ops (λt m=>t=Sf.t/\m=Sf.m) l outs S.t S.m/\outs.length=l.length/\(∀x∈outs,x.ok)/\jU S.n outs Sf.n/\
  gY [] (acc.reverse++outs.map λx=>⟨x.keys,x.F⟩) (mB [] ms)=true
 | [],al,acc,S,hc,_,h=>by
   simp only[ib,adh]at hc;subst hc;simp only[eW]at h;exact⟨[],S,h.2,⟨rfl,rfl⟩,rfl,λx hx=>by simp at hx,rfl,by simpa using h.1⟩
 |o::l,al,acc,S,hc,hs,h=>by
  simp only[ib]at hc;split at hc
  ·rename_i ao r' h1 h2;cases hc;simp only[xS,adn]at hs;obtain⟨hg,hd,KJ⟩:=ku h1;have ZA:mh ops o S.t=some true->rb P ao.dst ao.op S (λS' f=>eW P r' (f::acc) ms S' K)->∃(outs:List Out) (Sf:St),K Sf/\mi P k ops (λt m=>t=Sf.t/\m=Sf.m) (o::l) outs S.t S.m/\outs.length=(o::l).length/\(∀x∈outs,x.ok)/\jU S.n outs Sf.n/\
    gY [] (acc.reverse++outs.map λx=>⟨x.keys,x.F⟩) (mB [] ms)=true:=by
    intro hw h;obtain⟨out,b8,hlo,hhi,Nn,hk⟩:=KQ h1 hs.1 h;obtain⟨outs,Sf,hK,dD,hlen,G1,Gr,zL⟩:=nY l r' _ _ h2 hs.2 hk;refine⟨out::outs,Sf,hK,⟨.inl ⟨hw,Nn⟩,dD⟩,by simp[hlen],λx hx=>?_,⟨hlo,hhi,Gr⟩,by simpa using zL⟩;rcases List.mem_cons.1 hx with rfl|hx;·exact b8
    ·exact G1 x hx
   simp only[eW]at h;split at h
   ·rename_i YI;rw[YI]at hg;exact ZA (BS hg) h
   ·rename_i g want Wo;rw[Wo]at hg;split at h
    ·rename_i b hb;have hw:=Ed hg hb;split at h
     ·rename_i BJ;subst BJ;exact ZA (by rw[hw];simp) h
     ·rename_i BJ;rw[hd]at h;obtain⟨outs,Sf,hK,dD,hlen,G1,Gr,zL⟩:=nY l r' _ _ h2 hs.2 h;refine⟨sL S.n::outs,Sf,hK,⟨.inr ⟨by rw[hw];simpa using BJ,rfl,λ_=>rfl⟩,dD⟩,by simp[hlen],λx hx=>?_,⟨rfl,Nat.le_succ _,Gr⟩,by simpa[sL]using zL⟩;rcases List.mem_cons.1 hx with rfl|hx;·exact xZ _
      ·exact G1 x hx
    ·rename_i cs hb;have hw:=BR hg hb;rw[hd]at h;obtain⟨outs,Sf,hK,dD,hlen,G1,Gr,zL⟩:=nY l r' _ _ h2 hs.2 h;refine⟨sL S.n::outs,Sf,hK,⟨.inr ⟨hw,rfl,λ_=>rfl⟩,dD⟩,by simp[hlen],λx hx=>?_,⟨rfl,Nat.le_succ _,Gr⟩,by simpa[sL]using zL⟩;rcases List.mem_cons.1 hx with rfl|hx;·exact xZ _
     ·exact G1 x hx
    ·exact h.elim
  ·cases hc
theorem mi.mono {K K':Fr->Mem->Prop} (hK:∀t m,K t m->K' t m):∀{l:List Oper} {outs:List Out} {t:Fr} {m:Mem},mi P k ops K l outs t m->mi P k ops K' l outs t m
 | [],[],_,_,h=>hK _ _ h
 | [],_::_,_,_,h=>h.elim
 |_::_,[],_,_,h=>h.elim
 |_::_,_::_,_,_,h=>⟨h.1,mi.mono hK h.2⟩
theorem Ee {x y:Out} (h:xY ⟨x.keys,x.F⟩ ⟨y.keys,y.F⟩=true):indep x y:=by
 simp only[xY,adn,List.all_eq_true,Bool.not_eq_true',List.contains_eq_mem,decide_eq_false_iff_not]at h;exact⟨λid hid=>(h.1 id hid).1,λid hid=>h.2 id hid,λid hid=>(h.1 id hid).2⟩
theorem uF (i:Nat):∀(l:List Edge) (s:Nat),(l.foldl (λs e=>if Region.binds .any e then s|||2^e.on else s) s).testBit i=true->s.testBit i=true\/∃e∈l,Region.binds .any e=true/\e.on=i
 | [],s,h=>.inl h
 |e::l,s,h=>by
  simp only[adB]at h;rcases uF i l _ h with h1|⟨e',h1,h2⟩
  ·split at h1
   ·rename_i hb;rw[Nat.testBit_or,Bool.or_eq_true,Nat.testBit_two_pow]at h1;rcases h1 with h1|h1;·exact .inl h1
    ·exact .inr ⟨e,adw,hb,by simpa using h1⟩
   ·exact .inl h1
  ·exact .inr ⟨e',adx _ h1,h2⟩
theorem wI {n0:Nat} {S:St} {Q:Exit->St->Prop} {id:Nat} {al:List bA} (hm:P.follows .mixedOrders=true) (hc:ib P ops k ops.toList=some al) (hs:xS ops ops.toList al=true)
 (G2:Region.lexB .any ops=true) (hn:n0<=S.n) (h:eW P al [] (eR ops) S (λS'=>Q .normal S')):w7 P n0 k (.region id ops true) S Q:=by
 intro E hE a w nV;obtain⟨outs,Sf,hK,dD,hlen,G1,Gr,zL⟩:=nY (k:=k) (ops:=ops) ops.toList al [] S hc hs h;have TP:∀(i:Nat) (o:Out),outs[i]?=some o->o.ok:=λi o h=>G1 o (List.mem_of_getElem? h);have hl:outs.length=ops.size:=by rw[hlen,Array.length_toList]
 have KJ:∀(i:Nat) (o:Oper),ops[i]?=some o->∀d,o.dst=some d->d<k:=by
  have key:∀(l:List Oper) (al:List bA),ib P ops k l=some al->∀o∈l,∀d,o.dst=some d->d<k:=by
   intro l;induction l with
   |nil=>intro al _ o ho;simp at ho
   |cons x l ih=>
    intro al hc o ho;simp only[ib]at hc;split at hc
    ·rename_i ao r' h1 h2;rcases List.mem_cons.1 ho with rfl|ho;·exact(ku h1).2.2
     ·exact ih r' h2 o ho
    ·cases hc
  exact λi o ho=>key _ _ hc o (by rw[<-Array.getElem?_toList]at ho;exact List.mem_of_getElem? ho)
 refine wp_region_any hm ?_;have vJ:jS E k S a {w with drawn:=w.drawn+1}:=AE nV rfl rfl rfl rfl;obtain⟨c,ic,hp⟩:=vJ;unfold Region.lexB at G2;simp only[adn]at G2;have hA:=xX (P:=P) (k:=k) (ops:=ops) (outs:=outs) TP (K:=λt m=>Rb Sf.t Sf.m t m)
  (λt m t' m' h1 h2=>⟨λi=>(h1.1 i).trans (h2.1 i),λi=>(h1.2 i).trans (h2.2 i)⟩) ?_ ops.toList outs 0 (Array.replicate ops.size false) S.t S.m
  (λj=>by rw[ac2,Array.getElem?_toList]) (λj=>by rw[ac2]) (λj hj=>absurd hj (Nat.not_lt_zero j)) (λa oa Zn hl=>by
   have:a<ops.size:=(Array.getElem?_eq_some_iff.1 Zn).1;simp[this]at hl) (by rw[Array.length_toList];exact G2.2)
  (dD.mono λt m ⟨h1,h2⟩=>by subst h1 h2;exact⟨λ_=>rfl,λ_=>rfl⟩)
 ·rw[Array.length_toList]at hA;refine rB Gr (hE▸hn) TP KJ (K:=λt m=>Rb Sf.t Sf.m t m) ?_ _ _ _ _ _ _ ⟨c,ic.defers,ic.size,ic.fr,ic.mr,hp,λid hid=>ic.free id (Nat.le_trans Gr.spec.1 hid),λj x hx _ id h1 _=>ic.free id (Nat.le_trans (Gr.spec.2 j x hx).1 h1)⟩ hA;rintro t m a' w' qi ⟨c',w8,GS⟩;refine⟨Sf,hK,c',⟨w8.defers,w8.size,λi=>by rw[<-qi.1 i];exact w8.fr i,w8.mr.qn λid=>(qi.2 id).symm,w8.free⟩,GS.qn λid=>(qi.2 id).symm⟩
 ·intro i j oj x y Re Mf hx hy uB;have gb:(outs.map λx=>(⟨x.keys,x.F⟩:fH))[i]?=some ⟨x.keys,x.F⟩:=by simp[hx]
  have wC:(outs.map λx=>(⟨x.keys,x.F⟩:fH))[j]?=some ⟨y.keys,y.F⟩:=by simp[hy]
  obtain⟨mk,Gq,hb⟩:=pA zL i j ⟨x.keys,x.F⟩ ⟨y.keys,y.F⟩ (by simpa using Re) gb wC;refine Ee (hb ?_);cases abM:mk.testBit i with
  |false=>rfl
  |true=>
   refine absurd ?_ uB;have:=vK (R:=KK ops) (λh h'=>h.trans h') (ms:=eR ops) (done:=[]) (λk c b h=>by simp at h) (λj' m' b' h1 h2=>?_) j mk i Gq abM;·simpa using this
   ·unfold eR at h1;rw[List.getElem?_map,Array.getElem?_toList,adf]at h1;obtain⟨oj',ho',rfl⟩:=h1;rcases uF b' _ _ h2 with h3|⟨e,h3,h4,h5⟩;·simp at h3
    ·simp only[adz,ac2];exact .one ho' (by simpa using h3) h4 h5
theorem az {n0:Nat} {S:St} {Q:Exit->St->Prop} {al:List bA} {ms:List Nat} (hm:P.follows .mixedOrders=true) (hn:decide (n0<=S.n)=true) (h:eW P al [] ms S (λS'=>Q .normal S')):
 fN P n0 k (.region true al ms) S Q:=by
 intro code hc;cases code with
 |region id ops draw=>
  simp only[ct]at hc;split at hc
  ·rename_i al' qi;split at hc
   ·rename_i hd;split at hc
    ·rename_i G2;cases hc;simp only[adn]at G2;subst hd;exact wI hm qi G2.2 G2.1 (of_decide_eq_true hn) h
    ·cases hc
   ·cases hc
  ·cases hc
 |cond c a b=>simp only[ct]at hc;repeat' split at hc
              all_goals cases hc
 |seq a b=>simp only[ct]at hc;repeat' split at hc
           all_goals cases hc
 |_=>simp[ct]at hc
end
theorem c8 {i:Nat} (h:(i:Int)+1<9223372036854775808):ac9.wrap ((i:Int)+1)=((i+1:Nat):Int):=by rw[wrap_i64 (by omega) (by omega)];rfl
end Go.Jq
namespace Go.Jq
open Go
abbrev Zs:=List (Nat×List DV)
def bI:Zs->Nat->Option (List DV)
 | [],_=>none
 |(i,ds)::r,k=>if i=k then some ds else bI r k
mutual
def AV.cv (π:Nat->Option Nat) (Z:Nat->Option (List DV)):AV->AV
 |.d x=>.d x
 |.ptr id off=>match Z id with
  |some ds=>.bj (ds.drop off)
  |none=>match π id with
   |some j=>.ptr j off
   |none=>.any
 |.r8 id T=>match π id with
  |some j=>.r8 j T
  |none=>.any
 |.uh id T len=>match π id with
  |some j=>.uh j T len
  |none=>.any
 |.bj cs=>.bj cs
 |.sl id de off len=>match Z id with
  |some ds=>.d (.sl len ((ds.drop off).take (len*de)))
  |none=>match π id with
   |some j=>.sl j de off len
   |none=>.any
 |.fn f caps=>.fn f (dn π Z caps)
 |.agg cs=>.agg (dn π Z cs)
 |.cu vs=>.cu (dn π Z vs)
 |.oZ id=>match π id with
  |some j=>.oZ j
  |none=>.any
 |.ui _=>.d (.sl 0 [])
 |.any=>.any
def dn (π:Nat->Option Nat) (Z:Nat->Option (List DV)):List AV->List AV
 | []=>[]
 |x::xs=>x.cv π Z::dn π Z xs
end
theorem BT {π:Nat->Option Nat} {Z:Nat->Option (List DV)}:∀(l:List AV) (i:Nat),(dn π Z l)[i]?=l[i]?.map (AV.cv π Z)
 | [],i=>by simp[dn]
 |x::l,0=>by simp[dn]
 |x::l,i+1=>by simp only[dn,List.getElem?_cons_succ];exact BT l i
@[go_sem]theorem cF (π:Nat->Option Nat) (Z:Nat->Option (List DV)) (l:List DV):dn π Z (l.map .d)=l.map .d:=by
  induction l with
  |nil=>rfl
  |cons x l ih=>simp only[ade,dn,AV.cv,ih]
@[go_sem]theorem ba (π:Nat->Option Nat) (Z:Nat->Option (List DV)) (l l':List AV):dn π Z (l++l')=dn π Z l++dn π Z l':=by
  induction l with
  |nil=>rfl
  |cons x l ih=>simp only[List.cons_append,dn,ih]
def bD (m:Mem) (Z0:Zs):Zs->Prop
 | []=>True
 |(id,ds)::r=>(match ai m id with
  |some cs=>dn (λ_=>none) (bI Z0) cs=ds.map .d
  |none=>False)/\bD m Z0 r
theorem nZ {m:Mem} {Z0:Zs}:∀{Z:Zs},bD m Z0 Z->∀id ds,bI Z id=some ds->∃cs,ai m id=some cs/\dn (λ_=>none) (bI Z0) cs=ds.map .d
 | [],_,id,ds,h=>by simp[bI]at h
 |(i,x)::r,h,id,ds,hz=>by
  simp only[bD]at h;simp only[bI]at hz;split at hz
  ·rename_i e;subst e;cases hz;obtain⟨h,_⟩:=h;split at h;·rename_i cs b9;exact⟨cs,b9,h⟩
   ·exact h.elim
  ·exact nZ h.2 id ds hz
def Ctx.jn (c:Ctx) (π:Ren) (Z:Zs):Ctx:=
 {φ:=(c.aC π).φ,dm:=λb=>c.dm b\/∃id,(bI Z id).isSome/\c.φ id=.mP b}
section
variable{c:Ctx} {m:Mem} {w:World} {Z:Zs} {π:Ren}
mutual
theorem IC (hM:MR c m w) (hz:bD m Z Z):∀(d:DV) (x:AV) (v:Value),x.cv (λ_=>none) (bI Z)=.d d->Rel c w x v->du (c.jn π Z).dm w d v
 |.sl n cells,x,v,hx,hr=>by
  cases x with
  |d y=>
   simp only[AV.cv,AV.d.injEq]at hx;subst hx;simp only[Rel]at hr;exact iV (λb hb=>.inl hb) (λ_ _=>rfl) _ _ hr
  |sl id de off len=>
   simp only[AV.cv]at hx;split at hx
   ·rename_i ds DB;simp only[AV.d.injEq,DV.sl.injEq]at hx;obtain⟨rfl,nN⟩:=hx;obtain⟨cs,b9,ZB⟩:=nZ hz id ds DB;simp only[Rel]at hr;simp only[du];rcases hr with⟨h0,rfl,rfl,a0,hv⟩|⟨b,cap,n,hb,hv,hle,_⟩;·exact⟨a0,0,hv,acV _,.inl ⟨rfl,by rw[<-nN];simp⟩⟩
    ·refine⟨_,cap,hv,hle,.inr ⟨b,off,rfl,.inr ⟨id,by rw[DB];rfl,hb⟩,?_⟩⟩;refine x5 hM hz cells b off id cs hb b9 λi d hi=>?_;rw[<-nN,List.getElem?_take]at hi;split at hi
     ·rw[List.getElem?_drop]at hi;have h1:(dn (λ_=>none) (bI Z) cs)[off+i]?=some (.d d):=by rw[ZB,List.getElem?_map,hi];rfl
      rw[BT,adf]at h1;exact h1
     ·simp at hi
   ·cases hx
  |ptr id off=>simp only[AV.cv]at hx;split at hx<;>cases hx
  |r8 id T=>simp only[AV.cv]at hx;cases hx
  |uh id T len=>simp only[AV.cv]at hx;cases hx
  |bj _=>simp[AV.cv]at hx
  |fn _ _=>simp[AV.cv]at hx
  |agg _=>simp[AV.cv]at hx
  |cu _=>simp[AV.cv]at hx
  |oZ _=>simp only[AV.cv]at hx;cases hx
  |ui z=>
   simp only[AV.cv,AV.d.injEq,DV.sl.injEq]at hx;obtain⟨rfl,rfl⟩:=hx;simp only[Rel]at hr;obtain⟨a,cap,hv,_⟩:=hr;simp only[du];exact⟨a,cap,hv,Nat.zero_le _,.inl ⟨trivial,trivial⟩⟩
  |any=>simp[AV.cv]at hx
 |.int a b,x,v,hx,hr=>lL hx hr (λ_ _ h=>nomatch h)
 |.bool b,x,v,hx,hr=>lL hx hr (λ_ _ h=>nomatch h)
 |.str s,x,v,hx,hr=>lL hx hr (λ_ _ h=>nomatch h)
 |.cE,x,v,hx,hr=>lL hx hr (λ_ _ h=>nomatch h)
 |.lA,x,v,hx,hr=>lL hx hr (λ_ _ h=>nomatch h)
 |.Mb,x,v,hx,hr=>lL hx hr (λ_ _ h=>nomatch h)
 |.XN,x,v,hx,hr=>lL hx hr (λ_ _ h=>nomatch h)
theorem x5 (hM:MR c m w) (hz:bD m Z Z):∀(ds:List DV) (b o id:Nat) (cs:List AV),c.φ id=.mP b->ai m id=some cs->
 (∀i d,ds[i]?=some d->∃x,cs[o+i]?=some x/\x.cv (λ_=>none) (bI Z)=.d d)->c6 (c.jn π Z).dm w ds b o
 | [],_,_,_,_,_,_,_=>by simp[c6]
 |d::ds,b,o,id,cs,hb,b9,h=>by
  simp only[c6];obtain⟨x,hx,ZB⟩:=h 0 d rfl;refine⟨?_,x5 hM hz ds b (o+1) id cs hb b9 λi d' hi=>?_⟩
  ·obtain⟨u,hu,hr⟩:=me hM b9 hb o 0 x (by rw[List.getElem?_drop];exact hx);exact⟨u,hu,IC hM hz d x u ZB hr⟩
  ·obtain⟨y,hy,hcy⟩:=h (i+1) d' (by simpa using hi);exact⟨y,by rw[<-hy];congr 1;omega,hcy⟩
theorem lL {d:DV} {x:AV} {v:Value} (hx:x.cv (λ_=>none) (bI Z)=.d d) (hr:Rel c w x v) (hd:∀n cs,d≠.sl n cs):du (c.jn π Z).dm w d v:=by
 cases x with
 |d y=>
  simp only[AV.cv,AV.d.injEq]at hx;subst hx;simp only[Rel]at hr;exact iV (λb hb=>.inl hb) (λ_ _=>rfl) _ _ hr
 |sl id de off len=>
  simp only[AV.cv]at hx;split at hx
  ·simp only[AV.d.injEq]at hx;exact absurd hx.symm (hd _ _)
  ·cases hx
 |ptr id off=>simp only[AV.cv]at hx;split at hx<;>cases hx
 |r8 id T=>simp only[AV.cv]at hx;cases hx
 |uh id T len=>simp only[AV.cv]at hx;cases hx
 |bj _=>simp[AV.cv]at hx
 |fn _ _=>simp[AV.cv]at hx
 |agg _=>simp[AV.cv]at hx
 |cu _=>simp[AV.cv]at hx
 |oZ _=>simp only[AV.cv]at hx;cases hx
 |ui _=>simp only[AV.cv,AV.d.injEq]at hx;exact absurd hx.symm (hd _ _)
 |any=>simp[AV.cv]at hx
end
theorem KR (hM:MR c m w) (hz:bD m Z Z) {id b:Nat} {ds:List DV} (DB:bI Z id=some ds) (hb:c.φ id=.mP b) (o:Nat):c6 (c.jn π Z).dm w (ds.drop o) b o:=by
 obtain⟨cs,b9,ZB⟩:=nZ hz id ds DB;refine x5 hM hz _ b o id cs hb b9 λi d hi=>?_;rw[List.getElem?_drop]at hi;have h1:(dn (λ_=>none) (bI Z) cs)[o+i]?=some (.d d):=by rw[ZB,List.getElem?_map,hi];rfl
 rw[BT,adf]at h1;exact h1
mutual
theorem G3 {nb:Nat} (b8:bC nb π=true) (hM:MR c m w) (hz:bD m Z Z):∀(x:AV) (v:Value),Rel c w x v->Rel (c.jn π Z) w (x.cv (ag π) (bI Z)) v
 |.d x,v,h=>by simp only[AV.cv,Rel]at h⊢;exact iV (λb hb=>.inl hb) (λ_ _=>rfl) x v h
 |.ptr id off,v,h=>by
  simp only[AV.cv,Rel]at h⊢;obtain⟨b,hb,hv⟩:=h;split
  ·rename_i ds DB;simp only[Rel];exact⟨b,off,.inr ⟨id,by rw[DB];rfl,hb⟩,hv,KR hM hz DB hb off⟩
  ·split
   ·rename_i j hj;simp only[Rel];exact⟨b,by rw[<-hb];exact lJ b8 hj,hv⟩
   ·simp[Rel]
 |.uh id T len,v,h=>by
  simp only[AV.cv,Rel]at h⊢;split
  ·rename_i j hj;simp only[Rel];rcases h with⟨h0,h⟩|⟨b,cap,n,hb,h⟩;·exact .inl ⟨by rw[<-h0];exact lJ b8 hj,h⟩
   ·exact .inr ⟨b,cap,n,by rw[<-hb];exact lJ b8 hj,h⟩
  ·simp[Rel]
 |.r8 id T,v,h=>by
  simp only[AV.cv,Rel]at h⊢;obtain⟨hv,b,hb,hs⟩:=h;split
  ·rename_i j hj;simp only[Rel];exact⟨hv,b,by rw[<-hb];exact lJ b8 hj,hs⟩
  ·simp[Rel]
 |.bj cs,v,h=>by
  simp only[AV.cv,Rel]at h⊢;obtain⟨b,o,hb,hv,hc⟩:=h;exact⟨b,o,.inl hb,hv,iJ (λb hb=>.inl hb) (λ_ _=>rfl) cs b o hb hc⟩
 |.sl id de off len,v,h=>by
  have h0:=h;simp only[AV.cv,Rel]at h⊢;split
  ·rename_i ds DB;simp only[Rel];refine IC hM hz _ (.sl id de off len) v ?_ h0;simp only[AV.cv,DB]
  ·split
   ·rename_i j hj;simp only[Rel];rcases h with⟨h0,h⟩|⟨b,cap,n,hb,h⟩;·exact .inl ⟨by rw[<-h0];exact lJ b8 hj,h⟩
    ·exact .inr ⟨b,cap,n,by rw[<-hb];exact lJ b8 hj,h⟩
   ·simp[Rel]
 |.fn f caps,v,h=>by
  simp only[AV.cv,Rel]at h⊢;obtain⟨vs,hv,hl⟩:=h;exact⟨vs,hv,mj b8 hM hz caps vs hl⟩
 |.agg cs,v,h=>by
  simp only[AV.cv,Rel]at h⊢;obtain⟨vs,hv,hl⟩:=h;exact⟨vs,hv,mj b8 hM hz cs vs hl⟩
 |.cu cs,v,h=>by
  simp only[AV.cv,Rel]at h⊢;obtain⟨vs,hv,hl⟩:=h;exact⟨vs,hv,mj b8 hM hz cs vs hl⟩
 |.oZ id,v,h=>by
  simp only[AV.cv,Rel]at h⊢;obtain⟨b,hb,hv⟩:=h;split
  ·rename_i j hj;simp only[Rel];exact⟨b,by rw[<-hb];exact lJ b8 hj,hv⟩
  ·simp[Rel]
 |.ui z,v,h=>by
  simp only[AV.cv,Rel]at h⊢;obtain⟨a,cap,hv,_⟩:=h;simp only[du];exact⟨a,cap,hv,Nat.zero_le _,.inl ⟨trivial,trivial⟩⟩
 |.any,_,_=>by simp[AV.cv,Rel]
theorem mj {nb:Nat} (b8:bC nb π=true) (hM:MR c m w) (hz:bD m Z Z):∀(xs:List AV) (vs:List Value),aU c w xs vs->aU (c.jn π Z) w (dn (ag π) (bI Z) xs) vs
 | [],_,h=>by simpa[dn,aU]using h
 |x::xs,vs,h=>by
  simp only[dn,aU]at h⊢;obtain⟨v,mb,hv,hx,hl⟩:=h;exact⟨v,mb,hv,G3 b8 hM hz x v hx,mj b8 hM hz xs mb hl⟩
end
end
def fO (π:Ren) (Z:Zs) (t:Fr):Fr->Prop
 | []=>True
 |(i,x)::r=>(ah t i).cv (ag π) (bI Z)=x/\fO π Z t r
def gd (π:Ren) (Z:Zs) (m:Mem):Mem->Prop
 | []=>True
 |(j,cs)::r=>(match aI π j with
  |some i=>bI Z i=none/\(match ai m i with
   |some nM=>dn (ag π) (bI Z) nM=cs
   |none=>False)
  |none=>False)/\gd π Z m r
structure Frz (n0:Nat) (π:Ren) (Z:Zs) (S S':St):Prop where
 t:fO π Z S.t S'.t
 m:gd π Z S.m S'.m
 ok:bC S'.n π=true
 cI:jt n0 π=true
 z:bD S.m Z Z
theorem Ef {π:Ren} {Z:Zs} {t:Fr}:∀{t':Fr},fO π Z t t'->∀i,ah t' i=.any\/(ah t i).cv (ag π) (bI Z)=ah t' i
 | [],_,i=>.inl rfl
 |(k,x)::r,h,i=>by
  simp only[fO]at h;simp only[ah];split;·rename_i e;subst e;exact .inr h.1
  ·exact Ef h.2 i
theorem nh {π:Ren} {Z:Zs} {m:Mem}:∀{m':Mem},gd π Z m m'->∀j cs,ai m' j=some cs->∃i nM,aI π j=some i/\bI Z i=none/\ai m i=some nM/\dn (ag π) (bI Z) nM=cs
 | [],_,j,cs,h=>by simp[ai]at h
 |(k,x)::r,h,j,cs,hj=>by
  simp only[gd]at h;simp only[ai]at hj;split at hj
  ·rename_i e;subst e;cases hj;obtain⟨h,_⟩:=h;split at h
   ·rename_i i hi;obtain⟨hz,h⟩:=h;split at h
    ·rename_i nM jP;exact⟨i,nM,hi,hz,jP,h⟩
    ·exact h.elim
   ·exact h.elim
  ·exact nh h.2 j cs hj
theorem aH.jn {n0 k:Nat} {S S':St} (π:Ren) (Z:Zs) (he:Frz n0 π Z S S'):aH n0 k S S':=by
 rintro E hE a w ⟨c,hc,hp⟩;have b8:=he.ok;have hM:=hc.mr;have Rf:∀id,(bI Z id).isSome->(ai S.m id).isSome:=λid h=>by
  obtain⟨ds,DB⟩:=adv.1 h;obtain⟨cs,b9,_⟩:=nZ he.z id ds DB;rw[b9];rfl
 have rz:∀b,gm (c.jn π Z) S'.m b->gm c S.m b:=by
  rintro b ⟨j,hj,hb⟩;obtain⟨cs,b9⟩:=adv.1 hj;obtain⟨i,_,hi,_,MX,_⟩:=nh he.m j cs b9;simp only[Ctx.jn,Ctx.aC,hi]at hb;exact⟨i,by rw[MX];rfl,hb⟩
 refine⟨c.jn π Z,⟨hc.defers,hc.size,λi=>?_,⟨λj cs hj=>?_,λj j' b hj wC hb fu=>?_,λb hb=>?_,hM.lC (λ_ h=>.inl h) λ_ _=>rfl⟩,λid hid=>?_⟩,⟨⟨hp.step.os,hp.step.tape,hp.step.output,hp.step.size,hp.step.cI,hp.step.rows,λb hb=>.inl (hp.step.dm b hb),λb hb=>?_⟩,λb hb=>hp.own b (rz b hb),λj hj YD=>?_⟩⟩
 ·rcases Ef he.t i with h|h;·rw[h];simp[Rel]
  ·rw[<-h];exact G3 b8 hM he.z _ _ (hc.fr i)
 ·obtain⟨i,nM,hi,hzn,b9,rfl⟩:=nh he.m j cs hj;have eI:(c.jn π Z).φ j=c.φ i:=by simp only[Ctx.jn,Ctx.aC,hi]
  have uB:∀b,(c.φ i).bk=some b->¬c.dm b->¬(c.jn π Z).dm b:=by
   rintro b hb gx (h1|⟨id,h1,h2⟩);·exact gx h1
   ·have:=hM.inj id i b (Rf id h1) (by rw[b9];rfl) (gT.gl h2) hb;subst this;rw[hzn]at h1;cases h1
  rcases hM.own i nM b9 with⟨h0,rfl⟩|⟨b,arr,T,f,hb,gx,hw,hf,vs,rest,ha,hr⟩|⟨b,es,kv,hb,gx,hw,hf,rfl,hr⟩;·exact .inl ⟨eI.trans h0,rfl⟩
  ·exact .inr (.inl ⟨b,arr,T,f,eI.trans hb,uB b (gT.gl hb) gx,hw,hf,vs,rest,ha,mj b8 hM he.z _ _ hr⟩)
  ·exact .inr (.inr ⟨b,es,_,eI.trans hb,uB b (gT.It hb) gx,hw,hf,rfl,mj b8 hM he.z _ _ hr⟩)
 ·obtain⟨cs,b9⟩:=adv.1 hj;obtain⟨nM,jP⟩:=adv.1 wC;obtain⟨i,_,hi,_,MX,_⟩:=nh he.m j cs b9;obtain⟨i',_,gb,_,Wj,_⟩:=nh he.m j' nM jP;simp only[Ctx.jn,Ctx.aC,hi]at hb;simp only[Ctx.jn,Ctx.aC,gb]at fu;have:=hM.inj i i' b (by rw[MX];rfl) (by rw[Wj];rfl) hb fu;subst this;have h1:=(eK b8 i j (fF hi)).1;have h2:=(eK b8 i j' (fF gb)).1;rw[h1]at h2;exact Option.some.inj h2
 ·rcases hb with h1|⟨id,h1,h2⟩;·exact hM.dm b h1
  ·exact hM.iK ⟨id,Rf id h1,gT.gl h2⟩
 ·simp only[Ctx.jn,Ctx.aC];split
  ·rename_i i hi;have:=(eK b8 i id (fF hi)).2.2;omega
  ·rfl
 ·rcases hb with h1|⟨id,h1,h2⟩;·exact hp.step.sk b h1
  ·exact .inr (hp.own b ⟨id,Rf id h1,gT.gl h2⟩)
 ·obtain⟨cs,b9⟩:=adv.1 YD;obtain⟨i,_,hi,_,MX,_⟩:=nh he.m j cs b9;have:=DU (hE▸he.cI) hi hj;subst this;obtain⟨h1,h2⟩:=hp.cI i hj (by rw[MX];rfl);exact⟨h1,by simp only[Ctx.jn,Ctx.aC,hi];exact h2⟩
theorem AG {E:Env} {k:Nat} {t:Fr} {m:Mem} {n:Nat} {a:Act} {w:World} (hE:E.n<=n) (h:jS E k ⟨t,m,n⟩ a w):
 ∃c:Ctx,c.φ n=.none/\CR c k ⟨t,an m n [],n+1⟩ a w/\wG E c (an m n []) w:=by
 obtain⟨c,hc,hp⟩:=h;have hn:=hc.free n (acV _);have rl:∀id,c.φ id≠.free->(c.bind n .none).φ id=c.φ id:=λid hid=>Ctx.cr λe=>hid (by rw[e];exact hn);have hl:ia c (c.bind n .none) w w:=⟨λ_ h=>h,λ_ _=>rfl,rl,λ_ _ h=>h⟩;have rz:∀b,gm (c.bind n .none) (an m n []) b->gm c m b:=by
  rintro b ⟨id,hid,hb⟩;by_cases e:id=n;·subst e;rw[Ctx.bind_eq]at hb;cases hb
  ·rw[Ctx.cr e]at hb;rw[bh,if_neg (Ne.symm e)]at hid;exact⟨id,hid,hb⟩
 refine⟨c.bind n .none,Ctx.bind_eq,⟨hc.defers,hc.size,λi=>lB hl _ _ (hc.fr i),⟨λid cells hid=>?_,λid j3 b hid lG hb fu=>?_,hc.mr.dm,hc.mr.wX⟩,λid hid=>?_⟩,
  ⟨⟨hp.step.os,hp.step.tape,hp.step.output,hp.step.size,hp.step.cI,hp.step.rows,hp.step.dm,hp.step.sk⟩,λb hb=>hp.own b (rz b hb),λid hid hm=>?_⟩⟩
 ·rw[bh]at hid;split at hid;·rename_i e;subst e;cases hid;exact .inl ⟨Ctx.bind_eq,rfl⟩
  ·exact(hc.mr.own id cells hid).later hl λb hb=>⟨rfl,λhi=>hc.mr.sep hi ⟨id,by show(ai m id).isSome;rw[hid];rfl,hb⟩⟩
 ·have key:∀id,(ai (an m n []) id).isSome->((c.bind n .none).φ id).bk=some b->(ai m id).isSome/\(c.φ id).bk=some b:=λid h1 h2=>by
   by_cases e:id=n;·subst e;rw[Ctx.bind_eq]at h2;cases h2
   ·rw[Ctx.cr e]at h2;rw[bh,if_neg (Ne.symm e)]at h1;exact⟨h1,h2⟩
  obtain⟨h1,h2⟩:=key id hid hb;obtain⟨h3,h4⟩:=key j3 lG fu;exact hc.mr.inj id j3 b h1 h3 h2 h4
 ·have lG:n+1<=id:=hid;rw[Ctx.cr (by omega)];exact hc.free id (by show n<=id;omega)
 ·have l6:id≠n:=by omega
  rw[bh,if_neg (Ne.symm l6)]at hm;rw[Ctx.cr l6];exact hp.cI id hid hm
theorem aH.nil {n0 k:Nat} {t:Fr} {m:Mem} {n:Nat} (i de:Nat) (hn:decide (n0<=n)=true) (hi:ah t i=.d .cE):aH n0 k ⟨t,m,n⟩ ⟨(i,.sl n de 0 0)::t,an m n [],n+1⟩:=by
 intro E hE a w nV;obtain⟨c,eI,hc,hp⟩:=AG (hE▸of_decide_eq_true hn) nV;refine⟨c,⟨hc.defers,hc.size,λj=>?_,hc.mr,hc.free⟩,hp⟩;simp only[ah];split
 ·rename_i e;subst e;have h1:=hc.fr i;simp only[hi,Rel,du]at h1;simp only[Rel];exact .inl ⟨eI,trivial,trivial,none,h1⟩
 ·exact hc.fr j
theorem Np {vs:List Value} {j:Nat} {v:Value} (hv:vs[j]?=some v):vs.set j v=vs:=by
 apply List.ext_getElem?;intro q;rw[List.getElem?_set];split
 ·rename_i e;subst e;split;·exact hv.symm
  ·rename_i h;rw[List.getElem?_eq_none (by omega)]
 ·rfl
theorem aH.qo {n0 k:Nat} {t:Fr} {m:Mem} {n:Nat} (id j de:Nat) {cs:List AV} (hn:decide (n0<=n)=true) (hid:ai m id=some cs) (hj:cs[j]?=some (.d .cE)) (l6:decide (id<n)=true):
 aH n0 k ⟨t,m,n⟩ ⟨t,an (an m n []) id (cs.set j (.sl n de 0 0)),n+1⟩:=by
 intro E hE a w nV;have l6:=of_decide_eq_true l6;have RM:E.n<=n:=hE▸of_decide_eq_true hn;obtain⟨c,eI,hc,hp⟩:=AG RM nV;have lG:ai (an m n []) id=some cs:=by rw[bh,if_neg (by omega)];exact hid
 have rz:∀b,gm c (an (an m n []) id (cs.set j (.sl n de 0 0))) b->gm c (an m n []) b:=λb h=>qd lG h;have x6:∀i,(ai (an (an m n []) id (cs.set j (.sl n de 0 0))) i).isSome->(ai (an m n []) i).isSome:=λi h=>by
  rw[bh]at h;split at h;·rename_i e;subst e;rw[lG];rfl
  ·exact h
 refine⟨c,⟨hc.defers,hc.size,hc.fr,⟨λi cells hi=>?_,λi i' b h1 h2=>hc.mr.inj i i' b (x6 i h1) (x6 i' h2),hc.mr.dm,hc.mr.wX⟩,hc.free⟩,⟨hp.step,λb hb=>hp.own b (rz b hb),λi hi hm=>hp.cI i hi (x6 i hm)⟩⟩;rw[bh]at hi;split at hi
 ·rename_i e;subst e;cases hi;have gy:∀{cs:List AV} {vs:List Value} {j:Nat},cs[j]?=some (.d .cE)->aU c w cs vs->aU c w (cs.set j (.sl n de 0 0)) vs:=λ{cs vs j} hj hr=>by
   obtain⟨v,hv,jH⟩:=hr.get hj;have h2:=hr.set j (x:=.sl n de 0 0) (v:=v) (by
    simp only[Rel,du]at jH⊢;exact .inl ⟨eI,trivial,trivial,none,jH⟩)
   rw[Np hv]at h2;exact h2
  rcases hc.mr.own id cs lG with⟨h0,rfl⟩|⟨b,arr,T,f,hb,gx,hw,hf,vs,rest,ha,hr⟩|⟨b,es,kv,hb,gx,hw,hf,rfl,hr⟩;·simp at hj
  ·exact .inr (.inl ⟨b,arr,T,f,hb,gx,hw,hf,vs,rest,ha,gy hj hr⟩)
  ·cases j with
   |zero=>simp at hj
   |succ j=>exact .inr (.inr ⟨b,es,_,hb,gx,hw,hf,rfl,gy (by simpa using hj) hr⟩)
 ·exact hc.mr.own i cells hi
theorem RV {P:Program} {n0 k:Nat} {t:Fr} {m:Mem} {n:Nat} {c:aG} {Q:Exit->St->Prop} (i:Nat) (hi:ah t i=.d (.sl 0 [])) (h:∀z,fN P n0 k c ⟨(i,.ui z)::t,m,n⟩ Q):
 fN P n0 k c ⟨t,m,n⟩ Q:=by
 intro code hc E hE a w nV;obtain⟨cx,ic,hp⟩:=nV;have h1:=ic.fr i;simp only[hi,Rel,du]at h1;obtain⟨ad,cap,hv,_⟩:=h1;refine h ad.isNone code hc E hE a w ⟨cx,⟨ic.defers,ic.size,λj=>?_,ic.mr,ic.free⟩,hp⟩;simp only[ah];split
 ·rename_i e;subst e;simp only[Rel];exact⟨ad,cap,hv,rfl⟩
 ·exact ic.fr j
def G4:List AV->Bool
 |.cu _::_=>true
 |_=>false
theorem aH.cut {n0 k:Nat} {t:Fr} {m:Mem} {n:Nat} (id q:Nat) {cs:List AV} (hid:ai m id=some cs) (hmp:G4 cs=false:=by rfl):aH n0 k ⟨t,m,n⟩ ⟨t,an m id (cs.take q),n⟩:=by
 rintro E hE a w ⟨c,hc,hp⟩;have x6:∀i,(ai (an m id (cs.take q)) i).isSome->(ai m i).isSome:=λi h=>by
  rw[bh]at h;split at h;·rename_i e;subst e;rw[hid];rfl
  ·exact h
 refine⟨c,⟨hc.defers,hc.size,hc.fr,⟨λi cells hi=>?_,λi i' b h1 h2=>hc.mr.inj i i' b (x6 i h1) (x6 i' h2),hc.mr.dm,hc.mr.wX⟩,hc.free⟩,⟨hp.step,λb hb=>hp.own b (qd hid hb),λi hi hm=>hp.cI i hi (x6 i hm)⟩⟩;rw[bh]at hi;split at hi
 ·rename_i e;subst e;cases hi;rcases hc.mr.own id cs hid with⟨h0,rfl⟩|⟨b,arr,T,f,hb,gx,hw,hf,vs,rest,ha,hr⟩|⟨b,es,kv,hb,gx,hw,hf,rfl,hr⟩;·exact .inl ⟨h0,by simp⟩
  ·exact .inr (.inl ⟨b,arr,T,f,hb,gx,hw,hf,vs.take q,vs.drop q++rest,by rw[ha,<-List.append_assoc,List.take_append_drop],hr.take q⟩)
  ·cases hmp
 ·exact hc.mr.own i cells hi
end Go.Jq
namespace Go.Jq
open Go
def Pure (P:Program) (f:Nat) (args:List AV) (v:AV):Prop:=bT P f args [] λr m'=>r=v/\m'=[]
mutual
theorem lM {π:Nat->Option Nat}:∀(x:AV),bE (λ_=>none) x=true->x.aC π=x
 |.d x,_=>rfl
 |.ptr id off,h=>by simp[bE]at h
 |.r8 id T,h=>by simp[bE]at h
 |.uh id T len,h=>by simp[bE]at h
 |.bj cs,_=>rfl
 |.sl id de off len,h=>by simp[bE]at h
 |.fn f caps,h=>by simp only[bE]at h;simp only[AV.aC,jV caps h]
 |.agg cs,h=>by simp only[bE]at h;simp only[AV.aC,jV cs h]
 |.cu cs,h=>by simp only[bE]at h;simp only[AV.aC,jV cs h]
 |.oZ id,h=>by simp[bE]at h
 |.ui _,_=>rfl
 |.any,_=>rfl
theorem jV {π:Nat->Option Nat}:∀(xs:List AV),bF (λ_=>none) xs=true->aj π xs=xs
 | [],_=>rfl
 |x::xs,h=>by
  simp only[bF,adn]at h;simp only[aj,lM x h.1,jV xs h.2]
end
mutual
theorem Nq {π Ni:Nat->Option Nat} (hp:∀i,(π i).isSome->(Ni i).isSome):∀(x:AV),bE π x=true->bE Ni x=true
 |.d _,_=>rfl
 |.ptr id _,h=>hp id h
 |.r8 id _,h=>hp id h
 |.uh id _ _,h=>hp id h
 |.bj _,_=>rfl
 |.sl id _ _ _,h=>hp id h
 |.fn _ caps,h=>ni hp caps h
 |.agg cs,h=>ni hp cs h
 |.cu cs,h=>ni hp cs h
 |.oZ id,h=>hp id h
 |.ui _,_=>rfl
 |.any,_=>rfl
theorem ni {π Ni:Nat->Option Nat} (hp:∀i,(π i).isSome->(Ni i).isSome):∀(xs:List AV),bF π xs=true->bF Ni xs=true
 | [],_=>rfl
 |x::xs,h=>by
  simp only[bF,adn]at h⊢;exact⟨Nq hp x h.1,ni hp xs h.2⟩
end
@[go_sem]theorem x7 (π:Nat->Option Nat) (l l':List AV):bF π (l++l')=(bF π l&&bF π l'):=by
  induction l with
  |nil=>rfl
  |cons x l ih=>simp only[List.cons_append,bF,ih,Bool.and_assoc]
section
variable{P:Program} {f:Nat} {args:List AV} {v:AV} {dst:Option Nat} {r:List bA} {K:St->Prop} {t:Fr} {m:Mem} {n:Nat}
theorem bt (ρ:Ren) (cU:List AV) (m0:Mem) {Q:AV->Mem->Prop} {nb:Nat} (h:bT P f cU m0 Q) (b8:bC nb ρ=true) (iv:aj (ag ρ) cU=args) (dh:bF (ag ρ) cU=true)
 (hh:handed ρ m m0) (ji:(ρ.all λp=>(ai m0 p.1).isSome)=true)
 (hk:∀r0 m',Q r0 m'->cz P r ⟨cK t dst (r0.aC (bX ρ m0 m' n)),bn ρ m0 m' n m,n+Nat.max (aw m0) (aw m')⟩ K):oS P f args dst r K t m n:=by
 subst iv;have ZC:∀j id,ag ρ j=some id->(ai m0 j).isSome:=λj id hj=>List.all_eq_true.1 ji _ (ix hj);refine⟨_,nf (n:=n) h ρ b8 dh hh ZC (F:=(n<=·)) (λ_ _ _ _ h _=>h),?_⟩;rintro v m' n' ⟨r0,m1,hQ,rfl,rfl,rfl⟩;exact hk r0 m1 hQ
theorem aF (h:Pure P f args v) (ha:bF (λ_=>none) args=true) (hv:bE (λ_=>none) v=true) (hk:cz P r ⟨cK t dst v,m,n⟩ K):oS P f args dst r K t m n:=by
 refine bt [] args [] (nb:=0) h rfl (jV _ ha) (ni (λ_ h=>by cases h) _ ha) trivial rfl ?_;rintro r0 m' ⟨rfl,rfl⟩;rw[lM _ hv];exact hk
def ID:DV->Bool
 |.sl _ _=>false
 |_=>true
mutual
def kU:AV->Bool
 |.d x=>ID x
 |.agg cs=>rC cs
 |.cu cs=>rC cs
 |.any=>true
 |_=>false
def rC:List AV->Bool
 | []=>true
 |x::xs=>kU x&&rC xs
end
theorem KS {I I':Nat->Prop} {w w':World} {x:DV} {v:Value} (hx:ID x=true) (h:du I w x v):du I' w' x v:=by
 cases x with
 |sl n cs=>simp[ID]at hx
 |_=>exact h
mutual
theorem x8 {c c':Ctx} {w w':World}:∀(x:AV) (v:Value),kU x=true->Rel c w x v->Rel c' w' x v
 |.d x,v,hx,h=>by simp only[Rel]at h⊢;exact KS hx h
 |.ptr _ _,_,hx,_=>by simp[kU]at hx
 |.r8 _ _,_,hx,_=>by simp[kU]at hx
 |.uh _ _ _,_,hx,_=>by simp[kU]at hx
 |.bj _,_,hx,_=>by simp[kU]at hx
 |.sl _ _ _ _,_,hx,_=>by simp[kU]at hx
 |.fn _ _,_,hx,_=>by simp[kU]at hx
 |.agg cs,v,hx,h=>by
  simp only[Rel,kU]at h hx⊢;obtain⟨vs,hv,hl⟩:=h;exact⟨vs,hv,uG cs vs hx hl⟩
 |.cu cs,v,hx,h=>by
  simp only[Rel,kU]at h hx⊢;obtain⟨vs,hv,hl⟩:=h;exact⟨vs,hv,uG cs vs hx hl⟩
 |.oZ _,_,hx,_=>by simp[kU]at hx
 |.ui _,_,hx,_=>by simp[kU]at hx
 |.any,_,_,_=>by simp[Rel]
theorem uG {c c':Ctx} {w w':World}:∀(xs:List AV) (vs:List Value),rC xs=true->aU c w xs vs->aU c' w' xs vs
 | [],_,_,h=>by simpa[aU]using h
 |x::xs,vs,hx,h=>by
  simp only[aU,rC,adn]at h hx⊢;obtain⟨v,mb,hv,h1,h2⟩:=h;exact⟨v,mb,hv,x8 x v hx.1 h1,uG xs mb hx.2 h2⟩
end
theorem G5 (Z:Zs) (cU:List AV) {Q:AV->Prop} (h:bT P f cU [] λr m'=>Q r/\m'=[]) (hz:bD m Z Z) (iv:dn (λ_=>none) (bI Z) args=cU) (hv:∀v,Q v->kU v=true)
 (hk:∀v,Q v->cz P r ⟨cK t dst v,m,n⟩ K):oS P f args dst r K t m n:=by
 refine⟨λv m' n'=>Q v/\m'=m/\n'=n,?_,λv m' n' h=>by obtain⟨h1,rfl,rfl⟩:=h;exact hk v h1⟩;intro c w vs hr hM fG;have AA:∀(c':Ctx) b,¬gm c' [] b:=λc' b ⟨id,h1,_⟩=>by simp[ai]at h1
 have Rf:∀id,(bI Z id).isSome->(ai m id).isSome:=λid h=>by
  obtain⟨ds,DB⟩:=adv.1 h;obtain⟨cs,b9,_⟩:=nZ hz id ds DB;rw[b9];rfl
 have Az:aU (c.jn [] Z) w cU vs:=by rw[<-iv];exact mj (π:=[]) (nb:=0) rfl hM hz _ _ hr
 have Wp:MR (c.jn [] Z) [] w:=⟨λid cells h=>by simp[ai]at h,λid j3 b h=>by simp[ai]at h,λb hb=>by
  rcases hb with h1|⟨id,h1,h2⟩;·exact hM.dm b h1
  ·exact hM.iK ⟨id,Rf id h1,gT.gl h2⟩,hM.lC (λ_ h=>.inl h) λ_ _=>rfl⟩
 refine(h (c.jn [] Z) w vs Az Wp λid _=>rfl).mono ?_;rintro e w' ⟨v,r0,m',c',rfl,⟨hQ,rfl⟩,jH,sb,hs,ho,D1,Wn⟩;have pD:∀b,b<w.heap.size->w'.heap[b]?=w.heap[b]?:=λb hb=>hs.cI b hb (AA _ b);have hl:ia c c w w':=⟨λ_ h=>h,λb hb=>pD b (hM.dm b hb),λ_ _=>rfl,hs.rows⟩;refine⟨v,r0,m,n,c,rfl,⟨hQ,rfl,rfl⟩,x8 _ _ (hv _ hQ) jH,⟨λid cells hid=>?_,hM.inj,λb hb=>Nat.lt_of_lt_of_le (hM.dm b hb) hs.size,hM.lC (λ_ h=>h) λb hb=>pD b (hM.dm b hb)⟩,
  ⟨hs.os,hs.tape,hs.output,hs.size,λb hb _=>pD b hb,hs.rows,λ_ h=>h,λb hb=>.inl hb⟩,λb hb=>.inl hb,λ_ _=>rfl,λ_ _ h=>h,acV _⟩
 have hS:(ai m id).isSome:=by rw[hid];rfl
 exact(hM.own id cells hid).later hl λb hb=>⟨pD b (hM.iK ⟨id,hS,hb⟩),λhi=>hM.sep hi ⟨id,hS,hb⟩⟩
def dK (P:Program) (dst:Option Nat) (op:im) (r:List bA) (acc:List fH) (ms:List Nat) (K:St->Prop) (t:Fr) (m:Mem) (n:Nat):Prop:=
 rb P dst op ⟨t,m,n⟩ λS' f=>eW P r (f::acc) ms S' K
def cO (P:Program) (dst:Option Nat) (F:List Nat) (r:List bA) (acc:List fH) (ms:List Nat) (K:St->Prop) (t:Fr) (m:Mem) (n:Nat):Option (AV×eX)->Prop
 |some (v,e)=>eW P r (⟨mC n e,F⟩::acc) ms ⟨cK t dst v,e.mem m n,n+1⟩ K
 |none=>False
def lN (P:Program) (dst:Option Nat) (op:im) (r:List bA) (acc:List fH) (ms:List Nat) (K:St->Prop) (t:Fr) (m:Mem) (n:Nat) (want:Bool):AV->Prop
 |.d (.bool b)=>if b=want then dK P dst op r acc ms K t m n else eW P r (⟨[],[]⟩::acc) ms ⟨cK t dst (.cu []),m,n+1⟩ K
 |.cu _=>eW P r (⟨[],[]⟩::acc) ms ⟨cK t dst (.cu []),m,n+1⟩ K
 |_=>False
def mD (P:Program) (f:Nat) (args:List AV) (dst:Option Nat) (r:List bA) (acc:List fH) (ms:List Nat) (K:St->Prop) (t:Fr) (m:Mem) (n:Nat):Prop:=
 ra P f args m n λv m n F=>eW P r (F::acc) ms ⟨cK t dst v,m,n⟩ K
def IE (P:Program) (args:List AV) (dst:Option Nat) (r:List bA) (acc:List fH) (ms:List Nat) (K:St->Prop) (t:Fr) (m:Mem) (n:Nat):AV->Prop
 |.fn f caps=>jo P f=true/\mD P f (args++caps) dst r acc ms K t m n
 |_=>False
variable{acc:List fH} {ms:List Nat} {op:im}
@[go_sem]theorem X8 {S:St}:eW P [] acc ms S K=(gY [] acc.reverse (mB [] ms)=true/\K S):=rfl
@[go_sem]theorem WE:eW P (⟨dst,op,none⟩::r) acc ms ⟨t,m,n⟩ K=dK P dst op r acc ms K t m n:=by simp only[eW,dK]
@[go_sem]theorem TQ {g:Nat} {want:Bool}:eW P (⟨dst,op,some (g,want)⟩::r) acc ms ⟨t,m,n⟩ K=lN P dst op r acc ms K t m n want (ah t g):=by
  simp only[eW];generalize ah t g=x;cases x with
  |d x=>cases x<;>simp only[lN,dK]
  |_=>simp only[lN]
@[go_sem]theorem X9:lN P dst op r acc ms K t m n true (.d (.bool true))=dK P dst op r acc ms K t m n:=rfl
@[go_sem]theorem Ya:lN P dst op r acc ms K t m n false (.d (.bool false))=dK P dst op r acc ms K t m n:=rfl
@[go_sem]theorem Yb:lN P dst op r acc ms K t m n true (.d (.bool false))=eW P r (⟨[],[]⟩::acc) ms ⟨cK t dst (.cu []),m,n+1⟩ K:=rfl
@[go_sem]theorem Yc:lN P dst op r acc ms K t m n false (.d (.bool true))=eW P r (⟨[],[]⟩::acc) ms ⟨cK t dst (.cu []),m,n+1⟩ K:=rfl
@[go_sem]theorem WG {want:Bool} {cs:List AV}:lN P dst op r acc ms K t m n want (.cu cs)=eW P r (⟨[],[]⟩::acc) ms ⟨cK t dst (.cu []),m,n+1⟩ K:=rfl
theorem bZ (h:nU op=false):dK P dst op r acc ms K t m n=cO P dst (cV t op) r acc ms K t m n (aW op t m n):=by
 cases op<;>first
  |(simp[nU]at h;done)
  |(simp only[dK,rb]
    generalize aW _ t m n=x;cases x with
    |none=>rfl
    |some p=>obtain⟨v,e⟩:=p;rfl)
@[go_sem]theorem acG {x:cR}:dK P dst (.mv x) r acc ms K t m n=cO P dst (cV t (.mv x)) r acc ms K t m n (aW (.mv x) t m n):=bZ rfl
@[go_sem]theorem aa4 {a b c:cR}:dK P dst (.pick a b c) r acc ms K t m n=cO P dst (cV t (.pick a b c)) r acc ms K t m n (aW (.pick a b c) t m n):=bZ rfl
@[go_sem]theorem ZD {z:List AV}:dK P dst (.alloc z) r acc ms K t m n=cO P dst (cV t (.alloc z)) r acc ms K t m n (aW (.alloc z) t m n):=bZ rfl
@[go_sem]theorem abN {x:cR}:dK P dst (.box x) r acc ms K t m n=cO P dst (cV t (.box x)) r acc ms K t m n (aW (.box x) t m n):=bZ rfl
@[go_sem]theorem ZE {z:List AV} {p:List (Nat×Nat×cR)}:dK P dst (.build z p) r acc ms K t m n=cO P dst (cV t (.build z p)) r acc ms K t m n (aW (.build z p) t m n):=bZ rfl
@[go_sem]theorem Yd {a b:Nat} {z:List AV} {p:List (Nat×Nat×cR)}:dK P dst (.dp a b z p) r acc ms K t m n=cO P dst (cV t (.dp a b z p)) r acc ms K t m n (aW (.dp a b z p) t m n):=bZ rfl
@[go_sem]theorem aa5 {k:Option Nat} {x:cR}:dK P dst (.load k x) r acc ms K t m n=cO P dst (cV t (.load k x)) r acc ms K t m n (aW (.load k x) t m n):=bZ rfl
@[go_sem]theorem ZF {k:Nat} {x y:cR}:dK P dst (.store k x y) r acc ms K t m n=cO P dst (cV t (.store k x y)) r acc ms K t m n (aW (.store k x y) t m n):=bZ rfl
@[go_sem]theorem ZG {x:cR}:dK P dst (.gu x) r acc ms K t m n=cO P dst (cV t (.gu x)) r acc ms K t m n (aW (.gu x) t m n):=bZ rfl
@[go_sem]theorem abO {o:BinOp} {x y:cR}:dK P dst (.bin o x y) r acc ms K t m n=cO P dst (cV t (.bin o x y)) r acc ms K t m n (aW (.bin o x y) t m n):=bZ rfl
@[go_sem]theorem abP {o:Bool} {x y:cR}:dK P dst (.Q1 o x y) r acc ms K t m n=cO P dst (cV t (.Q1 o x y)) r acc ms K t m n (aW (.Q1 o x y) t m n):=bZ rfl
@[go_sem]theorem abQ {o:Bool} {x y:cR}:dK P dst (.Mw o x y) r acc ms K t m n=cO P dst (cV t (.Mw o x y)) r acc ms K t m n (aW (.Mw o x y) t m n):=bZ rfl
@[go_sem]theorem abR {o:Bool} {x y:cR}:dK P dst (.Q3 o x y) r acc ms K t m n=cO P dst (cV t (.Q3 o x y)) r acc ms K t m n (aW (.Q3 o x y) t m n):=bZ rfl
@[go_sem]theorem abS {k:List Nat} {o:Bool} {x y:cR}:dK P dst (.eqs k o x y) r acc ms K t m n=cO P dst (cV t (.eqs k o x y)) r acc ms K t m n (aW (.eqs k o x y) t m n):=bZ rfl
@[go_sem]theorem acH {o:UnOp} {x:cR}:dK P dst (.un o x) r acc ms K t m n=cO P dst (cV t (.un o x)) r acc ms K t m n (aW (.un o x) t m n):=bZ rfl
@[go_sem]theorem abT {k:IntKind} {x:cR}:dK P dst (.Gz k x) r acc ms K t m n=cO P dst (cV t (.Gz k x)) r acc ms K t m n (aW (.Gz k x) t m n):=bZ rfl
@[go_sem]theorem Ye {x:cR}:dK P dst (.mA x) r acc ms K t m n=cO P dst (cV t (.mA x)) r acc ms K t m n (aW (.mA x) t m n):=bZ rfl
@[go_sem]theorem aa6 {x:cR}:dK P dst (.xy x) r acc ms K t m n=cO P dst (cV t (.xy x)) r acc ms K t m n (aW (.xy x) t m n):=bZ rfl
@[go_sem]theorem aa7 {x:cR}:dK P dst (.BA x) r acc ms K t m n=cO P dst (cV t (.BA x)) r acc ms K t m n (aW (.BA x) t m n):=bZ rfl
@[go_sem]theorem aa8 {x:cR}:dK P dst (.xz x) r acc ms K t m n=cO P dst (cV t (.xz x)) r acc ms K t m n (aW (.xz x) t m n):=bZ rfl
@[go_sem]theorem aa9 {f:Nat} {c:List cR}:dK P dst (.o7 f c) r acc ms K t m n=cO P dst (cV t (.o7 f c)) r acc ms K t m n (aW (.o7 f c) t m n):=bZ rfl
@[go_sem]theorem aba {a b:Nat} {z:List AV} {x y:cR}:dK P dst (.zC a b z x y) r acc ms K t m n=cO P dst (cV t (.zC a b z x y)) r acc ms K t m n (aW (.zC a b z x y) t m n):=bZ rfl
@[go_sem]theorem abb {x:cR} {l h:Option cR}:dK P dst (.zD x l h) r acc ms K t m n=cO P dst (cV t (.zD x l h)) r acc ms K t m n (aW (.zD x l h) t m n):=bZ rfl
@[go_sem]theorem abc {a:Nat} {x:cR} {l h:Option cR}:dK P dst (.rm a x l h) r acc ms K t m n=cO P dst (cV t (.rm a x l h)) r acc ms K t m n (aW (.rm a x l h) t m n):=bZ rfl
@[go_sem]theorem ZH {x:cR} {o:Nat}:dK P dst (.c7 x o) r acc ms K t m n=cO P dst (cV t (.c7 x o)) r acc ms K t m n (aW (.c7 x o) t m n):=bZ rfl
@[go_sem]theorem abU {x:cR} {o:Nat} {k:Option Nat}:dK P dst (.Rs x o k) r acc ms K t m n=cO P dst (cV t (.Rs x o k)) r acc ms K t m n (aW (.Rs x o k) t m n):=bZ rfl
@[go_sem]theorem ZI {e:Nat} {k:Option Nat} {x i:cR}:dK P dst (.bS e k x i) r acc ms K t m n=cO P dst (cV t (.bS e k x i)) r acc ms K t m n (aW (.bS e k x i) t m n):=bZ rfl
@[go_sem]theorem abd {x i:cR}:dK P dst (.idxs x i) r acc ms K t m n=cO P dst (cV t (.idxs x i)) r acc ms K t m n (aW (.idxs x i) t m n):=bZ rfl
@[go_sem]theorem abe {a e:Nat} {k:Option Nat} {x i:cR}:dK P dst (.BB a e k x i) r acc ms K t m n=cO P dst (cV t (.BB a e k x i)) r acc ms K t m n (aW (.BB a e k x i) t m n):=bZ rfl
@[go_sem]theorem abV {x:cR} {i:Nat}:dK P dst (.ext x i) r acc ms K t m n=cO P dst (cV t (.ext x i)) r acc ms K t m n (aW (.ext x i) t m n):=bZ rfl
@[go_sem]theorem abf {x:cR}:dK P dst (.lens x) r acc ms K t m n=cO P dst (cV t (.lens x)) r acc ms K t m n (aW (.lens x) t m n):=bZ rfl
@[go_sem]theorem abg {x:cR}:dK P dst (.xA x) r acc ms K t m n=cO P dst (cV t (.xA x)) r acc ms K t m n (aW (.xA x) t m n):=bZ rfl
@[go_sem]theorem abh {x y:cR}:dK P dst (.uu x y) r acc ms K t m n=cO P dst (cV t (.uu x y)) r acc ms K t m n (aW (.uu x y) t m n):=bZ rfl
@[go_sem]theorem abj {x y:cR}:dK P dst (.uv x y) r acc ms K t m n=cO P dst (cV t (.uv x y)) r acc ms K t m n (aW (.uv x y) t m n):=bZ rfl
@[go_sem]theorem abW {k:jL} {xs:List cR}:dK P dst (.iW k xs) r acc ms K t m n=cO P dst (cV t (.iW k xs)) r acc ms K t m n (kg k (xs.map (ev t)) m n):=bZ rfl
@[go_sem]theorem abX {a b e:Nat} {x y:cR}:dK P dst (.app a b e x y) r acc ms K t m n=cO P dst (cV t (.app a b e x y)) r acc ms K t m n (aW (.app a b e x y) t m n):=bZ rfl
@[go_sem]theorem TR {F:List Nat} {v:AV} {e:eX}:cO P dst F r acc ms K t m n (some (v,e))=eW P r (⟨mC n e,F⟩::acc) ms ⟨cK t dst v,e.mem m n,n+1⟩ K:=rfl
@[go_sem]theorem TS {F:List Nat}:cO P dst F r acc ms K t m n none=False:=rfl
@[go_sem]theorem ZJ {f:Nat} {args:List cR}:dK P dst (.bW f args) r acc ms K t m n=mD P f (args.map (ev t)) dst r acc ms K t m n:=rfl
@[go_sem]theorem ZK {x:cR} {args:List cR}:dK P dst (.fb x args) r acc ms K t m n=IE P (args.map (ev t)) dst r acc ms K t m n (ev t x):=by
  unfold dK;simp only[rb];generalize ev t x=y;cases y<;>rfl
@[go_sem]theorem WH {f:Nat} {caps args:List AV}:IE P args dst r acc ms K t m n (.fn f caps)=(jo P f=true/\mD P f (args++caps) dst r acc ms K t m n):=rfl
theorem bY (h:Pure P f args v) (ha:bF (λ_=>none) args=true) (hv:bE (λ_=>none) v=true) (hk:eW P r (⟨[],[]⟩::acc) ms ⟨cK t dst v,m,n⟩ K):mD P f args dst r acc ms K t m n:=by
 unfold mD ra;refine Or.inl ⟨[],[],args,v,[],0,rfl,(jV _ ha).symm,ni (λ_ h=>by cases h) _ ha,trivial,λ_ _ h=>by simp[ag]at h,h,?_⟩;rw[lM _ hv];exact hk
theorem BU (ρ:Ren) (cU:List AV) (m0:Mem) {r0:AV} {nb:Nat} (h:bT P f cU m0 λr m'=>r=r0/\m'=m0) (b8:bC nb ρ=true) (iv:aj (ag ρ) cU=args) (dh:bF (ag ρ) cU=true)
 (hh:handed ρ m m0) (ji:(ρ.all λp=>(ai m0 p.1).isSome)=true) (Az:∀π,r0.aC π=r0)
 (hk:eW P r (⟨[],ρ.map (·.2)⟩::acc) ms ⟨cK t dst r0,m,n+Nat.max (aw m0) (aw m0)⟩ K):mD P f args dst r acc ms K t m n:=by
 unfold mD ra;exact Or.inr ⟨ρ,m0,cU,r0,nb,b8,iv.symm,dh,hh,λj id hj=>List.all_eq_true.1 ji _ (ix hj),h,Az,hk⟩
end
attribute [go_sem] cV mC lf
end Go.Jq
namespace Go.Jq
open Go
def TT (de:Nat) (k:Option Nat):aG:=(.seq (.region false [⟨(some 4),.mv (.c (.d (.int .i64 0))),none⟩] []) (.seq (.seq (.region false [⟨(some 6),.mv (.t 0),none⟩,⟨(some 7),.xA (.t 6),none⟩,⟨(some 8),.mv (.c (.d (.int .i64 0))),none⟩] []) (.block 0 (.loop (.seq (.region false [⟨(some 9),.bin .lss (.t 8) (.t 7),none⟩] []) (.seq (.cond (.t 9) .skip (.exit 0)) (.seq (.block 1 (.seq (.region false [⟨(some 10),.mv (.t 8),none⟩,⟨(some 5),.mv (.t 10),none⟩] []) (.seq (.region false [⟨(some 11),.mv (.t 1),none⟩,⟨(some 12),.mv (.t 0),none⟩,⟨(some 13),.mv (.t 5),none⟩,⟨(some 14),.bS de none (.t 12) (.t 13),none⟩,⟨(some 15),.load k (.t 14),none⟩,⟨(some 16),.fb (.t 11) [(.t 15)],none⟩] []) (.cond (.t 16) (.seq (.region false [⟨(some 17),.mv (.t 5),none⟩,⟨(some 4),.mv (.t 17),none⟩] []) .ret) .skip)))) (.region false [⟨(some 18),.bin .add (.t 8) (.c (.d (.int .i64 1))),none⟩,⟨(some 8),.mv (.t 18),none⟩] []))))))) (.seq (.region false [⟨(some 4),.mv (.c (.d (.int .i64 (-1)))),none⟩] []) .ret)))
def fI (p:Nat->Bool):Nat->Nat->Int
 |0,_=>-1
 |n+1,i=>if p i=true then(i:Int)else fI p n (i+1)
theorem vL (p:Nat->Bool):∀(n i:Nat),decide (0<=fI p n i)=(List.range' i n).any p
 |0,i=>by simp[fI]
 |n+1,i=>by
  have ih:=vL p n (i+1);simp only[fI,List.range'_succ,List.any_cons];by_cases h:p i=true;·simp[h]
  ·simp[h,ih]
structure SlE (de:Nat) (k:Option Nat) (X:DV) (n:Nat) (Yf:Nat->AV):Prop where
 len:ir (.d X)=some n
 iW:n<=9223372036854775807
 get:∀i,i<n->∃cs,X=.sl n cs/\i*de<cs.length/\aP k ((cs.drop (i*de)).map .d)=some (Yf i)
theorem ja {P:Program} {f kk:Nat} {fn:Func} (hf:P.funcs[f]?=some fn) {de:Nat} {k:Option Nat} (hc:fn.body.bind (ct P fn.ntmps)=some (TT de k)) (hk:fn.ntmps=kk) (Wg:decide (2<=kk)=true) (GR:fn.results=#[.tmp 4])
 {X:DV} {len:Nat} {Yf:Nat->AV} (hx:SlE de k X len Yf) {gf:Nat} {caps:List AV} (hg:jo P gf=true) (fE:bF (λ_=>none) caps=true) (he:∀i,i<len->bE (λ_=>none) (Yf i)=true) {p:Nat->Bool}
 (hp:∀i,i<len->Pure P gf (Yf i::caps) (.d (.bool (p i)))):Pure P f [.d X,.fn gf caps] (.d (.int .i64 (fI p len 0))):=by
 refine ay hf hc hk GR Wg ?_;have ic:∀π,aj π caps=caps:=λπ=>jV _ fE;have fw:=hx.iW;unfold TT;refine aa λK hK=>af rfl ?_;simp only[go_sem];refine hK _ ?_;clear hK K;refine aa λK hK=>?_;refine aa λK' hK'=>af rfl ?_;simp only[go_sem,↓reduceIte,Nat.reduceEqDiff,hx.len];refine hK' _ ?_;clear hK' K';refine aA ?_;refine ax (S':=⟨[(0,.d X),(1,.fn gf caps),(7,.d (.int .i64 len)),(8,.d (.int .i64 (0:Nat)))],[],0⟩) (aH.cN [] ⟨?_,trivial,rfl,rfl⟩) ?_;·simp[bm,ah,AV.aC,ic]
 refine xV (λS=>∃i,i<=len/\fI p (len-i) i=fI p len 0/\S=⟨[(0,.d X),(1,.fn gf caps),(7,.d (.int .i64 len)),(8,.d (.int .i64 (i:Nat)))],[],0⟩)
  (λS=>match ah S.t 8 with
   |.d (.int _ i)=>len-i.toNat
   |_=>0) ⟨0,Nat.zero_le _,rfl,rfl⟩ ?_
 rintro S ⟨i,hi,Gn,rfl⟩;refine aa λK1 a8=>af rfl ?_;simp only[go_sem,↓reduceIte,Nat.reduceEqDiff];refine a8 _ ?_;clear a8 K1;by_cases bd:i<len
 ·have aQ:(i:Int)<len:=by omega
  obtain⟨cs,hX,b9,vM⟩:=hx.get i bd;refine aa λK1 a8=>bP true (by simp[ev,ah,aQ]) (λ_=>au ?_) (λh=>nomatch h);refine a8 _ ?_;clear a8 K1;refine aa λK1 a8=>aA ?_;refine aa λK2 fx=>af rfl ?_;simp only[go_sem,↓reduceIte,Nat.reduceEqDiff];refine fx _ ?_;clear fx K2;refine aa λK2 fx=>af rfl ?_;simp only[go_sem,↓reduceIte,Nat.reduceEqDiff,hX,aQ,acW,b9,acX,and_self,vM,true_and];refine⟨hg,?_⟩;refine aF (args:=Yf i::caps) (hp i bd) (by simp only[bF,he i bd,fE,adg]) rfl ?_;simp only[go_sem];refine fx _ ?_;clear fx K2;by_cases hpi:p i=true
  ·refine bP true (by simp[ev,ah,hpi]) (λ_=>?_) (λh=>nomatch h);refine aa λK2 fx=>af rfl ?_;simp only[go_sem,↓reduceIte,Nat.reduceEqDiff];refine fx _ ?_;clear fx K2;refine ak ?_;simp only[go_sem];refine aD _ rfl rfl ⟨?_,rfl⟩;have:len-i=(len-i-1)+1:=by omega
   rw[this]at Gn;simp only[fI,hpi,if_true]at Gn;simp only[ah,↓reduceIte,<-Gn]
  ·refine bP false (by simp[ev,ah,hpi]) (λh=>nomatch h) (λ_=>au ?_);refine a8 _ ?_;clear a8 K1;refine af rfl ?_;simp only[go_sem,↓reduceIte,Nat.reduceEqDiff];have hw:ac9.wrap ((i:Int)+1)=((i+1:Nat):Int):=by rw[wrap_i64 (by omega) (by omega)];rfl
   refine⟨⟨[(0,.d X),(1,.fn gf caps),(7,.d (.int .i64 len)),(8,.d (.int .i64 (i+1:Nat)))],[],0⟩,aH.cN [] ⟨?_,trivial,rfl,rfl⟩,⟨i+1,bd,?_,rfl⟩,?_⟩;·simp[bm,ah,AV.aC,ic,hw,hX]
   ·have:len-i=(len-(i+1))+1:=by omega
    rw[this]at Gn;simp only[fI,hpi]at Gn;exact Gn
   ·simp only[ah,↓reduceIte,Nat.reduceEqDiff,acW];omega
 ·have aQ:¬(i:Int)<len:=by omega
  refine aa λK1 a8=>bP false (by simp[ev,ah,aQ]) (λh=>nomatch h) (λ_=>aZ ?_);show K _;refine hK _ ?_;refine aa λK1 a8=>af rfl ?_;simp only[go_sem,↓reduceIte,Nat.reduceEqDiff];refine a8 _ ?_;clear a8 K1;refine ak ?_;simp only[go_sem];refine aD _ rfl rfl ⟨?_,rfl⟩;have:len-i=0:=by omega
  rw[this]at Gn;simp only[ah,↓reduceIte,<-Gn,fI]
def Nr (idx:Nat):aG:=(.seq (.region false [⟨(some 4),.mv (.c (.d (.bool false))),none⟩] []) (.seq (.region false [⟨(some 5),.mv (.t 0),none⟩,⟨(some 6),.mv (.t 1),none⟩,⟨(some 7),.bW idx [(.t 5),(.t 6)],none⟩,⟨(some 8),.bin .geq (.t 7) (.c (.d (.int .i64 0))),none⟩,⟨(some 4),.mv (.t 8),none⟩] []) .ret))
theorem fV {P:Program} {f kk idx:Nat} {fn:Func} (hf:P.funcs[f]?=some fn) (hc:fn.body.bind (ct P fn.ntmps)=some (Nr idx)) (hk:fn.ntmps=kk) (Wg:decide (2<=kk)=true) (GR:fn.results=#[.tmp 4])
 {X:DV} {len:Nat} {gf:Nat} {caps:List AV} (fE:bF (λ_=>none) caps=true) {p:Nat->Bool} (hp:Pure P idx [.d X,.fn gf caps] (.d (.int .i64 (fI p len 0)))):
 Pure P f [.d X,.fn gf caps] (.d (.bool ((List.range' 0 len).any p))):=by
 refine ay hf hc hk GR Wg ?_;unfold Nr;refine aa λK hK=>af rfl ?_;simp only[go_sem];refine hK _ ?_;clear hK K;refine aa λK hK=>af rfl ?_;simp only[go_sem,↓reduceIte,Nat.reduceEqDiff];refine aF hp (by simp only[bF,bE,fE,adg]) rfl ?_;simp only[go_sem,↓reduceIte,Nat.reduceEqDiff];refine hK _ ?_;clear hK K;refine ak (aD _ rfl rfl ⟨?_,rfl⟩);simp only[ah,↓reduceIte,vL]
end Go.Jq
namespace Go.Jq
open Go
theorem zM {P:Program} {f:Nat} {args:List AV} {v:AV}
 (h:∀(c:Ctx) (w:World) (vs:List Value),aU c w args vs->Calls P f vs.toArray w λe w'=>∃u,e=.returned u/\w'=w/\Rel c w v u):Pure P f args v:=by
 intro c w vs hr hM fG;refine(h c w vs hr).mono ?_;rintro e w' ⟨u,rfl,rfl,hu⟩;exact⟨u,v,[],c,rfl,⟨rfl,rfl⟩,hu,hM,Step.refl _ _ _,λb hb=>.inl hb,λid _ h=>⟨h,rfl⟩,λid hid=>fG id (Nat.le_trans (Nat.zero_le _) hid)⟩
theorem zO {P:Program} {f:Nat} {args:List AV} {v:AV}
 (h:∀(c:Ctx) (w:World) (vs:List Value),aU c w args vs->MR c [] w->Calls P f vs.toArray w λe w'=>∃u,e=.returned u/\w'.os=w.os/\w'.tape=w.tape/\w'.output=w.output/\w.heap.size<=w'.heap.size/\
  (∀k,k<w.heap.size->w'.heap[k]?=w.heap[k]?)/\Rel c w' v u):Pure P f args v:=by
 intro c w vs hr hM fG;refine(h c w vs hr hM).mono ?_;rintro e w' ⟨u,rfl,h1,h2,h3,h4,h5,hu⟩;have lH:∀b n,dc w b=some n->dc w' b=some n:=λb n hn=>(fT (h5 b (rq hn))).trans hn;have hl:ia c c w w':=⟨λ_ h=>h,λb hb=>h5 b (hM.dm b hb),λ_ _=>rfl,lH⟩;refine⟨u,v,[],c,rfl,⟨rfl,rfl⟩,hu,⟨λid cells hi=>by simp[ai]at hi,λid j3 b hi=>by simp[ai]at hi,λb hb=>Nat.lt_of_lt_of_le (hM.dm b hb) h4,hM.lC hl.dm hl.same⟩,
  ⟨h1,h2,h3,h4,λk hk _=>h5 k hk,lH,λ_ h=>h,λ_ h=>.inl h⟩,λb hb=>.inl hb,λid _ h=>⟨h,rfl⟩,λid hid=>fG id (Nat.le_trans (Nat.zero_le _) hid)⟩
def dM {α:Type} (enc:α->List DV) (l:List α) (X:DV):Prop:=l.length<=9223372036854775807/\((X=.cE/\l=[])\/X=.sl l.length (l.flatMap enc))
theorem x9 {α:Type} {enc:α->List DV} {k:Nat} (hk:∀a,(enc a).length=k):∀(l:List α) (i:Nat) (a:α),l[i]?=some a->
 ((l.flatMap enc).drop (i*k)).take k=enc a/\i*k+k<=(l.flatMap enc).length
 | [],i,a,h=>by simp at h
 |x::l,0,a,h=>by
  simp at h;subst h;refine⟨?_,?_⟩;·rw[Nat.zero_mul,ac3,adr,List.take_append_of_le_length (by rw[hk];exact acV _),ac8 (by rw[hk];exact acV _)]
  ·simp[adr,hk]
 |x::l,i+1,a,h=>by
  obtain⟨h1,h2⟩:=x9 hk l i a (by simpa using h);refine⟨?_,?_⟩
  ·rw[<-h1,adr,List.drop_append];have e1:(enc x).drop ((i+1)*k)=[]:=List.drop_eq_nil_of_le (by rw[hk,Nat.succ_mul];omega);have e2:(i+1)*k-(enc x).length=i*k:=by rw[hk,Nat.succ_mul];omega
   rw[e1,e2,adF]
  ·rw[adr,adk,hk,Nat.succ_mul];omega
def uH {α:Type} (enc:α->List DV) (l:List α) (i:Nat):AV:=match l[i]?with
 |some a=>.agg ((enc a).map .d)
 |none=>.any
theorem qp {α:Type} {enc:α->List DV} {k:Nat} (hk:∀a,(enc a).length=k) (KM:0<k) {l:List α} {X:DV} (h:dM enc l X):SlE k (some k) X l.length (uH enc l):=by
 obtain⟨hb,h⟩:=h;refine⟨?_,hb,λi hi=>?_⟩;·rcases h with⟨rfl,rfl⟩|rfl<;>rfl
 ·rcases h with⟨rfl,rfl⟩|rfl;·simp at hi
  ·have qM:l[i]?=some l[i]:=by simp[hi]
   obtain⟨h1,h2⟩:=x9 hk l i _ qM;refine⟨_,rfl,by omega,?_⟩;simp only[aP,uH,qM];rw[if_pos (by rw[acY,List.length_drop];omega),<-List.map_take,h1]
def Eg (l:List DV) (i:Nat):AV:=match l[i]?with
 |some d=>.d d
 |none=>.any
theorem BV {ds:List DV} {X:DV} (h:dM (λd=>[d]) ds X):SlE 1 none X ds.length (Eg ds):=by
 obtain⟨hb,h⟩:=h;refine⟨?_,hb,λi hi=>?_⟩;·rcases h with⟨rfl,rfl⟩|rfl<;>rfl
 ·rcases h with⟨rfl,rfl⟩|rfl;·simp at hi
  ·have qM:ds[i]?=some ds[i]:=by simp[hi]
   have WI:ds.flatMap (λd=>[d])=ds:=by simp
   refine⟨_,rfl,by rw[WI];omega,?_⟩;rw[WI];simp only[aP,Eg,qM,Nat.mul_one,List.map_drop,List.getElem?_drop,Nat.add_zero,List.getElem?_map,ady]
def re {α:Type} (enc:α->List DV):List (List α)->List DV->Prop
 | [],[]=>True
 |l::ls,d::ds=>dM enc l d/\re enc ls ds
 |_,_=>False
theorem re.length {α:Type} {enc:α->List DV}:∀{ls:List (List α)} {ds:List DV},re enc ls ds->ds.length=ls.length
 | [],[],_=>rfl
 |_::_,_::_,h=>by simp[re.length h.2]
 | [],_::_,h=>h.elim
 |_::_,[],h=>h.elim
theorem re.get {α:Type} {enc:α->List DV}:∀{ls:List (List α)} {ds:List DV},re enc ls ds->∀(i:Nat) (l:List α),ls[i]?=some l->∃d,ds[i]?=some d/\dM enc l d
 | [],[],_,i,l,h=>by simp at h
 |x::ls,d::ds,h,i,l,hi=>by
  cases i with
  |zero=>simp at hi;subst hi;exact⟨d,rfl,h.1⟩
  |succ i=>simpa using re.get h.2 i l (by simpa using hi)
 | [],_::_,h,_,_,_=>h.elim
 |_::_,[],h,_,_,_=>h.elim
def cP {α:Type} (enc:α->List DV) (ls:List (List α)) (X:DV):Prop:=∃ds,dM (λd=>[d]) ds X/\re enc ls ds
theorem n4 {α:Type} (q:α->Bool) (l:List α):(List.range' 0 l.length).any (λi=>(l[i]?.map q).getD false)=l.any q:=by
 rw[Bool.eq_iff_iff];simp only[List.any_eq_true];constructor
 ·rintro⟨i,hi,h⟩;cases hg:l[i]?with
  |none=>simp[hg]at h
  |some a=>exact⟨a,List.mem_of_getElem? hg,by simpa[hg]using h⟩
 ·rintro⟨a,ha,h⟩;obtain⟨i,hi⟩:=List.mem_iff_getElem?.1 ha;exact⟨i,by simp[List.mem_range'_1,(List.getElem?_eq_some_iff.1 hi).1],by simp[hi,h]⟩
theorem lO:∀(vs cs:List AV) (o:Nat),o+vs.length<=cs.length->putAt cs o vs=cs.take o++vs++cs.drop (o+vs.length)
 | [],cs,o,_=>by simp[putAt]
 |v::vs,cs,o,h=>by
  simp only[ads]at h;have ih:=lO vs (cs.set o v) (o+1) (by simp;omega);have e1:(cs.set o v).take (o+1)=cs.take o++[v]:=by
   rw[adG,List.take_set_of_le (acV o)];have:o<cs.length:=by omega
   simp[this]
  have e2:(cs.set o v).drop (o+1+vs.length)=cs.drop (o+(vs.length+1)):=by
   rw[List.drop_set_of_lt (by omega)]
   congr 1;omega
  rw[putAt,ih,e1,e2];simp
theorem gZ {vs cs:List AV} (h:vs.length=cs.length):putAt cs 0 vs=vs:=by
 rw[lO vs cs 0 (by omega)];simp[h]
theorem eo (l:List DV):(l.map AV.d).all j9=true:=by
 simp[j9]
theorem vN (x:Int) (m:Nat) (hm:m<=9223372036854775807):∃q:Nat,q<=m/\bits .and .i64 x (m:Int)=(q:Int):=by
 refine⟨(BitVec.ofInt 64 x).toNat&&&m,Nat.and_le_right,?_⟩;have h:(BitVec.ofInt 64 (m:Int)).toNat=m:=by simp[BitVec.ofInt_natCast];omega
 have h2:((BitVec.ofInt 64 x).toNat&&&m)<=m:=Nat.and_le_right;have e:bits .and .i64 x (m:Int)=ac9.wrap (((BitVec.ofInt 64 x)&&&(BitVec.ofInt 64 (m:Int))).toNat:Nat):=rfl;rw[e,BitVec.toNat_and,h];exact wrap_i64 (by omega) (by omega)
def fJ (l:List Int) (X:DV):Prop:=dM (λd=>[d]) (l.map (DV.int .i64)) X
def aR (s:List UInt8):DV:=.sl s.length (s.map λb=>.int .u8 b.toNat)
end Go.Jq
namespace Go.Jq
open Go
attribute [go_sem] List.drop List.getElem?_cons_zero List.getElem?_cons_succ Bool.true_eq_false ac5 decide_true decide_false ads adz List.all_cons List.all_nil adg List.set_cons_zero List.set_cons_succ List.take acY List.cons_append adF acV Nat.min_def Bool.not_true Bool.not_false Bool.true_beq Bool.false_beq beq_self_eq_true Bool.true_bne Bool.false_bne bne_self_eq_false not_true_eq_false not_false_eq_true
theorem aY {P:Program} {f:Nat} {args:List AV} {v:AV} {dst:Option Nat} {r:List bA} {K:St->Prop} {t:Fr} {m:Mem} {n:Nat} (h:Pure P f args v) (hk:cz P r ⟨cK t dst v,m,n⟩ K) (ha:bF (λ_=>none) args=true:=by simp[bF,bE]) (hv:bE (λ_=>none) v=true:=by simp[bF,bE]):oS P f args dst r K t m n:=aF h ha hv hk
theorem ea {P:Program} {f:Nat} {args:List AV} {v:AV} {dst:Option Nat} {r:List bA} {acc:List fH} {ms:List Nat} {K:St->Prop} {t:Fr} {m:Mem} {n:Nat} (h:Pure P f args v) (hk:eW P r (⟨[],[]⟩::acc) ms ⟨cK t dst v,m,n⟩ K) (ha:bF (λ_=>none) args=true:=by simp[bF,bE]) (hv:bE (λ_=>none) v=true:=by simp[bF,bE]):mD P f args dst r acc ms K t m n:=bY h ha hv hk
end Go.Jq
namespace Go.Jq
open Go
@[go_sem]theorem ZL:ac9.bits=64:=rfl
@[go_sem]theorem abk:IntKind.u8.bits=8:=rfl
section
variable(x:Nat)
theorem Ns (b:Nat):(x:Int).fdiv (b:Int)=((x/b:Nat):Int):=by rw[Int.fdiv_eq_ediv_of_nonneg _ (acX _)];rfl
theorem Nt (b:Nat):(x:Int).tmod (b:Int)=((x%b:Nat):Int):=rfl
theorem Nu (b:Nat):(x:Int).tdiv (b:Int)=((x/b:Nat):Int):=rfl
end
end Go.Jq
namespace Go.Jq
open Go
theorem exists_least (p:Nat->Prop):∀n,p n->∃m,p m/\∀k,k<m->¬p k:=by
 intro n;induction n using Nat.strongRecOn with
 |ind n ih=>
  intro hn;by_cases h:∃k,k<n/\p k
  ·obtain⟨k,hk,hp⟩:=h;exact ih k hk hp
  ·exact⟨n,hn,λk hk hp=>h ⟨k,hk,hp⟩⟩
section
variable{P:Program} {n0 k:Nat} {Q:Exit->St->Prop}
theorem fy {ι:Type} {b:aG} (F:ι->St) (G6:ι->Nat) (i0:ι)
 (h:∀i,fN P n0 k b (F i) (Exit.iy (λS'=>∃j,G6 j<G6 i/\aH n0 k S' (F j)) Q)):fN P n0 k (.loop b) (F i0) Q:=by
 classical
 have least:∀S,(∃i,F i=S)->∃m,(∃i,F i=S/\G6 i=m)/\∀j,F j=S->m<=G6 j:=by
  rintro S ⟨i,hi⟩;obtain⟨m,hm,hl⟩:=exists_least (λm=>∃i,F i=S/\G6 i=m) (G6 i) ⟨i,hi,rfl⟩;refine⟨m,hm,λj hj=>?_⟩;rcases Nat.lt_or_ge (G6 j) m with bd|hge;·exact absurd ⟨j,hj,rfl⟩ (hl _ bd)
  ·exact hge
 refine xV (λS=>∃i,F i=S) (λS=>if hS:∃i,F i=S then Classical.choose (least S hS)else 0) ⟨i0,rfl⟩ ?_;intro S hS;have hsp:=Classical.choose_spec (least S hS);obtain⟨⟨i,rfl,hi⟩,_⟩:=hsp;refine xU (h i) ?_;intro e S' hq;cases e with
 |normal=>
  obtain⟨j,hj,hle⟩:=hq;refine⟨F j,hle,⟨j,rfl⟩,?_⟩;have wC:∃i,F i=F j:=⟨j,rfl⟩;have h1:=(Classical.choose_spec (least (F j) wC)).2 j rfl;simp only[dif_pos hS,dif_pos wC];omega
 |_=>exact hq
theorem bM {b:aG} (F:Nat->St) (N:Nat)
 (h:∀i,i<=N->fN P n0 k b (F i) (Exit.iy (λS'=>i<N/\aH n0 k S' (F (i+1))) Q)):fN P n0 k (.loop b) (F 0) Q:=by
 refine fy (ι:=Fin (N+1)) (λi=>F i.1) (λi=>N-i.1) ⟨0,Nat.succ_pos _⟩ ?_;rintro⟨i,hi⟩;refine xU (h i (Nat.le_of_lt_succ hi)) ?_;intro e S' hq;cases e with
 |normal=>
  obtain⟨bd,hle⟩:=hq;exact⟨⟨i+1,Nat.succ_lt_succ bd⟩,by simp only;omega,hle⟩
 |_=>exact hq
theorem jW {b:aG} (F:Nat->St) (p:Nat->Prop) (N:Nat) (h0:p 0)
 (h:∀i,i<=N->p i->fN P n0 k b (F i) (Exit.iy (λS'=>i<N/\p (i+1)/\aH n0 k S' (F (i+1))) Q)):fN P n0 k (.loop b) (F 0) Q:=by
 refine fy (ι:={i:Nat//i<=N/\p i}) (λi=>F i.1) (λi=>N-i.1) ⟨0,Nat.zero_le _,h0⟩ ?_;rintro⟨i,hi,hp⟩;refine xU (h i hi hp) ?_;intro e S' hq;cases e with
 |normal=>
  obtain⟨bd,GS,hle⟩:=hq;exact⟨⟨i+1,bd,GS⟩,by simp only;omega,hle⟩
 |_=>exact hq
end
theorem dM.at {α:Type} {enc:α->List DV} {w:Nat} (hk:∀a,(enc a).length=w) (KM:0<w) {l:List α} {X:DV} (h:dM enc l X) (i:Nat) (hi:i<l.length):
 ∃cs rest,X=.sl l.length cs/\cs.drop (i*w)=enc l[i]++rest/\i*w<cs.length:=by
 obtain⟨_,h⟩:=h;rcases h with⟨_,rfl⟩|rfl;·simp at hi
 ·have qM:l[i]?=some l[i]:=by simp[hi]
  obtain⟨h1,h2⟩:=x9 hk l i _ qM;refine⟨_,((l.flatMap enc).drop (i*w)).drop w,rfl,?_,by omega⟩;rw[<-h1,List.take_append_drop]
theorem dM.len {α:Type} {enc:α->List DV} {l:List α} {X:DV} (h:dM enc l X):ir (.d X)=some l.length:=by
 obtain⟨_,h⟩:=h;rcases h with⟨rfl,rfl⟩|rfl<;>rfl
theorem cP.at {α:Type} {enc:α->List DV} {ls:List (List α)} {X:DV} (h:cP enc ls X) (i:Nat) (hi:i<ls.length):
 ∃cs d rest,X=.sl ls.length cs/\cs.drop i=d::rest/\i<cs.length/\dM enc ls[i] d:=by
 obtain⟨ds,⟨_,h⟩,hs⟩:=h;have hl:=hs.length;rcases h with⟨_,rfl⟩|rfl;·simp at hl;rw[<-hl]at hi;simp at hi
 ·obtain⟨d,hd,iZ⟩:=hs.get i ls[i] (by simp[hi]);refine⟨ds,d,ds.drop (i+1),by simp[hl],?_,by omega,iZ⟩;obtain⟨h1,h2⟩:=List.getElem?_eq_some_iff.1 hd;rw[List.drop_eq_getElem_cons h1,h2]
theorem cP.len {α:Type} {enc:α->List DV} {ls:List (List α)} {X:DV} (h:cP enc ls X):ir (.d X)=some ls.length:=by
 obtain⟨ds,h,hs⟩:=h;rw[h.len,hs.length]
theorem cP.iW {α:Type} {enc:α->List DV} {ls:List (List α)} {X:DV} (h:cP enc ls X):ls.length<=9223372036854775807:=by
 obtain⟨ds,h,hs⟩:=h;rw[<-hs.length];exact h.1
theorem gG {α β:Type} (f:β->α->β) (b:β) (l:List α) (i:Nat) (h:i<l.length):(l.take (i+1)).foldl f b=f ((l.take i).foldl f b) l[i]:=by
 rw[adG,ac6 h,Option.toList_some,List.foldl_append];rfl
def lP (th:List Bool):List AV:=(th.map DV.bool).map .d
@[go_sem,simp]theorem WJ (th:List Bool) (q:Nat) (b:Bool):(lP th).set q (.d (.bool b))=lP (th.set q b):=by
  simp[lP,List.map_set]
@[go_sem,simp]theorem WK (th:List Bool):(lP th).length=th.length:=by simp[lP]
@[go_sem,simp]theorem WL (π:Nat->Option Nat) (th:List Bool):aj π (lP th)=lP th:=bG _ _
@[go_sem]theorem WN (th:List Bool) (q:Nat):(lP th)[q]?=th[q]?.map λb=>.d (.bool b):=by
  simp[lP,Function.comp_def]
@[simp]theorem Yg (π:Nat->Option Nat) (Z:Nat->Option (List DV)) (th:List Bool):dn π Z (lP th)=lP th:=cF _ _ _
def wJ (x:Int):Nat:=(bits .and .i64 x 255).toNat
theorem IF (x:Int):bits .and .i64 x 255=(wJ x:Int):=by
 obtain⟨q,_,h⟩:=vN x 255 (by omega);have h':bits .and .i64 x 255=(q:Int):=h;simp[wJ,h']
theorem IG (x:Int):wJ x<=255:=by
 obtain⟨q,hq,h⟩:=vN x 255 (by omega);have h':bits .and .i64 x 255=(q:Int):=h;simp[wJ,h',hq]
theorem Nv (s:List UInt8) (i:Nat) (hi:i<s.length):∃rest,(s.map λb=>DV.int .u8 b.toNat).drop i=.int .u8 s[i].toNat::rest:=by
 refine⟨(s.map λb=>DV.int .u8 b.toNat).drop (i+1),?_⟩;rw[List.drop_eq_getElem_cons (by simpa using hi),List.getElem_map]
theorem sO (l:List DV):bF (λ_=>none) (l.map .d)=true:=by
 induction l with
 |nil=>rfl
 |cons a l ih=>simp[bF,bE,ih]
end Go.Jq
namespace Go.Jq
open Go
theorem wrap_u64 {n:Int} (h0:0<=n) (h1:n<18446744073709551616):adA.wrap n=n:=by
 have e2:(2^64:Int)=18446744073709551616:=rfl;simp only[IntKind.wrap,IntKind.signed,IntKind.bits,e2,adi,ac5,if_false];omega
theorem eC {a:Nat} (h:a<18446744073709551616):(BitVec.ofInt 64 (a:Int)).toNat=a:=by
 simp only[BitVec.ofInt_natCast,BitVec.toNat_ofNat];omega
theorem BW {a b:Nat} (ha:a<18446744073709551616) (hb:b<18446744073709551616):bits .or .u64 (a:Int) (b:Int)=((a|||b:Nat):Int):=by
 have e:bits .or .u64 (a:Int) (b:Int)=adA.wrap (((BitVec.ofInt 64 (a:Int))|||(BitVec.ofInt 64 (b:Int))).toNat:Nat):=rfl;have bd:a|||b<2^64:=Nat.or_lt_two_pow (by omega) (by omega);rw[e,BitVec.toNat_or,eC ha,eC hb,wrap_u64 (by omega) (by omega)]
theorem Eh (x:Nat) (hx:x<18446744073709551616):bits .and .u64 (x:Int) 1=((x%2:Nat):Int):=by
 have e:bits .and .u64 (x:Int) 1=adA.wrap (((BitVec.ofInt 64 (x:Int))&&&(BitVec.ofInt 64 1)).toNat:Nat):=rfl;have h1:(BitVec.ofInt 64 1).toNat=2^1-1:=rfl;rw[e,BitVec.toNat_and,h1,eC hx,Nat.and_two_pow_sub_one_eq_mod,wrap_u64 (by omega) (by omega)]
def n5 (s k:Nat):Nat:=s|||2^k
theorem AH {s k:Nat} (hs:s<67108864) (hk:k<26):n5 s k<67108864:=by
 have h1:(2:Nat)^k<2^26:=Nat.pow_lt_pow_right (by omega) hk;exact Nat.or_lt_two_pow (x:=s) (y:=2^k) (n:=26) hs h1
theorem vO (s k i:Nat):(n5 s k).testBit i=(s.testBit i||decide (k=i)):=by
 rw[n5,Nat.testBit_or,Nat.testBit_two_pow]
theorem Ei (s i:Nat):((s/2^i%2:Nat):Int)=1↔s.testBit i=true:=by
 rw[Nat.testBit_eq_decide_div_mod_eq];simp only[decide_eq_true_eq];omega
theorem fdiv_pow (s i:Nat):(s:Int).fdiv (2^i)=((s/2^i:Nat):Int):=by
 have:((2:Int)^i)=((2^i:Nat):Int):=by simp
 rw[this];exact Ns s (2^i)
end Go.Jq
namespace Go.Jq
open Go
section
variable{P:Program} {f:Nat} {args:List AV} {v:AV} {dst:Option Nat} {r:List bA} {K:St->Prop} {t:Fr} {m:Mem} {n:Nat}
mutual
theorem RW {c c':Ctx} {w:World} (hI:∀b,c.dm b->c'.dm b):∀(x:AV) (v:Value),bE (λ_=>none) x=true->Rel c w x v->Rel c' w x v
 |.d x,v,_,h=>by simp only[Rel]at h⊢;exact iV hI (λ_ _=>rfl) x v h
 |.ptr _ _,_,hx,_=>by simp[bE]at hx
 |.r8 _ _,_,hx,_=>by simp[bE]at hx
 |.uh _ _ _,_,hx,_=>by simp[bE]at hx
 |.bj cs,v,_,h=>by
  simp only[Rel]at h⊢;obtain⟨b,o,h1,h2,h3⟩:=h;exact⟨b,o,hI b h1,h2,iJ hI (λ_ _=>rfl) cs b o h1 h3⟩
 |.sl _ _ _ _,_,hx,_=>by simp[bE]at hx
 |.fn f cap,v,hx,h=>by
  simp only[Rel,bE]at h hx⊢;obtain⟨vs,h1,h2⟩:=h;exact⟨vs,h1,sP hI cap vs hx h2⟩
 |.agg cs,v,hx,h=>by
  simp only[Rel,bE]at h hx⊢;obtain⟨vs,h1,h2⟩:=h;exact⟨vs,h1,sP hI cs vs hx h2⟩
 |.cu cs,v,hx,h=>by
  simp only[Rel,bE]at h hx⊢;obtain⟨vs,h1,h2⟩:=h;exact⟨vs,h1,sP hI cs vs hx h2⟩
 |.ui _,v,_,h=>by simpa only[Rel]using h
 |.any,_,_,_=>by simp[Rel]
theorem sP {c c':Ctx} {w:World} (hI:∀b,c.dm b->c'.dm b):∀(xs:List AV) (vs:List Value),bF (λ_=>none) xs=true->aU c w xs vs->aU c' w xs vs
 | [],vs,_,h=>by simpa[aU]using h
 |x::xs,vs,hx,h=>by
  simp only[aU,bF,adn]at h hx⊢;obtain⟨v,mb,h1,h2,h3⟩:=h;exact⟨v,mb,h1,RW hI x v hx.1 h2,sP hI xs mb hx.2 h3⟩
end
end
end Go.Jq
namespace Go.Proofs.YtjfdjkageiemkaaGreatDoor
section
open Go Go.Jq
structure Atom where
 eA:Int
 dF:Int
 loc:Int
 value:Int
def Atom.cells (a:Atom):List DV:=[.int .i64 a.eA,.int .i64 a.dF,.int .i64 a.loc,.int .i64 a.value]
structure wK where
 dF:Int
 value:Int
def wK.cells (o:wK):List DV:=[.int .i64 o.dF,.int .i64 o.value]
structure Ins where
 kind:Int
 dF:Int
 loc:Int
 a:wK
 op:Int
 b:wK
 n:Int
def Ins.cells (i:Ins):List DV:=[.int .i64 i.kind,.int .i64 i.dF,.int .i64 i.loc,.int .i64 i.a.dF,.int .i64 i.a.value,.int .i64 i.op,.int .i64 i.b.dF,.int .i64 i.b.value,.int .i64 i.n]
structure Init where
 loc:Int
 value:Int
def Init.cells (i:Init):List DV:=[.int .i64 i.loc,.int .i64 i.value]
structure Test where
 name:List UInt8
 inits:List Init
 threads:List (List Ins)
 kind:Int
 rows:List (List Atom)
def mE (t:Test) (cs:List DV):Prop:=∃I T A,cs=[.str t.name,I,T,.int .i64 t.kind,A]/\dM Init.cells t.inits I/\cP Ins.cells t.threads T/\cP Atom.cells t.rows A
theorem yb (i:Init):(Init.cells i).length=2:=rfl
theorem lg (i:Ins):(Ins.cells i).length=9:=rfl
theorem Em (i:Atom):(Atom.cells i).length=4:=rfl
end
end Go.Proofs.YtjfdjkageiemkaaGreatDoor
