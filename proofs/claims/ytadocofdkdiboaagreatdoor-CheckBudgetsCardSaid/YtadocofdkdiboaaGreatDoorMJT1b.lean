/- What the statement's proof leans on, part 2: the layer, the walks, the plain laws. Names and blanks are short to keep the claim within its limit of bytes. -/
import Derived.Test.YtadocofdkdiboaaGreatDoorMJT1a
set_option linter.unusedSimpArgs false
set_option linter.unusedVariables false
set_option maxRecDepth 100000
open List renaming length_map → alk, length_append → aln, drop_zero → als, length_cons → alu, getElem?_eq_getElem → alw, take_of_length_le → alx, map_cons → alz, length_nil → alB, map_nil → alL, flatMap_cons → alO, mem_cons_self → alU, mem_cons → alW, mem_cons_of_mem → alY, foldl_cons → al2, nil_append → al8
open Nat renaming le_refl → ali, zero_add → alo, max_def → alN, mul_one → alV, zero_le → alZ
open Int renaming toNat_natCast → alj, natCast_nonneg → alm
open Go.IntKind renaming i64 → alv, u64 → al0
open Bool renaming false_eq_true → aly, and_eq_true → alE, and_self → alF, false_and → alK, not_true → alT, not_false → al7
open Option renaming map_eq_some_iff → alG, isSome_iff_exists → alS, map_some → alX, getD_some → al6
open Option.some renaming injEq → alJ, inj → al9
open BitVec renaming ofInt → al5
namespace Go.Jq
open Go
def oV (P:Program) (dst:Option Nat) (op:j5) (r:List bC) (K:St->Prop) (t:Fr) (m:Mem) (n:Nat):Prop:=
 nD P ⟨dst,op,none⟩ ⟨t,m,n⟩ λS'=>bN P r S' K
def eN (P:Program) (dst:Option Nat) (r:List bC) (K:St->Prop) (t:Fr) (m:Mem) (n:Nat):Option (AV×gk)->Prop
 |some (v,e)=>bN P r ⟨cG t dst v,e.mem m n,e.next n⟩ K
 |none=>False
def sG (P:Program) (dst:Option Nat) (op:j5) (r:List bC) (K:St->Prop) (t:Fr) (m:Mem) (n:Nat) (want:Bool):AV->Prop
 |.d (.bool b)=>if b=want then oV P dst op r K t m n else bN P r ⟨cG t dst (.cC []),m,n⟩ K
 |.cC _=>bN P r ⟨cG t dst (.cC []),m,n⟩ K
 |_=>False
def ej (P:Program) (f:Nat) (args:List AV) (dst:Option Nat) (r:List bC) (K:St->Prop) (t:Fr) (m:Mem) (n:Nat):Prop:=
 ∃R,Jb P f args m n (n<=·) R/\∀v m' n',R v m' n'->bN P r ⟨cG t dst v,m',n'⟩ K
def UF (P:Program) (args:List AV) (dst:Option Nat) (r:List bC) (K:St->Prop) (t:Fr) (m:Mem) (n:Nat):AV->Prop
 |.fn f caps=>lK P f=true/\ej P f (args++caps) dst r K t m n
 |_=>False
section
variable{P:Program} {dst:Option Nat} {op:j5} {r:List bC} {K:St->Prop} {t:Fr} {m:Mem} {n:Nat}
@[go_sem]theorem aeP {S:St}:bN P [] S K=K S:=rfl
@[go_sem]theorem acb:bN P (⟨dst,op,none⟩::r) ⟨t,m,n⟩ K=oV P dst op r K t m n:=by
  simp only[bN,oV,nD]
@[go_sem]theorem aae {g:Nat} {want:Bool}:bN P (⟨dst,op,some (g,want)⟩::r) ⟨t,m,n⟩ K=sG P dst op r K t m n want (ah t g):=by
  simp only[bN];generalize ah t g=x;cases x with
  |d x=>cases x<;>simp only[sG,oV,nD]
  |_=>simp only[sG]
@[go_sem]theorem agF:sG P dst op r K t m n true (.d (.bool true))=oV P dst op r K t m n:=rfl
@[go_sem]theorem agG:sG P dst op r K t m n false (.d (.bool false))=oV P dst op r K t m n:=rfl
@[go_sem]theorem agH:sG P dst op r K t m n true (.d (.bool false))=bN P r ⟨cG t dst (.cC []),m,n⟩ K:=rfl
@[go_sem]theorem agI:sG P dst op r K t m n false (.d (.bool true))=bN P r ⟨cG t dst (.cC []),m,n⟩ K:=rfl
@[go_sem]theorem af9 {want:Bool} {cs:List AV}:sG P dst op r K t m n want (.cC cs)=bN P r ⟨cG t dst (.cC []),m,n⟩ K:=rfl
theorem da (h:qO op=false):oV P dst op r K t m n=eN P dst r K t m n (bq op t m n):=by
 have:nD P ⟨dst,op,none⟩ ⟨t,m,n⟩ (λS'=>bN P r S' K)=eN P dst r K t m n (bq op t m n):=by
  cases op<;>first
   |(simp[qO]at h;done)
   |(simp only[nD]
     generalize bq _ t m n=x;cases x with
     |none=>rfl
     |some p=>obtain⟨v,e⟩:=p;rfl)
 exact this
@[go_sem]theorem aeQ {v:AV} {e:gk}:eN P dst r K t m n (some (v,e))=bN P r ⟨cG t dst v,e.mem m n,e.next n⟩ K:=rfl
@[go_sem]theorem aeR:eN P dst r K t m n none=False:=rfl
@[go_sem]theorem aga {f:Nat} {args:List dx}:oV P dst (.bW f args) r K t m n=ej P f (args.map (ev t)) dst r K t m n:=rfl
@[go_sem]theorem agb {x:dx} {args:List dx}:oV P dst (.eW x args) r K t m n=UF P (args.map (ev t)) dst r K t m n (ev t x):=by
  unfold oV;simp only[nD];generalize ev t x=y;cases y<;>rfl
@[go_sem]theorem agc {f:Nat} {caps args:List AV}:UF P args dst r K t m n (.fn f caps)=(lK P f=true/\ej P f (args++caps) dst r K t m n):=rfl
@[go_sem]theorem ajI {x:dx}:oV P dst (.mv x) r K t m n=bN P r ⟨cG t dst (ev t x),m,n⟩ K:=rfl
@[go_sem]theorem agJ {a b c:dx}:oV P dst (.pick a b c) r K t m n=eN P dst r K t m n (bq (.pick a b c) t m n):=da rfl
@[go_sem]theorem ajJ {n:Nat} {x:DV} {r:List AV}:sk n (.d x::r)=.d x::r:=rfl
@[go_sem]theorem agK {n i T:Nat} {r:List AV}:sk n (.A5 i T::r)=.A5 n T::r:=rfl
@[go_sem]theorem agL {n:Nat}:sk n []=[]:=rfl
@[go_sem]theorem agd {z:List AV}:oV P dst (.alloc z) r K t m n=bN P r ⟨cG t dst (.ptr n 0),ak m n (sk n z),n+1⟩ K:=rfl
@[go_sem]theorem aiY {x:dx}:oV P dst (.box x) r K t m n=eN P dst r K t m n (bq (.box x) t m n):=da rfl
@[go_sem]theorem age {z:List AV} {p:List (Nat×Nat×dx)}:oV P dst (.build z p) r K t m n=eN P dst r K t m n (bq (.build z p) t m n):=da rfl
@[go_sem]theorem aeS {a b:Nat} {z:List AV} {p:List (Nat×Nat×dx)}:oV P dst (.cF a b z p) r K t m n=eN P dst r K t m n (bq (.cF a b z p) t m n):=da rfl
@[go_sem]theorem agM {k:Option Nat} {x:dx}:oV P dst (.load k x) r K t m n=eN P dst r K t m n (bq (.load k x) t m n):=da rfl
@[go_sem]theorem agf {k:Nat} {x y:dx}:oV P dst (.store k x y) r K t m n=eN P dst r K t m n (bq (.store k x y) t m n):=da rfl
@[go_sem]theorem agh {x:dx}:oV P dst (.jc x) r K t m n=eN P dst r K t m n (bq (.jc x) t m n):=da rfl
@[go_sem]theorem aiZ {o:BinOp} {x y:dx}:oV P dst (.bin o x y) r K t m n=eN P dst r K t m n (bq (.bin o x y) t m n):=da rfl
@[go_sem]theorem ai0 {o:Bool} {x y:dx}:oV P dst (.TU o x y) r K t m n=eN P dst r K t m n (bq (.TU o x y) t m n):=da rfl
@[go_sem]theorem ai1 {o:Bool} {x y:dx}:oV P dst (.TV o x y) r K t m n=eN P dst r K t m n (bq (.TV o x y) t m n):=da rfl
@[go_sem]theorem ai2 {o:Bool} {x y:dx}:oV P dst (.Zy o x y) r K t m n=eN P dst r K t m n (bq (.Zy o x y) t m n):=da rfl
@[go_sem]theorem ai3 {k:List Nat} {o:Bool} {x y:dx}:oV P dst (.eqs k o x y) r K t m n=eN P dst r K t m n (bq (.eqs k o x y) t m n):=da rfl
@[go_sem]theorem ajK {o:UnOp} {x:dx}:oV P dst (.un o x) r K t m n=eN P dst r K t m n (bq (.un o x) t m n):=da rfl
@[go_sem]theorem ai4 {k:IntKind} {x:dx}:oV P dst (.IJ k x) r K t m n=eN P dst r K t m n (bq (.IJ k x) t m n):=da rfl
@[go_sem]theorem aeT {x:dx}:oV P dst (.nz x) r K t m n=eN P dst r K t m n (bq (.nz x) t m n):=da rfl
@[go_sem]theorem agN {x:dx}:oV P dst (.yK x) r K t m n=eN P dst r K t m n (bq (.yK x) t m n):=da rfl
@[go_sem]theorem agO {x:dx}:oV P dst (.Gs x) r K t m n=eN P dst r K t m n (bq (.Gs x) t m n):=da rfl
@[go_sem]theorem agP {x:dx}:oV P dst (.B0 x) r K t m n=eN P dst r K t m n (bq (.B0 x) t m n):=da rfl
@[go_sem]theorem agQ {f:Nat} {c:List dx}:oV P dst (.rY f c) r K t m n=bN P r ⟨cG t dst (.fn f (c.map (ev t))),m,n⟩ K:=rfl
@[go_sem]theorem agR {a b:Nat} {z:List AV} {x y:dx}:oV P dst (.Er a b z x y) r K t m n=eN P dst r K t m n (bq (.Er a b z x y) t m n):=da rfl
@[go_sem]theorem agS {x:dx} {l h:Option dx}:oV P dst (.yL x l h) r K t m n=eN P dst r K t m n (bq (.yL x l h) t m n):=da rfl
@[go_sem]theorem agT {a:Nat} {x:dx} {l h:Option dx}:oV P dst (.uZ a x l h) r K t m n=eN P dst r K t m n (bq (.uZ a x l h) t m n):=da rfl
@[go_sem]theorem agi {x:dx} {o:Nat}:oV P dst (.dI x o) r K t m n=eN P dst r K t m n (bq (.dI x o) t m n):=da rfl
@[go_sem]theorem ai5 {x:dx} {o:Nat} {k:Option Nat}:oV P dst (.ZT x o k) r K t m n=eN P dst r K t m n (bq (.ZT x o k) t m n):=da rfl
@[go_sem]theorem agj {e:Nat} {k:Option Nat} {x i:dx}:oV P dst (.cg e k x i) r K t m n=eN P dst r K t m n (bq (.cg e k x i) t m n):=da rfl
@[go_sem]theorem agU {x i:dx}:oV P dst (.idxs x i) r K t m n=eN P dst r K t m n (bq (.idxs x i) t m n):=da rfl
@[go_sem]theorem agV {a e:Nat} {k:Option Nat} {x i:dx}:oV P dst (.Es a e k x i) r K t m n=eN P dst r K t m n (bq (.Es a e k x i) t m n):=da rfl
@[go_sem]theorem ai6 {x:dx} {i:Nat}:oV P dst (.ext x i) r K t m n=eN P dst r K t m n (bq (.ext x i) t m n):=da rfl
@[go_sem]theorem agW {x:dx}:oV P dst (.lens x) r K t m n=eN P dst r K t m n (bq (.lens x) t m n):=da rfl
@[go_sem]theorem agX {x:dx}:oV P dst (.B1 x) r K t m n=eN P dst r K t m n (bq (.B1 x) t m n):=da rfl
@[go_sem]theorem agY {x y:dx}:oV P dst (.yM x y) r K t m n=eN P dst r K t m n (bq (.yM x y) t m n):=da rfl
@[go_sem]theorem agZ {x y:dx}:oV P dst (.wk x y) r K t m n=eN P dst r K t m n (bq (.wk x y) t m n):=da rfl
@[go_sem]theorem ai7 {k:me} {xs:List dx}:oV P dst (.j6 k xs) r K t m n=eN P dst r K t m n (mU k (xs.map (ev t)) m n):=da rfl
@[go_sem]theorem ai8 {a b e:Nat} {x y:dx}:oV P dst (.app a b e x y) r K t m n=eN P dst r K t m n (bq (.app a b e x y) t m n):=da rfl
end
attribute [go_sem] Nat.reduceEqDiff Nat.reduceAdd Nat.reduceLeDiff Nat.reduceMul Nat.reduceSub Int.reduceLE Int.reduceLT Int.reduceEq Int.reduceToNat Int.reducePow Int.reduceNeg
attribute [go_sem] bq mU mapOf uo ev ah cG gk.mem gk.next ai ak aG shI unA ZU ZV qG cw IK aeC cellsOf mf putAt uG qF nQ fI oq dZ MO gX
section
variable{k:IntKind} {a b:Int}
@[go_sem]theorem ag0:gT .add (.d (.int k a)) (.d (.int k b))=some (.d (.int k (k.wrap (a+b)))):=by simp[gT,rZ,oq]
@[go_sem]theorem ag1:gT .sub (.d (.int k a)) (.d (.int k b))=some (.d (.int k (k.wrap (a-b)))):=by simp[gT,rZ,oq]
@[go_sem]theorem ag2:gT .mul (.d (.int k a)) (.d (.int k b))=some (.d (.int k (k.wrap (a*b)))):=by simp[gT,rZ,oq]
@[go_sem]theorem ag3:gT .quo (.d (.int k a)) (.d (.int k b))=if b=0 then none else some (.d (.int k (k.wrap (a.tdiv b)))):=by simp[gT,rZ,oq]
@[go_sem]theorem ag4:gT .rem (.d (.int k a)) (.d (.int k b))=if b=0 then none else some (.d (.int k (a.tmod b))):=by simp[gT,rZ]
@[go_sem]theorem ag5:gT .and (.d (.int k a)) (.d (.int k b))=some (.d (.int k (bits .and k a b))):=by simp[gT,rZ]
@[go_sem]theorem ai9:gT .or (.d (.int k a)) (.d (.int k b))=some (.d (.int k (bits .or k a b))):=by simp[gT,rZ]
@[go_sem]theorem ag6:gT .xor (.d (.int k a)) (.d (.int k b))=some (.d (.int k (bits .xor k a b))):=by simp[gT,rZ]
@[go_sem]theorem acd:gT .andNot (.d (.int k a)) (.d (.int k b))=some (.d (.int k (bits .andNot k a b))):=by simp[gT,rZ]
@[go_sem]theorem ag7 {k':IntKind}:gT .shl (.d (.int k a)) (.d (.int k' b))=if b<0 then none else some (.d (.int k (k.wrap (a*2^min b.toNat k.bits)))):=by simp[gT,shI,oq]
@[go_sem]theorem ag8 {k':IntKind}:gT .shr (.d (.int k a)) (.d (.int k' b))=if b<0 then none else some (.d (.int k (a.fdiv (2^min b.toNat k.bits)))):=by simp[gT,shI]
@[go_sem]theorem ag9:gT .eql (.d (.int k a)) (.d (.int k b))=some (.d (.bool (decide (a=b)))):=by simp[gT,rZ,dZ]
@[go_sem]theorem aha:gT .neq (.d (.int k a)) (.d (.int k b))=some (.d (.bool (!decide (a=b)))):=by simp[gT,rZ,dZ]
@[go_sem]theorem ahb:gT .lss (.d (.int k a)) (.d (.int k b))=some (.d (.bool (decide (a<b)))):=by simp[gT,rZ,dZ]
@[go_sem]theorem ahc:gT .leq (.d (.int k a)) (.d (.int k b))=some (.d (.bool (decide (a<=b)))):=by simp[gT,rZ,dZ]
@[go_sem]theorem ahd:gT .gtr (.d (.int k a)) (.d (.int k b))=some (.d (.bool (decide (b<a)))):=by simp[gT,rZ,dZ]
@[go_sem]theorem ahe:gT .geq (.d (.int k a)) (.d (.int k b))=some (.d (.bool (decide (b<=a)))):=by simp[gT,rZ,dZ]
end
section
variable{a b:List UInt8}
@[go_sem]theorem agk:gT .add (.d (.str a)) (.d (.str b))=if a.length+b.length<=9223372036854775807 then some (.d (.str (a++b)))else none:=by simp[gT,QO]
@[go_sem]theorem agl:gT .eql (.d (.str a)) (.d (.str b))=some (.d (.bool (decide (a=b)))):=by simp[gT,QO,dZ]
@[go_sem]theorem agm:gT .neq (.d (.str a)) (.d (.str b))=some (.d (.bool (!decide (a=b)))):=by simp[gT,QO,dZ]
end
attribute [go_sem] Int.cast_ofNat_Int true_and and_true and_self alV Nat.add_zero alo Nat.zero_mul alX Option.map_none alz alL decide_eq_true_eq decide_eq_false_iff_not
theorem wrap_i64 {n:Int} (h0:-9223372036854775808<=n) (h1:n<=9223372036854775807):alv.wrap n=n:=by
 have e1:(2^(64-1):Int)=9223372036854775808:=rfl;have e2:(2^64:Int)=18446744073709551616:=rfl;simp only[IntKind.wrap,IntKind.signed,IntKind.bits,e1,e2,Bool.true_and,decide_eq_true_eq];split<;>omega
theorem wrap_u8 {n:Int} (h0:0<=n) (h1:n<=255):IntKind.u8.wrap n=n:=by
 have e2:(2^8:Int)=256:=rfl;simp only[IntKind.wrap,IntKind.signed,IntKind.bits,e2,alK,aly,if_false];omega
@[go_sem]theorem aaf {N:St->Prop} {Q:Exit->St->Prop} {S:St}:Exit.jQ N Q .normal S=N S:=rfl
@[go_sem]theorem agn {N:St->Prop} {Q:Exit->St->Prop} {S:St}:Exit.jQ N Q .ret S=Q .ret S:=rfl
@[go_sem]theorem aeU {N:St->Prop} {Q:Exit->St->Prop} {S:St} {i:Nat}:Exit.jQ N Q (.exit i) S=Q (.exit i) S:=rfl
@[go_sem]theorem Tz {j:Nat} {Q:Exit->St->Prop} {S:St}:Exit.kq j Q .normal S=Q .normal S:=rfl
@[go_sem]theorem aag {j:Nat} {Q:Exit->St->Prop} {S:St}:Exit.kq j Q .ret S=Q .ret S:=rfl
@[go_sem]theorem ZC {j i:Nat} {Q:Exit->St->Prop} {S:St}:Exit.kq j Q (.exit i) S=if i=j then Q .normal S else Q (.exit i) S:=rfl
@[go_sem]theorem ahf:jV (.d .ct)=some 0:=rfl
@[go_sem]theorem ajL {n:Nat} {cs:List DV}:jV (.d (.sl n cs))=some n:=rfl
@[go_sem]theorem aja {i e o n:Nat}:jV (.sl i e o n)=some n:=rfl
@[go_sem]theorem aeV {cs:List AV}:aN none cs=cs[0]?:=rfl
@[go_sem]theorem ep {k:Nat} {cs:List AV}:aN (some k) cs=if k<=cs.length then some (.agg (cs.take k))else none:=rfl
@[go_sem]theorem aeW {a b:Nat}:Nat.max a b=if a<=b then b else a:=alN
@[go_sem]theorem aeX:aE []=0:=rfl
@[go_sem]theorem ace {i:Nat} {c:List AV} {r:Mem}:aE ((i,c)::r)=Nat.max (i+1) (aE r):=rfl
theorem aD {P:Program} {rs:Array ResultVar} {n0:Nat} {Q:AV->Mem->Prop} {S:St} (v:AV) (hv:bj P rs S=some v) (hc:v.aA (λ_=>none)=v) (hq:Q v []):nC P rs n0 Q .ret S:=
 ⟨v,hv,[],[],rfl,rfl,trivial,by
   have:af []=λ_=>none:=rfl;rw[this,hc];exact hq⟩
end Go.Jq
namespace Go.Jq
open Go
structure Out where
 v:AV
 act:Mem->Mem
 U:Nat->Option (Option (List AV))
 keys:List Nat
 F:List Nat
 lo:Nat
 hi:Nat
def Out.ok (o:Out):Prop:=
 (∀m id,ai (o.act m) id=match o.U id with
  |some x=>x
  |none=>ai m id)/\(∀id,o.U id≠none->id∈o.keys)
section
variable{P:Program} {k:Nat} {ops:Array Oper}
def ahg (P:Program) (k:Nat) (o:Oper) (t:Fr) (m:Mem) (out:Out):Prop:=
 ∀(c:Ctx) (a:Act) (w:World),a.defers=[]->a.tmps.size=k->FR c w t a.tmps->MR c m w->(∀id,out.lo<=id->id<out.hi->c.φ id=.free)->
  ∀(Kw:Act->World->Prop) (Q:Exit->Act->World->Prop),
   (∀u w' c',(Rel c' w' out.v u\/out.v=.any)->MR c' (out.act m) w'->Step (iV c m) c c' w w'->(∀b,iV c' (out.act m) b->iV c m b\/w.heap.size<=b)->
    (∀id,¬(out.lo<=id/\id<out.hi)->c'.φ id=c.φ id)->(∀id,¬(out.lo<=id/\id<out.hi)->(ai (out.act m) id).isSome->(ai m id).isSome)->Kw (a.put o.dst u) w')->
   o.wp P a w Kw Q
def p9 (P:Program) (k:Nat) (ops:Array Oper) (o:Oper) (t:Fr) (m:Mem) (out:Out):Prop:=
 ∀t' m',(∀s∈o.looksAt ops,ah t' s=ah t s)->(∀id∈out.F,ai m' id=ai m id)->ahg P k o t' m' out
def pf (ops:Array Oper) (o:Oper) (t:Fr):Option Bool:=
 match o.guard with
 |none=>some true
 |some (j,w)=>match(ops[j]?).bind (·.dst)with
  |some d=>match ah t d with
   |.d (.bool b)=>some (b==w)
   |.cC _=>some false
   |_=>none
  |none=>none
def sH (P:Program) (k:Nat) (ops:Array Oper) (o:Oper) (t:Fr) (m:Mem) (out:Out):Prop:=
 (pf ops o t=some true/\p9 P k ops o t m out)\/(pf ops o t=some false/\out.v=.cC []/\(∀id,out.U id=none))
theorem MV {o:Oper} {t t':Fr} (h:∀s∈o.looksAt ops,ah t' s=ah t s):pf ops o t'=pf ops o t:=by
 unfold pf;cases hg:o.guard with
 |none=>rfl
 |some jw=>
  obtain⟨j,w⟩:=jw;simp only;cases hd:(ops[j]?).bind (·.dst)with
  |none=>rfl
  |some d=>
   have:=h d (by simp[Oper.looksAt,hg,hd]);simp only[this]
theorem sH.same {o:Oper} {t t':Fr} {m m':Mem} {out:Out} (h:sH P k ops o t m out) (ht:∀s∈o.looksAt ops,ah t' s=ah t s) (hm:∀id∈out.F,ai m' id=ai m id):
 sH P k ops o t' m' out:=by
 have hw:=MV ht;rcases h with⟨h1,h2⟩|⟨h1,h2⟩;·exact .inl ⟨hw.trans h1,λt2 m2 ht2 hm2=>h2 t2 m2 (λs hs=>(ht2 s hs).trans (ht s hs)) (λid hid=>(hm2 id hid).trans (hm id hid))⟩
 ·exact .inr ⟨hw.trans h1,h2⟩
def ZD (t:Fr) (m:Mem) (t':Fr) (m':Mem):Prop:=(∀i,ah t' i=ah t i)/\(∀id,ai m' id=ai m id)
theorem tM (t:Fr) (dst:Option Nat) (v:AV) (i:Nat):ah (cG t dst v) i=if dst=some i then v else ah t i:=by
 cases dst with
 |none=>simp[cG]
 |some d=>by_cases h:d=i<;>simp[cG,ah,h]
theorem ZD.next {t t':Fr} {m m':Mem} {out:Out} (h:ZD t m t' m') (cI:out.ok) (dst:Option Nat):ZD (cG t dst out.v) (out.act m) (cG t' dst out.v) (out.act m'):=by
 refine⟨λi=>?_,λid=>?_⟩;·rw[tM,tM,h.1 i]
 ·rw[cI.1,cI.1,h.2 id]
def aOp (P:Program) (k:Nat) (ops:Array Oper) (outs:List Out) (i:Nat) (K:Fr->Mem->Prop) (t:Fr) (m:Mem):Prop:=
 ∃o out,ops[i]?=some o/\outs[i]?=some out/\sH P k ops o t m out/\K (cG t o.dst out.v) (out.act m)
def u7 (P:Program) (k:Nat) (ops:Array Oper) (outs:List Out) (K:Fr->Mem->Prop):Nat->Array Bool->Fr->Mem->Prop
 |0,listed,t,m=>Region.ready .any ops listed=[]/\K t m
 |fuel+1,listed,t,m=>(Region.ready .any ops listed=[]->K t m)/\∀i∈Region.ready .any ops listed,aOp P k ops outs i (u7 P k ops outs K fuel (listed.setIfInBounds i true)) t m
theorem Co {outs:List Out} (cI:∀(i:Nat) (o:Out),outs[i]?=some o->o.ok) {K:Fr->Mem->Prop} (hK:∀t m t' m',ZD t m t' m'->K t m->K t' m'):
 ∀(fuel:Nat) (listed:Array Bool) (t:Fr) (m:Mem) (t':Fr) (m':Mem),ZD t m t' m'->u7 P k ops outs K fuel listed t m->u7 P k ops outs K fuel listed t' m'
 |0,_,t,m,t',m',ha,h=>⟨h.1,hK t m t' m' ha h.2⟩
 |fuel+1,listed,t,m,t',m',ha,h=>by
  refine⟨λh0=>hK t m t' m' ha (h.1 h0),λi hi=>?_⟩;obtain⟨o,out,h1,h2,h3,h4⟩:=h.2 i hi;exact⟨o,out,h1,h2,h3.same (λs _=>ha.1 s) (λid _=>ha.2 id),Co cI hK fuel _ _ _ _ _ (ha.next (cI i out h2) o.dst) h4⟩
def indep (x y:Out):Prop:=(∀id∈x.keys,id∉y.F)/\(∀id∈y.keys,id∉x.F)/\(∀id∈x.keys,id∉y.keys)
theorem Jg {x:Out} (hx:x.ok) {m:Mem} {id:Nat} (h:id∉x.keys):ai (x.act m) id=ai m id:=by
 rw[hx.1];cases hu:x.U id with
 |none=>rfl
 |some y=>exact absurd (hx.2 id (by rw[hu];simp)) h
theorem Fq {oi oj:Oper} (hap:∀d,oi.dst=some d->d∉oj.looksAt ops) (t:Fr) (v:AV):∀s∈oj.looksAt ops,ah (cG t oi.dst v) s=ah t s:=by
 intro s hs;rw[tM];split;·rename_i e;exact absurd hs (hap s e)
 ·rfl
theorem UG {oi oj:Oper} {x y:Out} (hx:x.ok) (hy:y.ok) (hd:∀d,oi.dst=some d->oj.dst≠some d) (hk:∀id∈x.keys,id∉y.keys) (t:Fr) (m:Mem):
 ZD (cG (cG t oi.dst x.v) oj.dst y.v) (y.act (x.act m)) (cG (cG t oj.dst y.v) oi.dst x.v) (x.act (y.act m)):=by
 refine⟨λs=>?_,λid=>?_⟩
 ·simp only[tM];by_cases h1:oi.dst=some s;·rw[if_pos h1,if_neg (hd s h1),if_pos h1]
  ·rw[if_neg h1,if_neg h1]
 ·rw[hx.1,hy.1,hy.1,hx.1];cases hu:x.U id with
  |none=>rfl
  |some q=>
   have:y.U id=none:=by
    cases Z3:y.U id with
    |none=>rfl
    |some q'=>exact absurd (hy.2 id (by rw[Z3];simp)) (hk id (hx.2 id (by rw[hu];simp)))
   rw[this]
inductive Rj (ops:Array Oper):Nat->Nat->Prop
 |one {i j:Nat} {oj:Oper} {e:Edge}:ops[j]?=some oj->e∈oj.after->Region.binds .any e=true->e.on=i->Rj ops i j
 |more {i k j:Nat} {oj:Oper} {e:Edge}:ops[j]?=some oj->e∈oj.after->Region.binds .any e=true->e.on=k->Rj ops i k->Rj ops i j
theorem Rj.trans {i k j:Nat} (h:Rj ops i k) (h':Rj ops k j):Rj ops i j:=by
 induction h' with
 |one ho he hb heq=>exact .more ho he hb heq h
 |more ho he hb heq _ ih=>exact .more ho he hb heq ih
def Down (ops:Array Oper) (listed:Array Bool):Prop:=
 ∀(a:Nat) (oa:Oper),ops[a]?=some oa->listed.getD a false=true->∀e∈oa.after,Region.binds .any e=true->listed.getD e.on false=true
theorem Down.anc {listed:Array Bool} (h:Down ops listed) {i j:Nat} (ha:Rj ops i j):listed.getD j false=true->listed.getD i false=true:=by
 induction ha with
 |one ho he hb heq=>intro hj;rw[<-heq];exact h _ _ ho hj _ he hb
 |more ho he hb heq _ ih=>intro hj;refine ih ?_;rw[<-heq];exact h _ _ ho hj _ he hb
theorem Down.aah {listed:Array Bool} (h:Down ops listed) {i j:Nat} (hi:i∈Region.ready .any ops listed) (hj:j∈Region.ready .any ops listed):¬Rj ops i j:=by
 intro ha;have h0:listed.getD i false=false:=by
  have:=(mem_ready.1 hi).1;rcases Nat.lt_or_ge i listed.size with h'|h';·simp[h']at this⊢;exact this
  ·simp[Array.getElem?_eq_none h']at this
 obtain⟨_,oj,TA,sw⟩:=mem_ready.1 hj;have h1:listed.getD i false=true:=by
  cases ha with
  |one ho he hb heq=>
   rw[TA]at ho;cases ho;rw[<-heq];exact sw _ he hb
  |more ho he hb heq ha'=>
   rw[TA]at ho;cases ho;refine h.anc ha' ?_;rw[<-heq];exact sw _ he hb
 rw[h1]at h0;cases h0
theorem Down.next {listed:Array Bool} (h:Down ops listed) {j:Nat} (hj:j∈Region.ready .any ops listed):Down ops (listed.setIfInBounds j true):=by
 intro a oa hoa hl e he hb;obtain⟨_,oj,TA,sw⟩:=mem_ready.1 hj;refine getD_set_true ?_;by_cases haj:j=a
 ·subst haj;rw[TA]at hoa;cases hoa;exact sw e he hb
 ·rw[getD_set_ne false haj]at hl;exact h a oa hoa hl e he hb
theorem GD {outs:List Out} (cI:∀(i:Nat) (o:Out),outs[i]?=some o->o.ok) {K:Fr->Mem->Prop} (hK:∀t m t' m',ZD t m t' m'->K t m->K t' m') {i:Nat} {oi:Oper} {x:Out}
 (hi:ops[i]?=some oi) (hx:outs[i]?=some x):
 ∀(fuel:Nat) (listed:Array Bool) (t:Fr) (m:Mem),
  (∀(j:Nat) (oj:Oper) (y:Out),ops[j]?=some oj->outs[j]?=some y->j≠i->listed.getD j true=false->¬Rj ops i j->oi.apart ops oj=true/\indep x y)->
  Down ops listed->i∈Region.ready .any ops listed->sH P k ops oi t m x->
  u7 P k ops outs K fuel (listed.setIfInBounds i true) (cG t oi.dst x.v) (x.act m)->u7 P k ops outs K (fuel+1) listed t m:=by
 intro fuel;induction fuel with
 |zero=>
  intro listed t m _ _ hr hy H;refine⟨λh=>(by rw[h]at hr;cases hr),λj hj=>?_⟩;by_cases wb:j=i;·subst wb;exact⟨oi,x,hi,hx,hy,H⟩
  ·have:=ready_mono hj wb;rw[H.1]at this;cases this
 |succ fuel ih=>
  intro listed t m js Rk hr hy H;refine⟨λh=>(by rw[h]at hr;cases hr),λj hj=>?_⟩;by_cases wb:j=i;·subst wb;exact⟨oi,x,hi,hx,hy,H⟩
  ·obtain⟨oj,y,TA,hyj,ahh,rQ⟩:=H.2 j (ready_mono hj wb);have ahi:=(mem_ready.1 hj).1;have aai:=Rk.aah hr hj;obtain⟨hap,ahj,ahk,ahl⟩:=js j oj y TA hyj wb ahi aai;obtain⟨a1,a2,a3⟩:=Oper.apart_spec hap;have aaj:=cI i x hx;have ahm:=cI j y hyj;have hwj:sH P k ops oj t m y:=ahh.same (λs hs=>(Fq a1 t x.v s hs).symm) (λid hid=>(Jg aaj (λh=>ahj id h hid)).symm);refine⟨oj,y,TA,hyj,hwj,?_⟩;have aeY:∀(l:Nat) (ol:Oper) (z:Out),ops[l]?=some ol->outs[l]?=some z->l≠i->(listed.setIfInBounds j true).getD l true=false->
    ¬Rj ops i l->oi.apart ops ol=true/\indep x z:=λl ol z hl hz hli ZE wD=>by
    refine js l ol z hl hz hli ?_ wD;by_cases hjl:j=l;·subst hjl;exact ahi
    ·rw[getD_set_ne true hjl]at ZE;exact ZE
   have Rm:sH P k ops oi (cG t oj.dst y.v) (y.act m) x:=hy.same (Fq a3 t y.v) (λid hid=>Jg ahm (λh=>ahk id h hid));refine ih (listed.setIfInBounds j true) _ _ aeY (Rk.next hj) (ready_mono hr (Ne.symm wb)) Rm ?_;rw[Array.setIfInBounds_comm _ _ wb];exact Co cI hK _ _ _ _ _ _ (UG aaj ahm a2 ahl t m) rQ
def pg (P:Program) (k:Nat) (ops:Array Oper) (K:Fr->Mem->Prop):List Oper->List Out->Fr->Mem->Prop
 | [],[],t,m=>K t m
 |o::r,x::xs,t,m=>sH P k ops o t m x/\pg P k ops K r xs (cG t o.dst x.v) (x.act m)
 |_,_,_,_=>False
theorem Cp {outs:List Out} (cI:∀(i:Nat) (o:Out),outs[i]?=some o->o.ok) {K:Fr->Mem->Prop} (hK:∀t m t' m',ZD t m t' m'->K t m->K t' m')
 (Ez:∀(i j:Nat) (oj:Oper) (x y:Out),i<j->ops[j]?=some oj->outs[i]?=some x->outs[j]?=some y->¬Rj ops i j->indep x y):
 ∀(l:List Oper) (xs:List Out) (i:Nat) (listed:Array Bool) (t:Fr) (m:Mem),(∀j,l[j]?=ops[i+j]?)->(∀j,xs[j]?=outs[i+j]?)->(∀j,j<i->listed.getD j true=true)->Down ops listed->
  Region.lexFrom .any ops l.length i listed=true->pg P k ops K l xs t m->u7 P k ops outs K l.length listed t m
 | [],[],_,_,_,_,_,_,_,_,hB,h=>⟨by simpa[Region.lexFrom]using hB,h⟩
 | [],_::_,_,_,_,_,_,_,_,_,_,h=>h.elim
 |_::_,[],_,_,_,_,_,_,_,_,_,h=>h.elim
 |o::l,x::xs,i,listed,t,m,hl,uH,ahn,Rk,hB,h=>by
  have h0:ops[i]?=some o:=by simpa using(hl 0).symm
  have hx0:outs[i]?=some x:=by simpa using(uH 0).symm
  simp only[alu,Region.lexFrom,alE]at hB;obtain⟨⟨hr,hf⟩,hB'⟩:=hB;obtain⟨hw,rQ⟩:=h;refine GD cI hK h0 hx0 l.length listed t m (λj oj y TA hyj wb ZE wD=>?_) Rk (by simpa using hr) hw
   (Cp cI hK Ez l xs (i+1) _ _ _ (λj=>by have:=hl (j+1);simpa[Nat.add_assoc,Nat.add_comm 1 j]using this) (λj=>by have:=uH (j+1);simpa[Nat.add_assoc,Nat.add_comm 1 j]using this)
    (λj hj=>?_) (Rk.next (by simpa using hr)) hB' rQ)
  ·have bn:i<j:=by
    rcases Nat.lt_or_ge i j with h1|h1;·exact h1
    ·have:j<i:=by omega
     rw[ahn j this]at ZE;cases ZE
   exact⟨Region.free_spec h0 hf j oj TA wb ZE (λe he hb heq=>wD (.one TA he hb heq)),Ez i j oj x y bn TA hx0 hyj wD⟩
  ·by_cases wb:j=i
   ·subst wb;rcases Nat.lt_or_ge j listed.size with h1|h1;·simp[h1]
    ·simp[Nat.not_lt.2 (by simpa using h1:listed.size<=j)]
   ·rw[getD_set_ne true (Ne.symm wb)];exact ahn j (by omega)
end
end Go.Jq
namespace Go.Jq
open Go
structure nc where
 keys:List Nat
 F:List Nat
def Cq (x y:nc):Bool:=x.keys.all (λi=>!y.F.contains i&&!y.keys.contains i)&&y.keys.all (λi=>!x.F.contains i)
def aak (f:nc) (m:Nat):Nat->List nc->Bool
 |_,[]=>true
 |i,g::r=>(m.testBit i||Cq g f)&&aak f m (i+1) r
def lu (early:List nc):List nc->List Nat->Bool
 | [],_=>true
 |f::r,m::ms=>aak f m 0 early&&lu (early++[f]) r ms
 |_::_,[]=>false
theorem Fs {f:nc} {m:Nat}:∀{l:List nc} {k:Nat},aak f m k l=true->∀i g,l[i]?=some g->m.testBit (k+i)=false->Cq g f=true
 | [],_,_,i,g,hi,_=>by simp at hi
 |x::l,k,h,i,g,hi,hb=>by
  simp only[aak,alE,Bool.or_eq_true]at h;cases i with
  |zero=>simp at hi;subst hi;rw[Nat.add_zero]at hb;rcases h.1 with h1|h1
         ·rw[hb]at h1;cases h1
         ·exact h1
  |succ i=>exact Fs h.2 i g (by simpa using hi) (by rw[<-hb];congr 1;omega)
theorem sI:∀{l early:List nc} {ms:List Nat},lu early l ms=true->∀i j fi fj,i<early.length+j->(early++l)[i]?=some fi->l[j]?=some fj->
 ∃m,ms[j]?=some m/\(m.testBit i=false->Cq fi fj=true)
 | [],_,_,_,i,j,fi,fj,_,_,hj=>by simp at hj
 |f::l,early,[],h,i,j,fi,fj,_,_,_=>by simp[lu]at h
 |f::l,early,m::ms,h,i,j,fi,fj,bn,hi,hj=>by
  simp only[lu,alE]at h;cases j with
  |zero=>
   simp at hj;subst hj;refine⟨m,rfl,λhb=>Fs h.1 i fi ?_ (by simpa using hb)⟩;rw[List.getElem?_append_left (by simpa using bn)]at hi;exact hi
  |succ j=>
   obtain⟨m',h1,h2⟩:=sI h.2 i j fi fj (by simp;omega) (by simpa using hi) (by simpa using hj);exact⟨m',by simpa using h1,h2⟩
def orM (m:Nat):Nat->List Nat->Nat
 |_,[]=>0
 |i,c::r=>(if m.testBit i then c else 0)|||orM m (i+1) r
def qP (done:List Nat):List Nat->List Nat
 | []=>[]
 |m::ms=>(m|||orM m 0 done)::qP (done++[m|||orM m 0 done]) ms
theorem Jh {m b:Nat}:∀{l:List Nat} {i:Nat},(orM m i l).testBit b=true->∃k c,l[k]?=some c/\m.testBit (i+k)=true/\c.testBit b=true
 | [],_,h=>by simp[orM]at h
 |c::r,i,h=>by
  rw[orM,Nat.testBit_or,Bool.or_eq_true]at h;rcases h with h|h
  ·split at h;·rename_i hm;exact⟨0,c,rfl,hm,h⟩
   ·simp at h
  ·obtain⟨k,c',h1,h2,h3⟩:=Jh h;exact⟨k+1,c',by simpa using h1,by rw[<-h2];congr 1;omega,h3⟩
theorem Af {R:Nat->Nat->Prop} (hR:∀{i k j},R i k->R k j->R i j):∀{ms done:List Nat},(∀k c b,done[k]?=some c->c.testBit b=true->R b k)->(∀j m b,ms[j]?=some m->m.testBit b=true->R b (done.length+j))->
 ∀j c b,(qP done ms)[j]?=some c->c.testBit b=true->R b (done.length+j)
 | [],_,_,_,j,c,b,h,_=>by simp[qP]at h
 |m::ms,done,hd,hm,j,c,b,h,hb=>by
  have oc:∀b,(m|||orM m 0 done).testBit b=true->R b done.length:=by
   intro b hb;rw[Nat.testBit_or,Bool.or_eq_true]at hb;rcases hb with hb|hb;·simpa using hm 0 m b rfl hb
   ·obtain⟨k,c',h1,h2,h3⟩:=Jh hb;exact hR (hd k c' b h1 h3) (by simpa using hm 0 m k rfl (by simpa using h2))
  cases j with
  |zero=>
   simp only[qP,List.getElem?_cons_zero,alJ]at h;subst h;exact oc b hb
  |succ j=>
   simp only[qP,List.getElem?_cons_succ]at h;have:=Af (R:=R) hR (ms:=ms) (done:=done++[m|||orM m 0 done]) (λk c' b' h1 h2=>by
    rcases Nat.lt_or_ge k done.length with hk|hk
    ·rw[List.getElem?_append_left hk]at h1;exact hd k c' b' h1 h2
    ·rw[List.getElem?_append_right hk]at h1;have GF:k-done.length=0:=by
      rcases Nat.eq_zero_or_pos (k-done.length)with h0|h0;·exact h0
      ·rw[List.getElem?_eq_none (by simp;omega)]at h1;cases h1
     rw[GF]at h1;simp only[List.getElem?_cons_zero,alJ]at h1;subst h1;have:k=done.length:=by omega
     rw[this];exact oc b' h2) (λj' m' b' h1 h2=>by
      have:=hm (j'+1) m' b' (by simpa using h1) h2;rw[aln,alu,alB];rw[show done.length+(0+1)+j'=done.length+(j'+1) by omega];exact this) j c b h hb
   rw[aln,alu,alB]at this;rw[show done.length+(j+1)=done.length+(0+1)+j by omega];exact this
def nW:AV->List Nat
 |.ptr id _=>[id]
 |.sl id _ _ _=>[id]
 |.BV id _ _=>[id]
 |.uF id=>[id]
 |_=>[]
def dN (t:Fr):j5->List Nat
 |.load _ x=>nW (ev t x)
 |.store _ a _=>nW (ev t a)
 |.yK x=>nW (ev t x)
 |.B0 x=>nW (ev t x)
 |.app _ _ _ x y=>nW (ev t x)++nW (ev t y)
 |.j6 _ xs=>(xs.map (ev t)).flatMap nW
 |_=>[]
def qQ (n:Nat):gk->List Nat
 |.nil=>[]
 |.new _=>[n]
 |.put id _=>[id]
 |.Zz id _=>[id,n]
theorem tN {t t':Fr} {x:dx} (h:∀s∈x.b6,ah t' s=ah t s):ev t' x=ev t x:=by
 cases x with
 |t i=>exact h i (by simp[dx.b6])
 |c x=>rfl
theorem sJ {t t':Fr}:∀{xs:List dx},(∀s∈xs.flatMap dx.b6,ah t' s=ah t s)->xs.map (ev t')=xs.map (ev t)
 | [],_=>rfl
 |x::xs,h=>by
  simp only[alz];rw[tN λs hs=>h s (by simp[alO,hs]),sJ λs hs=>h s (by rw[alO];exact List.mem_append_right _ hs)]
theorem qR {t t':Fr}:∀{ps:List (Nat×Nat×dx)},(∀s∈ps.flatMap (λp=>p.2.2.b6),ah t' s=ah t s)->qF t' ps=qF t ps
 | [],_=>rfl
 |p::ps,h=>by
  have ih:=qR (t:=t) (t':=t') (ps:=ps) λs hs=>h s (by rw[alO];exact List.mem_append_right _ hs);simp only[qF]at ih⊢;simp only[alz];rw[tN λs hs=>h s (by rw[alO];exact List.mem_append_left _ hs),ih]
theorem wO {t t':Fr} {x:Option dx} (h:∀s∈sE x,ah t' s=ah t s):x.map (ev t')=x.map (ev t):=by
 cases x with
 |none=>rfl
 |some x=>simp only[alX];rw[tN h]
theorem qS {m m':Mem} {dR:Nat} {y:AV} (h:∀id∈nW y,ai m' id=ai m id):fI m' dR y=fI m dR y:=by
 cases y with
 |sl id e off len=>simp only[fI,h id (by simp[nW])]
 |d x=>cases x<;>rfl
 |_=>rfl
theorem MW {k:me} {xs:List AV} {m m':Mem} {n:Nat} (hm:∀id∈xs.flatMap nW,ai m' id=ai m id):mU k xs m' n=mU k xs m n:=by
 unfold mU;split
 ·rename_i id off lo hi;rw[hm id (by simp[nW])]
 ·rfl
 ·rename_i id e off len y;rw[hm id (by simp[nW]),qS λi hi=>hm i (by simp[hi])]
 ·rfl
 ·rename_i id kc;have:mapOf m' id=mapOf m id:=by unfold mapOf;rw[hm id (by simp[nW])]
  rw[this]
 ·rename_i id kc x;have:mapOf m' id=mapOf m id:=by unfold mapOf;rw[hm id (by simp[nW])]
  rw[this]
 ·rename_i id kc;have:mapOf m' id=mapOf m id:=by unfold mapOf;rw[hm id (by simp[nW])]
  rw[this]
 ·rename_i id j x;have:mapOf m' id=mapOf m id:=by unfold mapOf;rw[hm id (by simp[nW])]
  rw[this]
 ·rfl
 ·rename_i id e off len;rw[hm id (by simp[nW])]
 ·rename_i id;have:mapOf m' id=mapOf m id:=by unfold mapOf;rw[hm id (by simp[nW])]
  rw[this]
 ·rfl
theorem MX {o:j5} {t t':Fr} {m m':Mem} {n:Nat} (ht:∀s∈o.b6,ah t' s=ah t s) (hm:∀id∈dN t o,ai m' id=ai m id):bq o t' m' n=bq o t m n:=by
 have one:∀{x:dx},(∀s∈x.b6,s∈o.b6)->ev t' x=ev t x:=λh=>tN λs hs=>ht s (h s hs);cases o with
 |alloc z=>rfl
 |bW f as=>rfl
 |eW x as=>rfl
 |build z ps=>simp only[bq,qR ht]
 |cF a b z ps=>simp only[bq,qR ht]
 |rY f cs=>simp only[bq,sJ ht]
 |j6 k xs=>simp only[bq];rw[sJ ht];exact MW hm
 |pick c a b=>simp only[bq];rw[one (x:=c) (by simp+contextual [j5.b6]),one (x:=a) (by simp+contextual [j5.b6]),one (x:=b) (by simp+contextual [j5.b6])]
 |yL x l h=>simp only[bq];rw[one (x:=x) (by simp+contextual [j5.b6]),wO (x:=l) λs hs=>ht s (by simp[j5.b6,hs]),wO (x:=h) λs hs=>ht s (by simp[j5.b6,hs])]
 |uZ a x l h=>simp only[bq];rw[one (x:=x) (by simp+contextual [j5.b6]),wO (x:=l) λs hs=>ht s (by simp[j5.b6,hs]),wO (x:=h) λs hs=>ht s (by simp[j5.b6,hs])]
 |load k x=>
  simp only[bq];rw[one (x:=x) (by simp[j5.b6])];simp only[dN]at hm;split
  ·rename_i id off he;rw[hm id (by rw[he];simp[nW])]
  all_goals rfl
 |store k a v=>
  simp only[bq];rw[one (x:=a) (by simp+contextual [j5.b6]),one (x:=v) (by simp+contextual [j5.b6])];simp only[dN]at hm;split
  ·rename_i id off vs he hv;rw[hm id (by rw[he];simp[nW])]
  ·rfl
 |yK x=>
  simp only[bq];rw[one (x:=x) (by simp[j5.b6])];simp only[dN]at hm;generalize ev t x=y at hm⊢;split;·rfl
  ·rw[qS hm]
 |B0 x=>
  simp only[bq];rw[one (x:=x) (by simp[j5.b6])];simp only[dN]at hm;split
  ·rename_i id e off len he;rw[hm id (by rw[he];simp[nW])]
  ·rfl
 |app a b el x y=>
  simp only[bq];rw[one (x:=x) (by simp+contextual [j5.b6]),one (x:=y) (by simp+contextual [j5.b6])];simp only[dN]at hm;rw[qS λid hid=>hm id (List.mem_append_right _ hid)];split
  ·split;·rfl
   ·rename_i id e off len he;rw[hm id (by rw[he];simp[nW])]
   ·rename_i id T len he;rw[hm id (by rw[he];simp[nW])]
   ·rfl
  ·rfl
 |_=>
  simp only[bq]
  first
   |rw[tN ht]
   |(rename_i x y;rw[one (x:=x) (by simp+contextual [j5.b6]),one (x:=y) (by simp+contextual [j5.b6])])
def Ji (n:Nat):gk->Nat->Option (Option (List AV))
 |.nil=>λ_=>none
 |.new cs=>λj=>if n=j then some (some cs)else none
 |.put id cs=>λj=>if id=j then some (some cs)else none
 |.Zz id cs=>λj=>if n=j then some (some cs)else if id=j then some none else none
def gw (v:AV) (e:gk) (n:Nat) (F:List Nat):Out:=⟨v,λm=>e.mem m n,Ji n e,qQ n e,F,n,n+1⟩
theorem Jj (v:AV) (e:gk) (n:Nat) (F:List Nat):(gw v e n F).ok:=by
 refine⟨λm id=>?_,λid h=>?_⟩
 ·cases e with
  |nil=>rfl
  |new cs=>simp only[gw,gk.mem,Ji,bF];split<;>rfl
  |put i cs=>simp only[gw,gk.mem,Ji,bF];split<;>rfl
  |Zz i cs=>
   simp only[gw,gk.mem,Ji,bF,fL];split;·rfl
   ·split<;>rfl
 ·cases e with
  |nil=>simp[gw,Ji]at h
  |new cs=>simp only[gw,Ji]at h;split at h
           ·simp[gw,qQ, *]
           ·cases h rfl
  |put i cs=>simp only[gw,Ji]at h;split at h
             ·simp[gw,qQ, *]
             ·cases h rfl
  |Zz i cs=>
   simp only[gw,Ji]at h;split at h;·simp[gw,qQ, *]
   ·split at h;·simp[gw,qQ, *]
    ·cases h rfl
def wP (n:Nat):Out:=⟨.cC [],λm=>m,λ_=>none,[],[],n,n+1⟩
theorem Cr (n:Nat):(wP n).ok:=⟨λ_ _=>rfl,λ_ h=>(h rfl).elim⟩
def UH (ρ:Ren) (m0 m1:Mem) (n:Nat) (id:Nat):Option (Option (List AV)):=
 if n<=id/\(ai m0 (id-n))=none/\(ai m1 (id-n)).isSome then some ((ai m1 (id-n)).map (aj (cf ρ m0 m1 n)))else
  match aF ρ id with
  |some j=>some ((ai m1 j).map (aj (cf ρ m0 m1 n)))
  |none=>none
def bx (ρ:Ren) (m0 m1:Mem) (n:Nat) (m:Mem):Mem:=bR m0 n (cf ρ m0 m1 n) m1 (bU m1 (cf ρ m0 m1 n) ρ m)
def fE (ρ:Ren) (m1:Mem) (n:Nat):List Nat:=ρ.map (·.2)++m1.map λp=>n+p.1
def tO (ρ:Ren) (m0 m1:Mem) (r0:AV) (n:Nat):Out:=
 ⟨r0.aA (cf ρ m0 m1 n),bx ρ m0 m1 n,UH ρ m0 m1 n,fE ρ m1 n,ρ.map (·.2),n,n+Nat.max (aE m0) (aE m1)⟩
theorem Jk:∀{m:Mem} {i:Nat},(ai m i).isSome->∃p∈m,p.1=i
 | [],i,h=>by simp[ai]at h
 |(k,x)::r,i,h=>by
  simp only[ai]at h;split at h;·rename_i e;exact⟨_,alU,e⟩
  ·obtain⟨p,h1,h2⟩:=Jk h;exact⟨p,alY _ h1,h2⟩
theorem MY {ρ:Ren} {nb:Nat} (cI:bX nb ρ=true) (m0 m1:Mem) (r0:AV) (n:Nat):(tO ρ m0 m1 r0 n).ok:=by
 refine⟨λm id=>?_,λid h=>?_⟩
 ·simp only[tO,bx,UH];rw[na,ju cI];split;·rfl
  ·split;·rename_i j hj;simp only[hj]
   ·rename_i hj;simp only[hj]
 ·simp only[tO,UH]at h;simp only[tO,fE];split at h
  ·rename_i hc;obtain⟨p,h1,h2⟩:=Jk hc.2.2;exact List.mem_append_right _ (List.mem_map.2 ⟨p,h1,by omega⟩)
  ·split at h
   ·rename_i j hj;exact List.mem_append_left _ (List.mem_map.2 ⟨_,hU hj,rfl⟩)
   ·exact(h rfl).elim
mutual
theorem Rn {π UI:Nat->Option Nat} (hp:∀i j,π i=some j->UI i=some j):∀(x:AV),cd π x=true->x.aA UI=x.aA π
 |.d _,_=>rfl
 |.ptr id _,h=>by obtain⟨j,hj⟩:=alS.1 h;simp only[AV.aA,hj,hp _ _ hj]
 |.A5 id _,h=>by obtain⟨j,hj⟩:=alS.1 h;simp only[AV.aA,hj,hp _ _ hj]
 |.BV id _ _,h=>by obtain⟨j,hj⟩:=alS.1 h;simp only[AV.aA,hj,hp _ _ hj]
 |.bw _,_=>rfl
 |.sl id _ _ _,h=>by obtain⟨j,hj⟩:=alS.1 h;simp only[AV.aA,hj,hp _ _ hj]
 |.fn _ caps,h=>by simp only[AV.aA,oz hp caps h]
 |.agg cs,h=>by simp only[AV.aA,oz hp cs h]
 |.cC cs,h=>by simp only[AV.aA,oz hp cs h]
 |.uF id,h=>by obtain⟨j,hj⟩:=alS.1 h;simp only[AV.aA,hj,hp _ _ hj]
 |.Bo _,_=>rfl
 |.any,_=>rfl
theorem oz {π UI:Nat->Option Nat} (hp:∀i j,π i=some j->UI i=some j):∀(xs:List AV),bZ π xs=true->aj UI xs=aj π xs
 | [],_=>rfl
 |x::xs,h=>by
  simp only[bZ,alE]at h;simp only[aj,Rn hp x h.1,oz hp xs h.2]
end
theorem GG {ρ:Ren} {nb n:Nat} {m m0:Mem} (cI:bX nb ρ=true) (hh:handed ρ m m0) (o0:∀j id,af ρ j=some id->(ai m0 j).isSome) (id:Nat):ai (bx ρ m0 m0 n m) id=ai m id:=by
 unfold bx;rw[na,if_neg (λh=>by rw[h.2.1]at h;cases h.2.2),ju cI];cases hp:aF ρ id with
 |none=>rfl
 |some j=>
  simp only;have hj:=(fR cI j id (hU hp)).1;obtain⟨cs,cq⟩:=alS.1 (o0 j id hj);obtain⟨mK,h1,h2,h3⟩:=jt hh j cs cq;rw[hj]at h1;cases h1;rw[cq,h2,alX]
  congr 1
  refine oz (λi k hi=>?_) cs h3;unfold cf;obtain⟨c',Bu⟩:=alS.1 (o0 i k hi);rw[Bu];simpa using hi
def Ag (P:Program) (f:Nat) (args:List AV) (m:Mem) (n:Nat) (K:AV->Mem->Nat->nc->Prop):Prop:=
 (∃ρ m0 dV r0 m1 nb,bX nb ρ=true/\args=aj (af ρ) dV/\bZ (af ρ) dV=true/\handed ρ m m0/\(∀j id,af ρ j=some id->(ai m0 j).isSome)/\
  bB P f dV m0 (λr m'=>r=r0/\m'=m1)/\
  K (r0.aA (cf ρ m0 m1 n)) (bx ρ m0 m1 n m) (n+Nat.max (aE m0) (aE m1)) ⟨fE ρ m1 n,ρ.map (·.2)⟩)\/
 (∃ρ m0 dV r0 nb,bX nb ρ=true/\args=aj (af ρ) dV/\bZ (af ρ) dV=true/\handed ρ m m0/\(∀j id,af ρ j=some id->(ai m0 j).isSome)/\
  bB P f dV m0 (λr m'=>r=r0/\m'=m0)/\(∀π,r0.aA π=r0)/\
  K r0 m (n+Nat.max (aE m0) (aE m0)) ⟨[],ρ.map (·.2)⟩)
def Ah (P:Program) (dst:Option Nat) (op:j5) (S:St) (K:St->nc->Prop):Prop:=
 match op with
 |.bW f args=>Ag P f (args.map (ev S.t)) S.m S.n λv m n F=>K ⟨cG S.t dst v,m,n⟩ F
 |.eW x args=>match ev S.t x with
  |.fn f caps=>lK P f=true/\Ag P f (args.map (ev S.t)++caps) S.m S.n λv m n F=>K ⟨cG S.t dst v,m,n⟩ F
  |_=>False
 |op=>match bq op S.t S.m S.n with
  |some (v,e)=>K ⟨cG S.t dst v,e.mem S.m S.n,S.n+1⟩ ⟨qQ S.n e,dN S.t op⟩
  |none=>False
def gx (P:Program):List bC->List nc->List Nat->St->(St->Prop)->Prop
 | [],acc,ms,S,K=>lu [] acc.reverse (qP [] ms)=true/\K S
 |o::r,acc,ms,S,K=>match o.guard with
  |none=>Ah P o.dst o.op S λS' f=>gx P r (f::acc) ms S' K
  |some (g,want)=>match ah S.t g with
   |.d (.bool b)=>if b=want then Ah P o.dst o.op S (λS' f=>gx P r (f::acc) ms S' K)else gx P r (⟨[],[]⟩::acc) ms ⟨cG S.t o.dst (.cC []),S.m,S.n+1⟩ K
   |.cC _=>gx P r (⟨[],[]⟩::acc) ms ⟨cG S.t o.dst (.cC []),S.m,S.n+1⟩ K
   |_=>False
end Go.Jq
namespace Go.Jq
open Go
section
variable{P:Program} {k:Nat} {ops:Array Oper}
theorem jP.of_heap {c:Ctx} {w w':World} (h:w'.heap=w.heap):jP c c w w':=
 ⟨λ_ h=>h,λb _=>by rw[h],λ_ _=>rfl,λb n hn=>by rw[<-hn];exact iA (by rw[h])⟩
theorem MR.of_heap {c:Ctx} {m:Mem} {w w':World} (hM:MR c m w) (h:w'.heap=w.heap):MR c m w' where
 own:=λid cells hid=>(hM.own id cells hid).later (jP.of_heap h) λb hb=>⟨by rw[h],λhi=>hM.sep hi ⟨id,by rw[hid];rfl,hb⟩⟩
 inj:=hM.inj
 dY:=λb hb=>by rw[h];exact hM.dY b hb
 zZ:=hM.o7 (λ_ h=>h) λb _=>by rw[h]
theorem MR.wQ {c:Ctx} {m m':Mem} {w:World} (hM:MR c m w) (h:∀id,ai m' id=ai m id):MR c m' w where
 own:=λid cells hid=>hM.own id cells (by rw[<-h];exact hid)
 inj:=λid mK b h1 h2=>hM.inj id mK b (by rw[<-h];exact h1) (by rw[<-h];exact h2)
 dY:=hM.dY
 zZ:=hM.zZ
theorem Bb.wQ {E:Env} {c:Ctx} {m m':Mem} {w:World} (hp:Bb E c m w) (h:∀id,ai m' id=ai m id):Bb E c m' w where
 step:=hp.step
 own:=λb ⟨id,h1,h2⟩=>hp.own b ⟨id,by rw[<-h];exact h1,h2⟩
 di:=λid hid hm=>hp.di id hid (by rw[<-h];exact hm)
theorem Ft {E:Env} {S:St} {a:Act} {w w':World} (h:ml E k S a w) (hh:w'.heap=w.heap) (ho:w'.os=w.os) (ht:w'.tape=w.tape) (hu:w'.output=w.output):ml E k S a w':=by
 obtain⟨c,hc,hp⟩:=h;refine⟨c,⟨hc.defers,hc.size,λi=>oo (jP.of_heap hh) _ _ (hc.fr i),hc.mr.of_heap hh,hc.free⟩,⟨?_,λb hb=>hp.own b hb,hp.di⟩⟩;have:=hp.step;exact⟨ho.trans this.os,ht.trans this.tape,hu.trans this.output,by rw[hh];exact this.size,λb hb hn=>by rw[hh];exact this.di b hb hn,
  λb n hn=>by rw[iA (by rw[hh]:w'.heap[b]?=w.heap[b]?)];exact this.rows b n hn,this.dY,this.yI⟩
theorem wR {o:Oper} {t:Fr} {c:Ctx} {a:Act} {w:World} {b:Bool} (h:pf ops o t=some b) (hF:FR c w t a.tmps):Region.wanted o (yielded ops a.tmps)=b:=by
 unfold pf at h;unfold Region.wanted;cases ho:o.guard with
 |none=>rw[ho]at h;cases h;rfl
 |some jw=>
  obtain⟨j,wt⟩:=jw;rw[ho]at h;simp only at h;split at h
  ·rename_i d hd;split at h
   ·rename_i b' hb;cases h;have hx:=hF d;rw[hb]at hx;have hv:=fQ hx;have hy:yielded ops a.tmps j=some b':=by
     unfold yielded;cases hj:ops[j]?with
     |none=>rw[hj]at hd;cases hd
     |some o'=>
      rw[hj]at hd;simp only[Option.bind_some]at hd;simp only[Option.bind_some,hd];rw[Array.getD_eq_getD_getElem?]at hv;cases hq:a.tmps[d]?with
      |none=>rw[hq]at hv;cases hv
      |some u=>rw[hq]at hv;simp only[al6]at hv;subst hv;rfl
    simp only[hy];cases b'<;>cases wt<;>rfl
   ·rename_i cs hb;cases h;have hx:=hF d;rw[hb]at hx;simp only[Rel]at hx;obtain⟨vs,hv,_⟩:=hx;have hy:yielded ops a.tmps j=none:=by
     unfold yielded;cases hj:ops[j]?with
     |none=>rfl
     |some o'=>
      rw[hj]at hd;simp only[Option.bind_some]at hd;simp only[Option.bind_some,hd];rw[Array.getD_eq_getD_getElem?]at hv;cases hq:a.tmps[d]?with
      |none=>rfl
      |some u=>rw[hq]at hv;simp only[al6]at hv;subst hv;rfl
    simp only[hy];cases wt<;>rfl
   ·cases h
  ·cases h
def Inv (E:Env) (k:Nat) (outs:List Out) (N:Nat) (listed:Array Bool) (t:Fr) (m:Mem) (a:Act) (w:World):Prop:=
 ∃c,a.defers=[]/\a.tmps.size=k/\FR c w t a.tmps/\MR c m w/\Bb E c m w/\(∀id,N<=id->c.φ id=.free)/\
  ∀(j:Nat) (x:Out),outs[j]?=some x->listed.getD j true=false->∀id,x.lo<=id->id<x.hi->c.φ id=.free
def mo:Nat->List Out->Nat->Prop
 |n,[],N=>n=N
 |n,x::xs,N=>x.lo=n/\n<=x.hi/\mo x.hi xs N
theorem mo.spec:∀{l:List Out} {n N:Nat},mo n l N->n<=N/\∀(j:Nat) (x:Out),l[j]?=some x->n<=x.lo/\x.lo<=x.hi/\x.hi<=N
 | [],n,N,h=>⟨by simp only[mo]at h;omega,λj x hj=>by simp at hj⟩
 |y::l,n,N,h=>by
  simp only[mo]at h;obtain⟨h1,h2,h3⟩:=h;obtain⟨h4,h5⟩:=mo.spec h3;refine⟨by omega,λj x hj=>?_⟩;cases j with
  |zero=>simp at hj;subst hj;omega
  |succ j=>have:=h5 j x (by simpa using hj);omega
theorem mo.apart:∀{l:List Out} {n N:Nat},mo n l N->∀(i j:Nat) (x y:Out),i<j->l[i]?=some x->l[j]?=some y->x.hi<=y.lo
 | [],n,N,h,i,j,x,y,_,hi,_=>by simp at hi
 |z::l,n,N,h,i,j,x,y,bn,hi,hj=>by
  simp only[mo]at h;cases j with
  |zero=>omega
  |succ j=>
   cases i with
   |zero=>simp at hi;subst hi;exact(h.2.2.spec.2 j y (by simpa using hj)).1
   |succ i=>exact mo.apart h.2.2 i j x y (by omega) (by simpa using hi) (by simpa using hj)
theorem u9 {E:Env} {outs:List Out} {n N:Nat} (Mi:mo n outs N) (hEn:E.n<=n) (cI:∀(i:Nat) (o:Out),outs[i]?=some o->o.ok) (Ri:∀(i:Nat) (o:Oper),ops[i]?=some o->∀d,o.dst=some d->d<k)
 {K:Fr->Mem->Prop} {Q:Exit->Act->World->Prop} (hK:∀t m a w,K t m->ml E k ⟨t,m,N⟩ a w->Q .normal a w):
 ∀(fuel:Nat) (listed:Array Bool) (t:Fr) (m:Mem) (a:Act) (w:World),Inv E k outs N listed t m a w->u7 P k ops outs K fuel listed t m->wpAny P .any ops Q fuel listed a w
 |0,listed,t,m,a,w,⟨c,h1,h2,h3,h4,h5,h6,_⟩,h=>⟨h.1,hK t m a w h.2 ⟨c,⟨h1,h2,h3,h4,h6⟩,h5⟩⟩
 |fuel+1,listed,t,m,a,w,⟨c,h1,h2,h3,h4,h5,h6,h7⟩,h=>by
  refine⟨λh0=>hK t m a w (h.1 h0) ⟨c,⟨h1,h2,h3,h4,h6⟩,h5⟩,λi hi=>?_⟩;obtain⟨o,out,ho,GH,hw,rQ⟩:=h.2 i hi;have ZE:=(mem_ready.1 hi).1;have hx:=Mi.spec.2 i out GH;have aaj:=cI i out GH;unfold wpOp;simp only[ho];have put:∀(c':Ctx) (w':World) (u:Value),(Rel c' w' out.v u\/out.v=.any)->MR c' (out.act m) w'->Step (iV c m) c c' w w'->(∀b,iV c' (out.act m) b->iV c m b\/w.heap.size<=b)->
   (∀id,¬(out.lo<=id/\id<out.hi)->c'.φ id=c.φ id)->(∀id,¬(out.lo<=id/\id<out.hi)->(ai (out.act m) id).isSome->(ai m id).isSome)->
   Inv E k outs N (listed.setIfInBounds i true) (cG t o.dst out.v) (out.act m) (a.put o.dst u) w':=by
   intro c' w' u hr yG hs yS fZ MQ;have uY:∀id,c.φ id≠.free->c'.φ id=c.φ id:=λid hid=>fZ id λhr=>hid (h7 i out GH ZE id hr.1 hr.2);have hl:=hs.later h4 uY;have hF':FR c' w' t a.tmps:=λi=>oo hl _ _ (h3 i);refine⟨c',?_,?_,?_,yG,h5.next hs yS λid hid hm=>?_,λid hid=>?_,λj y hy uv id ajM ajN=>?_⟩;·cases o.dst<;>exact h1
   ·cases o.dst with
    |none=>exact h2
    |some d=>simp only[Act.put,Array.size_setIfInBounds];exact h2
   ·cases hd:o.dst with
    |none=>exact hF'
    |some d=>
     simp only[cG,Act.put];refine Uw hF' (by rw[h2];exact Ri i o ho d hd) ?_;rcases hr with h|h;·exact h
     ·rw[h];simp[Rel]
   ·exact⟨MQ id (by omega) hm,fZ id (by omega)⟩
   ·rw[fZ id (by omega)];exact h6 id hid
   ·by_cases wb:j=i
    ·subst wb;exfalso;rcases Nat.lt_or_ge j listed.size with h'|h';·simp[h']at uv
     ·simp[Array.getElem?_eq_none h']at ZE
    ·have Tu:=Mi.spec.2 j y hy;rw[getD_set_ne true (Ne.symm wb)]at uv;rw[fZ id ?_];·exact h7 j y hy uv id ajM ajN
     ·rcases Nat.lt_or_gt_of_ne wb with h'|h';·have:=Mi.apart j i y out h' hy GH;omega
      ·have:=Mi.apart i j out y h' GH hy;omega
  rcases hw with⟨qC,wC⟩|⟨qC,wC,hw3⟩
  ·rw[wR qC h3,if_pos rfl];refine .inl (wC t m (λ_ _=>rfl) (λ_ _=>rfl) c a w h1 h2 h3 h4 (h7 i out GH ZE) _ _ ?_);intro u w' c' hr yG hs yS fZ MQ;exact u9 Mi hEn cI Ri hK fuel _ _ _ _ _ (put c' w' u hr yG hs yS fZ MQ) rQ
  ·rw[wR qC h3];simp only[aly,if_false];have hm:∀id,ai (out.act m) id=ai m id:=λid=>by rw[aaj.1,hw3 id]
   refine u9 Mi hEn cI Ri hK fuel _ _ _ _ _ (put c w undef (.inl (by rw[wC];exact p8 _ _)) (h4.wQ hm) (Step.refl _ _ _) (λb ⟨id,h8,h9⟩=>.inl ⟨id,by rw[<-hm];exact h8,h9⟩) (λ_ _=>rfl) (λid _ h=>by rw[<-hm];exact h)) rQ
theorem Jl {o:Oper} {ao:bC} (sf:rN P ops k o=some ao) (iw:ao.op.b6.all (λi=>(o.looksAt ops).contains i)=true) {t:Fr} {m:Mem} {n:Nat} {v:AV} {e:gk}
 (he:bq ao.op t m n=some (v,e)):p9 P k ops o t m (gw v e n (dN t ao.op)):=by
 intro t' m' ht hm c a w _ _ hF hM js Kw Q hKw;have ajO:l9 P o.op=some ao.op:=by
  unfold rN at sf;split at sf
  ·rename_i h1 _;split at sf;·cases sf;exact h1
   ·cases sf
  ·cases sf
 have Ty:bq ao.op t' m' n=some (v,e):=by
  rw[MX (λs hs=>ht s ?_) hm];·exact he
  ·have:=List.all_eq_true.1 iw s hs;simpa using this
 have hn:c.φ n=.free:=js n (ali _) (Nat.lt_succ_self _);obtain⟨r,w',c',dJ,hr,yG,hs,fZ,ho⟩:=Ch (o:=o) ajO hF hM hn Ty;have MQ:∀id,¬(n<=id/\id<n+1)->(ai (e.mem m' n) id).isSome->(ai m' id).isSome:=by
  intro id hid h;have pe:n≠id:=by omega
  cases e with
  |nil=>exact h
  |new cs=>simp only[gk.mem,bF]at h;rw[if_neg pe]at h;exact h
  |put i cs=>
   simp only[gk.mem,bF]at h;split at h;·rename_i e;subst e;exact Jc Ty
   ·exact h
  |Zz i cs=>
   simp only[gk.mem,bF,fL]at h;rw[if_neg pe]at h;split at h;·simp at h
   ·exact h
 have aho:∀id,¬(n<=id/\id<n+1)->c'.φ id=c.φ id:=λid hid=>fZ id (.inl (by omega));unfold Oper.wp;rw[dJ];rcases hr with⟨u,rfl,lJ⟩|⟨rfl,hv⟩;·exact hKw u w' c' (.inl lJ) yG hs ho aho MQ
 ·exact hKw undef w' c' (.inr hv) yG hs ho aho MQ
theorem sK {ρ:Ren} {m m':Mem} (h:∀id∈ρ.map (·.2),ai m' id=ai m id):∀{m0:Mem},handed ρ m m0->handed ρ m' m0
 | [],_=>trivial
 |(j,cs)::r,hh=>by
  simp only[handed]at hh⊢;refine⟨?_,sK h hh.2⟩;have h1:=hh.1;split at h1
  ·rename_i id hid;rw[h id (List.mem_map.2 ⟨_,lP hid,rfl⟩)];exact h1
  ·exact h1.elim
theorem Jm {o:Oper} {f:Nat} {dV:List AV} {ρ:Ren} {m0 m1:Mem} {r0:AV} {nb n:Nat} {t:Fr} {m:Mem} (cI:bX nb ρ=true) (du:bZ (af ρ) dV=true) (hh:handed ρ m m0)
 (o0:∀j id,af ρ j=some id->(ai m0 j).isSome) (hA:bB P f dV m0 (λr m'=>r=r0/\m'=m1))
 (Ro:∀(t':Fr),(∀s∈o.looksAt ops,ah t' s=ah t s)->∀(c:Ctx) (a:Act) (w:World),FR c w t' a.tmps->∃vs,bg c w (aj (af ρ) dV) vs/\(execOp a.eval o).run P w=.ok (.enter f vs.toArray) w):
 p9 P k ops o t m (tO ρ m0 m1 r0 n):=by
 intro t' m' ht hm c a w _ _ hF hM js Kw Q hKw;obtain⟨vs,pC,dJ⟩:=Ro t' ht c a w hF;have hR:=yX (n:=n) hA ρ cI du (sK hm hh) o0 (F:=λid=>n<=id/\id<n+Nat.max (aE m0) (aE m1)) (λr m2 hq id h1 h2=>by obtain⟨rfl,rfl⟩:=hq;exact⟨h1,h2⟩);unfold Oper.wp;rw[dJ,Oper.upon_enter];refine(hR c w vs pC hM (λid hid=>js id hid.1 hid.2)).mono ?_;rintro e' w' ⟨v,r,m2,n',c',rfl,⟨r1,m3,⟨rfl,rfl⟩,rfl,rfl,rfl⟩,lJ,yG,hs,ho,fZ,MQ,hnn⟩;exact hKw v w' c' (.inl lJ) yG hs ho fZ MQ
def Jn (r0:AV) (n hi:Nat) (F:List Nat):Out:=⟨r0,λm=>m,λ_=>none,[],F,n,hi⟩
theorem Jo {o:Oper} {f:Nat} {dV:List AV} {ρ:Ren} {m0:Mem} {r0:AV} {nb n:Nat} {t:Fr} {m:Mem} (cI:bX nb ρ=true) (du:bZ (af ρ) dV=true) (hh:handed ρ m m0)
 (o0:∀j id,af ρ j=some id->(ai m0 j).isSome) (hA:bB P f dV m0 (λr m'=>r=r0/\m'=m0)) (Cl:∀π,r0.aA π=r0)
 (Ro:∀(t':Fr),(∀s∈o.looksAt ops,ah t' s=ah t s)->∀(c:Ctx) (a:Act) (w:World),FR c w t' a.tmps->∃vs,bg c w (aj (af ρ) dV) vs/\(execOp a.eval o).run P w=.ok (.enter f vs.toArray) w):
 p9 P k ops o t m (Jn r0 n (n+Nat.max (aE m0) (aE m0)) (ρ.map (·.2))):=by
 intro t' m' ht hm c a w _ _ hF hM js Kw Q hKw;obtain⟨vs,pC,dJ⟩:=Ro t' ht c a w hF;have hh':=sK hm hh;have nK:=GG (n:=n) cI hh' o0;have hR:=yX (n:=n) hA ρ cI du hh' o0 (F:=λid=>n<=id/\id<n+Nat.max (aE m0) (aE m0)) (λr m2 hq id h1 h2=>by obtain⟨rfl,rfl⟩:=hq;exact⟨h1,h2⟩);unfold Oper.wp;rw[dJ,Oper.upon_enter];refine(hR c w vs pC hM (λid hid=>js id hid.1 hid.2)).mono ?_;rintro e' w' ⟨v,r,m2,n',c',rfl,⟨r1,m3,⟨hr1,Ai⟩,rfl,rfl,rfl⟩,lJ,yG,hs,ho,fZ,MQ,hnn⟩;subst hr1;subst Ai;rw[Cl]at lJ
 exact hKw v w' c' (.inl lJ) (yG.wQ λid=>(nK id).symm) hs (λb ⟨id,h1,h2⟩=>ho b ⟨id,by exact(congrArg Option.isSome (nK id)).trans h1,h2⟩) fZ λ_ _ h=>h
theorem Fu {o:Oper} {f:Nat} {args:List AV} {n:Nat} {t:Fr} {m:Mem} {K:AV->Mem->Nat->nc->Prop} (h:Ag P f args m n K)
 (Ro:∀(t':Fr),(∀s∈o.looksAt ops,ah t' s=ah t s)->∀(c:Ctx) (a:Act) (w:World),FR c w t' a.tmps->∃vs,bg c w args vs/\(execOp a.eval o).run P w=.ok (.enter f vs.toArray) w):
 ∃out:Out,out.ok/\out.lo=n/\n<=out.hi/\p9 P k ops o t m out/\K out.v (out.act m) out.hi ⟨out.keys,out.F⟩:=by
 rcases h with⟨ρ,m0,dV,r0,m1,nb,cI,rfl,du,hh,o0,hA,hk⟩|⟨ρ,m0,dV,r0,nb,cI,rfl,du,hh,o0,hA,Cl,hk⟩;·exact⟨tO ρ m0 m1 r0 n,MY cI _ _ _ _,rfl,Nat.le_add_right _ _,Jm cI du hh o0 hA Ro,hk⟩
 ·exact⟨Jn r0 n _ _,⟨λ_ _=>rfl,λ_ h=>(h rfl).elim⟩,rfl,Nat.le_add_right _ _,Jo cI du hh o0 hA Cl Ro,hk⟩
theorem UJ {o:Oper} {ao:bC} (sf:rN P ops k o=some ao):l9 P o.op=some ao.op:=by
 unfold rN at sf;split at sf
 ·rename_i h1 _;split at sf;·cases sf;exact h1
  ·cases sf
 ·cases sf
theorem Rp {o:Oper} {ao:bC} (sf:rN P ops k o=some ao) (iw:ao.op.b6.all (λi=>(o.looksAt ops).contains i)=true) {S:St} {K:St->nc->Prop} (h:Ah P ao.dst ao.op S K):
 ∃out:Out,out.ok/\out.lo=S.n/\S.n<=out.hi/\p9 P k ops o S.t S.m out/\K ⟨cG S.t o.dst out.v,out.act S.m,out.hi⟩ ⟨out.keys,out.F⟩:=by
 have hd:ao.dst=o.dst:=(mZ sf).2.1;have A9:=UJ sf;have UK:∀{t':Fr},(∀s∈o.looksAt ops,ah t' s=ah S.t s)->∀s∈ao.op.b6,ah t' s=ah S.t s:=λht s hs=>ht s (by simpa using List.all_eq_true.1 iw s hs);rw[hd]at h;unfold Ah at h;split at h
 ·rename_i f args Bw;rw[Bw]at A9 UK;refine Fu h λt' ht c a w hF=>?_;obtain⟨callee,ku,ts,UL,v8|v8⟩:=wK A9 rfl
  ·obtain⟨f',rfl,hg',he⟩:=v8;cases he;refine⟨ku.toList.map a.eval,?_,?_⟩
   ·rw[<-sJ (t':=t') (UK ht)];exact tG hF ku.toList
   ·obtain⟨dst,op,ty,pos,after,guard⟩:=o;simp only at UL;subst UL;have h1:(execOp a.eval ⟨dst,.call ⟨.value (.func f),ku,ts⟩,ty,pos,after,guard⟩).run P w=(callFunc f ((#[]++ku.map a.eval)++#[])).run P w:=rfl
    rw[h1,lQ hg' w]
    congr 2
    apply Array.ext';simp
  ·obtain⟨y,_,he⟩:=v8;cases he
 ·rename_i x args Bw;split at h
  ·rename_i f caps pa;obtain⟨hg',h⟩:=h;rw[Bw]at A9 UK;refine Fu h λt' ht c a w hF=>?_;obtain⟨callee,ku,ts,UL,v8|v8⟩:=wK A9 rfl
   ·obtain⟨f',_,_,he⟩:=v8;cases he
   ·obtain⟨y,rfl,he⟩:=v8;cases he;have hx:=bL (w:=w) hF y;rw[tN (t:=S.t) (λs hs=>UK ht s (by simp only[j5.b6];exact List.mem_append_left _ hs)),pa]at hx;obtain⟨us,hu,lJ⟩:=B8 hx;refine⟨ku.toList.map a.eval++us,?_,?_⟩
    ·rw[<-sJ (t':=t') (λs hs=>UK ht s (by simp only[j5.b6];exact List.mem_append_right _ hs))];exact(tG hF ku.toList).append lJ
    ·obtain⟨dst,op,ty,pos,after,guard⟩:=o;simp only at UL;subst UL;have h1:(execOp a.eval ⟨dst,.call ⟨.value y,ku,ts⟩,ty,pos,after,guard⟩).run P w=((Deferred.ofValue (a.eval y) (ku.map a.eval))>>=λd=>invoke d.target d.args).run P w:=rfl;rw[h1,hu];have h2:((Deferred.ofValue (.func (.func f) #[] us.toArray) (ku.map a.eval))>>=λd=>invoke d.target d.args).run P w=(callFunc f ((#[]++ku.map a.eval)++us.toArray)).run P w:=rfl
     rw[h2,lQ hg' w]
     congr 2
     apply Array.ext';simp
  ·exact h.elim
 ·split at h
  ·rename_i v e he;exact⟨gw v e S.n (dN S.t ao.op),Jj _ _ _ _,rfl,Nat.le_succ _,Jl sf iw he,h⟩
  ·exact h.elim
theorem Jp {o:Oper} {g:Nat} {want:Bool} {t:Fr} {b:Bool} (hg:lL ops o.guard=some (some (g,want))) (hb:ah t g=.d (.bool b)):pf ops o t=some (b==want):=by
 unfold lL at hg;unfold pf;cases ho:o.guard with
 |none=>rw[ho]at hg;cases hg
 |some jw=>
  obtain⟨j,wt⟩:=jw;rw[ho]at hg;simp only at hg⊢;split at hg
  ·rename_i o' hj;split at hg
   ·rename_i d hd;cases hg;simp only[hj,Option.bind_some,hd,hb]
   ·cases hg
  ·cases hg
theorem GI {o:Oper} {g:Nat} {want:Bool} {t:Fr} {cs:List AV} (hg:lL ops o.guard=some (some (g,want))) (hb:ah t g=.cC cs):pf ops o t=some false:=by
 unfold lL at hg;unfold pf;cases ho:o.guard with
 |none=>rw[ho]at hg;cases hg
 |some jw=>
  obtain⟨j,wt⟩:=jw;rw[ho]at hg;simp only at hg⊢;split at hg
  ·rename_i o' hj;split at hg
   ·rename_i d hd;cases hg;simp only[hj,Option.bind_some,hd,hb]
   ·cases hg
  ·cases hg
theorem GJ {o:Oper} {t:Fr} (hg:lL ops o.guard=some none):pf ops o t=some true:=by
 unfold lL at hg;unfold pf;cases ho:o.guard with
 |none=>rfl
 |some jw=>
  obtain⟨j,wt⟩:=jw;rw[ho]at hg;simp only at hg;split at hg
  ·split at hg;·cases hg
   ·cases hg
  ·cases hg
theorem qT {K:St->Prop} {ms:List Nat}:∀(l:List Oper) (al:List bC) (acc:List nc) (S:St),jW P ops k l=some al->Cm ops l al=true->gx P al acc ms S K->
 ∃(outs:List Out) (Sf:St),K Sf/\pg P k ops (λt m=>t=Sf.t/\m=Sf.m) l outs S.t S.m/\outs.length=l.length/\(∀x∈outs,x.ok)/\mo S.n outs Sf.n/\
  lu [] (acc.reverse++outs.map λx=>⟨x.keys,x.F⟩) (qP [] ms)=true
 | [],al,acc,S,hc,_,h=>by
   simp only[jW,alJ]at hc;subst hc;simp only[gx]at h;exact⟨[],S,h.2,⟨rfl,rfl⟩,rfl,λx hx=>by simp at hx,rfl,by simpa using h.1⟩
 |o::l,al,acc,S,hc,hs,h=>by
  simp only[jW]at hc;split at hc
  ·rename_i ao r' h1 h2;cases hc;simp only[Cm,alE]at hs;obtain⟨hg,hd,Ri⟩:=mZ h1;have ahp:pf ops o S.t=some true->Ah P ao.dst ao.op S (λS' f=>gx P r' (f::acc) ms S' K)->∃(outs:List Out) (Sf:St),K Sf/\pg P k ops (λt m=>t=Sf.t/\m=Sf.m) (o::l) outs S.t S.m/\outs.length=(o::l).length/\(∀x∈outs,x.ok)/\mo S.n outs Sf.n/\
    lu [] (acc.reverse++outs.map λx=>⟨x.keys,x.F⟩) (qP [] ms)=true:=by
    intro hw h;obtain⟨out,cI,hlo,hhi,UM,hk⟩:=Rp h1 hs.1 h;obtain⟨outs,Sf,hK,dJ,hlen,MZ,Mi,Ez⟩:=qT l r' _ _ h2 hs.2 hk;refine⟨out::outs,Sf,hK,⟨.inl ⟨hw,UM⟩,dJ⟩,by simp[hlen],λx hx=>?_,⟨hlo,hhi,Mi⟩,by simpa using Ez⟩;rcases alW.1 hx with rfl|hx;·exact cI
    ·exact MZ x hx
   simp only[gx]at h;split at h
   ·rename_i hgn;rw[hgn]at hg;exact ahp (GJ hg) h
   ·rename_i g want hgs;rw[hgs]at hg;split at h
    ·rename_i b hb;have hw:=Jp hg hb;split at h
     ·rename_i Uz;subst Uz;exact ahp (by rw[hw];simp) h
     ·rename_i Uz;rw[hd]at h;obtain⟨outs,Sf,hK,dJ,hlen,MZ,Mi,Ez⟩:=qT l r' _ _ h2 hs.2 h;refine⟨wP S.n::outs,Sf,hK,⟨.inr ⟨by rw[hw];simpa using Uz,rfl,λ_=>rfl⟩,dJ⟩,by simp[hlen],λx hx=>?_,⟨rfl,Nat.le_succ _,Mi⟩,by simpa[wP]using Ez⟩;rcases alW.1 hx with rfl|hx;·exact Cr _
      ·exact MZ x hx
    ·rename_i cs hb;have hw:=GI hg hb;rw[hd]at h;obtain⟨outs,Sf,hK,dJ,hlen,MZ,Mi,Ez⟩:=qT l r' _ _ h2 hs.2 h;refine⟨wP S.n::outs,Sf,hK,⟨.inr ⟨hw,rfl,λ_=>rfl⟩,dJ⟩,by simp[hlen],λx hx=>?_,⟨rfl,Nat.le_succ _,Mi⟩,by simpa[wP]using Ez⟩;rcases alW.1 hx with rfl|hx;·exact Cr _
     ·exact MZ x hx
    ·exact h.elim
  ·cases hc
theorem pg.mono {K K':Fr->Mem->Prop} (hK:∀t m,K t m->K' t m):∀{l:List Oper} {outs:List Out} {t:Fr} {m:Mem},pg P k ops K l outs t m->pg P k ops K' l outs t m
 | [],[],_,_,h=>hK _ _ h
 | [],_::_,_,_,h=>h.elim
 |_::_,[],_,_,h=>h.elim
 |_::_,_::_,_,_,h=>⟨h.1,pg.mono hK h.2⟩
theorem Jr {x y:Out} (h:Cq ⟨x.keys,x.F⟩ ⟨y.keys,y.F⟩=true):indep x y:=by
 simp only[Cq,alE,List.all_eq_true,Bool.not_eq_true',List.contains_eq_mem,decide_eq_false_iff_not]at h;exact⟨λid hid=>(h.1 id hid).1,λid hid=>h.2 id hid,λid hid=>(h.1 id hid).2⟩
theorem yY (i:Nat):∀(l:List Edge) (s:Nat),(l.foldl (λs e=>if Region.binds .any e then s|||2^e.on else s) s).testBit i=true->s.testBit i=true\/∃e∈l,Region.binds .any e=true/\e.on=i
 | [],s,h=>.inl h
 |e::l,s,h=>by
  simp only[al2]at h;rcases yY i l _ h with h1|⟨e',h1,h2⟩
  ·split at h1
   ·rename_i hb;rw[Nat.testBit_or,Bool.or_eq_true,Nat.testBit_two_pow]at h1;rcases h1 with h1|h1;·exact .inl h1
    ·exact .inr ⟨e,alU,hb,by simpa using h1⟩
   ·exact .inl h1
  ·exact .inr ⟨e',alY _ h1,h2⟩
theorem Bd {n0:Nat} {S:St} {Q:Exit->St->Prop} {id:Nat} {al:List bC} (hm:P.follows .mixedOrders=true) (hc:jW P ops k ops.toList=some al) (hs:Cm ops ops.toList al=true)
 (M0:Region.lexB .any ops=true) (hn:n0<=S.n) (h:gx P al [] (ga ops) S (λS'=>Q .normal S')):Ci P n0 k (.region id ops true) S Q:=by
 intro E hE a w r7;obtain⟨outs,Sf,hK,dJ,hlen,MZ,Mi,Ez⟩:=qT (k:=k) (ops:=ops) ops.toList al [] S hc hs h;have acf:∀(i:Nat) (o:Out),outs[i]?=some o->o.ok:=λi o h=>MZ o (List.mem_of_getElem? h);have hl:outs.length=ops.size:=by rw[hlen,Array.length_toList]
 have Ri:∀(i:Nat) (o:Oper),ops[i]?=some o->∀d,o.dst=some d->d<k:=by
  have key:∀(l:List Oper) (al:List bC),jW P ops k l=some al->∀o∈l,∀d,o.dst=some d->d<k:=by
   intro l;induction l with
   |nil=>intro al _ o ho;simp at ho
   |cons x l ih=>
    intro al hc o ho;simp only[jW]at hc;split at hc
    ·rename_i ao r' h1 h2;rcases alW.1 ho with rfl|ho;·exact(mZ h1).2.2
     ·exact ih r' h2 o ho
    ·cases hc
  exact λi o ho=>key _ _ hc o (by rw[<-Array.getElem?_toList]at ho;exact List.mem_of_getElem? ho)
 refine wp_region_any hm ?_;have Ae:ml E k S a {w with drawn:=w.drawn+1}:=Ft r7 rfl rfl rfl rfl;obtain⟨c,iW,hp⟩:=Ae;unfold Region.lexB at M0;simp only[alE]at M0;have hA:=Cp (P:=P) (k:=k) (ops:=ops) (outs:=outs) acf (K:=λt m=>ZD Sf.t Sf.m t m)
  (λt m t' m' h1 h2=>⟨λi=>(h1.1 i).trans (h2.1 i),λi=>(h1.2 i).trans (h2.2 i)⟩) ?_ ops.toList outs 0 (Array.replicate ops.size false) S.t S.m
  (λj=>by rw[alo,Array.getElem?_toList]) (λj=>by rw[alo]) (λj hj=>absurd hj (Nat.not_lt_zero j)) (λa oa hoa hl=>by
   have:a<ops.size:=(Array.getElem?_eq_some_iff.1 hoa).1;simp[this]at hl) (by rw[Array.length_toList];exact M0.2)
  (dJ.mono λt m ⟨h1,h2⟩=>by subst h1 h2;exact⟨λ_=>rfl,λ_=>rfl⟩)
 ·rw[Array.length_toList]at hA;refine u9 Mi (hE▸hn) acf Ri (K:=λt m=>ZD Sf.t Sf.m t m) ?_ _ _ _ _ _ _ ⟨c,iW.defers,iW.size,iW.fr,iW.mr,hp,λid hid=>iW.free id (Nat.le_trans Mi.spec.1 hid),λj x hx _ id h1 _=>iW.free id (Nat.le_trans (Mi.spec.2 j x hx).1 h1)⟩ hA;rintro t m a' w' tK ⟨c',Bu,MP⟩;refine⟨Sf,hK,c',⟨Bu.defers,Bu.size,λi=>by rw[<-tK.1 i];exact Bu.fr i,Bu.mr.wQ λid=>(tK.2 id).symm,Bu.free⟩,MP.wQ λid=>(tK.2 id).symm⟩
 ·intro i j oj x y ZF TA hx hy wD;have gK:(outs.map λx=>(⟨x.keys,x.F⟩:nc))[i]?=some ⟨x.keys,x.F⟩:=by simp[hx]
  have A6:(outs.map λx=>(⟨x.keys,x.F⟩:nc))[j]?=some ⟨y.keys,y.F⟩:=by simp[hy]
  obtain⟨mk,MQ,hb⟩:=sI Ez i j ⟨x.keys,x.F⟩ ⟨y.keys,y.F⟩ (by simpa using ZF) gK A6;refine Jr (hb ?_);cases ajP:mk.testBit i with
  |false=>rfl
  |true=>
   refine absurd ?_ wD;have:=Af (R:=Rj ops) (λh h'=>h.trans h') (ms:=ga ops) (done:=[]) (λk c b h=>by simp at h) (λj' m' b' h1 h2=>?_) j mk i MQ ajP;·simpa using this
   ·unfold ga at h1;rw[List.getElem?_map,Array.getElem?_toList,alG]at h1;obtain⟨oj',ho',rfl⟩:=h1;rcases yY b' _ _ h2 with h3|⟨e,h3,h4,h5⟩;·simp at h3
    ·simp only[alB,alo];exact .one ho' (by simpa using h3) h4 h5
theorem az {n0:Nat} {S:St} {Q:Exit->St->Prop} {al:List bC} {ms:List Nat} (hm:P.follows .mixedOrders=true) (hn:decide (n0<=S.n)=true) (h:gx P al [] ms S (λS'=>Q .normal S')):
 fP P n0 k (.region true al ms) S Q:=by
 intro code hc;cases code with
 |region id ops draw=>
  simp only[cX]at hc;split at hc
  ·rename_i al' tK;split at hc
   ·rename_i hd;split at hc
    ·rename_i M0;cases hc;simp only[alE]at M0;subst hd;exact Bd hm tK M0.2 M0.1 (of_decide_eq_true hn) h
    ·cases hc
   ·cases hc
  ·cases hc
 |cond c a b=>simp only[cX]at hc;repeat' split at hc
              all_goals cases hc
 |seq a b=>simp only[cX]at hc;repeat' split at hc
           all_goals cases hc
 |_=>simp[cX]at hc
end
theorem cY {i:Nat} (h:(i:Int)+1<9223372036854775808):alv.wrap ((i:Int)+1)=((i+1:Nat):Int):=by rw[wrap_i64 (by omega) (by omega)];rfl
end Go.Jq
namespace Go.Jq
open Go
abbrev Zs:=List (Nat×List DV)
def bI:Zs->Nat->Option (List DV)
 | [],_=>none
 |(i,ds)::r,k=>if i=k then some ds else bI r k
mutual
def AV.cv (π:Nat->Option Nat) (Z:Nat->Option (List DV)):AV->AV
 |.d x=>.d x
 |.ptr id off=>match Z id with
  |some ds=>.bw (ds.drop off)
  |none=>match π id with
   |some j=>.ptr j off
   |none=>.any
 |.A5 id T=>match π id with
  |some j=>.A5 j T
  |none=>.any
 |.BV id T len=>match π id with
  |some j=>.BV j T len
  |none=>.any
 |.bw cs=>.bw cs
 |.sl id dR off len=>match Z id with
  |some ds=>.d (.sl len ((ds.drop off).take (len*dR)))
  |none=>match π id with
   |some j=>.sl j dR off len
   |none=>.any
 |.fn f caps=>.fn f (db π Z caps)
 |.agg cs=>.agg (db π Z cs)
 |.cC vs=>.cC (db π Z vs)
 |.uF id=>match π id with
  |some j=>.uF j
  |none=>.any
 |.Bo _=>.d (.sl 0 [])
 |.any=>.any
def db (π:Nat->Option Nat) (Z:Nat->Option (List DV)):List AV->List AV
 | []=>[]
 |x::xs=>x.cv π Z::db π Z xs
end
theorem GK {π:Nat->Option Nat} {Z:Nat->Option (List DV)}:∀(l:List AV) (i:Nat),(db π Z l)[i]?=l[i]?.map (AV.cv π Z)
 | [],i=>by simp[db]
 |x::l,0=>by simp[db]
 |x::l,i+1=>by simp only[db,List.getElem?_cons_succ];exact GK l i
@[go_sem]theorem cD (π:Nat->Option Nat) (Z:Nat->Option (List DV)) (l:List DV):db π Z (l.map .d)=l.map .d:=by
  induction l with
  |nil=>rfl
  |cons x l ih=>simp only[alz,db,AV.cv,ih]
@[go_sem]theorem bh (π:Nat->Option Nat) (Z:Nat->Option (List DV)) (l l':List AV):db π Z (l++l')=db π Z l++db π Z l':=by
  induction l with
  |nil=>rfl
  |cons x l ih=>simp only[List.cons_append,db,ih]
def bG (m:Mem) (Z0:Zs):Zs->Prop
 | []=>True
 |(id,ds)::r=>(match ai m id with
  |some cs=>db (λ_=>none) (bI Z0) cs=ds.map .d
  |none=>False)/\bG m Z0 r
theorem tP {m:Mem} {Z0:Zs}:∀{Z:Zs},bG m Z0 Z->∀id ds,bI Z id=some ds->∃cs,ai m id=some cs/\db (λ_=>none) (bI Z0) cs=ds.map .d
 | [],_,id,ds,h=>by simp[bI]at h
 |(i,x)::r,h,id,ds,hz=>by
  simp only[bG]at h;simp only[bI]at hz;split at hz
  ·rename_i e;subst e;cases hz;obtain⟨h,_⟩:=h;split at h;·rename_i cs cq;exact⟨cs,cq,h⟩
   ·exact h.elim
  ·exact tP h.2 id ds hz
def Ctx.jl (c:Ctx) (π:Ren) (Z:Zs):Ctx:=
 {φ:=(c.aA π).φ,dY:=λb=>c.dY b\/∃id,(bI Z id).isSome/\c.φ id=.pM b}
section
variable{c:Ctx} {m:Mem} {w:World} {Z:Zs} {π:Ren}
mutual
theorem Pc (hM:MR c m w) (hz:bG m Z Z):∀(d:DV) (x:AV) (v:Value),x.cv (λ_=>none) (bI Z)=.d d->Rel c w x v->dS (c.jl π Z).dY w d v
 |.sl n cells,x,v,hx,hr=>by
  cases x with
  |d y=>
   simp only[AV.cv,AV.d.injEq]at hx;subst hx;simp only[Rel]at hr;exact lp (λb hb=>.inl hb) (λ_ _=>rfl) _ _ hr
  |sl id dR off len=>
   simp only[AV.cv]at hx;split at hx
   ·rename_i ds yH;simp only[AV.d.injEq,DV.sl.injEq]at hx;obtain⟨rfl,qJ⟩:=hx;obtain⟨cs,cq,GL⟩:=tP hz id ds yH;simp only[Rel]at hr;simp only[dS];rcases hr with⟨h0,rfl,rfl,a0,hv⟩|⟨b,cap,n,hb,hv,hle,_⟩;·exact⟨a0,0,hv,ali _,.inl ⟨rfl,by rw[<-qJ];simp⟩⟩
    ·refine⟨_,cap,hv,hle,.inr ⟨b,off,rfl,.inr ⟨id,by rw[yH];rfl,hb⟩,?_⟩⟩;refine Cs hM hz cells b off id cs hb cq λi d hi=>?_;rw[<-qJ,List.getElem?_take]at hi;split at hi
     ·rw[List.getElem?_drop]at hi;have h1:(db (λ_=>none) (bI Z) cs)[off+i]?=some (.d d):=by rw[GL,List.getElem?_map,hi];rfl
      rw[GK,alG]at h1;exact h1
     ·simp at hi
   ·cases hx
  |ptr id off=>simp only[AV.cv]at hx;split at hx<;>cases hx
  |A5 id T=>simp only[AV.cv]at hx;cases hx
  |BV id T len=>simp only[AV.cv]at hx;cases hx
  |bw _=>simp[AV.cv]at hx
  |fn _ _=>simp[AV.cv]at hx
  |agg _=>simp[AV.cv]at hx
  |cC _=>simp[AV.cv]at hx
  |uF _=>simp only[AV.cv]at hx;cases hx
  |Bo z=>
   simp only[AV.cv,AV.d.injEq,DV.sl.injEq]at hx;obtain⟨rfl,rfl⟩:=hx;simp only[Rel]at hr;obtain⟨a,cap,hv,_⟩:=hr;simp only[dS];exact⟨a,cap,hv,alZ _,.inl ⟨trivial,trivial⟩⟩
  |any=>simp[AV.cv]at hx
 |.int a b,x,v,hx,hr=>oA hx hr (λ_ _ h=>nomatch h)
 |.bool b,x,v,hx,hr=>oA hx hr (λ_ _ h=>nomatch h)
 |.str s,x,v,hx,hr=>oA hx hr (λ_ _ h=>nomatch h)
 |.ct,x,v,hx,hr=>oA hx hr (λ_ _ h=>nomatch h)
 |.om,x,v,hx,hr=>oA hx hr (λ_ _ h=>nomatch h)
 |.Zx,x,v,hx,hr=>oA hx hr (λ_ _ h=>nomatch h)
 |.nif,x,v,hx,hr=>oA hx hr (λ_ _ h=>nomatch h)
theorem Cs (hM:MR c m w) (hz:bG m Z Z):∀(ds:List DV) (b o id:Nat) (cs:List AV),c.φ id=.pM b->ai m id=some cs->
 (∀i d,ds[i]?=some d->∃x,cs[o+i]?=some x/\x.cv (λ_=>none) (bI Z)=.d d)->dH (c.jl π Z).dY w ds b o
 | [],_,_,_,_,_,_,_=>by simp[dH]
 |d::ds,b,o,id,cs,hb,cq,h=>by
  simp only[dH];obtain⟨x,hx,GL⟩:=h 0 d rfl;refine⟨?_,Cs hM hz ds b (o+1) id cs hb cq λi d' hi=>?_⟩
  ·obtain⟨u,hu,hr⟩:=o9 hM cq hb o 0 x (by rw[List.getElem?_drop];exact hx);exact⟨u,hu,Pc hM hz d x u GL hr⟩
  ·obtain⟨y,hy,hcy⟩:=h (i+1) d' (by simpa using hi);exact⟨y,by rw[<-hy];congr 1;omega,hcy⟩
theorem oA {d:DV} {x:AV} {v:Value} (hx:x.cv (λ_=>none) (bI Z)=.d d) (hr:Rel c w x v) (hd:∀n cs,d≠.sl n cs):dS (c.jl π Z).dY w d v:=by
 cases x with
 |d y=>
  simp only[AV.cv,AV.d.injEq]at hx;subst hx;simp only[Rel]at hr;exact lp (λb hb=>.inl hb) (λ_ _=>rfl) _ _ hr
 |sl id dR off len=>
  simp only[AV.cv]at hx;split at hx
  ·simp only[AV.d.injEq]at hx;exact absurd hx.symm (hd _ _)
  ·cases hx
 |ptr id off=>simp only[AV.cv]at hx;split at hx<;>cases hx
 |A5 id T=>simp only[AV.cv]at hx;cases hx
 |BV id T len=>simp only[AV.cv]at hx;cases hx
 |bw _=>simp[AV.cv]at hx
 |fn _ _=>simp[AV.cv]at hx
 |agg _=>simp[AV.cv]at hx
 |cC _=>simp[AV.cv]at hx
 |uF _=>simp only[AV.cv]at hx;cases hx
 |Bo _=>simp only[AV.cv,AV.d.injEq]at hx;exact absurd hx.symm (hd _ _)
 |any=>simp[AV.cv]at hx
end
theorem Rq (hM:MR c m w) (hz:bG m Z Z) {id b:Nat} {ds:List DV} (yH:bI Z id=some ds) (hb:c.φ id=.pM b) (o:Nat):dH (c.jl π Z).dY w (ds.drop o) b o:=by
 obtain⟨cs,cq,GL⟩:=tP hz id ds yH;refine Cs hM hz _ b o id cs hb cq λi d hi=>?_;rw[List.getElem?_drop]at hi;have h1:(db (λ_=>none) (bI Z) cs)[o+i]?=some (.d d):=by rw[GL,List.getElem?_map,hi];rfl
 rw[GK,alG]at h1;exact h1
mutual
theorem UN {nb:Nat} (cI:bX nb π=true) (hM:MR c m w) (hz:bG m Z Z):∀(x:AV) (v:Value),Rel c w x v->Rel (c.jl π Z) w (x.cv (af π) (bI Z)) v
 |.d x,v,h=>by simp only[AV.cv,Rel]at h⊢;exact lp (λb hb=>.inl hb) (λ_ _=>rfl) x v h
 |.ptr id off,v,h=>by
  simp only[AV.cv,Rel]at h⊢;obtain⟨b,hb,hv⟩:=h;split
  ·rename_i ds yH;simp only[Rel];exact⟨b,off,.inr ⟨id,by rw[yH];rfl,hb⟩,hv,Rq hM hz yH hb off⟩
  ·split
   ·rename_i j hj;simp only[Rel];exact⟨b,by rw[<-hb];exact oy cI hj,hv⟩
   ·simp[Rel]
 |.BV id T len,v,h=>by
  simp only[AV.cv,Rel]at h⊢;split
  ·rename_i j hj;simp only[Rel];rcases h with⟨h0,h⟩|⟨b,cap,n,hb,h⟩;·exact .inl ⟨by rw[<-h0];exact oy cI hj,h⟩
   ·exact .inr ⟨b,cap,n,by rw[<-hb];exact oy cI hj,h⟩
  ·simp[Rel]
 |.A5 id T,v,h=>by
  simp only[AV.cv,Rel]at h⊢;obtain⟨hv,b,hb,hs⟩:=h;split
  ·rename_i j hj;simp only[Rel];exact⟨hv,b,by rw[<-hb];exact oy cI hj,hs⟩
  ·simp[Rel]
 |.bw cs,v,h=>by
  simp only[AV.cv,Rel]at h⊢;obtain⟨b,o,hb,hv,hc⟩:=h;exact⟨b,o,.inl hb,hv,kQ (λb hb=>.inl hb) (λ_ _=>rfl) cs b o hb hc⟩
 |.sl id dR off len,v,h=>by
  have h0:=h;simp only[AV.cv,Rel]at h⊢;split
  ·rename_i ds yH;simp only[Rel];refine Pc hM hz _ (.sl id dR off len) v ?_ h0;simp only[AV.cv,yH]
  ·split
   ·rename_i j hj;simp only[Rel];rcases h with⟨h0,h⟩|⟨b,cap,n,hb,h⟩;·exact .inl ⟨by rw[<-h0];exact oy cI hj,h⟩
    ·exact .inr ⟨b,cap,n,by rw[<-hb];exact oy cI hj,h⟩
   ·simp[Rel]
 |.fn f caps,v,h=>by
  simp only[AV.cv,Rel]at h⊢;obtain⟨vs,hv,hl⟩:=h;exact⟨vs,hv,ph cI hM hz caps vs hl⟩
 |.agg cs,v,h=>by
  simp only[AV.cv,Rel]at h⊢;obtain⟨vs,hv,hl⟩:=h;exact⟨vs,hv,ph cI hM hz cs vs hl⟩
 |.cC cs,v,h=>by
  simp only[AV.cv,Rel]at h⊢;obtain⟨vs,hv,hl⟩:=h;exact⟨vs,hv,ph cI hM hz cs vs hl⟩
 |.uF id,v,h=>by
  simp only[AV.cv,Rel]at h⊢;obtain⟨b,hb,hv⟩:=h;split
  ·rename_i j hj;simp only[Rel];exact⟨b,by rw[<-hb];exact oy cI hj,hv⟩
  ·simp[Rel]
 |.Bo z,v,h=>by
  simp only[AV.cv,Rel]at h⊢;obtain⟨a,cap,hv,_⟩:=h;simp only[dS];exact⟨a,cap,hv,alZ _,.inl ⟨trivial,trivial⟩⟩
 |.any,_,_=>by simp[AV.cv,Rel]
theorem ph {nb:Nat} (cI:bX nb π=true) (hM:MR c m w) (hz:bG m Z Z):∀(xs:List AV) (vs:List Value),bg c w xs vs->bg (c.jl π Z) w (db (af π) (bI Z) xs) vs
 | [],_,h=>by simpa[db,bg]using h
 |x::xs,vs,h=>by
  simp only[db,bg]at h⊢;obtain⟨v,o6,hv,hx,hl⟩:=h;exact⟨v,o6,hv,UN cI hM hz x v hx,ph cI hM hz xs o6 hl⟩
end
end
def fb (π:Ren) (Z:Zs) (t:Fr):Fr->Prop
 | []=>True
 |(i,x)::r=>(ah t i).cv (af π) (bI Z)=x/\fb π Z t r
def fx (π:Ren) (Z:Zs) (m:Mem):Mem->Prop
 | []=>True
 |(j,cs)::r=>(match aF π j with
  |some i=>bI Z i=none/\(match ai m i with
   |some qI=>db (af π) (bI Z) qI=cs
   |none=>False)
  |none=>False)/\fx π Z m r
structure Frz (n0:Nat) (π:Ren) (Z:Zs) (S S':St):Prop where
 t:fb π Z S.t S'.t
 m:fx π Z S.m S'.m
 ok:bX S'.n π=true
 di:nV n0 π=true
 z:bG S.m Z Z
theorem Js {π:Ren} {Z:Zs} {t:Fr}:∀{t':Fr},fb π Z t t'->∀i,ah t' i=.any\/(ah t i).cv (af π) (bI Z)=ah t' i
 | [],_,i=>.inl rfl
 |(k,x)::r,h,i=>by
  simp only[fb]at h;simp only[ah];split;·rename_i e;subst e;exact .inr h.1
  ·exact Js h.2 i
theorem qc {π:Ren} {Z:Zs} {m:Mem}:∀{m':Mem},fx π Z m m'->∀j cs,ai m' j=some cs->∃i qI,aF π j=some i/\bI Z i=none/\ai m i=some qI/\db (af π) (bI Z) qI=cs
 | [],_,j,cs,h=>by simp[ai]at h
 |(k,x)::r,h,j,cs,hj=>by
  simp only[fx]at h;simp only[ai]at hj;split at hj
  ·rename_i e;subst e;cases hj;obtain⟨h,_⟩:=h;split at h
   ·rename_i i hi;obtain⟨hz,h⟩:=h;split at h
    ·rename_i qI lO;exact⟨i,qI,hi,hz,lO,h⟩
    ·exact h.elim
   ·exact h.elim
  ·exact qc h.2 j cs hj
theorem aB.jl {n0 k:Nat} {S S':St} (π:Ren) (Z:Zs) (he:Frz n0 π Z S S'):aB n0 k S S':=by
 rintro E hE a w ⟨c,hc,hp⟩;have cI:=he.ok;have hM:=hc.mr;have hzi:∀id,(bI Z id).isSome->(ai S.m id).isSome:=λid h=>by
  obtain⟨ds,yH⟩:=alS.1 h;obtain⟨cs,cq,_⟩:=tP he.z id ds yH;rw[cq];rfl
 have yS:∀b,iV (c.jl π Z) S'.m b->iV c S.m b:=by
  rintro b ⟨j,hj,hb⟩;obtain⟨cs,cq⟩:=alS.1 hj;obtain⟨i,_,hi,_,Uo,_⟩:=qc he.m j cs cq;simp only[Ctx.jl,Ctx.aA,hi]at hb;exact⟨i,by rw[Uo];rfl,hb⟩
 refine⟨c.jl π Z,⟨hc.defers,hc.size,λi=>?_,⟨λj cs hj=>?_,λj j' b hj A6 hb gi=>?_,λb hb=>?_,hM.o7 (λ_ h=>.inl h) λ_ _=>rfl⟩,λid hid=>?_⟩,⟨⟨hp.step.os,hp.step.tape,hp.step.output,hp.step.size,hp.step.di,hp.step.rows,λb hb=>.inl (hp.step.dY b hb),λb hb=>?_⟩,λb hb=>hp.own b (yS b hb),λj hj hmj=>?_⟩⟩
 ·rcases Js he.t i with h|h;·rw[h];simp[Rel]
  ·rw[<-h];exact UN cI hM he.z _ _ (hc.fr i)
 ·obtain⟨i,qI,hi,hzn,cq,rfl⟩:=qc he.m j cs hj;have fZ:(c.jl π Z).φ j=c.φ i:=by simp only[Ctx.jl,Ctx.aA,hi]
  have wD:∀b,(c.φ i).bk=some b->¬c.dY b->¬(c.jl π Z).dY b:=by
   rintro b hb jj (h1|⟨id,h1,h2⟩);·exact jj h1
   ·have:=hM.inj id i b (hzi id h1) (by rw[cq];rfl) (j7.jU h2) hb;subst this;rw[hzn]at h1;cases h1
  rcases hM.own i qI cq with⟨h0,rfl⟩|⟨b,arr,T,f,hb,jj,hw,hf,vs,rest,ha,hr⟩|⟨b,es,kv,hb,jj,hw,hf,rfl,hr⟩;·exact .inl ⟨fZ.trans h0,rfl⟩
  ·exact .inr (.inl ⟨b,arr,T,f,fZ.trans hb,wD b (j7.jU hb) jj,hw,hf,vs,rest,ha,ph cI hM he.z _ _ hr⟩)
  ·exact .inr (.inr ⟨b,es,_,fZ.trans hb,wD b (j7.O5 hb) jj,hw,hf,rfl,ph cI hM he.z _ _ hr⟩)
 ·obtain⟨cs,cq⟩:=alS.1 hj;obtain⟨qI,lO⟩:=alS.1 A6;obtain⟨i,_,hi,_,Uo,_⟩:=qc he.m j cs cq;obtain⟨i',_,gK,_,aeK,_⟩:=qc he.m j' qI lO;simp only[Ctx.jl,Ctx.aA,hi]at hb;simp only[Ctx.jl,Ctx.aA,gK]at gi;have:=hM.inj i i' b (by rw[Uo];rfl) (by rw[aeK];rfl) hb gi;subst this;have h1:=(fR cI i j (hU hi)).1;have h2:=(fR cI i j' (hU gK)).1;rw[h1]at h2;exact al9 h2
 ·rcases hb with h1|⟨id,h1,h2⟩;·exact hM.dY b h1
  ·exact hM.lM ⟨id,hzi id h1,j7.jU h2⟩
 ·simp only[Ctx.jl,Ctx.aA];split
  ·rename_i i hi;have:=(fR cI i id (hU hi)).2.2;omega
  ·rfl
 ·rcases hb with h1|⟨id,h1,h2⟩;·exact hp.step.yI b h1
  ·exact .inr (hp.own b ⟨id,hzi id h1,j7.jU h2⟩)
 ·obtain⟨cs,cq⟩:=alS.1 hmj;obtain⟨i,_,hi,_,Uo,_⟩:=qc he.m j cs cq;have:=I8 (hE▸he.di) hi hj;subst this;obtain⟨h1,h2⟩:=hp.di i hj (by rw[Uo];rfl);exact⟨h1,by simp only[Ctx.jl,Ctx.aA,hi];exact h2⟩
theorem Fv {E:Env} {k:Nat} {t:Fr} {m:Mem} {n:Nat} {a:Act} {w:World} (hE:E.n<=n) (h:ml E k ⟨t,m,n⟩ a w):
 ∃c:Ctx,c.φ n=.none/\CR c k ⟨t,ak m n [],n+1⟩ a w/\Bb E c (ak m n []) w:=by
 obtain⟨c,hc,hp⟩:=h;have hn:=hc.free n (ali _);have uY:∀id,c.φ id≠.free->(c.bind n .none).φ id=c.φ id:=λid hid=>Ctx.cV λe=>hid (by rw[e];exact hn);have hl:jP c (c.bind n .none) w w:=⟨λ_ h=>h,λ_ _=>rfl,uY,λ_ _ h=>h⟩;have yS:∀b,iV (c.bind n .none) (ak m n []) b->iV c m b:=by
  rintro b ⟨id,hid,hb⟩;by_cases e:id=n;·subst e;rw[Ctx.bind_eq]at hb;cases hb
  ·rw[Ctx.cV e]at hb;rw[bF,if_neg (Ne.symm e)]at hid;exact⟨id,hid,hb⟩
 refine⟨c.bind n .none,Ctx.bind_eq,⟨hc.defers,hc.size,λi=>oo hl _ _ (hc.fr i),⟨λid cells hid=>?_,λid mK b hid ov hb gi=>?_,hc.mr.dY,hc.mr.zZ⟩,λid hid=>?_⟩,
  ⟨⟨hp.step.os,hp.step.tape,hp.step.output,hp.step.size,hp.step.di,hp.step.rows,hp.step.dY,hp.step.yI⟩,λb hb=>hp.own b (yS b hb),λid hid hm=>?_⟩⟩
 ·rw[bF]at hid;split at hid;·rename_i e;subst e;cases hid;exact .inl ⟨Ctx.bind_eq,rfl⟩
  ·exact(hc.mr.own id cells hid).later hl λb hb=>⟨rfl,λhi=>hc.mr.sep hi ⟨id,by show(ai m id).isSome;rw[hid];rfl,hb⟩⟩
 ·have key:∀id,(ai (ak m n []) id).isSome->((c.bind n .none).φ id).bk=some b->(ai m id).isSome/\(c.φ id).bk=some b:=λid h1 h2=>by
   by_cases e:id=n;·subst e;rw[Ctx.bind_eq]at h2;cases h2
   ·rw[Ctx.cV e]at h2;rw[bF,if_neg (Ne.symm e)]at h1;exact⟨h1,h2⟩
  obtain⟨h1,h2⟩:=key id hid hb;obtain⟨h3,h4⟩:=key mK ov gi;exact hc.mr.inj id mK b h1 h3 h2 h4
 ·have ov:n+1<=id:=hid;rw[Ctx.cV (by omega)];exact hc.free id (by show n<=id;omega)
 ·have pe:id≠n:=by omega
  rw[bF,if_neg (Ne.symm pe)]at hm;rw[Ctx.cV pe];exact hp.di id hid hm
theorem aB.nil {n0 k:Nat} {t:Fr} {m:Mem} {n:Nat} (i dR:Nat) (hn:decide (n0<=n)=true) (hi:ah t i=.d .ct):aB n0 k ⟨t,m,n⟩ ⟨(i,.sl n dR 0 0)::t,ak m n [],n+1⟩:=by
 intro E hE a w r7;obtain⟨c,fZ,hc,hp⟩:=Fv (hE▸of_decide_eq_true hn) r7;refine⟨c,⟨hc.defers,hc.size,λj=>?_,hc.mr,hc.free⟩,hp⟩;simp only[ah];split
 ·rename_i e;subst e;have h1:=hc.fr i;simp only[hi,Rel,dS]at h1;simp only[Rel];exact .inl ⟨fZ,trivial,trivial,none,h1⟩
 ·exact hc.fr j
theorem UO {vs:List Value} {j:Nat} {v:Value} (hv:vs[j]?=some v):vs.set j v=vs:=by
 apply List.ext_getElem?;intro q;rw[List.getElem?_set];split
 ·rename_i e;subst e;split;·exact hv.symm
  ·rename_i h;rw[List.getElem?_eq_none (by omega)]
 ·rfl
theorem aB.lS {n0 k:Nat} {t:Fr} {m:Mem} {n:Nat} (id j dR:Nat) {cs:List AV} (hn:decide (n0<=n)=true) (hid:ai m id=some cs) (hj:cs[j]?=some (.d .ct)) (pe:decide (id<n)=true):
 aB n0 k ⟨t,m,n⟩ ⟨t,ak (ak m n []) id (cs.set j (.sl n dR 0 0)),n+1⟩:=by
 intro E hE a w r7;have pe:=of_decide_eq_true pe;have hEn:E.n<=n:=hE▸of_decide_eq_true hn;obtain⟨c,fZ,hc,hp⟩:=Fv hEn r7;have ov:ai (ak m n []) id=some cs:=by rw[bF,if_neg (by omega)];exact hid
 have yS:∀b,iV c (ak (ak m n []) id (cs.set j (.sl n dR 0 0))) b->iV c (ak m n []) b:=λb h=>tF ov h;have Ct:∀i,(ai (ak (ak m n []) id (cs.set j (.sl n dR 0 0))) i).isSome->(ai (ak m n []) i).isSome:=λi h=>by
  rw[bF]at h;split at h;·rename_i e;subst e;rw[ov];rfl
  ·exact h
 refine⟨c,⟨hc.defers,hc.size,hc.fr,⟨λi cells hi=>?_,λi i' b h1 h2=>hc.mr.inj i i' b (Ct i h1) (Ct i' h2),hc.mr.dY,hc.mr.zZ⟩,hc.free⟩,⟨hp.step,λb hb=>hp.own b (yS b hb),λi hi hm=>hp.di i hi (Ct i hm)⟩⟩;rw[bF]at hi;split at hi
 ·rename_i e;subst e;cases hi;have jk:∀{cs:List AV} {vs:List Value} {j:Nat},cs[j]?=some (.d .ct)->bg c w cs vs->bg c w (cs.set j (.sl n dR 0 0)) vs:=λ{cs vs j} hj hr=>by
   obtain⟨v,hv,mW⟩:=hr.get hj;have h2:=hr.set j (x:=.sl n dR 0 0) (v:=v) (by
    simp only[Rel,dS]at mW⊢;exact .inl ⟨fZ,trivial,trivial,none,mW⟩)
   rw[UO hv]at h2;exact h2
  rcases hc.mr.own id cs ov with⟨h0,rfl⟩|⟨b,arr,T,f,hb,jj,hw,hf,vs,rest,ha,hr⟩|⟨b,es,kv,hb,jj,hw,hf,rfl,hr⟩;·simp at hj
  ·exact .inr (.inl ⟨b,arr,T,f,hb,jj,hw,hf,vs,rest,ha,jk hj hr⟩)
  ·cases j with
   |zero=>simp at hj
   |succ j=>exact .inr (.inr ⟨b,es,_,hb,jj,hw,hf,rfl,jk (by simpa using hj) hr⟩)
 ·exact hc.mr.own i cells hi
theorem aal {P:Program} {n0 k:Nat} {t:Fr} {m:Mem} {n:Nat} {c:aJ} {Q:Exit->St->Prop} (i:Nat) (hi:ah t i=.d (.sl 0 [])) (h:∀z,fP P n0 k c ⟨(i,.Bo z)::t,m,n⟩ Q):
 fP P n0 k c ⟨t,m,n⟩ Q:=by
 intro code hc E hE a w r7;obtain⟨cx,iW,hp⟩:=r7;have h1:=iW.fr i;simp only[hi,Rel,dS]at h1;obtain⟨ad,cap,hv,_⟩:=h1;refine h ad.isNone code hc E hE a w ⟨cx,⟨iW.defers,iW.size,λj=>?_,iW.mr,iW.free⟩,hp⟩;simp only[ah];split
 ·rename_i e;subst e;simp only[Rel];exact⟨ad,cap,hv,rfl⟩
 ·exact iW.fr j
def M1:List AV->Bool
 |.cC _::_=>true
 |_=>false
theorem aB.cut {n0 k:Nat} {t:Fr} {m:Mem} {n:Nat} (id q:Nat) {cs:List AV} (hid:ai m id=some cs) (hmp:M1 cs=false:=by rfl):aB n0 k ⟨t,m,n⟩ ⟨t,ak m id (cs.take q),n⟩:=by
 rintro E hE a w ⟨c,hc,hp⟩;have Ct:∀i,(ai (ak m id (cs.take q)) i).isSome->(ai m i).isSome:=λi h=>by
  rw[bF]at h;split at h;·rename_i e;subst e;rw[hid];rfl
  ·exact h
 refine⟨c,⟨hc.defers,hc.size,hc.fr,⟨λi cells hi=>?_,λi i' b h1 h2=>hc.mr.inj i i' b (Ct i h1) (Ct i' h2),hc.mr.dY,hc.mr.zZ⟩,hc.free⟩,⟨hp.step,λb hb=>hp.own b (tF hid hb),λi hi hm=>hp.di i hi (Ct i hm)⟩⟩;rw[bF]at hi;split at hi
 ·rename_i e;subst e;cases hi;rcases hc.mr.own id cs hid with⟨h0,rfl⟩|⟨b,arr,T,f,hb,jj,hw,hf,vs,rest,ha,hr⟩|⟨b,es,kv,hb,jj,hw,hf,rfl,hr⟩;·exact .inl ⟨h0,by simp⟩
  ·exact .inr (.inl ⟨b,arr,T,f,hb,jj,hw,hf,vs.take q,vs.drop q++rest,by rw[ha,<-List.append_assoc,List.take_append_drop],hr.take q⟩)
  ·cases hmp
 ·exact hc.mr.own i cells hi
end Go.Jq
namespace Go.Jq
open Go
def Pure (P:Program) (f:Nat) (args:List AV) (v:AV):Prop:=bB P f args [] λr m'=>r=v/\m'=[]
mutual
theorem qd {π:Nat->Option Nat}:∀(x:AV),cd (λ_=>none) x=true->x.aA π=x
 |.d x,_=>rfl
 |.ptr id off,h=>by simp[cd]at h
 |.A5 id T,h=>by simp[cd]at h
 |.BV id T len,h=>by simp[cd]at h
 |.bw cs,_=>rfl
 |.sl id dR off len,h=>by simp[cd]at h
 |.fn f caps,h=>by simp only[cd]at h;simp only[AV.aA,fM caps h]
 |.agg cs,h=>by simp only[cd]at h;simp only[AV.aA,fM cs h]
 |.cC cs,h=>by simp only[cd]at h;simp only[AV.aA,fM cs h]
 |.uF id,h=>by simp[cd]at h
 |.Bo _,_=>rfl
 |.any,_=>rfl
theorem fM {π:Nat->Option Nat}:∀(xs:List AV),bZ (λ_=>none) xs=true->aj π xs=xs
 | [],_=>rfl
 |x::xs,h=>by
  simp only[bZ,alE]at h;simp only[aj,qd x h.1,fM xs h.2]
end
mutual
theorem UP {π UI:Nat->Option Nat} (hp:∀i,(π i).isSome->(UI i).isSome):∀(x:AV),cd π x=true->cd UI x=true
 |.d _,_=>rfl
 |.ptr id _,h=>hp id h
 |.A5 id _,h=>hp id h
 |.BV id _ _,h=>hp id h
 |.bw _,_=>rfl
 |.sl id _ _ _,h=>hp id h
 |.fn _ caps,h=>kx hp caps h
 |.agg cs,h=>kx hp cs h
 |.cC cs,h=>kx hp cs h
 |.uF id,h=>hp id h
 |.Bo _,_=>rfl
 |.any,_=>rfl
theorem kx {π UI:Nat->Option Nat} (hp:∀i,(π i).isSome->(UI i).isSome):∀(xs:List AV),bZ π xs=true->bZ UI xs=true
 | [],_=>rfl
 |x::xs,h=>by
  simp only[bZ,alE]at h⊢;exact⟨UP hp x h.1,kx hp xs h.2⟩
end
@[go_sem]theorem Cu (π:Nat->Option Nat) (l l':List AV):bZ π (l++l')=(bZ π l&&bZ π l'):=by
  induction l with
  |nil=>rfl
  |cons x l ih=>simp only[List.cons_append,bZ,ih,Bool.and_assoc]
section
variable{P:Program} {f:Nat} {args:List AV} {v:AV} {dst:Option Nat} {r:List bC} {K:St->Prop} {t:Fr} {m:Mem} {n:Nat}
theorem bA (ρ:Ren) (dV:List AV) (m0:Mem) {Q:AV->Mem->Prop} {nb:Nat} (h:bB P f dV m0 Q) (cI:bX nb ρ=true) (j9:aj (af ρ) dV=args) (du:bZ (af ρ) dV=true)
 (hh:handed ρ m m0) (o0:(ρ.all λp=>(ai m0 p.1).isSome)=true)
 (hk:∀r0 m',Q r0 m'->bN P r ⟨cG t dst (r0.aA (cf ρ m0 m' n)),bx ρ m0 m' n m,n+Nat.max (aE m0) (aE m')⟩ K):ej P f args dst r K t m n:=by
 subst j9;have ahq:∀j id,af ρ j=some id->(ai m0 j).isSome:=λj id hj=>List.all_eq_true.1 o0 _ (lP hj);refine⟨_,yX (n:=n) h ρ cI du hh ahq (F:=(n<=·)) (λ_ _ _ _ h _=>h),?_⟩;rintro v m' n' ⟨r0,m1,hQ,rfl,rfl,rfl⟩;exact hk r0 m1 hQ
theorem aI (h:Pure P f args v) (ha:bZ (λ_=>none) args=true) (hv:cd (λ_=>none) v=true) (hk:bN P r ⟨cG t dst v,m,n⟩ K):ej P f args dst r K t m n:=by
 refine bA [] args [] (nb:=0) h rfl (fM _ ha) (kx (λ_ h=>by cases h) _ ha) trivial rfl ?_;rintro r0 m' ⟨rfl,rfl⟩;rw[qd _ hv];exact hk
theorem Jt {Q:AV->Prop} (h:bB P f args [] λr m'=>Q r/\m'=[]) (ha:bZ (λ_=>none) args=true) (hv:∀v,Q v->cd (λ_=>none) v=true) (hk:∀v,Q v->bN P r ⟨cG t dst v,m,n⟩ K):
 ej P f args dst r K t m n:=by
 refine bA [] args [] (nb:=0) h rfl (fM _ ha) (kx (λ_ h=>by cases h) _ ha) trivial rfl ?_;rintro r0 m' ⟨hq,rfl⟩;rw[qd _ (hv _ hq)];exact hk r0 hq
def Pd:DV->Bool
 |.sl _ _=>false
 |_=>true
mutual
def nL:AV->Bool
 |.d x=>Pd x
 |.agg cs=>vc cs
 |.cC cs=>vc cs
 |.any=>true
 |_=>false
def vc:List AV->Bool
 | []=>true
 |x::xs=>nL x&&vc xs
end
theorem Rr {I I':Nat->Prop} {w w':World} {x:DV} {v:Value} (hx:Pd x=true) (h:dS I w x v):dS I' w' x v:=by
 cases x with
 |sl n cs=>simp[Pd]at hx
 |_=>exact h
mutual
theorem Cv {c c':Ctx} {w w':World}:∀(x:AV) (v:Value),nL x=true->Rel c w x v->Rel c' w' x v
 |.d x,v,hx,h=>by simp only[Rel]at h⊢;exact Rr hx h
 |.ptr _ _,_,hx,_=>by simp[nL]at hx
 |.A5 _ _,_,hx,_=>by simp[nL]at hx
 |.BV _ _ _,_,hx,_=>by simp[nL]at hx
 |.bw _,_,hx,_=>by simp[nL]at hx
 |.sl _ _ _ _,_,hx,_=>by simp[nL]at hx
 |.fn _ _,_,hx,_=>by simp[nL]at hx
 |.agg cs,v,hx,h=>by
  simp only[Rel,nL]at h hx⊢;obtain⟨vs,hv,hl⟩:=h;exact⟨vs,hv,yZ cs vs hx hl⟩
 |.cC cs,v,hx,h=>by
  simp only[Rel,nL]at h hx⊢;obtain⟨vs,hv,hl⟩:=h;exact⟨vs,hv,yZ cs vs hx hl⟩
 |.uF _,_,hx,_=>by simp[nL]at hx
 |.Bo _,_,hx,_=>by simp[nL]at hx
 |.any,_,_,_=>by simp[Rel]
theorem yZ {c c':Ctx} {w w':World}:∀(xs:List AV) (vs:List Value),vc xs=true->bg c w xs vs->bg c' w' xs vs
 | [],_,_,h=>by simpa[bg]using h
 |x::xs,vs,hx,h=>by
  simp only[bg,vc,alE]at h hx⊢;obtain⟨v,o6,hv,h1,h2⟩:=h;exact⟨v,o6,hv,Cv x v hx.1 h1,yZ xs o6 hx.2 h2⟩
end
theorem M3 (Z:Zs) (dV:List AV) {Q:AV->Prop} (h:bB P f dV [] λr m'=>Q r/\m'=[]) (hz:bG m Z Z) (j9:db (λ_=>none) (bI Z) args=dV) (hv:∀v,Q v->nL v=true)
 (hk:∀v,Q v->bN P r ⟨cG t dst v,m,n⟩ K):ej P f args dst r K t m n:=by
 refine⟨λv m' n'=>Q v/\m'=m/\n'=n,?_,λv m' n' h=>by obtain⟨h1,rfl,rfl⟩:=h;exact hk v h1⟩;intro c w vs hr hM js;have Fp:∀(c':Ctx) b,¬iV c' [] b:=λc' b ⟨id,h1,_⟩=>by simp[ai]at h1
 have hzi:∀id,(bI Z id).isSome->(ai m id).isSome:=λid h=>by
  obtain⟨ds,yH⟩:=alS.1 h;obtain⟨cs,cq,_⟩:=tP hz id ds yH;rw[cq];rfl
 have Cl:bg (c.jl [] Z) w dV vs:=by rw[<-j9];exact ph (π:=[]) (nb:=0) rfl hM hz _ _ hr
 have hM0:MR (c.jl [] Z) [] w:=⟨λid cells h=>by simp[ai]at h,λid mK b h=>by simp[ai]at h,λb hb=>by
  rcases hb with h1|⟨id,h1,h2⟩;·exact hM.dY b h1
  ·exact hM.lM ⟨id,hzi id h1,j7.jU h2⟩,hM.o7 (λ_ h=>.inl h) λ_ _=>rfl⟩
 refine(h (c.jl [] Z) w vs Cl hM0 λid _=>rfl).mono ?_;rintro e w' ⟨v,r0,m',c',rfl,⟨hQ,rfl⟩,mW,yG,hs,ho,Je,hfr⟩;have sL:∀b,b<w.heap.size->w'.heap[b]?=w.heap[b]?:=λb hb=>hs.di b hb (Fp _ b);have hl:jP c c w w':=⟨λ_ h=>h,λb hb=>sL b (hM.dY b hb),λ_ _=>rfl,hs.rows⟩;refine⟨v,r0,m,n,c,rfl,⟨hQ,rfl,rfl⟩,Cv _ _ (hv _ hQ) mW,⟨λid cells hid=>?_,hM.inj,λb hb=>Nat.lt_of_lt_of_le (hM.dY b hb) hs.size,hM.o7 (λ_ h=>h) λb hb=>sL b (hM.dY b hb)⟩,
  ⟨hs.os,hs.tape,hs.output,hs.size,λb hb _=>sL b hb,hs.rows,λ_ h=>h,λb hb=>.inl hb⟩,λb hb=>.inl hb,λ_ _=>rfl,λ_ _ h=>h,ali _⟩
 have hS:(ai m id).isSome:=by rw[hid];rfl
 exact(hM.own id cells hid).later hl λb hb=>⟨sL b (hM.lM ⟨id,hS,hb⟩),λhi=>hM.sep hi ⟨id,hS,hb⟩⟩
def dK (P:Program) (dst:Option Nat) (op:j5) (r:List bC) (acc:List nc) (ms:List Nat) (K:St->Prop) (t:Fr) (m:Mem) (n:Nat):Prop:=
 Ah P dst op ⟨t,m,n⟩ λS' f=>gx P r (f::acc) ms S' K
def dm (P:Program) (dst:Option Nat) (F:List Nat) (r:List bC) (acc:List nc) (ms:List Nat) (K:St->Prop) (t:Fr) (m:Mem) (n:Nat):Option (AV×gk)->Prop
 |some (v,e)=>gx P r (⟨qQ n e,F⟩::acc) ms ⟨cG t dst v,e.mem m n,n+1⟩ K
 |none=>False
def oB (P:Program) (dst:Option Nat) (op:j5) (r:List bC) (acc:List nc) (ms:List Nat) (K:St->Prop) (t:Fr) (m:Mem) (n:Nat) (want:Bool):AV->Prop
 |.d (.bool b)=>if b=want then dK P dst op r acc ms K t m n else gx P r (⟨[],[]⟩::acc) ms ⟨cG t dst (.cC []),m,n+1⟩ K
 |.cC _=>gx P r (⟨[],[]⟩::acc) ms ⟨cG t dst (.cC []),m,n+1⟩ K
 |_=>False
def nE (P:Program) (f:Nat) (args:List AV) (dst:Option Nat) (r:List bC) (acc:List nc) (ms:List Nat) (K:St->Prop) (t:Fr) (m:Mem) (n:Nat):Prop:=
 Ag P f args m n λv m n F=>gx P r (F::acc) ms ⟨cG t dst v,m,n⟩ K
def Pe (P:Program) (args:List AV) (dst:Option Nat) (r:List bC) (acc:List nc) (ms:List Nat) (K:St->Prop) (t:Fr) (m:Mem) (n:Nat):AV->Prop
 |.fn f caps=>lK P f=true/\nE P f (args++caps) dst r acc ms K t m n
 |_=>False
variable{acc:List nc} {ms:List Nat} {op:j5}
@[go_sem]theorem ago {S:St}:gx P [] acc ms S K=(lu [] acc.reverse (qP [] ms)=true/\K S):=rfl
@[go_sem]theorem aeZ:gx P (⟨dst,op,none⟩::r) acc ms ⟨t,m,n⟩ K=dK P dst op r acc ms K t m n:=by simp only[gx,dK]
@[go_sem]theorem acg {g:Nat} {want:Bool}:gx P (⟨dst,op,some (g,want)⟩::r) acc ms ⟨t,m,n⟩ K=oB P dst op r acc ms K t m n want (ah t g):=by
  simp only[gx];generalize ah t g=x;cases x with
  |d x=>cases x<;>simp only[oB,dK]
  |_=>simp only[oB]
@[go_sem]theorem agp:oB P dst op r acc ms K t m n true (.d (.bool true))=dK P dst op r acc ms K t m n:=rfl
@[go_sem]theorem agq:oB P dst op r acc ms K t m n false (.d (.bool false))=dK P dst op r acc ms K t m n:=rfl
@[go_sem]theorem agr:oB P dst op r acc ms K t m n true (.d (.bool false))=gx P r (⟨[],[]⟩::acc) ms ⟨cG t dst (.cC []),m,n+1⟩ K:=rfl
@[go_sem]theorem ags:oB P dst op r acc ms K t m n false (.d (.bool true))=gx P r (⟨[],[]⟩::acc) ms ⟨cG t dst (.cC []),m,n+1⟩ K:=rfl
@[go_sem]theorem ae0 {want:Bool} {cs:List AV}:oB P dst op r acc ms K t m n want (.cC cs)=gx P r (⟨[],[]⟩::acc) ms ⟨cG t dst (.cC []),m,n+1⟩ K:=rfl
theorem cu (h:qO op=false):dK P dst op r acc ms K t m n=dm P dst (dN t op) r acc ms K t m n (bq op t m n):=by
 cases op<;>first
  |(simp[qO]at h;done)
  |(simp only[dK,Ah]
    generalize bq _ t m n=x;cases x with
    |none=>rfl
    |some p=>obtain⟨v,e⟩:=p;rfl)
@[go_sem]theorem akX {x:dx}:dK P dst (.mv x) r acc ms K t m n=dm P dst (dN t (.mv x)) r acc ms K t m n (bq (.mv x) t m n):=cu rfl
@[go_sem]theorem ajb {a b c:dx}:dK P dst (.pick a b c) r acc ms K t m n=dm P dst (dN t (.pick a b c)) r acc ms K t m n (bq (.pick a b c) t m n):=cu rfl
@[go_sem]theorem ahr {z:List AV}:dK P dst (.alloc z) r acc ms K t m n=dm P dst (dN t (.alloc z)) r acc ms K t m n (bq (.alloc z) t m n):=cu rfl
@[go_sem]theorem ajQ {x:dx}:dK P dst (.box x) r acc ms K t m n=dm P dst (dN t (.box x)) r acc ms K t m n (bq (.box x) t m n):=cu rfl
@[go_sem]theorem ahs {z:List AV} {p:List (Nat×Nat×dx)}:dK P dst (.build z p) r acc ms K t m n=dm P dst (dN t (.build z p)) r acc ms K t m n (bq (.build z p) t m n):=cu rfl
@[go_sem]theorem agt {a b:Nat} {z:List AV} {p:List (Nat×Nat×dx)}:dK P dst (.cF a b z p) r acc ms K t m n=dm P dst (dN t (.cF a b z p)) r acc ms K t m n (bq (.cF a b z p) t m n):=cu rfl
@[go_sem]theorem ajc {k:Option Nat} {x:dx}:dK P dst (.load k x) r acc ms K t m n=dm P dst (dN t (.load k x)) r acc ms K t m n (bq (.load k x) t m n):=cu rfl
@[go_sem]theorem aht {k:Nat} {x y:dx}:dK P dst (.store k x y) r acc ms K t m n=dm P dst (dN t (.store k x y)) r acc ms K t m n (bq (.store k x y) t m n):=cu rfl
@[go_sem]theorem ahu {x:dx}:dK P dst (.jc x) r acc ms K t m n=dm P dst (dN t (.jc x)) r acc ms K t m n (bq (.jc x) t m n):=cu rfl
@[go_sem]theorem ajR {o:BinOp} {x y:dx}:dK P dst (.bin o x y) r acc ms K t m n=dm P dst (dN t (.bin o x y)) r acc ms K t m n (bq (.bin o x y) t m n):=cu rfl
@[go_sem]theorem ajS {o:Bool} {x y:dx}:dK P dst (.TU o x y) r acc ms K t m n=dm P dst (dN t (.TU o x y)) r acc ms K t m n (bq (.TU o x y) t m n):=cu rfl
@[go_sem]theorem ajT {o:Bool} {x y:dx}:dK P dst (.TV o x y) r acc ms K t m n=dm P dst (dN t (.TV o x y)) r acc ms K t m n (bq (.TV o x y) t m n):=cu rfl
@[go_sem]theorem ajU {o:Bool} {x y:dx}:dK P dst (.Zy o x y) r acc ms K t m n=dm P dst (dN t (.Zy o x y)) r acc ms K t m n (bq (.Zy o x y) t m n):=cu rfl
@[go_sem]theorem ajV {k:List Nat} {o:Bool} {x y:dx}:dK P dst (.eqs k o x y) r acc ms K t m n=dm P dst (dN t (.eqs k o x y)) r acc ms K t m n (bq (.eqs k o x y) t m n):=cu rfl
@[go_sem]theorem akY {o:UnOp} {x:dx}:dK P dst (.un o x) r acc ms K t m n=dm P dst (dN t (.un o x)) r acc ms K t m n (bq (.un o x) t m n):=cu rfl
@[go_sem]theorem ajW {k:IntKind} {x:dx}:dK P dst (.IJ k x) r acc ms K t m n=dm P dst (dN t (.IJ k x)) r acc ms K t m n (bq (.IJ k x) t m n):=cu rfl
@[go_sem]theorem agu {x:dx}:dK P dst (.nz x) r acc ms K t m n=dm P dst (dN t (.nz x)) r acc ms K t m n (bq (.nz x) t m n):=cu rfl
@[go_sem]theorem ajd {x:dx}:dK P dst (.yK x) r acc ms K t m n=dm P dst (dN t (.yK x)) r acc ms K t m n (bq (.yK x) t m n):=cu rfl
@[go_sem]theorem aje {x:dx}:dK P dst (.Gs x) r acc ms K t m n=dm P dst (dN t (.Gs x)) r acc ms K t m n (bq (.Gs x) t m n):=cu rfl
@[go_sem]theorem ajf {x:dx}:dK P dst (.B0 x) r acc ms K t m n=dm P dst (dN t (.B0 x)) r acc ms K t m n (bq (.B0 x) t m n):=cu rfl
@[go_sem]theorem ajg {f:Nat} {c:List dx}:dK P dst (.rY f c) r acc ms K t m n=dm P dst (dN t (.rY f c)) r acc ms K t m n (bq (.rY f c) t m n):=cu rfl
@[go_sem]theorem ajh {a b:Nat} {z:List AV} {x y:dx}:dK P dst (.Er a b z x y) r acc ms K t m n=dm P dst (dN t (.Er a b z x y)) r acc ms K t m n (bq (.Er a b z x y) t m n):=cu rfl
@[go_sem]theorem aji {x:dx} {l h:Option dx}:dK P dst (.yL x l h) r acc ms K t m n=dm P dst (dN t (.yL x l h)) r acc ms K t m n (bq (.yL x l h) t m n):=cu rfl
@[go_sem]theorem ajj {a:Nat} {x:dx} {l h:Option dx}:dK P dst (.uZ a x l h) r acc ms K t m n=dm P dst (dN t (.uZ a x l h)) r acc ms K t m n (bq (.uZ a x l h) t m n):=cu rfl
@[go_sem]theorem ahv {x:dx} {o:Nat}:dK P dst (.dI x o) r acc ms K t m n=dm P dst (dN t (.dI x o)) r acc ms K t m n (bq (.dI x o) t m n):=cu rfl
@[go_sem]theorem ajX {x:dx} {o:Nat} {k:Option Nat}:dK P dst (.ZT x o k) r acc ms K t m n=dm P dst (dN t (.ZT x o k)) r acc ms K t m n (bq (.ZT x o k) t m n):=cu rfl
@[go_sem]theorem ahw {e:Nat} {k:Option Nat} {x i:dx}:dK P dst (.cg e k x i) r acc ms K t m n=dm P dst (dN t (.cg e k x i)) r acc ms K t m n (bq (.cg e k x i) t m n):=cu rfl
@[go_sem]theorem ajk {x i:dx}:dK P dst (.idxs x i) r acc ms K t m n=dm P dst (dN t (.idxs x i)) r acc ms K t m n (bq (.idxs x i) t m n):=cu rfl
@[go_sem]theorem ajl {a e:Nat} {k:Option Nat} {x i:dx}:dK P dst (.Es a e k x i) r acc ms K t m n=dm P dst (dN t (.Es a e k x i)) r acc ms K t m n (bq (.Es a e k x i) t m n):=cu rfl
@[go_sem]theorem ajY {x:dx} {i:Nat}:dK P dst (.ext x i) r acc ms K t m n=dm P dst (dN t (.ext x i)) r acc ms K t m n (bq (.ext x i) t m n):=cu rfl
@[go_sem]theorem ajm {x:dx}:dK P dst (.lens x) r acc ms K t m n=dm P dst (dN t (.lens x)) r acc ms K t m n (bq (.lens x) t m n):=cu rfl
@[go_sem]theorem ajn {x:dx}:dK P dst (.B1 x) r acc ms K t m n=dm P dst (dN t (.B1 x)) r acc ms K t m n (bq (.B1 x) t m n):=cu rfl
@[go_sem]theorem ajo {x y:dx}:dK P dst (.yM x y) r acc ms K t m n=dm P dst (dN t (.yM x y)) r acc ms K t m n (bq (.yM x y) t m n):=cu rfl
@[go_sem]theorem ajp {x y:dx}:dK P dst (.wk x y) r acc ms K t m n=dm P dst (dN t (.wk x y)) r acc ms K t m n (bq (.wk x y) t m n):=cu rfl
@[go_sem]theorem ajZ {k:me} {xs:List dx}:dK P dst (.j6 k xs) r acc ms K t m n=dm P dst (dN t (.j6 k xs)) r acc ms K t m n (mU k (xs.map (ev t)) m n):=cu rfl
@[go_sem]theorem aj0 {a b e:Nat} {x y:dx}:dK P dst (.app a b e x y) r acc ms K t m n=dm P dst (dN t (.app a b e x y)) r acc ms K t m n (bq (.app a b e x y) t m n):=cu rfl
@[go_sem]theorem ach {F:List Nat} {v:AV} {e:gk}:dm P dst F r acc ms K t m n (some (v,e))=gx P r (⟨qQ n e,F⟩::acc) ms ⟨cG t dst v,e.mem m n,n+1⟩ K:=rfl
@[go_sem]theorem aci {F:List Nat}:dm P dst F r acc ms K t m n none=False:=rfl
@[go_sem]theorem ahx {f:Nat} {args:List dx}:dK P dst (.bW f args) r acc ms K t m n=nE P f (args.map (ev t)) dst r acc ms K t m n:=rfl
@[go_sem]theorem ahy {x:dx} {args:List dx}:dK P dst (.eW x args) r acc ms K t m n=Pe P (args.map (ev t)) dst r acc ms K t m n (ev t x):=by
  unfold dK;simp only[Ah];generalize ev t x=y;cases y<;>rfl
@[go_sem]theorem ae1 {f:Nat} {caps args:List AV}:Pe P args dst r acc ms K t m n (.fn f caps)=(lK P f=true/\nE P f (args++caps) dst r acc ms K t m n):=rfl
theorem bD (h:Pure P f args v) (ha:bZ (λ_=>none) args=true) (hv:cd (λ_=>none) v=true) (hk:gx P r (⟨[],[]⟩::acc) ms ⟨cG t dst v,m,n⟩ K):nE P f args dst r acc ms K t m n:=by
 unfold nE Ag;refine Or.inl ⟨[],[],args,v,[],0,rfl,(fM _ ha).symm,kx (λ_ h=>by cases h) _ ha,trivial,λ_ _ h=>by simp[af]at h,h,?_⟩;rw[qd _ hv];exact hk
theorem GM (ρ:Ren) (dV:List AV) (m0:Mem) {r0:AV} {nb:Nat} (h:bB P f dV m0 λr m'=>r=r0/\m'=m0) (cI:bX nb ρ=true) (j9:aj (af ρ) dV=args) (du:bZ (af ρ) dV=true)
 (hh:handed ρ m m0) (o0:(ρ.all λp=>(ai m0 p.1).isSome)=true) (Cl:∀π,r0.aA π=r0)
 (hk:gx P r (⟨[],ρ.map (·.2)⟩::acc) ms ⟨cG t dst r0,m,n+Nat.max (aE m0) (aE m0)⟩ K):nE P f args dst r acc ms K t m n:=by
 unfold nE Ag;exact Or.inr ⟨ρ,m0,dV,r0,nb,cI,j9.symm,du,hh,λj id hj=>List.all_eq_true.1 o0 _ (lP hj),h,Cl,hk⟩
end
attribute [go_sem] dN qQ nW
end Go.Jq
namespace Go.Jq
open Go
def acj (dR:Nat) (k:Option Nat):aJ:=(.seq (.region false [⟨(some 4),.mv (.c (.d (.int .i64 0))),none⟩] []) (.seq (.seq (.region false [⟨(some 6),.mv (.t 0),none⟩,⟨(some 7),.B1 (.t 6),none⟩,⟨(some 8),.mv (.c (.d (.int .i64 0))),none⟩] []) (.block 0 (.loop (.seq (.region false [⟨(some 9),.bin .lss (.t 8) (.t 7),none⟩] []) (.seq (.cond (.t 9) .skip (.exit 0)) (.seq (.block 1 (.seq (.region false [⟨(some 10),.mv (.t 8),none⟩,⟨(some 5),.mv (.t 10),none⟩] []) (.seq (.region false [⟨(some 11),.mv (.t 1),none⟩,⟨(some 12),.mv (.t 0),none⟩,⟨(some 13),.mv (.t 5),none⟩,⟨(some 14),.cg dR none (.t 12) (.t 13),none⟩,⟨(some 15),.load k (.t 14),none⟩,⟨(some 16),.eW (.t 11) [(.t 15)],none⟩] []) (.cond (.t 16) (.seq (.region false [⟨(some 17),.mv (.t 5),none⟩,⟨(some 4),.mv (.t 17),none⟩] []) .ret) .skip)))) (.region false [⟨(some 18),.bin .add (.t 8) (.c (.d (.int .i64 1))),none⟩,⟨(some 8),.mv (.t 18),none⟩] []))))))) (.seq (.region false [⟨(some 4),.mv (.c (.d (.int .i64 (-1)))),none⟩] []) .ret)))
def hZ (p:Nat->Bool):Nat->Nat->Int
 |0,_=>-1
 |n+1,i=>if p i=true then(i:Int)else hZ p n (i+1)
theorem Aj (p:Nat->Bool):∀(n i:Nat),decide (0<=hZ p n i)=(List.range' i n).any p
 |0,i=>by simp[hZ]
 |n+1,i=>by
  have ih:=Aj p n (i+1);simp only[hZ,List.range'_succ,List.any_cons];by_cases h:p i=true;·simp[h]
  ·simp[h,ih]
structure SlE (dR:Nat) (k:Option Nat) (X:DV) (n:Nat) (elt:Nat->AV):Prop where
 len:jV (.d X)=some n
 j6:n<=9223372036854775807
 get:∀i,i<n->∃cs,X=.sl n cs/\i*dR<cs.length/\aN k ((cs.drop (i*dR)).map .d)=some (elt i)
theorem lv {P:Program} {f kk:Nat} {fn:Func} (hf:P.funcs[f]?=some fn) {dR:Nat} {k:Option Nat} (hc:fn.body.bind (cX P fn.ntmps)=some (acj dR k)) (hk:fn.ntmps=kk) (hkk:decide (2<=kk)=true) (Tx:fn.results=#[.tmp 4])
 {X:DV} {len:Nat} {elt:Nat->AV} (hx:SlE dR k X len elt) {gf:Nat} {caps:List AV} (hg:lK P gf=true) (hJ:bZ (λ_=>none) caps=true) (he:∀i,i<len->cd (λ_=>none) (elt i)=true) {p:Nat->Bool}
 (hp:∀i,i<len->Pure P gf (elt i::caps) (.d (.bool (p i)))):Pure P f [.d X,.fn gf caps] (.d (.int .i64 (hZ p len 0))):=by
 refine ay hf hc hk Tx hkk ?_;have iW:∀π,aj π caps=caps:=λπ=>fM _ hJ;have fk:=hx.j6;unfold acj;refine aa λK hK=>ag rfl ?_;simp only[go_sem];refine hK _ ?_;clear hK K;refine aa λK hK=>?_;refine aa λK' hK'=>ag rfl ?_;simp only[go_sem,↓reduceIte,Nat.reduceEqDiff,hx.len];refine hK' _ ?_;clear hK' K';refine ax ?_;refine aw (S':=⟨[(0,.d X),(1,.fn gf caps),(7,.d (.int .i64 len)),(8,.d (.int .i64 (0:Nat)))],[],0⟩) (aB.cj [] ⟨?_,trivial,rfl,rfl⟩) ?_;·simp[aV,ah,AV.aA,iW]
 refine sF (λS=>∃i,i<=len/\hZ p (len-i) i=hZ p len 0/\S=⟨[(0,.d X),(1,.fn gf caps),(7,.d (.int .i64 len)),(8,.d (.int .i64 (i:Nat)))],[],0⟩)
  (λS=>match ah S.t 8 with
   |.d (.int _ i)=>len-i.toNat
   |_=>0) ⟨0,alZ _,rfl,rfl⟩ ?_
 rintro S ⟨i,hi,Mh,rfl⟩;refine aa λK1 aT=>ag rfl ?_;simp only[go_sem,↓reduceIte,Nat.reduceEqDiff];refine aT _ ?_;clear aT K1;by_cases bn:i<len
 ·have aQ:(i:Int)<len:=by omega
  obtain⟨cs,hX,cq,qU⟩:=hx.get i bn;refine aa λK1 aT=>cm true (by simp[ev,ah,aQ]) (λ_=>ar ?_) (λh=>nomatch h);refine aT _ ?_;clear aT K1;refine aa λK1 aT=>ax ?_;refine aa λK2 eX=>ag rfl ?_;simp only[go_sem,↓reduceIte,Nat.reduceEqDiff];refine eX _ ?_;clear eX K2;refine aa λK2 eX=>ag rfl ?_;simp only[go_sem,↓reduceIte,Nat.reduceEqDiff,hX,aQ,alj,cq,alm,and_self,qU,true_and];refine⟨hg,?_⟩;refine aI (args:=elt i::caps) (hp i bn) (by simp only[bZ,he i bn,hJ,alF]) rfl ?_;simp only[go_sem];refine eX _ ?_;clear eX K2;by_cases hpi:p i=true
  ·refine cm true (by simp[ev,ah,hpi]) (λ_=>?_) (λh=>nomatch h);refine aa λK2 eX=>ag rfl ?_;simp only[go_sem,↓reduceIte,Nat.reduceEqDiff];refine eX _ ?_;clear eX K2;refine an ?_;simp only[go_sem];refine aD _ rfl rfl ⟨?_,rfl⟩;have:len-i=(len-i-1)+1:=by omega
   rw[this]at Mh;simp only[hZ,hpi,if_true]at Mh;simp only[ah,↓reduceIte,<-Mh]
  ·refine cm false (by simp[ev,ah,hpi]) (λh=>nomatch h) (λ_=>ar ?_);refine aT _ ?_;clear aT K1;refine ag rfl ?_;simp only[go_sem,↓reduceIte,Nat.reduceEqDiff];have hw:alv.wrap ((i:Int)+1)=((i+1:Nat):Int):=by rw[wrap_i64 (by omega) (by omega)];rfl
   refine⟨⟨[(0,.d X),(1,.fn gf caps),(7,.d (.int .i64 len)),(8,.d (.int .i64 (i+1:Nat)))],[],0⟩,aB.cj [] ⟨?_,trivial,rfl,rfl⟩,⟨i+1,bn,?_,rfl⟩,?_⟩;·simp[aV,ah,AV.aA,iW,hw,hX]
   ·have:len-i=(len-(i+1))+1:=by omega
    rw[this]at Mh;simp only[hZ,hpi]at Mh;exact Mh
   ·simp only[ah,↓reduceIte,Nat.reduceEqDiff,alj];omega
 ·have aQ:¬(i:Int)<len:=by omega
  refine aa λK1 aT=>cm false (by simp[ev,ah,aQ]) (λh=>nomatch h) (λ_=>aW ?_);show K _;refine hK _ ?_;refine aa λK1 aT=>ag rfl ?_;simp only[go_sem,↓reduceIte,Nat.reduceEqDiff];refine aT _ ?_;clear aT K1;refine an ?_;simp only[go_sem];refine aD _ rfl rfl ⟨?_,rfl⟩;have:len-i=0:=by omega
  rw[this]at Mh;simp only[ah,↓reduceIte,<-Mh,hZ]
def UQ (idx:Nat):aJ:=(.seq (.region false [⟨(some 4),.mv (.c (.d (.bool false))),none⟩] []) (.seq (.region false [⟨(some 5),.mv (.t 0),none⟩,⟨(some 6),.mv (.t 1),none⟩,⟨(some 7),.bW idx [(.t 5),(.t 6)],none⟩,⟨(some 8),.bin .geq (.t 7) (.c (.d (.int .i64 0))),none⟩,⟨(some 4),.mv (.t 8),none⟩] []) .ret))
theorem iC {P:Program} {f kk idx:Nat} {fn:Func} (hf:P.funcs[f]?=some fn) (hc:fn.body.bind (cX P fn.ntmps)=some (UQ idx)) (hk:fn.ntmps=kk) (hkk:decide (2<=kk)=true) (Tx:fn.results=#[.tmp 4])
 {X:DV} {len:Nat} {gf:Nat} {caps:List AV} (hJ:bZ (λ_=>none) caps=true) {p:Nat->Bool} (hp:Pure P idx [.d X,.fn gf caps] (.d (.int .i64 (hZ p len 0)))):
 Pure P f [.d X,.fn gf caps] (.d (.bool ((List.range' 0 len).any p))):=by
 refine ay hf hc hk Tx hkk ?_;unfold UQ;refine aa λK hK=>ag rfl ?_;simp only[go_sem];refine hK _ ?_;clear hK K;refine aa λK hK=>ag rfl ?_;simp only[go_sem,↓reduceIte,Nat.reduceEqDiff];refine aI hp (by simp only[bZ,cd,hJ,alF]) rfl ?_;simp only[go_sem,↓reduceIte,Nat.reduceEqDiff];refine hK _ ?_;clear hK K;refine an (aD _ rfl rfl ⟨?_,rfl⟩);simp only[ah,↓reduceIte,Aj]
end Go.Jq
namespace Go.Jq
open Go
theorem EA {P:Program} {f:Nat} {args:List AV} {v:AV}
 (h:∀(c:Ctx) (w:World) (vs:List Value),bg c w args vs->Calls P f vs.toArray w λe w'=>∃u,e=.returned u/\w'=w/\Rel c w v u):Pure P f args v:=by
 intro c w vs hr hM js;refine(h c w vs hr).mono ?_;rintro e w' ⟨u,rfl,rfl,hu⟩;exact⟨u,v,[],c,rfl,⟨rfl,rfl⟩,hu,hM,Step.refl _ _ _,λb hb=>.inl hb,λid _ h=>⟨h,rfl⟩,λid hid=>js id (Nat.le_trans (alZ _) hid)⟩
theorem mL {P:Program} {f:Nat} {args:List AV} {v:AV}
 (h:∀(c:Ctx) (w:World) (vs:List Value),bg c w args vs->MR c [] w->Calls P f vs.toArray w λe w'=>∃u,e=.returned u/\w'.os=w.os/\w'.tape=w.tape/\w'.output=w.output/\w.heap.size<=w'.heap.size/\
  (∀k,k<w.heap.size->w'.heap[k]?=w.heap[k]?)/\Rel c w' v u):Pure P f args v:=by
 intro c w vs hr hM js;refine(h c w vs hr hM).mono ?_;rintro e w' ⟨u,rfl,h1,h2,h3,h4,h5,hu⟩;have ow:∀b n,dP w b=some n->dP w' b=some n:=λb n hn=>(iA (h5 b (u1 hn))).trans hn;have hl:jP c c w w':=⟨λ_ h=>h,λb hb=>h5 b (hM.dY b hb),λ_ _=>rfl,ow⟩;refine⟨u,v,[],c,rfl,⟨rfl,rfl⟩,hu,⟨λid cells hi=>by simp[ai]at hi,λid mK b hi=>by simp[ai]at hi,λb hb=>Nat.lt_of_lt_of_le (hM.dY b hb) h4,hM.o7 hl.dY hl.same⟩,
  ⟨h1,h2,h3,h4,λk hk _=>h5 k hk,ow,λ_ h=>h,λ_ h=>.inl h⟩,λb hb=>.inl hb,λid _ h=>⟨h,rfl⟩,λid hid=>js id (Nat.le_trans (alZ _) hid)⟩
theorem bO {P:Program} {rs:Array ResultVar} {n0:Nat} {Q:AV->Mem->Prop} {S:St} (v:AV) (π:Ren) (m':Mem) (hv:bj P rs S=some v) (cI:bX (Nat.max n0 (aE m')) π=true)
 (hk:nV n0 π=true) (hm:aL π S.m m') (hq:Q (v.aA (af π)) m'):nC P rs n0 Q .ret S:=⟨v,hv,π,m',cI,hk,hm,hq⟩
def dU {α:Type} (enc:α->List DV) (l:List α) (X:DV):Prop:=l.length<=9223372036854775807/\((X=.ct/\l=[])\/X=.sl l.length (l.flatMap enc))
theorem Cw {α:Type} {enc:α->List DV} {k:Nat} (hk:∀a,(enc a).length=k):∀(l:List α) (i:Nat) (a:α),l[i]?=some a->
 ((l.flatMap enc).drop (i*k)).take k=enc a/\i*k+k<=(l.flatMap enc).length
 | [],i,a,h=>by simp at h
 |x::l,0,a,h=>by
  simp at h;subst h;refine⟨?_,?_⟩;·rw[Nat.zero_mul,als,alO,List.take_append_of_le_length (by rw[hk];exact ali _),alx (by rw[hk];exact ali _)]
  ·simp[alO,hk]
 |x::l,i+1,a,h=>by
  obtain⟨h1,h2⟩:=Cw hk l i a (by simpa using h);refine⟨?_,?_⟩
  ·rw[<-h1,alO,List.drop_append];have e1:(enc x).drop ((i+1)*k)=[]:=List.drop_eq_nil_of_le (by rw[hk,Nat.succ_mul];omega);have e2:(i+1)*k-(enc x).length=i*k:=by rw[hk,Nat.succ_mul];omega
   rw[e1,e2,al8]
  ·rw[alO,aln,hk,Nat.succ_mul];omega
def y1 {α:Type} (enc:α->List DV) (l:List α) (i:Nat):AV:=match l[i]?with
 |some a=>.agg ((enc a).map .d)
 |none=>.any
theorem tQ {α:Type} {enc:α->List DV} {k:Nat} (hk:∀a,(enc a).length=k) (GF:0<k) {l:List α} {X:DV} (h:dU enc l X):SlE k (some k) X l.length (y1 enc l):=by
 obtain⟨hb,h⟩:=h;refine⟨?_,hb,λi hi=>?_⟩;·rcases h with⟨rfl,rfl⟩|rfl<;>rfl
 ·rcases h with⟨rfl,rfl⟩|rfl;·simp at hi
  ·have uu:l[i]?=some l[i]:=by simp[hi]
   obtain⟨h1,h2⟩:=Cw hk l i _ uu;refine⟨_,rfl,by omega,?_⟩;simp only[aN,y1,uu];rw[if_pos (by rw[alk,List.length_drop];omega),<-List.map_take,h1]
def EB (l:List DV) (i:Nat):AV:=match l[i]?with
 |some d=>.d d
 |none=>.any
theorem Bx {ds:List DV} {X:DV} (h:dU (λd=>[d]) ds X):SlE 1 none X ds.length (EB ds):=by
 obtain⟨hb,h⟩:=h;refine⟨?_,hb,λi hi=>?_⟩;·rcases h with⟨rfl,rfl⟩|rfl<;>rfl
 ·rcases h with⟨rfl,rfl⟩|rfl;·simp at hi
  ·have uu:ds[i]?=some ds[i]:=by simp[hi]
   have hfm:ds.flatMap (λd=>[d])=ds:=by simp
   refine⟨_,rfl,by rw[hfm];omega,?_⟩;rw[hfm];simp only[aN,EB,uu,alV,List.map_drop,List.getElem?_drop,Nat.add_zero,List.getElem?_map,alX]
def nM {α:Type} (enc:α->List DV):List (List α)->List DV->Prop
 | [],[]=>True
 |l::ls,d::ds=>dU enc l d/\nM enc ls ds
 |_,_=>False
theorem nM.length {α:Type} {enc:α->List DV}:∀{ls:List (List α)} {ds:List DV},nM enc ls ds->ds.length=ls.length
 | [],[],_=>rfl
 |_::_,_::_,h=>by simp[nM.length h.2]
 | [],_::_,h=>h.elim
 |_::_,[],h=>h.elim
theorem nM.get {α:Type} {enc:α->List DV}:∀{ls:List (List α)} {ds:List DV},nM enc ls ds->∀(i:Nat) (l:List α),ls[i]?=some l->∃d,ds[i]?=some d/\dU enc l d
 | [],[],_,i,l,h=>by simp at h
 |x::ls,d::ds,h,i,l,hi=>by
  cases i with
  |zero=>simp at hi;subst hi;exact⟨d,rfl,h.1⟩
  |succ i=>simpa using nM.get h.2 i l (by simpa using hi)
 | [],_::_,h,_,_,_=>h.elim
 |_::_,[],h,_,_,_=>h.elim
theorem nM.append {α:Type} {enc:α->List DV} {l:List α} {d:DV} (h1:dU enc l d):∀{ls:List (List α)} {ds:List DV},nM enc ls ds->nM enc (ls++[l]) (ds++[d])
 | [],[],_=>⟨h1,trivial⟩
 |_::_,_::_,h=>⟨h.1,nM.append h1 h.2⟩
 | [],_::_,h=>h.elim
 |_::_,[],h=>h.elim
def cQ {α:Type} (enc:α->List DV) (ls:List (List α)) (X:DV):Prop:=∃ds,dU (λd=>[d]) ds X/\nM enc ls ds
theorem qV {α:Type} (q:α->Bool) (l:List α):(List.range' 0 l.length).any (λi=>(l[i]?.map q).getD false)=l.any q:=by
 rw[Bool.eq_iff_iff];simp only[List.any_eq_true];constructor
 ·rintro⟨i,hi,h⟩;cases hg:l[i]?with
  |none=>simp[hg]at h
  |some a=>exact⟨a,List.mem_of_getElem? hg,by simpa[hg]using h⟩
 ·rintro⟨a,ha,h⟩;obtain⟨i,hi⟩:=List.mem_iff_getElem?.1 ha;exact⟨i,by simp[List.mem_range'_1,(List.getElem?_eq_some_iff.1 hi).1],by simp[hi,h]⟩
theorem oC:∀(vs cs:List AV) (o:Nat),o+vs.length<=cs.length->putAt cs o vs=cs.take o++vs++cs.drop (o+vs.length)
 | [],cs,o,_=>by simp[putAt]
 |v::vs,cs,o,h=>by
  simp only[alu]at h;have ih:=oC vs (cs.set o v) (o+1) (by simp;omega);have e1:(cs.set o v).take (o+1)=cs.take o++[v]:=by
   rw[List.take_add_one,List.take_set_of_le (ali o)];have:o<cs.length:=by omega
   simp[this]
  have e2:(cs.set o v).drop (o+1+vs.length)=cs.drop (o+(vs.length+1)):=by
   rw[List.drop_set_of_lt (by omega)]
   congr 1;omega
  rw[putAt,ih,e1,e2];simp
theorem iP {vs cs:List AV} (h:vs.length=cs.length):putAt cs 0 vs=vs:=by
 rw[oC vs cs 0 (by omega)];simp[h]
theorem eR (l:List DV):(l.map AV.d).all mf=true:=by
 simp[mf]
theorem Ju (x:Int) (m:Nat) (hm:m<=9223372036854775807):∃q:Nat,q<=m/\bits .and .i64 x (m:Int)=(q:Int):=by
 refine⟨(al5 64 x).toNat&&&m,Nat.and_le_right,?_⟩;have h:(al5 64 (m:Int)).toNat=m:=by simp[BitVec.ofInt_natCast];omega
 have h2:((al5 64 x).toNat&&&m)<=m:=Nat.and_le_right;have e:bits .and .i64 x (m:Int)=alv.wrap (((al5 64 x)&&&(al5 64 (m:Int))).toNat:Nat):=rfl;rw[e,BitVec.toNat_and,h];exact wrap_i64 (by omega) (by omega)
def de (l:List Int) (X:DV):Prop:=dU (λd=>[d]) (l.map (DV.int .i64)) X
theorem de.sl {l:List Int} {X:DV} (h:de l X):SlE 1 none X l.length (EB (l.map (DV.int .i64))):=by
 have:=Bx h;rwa[alk]at this
def aX (s:List UInt8):DV:=.sl s.length (s.map λb=>.int .u8 b.toNat)
end Go.Jq
namespace Go.Jq
open Go
attribute [go_sem] List.drop List.getElem?_cons_zero List.getElem?_cons_succ Bool.true_eq_false aly decide_true decide_false alu alB List.all_cons List.all_nil alF List.set_cons_zero List.set_cons_succ List.take alk List.cons_append al8 ali Nat.min_def alT al7 Bool.true_beq Bool.false_beq beq_self_eq_true Bool.true_bne Bool.false_bne bne_self_eq_false not_true_eq_false not_false_eq_true
theorem a8 {P:Program} {f:Nat} {args:List AV} {v:AV} {dst:Option Nat} {r:List bC} {K:St->Prop} {t:Fr} {m:Mem} {n:Nat} (h:Pure P f args v) (hk:bN P r ⟨cG t dst v,m,n⟩ K) (ha:bZ (λ_=>none) args=true:=by simp[bZ,cd]) (hv:cd (λ_=>none) v=true:=by simp[bZ,cd]):ej P f args dst r K t m n:=aI h ha hv hk
theorem dw {P:Program} {f:Nat} {args:List AV} {v:AV} {dst:Option Nat} {r:List bC} {acc:List nc} {ms:List Nat} {K:St->Prop} {t:Fr} {m:Mem} {n:Nat} (h:Pure P f args v) (hk:gx P r (⟨[],[]⟩::acc) ms ⟨cG t dst v,m,n⟩ K) (ha:bZ (λ_=>none) args=true:=by simp[bZ,cd]) (hv:cd (λ_=>none) v=true:=by simp[bZ,cd]):nE P f args dst r acc ms K t m n:=bD h ha hv hk
end Go.Jq
namespace Go.Jq
open Go
@[go_sem]theorem ahz:alv.bits=64:=rfl
@[go_sem]theorem ajq:IntKind.u8.bits=8:=rfl
section
variable(x:Nat)
theorem lT (b:Nat):(x:Int).fdiv (b:Int)=((x/b:Nat):Int):=by rw[Int.fdiv_eq_ediv_of_nonneg _ (alm _)];rfl
theorem Jv (b:Nat):(x:Int).tmod (b:Int)=((x%b:Nat):Int):=rfl
theorem UR (b:Nat):(x:Int).tdiv (b:Int)=((x/b:Nat):Int):=rfl
theorem fd8:(x:Int).fdiv 8=((x/8:Nat):Int):=lT x 8
theorem ahA:(x:Int).fdiv 16=((x/16:Nat):Int):=lT x 16
theorem aj1:(x:Int).fdiv 32=((x/32:Nat):Int):=lT x 32
theorem aj2:(x:Int).fdiv 64=((x/64:Nat):Int):=lT x 64
theorem ahB:(x:Int).fdiv 128=((x/128:Nat):Int):=lT x 128
theorem ahC:(x:Int).fdiv 256=((x/256:Nat):Int):=lT x 256
theorem ae2:(x:Int).fdiv 1024=((x/1024:Nat):Int):=lT x 1024
theorem ae3:(x:Int).fdiv 2048=((x/2048:Nat):Int):=lT x 2048
theorem tm2:(x:Int).tmod 2=((x%2:Nat):Int):=rfl
theorem tm3:(x:Int).tmod 3=((x%3:Nat):Int):=rfl
theorem tm4:(x:Int).tmod 4=((x%4:Nat):Int):=rfl
theorem aj3:(x:Int).tmod 12=((x%12:Nat):Int):=rfl
theorem td3:(x:Int).tdiv 3=((x/3:Nat):Int):=rfl
theorem ae4:bits .and .i64 (x:Int) 1=((x%2:Nat):Int):=by
 have e:bits .and .i64 (x:Int) 1=alv.wrap (((al5 64 (x:Int))&&&(al5 64 1)).toNat:Nat):=rfl;have h1:(al5 64 1).toNat=2^1-1:=rfl;have h2:(al5 64 (x:Int)).toNat=x%2^64:=by simp[BitVec.ofInt_natCast]
 rw[e,BitVec.toNat_and,h1,h2,Nat.and_two_pow_sub_one_eq_mod,wrap_i64 (by omega) (by omega)]
 congr 1
 omega
end
theorem wrap_small {n:Nat} (h:n<=9223372036854775807):alv.wrap (n:Int)=(n:Int):=wrap_i64 (by omega) (by omega)
end Go.Jq
namespace Go.Jq
open Go
theorem exists_least (p:Nat->Prop):∀n,p n->∃m,p m/\∀k,k<m->¬p k:=by
 intro n;induction n using Nat.strongRecOn with
 |ind n ih=>
  intro hn;by_cases h:∃k,k<n/\p k
  ·obtain⟨k,hk,hp⟩:=h;exact ih k hk hp
  ·exact⟨n,hn,λk hk hp=>h ⟨k,hk,hp⟩⟩
section
variable{P:Program} {n0 k:Nat} {Q:Exit->St->Prop}
theorem ef {ι:Type} {b:aJ} (F:ι->St) (M4:ι->Nat) (i0:ι)
 (h:∀i,fP P n0 k b (F i) (Exit.jQ (λS'=>∃j,M4 j<M4 i/\aB n0 k S' (F j)) Q)):fP P n0 k (.loop b) (F i0) Q:=by
 classical
 have least:∀S,(∃i,F i=S)->∃m,(∃i,F i=S/\M4 i=m)/\∀j,F j=S->m<=M4 j:=by
  rintro S ⟨i,hi⟩;obtain⟨m,hm,hl⟩:=exists_least (λm=>∃i,F i=S/\M4 i=m) (M4 i) ⟨i,hi,rfl⟩;refine⟨m,hm,λj hj=>?_⟩;rcases Nat.lt_or_ge (M4 j) m with bn|hge;·exact absurd ⟨j,hj,rfl⟩ (hl _ bn)
  ·exact hge
 refine sF (λS=>∃i,F i=S) (λS=>if hS:∃i,F i=S then Classical.choose (least S hS)else 0) ⟨i0,rfl⟩ ?_;intro S hS;have hsp:=Classical.choose_spec (least S hS);obtain⟨⟨i,rfl,hi⟩,_⟩:=hsp;refine Cn (h i) ?_;intro e S' hq;cases e with
 |normal=>
  obtain⟨j,hj,hle⟩:=hq;refine⟨F j,hle,⟨j,rfl⟩,?_⟩;have A6:∃i,F i=F j:=⟨j,rfl⟩;have h1:=(Classical.choose_spec (least (F j) A6)).2 j rfl;simp only[dif_pos hS,dif_pos A6];omega
 |_=>exact hq
theorem bS {b:aJ} (F:Nat->St) (N:Nat)
 (h:∀i,i<=N->fP P n0 k b (F i) (Exit.jQ (λS'=>i<N/\aB n0 k S' (F (i+1))) Q)):fP P n0 k (.loop b) (F 0) Q:=by
 refine ef (ι:=Fin (N+1)) (λi=>F i.1) (λi=>N-i.1) ⟨0,Nat.succ_pos _⟩ ?_;rintro⟨i,hi⟩;refine Cn (h i (Nat.le_of_lt_succ hi)) ?_;intro e S' hq;cases e with
 |normal=>
  obtain⟨bn,hle⟩:=hq;exact⟨⟨i+1,Nat.succ_lt_succ bn⟩,by simp only;omega,hle⟩
 |_=>exact hq
theorem kV {b:aJ} (F:Nat->St) (p:Nat->Prop) (N:Nat) (h0:p 0)
 (h:∀i,i<=N->p i->fP P n0 k b (F i) (Exit.jQ (λS'=>i<N/\p (i+1)/\aB n0 k S' (F (i+1))) Q)):fP P n0 k (.loop b) (F 0) Q:=by
 refine ef (ι:={i:Nat//i<=N/\p i}) (λi=>F i.1) (λi=>N-i.1) ⟨0,alZ _,h0⟩ ?_;rintro⟨i,hi,hp⟩;refine Cn (h i hi hp) ?_;intro e S' hq;cases e with
 |normal=>
  obtain⟨bn,MP,hle⟩:=hq;exact⟨⟨i+1,bn,MP⟩,by simp only;omega,hle⟩
 |_=>exact hq
end
theorem dU.at {α:Type} {enc:α->List DV} {w:Nat} (hk:∀a,(enc a).length=w) (GF:0<w) {l:List α} {X:DV} (h:dU enc l X) (i:Nat) (hi:i<l.length):
 ∃cs rest,X=.sl l.length cs/\cs.drop (i*w)=enc l[i]++rest/\i*w<cs.length:=by
 obtain⟨_,h⟩:=h;rcases h with⟨_,rfl⟩|rfl;·simp at hi
 ·have uu:l[i]?=some l[i]:=by simp[hi]
  obtain⟨h1,h2⟩:=Cw hk l i _ uu;refine⟨_,((l.flatMap enc).drop (i*w)).drop w,rfl,?_,by omega⟩;rw[<-h1,List.take_append_drop]
theorem dU.len {α:Type} {enc:α->List DV} {l:List α} {X:DV} (h:dU enc l X):jV (.d X)=some l.length:=by
 obtain⟨_,h⟩:=h;rcases h with⟨rfl,rfl⟩|rfl<;>rfl
theorem cQ.at {α:Type} {enc:α->List DV} {ls:List (List α)} {X:DV} (h:cQ enc ls X) (i:Nat) (hi:i<ls.length):
 ∃cs d rest,X=.sl ls.length cs/\cs.drop i=d::rest/\i<cs.length/\dU enc ls[i] d:=by
 obtain⟨ds,⟨_,h⟩,hs⟩:=h;have hl:=hs.length;rcases h with⟨_,rfl⟩|rfl;·simp at hl;rw[<-hl]at hi;simp at hi
 ·obtain⟨d,hd,iw⟩:=hs.get i ls[i] (by simp[hi]);refine⟨ds,d,ds.drop (i+1),by simp[hl],?_,by omega,iw⟩;obtain⟨h1,h2⟩:=List.getElem?_eq_some_iff.1 hd;rw[List.drop_eq_getElem_cons h1,h2]
theorem cQ.len {α:Type} {enc:α->List DV} {ls:List (List α)} {X:DV} (h:cQ enc ls X):jV (.d X)=some ls.length:=by
 obtain⟨ds,h,hs⟩:=h;rw[h.len,hs.length]
theorem cQ.j6 {α:Type} {enc:α->List DV} {ls:List (List α)} {X:DV} (h:cQ enc ls X):ls.length<=9223372036854775807:=by
 obtain⟨ds,h,hs⟩:=h;rw[<-hs.length];exact h.1
theorem jv {α β:Type} (f:β->α->β) (b:β) (l:List α) (i:Nat) (h:i<l.length):(l.take (i+1)).foldl f b=f ((l.take i).foldl f b) l[i]:=by
 rw[List.take_add_one,alw h,Option.toList_some,List.foldl_append];rfl
def oD (th:List Bool):List AV:=(th.map DV.bool).map .d
@[go_sem,simp]theorem ae5 (th:List Bool) (q:Nat) (b:Bool):(oD th).set q (.d (.bool b))=oD (th.set q b):=by
  simp[oD,List.map_set]
@[go_sem,simp]theorem ae6 (th:List Bool):(oD th).length=th.length:=by simp[oD]
@[go_sem,simp]theorem ae7 (π:Nat->Option Nat) (th:List Bool):aj π (oD th)=oD th:=bQ _ _
@[go_sem]theorem ae8 (th:List Bool) (q:Nat):(oD th)[q]?=th[q]?.map λb=>.d (.bool b):=by
  simp[oD,Function.comp_def]
@[simp]theorem agv (π:Nat->Option Nat) (Z:Nat->Option (List DV)) (th:List Bool):db π Z (oD th)=oD th:=cD _ _ _
def Rs (x:Int):Nat:=(bits .and .i64 x 255).toNat
theorem US (s:List UInt8) (i:Nat) (hi:i<s.length):∃rest,(s.map λb=>DV.int .u8 b.toNat).drop i=.int .u8 s[i].toNat::rest:=by
 refine⟨(s.map λb=>DV.int .u8 b.toNat).drop (i+1),?_⟩;rw[List.drop_eq_getElem_cons (by simpa using hi),List.getElem_map]
theorem sM (l:List DV):bZ (λ_=>none) (l.map .d)=true:=by
 induction l with
 |nil=>rfl
 |cons a l ih=>simp[bZ,cd,ih]
end Go.Jq
namespace Go.Jq
open Go
theorem wrap_u64 {n:Int} (h0:0<=n) (h1:n<18446744073709551616):al0.wrap n=n:=by
 have e2:(2^64:Int)=18446744073709551616:=rfl;simp only[IntKind.wrap,IntKind.signed,IntKind.bits,e2,alK,aly,if_false];omega
theorem fK {a:Nat} (h:a<18446744073709551616):(al5 64 (a:Int)).toNat=a:=by
 simp only[BitVec.ofInt_natCast,BitVec.toNat_ofNat];omega
theorem GN {a b:Nat} (ha:a<18446744073709551616) (hb:b<18446744073709551616):bits .or .u64 (a:Int) (b:Int)=((a|||b:Nat):Int):=by
 have e:bits .or .u64 (a:Int) (b:Int)=al0.wrap (((al5 64 (a:Int))|||(al5 64 (b:Int))).toNat:Nat):=rfl;have bn:a|||b<2^64:=Nat.or_lt_two_pow (by omega) (by omega);rw[e,BitVec.toNat_or,fK ha,fK hb,wrap_u64 (by omega) (by omega)]
theorem Jw (x:Nat) (hx:x<18446744073709551616):bits .and .u64 (x:Int) 1=((x%2:Nat):Int):=by
 have e:bits .and .u64 (x:Int) 1=al0.wrap (((al5 64 (x:Int))&&&(al5 64 1)).toNat:Nat):=rfl;have h1:(al5 64 1).toNat=2^1-1:=rfl;rw[e,BitVec.toNat_and,h1,fK hx,Nat.and_two_pow_sub_one_eq_mod,wrap_u64 (by omega) (by omega)]
def qW (s k:Nat):Nat:=s|||2^k
theorem Fw {s k:Nat} (hs:s<67108864) (hk:k<26):qW s k<67108864:=by
 have h1:(2:Nat)^k<2^26:=Nat.pow_lt_pow_right (by omega) hk;exact Nat.or_lt_two_pow (x:=s) (y:=2^k) (n:=26) hs h1
theorem Ak (s k i:Nat):(qW s k).testBit i=(s.testBit i||decide (k=i)):=by
 rw[qW,Nat.testBit_or,Nat.testBit_two_pow]
theorem Jx (s i:Nat):((s/2^i%2:Nat):Int)=1↔s.testBit i=true:=by
 rw[Nat.testBit_eq_decide_div_mod_eq];simp only[decide_eq_true_eq];omega
theorem fdiv_pow (s i:Nat):(s:Int).fdiv (2^i)=((s/2^i:Nat):Int):=by
 have:((2:Int)^i)=((2^i:Nat):Int):=by simp
 rw[this];exact lT s (2^i)
end Go.Jq
namespace Go.Jq
open Go
section
variable{P:Program} {f:Nat} {args:List AV} {v:AV} {dst:Option Nat} {r:List bC} {K:St->Prop} {t:Fr} {m:Mem} {n:Nat}
mutual
theorem aam {c c':Ctx} {w:World} (hI:∀b,c.dY b->c'.dY b):∀(x:AV) (v:Value),cd (λ_=>none) x=true->Rel c w x v->Rel c' w x v
 |.d x,v,_,h=>by simp only[Rel]at h⊢;exact lp hI (λ_ _=>rfl) x v h
 |.ptr _ _,_,hx,_=>by simp[cd]at hx
 |.A5 _ _,_,hx,_=>by simp[cd]at hx
 |.BV _ _ _,_,hx,_=>by simp[cd]at hx
 |.bw cs,v,_,h=>by
  simp only[Rel]at h⊢;obtain⟨b,o,h1,h2,h3⟩:=h;exact⟨b,o,hI b h1,h2,kQ hI (λ_ _=>rfl) cs b o h1 h3⟩
 |.sl _ _ _ _,_,hx,_=>by simp[cd]at hx
 |.fn f cap,v,hx,h=>by
  simp only[Rel,cd]at h hx⊢;obtain⟨vs,h1,h2⟩:=h;exact⟨vs,h1,wS hI cap vs hx h2⟩
 |.agg cs,v,hx,h=>by
  simp only[Rel,cd]at h hx⊢;obtain⟨vs,h1,h2⟩:=h;exact⟨vs,h1,wS hI cs vs hx h2⟩
 |.cC cs,v,hx,h=>by
  simp only[Rel,cd]at h hx⊢;obtain⟨vs,h1,h2⟩:=h;exact⟨vs,h1,wS hI cs vs hx h2⟩
 |.Bo _,v,_,h=>by simpa only[Rel]using h
 |.any,_,_,_=>by simp[Rel]
theorem wS {c c':Ctx} {w:World} (hI:∀b,c.dY b->c'.dY b):∀(xs:List AV) (vs:List Value),bZ (λ_=>none) xs=true->bg c w xs vs->bg c' w xs vs
 | [],vs,_,h=>by simpa[bg]using h
 |x::xs,vs,hx,h=>by
  simp only[bg,bZ,alE]at h hx⊢;obtain⟨v,o6,h1,h2,h3⟩:=h;exact⟨v,o6,h1,aam hI x v hx.1 h2,wS hI xs o6 hx.2 h3⟩
end
end
end Go.Jq
