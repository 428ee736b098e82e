/- What the statement's proof leans on, part 5: the layer, the walks, the plain laws. Names and blanks are short to keep the claim within its limit of bytes. -/
import Derived.Test.YtadocofdkdiboaaGreatDoorMJT1c
import Derived.Test.YtadocofdkdiboaaGreatDoorMJT1d
import Derived.WalkKit
import Derived.RunT
import Derived.Shelf.SlSortCmp.NoneTotal
import Derived.Shelf.Strings.Builder1
import Derived.Shelf.Strings.Builder2
import Derived.Shelf.Strings.OnBuilder
import Derived.Shelf.Small.Bits
import Derived.Shelf.Small.Strs
import Derived.Shelf.Strconv.Itoa0
import Derived.Shelf.Strconv.Itoa1
import Derived.Shelf.LaysM
import Derived.Shelf.Strconv.Itoa2
import Derived.Shelf.Strconv.Itoa3
import Derived.Shelf.Strconv.Itoa4
import Derived.Shelf.Strconv.ParseIntEmpty
import Derived.Shelf.Strconv.Clone
import Derived.Shelf.Strconv.SyntaxError
import Derived.Shelf.LaysC
import Derived.Shelf.Strconv.ToError
import Derived.Shelf.Strconv.Lower
import Derived.Shelf.Strconv.ParseUint10
import Derived.Shelf.Strconv.ParseUint10Empty
import Derived.Shelf.Strconv.ParseUint10Any
import Derived.Shelf.Strconv.ParseInt10
import Derived.Shelf.Strconv.RangeError
import Derived.Shelf.Strconv.ToErrorRange
import Derived.Shelf.Strconv.ParseUintEmpty
import Derived.Shelf.Strconv.ParseUint10b64
import Derived.Shelf.Strconv.ParseUint10b32
import Derived.Shelf.Strconv.ParseUint10b16
import Derived.Shelf.Strconv.ParseUint10b8
import Derived.Shelf.Strconv.ParseUint10At
import Derived.Shelf.Strconv.ParseInt10At64
import Derived.Shelf.Strconv.ParseInt10At32
import Derived.Shelf.Strconv.ParseInt10At16
import Derived.Shelf.Strconv.ParseInt10At8
import Derived.Shelf.Strconv.ParseInt10All
import Derived.Shelf.Strconv.ParseIntPublic10
import Derived.Shelf.Strconv.ErrVarParseInt
import Derived.Shelf.Strings.Search1
import Derived.Shelf.Strings.Prefix
import Derived.Test.YtadocofdkdiboaaGreatDoorProg
import Derived.Test.YtadocofdkdiboaaGreatDoorMJT1b
import Derived.RegionTactic
import Derived.Deep.RegionWith
import Derived.Below
set_option linter.unusedSimpArgs false
set_option linter.unusedVariables false
set_option maxRecDepth 100000
open List renaming map_map → alh, length_map → alk, length_append → aln, drop_zero → als, length_cons → alu, getElem?_eq_getElem → alw, take_of_length_le → alx, map_cons → alz, replicate → alA, length_nil → alB, getD_eq_getElem?_getD → alC, range → alI, map_nil → alL, flatMap_cons → alO, foldr_cons → alP, foldr_nil → alQ, getElem_mem → alR, mem_cons_self → alU, mem_cons → alW, mem_cons_of_mem → alY, map_append → al1, foldl_cons → al2, any_eq_false → al3, nil_append → al8, eq_nil_of_length_eq_zero → amb
open Nat renaming le_refl → ali, zero_add → alo, max_def → alN, mul_one → alV, zero_le → alZ
open Int renaming toNat_natCast → alj, natCast_nonneg → alm
open Go.IntKind renaming i64 → alv
open Bool renaming false_eq_true → aly, and_eq_true → alE, and_self → alF, false_and → alK, and_false → alM, not_true → alT, not_false → al7
open Option renaming isSome_none → alD, map_eq_some_iff → alG, isSome_some → alH, map_some → alX, getD_some → al6
open Option.some renaming injEq → alJ, inj → al9
open Subtype renaming val → al4
open BitVec renaming ofInt → al5
open Prod.mk renaming injEq → ama
namespace Go.Proofs.YtadocofdkdiboaaGreatDoor
open Go.Proofs.Tryz
open Go.Proofs.Tryz renaming prog → aK
section
open Go Go.Jq
def eB (q:Int->Bool) (x:Ins):Bool:=
 if x.kind=1 then(q x.loc&&eo x.a)&&fl x ⟨x.kind,0,x.loc,x.a,0,⟨0,0⟩,0⟩
 else if x.kind=2 then(q x.loc&&dQ x.ez)&&fl x ⟨x.kind,x.ez,x.loc,⟨0,0⟩,0,⟨0,0⟩,0⟩
 else if x.kind=3 then fl x ⟨x.kind,0,0,⟨0,0⟩,0,⟨0,0⟩,0⟩
 else if x.kind=4 then(q x.loc&&dQ x.ez&&eo x.a&&eo x.b)&&fl x ⟨x.kind,x.ez,x.loc,x.a,0,x.b,0⟩
 else if x.kind=5 then(dQ x.ez&&eo x.a&&eo x.b&&decide (0<=x.op)&&decide (x.op<=11)&&(decide (0<x.op)||(decide (x.b.ez=-1)&&decide (x.b.value=0))))&&fl x ⟨x.kind,x.ez,0,x.a,x.op,x.b,0⟩
 else if x.kind=6 then(decide (0<=x.n)&&eo x.a&&eo x.b)&&fl x ⟨x.kind,0,0,x.a,0,x.b,x.n⟩
 else false
set_option maxHeartbeats 4000000 in
theorem HR (q:Int->Bool) {gf:Nat} {caps:List AV} (hg:lK aK gf=true) (hc:bZ (λ_=>none) caps=true) (UM:∀n:Int,Pure aK gf (au n::caps) (.d (.bool (q n)))) (x:Ins):
 Pure aK 171 [.agg (x.cells.map .d),.fn gf caps] (.d (.bool (eB q x))):=by
 have Bu:∀n:Int,bZ (λ_=>none) (au n::caps)=true:=λn=>by simp[bZ,cd,hc]
 refine ay func171 JC ntmps171 results171 rfl ?_;unfold Vi;refine J λK hK=>?_;simp only[go_sem,Ins.cells];refine hK _ (J λK hK=>?_);simp only[go_sem];refine hK _ (J λK hK=>?_);simp only[go_sem];apply hK;refine aa λK1 aT=>?_;have tail:∀(t:Fr) (n:Nat) (w:Ins) (ok:Bool),ah t 6=.d (.bool ok)->ah t 2=.ptr 0 0->ah t 5=.ptr 1 0->eB q x=(ok&&fl x w)->K1 ⟨t,[(0,x.cells.map .d),(1,w.cells.map .d)],n⟩:=by
  intro t n w ok h6 h2 h5 cI;apply aT;refine aa λK hK=>ag (by simp[aE]) ?_;cases ok
  ·simp only[go_sem,h6,h2,h5,Ins.cells];apply hK;apply an;simp only[go_sem];refine aD _ rfl rfl ⟨?_,rfl⟩;simp[ah,cI]
  ·simp only[go_sem,h6,h2,h5,Ins.cells];apply hK;apply an;simp only[go_sem];refine aD _ rfl rfl ⟨?_,rfl⟩;simp[ah,cI,fl]
 refine J λK hK=>?_;simp only[go_sem];apply hK;apply ax;refine J λK hK=>?_;simp only[go_sem];apply hK;by_cases h1:x.kind=1
 ·refine aM ?_ (by simp[ev,ah,h1]);refine aa λK hK=>az rfl rfl ?_;simp only[go_sem];refine⟨rfl,hK _ ?_⟩;refine ag rfl ?_;simp only[go_sem];refine⟨hg,aI (UM x.loc) (Bu _) rfl ?_⟩;cases hb:q x.loc
  ·simp only[go_sem];exact tail _ _ ⟨x.kind,0,x.loc,x.a,0,⟨0,0⟩,0⟩ false rfl rfl rfl (by simp[eB,h1,hb])
  ·simp only[go_sem];refine aI (fy x.a) rfl rfl ?_;simp only[go_sem];exact tail _ _ ⟨x.kind,0,x.loc,x.a,0,⟨0,0⟩,0⟩ (eo x.a) (by simp[ah]) rfl rfl (by simp[eB,h1,hb])
 refine aH ?_ (by simp[ev,ah,h1]);refine J λK hK=>?_;simp only[go_sem];apply hK;by_cases h2:x.kind=2
 ·refine aM ?_ (by simp[ev,ah,h2]);refine aa λK hK=>az rfl rfl ?_;simp only[go_sem];refine⟨rfl,hK _ ?_⟩;refine ag rfl ?_;simp only[go_sem];refine⟨hg,aI (UM x.loc) (Bu _) rfl ?_⟩;cases hb:q x.loc
  ·simp only[go_sem];exact tail _ _ ⟨x.kind,x.ez,x.loc,⟨0,0⟩,0,⟨0,0⟩,0⟩ false rfl rfl rfl (by simp[eB,h2,hb])
  ·simp only[go_sem];refine aI (jy x.ez) rfl rfl ?_;simp only[go_sem];exact tail _ _ ⟨x.kind,x.ez,x.loc,⟨0,0⟩,0,⟨0,0⟩,0⟩ (dQ x.ez) (by simp[ah]) rfl rfl (by simp[eB,h2,hb])
 refine aH ?_ (by simp[ev,ah,h2]);refine J λK hK=>?_;simp only[go_sem];apply hK;by_cases h3:x.kind=3
 ·refine aM ?_ (by simp[ev,ah,h3]);apply ar;simp only[go_sem];exact tail _ _ ⟨x.kind,0,0,⟨0,0⟩,0,⟨0,0⟩,0⟩ true rfl rfl rfl (by simp[eB,h3])
 refine aH ?_ (by simp[ev,ah,h3]);refine J λK hK=>?_;simp only[go_sem];apply hK;by_cases h4:x.kind=4
 ·refine aM ?_ (by simp[ev,ah,h4]);refine aa λK hK=>az rfl rfl ?_;simp only[go_sem];refine⟨rfl,hK _ ?_⟩;refine ag rfl ?_;simp only[go_sem];refine⟨hg,aI (UM x.loc) (Bu _) rfl ?_⟩;cases hb:q x.loc
  ·simp only[go_sem];exact tail _ _ ⟨x.kind,x.ez,x.loc,x.a,0,x.b,0⟩ false rfl rfl rfl (by simp[eB,h4,hb])
  ·simp only[go_sem];refine aI (jy x.ez) rfl rfl ?_;cases iq:dQ x.ez
   ·simp only[go_sem];exact tail _ _ ⟨x.kind,x.ez,x.loc,x.a,0,x.b,0⟩ false rfl rfl rfl (by simp[eB,h4,iq])
   ·simp only[go_sem];refine aI (fy x.a) rfl rfl ?_;cases y2:eo x.a
    ·simp only[go_sem];exact tail _ _ ⟨x.kind,x.ez,x.loc,x.a,0,x.b,0⟩ false rfl rfl rfl (by simp[eB,h4,y2])
    ·simp only[go_sem];refine aI (fy x.b) rfl rfl ?_;simp only[go_sem];exact tail _ _ ⟨x.kind,x.ez,x.loc,x.a,0,x.b,0⟩ (eo x.b) (by simp[ah]) rfl rfl (by simp[eB,h4,hb,iq,y2])
 refine aH ?_ (by simp[ev,ah,h4]);refine J λK hK=>?_;simp only[go_sem];apply hK;by_cases h5:x.kind=5
 ·refine aM ?_ (by simp[ev,ah,h5]);refine aa λK hK=>az rfl rfl ?_;simp only[go_sem];refine⟨rfl,hK _ ?_⟩;refine ag rfl ?_;simp only[go_sem];refine aI (jy x.ez) rfl rfl ?_;cases hb:dQ x.ez
  ·simp only[go_sem];exact tail _ _ ⟨x.kind,x.ez,0,x.a,x.op,x.b,0⟩ false rfl rfl rfl (by simp[eB,h5,hb])
  ·simp only[go_sem];refine aI (fy x.a) rfl rfl ?_;cases y2:eo x.a
   ·simp only[go_sem];exact tail _ _ ⟨x.kind,x.ez,0,x.a,x.op,x.b,0⟩ false rfl rfl rfl (by simp[eB,h5,y2])
   ·simp only[go_sem];refine aI (fy x.b) rfl rfl ?_;cases hb4:eo x.b
    ·simp only[go_sem];exact tail _ _ ⟨x.kind,x.ez,0,x.a,x.op,x.b,0⟩ false rfl rfl rfl (by simp[eB,h5,hb4])
    ·by_cases g1:0<=x.op
     ·by_cases g2:x.op<=11
      ·by_cases g3:0<x.op
       ·simp only[go_sem,g1,g2,g3];exact tail _ _ ⟨x.kind,x.ez,0,x.a,x.op,x.b,0⟩ true rfl rfl rfl (by simp[eB,h5,hb,y2,hb4,g1,g2,g3])
       ·simp only[go_sem,g1,g2,g3];exact tail _ _ ⟨x.kind,x.ez,0,x.a,x.op,x.b,0⟩ (decide (x.b.ez=-1)&&decide (x.b.value=0)) (by simp[ah]) rfl rfl (by simp[eB,h5,hb,y2,hb4,g1,g2,g3])
      ·simp only[go_sem,g1,g2];exact tail _ _ ⟨x.kind,x.ez,0,x.a,x.op,x.b,0⟩ false rfl rfl rfl (by simp[eB,h5,g2])
     ·simp only[go_sem,g1];exact tail _ _ ⟨x.kind,x.ez,0,x.a,x.op,x.b,0⟩ false rfl rfl rfl (by simp[eB,h5,g1])
 refine aH ?_ (by simp[ev,ah,h5]);refine J λK hK=>?_;simp only[go_sem];apply hK;by_cases h6:x.kind=6
 ·refine aM ?_ (by simp[ev,ah,h6]);refine aa λK hK=>az rfl rfl ?_;simp only[go_sem];refine⟨rfl,hK _ ?_⟩;by_cases g1:0<=x.n
  ·refine ag rfl ?_;simp only[go_sem,g1];refine aI (fy x.a) rfl rfl ?_;cases y2:eo x.a
   ·simp only[go_sem];exact tail _ _ ⟨x.kind,0,0,x.a,0,x.b,x.n⟩ false rfl rfl rfl (by simp[eB,h6,y2])
   ·simp only[go_sem];refine aI (fy x.b) rfl rfl ?_;simp only[go_sem];exact tail _ _ ⟨x.kind,0,0,x.a,0,x.b,x.n⟩ (eo x.b) (by simp[ah]) rfl rfl (by simp[eB,h6,y2,g1])
  ·refine ag rfl ?_;simp only[go_sem,g1];exact tail _ _ ⟨x.kind,0,0,x.a,0,x.b,x.n⟩ false rfl rfl rfl (by simp[eB,h6,g1])
 refine aH ?_ (by simp[ev,ah,h6]);refine J λK hK=>?_;simp only[go_sem];apply hK;apply an;simp only[go_sem];refine aD _ rfl rfl ⟨?_,rfl⟩;simp[ah,eB,h1,h2,h3,h4,h5,h6]
def ry (p:Prog) (n:Int):Bool:=decide (0<=n)&&decide (n<p.aC.length)
structure En (p:Prog):Prop where
 th0:1<=p.threads.length
 th4:p.threads.length<=4
 lc:p.aC.length<=4
 ini:p.init.length=p.aC.length
 size:(p.threads.map List.length).sum<=24
 aC:∀c∈p.aC,dp c.toNat=true
 ET:∀i,0<i->i<p.aC.length->(p.aC.getD (i-1) 0).toNat<(p.aC.getD i 0).toNat
 len:∀l∈p.threads,l.length<=10
 jmp:∀l∈p.threads,jz l=true
 ins:∀l∈p.threads,∀x∈l,eB (ry p) x=true
theorem N3 {p:Prog} {I T:DV} (n:Int):Pure aK 169 [au n,.bw [aX p.aC,I,T]] (.d (.bool (ry p n))):=by
 refine ay func169 WI ntmps169 results169 rfl ?_;unfold adD;refine J λK hK=>?_;simp only[go_sem];apply hK;by_cases h0:0<=n
 ·refine J λK hK=>?_;simp only[go_sem,h0,decide_true,aX];apply hK;apply an;exact⟨.d (.bool (ry p n)),by simp[bj,aP,bt,ah,ai,ak,aG,ry,h0],[],[],rfl,rfl,by simp[aL,aF,ai,ak,aG,aj,AV.aA,af,ae,-alh,ry,h0],by simp[AV.aA,aj,af,ry,h0]⟩
 ·refine J λK hK=>?_;simp only[go_sem,h0,decide_false];apply hK;apply an;exact⟨.d (.bool (ry p n)),by simp[bj,aP,bt,ah,ai,ak,aG,ry,h0],[],[],rfl,rfl,by simp[aL,aF,ai,ak,aG,aj,AV.aA,af,ae,-alh,ry,h0],by simp[AV.aA,aj,af,ry,h0]⟩
theorem KV {p:Prog} {I T:DV} {x:Ins} (h:eB (ry p) x=true):bB aK 170 [.agg (x.cells.map .d),.ptr 0 0] [(0,[.fn 169 [.bw [aX p.aC,I,T]]])] λr m'=>r=.d (.bool false)/\m'=[(0,[.fn 169 [.bw [aX p.aC,I,T]]])]:=by
 have k:=HR (ry p) (gf:=169) (caps:=[.bw [aX p.aC,I,T]]) rfl rfl N3 x;rw[h]at k;refine ay func170 WJ ntmps170 results170 rfl ?_;unfold adE;refine J λK hK=>?_;simp only[go_sem,Ins.cells];refine hK _ (J λK hK=>?_);simp only[go_sem,Ins.cells];refine a8 (k) ?_;simp only[go_sem];apply hK;apply an;exact⟨.d (.bool false),by simp[bj,aP,bt,ah,ai,ak,aG],[(0,0)],[(0,[.fn 169 [.bw [aX p.aC,I,T]]])],rfl,rfl,by simp[aL,aF,ai,ak,aG,aj,AV.aA,af,ae,-alh],by simp[AV.aA,aj,af]⟩
def nI (p:Prog) (I T:DV):Mem:=[(0,[.fn 169 [.bw [aX p.aC,I,T]]])]
def oxS (p:Prog) (I T X:DV) (n i:Nat):St:=⟨[(0,.d X),(1,.fn 170 [.ptr 0 0]),(7,au n),(8,au i)],nI p I T,1⟩
theorem KW {p:Prog} {I T X:DV} {l:List Ins} (hX:dU Ins.cells l X) (hb:l.length<=1000000) (h:∀x∈l,eB (ry p) x=true):
 bB aK 226 [.d X,.fn 170 [.ptr 0 0]] (nI p I T) λr m'=>r=au (-1)/\m'=nI p I T:=by
 have hlen:=hX.len;unfold nI;refine ay func226 JD ntmps226 results226 rfl ?_;unfold acR;refine J λK hK=>?_;simp only[go_sem];apply hK;refine aa λKE fV=>?_;refine J λK hK=>?_;simp only[go_sem,hlen];apply hK;apply ax;refine aw (S':=oxS p I T X l.length 0) (aB.cj [(0,0)] ⟨by simp[aV,ah,AV.aA,aj,af,oxS,nI],by simp[aL,aF,ai,ak,aj,AV.aA,af,ae,-alh,oxS,nI],rfl,rfl⟩) ?_;refine bS (λi=>oxS p I T X l.length i) l.length ?_;intro i hi;unfold Pk;by_cases bn:i<l.length
 ·have aQ:(i:Int)<l.length:=by omega
  have hw:=cY (i:=i) (by omega);obtain⟨cs,rest,gL,bT,cq⟩:=hX.at kM (by decide) i bn;have hq:=h _ (alR bn);generalize l[i]=x at bT hq;have k:=KV (p:=p) (I:=I) (T:=T) hq;unfold oxS nI;refine J λK hK=>?_;simp only[go_sem,aQ];apply hK;refine aa λK1 aT=>?_;refine aM ?_;apply ar;apply aT;refine aa λK1 aT=>?_;apply ax;refine J λK hK=>?_;simp only[go_sem];refine hK _ (J λK hK=>?_);simp only[go_sem,gL,alm,aQ,alj,cq,bT,Ins.cells];refine⟨rfl,?_⟩
  refine bA [(0,0)] [.agg (x.cells.map .d),.ptr 0 0] [(0,[.fn 169 [.bw [aX p.aC,I,T]]])] (nb:=1000) (k) (by simp[bX]) (by first|(simp[aj,AV.aA,af];done)|simp[aj,AV.aA,af,Ins.cells]) (by first|(simp[bZ,cd,af];done)|simp[bZ,cd,af,Ins.cells]) (by simp[handed,af,ai,ak,aG,aj,AV.aA,bZ,cd,Ins.cells]) rfl ?_;rintro r0 m' ⟨rfl,rfl⟩;simp only[go_sem,bx,bR,bU,ai,ak,aG,cf,af,aj,bQ,AV.aA,alH,alD,alF,alK,alM,aly,Ins.cells];apply hK;refine aH ?_;apply ar;simp only[go_sem];apply aT;refine ag rfl ?_;simp only[go_sem,hw];refine⟨bn,?_⟩
  exact aB.cj [(0,0)] ⟨by simp[aV,ah,AV.aA,aj,af,oxS,nI,gL],by simp[aL,aF,ai,ak,aG,aj,AV.aA,af,ae,-alh,oxS,nI,gL],rfl,rfl⟩
 ·have du:i=l.length:=by omega
  subst du;have aQ:¬(l.length:Int)<l.length:=by omega
  unfold oxS nI;refine J λK hK=>?_;simp only[go_sem,aQ];apply hK;refine aa λK1 aT=>?_;refine aH ?_;apply aW;show KE _;refine fV _ (J λK hK=>?_);simp only[go_sem];apply hK;apply an;exact⟨au (-1),by simp[bj,aP,bt,ah,ai,ak,aG],[(0,0)],[(0,[.fn 169 [.bw [aX p.aC,I,T]]])],rfl,rfl,by simp[aL,aF,ai,ak,aG,aj,AV.aA,af,ae,-alh],by simp[AV.aA,aj,af]⟩
theorem KX {p:Prog} {I T X:DV} {l:List Ins} (hX:dU Ins.cells l X) (hb:l.length<=1000000) (h:∀x∈l,eB (ry p) x=true):
 bB aK 154 [.d X,.fn 170 [.ptr 0 0]] (nI p I T) λr m'=>r=.d (.bool false)/\m'=nI p I T:=by
 have k:=KW (p:=p) (I:=I) (T:=T) hX hb h;unfold nI at k⊢;refine ay func154 Jz ntmps154 results154 rfl ?_;unfold acy;refine J λK hK=>?_;simp only[go_sem];refine hK _ (J λK hK=>?_);simp only[go_sem];refine bA [(0,0)] [.d X,.fn 170 [.ptr 0 0]] [(0,[.fn 169 [.bw [aX p.aC,I,T]]])] (nb:=1000) (k) (by simp[bX]) (by first|(simp[aj,AV.aA,af];done)|simp[aj,AV.aA,af]) (by first|(simp[bZ,cd,af];done)|simp[bZ,cd,af]) (by simp[handed,af,ai,ak,aG,aj,AV.aA,bZ,cd]) rfl ?_;rintro r0 m' ⟨rfl,rfl⟩;simp only[go_sem,bx,bR,bU,ai,ak,aG,cf,af,aj,bQ,AV.aA,alH,alD,alF,alK,alM,aly];apply hK;apply an
 exact⟨.d (.bool false),by simp[bj,aP,bt,ah,ai,ak,aG],[(0,0)],[(0,[.fn 169 [.bw [aX p.aC,I,T]]])],rfl,rfl,by simp[aL,aF,ai,ak,aG,aj,AV.aA,af,ae,-alh],by simp[AV.aA,aj,af]⟩
theorem FZ (l:List UInt8) {i:Nat} (hi:i<l.length):∃rest,(l.map λb=>DV.int .u8 b.toNat).drop i=.int .u8 (l.getD i 0).toNat::rest:=by
 refine⟨(l.drop (i+1)).map λb=>DV.int .u8 b.toNat,?_⟩;rw[<-List.map_drop,List.drop_eq_getElem_cons hi,alz,alC,alw hi];rfl
def rV (p:Prog) (i:Nat):Nat:=((p.threads.take i).map List.length).sum
theorem N4 (p:Prog) {i:Nat} (hi:i<p.threads.length):rV p (i+1)=rV p i+(p.threads.getD i []).length:=by
 unfold rV;rw[List.take_add_one,alC,alw hi,al1,List.sum_append];simp
theorem R8 (p:Prog):rV p p.threads.length=(p.threads.map List.length).sum:=by unfold rV;rw[List.take_length]
theorem AH:∀{l:List (List Ins)},(∀x∈l,x.length<=10)->(l.map List.length).sum<=l.length*10
 | [],_=>by simp
 |a::l,h=>by
  have h1:=h a alU;have h2:=AH (l:=l) λx hx=>h x (alY _ hx);simp only[alz,List.sum_cons,alu];omega
theorem Yi {p:Prog} (h:En p) (i:Nat):rV p i<=40:=by
 have h1:=AH (l:=p.threads.take i) λx hx=>h.len x (List.take_subset _ _ hx);have h2:=h.th4;unfold rV;rw[List.length_take]at h1;omega
def szS (T:DV) (n i s:Nat):St:=⟨[(3,au s),(7,.d T),(8,au n),(9,au i)],[],0⟩
theorem N5 {p:Prog} {T:DV} (h:cQ Ins.cells p.threads T) {i:Nat} (hi:i<p.threads.length):
 ∃cs d rest,T=.sl p.threads.length cs/\cs.drop i=d::rest/\i<cs.length/\dU Ins.cells (p.threads.getD i []) d:=by
 obtain⟨ds,h1,h2⟩:=h;have hl:=h2.length;obtain⟨d,hd1,Al⟩:=h2.get i (p.threads.getD i []) (by rw[alC,alw hi];rfl);obtain⟨cs,rest,e1,e2,e3⟩:=h1.at (w:=1) (λ_=>rfl) (by decide) i (by omega);have hdi:ds[i]'(by omega)=d:=by rw[alw (by omega)]at hd1;exact al9 hd1
 rw[hdi,alV]at e2;rw[alV]at e3;exact⟨cs,d,rest,by rw[e1,hl],e2,e3,Al⟩
theorem R9 {p:Prog} {L I T:DV} (hT:cQ Ins.cells p.threads T) (h:En p):Pure aK 168 [.agg [.d L,.d I,.d T]] (au ((p.threads.map List.length).sum:Nat)):=by
 have hlen:jV (.d T)=some p.threads.length:=by
  obtain⟨ds,h1,h2⟩:=hT;rw[h1.len,h2.length]
 have h4:=h.th4;have sw:=R8 p;refine ay func168 WH ntmps168 results168 rfl ?_;unfold adC;refine J λK hK=>?_;simp only[go_sem];refine hK _ (J λK hK=>?_);simp only[go_sem];apply hK;refine aa λKE fV=>?_;refine J λK hK=>?_;simp only[go_sem,hlen];apply hK;apply ax;refine aw (S':=szS T p.threads.length 0 (rV p 0)) (aB.cj [] ⟨by simp[aV,ah,AV.aA,aj,af,szS,rV],by simp[aL,aF,ai,ak,aj,AV.aA,af,ae,-alh,szS,rV],rfl,rfl⟩) ?_;refine bS (λi=>szS T p.threads.length i (rV p i)) p.threads.length ?_;intro i hi;have hle:=Yi h i;unfold PI;by_cases bn:i<p.threads.length
 ·have aQ:(i:Int)<p.threads.length:=by omega
  have hw:=cY (i:=i) (by omega);have cy:=N4 p bn;obtain⟨cs,d,rest,gL,bT,cq,hd⟩:=N5 hT bn;have afP:(p.threads.getD i []).length<=10:=by
   rw[alC,alw bn];exact h.len _ (alR bn)
  generalize p.threads.getD i []=l at cy hd afP;generalize rV p i=s at cy hle;have uK:=hd.len;have hws:alv.wrap ((s:Int)+(l.length:Int))=((s+l.length:Nat):Int):=by rw[wrap_i64 (by omega) (by omega)];rfl
  unfold szS;refine J λK hK=>?_;simp only[go_sem,aQ];apply hK;refine aa λK1 aT=>?_;refine aM ?_;apply ar;apply aT;refine aa λK1 aT=>?_;apply ax;refine J λK hK=>?_;simp only[go_sem,gL,alm,aQ,bn,alj,cq,bT];apply hK;refine ag rfl ?_;simp only[go_sem,uK,hws];apply aT;refine ag rfl ?_;simp only[go_sem,hw];refine⟨bn,?_⟩;exact aB.cj [] ⟨by simp[aV,ah,AV.aA,aj,af,szS,gL,cy],by simp[aL,aF,ai,ak,aG,aj,AV.aA,af,ae,-alh,szS,gL,cy],rfl,rfl⟩
 ·have du:i=p.threads.length:=by omega
  subst du;have aQ:¬(p.threads.length:Int)<p.threads.length:=by omega
  rw[sw];unfold szS;refine J λK hK=>?_;simp only[go_sem,aQ];apply hK;refine aa λK1 aT=>?_;refine aH ?_;apply aW;show KE _;refine fV _ (J λK hK=>?_);simp only[go_sem];apply hK;apply an;exact⟨au ((p.threads.map List.length).sum:Nat),by simp[bj,aP,bt,ah,ai,ak,aG],[],[],rfl,rfl,by simp[aL,aF,ai,ak,aG,aj,AV.aA,af,ae,-alh],by simp[AV.aA,aj,af]⟩
def ZQ (p:Prog) (I T:DV) (i:Nat):St:=⟨[(1,.bw [aX p.aC,I,T]),(39,.d (aX p.aC)),(40,au p.aC.length),(41,au i)],[],0⟩
def okR (p:Prog) (I T:DV) (i:Nat):St:=⟨[(5,.ptr 0 0),(67,.d T),(68,au p.threads.length),(69,au i)],nI p I T,1⟩
theorem KY {p:Prog} {I T:DV} (hI:de p.init I) (hT:cQ Ins.cells p.threads T) (h:En p):Pure aK 123 [.agg [.d (aX p.aC),.d I,.d T]] (.d (.bool true)):=by
 have hlen:jV (.d T)=some p.threads.length:=by
  obtain⟨ds,h1,h2⟩:=hT;rw[h1.len,h2.length]
 have hli:jV (.d I)=some p.init.length:=(ig hI).1;obtain⟨g1,g2,g3,g4,g5,g6,g7,g8,g9,g10⟩:=id h;have ks:=R9 (L:=aX p.aC) (I:=I) hT h;generalize aff:(p.threads.map List.length).sum=sm at g5 ks;have c1:¬((p.threads.length:Int)=0):=by omega
 have c2:¬((4:Int)<p.threads.length):=by omega
 have c3:¬((4:Int)<p.aC.length):=by omega
 have c4:((p.init.length:Int)=p.aC.length):=by omega
 have c5:¬((24:Int)<sm):=by omega
 refine ay func123 Wr ntmps123 results123 rfl ?_;unfold ado;refine J λK hK=>?_;simp only[go_sem];apply hK;refine aw (aB.jl (S':=⟨[(1,.bw [aX p.aC,I,T]),(2,.d (.bool false))],[],0⟩) [] [(0,[aX p.aC,I,T])] ⟨by simp[fb,ah,AV.cv,db,bI,af],by simp[fx,aF,bI,ai],rfl,rfl,by simp[bG,bI,ai,db,AV.cv]⟩) ?_;refine aa λK0 Yh=>?_;have vw:jV (.d (aX p.aC))=some p.aC.length:=rfl;refine J λK hK=>?_;simp only[go_sem,hlen,hli,vw,c1,c2,c3,eq_true c4,decide_false,decide_true,alT];refine a8 (ks) ?_;simp only[go_sem,c5,decide_false];apply hK;refine aH ?_;apply ar;apply Yh;refine aa λKE fV=>?_;refine J λK hK=>?_
 simp only[go_sem,vw];apply hK;apply ax;refine aw (S':=ZQ p I T 0) (aB.cj [] ⟨by simp[aV,ah,AV.aA,aj,af,ZQ],by simp[aL,aF,ai,ak,aj,AV.aA,af,ae,-alh,ZQ],rfl,rfl⟩) ?_;refine bS (λi=>ZQ p I T i) p.aC.length ?_;intro i hi;unfold Py;by_cases bn:i<p.aC.length
 ·have aQ:(i:Int)<p.aC.length:=by omega
  have hw:=cY (i:=i) (by omega);have hc:=g6 (p.aC.getD i 0) (by rw[alC,alw bn];exact alR bn);have hs:=g7 i;obtain⟨rest,bT⟩:=FZ p.aC bn;have akp:=(p.aC.getD i 0).toNat_lt;have kl:=kW (p.aC.getD i 0).toNat;rw[hc]at kl;have hwc:alv.wrap ((p.aC.getD i 0).toNat:Int)=((p.aC.getD i 0).toNat:Int):=wrap_i64 (by omega) (by omega);generalize p.aC.getD i 0=c at hc hs bT akp kl hwc;unfold ZQ;refine J λK hK=>?_;simp only[go_sem,aQ];apply hK;refine aa λK1 aT=>?_;refine aM ?_;apply ar;apply aT;refine aa λK1 aT=>?_;apply ax;refine J λK hK=>?_;simp only[go_sem,aX,alm,aQ,bn,alj,bT,alk];apply hK;by_cases h0:i=0
  ·subst h0;refine J λK hK=>?_;simp only[go_sem,aX,hwc];refine a8 (kl) ?_;simp only[go_sem,Int.natCast_zero];apply hK;refine aH ?_;apply ar;simp only[go_sem];apply aT;refine ag rfl ?_;simp only[go_sem,hw];refine⟨bn,?_⟩;exact aB.cj [] ⟨by simp[aV,ah,AV.aA,aj,af,ZQ,aX,show alv.wrap 1=1 by decide],by simp[aL,aF,ai,ak,aG,aj,AV.aA,af,ae,-alh,ZQ,aX,show alv.wrap 1=1 by decide],rfl,rfl⟩
  ·have RG:(0:Int)<i:=by omega
   have ny:=hs (by omega) bn;obtain⟨s4,j1⟩:=FZ p.aC (i:=i-1) (by omega);have akq:¬((c.toNat:Int)<=((p.aC.getD (i-1) 0).toNat:Int)):=by omega
   have qC:alv.wrap ((i:Int)-1)=((i-1:Nat):Int):=by rw[wrap_i64 (by omega) (by omega)];omega
   have Wf:((i-1:Nat):Int)<p.aC.length:=by omega
   have hp2:i-1<p.aC.length:=by omega
   refine J λK hK=>?_;simp only[go_sem,aX,hwc];refine a8 (kl) ?_;simp only[go_sem,RG,decide_true,aX,qC,alm,Wf,hp2,alj,j1,alk,akq,decide_false];apply hK;refine aH ?_;apply ar;simp only[go_sem];apply aT;refine ag rfl ?_;simp only[go_sem,hw];refine⟨bn,?_⟩;exact aB.cj [] ⟨by simp[aV,ah,AV.aA,aj,af,ZQ,aX],by simp[aL,aF,ai,ak,aG,aj,AV.aA,af,ae,-alh,ZQ,aX],rfl,rfl⟩
 ·have du:i=p.aC.length:=by omega
  subst du;have aQ:¬(p.aC.length:Int)<p.aC.length:=by omega
  unfold ZQ;refine J λK hK=>?_;simp only[go_sem,aQ];apply hK;refine aa λK1 aT=>?_;refine aH ?_;apply aW;show KE _;refine fV _ (J λK hK=>?_);simp only[go_sem];apply hK;refine aa λKF hKF=>?_;refine J λK hK=>?_;simp only[go_sem,hlen];apply hK;apply ax;refine aw (S':=okR p I T 0) (aB.cj [(0,0)] ⟨by simp[aV,ah,AV.aA,aj,af,okR,nI],by simp[aL,aF,ai,ak,aj,AV.aA,af,ae,-alh,okR,nI],rfl,rfl⟩) ?_;refine bS (λi=>okR p I T i) p.threads.length ?_;intro i hi;unfold Pz;by_cases bn:i<p.threads.length
  ·have aQ:(i:Int)<p.threads.length:=by omega
   have hw:=cY (i:=i) (by omega);obtain⟨cs,d,rest,gL,bT,cq,hd⟩:=N5 hT bn;have hm:p.threads.getD i []∈p.threads:=by
    rw[alC,alw bn];exact alR bn
   have q1:=g8 _ hm;have q2:=g9 _ hm;have q3:=g10 _ hm;generalize p.threads.getD i []=l at hd q1 q2 q3;have uK:=hd.len;have kj:=CJ hd;rw[q2]at kj;have ka:=KX (p:=p) (I:=I) (T:=T) hd (by omega) q3;have afP:¬((10:Int)<l.length):=by omega
   unfold okR nI;refine J λK hK=>?_;simp only[go_sem,aQ];apply hK;refine aa λK1 aT=>?_;refine aM ?_;apply ar;apply aT;refine aa λK1 aT=>?_;apply ax;refine J λK hK=>?_;simp only[go_sem,gL,alm,aQ,bn,alj,cq,bT];refine hK _ (J λK hK=>?_);simp only[go_sem,uK,afP,decide_false];refine a8 (kj) ?_;simp only[go_sem];refine bA [(0,0)] [.d d,.fn 170 [.ptr 0 0]] (nI p I T) (nb:=1000) (ka) (by simp[bX]) (by first|(simp[aj,AV.aA,af];done)|simp[aj,AV.aA,af,nI,<-gL]) (by first|(simp[bZ,cd,af];done)|simp[bZ,cd,af,nI,<-gL]) (by simp[handed,af,ai,ak,aG,aj,AV.aA,bZ,cd,nI,<-gL]) rfl ?_;rintro r0 m' ⟨rfl,rfl⟩
   simp only[go_sem,bx,bR,bU,ai,ak,aG,cf,af,aj,bQ,AV.aA,alH,alD,alF,alK,alM,aly,nI,<-gL];apply hK;refine aH ?_;apply ar;simp only[go_sem];apply aT;refine ag rfl ?_;simp only[go_sem,hw];refine⟨bn,?_⟩;exact aB.cj [(0,0)] ⟨by simp[aV,ah,AV.aA,aj,af,okR,nI,<-gL],by simp[aL,aF,ai,ak,aG,aj,AV.aA,af,ae,-alh,okR,nI,<-gL],rfl,rfl⟩
  ·have du:i=p.threads.length:=by omega
   subst du;have aQ:¬(p.threads.length:Int)<p.threads.length:=by omega
   unfold okR nI;refine J λK hK=>?_;simp only[go_sem,aQ];apply hK;refine aa λK1 aT=>?_;refine aH ?_;apply aW;show KF _;refine hKF _ (J λK hK=>?_);simp only[go_sem];apply hK;apply an;exact⟨.d (.bool true),by simp[bj,aP,bt,ah,ai,ak,aG],[],[],rfl,rfl,by simp[aL,aF,ai,ak,aG,aj,AV.aA,af,ae,-alh],by simp[AV.aA,aj,af]⟩
def byD (l:List UInt8):List DV:=l.map λb=>.int .u8 b.toNat
theorem Qi (l:List UInt8):l.flatMap (λb:UInt8=>[DV.int .u8 b.toNat])=byD l:=by
 induction l with
 |nil=>rfl
 |cons a l ih=>rw[alO,ih];rfl
theorem Sa (l:List UInt8):aX l=.sl l.length (byD l):=rfl
theorem Sb (l:List UInt8) (h:l.length<=1000000000000):dU (λb:UInt8=>[DV.int .u8 b.toNat]) l (aX l):=⟨by omega,.inr (by rw[Qi];rfl)⟩
theorem abw (l:List UInt8):(byD l).take l.length=byD l:=alx (by simp[byD])
def oX (l:List Int):List DV:=l.map λi=>.int .i64 i
theorem Qj (l:List Int):(oX l).take l.length=oX l:=alx (by simp[oX])
theorem HS (l:List Int):(l.map (DV.int .i64)).flatMap (λd=>[d])=oX l:=by simp[oX]
def Yj (l:List Ins):DV:=.sl l.length (l.flatMap Ins.cells)
def oY (l:List (List Ins)):List DV:=l.map Yj
theorem KZ {l:List (List Ins)} {i:Nat} (hi:i<l.length):oY (l.take (i+1))=oY (l.take i)++[Yj (l.getD i [])]:=by
 unfold oY;rw[List.take_add_one,al1,alC,alw hi];rfl
theorem ue (l:List (List Ins)):(oY l).length=l.length:=by simp[oY]
theorem Sc (l:List Ins):(l.flatMap Ins.cells).take (l.length*9)=l.flatMap Ins.cells:=alx (by rw[zn kM];exact ali _)
theorem N6 {l:List UInt8} (hb:l.length<=1000000000000):bB aK 172 [.d (aX l)] [] λr m'=>r=.sl 0 1 0 l.length/\m'=[(0,(byD l).map .d)]:=by
 have h:=(Sb l hb).slC (w:=1) (λ_=>rfl);rw[Qi]at h;exact lz (dR:=1) (bytes:=1) func172 WK ntmps172 rfl results172 h (by omega)
theorem Sd {l:List Int} {X:DV} (h:de l X) (hb:l.length<=1000000000000):bB aK 173 [.d X] [] λr m'=>r=.sl 0 1 0 l.length/\m'=[(0,(oX l).map .d)]:=by
 have h:=dU.slC (w:=1) (λ_=>rfl) h;rw[HS,alk]at h;exact lz (dR:=1) (bytes:=8) func173 WL ntmps173 rfl results173 h (by omega)
theorem Yk {l:List Ins} {X:DV} (h:dU Ins.cells l X) (hb:l.length<=1000000000):bB aK 77 [.d X] [] λr m'=>r=.sl 0 9 0 l.length/\m'=[(0,(l.flatMap Ins.cells).map .d)]:=
 lz (dR:=9) (bytes:=72) func77 Pw ntmps77 rfl results77 (h.slC kM) (by omega)
def cpS (p:Prog) (ps:List DV) (T:DV) (i:Nat) (ds:List DV):St:=
 ⟨[(1,.bw ps),(2,.ptr 0 0),(3,.ptr 1 0),(14,.d T),(15,au p.threads.length),(16,au i)],[(0,[.d .ct,.d .ct,.d .ct]),(1,[.d (aX p.aC),.d (.sl p.init.length (oX p.init)),.sl 2 1 0 i]),(2,ds.map .d)],3⟩
theorem K5 {p:Prog} {I T:DV} (hI:de p.init I) (hT:cQ Ins.cells p.threads T) (h:En p):
 Pure aK 124 [.agg [.d (aX p.aC),.d I,.d T]] (.agg [.d (aX p.aC),.d (.sl p.init.length (oX p.init)),.d (.sl p.threads.length (oY p.threads))]):=by
 have hlen:jV (.d T)=some p.threads.length:=by
  obtain⟨ds,h1,h2⟩:=hT;rw[h1.len,h2.length]
 have g2:=h.th4;have g3:=h.lc;have g4:=h.ini;have kb:=N6 (l:=p.aC) (by omega);have ki:=Sd hI (by omega);refine ay func124 Ws ntmps124 results124 rfl ?_;unfold adp;refine J λK hK=>?_;simp only[go_sem];apply hK;refine aw (aB.jl (S':=⟨[(1,.bw [aX p.aC,I,T]),(2,.ptr 0 0)],[(0,[.d .ct,.d .ct,.d .ct])],1⟩) [(1,0)] [(0,[aX p.aC,I,T])] ⟨by simp[fb,ah,AV.cv,db,bI,af],by simp[fx,aF,bI,ai,db,AV.cv],rfl,rfl,by simp[bG,bI,ai,db,AV.cv]⟩) ?_;refine aa λK hK=>az rfl rfl ?_;simp only[go_sem]
 refine fW [] [.d (aX p.aC)] [] (nb:=1000) (kb) (by simp[bX]) (by first|(simp[aj,AV.aA,af];done)|simp[aj,AV.aA,af,aE,alP,alQ,alN]) (by first|(simp[bZ,cd,af];done)|simp[bZ,cd,af,aE,alP,alQ,alN]) (by simp[handed,af,ai,ak,aG,aj,AV.aA,bZ,cd,dL,aE,alP,alQ,alN]) rfl ?_;simp only[go_sem,fE,alz,alL,bx,bR,bU,ai,ak,aG,cf,af,aj,bQ,AV.aA,alH,alD,alF,alK,alM,aly,aE,alP,alQ,alN]
 refine fW [] [.d I] [] (nb:=1000) (ki) (by simp[bX]) (by first|(simp[aj,AV.aA,af];done)|simp[aj,AV.aA,af,aE,alP,alQ,alN]) (by first|(simp[bZ,cd,af];done)|simp[bZ,cd,af,aE,alP,alQ,alN]) (by simp[handed,af,ai,ak,aG,aj,AV.aA,bZ,cd,dL,aE,alP,alQ,alN]) rfl ?_;simp only[go_sem,fE,alz,alL,bx,bR,bU,ai,ak,aG,cf,af,aj,bQ,AV.aA,alH,alD,alF,alK,alM,aly,aE,alP,alQ,alN];refine⟨rfl,hK _ ?_⟩
 refine aw (aB.jl (S':=⟨[(1,.bw [aX p.aC,I,T]),(2,.ptr 0 0),(3,.ptr 1 0)],[(0,[.d .ct,.d .ct,.d .ct]),(1,[.d (aX p.aC),.d (.sl p.init.length (oX p.init)),.d .ct])],2⟩) [(0,0),(8,1)] [(3,byD p.aC),(6,oX p.init)] ⟨by simp[fb,ah,AV.cv,db,bI,af],by simp[fx,aF,bI,ai,db,AV.cv,abw,Qj,Sa],rfl,rfl,by simp[bG,bI,ai,db,AV.cv,cD,-alh]⟩) ?_;refine aa λKE fV=>?_;refine J λK hK=>?_;simp only[go_sem,hlen];apply hK;apply ax;refine aw (aB.lS 1 2 1 rfl rfl rfl rfl) ?_
 refine aw (S':=cpS p [aX p.aC,I,T] T 0 (oY (p.threads.take 0))) (aB.cj [(0,0),(1,1),(2,2)] ⟨by simp[cpS,aV,ah,AV.aA,aj,af],by simp[cpS,oY,aL,aF,ai,ak,aG,aj,AV.aA,af],rfl,rfl⟩) ?_;refine bS (λi=>cpS p [aX p.aC,I,T] T i (oY (p.threads.take i))) p.threads.length ?_;intro i hi;unfold PA;by_cases bn:i<p.threads.length
 ·have aQ:(i:Int)<p.threads.length:=by omega
  have hw:=cY (i:=i) (by omega);obtain⟨cs,d,rest,gL,bT,cq,hd⟩:=N5 hT bn;have hm:p.threads.getD i []∈p.threads:=by
   rw[alC,alw bn];exact alR bn
  have q1:=h.len _ hm;have cy:=KZ bn;have uK:(oY (p.threads.take i)).length=i:=by rw[ue,List.length_take];omega
  generalize p.threads.getD i []=l at hd q1 cy;generalize oY (p.threads.take i)=ds at cy uK;have kc:=Yk hd (by omega);have zd:(i+1)*24<=140737488351232:=by omega
  unfold cpS;refine J λK hK=>?_;simp only[go_sem,aQ];apply hK;refine aa λK1 aT=>?_;refine aM ?_;apply ar;apply aT;refine aa λK1 aT=>?_;apply ax;refine J λK hK=>?_;simp only[go_sem,gL,alm,aQ,bn,alj,cq,bT];apply hK;refine az rfl rfl ?_;simp only[go_sem];refine fW [] [.d d] [] (nb:=1000) (kc) (by simp[bX]) (by first|(simp[aj,AV.aA,af];done)|simp[aj,AV.aA,af,aE,alP,alQ,alN,zd,uK,alk]) (by first|(simp[bZ,cd,af];done)|simp[bZ,cd,af,aE,alP,alQ,alN,zd,uK,alk]) (by simp[handed,af,ai,ak,aG,aj,AV.aA,bZ,cd,dL,aE,alP,alQ,alN,zd,uK,alk]) rfl ?_
  simp only[go_sem,fE,alz,alL,bx,bR,bU,ai,ak,aG,cf,af,aj,bQ,AV.aA,alH,alD,alF,alK,alM,aly,aE,alP,alQ,alN,zd,uK,alk];refine⟨rfl,?_⟩;apply aT;refine ag rfl ?_;simp only[go_sem,hw];refine⟨bn,?_⟩;exact aB.jl [(0,0),(1,1),(8,2)] [(6,l.flatMap Ins.cells)] ⟨by simp[cpS,fb,ah,AV.cv,db,bI,af,<-gL],by simp[cpS,fx,aF,bI,ai,ak,aG,db,AV.cv,cD,bh,Sc,cy,Yj,af,-alh],rfl,rfl,by simp[bG,bI,ai,ak,aG,db,AV.cv,cD,-alh]⟩
 ·have du:i=p.threads.length:=by omega
  subst du;have aQ:¬(p.threads.length:Int)<p.threads.length:=by omega
  rw[List.take_length];have pq:(oY p.threads).take p.threads.length=oY p.threads:=alx (by rw[ue];exact ali _);unfold cpS;refine J λK hK=>?_;simp only[go_sem,aQ];apply hK;refine aa λK1 aT=>?_;refine aH ?_;apply aW;show KE _;refine fV _ (J λK hK=>?_);simp only[go_sem];apply hK;refine aw (aB.jl (S':=⟨[(2,.ptr 0 0)],[(0,[.d (aX p.aC),.d (.sl p.init.length (oX p.init)),.d (.sl p.threads.length (oY p.threads))])],1⟩) [(0,0)] [(2,oY p.threads)] ⟨by simp[fb,ah,AV.cv,db,bI,af],by simp[fx,aF,bI,ai,ak,db,AV.cv,af,pq],rfl,rfl,by simp[bG,ai,ak,cD,-alh]⟩) ?_;have qU:mV aK 43=some (some 3):=by kernel_rfl
  apply an;exact⟨.agg [.d (aX p.aC),.d (.sl p.init.length (oX p.init)),.d (.sl p.threads.length (oY p.threads))],by simp[bj,aP,bt,ah,ai,ak,aG,qU,aN],[],[],rfl,rfl,by simp[aL,aF,ai,ak,aG,aj,AV.aA,af,ae,-alh,qU,aN],by simp[AV.aA,aj,af,qU,aN]⟩
def iI (p:Prog):oW:=⟨aX p.aC,.sl p.init.length (oX p.init),.sl p.threads.length (oY p.threads)⟩
theorem Dr {p:Prog} (h:En p):cQ Ins.cells p.threads (iI p).T:=by
 have h4:=h.th4;refine⟨oY p.threads,⟨by rw[ue];omega,.inr ?_⟩,?_⟩
 ·show DV.sl p.threads.length (oY p.threads)=_;rw[ue,show(oY p.threads).flatMap (λd=>[d])=oY p.threads by simp]
 ·have key:∀(l:List (List Ins)),(∀x∈l,x.length<=10)->nM Ins.cells l (oY l):=by
   intro l;induction l with
   |nil=>exact λ_=>trivial
   |cons a l ih=>exact λh=>⟨⟨by have:=h a alU;omega,.inr rfl⟩,ih λx hx=>h x (alY _ hx)⟩
  exact key _ h.len
theorem F0 {p:Prog} (h:En p):vt p:=λl hl=>by have:=h.len l hl;omega
theorem K6 {p:Prog} (h:En p):xw p:=⟨F0 h,λl hl x hx h1 h4=>by
 have hq:=h.ins l hl x hx;have hlc:=h.lc;unfold eB at hq;by_cases e1:x.kind=1;·simp[e1,ry]at hq;omega
 by_cases e2:x.kind=2;·simp[e2,ry]at hq;omega
 by_cases e3:x.kind=3;·simp[e3,fl]at hq;omega
 by_cases e4:x.kind=4;·simp[e4,ry]at hq;omega
 ·omega⟩
def HT (p:Prog) (m:Int):Nat->Vm
 |0=>{vm0 with p:=p,m:=m}
 |t+1=>let v:=HT p m t;{v with locals:=v.locals.set t (nH p t),fe:=v.fe.set t (sa m),src:=v.src.set t (-1)}
theorem N7 (p:Prog) (m:Int):∀t,(HT p m t).ok
 |0=>⟨ru.locals,ru.Kh,ru.mem,ru.src,ru.fe,ru.Ki,ru.ux⟩
 |t+1=>by
  have h:=N7 p m t;refine⟨by simp[HT,h.locals],λl hl=>?_,h.mem,by simp[HT,h.src],by simp[HT,h.fe],λb hb=>?_,λb hb=>?_⟩
  ·rcases List.mem_or_eq_of_mem_set hl with h1|rfl;·exact h.Kh l h1
   ·exact CW _
  ·rcases List.mem_or_eq_of_mem_set hb with h1|rfl;·exact h.Ki b h1
   ·exact Ht _
  ·rcases List.mem_or_eq_of_mem_set hb with h1|rfl;·exact h.ux b h1
   ·simp[sa]
theorem Qk (p:Prog) (m:Int):lY p m={HT p m 4 with mem:=J6 p.init}:=rfl
theorem aev (p:Prog) (m:Int):∀t,(HT p m t).p=p/\(HT p m t).m=m/\(HT p m t).mem=[0,0,0,0]/\(HT p m t).steps=[]
 |0=>⟨rfl,rfl,rfl,rfl⟩
 |t+1=>aev p m t
theorem Se {d:oW} {v:Vm} (h:v.ok) (hm:v.mem=[0,0,0,0]) {l:List Int} (hl:l.length<=4) {s:AV}:putAt (fN d v s) 24 ((oX l).map .d)=fN d {v with mem:=J6 l} s:=by
 obtain⟨vp,vm,vl,ak7,vs,vb,vst⟩:=v;simp only at hm;subst hm;have kk:∀(m:List Int) (i:Nat) (x:Int),m.length=4->i<4->(fN d ⟨vp,vm,vl,m,vs,vb,vst⟩ s).set (24+i) (au x)=fN d ⟨vp,vm,vl,m.set i x,vs,vb,vst⟩ s:=λm i x hm hi=>
  zf (v:=⟨vp,vm,vl,m,vs,vb,vst⟩) ⟨h.locals,h.Kh,hm,h.src,h.fe,h.Ki,h.ux⟩ hi
 match l,hl with
 | [],_=>rfl
 | [a],_=>
   show(fN d _ s).set (24+0) _=_;rw[kk _ 0]<;>first|rfl|decide
 | [a,b],_=>
   show((fN d _ s).set (24+0) _).set (24+1) _=_;rw[kk _ 0,kk _ 1]<;>first|rfl|decide
 | [a,b,c],_=>
   show(((fN d _ s).set (24+0) _).set (24+1) _).set (24+2) _=_;rw[kk _ 0,kk _ 1,kk _ 2]<;>first|rfl|decide
 | [a,b,c,e],_=>
   show((((fN d _ s).set (24+0) _).set (24+1) _).set (24+2) _).set (24+3) _=_;rw[kk _ 0,kk _ 1,kk _ 2,kk _ 3]<;>first|rfl|decide
 |_::_::_::_::_::_,hl=>simp at hl
def nwS (p:Prog) (I T:DV) (m:Int) (v:Vm) (t:Nat):St:=
 ⟨[(1,au m),(2,.ptr 0 0),(6,.ptr 1 0),(24,au t)],[(0,[.d (aX p.aC),.d I,.d T]),(1,fN (iI p) v (.d .ct))],2⟩
theorem AJ {p:Prog} {I T:DV} (hI:de p.init I) (hT:cQ Ins.cells p.threads T) (h:En p) {m:Int} (jX:1<=m) (Ai:m<=3):
 bB aK 78 [.agg [.d (aX p.aC),.d I,.d T],au m] [] λr m'=>r=.cC [.ptr 0 0,au 0]/\m'=[(0,fN (iI p) (lY p m) (.d .ct))]:=by
 have ko:=KY hI hT h;have kc:=K5 hI hT h;have c1:¬m<1:=by omega
 have c2:¬3<m:=by omega
 have g3:=h.lc;have g4:=h.ini;refine ay func78 aaQ ntmps78 results78 rfl ?_;unfold ah6;refine aa λK hK=>ag rfl ?_;simp only[go_sem,↓reduceIte];refine hK _ ?_;clear hK;refine aa λK0 Yh=>?_;refine aa λK hK=>ag rfl ?_;simp only[go_sem,↓reduceIte,c1,c2,decide_false];refine aI (ko) (by simp[bZ,cd]) (by simp[bZ,cd]) ?_;simp only[go_sem,↓reduceIte];refine hK _ ?_;clear hK;refine cm false (by simp[ev,ah]) (λh=>nomatch h) (λ_=>?_);refine ar ?_;refine Yh _ ?_;clear Yh;refine aa λK hK=>ag rfl ?_;simp only[go_sem,↓reduceIte];refine aI (kc) (by simp[bZ,cd]) (by simp[bZ,cd]) ?_;simp only[go_sem,↓reduceIte]
 refine hK _ ?_;clear hK;refine aa λKE fV=>?_;refine aa λK hK=>ag rfl ?_;simp only[go_sem,↓reduceIte];refine hK _ ?_;clear hK;refine ax ?_;refine aw (S':=nwS p I T m (HT p m 0) 0) (aB.cj [(0,0),(1,1)] ⟨by simp[MO,aV,ah,nwS,AV.aA,aj,af],by simp only[nwS,bd,aL,aF];exact⟨rfl,rfl,trivial⟩,rfl,rfl⟩) ?_;refine bS (λt=>nwS p I T m (HT p m t) t) 4 ?_;intro t ht;unfold Wj;have cI:=N7 p m t;by_cases bn:t<4
 ·have aQ:(t:Int)<4:=by omega
  have hw:alv.wrap ((t:Int)+1)=((t+1:Nat):Int):=by rw[wrap_i64 (by omega) (by omega)];rfl
  have Yl:=CW (p:=p) t;have Ym:=Ht m;have ks:=NG (L:=(iI p).L) (I:=(iI p).I) (Dr h) (F0 h) t;have kb:=Kf m;have cy:HT p m (t+1)={{{HT p m t with locals:=(HT p m t).locals.set t (nH p t)}with fe:=(HT p m t).fe.set t (sa m)}with src:=(HT p m t).src.set t (-1)}:=rfl;generalize HT p m t=v at cI cy;generalize nH p t=l at Yl ks cy;have vw:(sa m).l=[]:=rfl;generalize sa m=b at Ym kb cy vw;have abx:Vm.ok {v with locals:=v.locals.set t l}:=⟨by simp[cI.locals],λx hx=>by
   rcases List.mem_or_eq_of_mem_set hx with h1|rfl;·exact cI.Kh x h1
   ·exact Yl,cI.mem,cI.src,cI.fe,cI.Ki,cI.ux⟩
  have wa:=iZ (d:=iI p) (s:=.d .ct) cI;have e1:4+t*5+5<=329:=by omega
  have e2:32+t*74+74<=329:=by omega
  have e3:28+t+1<=329:=by omega
  have e4:28+t*1+1<=329:=by omega
  unfold nwS;refine aa λK hK=>ag rfl ?_;simp only[go_sem,↓reduceIte,aQ,decide_true];refine hK _ ?_;clear hK;refine aa λK1 aT=>?_;refine cm true (by simp[ev,ah]) (λ_=>?_) (λh=>nomatch h);refine ar ?_;refine aT _ ?_;clear aT;refine aa λK1 aT=>?_;refine ax ?_;refine aa λK hK=>ag rfl ?_;simp only[go_sem,↓reduceIte];refine hK _ ?_;clear hK;refine aa λK hK=>az rfl rfl ?_;simp only[go_sem,↓reduceIte,als,BJ cI];refine bD (ks) (by simp[bZ,cd]) (by simp[bZ,cd]) ?_;simp only[go_sem,↓reduceIte,alm,aQ,bn,alj,eJ Yl,pw Yl,px,Ay cI bn Yl,wa,e1];refine⟨rfl,hK _ ?_⟩;clear hK
  have aiv:Vm.ok {v with locals:=v.locals.set t l,fe:=v.fe.set t b}:=⟨abx.locals,abx.Kh,cI.mem,cI.src,by simp[cI.fe],λx hx=>by
   rcases List.mem_or_eq_of_mem_set hx with h1|h1;·exact cI.Ki x h1
   ·rw[h1];exact Ym,λx hx=>by
   rcases List.mem_or_eq_of_mem_set hx with h1|h1;·exact cI.ux x h1
   ·rw[h1];intro e he;rw[vw]at he;cases he⟩
  have akr:=iZ (d:=iI p) (s:=.d .ct) abx;have aks:=iZ (d:=iI p) (s:=.d .ct) aiv;have hsb:=ze (d:=iI p) (s:=.d .ct) abx bn Ym;have JI:=zg (d:=iI p) (s:=.d .ct) aiv bn (x:=-1);simp only at hsb JI;refine aa λK hK=>az rfl rfl ?_;simp only[go_sem,↓reduceIte];refine bD (kb) (by simp[bZ,cd]) (by simp[bZ,cd]) ?_;simp only[go_sem,↓reduceIte,alm,aQ,bn,alj,gN Ym,gh Ym,py,hsb,akr,e2];refine⟨rfl,hK _ ?_⟩;clear hK;refine ag rfl ?_;simp only[go_sem,↓reduceIte,alm,aQ,bn,alj,alV,JI,aks,e3];refine aT _ ?_;clear aT;refine ag rfl ?_;simp only[go_sem,↓reduceIte,hw];refine⟨bn,?_⟩
  exact aB.cj [(0,0),(1,1)] ⟨by simp[aV,ah,AV.aA,aj,af,nwS,cy,bd],by simp[aL,aF,ai,ak,aG,aj,AV.aA,af,ae,-alh,nwS,cy,bd],rfl,rfl⟩
 ·have du:t=4:=by omega
  subst du;have hnv:=Qk p m;have Cb:=(aev p m 4).2.2.1;have TF:=Se (d:=iI p) (s:=.d .ct) cI Cb (l:=p.init) (by omega);have wa:=iZ (d:=iI p) (s:=.d .ct) cI;generalize HT p m 4=v at cI TF wa hnv;have Sg:lY p m=⟨v.p,v.m,v.locals,J6 p.init,v.src,v.fe,v.steps⟩:=hnv;unfold nwS;refine aa λK hK=>ag rfl ?_;simp only[go_sem,↓reduceIte,show¬((4:Nat):Int)<4 by decide,decide_false];refine hK _ ?_;clear hK;refine aa λK1 aT=>?_;refine cm false (by simp[ev,ah]) (λh=>nomatch h) (λ_=>?_);refine aW ?_;show KE _;refine fV _ ?_;clear fV;refine aa λK hK=>az rfl rfl ?_
  have hln:(oX p.init).length=p.init.length:=by simp[oX]
  have q1:p.init.length<=4:=by omega
  have q2:24+p.init.length<=329:=by omega
  rcases hI.2 with⟨rfl,h0⟩|h1
  ·have hp0:p.init=[]:=by simpa using h0
   have afQ:fN (iI p) v (.d .ct)=fN (iI p) ⟨v.p,v.m,v.locals,J6 p.init,v.src,v.fe,v.steps⟩ (.d .ct):=by rw[hp0]at TF⊢;exact TF
   simp only[go_sem,↓reduceIte,mU,uo,wa];refine⟨rfl,hK _ ?_⟩;clear hK;refine aa λK hK=>ag rfl ?_;simp only[go_sem,↓reduceIte];refine hK _ ?_;clear hK;refine an ?_;exact⟨.cC [.ptr 1 0,au 0],by simp[bj,aP,bt,ah,ai,ak,aG,bd,Sg,afQ],[(1,0)],[(0,fN (iI p) {v with mem:=J6 p.init} (.d .ct))],rfl,rfl,by simp[aL,aF,ai,ak,aG,aj,AV.aA,af,ae,-alh,bd,Sg,afQ],by simp[AV.aA,aj,af,bd,Sg,afQ]⟩
  ·obtain rfl:I=.sl p.init.length (oX p.init):=by rw[h1,HS,alk]
   simp only[go_sem,↓reduceIte,mU,uo,wa,hln,TF,q1,q2];refine⟨rfl,hK _ ?_⟩;clear hK;refine aa λK hK=>ag rfl ?_;simp only[go_sem,↓reduceIte];refine hK _ ?_;clear hK;refine an ?_;exact⟨.cC [.ptr 1 0,au 0],by simp[bj,aP,bt,ah,ai,ak,aG,bd,Sg],[(1,0)],[(0,fN (iI p) {v with mem:=J6 p.init} (.d .ct))],rfl,rfl,by simp[aL,aF,ai,ak,aG,aj,AV.aA,af,ae,-alh,bd,Sg],by simp[AV.aA,aj,af,bd,Sg]⟩
theorem BN (p:Prog) (m:Int):(lY p m).ok:=by
 have h:=N7 p m 4;rw[Qk];exact⟨h.locals,h.Kh,by simp[J6],h.src,h.fe,h.Ki,h.ux⟩
theorem aby {p:Prog} (h:En p) (m:Int):vD (iI p) (lY p m) (kO (iI p) (lY p m)++[.ct]):=
 ⟨BN p m,K6 h,Dr h,by simp[lY],.ct,rfl,by simp[lY],.inl ⟨rfl,rfl⟩⟩
def lf:Option Found->List DV
 |none=>[.ct,.int .i64 0,.int .i64 0,.bool false]
 |some f=>[.sl f.runs.length (c8 f.runs),.int .i64 f.blocked,.int .i64 f.ba,.bool true]
theorem xG {p:Prog} {I T:DV} (hI:de p.init I) (hT:cQ Ins.cells p.threads T) (h:En p) {m:Int} (jX:1<=m) (Ai:m<=3) (aR:Int):
 Pure aK 33 [.agg [.d (aX p.aC),.d I,.d T],au m,au aR] (.agg ((lf (explore p m aR)).map .d)):=by
 have kn:=AJ hI hT h jX Ai;have hbm:(if(2000000:Int)<(if aR<0 then 0 else aR)then 2000000 else(if aR<0 then 0 else aR))=min (max aR 0) 2000000:=by
  repeat' split
  all_goals omega
 have hex:explore p m aR=(sb 4000010 (eY (wi m (min (max aR 0) 2000000)) (lY p m) 0)).map λw=>⟨w.runs,w.blocked,w.ba⟩:=rfl;have kr:=N2 (m:=m) (aR:=min (max aR 0) 2000000) (aby h m) rfl (by omega) (by omega) rfl;rw[hex];generalize min (max aR 0) 2000000=bud at hbm kr hex;generalize sb 4000010 (eY (wi m bud) (lY p m) 0)=res at kr;have Si:mV aK 86=some (some 4):=by kernel_rfl
 refine ay func33 aaL ntmps33 results33 rfl ?_;unfold ah2;refine J λK hK=>?_;simp only[go_sem];refine hK _ (J λK hK=>?_);simp only[go_sem];refine bA [] [.agg [.d (aX p.aC),.d I,.d T],au m] [] (nb:=1000) (kn) (by simp[bX]) (by first|(simp[aj,AV.aA,af];done)|simp[aj,AV.aA,af,aE,alP,alQ,alN,bd]) (by first|(simp[bZ,cd,af];done)|simp[bZ,cd,af,aE,alP,alQ,alN,bd]) (by simp[handed,af,ai,ak,aG,aj,AV.aA,bZ,cd,aE,alP,alQ,alN,bd]) rfl ?_;rintro r0 m' ⟨rfl,rfl⟩;simp only[go_sem,bx,bR,bU,ai,ak,aG,cf,af,aj,bQ,AV.aA,alH,alD,alF,alK,alM,aly,aE,alP,alQ,alN,bd];apply hK
 refine aw (aB.jl (S':=⟨[(1,au m),(2,au aR),(6,.ptr 0 0),(7,.bw (kO (iI p) (lY p m)++[.ct])),(8,au 0)],[(0,[.d .ct,au 0,au 0,.d (.bool false)])],1⟩) [(1,0)] [(2,kO (iI p) (lY p m)++[.ct])] ⟨by simp[fb,ah,AV.cv,db,bI,af],by simp[fx,aF,bI,ai,ak,aG,db,AV.cv,af],rfl,rfl,by simp[bG,ai,ak,aG,cD,fN,AV.cv,db,bh,-alh]⟩) ?_;refine aa λK1 aT=>?_;refine J λK hK=>?_;simp only[go_sem];apply hK;refine aH ?_;apply ar;refine aT _ (J λK hK=>?_);simp only[go_sem,hbm];apply hK;refine aa λK2 eX=>?_;cases res with
 |none=>
  unfold HQ at kr;simp only at kr;refine J λK hK=>?_;simp only[go_sem];refine bA [(0,1)] [.ptr 0 0,.bw (kO (iI p) (lY p m)++[.ct])] [(0,[au m,au bud,.d .ct,.d .ct,.d .ct,au 0,au 0,.d (.bool false)])] (nb:=1000) (kr) (by simp[bX]) (by first|(simp[aj,AV.aA,af];done)|simp[aj,AV.aA,af]) (by first|(simp[bZ,cd,af];done)|simp[bZ,cd,af]) (by simp[handed,af,ai,ak,aG,aj,AV.aA,bZ,cd]) rfl ?_;rintro r0 m' ⟨rfl,rfl⟩;simp only[go_sem,bx,bR,bU,ai,ak,aG,cf,af,aj,bQ,AV.aA,alH,alD,alF,alK,alM,aly];apply hK;refine aM ?_;refine J λK hK=>?_;simp only[go_sem];apply hK;apply an
  exact⟨.agg [.d .ct,au 0,au 0,.d (.bool false)],by simp[bj,aP,bt,ah,ai,ak,aG,Si,aN,lf],[],[],rfl,rfl,by simp[aL,aF,ai,ak,aG,aj,AV.aA,af,ae,-alh,Si,aN,lf],by simp[AV.aA,aj,af,Si,aN,lf]⟩
 |some w=>
  unfold HQ at kr;simp only at kr;unfold jo at kr;refine J λK hK=>?_;simp only[go_sem];refine bA [(0,1)] [.ptr 0 0,.bw (kO (iI p) (lY p m)++[.ct])] [(0,[au m,au bud,.d .ct,.d .ct,.d .ct,au 0,au 0,.d (.bool false)])] (nb:=1000) (kr) (by simp[bX]) (by first|(simp[aj,AV.aA,af];done)|simp[aj,AV.aA,af,eZ,aO]) (by first|(simp[bZ,cd,af];done)|simp[bZ,cd,af,eZ,aO]) (by simp[handed,af,ai,ak,aG,aj,AV.aA,bZ,cd,eZ,aO]) rfl ?_;rintro r0 m' ⟨rfl,rfl⟩;simp only[go_sem,bx,bR,bU,ai,ak,aG,cf,af,aj,bQ,AV.aA,alH,alD,alF,alK,alM,aly,eZ,aO];apply hK;refine aH ?_;apply ar;refine eX _ (J λK hK=>?_);simp only[go_sem]
  refine hK _ (J λK hK=>?_);simp only[go_sem];apply hK;have hrt:(c8 w.runs).take w.runs.length=c8 w.runs:=alx (by rw[qq];exact ali _);refine aw (aB.jl (S':=⟨[(6,.ptr 0 0)],[(0,[.d (.sl w.runs.length (c8 w.runs)),au w.blocked,au w.ba,.d (.bool true)])],1⟩) [(0,0)] [(5,c8 w.runs)] ⟨by simp[fb,ah,AV.cv,db,bI,af],by simp[fx,aF,bI,ai,ak,db,AV.cv,af,hrt],rfl,rfl,by simp[bG,ai,ak,cD,-alh]⟩) ?_;apply an
  exact⟨.agg [.d (.sl w.runs.length (c8 w.runs)),au w.blocked,au w.ba,.d (.bool true)],by simp[bj,aP,bt,ah,ai,ak,aG,Si,aN,lf],[],[],rfl,rfl,by simp[aL,aF,ai,ak,aG,aj,AV.aA,af,ae,-alh,Si,aN,lf],by simp[AV.aA,aj,af,Si,aN,lf]⟩
def Bk (d:oW) (v:Vm):List DV:=kO d v++[.sl v.steps.length (bY v.steps)]
def prS (d:oW) (v:Vm) (X:DV) (n i:Nat):St:=⟨[(8,.ptr 0 0),(2,.d X),(22,.d X),(23,au n),(24,au i)],sc d v 1,2⟩
theorem Yn {d:oW} {v:Vm} {s:AV} (h:v.ok):(fN d v s)[328]?=some s:=by
 have:=xu (d:=d) (s:=s) h;simpa[aN]using this
structure aiw (p:Prog) (ba:List Int) (R:Vm×Nat) (q:Nat×Vm):Prop where
 le:q.1<=ba.length
 ok:q.2.ok
 p:q.2.p=p
 st:q.2.steps.length<=q.1
 res:vi q.2 (ba.drop q.1) q.1=R
theorem HU {p:Prog} {I T X:DV} (hI:de p.init I) (hT:cQ Ins.cells p.threads T) (h:En p) {m:Int} (jX:1<=m) (Ai:m<=3) {ba:List Int} (hX:de ba X) (hb:ba.length<=1000000000):
 Pure aK 81 [.agg [.d (aX p.aC),.d I,.d T],au m,.d X] (.cC [.bw (Bk (iI p) (vi (lY p m) ba 0).1),au ((vi (lY p m) ba 0).2)]):=by
 have kn:=AJ hI hT h jX Ai;have pN:=(ig hX).1;have aix:=K6 h;have hTd:=Dr h;generalize hR:vi (lY p m) ba 0=R;refine ay func81 aaT ntmps81 results81 rfl ?_;unfold ah9;refine J λK hK=>?_;simp only[go_sem];refine hK _ (J λK hK=>?_);simp only[go_sem];refine bA [] [.agg [.d (aX p.aC),.d I,.d T],au m] [] (nb:=1000) (kn) (by simp[bX]) (by first|(simp[aj,AV.aA,af];done)|simp[aj,AV.aA,af,aE,alP,alQ,alN,bd]) (by first|(simp[bZ,cd,af];done)|simp[bZ,cd,af,aE,alP,alQ,alN,bd]) (by simp[handed,af,ai,ak,aG,aj,AV.aA,bZ,cd,aE,alP,alQ,alN,bd]) rfl ?_;rintro r0 m' ⟨rfl,rfl⟩
 simp only[go_sem,bx,bR,bU,ai,ak,aG,cf,af,aj,bQ,AV.aA,alH,alD,alF,alK,alM,aly,aE,alP,alQ,alN,bd];apply hK;refine aa λK1 aT=>?_;refine J λK hK=>?_;simp only[go_sem];apply hK;refine aH ?_;apply ar;apply aT;refine aa λKE fV=>?_;refine J λK hK=>?_;simp only[go_sem,pN];apply hK;apply ax;have NY:=BN p m;refine aw (aB.lS 1 328 7 rfl rfl (Yn NY) rfl) ?_;rw[ly NY];refine aw (S':=prS (iI p) (lY p m) X ba.length 0) (aB.cj [(1,0),(2,1)] ⟨by simp[prS,aV,ah,AV.aA,aj,af],by simp[prS,sc,bd,lY,bY,aL,aF,ai,ak,aG,aj,AV.aA,af],rfl,rfl⟩) ?_
 refine ef (ι:={q:Nat×Vm//aiw p ba R q}) (λq=>prS (iI p) q.1.2 X ba.length q.1.1) (λq=>ba.length-q.1.1) ⟨(0,lY p m),alZ _,NY,rfl,alZ _,hR⟩ ?_;rintro⟨⟨i,v⟩,hle,cI,hvp,B6,mb⟩;simp only at hle cI hvp B6 mb;dsimp only;have hg:xw v.p:=hvp▸aix;have hTv:cQ Ins.cells v.p.threads (iI p).T:=hvp▸hTd;unfold Wm;by_cases bn:i<ba.length
 ·have aQ:(i:Int)<ba.length:=by omega
  have hw:=cY (i:=i) (by omega);obtain⟨cs,rest,gL,bT,cq⟩:=ints_at hX i bn;rw[List.drop_eq_getElem_cons bn,vi]at mb;generalize ba[i]=g at bT mb;unfold prS sc;refine J λK hK=>?_;simp only[go_sem,aQ];apply hK;refine aa λK1 aT=>?_;refine aM ?_;apply ar;apply aT;refine aa λK1 aT=>?_;apply ax;refine J λK hK=>?_;simp only[go_sem,gL,alm,aQ,bn,alj,cq,bT,alV];apply hK;cases hb:rb v.enabled g
  ·have h2:cR v g=(v,cU,false):=by rw[ij,hb];rfl
   have k2:=HK (d:=iI p) cI hg hTv (by omega) hb;rw[h2]at mb;simp only at mb;unfold sc at k2;refine J λK hK=>?_;simp only[go_sem];refine bA [(0,0),(1,1)] [.ptr 0 0,au g] [(0,fN (iI p) v (.sl 1 7 0 v.steps.length)),(1,(bY v.steps).map .d)] (nb:=1000) (k2) (by simp[bX]) (by first|(simp[aj,AV.aA,af];done)|simp[aj,AV.aA,af,bd,dz,af,bM.cells]) (by first|(simp[bZ,cd,af];done)|simp[bZ,cd,af,bd,dz,af,bM.cells]) (by simp[handed,af,ai,ak,aG,aj,AV.aA,bZ,cd,bd,dz,af,bM.cells]) rfl ?_;rintro r0 m' ⟨rfl,rfl⟩;simp only[go_sem,bx,bR,bU,ai,ak,aG,cf,af,aj,bQ,AV.aA,alH,alD,alF,alK,alM,aly,bd,dz,af,bM.cells]
   refine hK _ (J λK hK=>?_);simp only[go_sem];apply hK;refine aM ?_;refine J λK hK=>?_;simp only[go_sem];apply hK;subst mb;refine aw (aB.jl (S':=⟨[(6,.bw (Bk (iI p) v)),(7,au (i:Nat))],[],0⟩) [] [(0,Bk (iI p) v),(1,bY v.steps)] ⟨by simp[Bk,fb,ah,AV.cv,db,bI,af],by simp[fx,aF,bI,ai],rfl,rfl,by simp[Bk,bG,bI,ai,ak,aG,fN,qo,db,AV.cv,cD,bh,-alh]⟩) ?_;apply an;exact⟨.cC [.bw (Bk (iI p) v),au (i:Nat)],by simp[bj,aP,bt,ah,ai,ak,aG],[],[],rfl,rfl,by simp[aL,aF,ai,ak,aG,aj,AV.aA,af,ae,-alh],by simp[AV.aA,aj,af]⟩
  ·have h2:(cR v g).2.2=true:=by rw[ij,hb];rfl
   have k2:=Db (d:=iI p) cI hg hTv (by omega) hb;unfold sc at k2;refine J λK hK=>?_;simp only[go_sem];refine bA [(0,0),(1,1)] [.ptr 0 0,au g] [(0,fN (iI p) v (.sl 1 7 0 v.steps.length)),(1,(bY v.steps).map .d)] (nb:=1000) (k2) (by simp[bX]) (by first|(simp[aj,AV.aA,af];done)|simp[aj,AV.aA,af,bd,dz,af,bM.cells]) (by first|(simp[bZ,cd,af];done)|simp[bZ,cd,af,bd,dz,af,bM.cells]) (by simp[handed,af,ai,ak,aG,aj,AV.aA,bZ,cd,bd,dz,af,bM.cells]) rfl ?_;rintro r0 m' ⟨rfl,rfl⟩;simp only[go_sem,bx,bR,bU,ai,ak,aG,cf,af,aj,bQ,AV.aA,alH,alD,alF,alK,alM,aly,bd,dz,af,bM.cells];apply hK;have aad:=C7 cI g
   have MP:=(HJ (v:=v) g).1;have ny:=tb v g;generalize cR v g=pv at mb h2 aad MP ny;obtain⟨v',s',b'⟩:=pv;simp only at h2 aad MP ny;subst h2;simp only at mb;refine J λK hK=>?_;simp only[go_sem];apply hK;refine aH ?_;apply ar;simp only[go_sem];apply aT;refine ag rfl ?_;simp only[go_sem,hw];refine⟨⟨(i+1,v'),bn,aad,MP.trans hvp,by simp only;omega,mb⟩,by simp only;omega,?_⟩;exact aB.cj [(0,0),(4,1)] ⟨by simp[aV,ah,AV.aA,aj,af,prS,sc,bd,gL],by simp[aL,aF,ai,ak,aG,aj,AV.aA,af,ae,-alh,prS,sc,bd,gL],rfl,rfl⟩
 ·have du:i=ba.length:=by omega
  subst du;have aQ:¬(ba.length:Int)<ba.length:=by omega
  rw[List.drop_length,vi]at mb;subst mb;unfold prS sc;refine J λK hK=>?_;simp only[go_sem,aQ];apply hK;refine aa λK1 aT=>?_;refine aH ?_;apply aW;show KE _;refine fV _ (J λK hK=>?_);simp only[go_sem,pN];apply hK;refine aw (aB.jl (S':=⟨[(6,.bw (Bk (iI p) v)),(7,au (ba.length:Nat))],[],0⟩) [] [(0,Bk (iI p) v),(1,bY v.steps)] ⟨by simp[Bk,fb,ah,AV.cv,db,bI,af],by simp[fx,aF,bI,ai],rfl,rfl,by simp[Bk,bG,bI,ai,ak,aG,fN,qo,db,AV.cv,cD,bh,-alh]⟩) ?_;apply an
  exact⟨.cC [.bw (Bk (iI p) v),au (ba.length:Nat)],by simp[bj,aP,bt,ah,ai,ak,aG],[],[],rfl,rfl,by simp[aL,aF,ai,ak,aG,aj,AV.aA,af,ae,-alh],by simp[AV.aA,aj,af]⟩
theorem HV {p:Prog}:∀(ba:List Int) (v:Vm) (k:Nat),v.ok->v.p=p->(vi v ba k).1.ok/\(vi v ba k).1.p=p
 | [],v,k,h,hp=>⟨h,hp⟩
 |i::r,v,k,h,hp=>by
  have h1:=C7 h i;have h2:=(HJ (v:=v) i).1;rw[vi];generalize cR v i=pv at h1 h2;obtain⟨v',s',b'⟩:=pv;cases b';·exact⟨h1,h2.trans hp⟩
  ·exact HV r v' (k+1) h1 (h2.trans hp)
def j2:List Int:=alA 20 0
theorem lZ:cc (alA 20 0)=cc j2:=rfl
def Dt:Option (List Int)->AV
 |none=>.cC [.agg ((cc (j2)).map .d),.d (.bool false)]
 |some f=>.cC [.agg ((cc f).map .d),.d (.bool true)]
theorem oN {p:Prog} {I T X:DV} (hI:de p.init I) (hT:cQ Ins.cells p.threads T) (h:En p) {m:Int} (jX:1<=m) (Ai:m<=3) {ba:List Int} (hX:de ba X) (hb:ba.length<=1000000000):
 Pure aK 35 [.agg [.d (aX p.aC),.d I,.d T],au m,.d X] (Dt (kY p m ba)):=by
 have kr:=HU hI hT h jX Ai hX hb;have pN:=(ig hX).1;obtain⟨cI,hp⟩:=HV (p:=p) ba (lY p m) 0 (BN p m) rfl;have hfp:kY p m ba=if(vi (lY p m) ba 0).2<ba.length\/(vi (lY p m) ba 0).1.done=false then none else some (vi (lY p m) ba 0).1.final:=rfl
 rw[hfp];generalize vi (lY p m) ba 0=R at kr cI hp;obtain⟨v,k⟩:=R;simp only at kr cI hp⊢;unfold Bk at kr;have hTv:cQ Ins.cells v.p.threads (iI p).T:=by rw[hp];exact Dr h
 have kd:=RR (d:=iI p) (S:=.sl v.steps.length (bY v.steps)) cI hTv;have kf:=NU (d:=iI p) (S:=.sl v.steps.length (bY v.steps)) cI;have r5:=zl cI;have hz2:((cc (j2)).map AV.d).length=20:=rfl;have X3:((cc v.final).map AV.d).length=20:=by simp[cc,r5]
 have afE:(cc v.final).length=20:=by simp[cc,r5]
 have hz3:(cc (j2)).length=20:=rfl;have Sj:=n4 (f:=j2) (n:=1) (by decide);have ho1:((cc (j2)).map AV.d).all mf=true:=eR _;have ho2:((cc v.final).map AV.d).all mf=true:=eR _;have Wf:putAt ((cc (j2)).map AV.d) 0 ((cc (j2)).map AV.d)=(cc (j2)).map AV.d:=iP rfl;have hp2:putAt ((cc (j2)).map AV.d) 0 ((cc v.final).map AV.d)=(cc v.final).map AV.d:=iP (by rw[hz2,X3]);have Mg:aN (some 20) ((cc (j2)).map AV.d)=some (.agg ((cc (j2)).map AV.d)):=rfl;have Br:aN (some 20) ((cc v.final).map AV.d)=some (.agg ((cc v.final).map AV.d)):=by
  rw[ep,X3,if_pos (ali _),alx (by rw[X3];exact ali _)]
 refine ay func35 aaN ntmps35 results35 rfl ?_;unfold ah3;refine J λK hK=>?_;simp only[go_sem,ql,lZ,Sj];refine hK _ (J λK hK=>?_);simp only[go_sem];refine a8 (kr) ?_;simp only[go_sem];apply hK;refine aa λK1 aT=>?_;by_cases h1:k<ba.length
 ·have Q6:(k:Int)<ba.length:=by omega
  refine J λK hK=>?_;simp only[go_sem,pN,Q6,decide_true];apply hK;have hc:(k<ba.length\/v.done=false):=.inl h1;rw[if_pos hc];refine aM ?_;refine J λK hK=>?_;simp only[go_sem,ql,lZ,hz2,hz3,ho1,Wf,alo,ali];apply hK;apply an;exact⟨.cC [.agg ((cc (j2)).map .d),.d (.bool false)],by simp[bj,aP,bt,ah,ai,ak,aG,gu,als,Mg,Dt],[],[],rfl,rfl,by simp[aL,aF,ai,ak,aG,aj,AV.aA,af,ae,-alh,gu,als,Mg,Dt],by simp[AV.aA,aj,af,gu,als,Mg,Dt]⟩
 ·have Q6:¬(k:Int)<ba.length:=by omega
  refine J λK hK=>?_;simp only[go_sem,pN,Q6,decide_false];refine a8 (kd) ?_;simp only[go_sem];apply hK;cases hd:v.done
  ·have hc:(k<ba.length\/false=false):=.inr rfl;rw[if_pos hc];refine aM ?_ (by simp[ev,ah,hd]);refine J λK hK=>?_;simp only[go_sem,ql,lZ,hz2,hz3,Sj,ho1,Wf,alo,ali];apply hK;apply an;exact⟨.cC [.agg ((cc (j2)).map .d),.d (.bool false)],by simp[bj,aP,bt,ah,ai,ak,aG,gu,als,Mg,Dt],[],[],rfl,rfl,by simp[aL,aF,ai,ak,aG,aj,AV.aA,af,ae,-alh,gu,als,Mg,Dt],by simp[AV.aA,aj,af,gu,als,Mg,Dt]⟩
  ·have hc:¬(k<ba.length\/true=false):=by simp[h1]
   rw[if_neg hc];refine aH ?_ (by simp[ev,ah,hd]);apply ar;refine aT _ (J λK hK=>?_);simp only[go_sem];refine a8 (kf) ?_;simp only[go_sem,hz2,hz3,Sj,X3,afE,ho2,hp2,alo,ali];apply hK;apply an;exact⟨.cC [.agg ((cc v.final).map .d),.d (.bool true)],by simp[bj,aP,bt,ah,ai,ak,aG,gu,als,Br,Dt,h1,hd],[],[],rfl,rfl,by simp[aL,aF,ai,ak,aG,aj,AV.aA,af,ae,-alh,gu,als,Br,Dt,h1,hd],by simp[AV.aA,aj,af,gu,als,Br,Dt,h1,hd]⟩
def cS (l:List (List Int)):List DV:=l.flatMap cc
def ja (p:List Int):List (List Int)->List (List Int)
 | []=>[]
 |b::r=>if b=p then ja b r else b::ja b r
def cE:List (List Int)->List (List Int)
 | []=>[]
 |a::r=>a::ja a r
def td (p:List Int):List (List Int)->List Int
 | []=>p
 |b::r=>td b r
theorem AK (x:List Int):∀(r:List (List Int)) (p:List Int),ja p (r++[x])=ja p r++if x=td p r then []else [x]
 | [],p=>by
   by_cases h:x=p;·simp[ja,td,h]
   ·simp[ja,td,h]
 |b::r,p=>by
  have ih:=AK x r b;simp only[List.cons_append,ja,td];rw[ih];by_cases h:b=p;·rw[if_pos h,if_pos h];rfl
  ·rw[if_neg h,if_neg h,List.cons_append];rfl
theorem AL:∀(r:List (List Int)) (a:List Int) (j:Nat) (h:j<(a::r).length),td a (r.take j)=(a::r)[j]
 |r,a,0,h=>by simp[td]
 | [],a,j+1,h=>by simp at h
 |b::r,a,j+1,h=>by
  rw[List.take_succ_cons,td,List.getElem_cons_succ];exact AL r b j (by simpa using h)
theorem EU {l:List (List Int)} {j:Nat} (hj:j+1<l.length):cE (l.take (j+2))=cE (l.take (j+1))++if l[j+1]=l[j]then []else [l[j+1]]:=by
 cases l with
 |nil=>simp at hj
 |cons a r=>
  have hr:j<r.length:=by simp only[alu]at hj;omega
  have h1:r.take (j+1)=r.take j++[r[j]]:=by rw[List.take_add_one,alw hr];rfl
  rw[List.take_succ_cons,List.take_succ_cons,h1];simp only[cE,List.getElem_cons_succ];rw[AK,List.cons_append,AL r a j (by simp only[alu];omega)]
theorem Du:∀(r:List (List Int)) (p:List Int),(ja p r).length<=r.length
 | [],p=>ali _
 |b::r,p=>by
  have:=Du r b;unfold ja;split;·simp;omega
  ·simp;omega
theorem HW (l:List (List Int)):(cE l).length<=l.length:=by
 cases l with
 |nil=>exact ali _
 |cons a r=>have:=Du r a;simp[cE];omega
theorem vI:∀(r:List (List Int)) (p x:List Int),x∈ja p r->x∈r
 | [],p,x,h=>h
 |b::r,p,x,h=>by
  unfold ja at h;split at h;·exact alY _ (vI r b x h)
  ·rcases alW.1 h with rfl|h;·exact alU
   ·exact alY _ (vI r b x h)
theorem xH {l:List (List Int)} {x:List Int} (h:x∈cE l):x∈l:=by
 cases l with
 |nil=>exact h
 |cons a r=>
  rcases alW.1 h with rfl|h;·exact alU
  ·exact alY _ (vI r a x h)
theorem Dv:∀(r:List (List Int)) (p x:List Int),x∈r->x=p\/x∈ja p r
 | [],p,x,h=>by cases h
 |b::r,p,x,h=>by
  unfold ja;rcases alW.1 h with rfl|h
  ·split;·rename_i e;exact .inl e
   ·exact .inr alU
  ·rcases Dv r b x h with rfl|h
   ·split;·rename_i e;exact .inl e
    ·exact .inr alU
   ·split;·exact .inr h
    ·exact .inr (alY _ h)
theorem HX {l:List (List Int)} {x:List Int}:x∈cE l↔x∈l:=by
 refine⟨xH,λh=>?_⟩;cases l with
 |nil=>exact h
 |cons a r=>
  rcases alW.1 h with rfl|h;·exact alU
  ·rcases Dv r a x h with rfl|h;·exact alU
   ·exact alY _ h
def dA (f:List Int):List AV:=(cc f).map .d
def cT (l:List (List Int)):List AV:=(cS l).map .d
theorem fG {f:List Int} (h:f.length=20):(dA f).length=20:=by simp[dA,cc,h]
theorem jE (a:List Int) (l:List (List Int)):cT (a::l)=dA a++cT l:=by simp[cT,cS,dA]
theorem uf (l l':List (List Int)):cT (l++l')=cT l++cT l':=by simp[cT,cS]
theorem eV:∀{l:List (List Int)},(∀f∈l,f.length=20)->(cT l).length=l.length*20
 | [],_=>rfl
 |a::l,h=>by
  rw[jE,aln,fG (h a alU),eV λf hf=>h f (alY _ hf),alu];omega
theorem rA:∀{l:List (List Int)} (_:∀f∈l,f.length=20) (k:Nat),(cT l).drop (k*20)=cT (l.drop k)
 |l,_,0=>by simp
 | [],_,k+1=>by simp[cT,cS]
 |a::l,h,k+1=>by
  have lA:=fG (h a alU);rw[jE,show(k+1)*20=(dA a).length+k*20 by rw[lA];omega,List.drop_append,List.drop_eq_nil_of_le (by omega),al8,Nat.add_sub_cancel_left,List.drop_succ_cons];exact rA (λf hf=>h f (alY _ hf)) k
theorem vJ:∀{l:List (List Int)} (_:∀f∈l,f.length=20) (k:Nat),(cT l).take (k*20)=cT (l.take k)
 |l,_,0=>by simp[cT,cS]
 | [],_,k+1=>by simp[cT,cS]
 |a::l,h,k+1=>by
  have lA:=fG (h a alU);rw[jE,show(k+1)*20=(dA a).length+k*20 by rw[lA];omega,List.take_append,alx (by omega),Nat.add_sub_cancel_left,List.take_succ_cons,jE];rw[vJ (λf hf=>h f (alY _ hf)) k]
theorem oO {l:List (List Int)} (h:∀f∈l,f.length=20) {k:Nat} (hk:k<l.length):aN (some 20) ((cT l).drop (k*20))=some (.agg (dA l[k])):=by
 have lA:=fG (h l[k] (alR hk));rw[rA h,List.drop_eq_getElem_cons hk,jE,ep,if_pos (by rw[aln];omega)];rw[List.take_append_of_le_length (by omega),alx (by omega)]
theorem Sk {l:List (List Int)} (h:∀f∈l,f.length=20) {k:Nat} (hk:k<l.length) {f:List Int} (hf:f.length=20):putAt (cT l) (k*20) (dA f)=cT (l.set k f):=by
 have hl:=eV h;rw[oC _ _ _ (by rw[fG hf,hl];have:=Nat.mul_le_mul_right 20 hk;omega),fG hf,vJ h,show k*20+20=(k+1)*20 by omega,rA h,List.set_eq_take_append_cons_drop,if_pos hk,uf,jE,List.append_assoc]
theorem N8 {S R:List (List Int)} (h:∀f∈S,f.length=20) (hR:∀f∈R,f.length=20) {p:Nat} (hp:p+R.length=S.length):putAt (cT S) (p*20) (cT R)=cT (S.take p++R):=by
 rw[oC _ _ _ (by rw[eV hR,eV h];omega),eV hR,vJ h,<-Nat.add_mul,hp,rA h,List.drop_eq_nil_of_le (ali _),uf,show cT []=[] from rfl,List.append_nil]
theorem K7 {l:List (List Int)} (h:∀f∈l,f.length=20) {k:Nat} {f:List Int} (hf:f.length=20):∀g∈l.set k f,g.length=20:=λg hg=>by
 rcases List.mem_or_eq_of_mem_set hg with h1|h1;·exact h g h1
 ·rw[h1];exact hf
theorem cL (π:Nat->Option Nat) (l:List (List Int)):aj π (cT l)=cT l:=bQ ..
@[simp]theorem ajr (π:Nat->Option Nat) (f:List Int):bZ π (dA f)=true:=dL ..
@[simp]theorem aiy (π:Nat->Option Nat) (l:List (List Int)):bZ π (cT l)=true:=dL ..
theorem te (π:Nat->Option Nat) (f:List Int):aj π (dA f)=dA f:=bQ ..
theorem tf (f:List Int):(dA f).all mf=true:=eR _
theorem aiz:∀(f g:List Int),f.length=g.length->cw (alA f.length 0) (dA f) (dA g)=some (decide (f=g))
 | [],[],_=>rfl
 | [],b::g,h=>by simp at h
 |a::f,[],h=>by simp at h
 |a::f,b::g,h=>by
  have ih:=aiz f g (by simpa using h);have e1:dA (a::f)=au a::dA f:=rfl;have e2:dA (b::g)=au b::dA g:=rfl;rw[e1,e2,alu,List.replicate_succ];simp only[cw,qG,if_true,ih,List.cons.injEq]
  congr 1
  by_cases h1:a=b<;>by_cases h2:f=g<;>simp[h1,h2]
theorem AM {f g:List Int} (hf:f.length=20) (hg:g.length=20):cw [0,0,0,0,0,0,0,0,0,0,0,0,0,0,0,0,0,0,0,0] (dA f) (dA g)=some (decide (f=g)):=by
 have:=aiz f g (by omega);rw[hf]at this;exact this
def uA (l:List (List Int)):List (List Int):=cE l++alA (l.length-(cE l).length) (alA 20 0)
def csC (l:List (List Int)) (k:Nat):St:=⟨[(0,.sl 0 20 0 l.length),(3,au k)],[(0,cT l)],1⟩
def ZR (n k0:Nat) (S:List (List Int)) (k k2:Nat):St:=⟨[(0,.sl 0 20 0 n),(3,au k),(4,.sl 0 20 (k0*20) (n-k0)),(5,au k2)],[(0,cT S)],1⟩
structure Dw (l:List (List Int)) (k0:Nat) (S:List (List Int)) (k j:Nat):Prop where
 h0:k0<j
 hj:j<=l.length
 kj:k<j
 aiA:0<k
 len:S.length=l.length
 all:∀f∈S,f.length=20
 head:S.take k=cE (l.take j)
 tail:S.drop (j-1)=l.drop (j-1)
theorem l3 {l:List (List Int)} {j:Nat} (h0:0<j) (hj:j<l.length):cE (l.take (j+1))=cE (l.take j)++if l[j]=l[j-1]then []else [l[j]]:=by
 obtain⟨i,rfl⟩:∃i,j=i+1:=⟨j-1,by omega⟩;exact EU hj
theorem Dw.get {l:List (List Int)} {k0 k j:Nat} {S:List (List Int)} (h:Dw l k0 S k j) {i:Nat} (h1:j-1<=i) (h2:i<l.length):S[i]'(by rw[h.len];exact h2)=l[i]:=by
 have e:=congrArg (λx=>x[i-(j-1)]?) h.tail;simp only[List.getElem?_drop,show j-1+(i-(j-1))=i by omega]at e;rw[alw (by rw[h.len];exact h2),alw h2]at e;exact al9 e
theorem Dw.same {l:List (List Int)} {k0 k j:Nat} {S:List (List Int)} (h:Dw l k0 S k j) (hj:j<l.length) (he:l[j]=l[j-1]):Dw l k0 S k (j+1):=by
 refine⟨by have:=h.h0;omega,hj,by have:=h.kj;omega,h.aiA,h.len,h.all,?_,?_⟩;·rw[l3 (by have:=h.h0;omega) hj,if_pos he,List.append_nil];exact h.head
 ·have:=h.tail;have h1:S.drop j=(S.drop (j-1)).drop 1:=by rw[List.drop_drop];congr 1;have:=h.h0;omega
  have h2:l.drop j=(l.drop (j-1)).drop 1:=by rw[List.drop_drop];congr 1;have:=h.h0;omega
  rw[Nat.add_sub_cancel,h1,h2,this]
theorem Dw.other {l:List (List Int)} {k0 k j:Nat} {S:List (List Int)} (h:Dw l k0 S k j) (hj:j<l.length) (lA:l[j].length=20) (he:¬l[j]=l[j-1]):Dw l k0 (S.set k l[j]) (k+1) (j+1):=by
 have hk:=h.kj;have hl:=h.len;refine⟨by have:=h.h0;omega,hj,by omega,by omega,by rw[List.length_set];exact h.len,K7 h.all lA,?_,?_⟩;·rw[l3 (by have:=h.h0;omega) hj,if_neg he,<-h.head,List.take_add_one,List.take_set_of_le (ali k),List.getElem?_set_self (by omega)];rfl
 ·have:=h.tail;have h0:=h.h0;have h1:S.drop j=(S.drop (j-1)).drop 1:=by rw[List.drop_drop];congr 1;omega
  have h2:l.drop j=(l.drop (j-1)).drop 1:=by rw[List.drop_drop];congr 1;omega
  rw[Nat.add_sub_cancel,List.drop_set_of_lt (by omega),h1,h2,this]
theorem Yo {l:List (List Int)} {k0 k:Nat} {S:List (List Int)} (h:Dw l k0 S k l.length):k=(cE l).length/\S.take k++alA (l.length-k) (alA 20 0)=uA l:=by
 have hh:=h.head;rw[alx (ali _)]at hh;have hk:k=(cE l).length:=by
  have:=congrArg List.length hh;rw[List.length_take,h.len]at this;have:=h.kj;omega
 refine⟨hk,?_⟩;unfold uA;rw[hh,<-hk]
theorem Yp (k:Nat):((alI (k*20)).map λi=>([au 0,(au 0),(au 0),(au 0),(au 0),(au 0),(au 0),(au 0),(au 0),(au 0),(au 0),(au 0),(au 0),(au 0),(au 0),(au 0),(au 0),(au 0),(au 0),(au 0)]:List AV).getD (i%20) .any)=cT (alA k (alA 20 0)):=by
 have h1:cT (alA k (alA 20 0))=alA (k*20) (au 0):=by
  induction k with
  |zero=>rfl
  |succ k ih=>rw[List.replicate_succ,jE,ih,show(k+1)*20=20+k*20 by omega,<-List.replicate_append_replicate];rfl
 rw[h1,List.eq_replicate_iff];refine⟨by simp,λb hb=>?_⟩;obtain⟨i,_,rfl⟩:=List.mem_map.1 hb;have hi:i%20<20:=Nat.mod_lt _ (by decide);generalize i%20=j at hi;have:∀j:Fin 20,([au 0,(au 0),(au 0),(au 0),(au 0),(au 0),(au 0),(au 0),(au 0),(au 0),(au 0),(au 0),(au 0),(au 0),(au 0),(au 0),(au 0),(au 0),(au 0),(au 0)]:List AV).getD j.1 .any=au 0:=by
  intro j;rcases j with⟨j,hj⟩
  iterate 20 (cases j with|zero=>rfl|succ j=>?_)
  omega
 exact this ⟨j,hi⟩
theorem EV {l:List (List Int)} (lA:∀f∈l,f.length=20) (hb:l.length<=1000000000000):
 bB aK 88 [.sl 0 20 0 l.length] [(0,cT l)] λr m'=>r=.sl 0 20 0 (cE l).length/\m'=[(0,cT (uA l))]:=by
 have hlen:=eV lA;refine ay func88 aaY ntmps88 results88 rfl ?_;unfold aid;refine J λK hK=>?_;simp only[go_sem];apply hK;refine aa λK1 aT=>?_;by_cases h2:l.length<2
 ·have Ba:(l.length:Int)<2:=by omega
  have e1:cE l=l:=by
   match l,h2 with
   | [],_=>rfl
   | [a],_=>rfl
  have e2:uA l=l:=by simp[uA,e1]
  rw[e1,e2];refine J λK hK=>?_;simp only[go_sem,Ba,decide_true];apply hK;refine aM ?_;refine J λK hK=>?_;simp only[go_sem];apply hK;apply an;exact⟨.sl 0 20 0 l.length,by simp[bj,aP,bt,ah,ai,ak,aG,cL],[(0,0)],[(0,cT l)],rfl,rfl,by simp[aL,aF,ai,ak,aG,aj,AV.aA,af,ae,-alh,cL],by simp[AV.aA,aj,af,cL]⟩
 ·have Ba:¬(l.length:Int)<2:=by omega
  refine J λK hK=>?_;simp only[go_sem,Ba,decide_false];apply hK;refine aH ?_;apply ar;apply aT;refine aa λKE fV=>?_;refine J λK hK=>?_;simp only[go_sem];apply hK;apply ax;refine aw (S':=csC l 1) (aB.cj [(0,0)] ⟨by simp[aV,ah,AV.aA,aj,af,csC,cL],by simp[aL,aF,ai,ak,aj,AV.aA,af,ae,-alh,csC,cL],rfl,rfl⟩) ?_;refine ef (ι:={k:Nat//1<=k/\k<=l.length/\cE (l.take k)=l.take k}) (λk=>csC l k.1) (λk=>l.length-k.1) ⟨1,ali _,by omega,by
   match l,h2 with
   | [],h=>exact absurd (by simp) h
   |a::r,_=>rfl⟩ ?_
  rintro⟨k,GF,hk,hc⟩;dsimp only;unfold Wq;refine aa λK1 aT=>?_;by_cases bn:k<l.length
  ·have aQ:(k:Int)<l.length:=by omega
   have hw:=cY (i:=k) (by omega);have qC:alv.wrap ((k:Int)-1)=((k-1:Nat):Int):=by rw[wrap_i64 (by omega) (by omega)];omega
   have l1:=oO lA bn;have l2:=oO lA (k:=k-1) (by omega);have jX:((k-1:Nat):Int)<l.length:=by omega
   have q:=AM (lA _ (alR bn)) (lA l[k-1] (alR (by omega)));unfold csC;refine J λK hK=>?_;simp only[go_sem,aQ,decide_true];apply hK;refine aM ?_;apply ar;apply aT;refine aa λK1 aT=>?_;apply ax;refine aa λK hK=>az rfl rfl ?_;simp only[go_sem,alm,aQ,bn,alj,alo,qC,jX,l1,l2,q];refine⟨rfl,hK _ ?_⟩;by_cases he:l[k]=l[k-1]
   ·have k0:¬k=0:=by omega
    have kn:¬k=l.length:=by omega
    refine aM ?_ (by simp[ev,ah,he,decide_true]);refine J λK hK=>?_;simp only[go_sem,alm,alj,aQ,hk,k0,kn,alo,ali];apply hK;refine aa λK2 eX=>?_;refine J λK hK=>?_;simp only[go_sem];apply hK;apply ax;refine aw (S':=ZR l.length k l k 1) (aB.cj [(0,0)] ⟨by simp[aV,ah,AV.aA,aj,af,ZR,cL],by simp[aL,aF,ai,ak,aj,AV.aA,af,ae,-alh,ZR,cL],rfl,rfl⟩) ?_;have akt:Dw l k l k (k+1):=⟨by omega,by omega,by omega,by omega,rfl,lA,by rw[l3 (by omega) bn,if_pos he,List.append_nil,hc],rfl⟩
    refine ef (ι:={q:List (List Int)×Nat×Nat//Dw l k q.1 q.2.1 (k+q.2.2)}) (λq=>ZR l.length k q.1.1 q.1.2.1 q.1.2.2) (λq=>l.length-q.1.2.2) ⟨(l,k,1),akt⟩ ?_;rintro⟨⟨S,p,j⟩,cI⟩;dsimp only at cI⊢;unfold Wp;have hSl:=cI.len;have hj1:=cI.h0;have Be:=cI.kj;have hp0:=cI.aiA;refine aa λK4 P5=>?_;by_cases pD:k+j<l.length
    ·have K8:(j:Int)<((l.length-k:Nat):Int):=by omega
     have ak8:j<l.length-k:=by omega
     have hwj:alv.wrap ((j:Int)+1)=((j+1:Nat):Int):=by rw[wrap_i64 (by omega) (by omega)];rfl
     have hwp:alv.wrap ((p:Int)+1)=((p+1:Nat):Int):=by rw[wrap_i64 (by omega) (by omega)];rfl
     have aku:alv.wrap ((j:Int)-1)=((j-1:Nat):Int):=by rw[wrap_i64 (by omega) (by omega)];omega
     have m1:=oO cI.all (k:=k+j) (by omega);have m2:=oO cI.all (k:=k+(j-1)) (by omega);rw[cI.get (i:=k+j) (by omega) pD,show(k+j)*20=k*20+j*20 by omega]at m1;rw[cI.get (i:=k+(j-1)) (by omega) (by omega),show(k+(j-1))*20=k*20+(j-1)*20 by omega]at m2;have hmj:((j-1:Nat):Int)<((l.length-k:Nat):Int):=by omega
     have q2:=AM (lA _ (alR pD)) (lA l[k+(j-1)] (alR (by omega)));have e1:l[k+(j-1)]=l[k+j-1]:=by congr 1;omega
     unfold ZR;refine J λK hK=>?_;simp only[go_sem,K8,decide_true];apply hK;refine aM ?_;apply ar;apply P5;refine aa λK4 P5=>?_;apply ax;refine aa λK hK=>az rfl rfl ?_;simp only[go_sem,alm,K8,alj,alo,aku,hmj,m1,m2,q2];refine⟨rfl,hK _ ?_⟩;by_cases he2:l[k+j]=l[k+j-1]
     ·have he3:l[k+j]=l[k+(j-1)]:=he2.trans e1.symm;refine aH ?_ (by simp[ev,ah,he3,decide_true]);apply ar;simp only[go_sem];apply P5;refine ag rfl ?_;simp only[go_sem,hwj];refine⟨⟨(S,p,j+1),cI.same pD he2⟩,by simp only;omega,?_⟩;exact aB.cj [(0,0)] ⟨by simp[aV,ah,AV.aA,aj,af,ZR,cL],by simp[aL,aF,ai,ak,aG,aj,AV.aA,af,ae,-alh,ZR,cL],rfl,rfl⟩
     ·have he3:¬l[k+j]=l[k+(j-1)]:=λe=>he2 (e.trans e1);have hSn:(cT S).length=l.length*20:=by rw[eV cI.all,hSl]
      have Gu:=Sk cI.all (k:=p) (by omega) (lA _ (alR pD));have u5:(p:Int)<l.length:=by omega
      have r5:=fG (lA _ (alR pD));have akv:p*20+20<=l.length*20:=by omega
      have fw:=tf l[k+j];refine aM ?_ (by simp[ev,ah,he3,decide_false]);refine J λK hK=>?_;simp only[go_sem,alm,K8,alj,alo,m1,u5,r5,fw,hSn,akv,Gu];apply hK;refine ag rfl ?_;simp only[go_sem,hwp];apply P5;refine ag rfl ?_;simp only[go_sem,hwj];refine⟨⟨(S.set p l[k+j],p+1,j+1),cI.other pD (lA _ (alR pD)) he2⟩,by simp only;omega,?_⟩;exact aB.cj [(0,0)] ⟨by simp[aV,ah,AV.aA,aj,af,ZR,cL],by simp[aL,aF,ai,ak,aG,aj,AV.aA,af,ae,-alh,ZR,cL],rfl,rfl⟩
    ·have hje:k+j=l.length:=by have:=cI.hj;omega
     have K8:¬(j:Int)<((l.length-k:Nat):Int):=by omega
     rw[hje]at cI;obtain⟨hpe,afR⟩:=Yo cI;unfold ZR;refine J λK hK=>?_;simp only[go_sem,K8,decide_false];apply hK;refine aH ?_;apply aW;show K2 _;apply eX;have u5:(p:Int)<=l.length:=by omega
     have aiB:p<=l.length:=by omega
     have akw:¬p=0:=by omega
     have hpn:¬p=l.length:=by omega
     have pe:¬l.length-p=0:=by omega
     have hSn:(cT S).length=l.length*20:=by rw[eV cI.all,hSl]
     have sC:p*20+(l.length-p)*20<=l.length*20:=by omega
     have hz:=Yp (l.length-p);have Pq:=N8 cI.all (R:=alA (l.length-p) (alA 20 0)) (p:=p) (λf hf=>by rw[(List.mem_replicate.1 hf).2];simp) (by rw[List.length_replicate];omega);rw[afR]at Pq;refine J λK hK=>?_;simp only[go_sem,alm,alj,alo,u5,aiB,akw,hpn,pe,hSn,sC,ali];rw[if_pos ⟨pe,by decide⟩,hz,Pq];simp only[go_sem];refine hK _ (J λK hK=>?_);simp only[go_sem,alm,alj,alZ,aiB];apply hK;apply an;exact⟨.sl 0 20 0 p,by simp[bj,aP,bt,ah,ai,ak,aG,cL,<-hpe],[(0,0)],[(0,cT (uA l))],rfl,rfl,by simp[aL,aF,ai,ak,aG,aj,AV.aA,af,ae,-alh,cL,<-hpe],by simp[AV.aA,aj,af,cL,<-hpe]⟩
   ·refine aH ?_ (by simp[ev,ah,he,decide_false]);apply ar;simp only[go_sem];apply aT;refine ag rfl ?_;simp only[go_sem,hw];refine⟨⟨k+1,by omega,by omega,by rw[l3 (by omega) bn,if_neg he,hc,List.take_add_one,alw bn];rfl⟩,by simp only;omega,?_⟩;exact aB.cj [(0,0)] ⟨by simp[aV,ah,AV.aA,aj,af,csC,cL],by simp[aL,aF,ai,ak,aG,aj,AV.aA,af,ae,-alh,csC,cL],rfl,rfl⟩
  ·have du:k=l.length:=by omega
   subst du;rw[alx (ali _)]at hc;have aQ:¬(l.length:Int)<l.length:=by omega
   have e2:uA l=l:=by simp[uA,hc]
   unfold csC;refine J λK hK=>?_;simp only[go_sem,aQ,decide_false];apply hK;refine aH ?_;apply aW;show KE _;refine fV _ (J λK hK=>?_);simp only[go_sem];apply hK;apply an;exact⟨.sl 0 20 0 l.length,by simp[bj,aP,bt,ah,ai,ak,aG,cL,hc,e2],[(0,0)],[(0,cT l)],rfl,rfl,by simp[aL,aF,ai,ak,aG,aj,AV.aA,af,ae,-alh,cL,hc,e2],by simp[AV.aA,aj,af,cL,hc,e2]⟩
section
variable{L I T:DV} {aC:List UInt8} {nt:Nat} (hL:mP L aC) (hT:jV (.d T)=some nt) {f:List Int} (hf:f.length=20)
include hL hT hf
theorem HY (a:Atom):Pure aK 206 [.agg (a.cells.map .d),.bw [L,I,T],.bw (cc f)] (.d (.bool (!dt aC nt a f))):=by
 have lA:(cc f).length=20:=by simp[cc,hf]
 have ht:((cc f).map AV.d).take 20=(cc f).map AV.d:=alx (by simp[lA]);refine ay func206 Vk ntmps206 results206 rfl ?_;unfold acI;refine J λK hK=>?_;simp only[go_sem,Atom.cells];refine hK _ (J λK hK=>?_);simp only[go_sem,alk,lA,alu,alB,ali,List.take,ht];refine aI (RQ hL hT a hf) (by simp[bZ,cd,FN]) rfl ?_;simp only[go_sem];apply hK;apply an;simp only[go_sem];refine aD _ rfl rfl ⟨?_,rfl⟩;simp only[ah,↓reduceIte]
theorem K9 {l:List Atom} {X:DV} (hX:dU Atom.cells l X):Pure aK 205 [.d X,.bw [L,I,T],.bw (cc f)] (.d (.bool (l.all λa=>dt aC nt a f))):=by
 have h1:Pure aK 165 [.d X,.fn 206 [.bw [L,I,T],.bw (cc f)]] _:=lv func165 JB ntmps165 rfl results165
  (tQ (k:=4) (λ_=>rfl) (by omega) hX) rfl rfl (λi hi=>by simp[y1,hi,cd]) (p:=λi=>(l[i]?.map λa=>!dt aC nt a f).getD false)
  (λi hi=>by simp only[y1,alw hi,alX,al6];exact HY hL hT hf _)
 have h2:=iC func117 Jy ntmps117 rfl results117 rfl h1;rw[qV]at h2;refine ay func205 Vj ntmps205 results205 rfl ?_;unfold acH;refine J λK hK=>?_;simp only[go_sem];refine hK _ (J λK hK=>?_);simp only[go_sem];refine aI h2 rfl rfl ?_;simp only[go_sem];apply hK;apply an;simp only[go_sem];refine aD _ rfl rfl ⟨?_,rfl⟩;simp only[ah,↓reduceIte,List.not_any_eq_all_not,Bool.not_not]
def tg (aC:List UInt8) (nt:Nat) (kind:Int) (rows:List (List Atom)) (f:List Int):Bool:=
 decide (kind=0)||rows.any λl=>l.all λa=>dt aC nt a f
theorem Sl {rows:List (List Atom)} {A:DV} (hA:cQ Atom.cells rows A):
 Pure aK 163 [.d A,.fn 205 [.bw [L,I,T],.bw (cc f)]] (.d (.bool (rows.any λl=>l.all λa=>dt aC nt a f))):=by
 obtain⟨ds,h1,h2⟩:=hA;have hl:=h2.length;have h3:Pure aK 231 [.d A,.fn 205 [.bw [L,I,T],.bw (cc f)]] _:=lv func231 JE ntmps231 rfl results231
  (Bx h1) rfl rfl (λi hi=>by simp[EB,hi,cd]) (p:=λi=>(rows[i]?.map λl=>l.all λa=>dt aC nt a f).getD false)
  (λi hi=>by
   have gK:i<rows.length:=by omega
   obtain⟨d,h4,h5⟩:=h2.get i _ (alw gK);simp only[EB,h4,alw gK,alX,al6];exact K9 hL hT hf h5)
 have h4:=iC func163 JA ntmps163 rfl results163 rfl h3;rw[hl,qV]at h4;exact h4
theorem N9 {rows:List (List Atom)} {A:DV} (hA:cQ Atom.cells rows A) (kind:Int):
 Pure aK 140 [.agg [.d L,.d I,.d T],.agg [au kind,.d A],FN f] (.d (.bool (tg aC nt kind rows f))):=by
 refine ay func140 U5 ntmps140 results140 rfl ?_;unfold acv;unfold FN;refine J λK hK=>?_;simp only[go_sem];apply hK;refine aw (aB.jl (S':=⟨[(3,.bw [L,I,T]),(4,.bw [.int .i64 kind,A]),(5,.bw (cc f))],[],0⟩) [] [(0,[L,I,T]),(1,[.int .i64 kind,A]),(2,cc f)] ⟨?_,trivial,rfl,rfl,?_⟩) ?_;·simp[fb,ah,AV.cv,bI]
 ·simp[bG,ai,db,AV.cv,cD]
 refine J λK hK=>?_;simp only[go_sem];apply hK;by_cases hk:kind=0
 ·refine J λK hK=>?_;simp only[go_sem,hk,decide_true,alz];apply hK;apply an;simp only[go_sem];refine aD _ rfl rfl ⟨?_,rfl⟩;simp only[ah,↓reduceIte,tg,hk,decide_true,Bool.true_or]
 ·refine J λK hK=>?_;simp only[go_sem,hk,decide_false,alz];refine aI (Sl hL hT hf hA) rfl rfl ?_;simp only[go_sem];apply hK;apply an;simp only[go_sem];refine aD _ rfl rfl ⟨?_,rfl⟩;simp only[ah,↓reduceIte,tg,hk,decide_false,Bool.false_or]
end
theorem uU (b:Bool):Pure aK 90 [.d (.bool b)] (au (if b=true then 1 else 2)):=by
 refine ay func90 aat ntmps90 results90 rfl ?_;unfold ahJ;refine aa λK hK=>ag rfl ?_;simp-implicitDefEqProofs only[go_sem,↓reduceIte];refine hK _ ?_;clear hK;refine aa λK hK=>?_;refine aa λK hK=>ag rfl ?_;simp-implicitDefEqProofs only[go_sem,↓reduceIte];refine hK _ ?_;clear hK;cases b with
 |true=>
  refine cm true (by simp[ev,ah]) (λ_=>?_) (λh=>nomatch h);refine aa λK hK=>ag rfl ?_;simp-implicitDefEqProofs only[go_sem,↓reduceIte];refine hK _ ?_;clear hK;refine an ?_;simp only[go_sem];refine aD _ rfl rfl ⟨?_,rfl⟩;simp[ah]
 |false=>
  refine cm false (by simp[ev,ah]) (λh=>nomatch h) (λ_=>?_);refine ar ?_;refine hK _ ?_;clear hK;refine aa λK hK=>ag rfl ?_;simp-implicitDefEqProofs only[go_sem,↓reduceIte];refine hK _ ?_;clear hK;refine an ?_;simp only[go_sem];refine aD _ rfl rfl ⟨?_,rfl⟩;simp[ah]
abbrev zu:=List {f:List Int//f.length=20}
def mc (f:{f:List Int//f.length=20}):List DV:=cc f.1
section
variable{L I T:DV} {aC:List UInt8} {nt:Nat} (hL:mP L aC) (hT:jV (.d T)=some nt) {rows:List (List Atom)} {A:DV} (hA:cQ Atom.cells rows A) (kind:Int)
include hL hT hA
def kH (aC:List UInt8) (nt:Nat) (kind:Int) (rows:List (List Atom)) (F:zu):Nat:=F.countP λf=>tg aC nt kind rows f.1
theorem La {F:zu} {X:DV} (hX:dU mc F X):
 Pure aK 89 [.agg [.d L,.d I,.d T],.agg [au kind,.d A],.d X] (.cC [au (kH aC nt kind rows F),au (F.length-kH aC nt kind rows F:Nat)]):=by
 have iw:=tQ (k:=20) (λf=>by simp[mc,cc,f.2]) (by omega) hX;have fk:=iw.j6;refine ay func89 aas ntmps89 results89 rfl ?_;unfold ahI;refine aa λK hK=>ag rfl ?_;simp-implicitDefEqProofs only[go_sem,↓reduceIte];refine hK _ ?_;clear hK;refine aw (aB.jl (S':=⟨[(2,.d X),(3,.bw [L,I,T]),(4,.bw [.int .i64 kind,A]),(6,au (0:Nat)),(7,au (0:Nat))],[],0⟩) [] [(0,[L,I,T]),(1,[.int .i64 kind,A])] ⟨?_,trivial,rfl,rfl,?_⟩) ?_;·simp[fb,ah,AV.cv,bI]
 ·simp[bG,ai,db,AV.cv]
 refine aa λK hK=>?_;refine aa λK hK=>ag rfl ?_;simp-implicitDefEqProofs only[go_sem,↓reduceIte,iw.len];refine hK _ ?_;clear hK;refine ax ?_;refine aw (S':=⟨[(3,.bw [L,I,T]),(4,.bw [.int .i64 kind,A]),(6,au (kH aC nt kind rows (F.take 0))),(7,au (0-kH aC nt kind rows (F.take 0):Nat)),(10,.d X),(11,au F.length),(12,au (0:Nat))],[],0⟩) (aB.cj [] ⟨?_,trivial,rfl,rfl⟩) ?_;·simp[aV,ah,AV.aA,kH]
 refine sF (λS=>∃i,i<=F.length/\S=⟨[(3,.bw [L,I,T]),(4,.bw [.int .i64 kind,A]),(6,au (kH aC nt kind rows (F.take i))),(7,au (i-kH aC nt kind rows (F.take i):Nat)),(10,.d X),(11,au F.length),(12,au (i:Nat))],[],0⟩)
  (λS=>match ah S.t 12 with
   |.d (.int _ i)=>F.length-i.toNat
   |_=>0) ⟨0,alZ _,rfl⟩ ?_
 rintro S ⟨i,hi,rfl⟩;refine aa λK hK=>ag rfl ?_;simp-implicitDefEqProofs only[go_sem,↓reduceIte];refine hK _ ?_;clear hK;by_cases bn:i<F.length
 ·have aQ:(i:Int)<F.length:=by omega
  obtain⟨cs,gL,cq,qU⟩:=iw.get i bn;have Mh:=alw bn;simp only[y1,Mh]at qU;generalize hf0:F[i]=f0 at Mh qU;have hy:kH aC nt kind rows (F.take (i+1))=kH aC nt kind rows (F.take i)+if tg aC nt kind rows f0.1=true then 1 else 0:=by
   simp only[kH];rw[List.take_add_one,Mh,List.countP_append];simp[List.countP_cons]
  have hyl:kH aC nt kind rows (F.take i)<=i:=by
   have:=List.countP_le_length (p:=λf:{f:List Int//f.length=20}=>tg aC nt kind rows f.1) (l:=F.take i);simp only[kH];simp at this;omega
  have lA:((mc f0).map AV.d).length=20:=by simp[mc,cc,f0.2]
  have hw:∀q:Nat,q<=i->alv.wrap ((q:Int)+1)=((q+1:Nat):Int):=λq hq=>by rw[wrap_i64 (by omega) (by omega)];rfl
  refine aa λK1 aT=>?_;refine cm true (by simp[ev,ah,aQ]) (λ_=>?_) (λh=>nomatch h);refine ar ?_;refine aT _ ?_;clear aT;refine aa λK1 aT=>?_;refine ax ?_;have Gu:∀zs:List AV,zs.length=20->putAt zs 0 ((mc f0).map .d)=(mc f0).map .d:=λzs hz=>iP (by rw[lA,hz]);have sw:=eR (mc f0);refine aa λK hK=>ag rfl ?_;simp-implicitDefEqProofs only[go_sem,↓reduceIte,gL,aQ,alj,cq,alm,qU,lA,sw,alu,alB,ali,Gu];refine hK _ ?_;clear hK;have pq:((mc f0).map AV.d).take 20=(mc f0).map AV.d:=alx (by omega);refine aa λK hK=>ag rfl ?_;simp-implicitDefEqProofs only[go_sem,↓reduceIte,alz,alu,alB,ali,List.take,lA,pq]
  refine aI (N9 hL hT f0.2 hA kind) (by simp[bZ,cd,FN]) rfl ?_;simp-implicitDefEqProofs only[go_sem,↓reduceIte];refine hK _ ?_;clear hK;have back:∀(t:Fr) (m:Mem) (n:Nat),ah t 3=.bw [L,I,T]->ah t 4=.bw [.int .i64 kind,A]->ah t 6=au (kH aC nt kind rows (F.take (i+1)))->ah t 7=au (i+1-kH aC nt kind rows (F.take (i+1)):Nat)->
   ah t 10=.d (.sl F.length cs)->ah t 11=au F.length->ah t 12=au i->K1 ⟨t,m,n⟩:=by
   intro t m n h3 h4 h6 h7 ng pO qD;refine aT _ ?_;clear aT;refine ag (by simp[aE]) ?_;simp-implicitDefEqProofs only[go_sem,↓reduceIte,qD];refine⟨⟨[(3,.bw [L,I,T]),(4,.bw [.int .i64 kind,A]),(6,au (kH aC nt kind rows (F.take (i+1)))),(7,au (i+1-kH aC nt kind rows (F.take (i+1)):Nat)),(10,.d X),(11,au F.length),(12,au (i+1:Nat))],[],0⟩,aB.cj [] ⟨?_,trivial,rfl,rfl⟩,⟨i+1,bn,rfl⟩,?_⟩;·simp[aV,ah,AV.aA,h3,h4,h6,h7,ng,pO,hw i (ali _),gL]
   ·simp only[ah,↓reduceIte,Nat.reduceEqDiff,alj];omega
  cases hh:tg aC nt kind rows f0.1 with
  |true=>
   refine cm true (by simp[ev,ah,hh]) (λ_=>?_) (λh=>nomatch h);refine ag rfl ?_;simp-implicitDefEqProofs only[go_sem,↓reduceIte];refine back _ _ _ rfl rfl ?_ ?_ rfl rfl rfl;·simp only[ah,↓reduceIte,Nat.reduceEqDiff,hw _ hyl,hy,hh]
   ·have Tu:kH aC nt kind rows (F.take (i+1))=kH aC nt kind rows (F.take i)+1:=by rw[hy,hh];rfl
    have he:i-kH aC nt kind rows (F.take i)=i+1-(kH aC nt kind rows (F.take i)+1):=by omega
    simp only[ah,↓reduceIte,Nat.reduceEqDiff,Tu,he]
  |false=>
   refine cm false (by simp[ev,ah,hh]) (λh=>nomatch h) (λ_=>?_);refine ag rfl ?_;simp-implicitDefEqProofs only[go_sem,↓reduceIte];refine back _ _ _ rfl rfl ?_ ?_ rfl rfl rfl;·simp[ah,hy,hh]
   ·have:=hw (i-kH aC nt kind rows (F.take i)) (by omega);have Tu:kH aC nt kind rows (F.take (i+1))=kH aC nt kind rows (F.take i):=by rw[hy,hh];rfl
    have he:i-kH aC nt kind rows (F.take i)+1=i+1-kH aC nt kind rows (F.take i):=by omega
    simp only[ah,↓reduceIte,Nat.reduceEqDiff,Tu,this,he]
 ·have aQ:¬(i:Int)<F.length:=by omega
  refine aa λK1 aT=>?_;refine cm false (by simp[ev,ah,aQ]) (λh=>nomatch h) (λ_=>?_);refine aW ?_;simp-implicitDefEqProofs only[go_sem,↓reduceIte];refine hK _ ?_;clear hK;have aiC:F.take i=F:=alx (by omega);refine aa λK hK=>ag rfl ?_;simp-implicitDefEqProofs only[go_sem,↓reduceIte];refine hK _ ?_;clear hK;refine an ?_;simp only[go_sem];refine aD _ rfl rfl ⟨?_,rfl⟩;have:i=F.length:=by omega
  simp[ah,aiC,this]
def qt (aC:List UInt8) (nt:Nat) (kind:Int) (rows:List (List Atom)) (F:zu):Int:=
 if kind=1 then if 0<kH aC nt kind rows F then 1 else 2 else if kind=2 then if F.length-kH aC nt kind rows F=0 then 1 else 2 else 0
theorem HZ {F:zu} {X:DV} (hX:dU mc F X):
 Pure aK 37 [.agg [.d L,.d I,.d T],.agg [au kind,.d A],.d X] (au (qt aC nt kind rows F)):=by
 refine ay func37 aao ntmps37 results37 rfl ?_;unfold ahE;refine aa λK hK=>ag rfl ?_;simp-implicitDefEqProofs only[go_sem,↓reduceIte];refine hK _ ?_;clear hK;refine aa λK hK=>ag rfl ?_;simp-implicitDefEqProofs only[go_sem,↓reduceIte,alz,alu,alB,ali,List.take];refine aI (La hL hT hA kind hX) rfl rfl ?_;simp-implicitDefEqProofs only[go_sem,↓reduceIte];refine hK _ ?_;clear hK;refine aa λK hK=>?_;refine aa λK hK=>ag rfl ?_;simp-implicitDefEqProofs only[go_sem,↓reduceIte];refine hK _ ?_;clear hK;refine ax ?_;refine aa λK hK=>ag rfl ?_;simp-implicitDefEqProofs only[go_sem,↓reduceIte]
 refine hK _ ?_;clear hK;by_cases h1:kind=1
 ·refine cm true (by simp[ev,ah,h1]) (λ_=>?_) (λh=>nomatch h);refine aa λK hK=>ag rfl ?_;simp-implicitDefEqProofs only[go_sem,↓reduceIte];refine aI (uU _) rfl rfl ?_;simp-implicitDefEqProofs only[go_sem,↓reduceIte];refine hK _ ?_;clear hK;refine an ?_;simp only[go_sem];refine aD _ rfl rfl ⟨?_,rfl⟩;simp[ah,qt,h1]
 ·refine cm false (by simp[ev,ah,h1]) (λh=>nomatch h) (λ_=>?_);refine aa λK hK=>ag rfl ?_;simp-implicitDefEqProofs only[go_sem,↓reduceIte];refine hK _ ?_;clear hK;by_cases h2:kind=2
  ·refine cm true (by simp[ev,ah,h2]) (λ_=>?_) (λh=>nomatch h);refine aa λK hK=>ag rfl ?_;simp-implicitDefEqProofs only[go_sem,↓reduceIte];refine aI (uU _) rfl rfl ?_;simp-implicitDefEqProofs only[go_sem,↓reduceIte];refine hK _ ?_;clear hK;refine an ?_;simp only[go_sem];refine aD _ rfl rfl ⟨?_,rfl⟩;have hz:((F.length-kH aC nt kind rows F:Nat):Int)=0↔F.length-kH aC nt kind rows F=0:=by omega
   by_cases h3:F.length-kH aC nt kind rows F=0<;>simp[ah,qt,h2,hz,h3]
  ·refine cm false (by simp[ev,ah,h2]) (λh=>nomatch h) (λ_=>?_);refine ar ?_;refine hK _ ?_;clear hK;refine aa λK hK=>ag rfl ?_;simp-implicitDefEqProofs only[go_sem,↓reduceIte];refine hK _ ?_;clear hK;refine an ?_;simp only[go_sem];refine aD _ rfl rfl ⟨?_,rfl⟩;simp[ah,qt,h1,h2]
end
theorem Oa {n:Nat} {ds:List DV} (hn:0<n):bB aK 87 [.sl 0 20 0 n] [(0,ds.map .d)] λr m'=>r=.sl 0 20 0 n/\m'=[(0,ds.map .d)]:=by
 have ZK:¬n=0:=by omega
 refine ay func87 Px ntmps87 results87 rfl ?_;unfold afn;refine J λK hK=>?_;simp only[go_sem];refine hK _ (J λK hK=>?_);simp only[go_sem,uo,jV,alm,alj,ZK];apply hK;apply an;exact⟨.sl 0 20 0 n,by simp[bj,aP,bt,ah,ai,ak,aG,bQ],[(0,0)],[(0,ds.map .d)],rfl,rfl,by simp[aL,aF,ai,ak,aG,aj,AV.aA,af,ae,-alh,bQ],by simp[AV.aA,aj,af,bQ]⟩
theorem Lb {ds:List DV}:bB aK 87 [.sl 0 20 0 0] [(0,ds.map .d)] λr m'=>r=.sl 1 20 0 0/\m'=[(1,[])]:=by
 refine ay func87 Px ntmps87 results87 rfl ?_;unfold afn;refine J λK hK=>?_;simp only[go_sem];refine hK _ (J λK hK=>?_);simp only[go_sem,uo,jV,alm,alj,aE,alP,alQ,alN];apply hK;apply an;exact⟨.sl 1 20 0 0,by simp[bj,aP,bt,ah,ai,ak,aG,bQ],[(1,1)],[(1,[])],rfl,rfl,by simp[aL,aF,ai,ak,aG,aj,AV.aA,af,ae,-alh,bQ],by simp[AV.aA,aj,af,bQ]⟩
theorem BO {l:List (List Int)} (lA:∀f∈l,f.length=20) (hb:l.length<=9223372036854775807):∃d:zu,d.map al4=l/\dU mc d (.sl l.length (cS l)):=by
 have hm:(l.pmap (λf h=>(⟨f,h⟩:{f:List Int//f.length=20})) lA).map al4=l:=by simp[List.map_pmap]
 refine⟨l.pmap (λf h=>⟨f,h⟩) lA,hm,by simpa using hb,.inr ?_⟩;have:∀d:zu,d.flatMap mc=cS (d.map al4):=by
  intro d;induction d with
  |nil=>rfl
  |cons a d ih=>simp[cS,mc,ih,List.flatMap_map]
 rw[this,hm];simp
theorem Ob {d:zu}:d.flatMap mc=cS (d.map al4):=by
 induction d with
 |nil=>rfl
 |cons a d ih=>simp[cS,mc,ih,List.flatMap_map]
theorem H0 {ET:List (List Int)->List (List Int)} (akx:∀l,(∀f∈l,f.length=20)->∀f∈ET l,f.length=20) (iw:∀l,(ET l).length=l.length)
 (ks:∀{l:List (List Int)},(∀f∈l,f.length=20)->l.length<4611686018427387904->bB aK 85 [.sl 0 20 0 l.length,.fn 86 []] [(0,cT l)] λr m'=>r=.cC []/\m'=[(0,cT (ET l))])
 {d:zu} {X:DV} (hX:dU mc d X) (hb:d.length<=100000000000):
 Pure aK 36 [.d X] (.d (.sl (cE (ET (d.map al4))).length (cS (cE (ET (d.map al4)))))):=by
 have kc:=lz (P:=aK) (dR:=20) (bytes:=160) (el:=93) func84 aaW ntmps84 rfl results84 (hX.slC (w:=20) (λf=>by simp[mc,cc,f.2])) (by omega);rw[Ob,show d.length=(d.map al4).length by simp]at kc;have lA:∀f∈d.map al4,f.length=20:=by
  intro f hf;obtain⟨x,_,rfl⟩:=List.mem_map.1 hf;exact x.2
 have hlen:(d.map al4).length<=100000000000:=by simpa using hb
 generalize d.map al4=l at*;have k2:=ks lA (by omega);have hs:=akx l lA;have hl:=iw l;have k3:=EV hs (by omega);rw[hl]at k3;have afR:∀{q:List (List Int)},(∀f∈q,f.length=20)->(cS (uA q)).take ((cE q).length*20)=cS (cE q):=by
  intro q hq;have Bg:∀f∈cE q,f.length=20:=λf hf=>hq f (xH hf);have e1:(cT (uA q)).take ((cE q).length*20)=cT (cE q):=by
   unfold uA;rw[uf,List.take_append_of_le_length (by rw[eV Bg];exact ali _),alx (by rw[eV Bg];exact ali _)]
  unfold cT at e1;rw[<-List.map_take]at e1;exact(List.map_inj_right (λa b h=>by cases h;rfl)).1 e1
 have hp:=afR hs;by_cases h0:(cE (ET l)).length=0
 ·have hz:cE (ET l)=[]:=amb h0;rw[hz]at k3 hp⊢;have k4:=Lb (ds:=cS (uA (ET l)));simp only[alB,Nat.zero_mul]at k3 hp⊢;unfold cT at*;refine ay func36 Pu ntmps36 results36 rfl ?_;unfold afl;refine J λK hK=>?_;simp only[go_sem];refine hK _ (J λK hK=>?_);simp only[go_sem];refine bA [] [.d X] [] (nb:=1000) (kc) (by simp[bX]) (by first|(simp[aj,AV.aA,af];done)|simp[aj,AV.aA,af,aE,alP,alQ,alN]) (by first|(simp[bZ,cd,af];done)|simp[bZ,cd,af,aE,alP,alQ,alN]) (by simp[handed,af,ai,ak,aG,aj,AV.aA,bZ,cd,aE,alP,alQ,alN]) rfl ?_;rintro r0 m' ⟨rfl,rfl⟩
  simp only[go_sem,bx,bR,bU,ai,ak,aG,cf,af,aj,bQ,AV.aA,alH,alD,alF,alK,alM,aly,aE,alP,alQ,alN];refine hK _ (J λK hK=>?_);simp only[go_sem];refine bA [(0,0)] [.sl 0 20 0 l.length,.fn 86 []] [(0,(cS l).map .d)] (nb:=1000) (k2) (by simp[bX]) (by first|(simp[aj,AV.aA,af];done)|simp[aj,AV.aA,af]) (by first|(simp[bZ,cd,af];done)|simp[bZ,cd,af]) (by simp[handed,af,ai,ak,aG,aj,AV.aA,bZ,cd]) rfl ?_;rintro r0 m' ⟨rfl,rfl⟩;simp only[go_sem,bx,bR,bU,ai,ak,aG,cf,af,aj,bQ,AV.aA,alH,alD,alF,alK,alM,aly];refine hK _ (J λK hK=>?_);simp only[go_sem]
  refine bA [(0,0)] [.sl 0 20 0 l.length] [(0,(cS (ET l)).map .d)] (nb:=1000) (k3) (by simp[bX]) (by first|(simp[aj,AV.aA,af];done)|simp[aj,AV.aA,af]) (by first|(simp[bZ,cd,af];done)|simp[bZ,cd,af]) (by simp[handed,af,ai,ak,aG,aj,AV.aA,bZ,cd]) rfl ?_;rintro r0 m' ⟨rfl,rfl⟩;simp only[go_sem,bx,bR,bU,ai,ak,aG,cf,af,aj,bQ,AV.aA,alH,alD,alF,alK,alM,aly]
  refine bA [(0,0)] [.sl 0 20 0 0] [(0,(cS (uA (ET l))).map .d)] (nb:=1000) (k4) (by simp[bX]) (by first|(simp[aj,AV.aA,af];done)|simp[aj,AV.aA,af,aE,alP,alQ,alN]) (by first|(simp[bZ,cd,af];done)|simp[bZ,cd,af,aE,alP,alQ,alN]) (by simp[handed,af,ai,ak,aG,aj,AV.aA,bZ,cd,aE,alP,alQ,alN]) rfl ?_;rintro r0 m' ⟨rfl,rfl⟩;simp only[go_sem,bx,bR,bU,ai,ak,aG,cf,af,aj,bQ,AV.aA,alH,alD,alF,alK,alM,aly,aE,alP,alQ,alN];apply hK
  refine aw (aB.jl (S':=⟨[(2,.d (.sl 0 []))],[],0⟩) [] [(4,[])] ⟨by simp[fb,ah,AV.cv,db,bI,af],by simp[fx,aF,bI,ai,ak,aG,db,AV.cv,af,cD,bh,-alh],rfl,rfl,by simp[bG,bI,ai,ak,aG,db,AV.cv,cD,bh,-alh]⟩) ?_;apply an;exact⟨.d (.sl 0 []),by simp[bj,aP,bt,ah,ai,ak,aG,cS],[],[],rfl,rfl,by simp[aL,aF,ai,ak,aG,aj,AV.aA,af,ae,-alh,cS],by simp[AV.aA,aj,af,cS]⟩
 ·have k4:=Oa (n:=(cE (ET l)).length) (ds:=cS (uA (ET l))) (by omega);unfold cT at*;refine ay func36 Pu ntmps36 results36 rfl ?_;unfold afl;refine J λK hK=>?_;simp only[go_sem];refine hK _ (J λK hK=>?_);simp only[go_sem];refine bA [] [.d X] [] (nb:=1000) (kc) (by simp[bX]) (by first|(simp[aj,AV.aA,af];done)|simp[aj,AV.aA,af,aE,alP,alQ,alN]) (by first|(simp[bZ,cd,af];done)|simp[bZ,cd,af,aE,alP,alQ,alN]) (by simp[handed,af,ai,ak,aG,aj,AV.aA,bZ,cd,aE,alP,alQ,alN]) rfl ?_;rintro r0 m' ⟨rfl,rfl⟩;simp only[go_sem,bx,bR,bU,ai,ak,aG,cf,af,aj,bQ,AV.aA,alH,alD,alF,alK,alM,aly,aE,alP,alQ,alN]
  refine hK _ (J λK hK=>?_);simp only[go_sem];refine bA [(0,0)] [.sl 0 20 0 l.length,.fn 86 []] [(0,(cS l).map .d)] (nb:=1000) (k2) (by simp[bX]) (by first|(simp[aj,AV.aA,af];done)|simp[aj,AV.aA,af]) (by first|(simp[bZ,cd,af];done)|simp[bZ,cd,af]) (by simp[handed,af,ai,ak,aG,aj,AV.aA,bZ,cd]) rfl ?_;rintro r0 m' ⟨rfl,rfl⟩;simp only[go_sem,bx,bR,bU,ai,ak,aG,cf,af,aj,bQ,AV.aA,alH,alD,alF,alK,alM,aly];refine hK _ (J λK hK=>?_);simp only[go_sem]
  refine bA [(0,0)] [.sl 0 20 0 l.length] [(0,(cS (ET l)).map .d)] (nb:=1000) (k3) (by simp[bX]) (by first|(simp[aj,AV.aA,af];done)|simp[aj,AV.aA,af]) (by first|(simp[bZ,cd,af];done)|simp[bZ,cd,af]) (by simp[handed,af,ai,ak,aG,aj,AV.aA,bZ,cd]) rfl ?_;rintro r0 m' ⟨rfl,rfl⟩;simp only[go_sem,bx,bR,bU,ai,ak,aG,cf,af,aj,bQ,AV.aA,alH,alD,alF,alK,alM,aly]
  refine bA [(0,0)] [.sl 0 20 0 (cE (ET l)).length] [(0,(cS (uA (ET l))).map .d)] (nb:=1000) (k4) (by simp[bX]) (by first|(simp[aj,AV.aA,af];done)|simp[aj,AV.aA,af]) (by first|(simp[bZ,cd,af];done)|simp[bZ,cd,af]) (by simp[handed,af,ai,ak,aG,aj,AV.aA,bZ,cd]) rfl ?_;rintro r0 m' ⟨rfl,rfl⟩;simp only[go_sem,bx,bR,bU,ai,ak,aG,cf,af,aj,bQ,AV.aA,alH,alD,alF,alK,alM,aly];apply hK
  refine aw (aB.jl (S':=⟨[(2,.d (.sl (cE (ET l)).length (cS (cE (ET l)))))],[],0⟩) [] [(0,cS (uA (ET l)))] ⟨by simp[fb,ah,AV.cv,db,bI,af,hp],by simp[fx,aF,bI,ai,ak,aG,db,AV.cv,af,cD,bh,-alh,hp],rfl,rfl,by simp[bG,bI,ai,ak,aG,db,AV.cv,cD,bh,-alh,hp]⟩) ?_;apply an;exact⟨.d (.sl (cE (ET l)).length (cS (cE (ET l)))),by simp[bj,aP,bt,ah,ai,ak,aG],[],[],rfl,rfl,by simp[aL,aF,ai,ak,aG,aj,AV.aA,af,ae,-alh],by simp[AV.aA,aj,af]⟩
def l4 (a b:Int):Int:=if a<b then-1 else if b<a then 1 else 0
def cJ (f g:List Int):Nat->Nat->Int
 |_,0=>0
 |j,n+1=>if l4 (f.getD j 0) (g.getD j 0)=0 then cJ f g (j+1) n else l4 (f.getD j 0) (g.getD j 0)
theorem AN (f g:List Int):∀(a j b:Nat),cJ f g j (a+b)=if cJ f g j a=0 then cJ f g (j+a) b else cJ f g j a
 |0,j,b=>by simp[cJ]
 |a+1,j,b=>by
  rw[show a+1+b=(a+b)+1 by omega,cJ,cJ];by_cases h:l4 (f.getD j 0) (g.getD j 0)=0;·rw[if_pos h,if_pos h,AN f g a (j+1) b,show j+1+a=j+(a+1) by omega]
  ·rw[if_neg h,if_neg h,if_neg h]
def uB (f g:List Int):Int:=cJ f g 0 20
theorem Dx (x:Int):Pure aK 265 [au x] (.d (.bool false)):=by
 refine ay func265 Xz ntmps265 results265 rfl ?_;unfold aen;refine J λK hK=>?_;simp only[go_sem];refine hK _ (J λK hK=>?_);simp only[go_sem,decide_true,alT];apply hK;apply an;exact⟨.d (.bool false),by simp[bj,aP,bt,ah,ai,ak,aG],[],[],rfl,rfl,by simp[aL,aF,ai,ak,aG,aj,AV.aA,af,ae,-alh],by simp[AV.aA,aj,af]⟩
theorem Sm (a b:Int):Pure aK 204 [au a,au b] (au (l4 a b)):=by
 have ka:=Dx a;have kb:=Dx b;unfold l4;refine ay func204 W9 ntmps204 results204 rfl ?_;unfold adX;refine J λK hK=>?_;simp only[go_sem];refine hK _ (J λK hK=>?_);simp only[go_sem];refine a8 (ka) ?_;simp only[go_sem];refine hK _ (J λK hK=>?_);simp only[go_sem];refine a8 (kb) ?_;simp only[go_sem];apply hK;refine aa λK1 aT=>?_;refine J λK hK=>?_;simp only[go_sem];apply hK;refine aH ?_;apply ar;apply aT;refine aa λK2 eX=>?_;refine J λK hK=>?_;simp only[go_sem];apply hK;refine aH ?_;apply ar;apply eX;refine aa λK3 wc=>?_;by_cases h1:a<b
 ·refine J λK hK=>?_;simp only[go_sem,h1,decide_true];apply hK;refine aM ?_;refine J λK hK=>?_;simp only[go_sem];apply hK;apply an;exact⟨au (-1),by simp[bj,aP,bt,ah,ai,ak,aG,h1],[],[],rfl,rfl,by simp[aL,aF,ai,ak,aG,aj,AV.aA,af,ae,-alh,h1],by simp[AV.aA,aj,af,h1]⟩
 ·refine J λK hK=>?_;simp only[go_sem,h1,decide_false];apply hK;refine aH ?_;apply ar;apply wc;refine aa λK4 P5=>?_;by_cases h2:b<a
  ·refine J λK hK=>?_;simp only[go_sem,h2,decide_true];apply hK;refine aM ?_;refine J λK hK=>?_;simp only[go_sem];apply hK;apply an;exact⟨au 1,by simp[bj,aP,bt,ah,ai,ak,aG,h1,h2],[],[],rfl,rfl,by simp[aL,aF,ai,ak,aG,aj,AV.aA,af,ae,-alh,h1,h2],by simp[AV.aA,aj,af,h1,h2]⟩
  ·refine J λK hK=>?_;simp only[go_sem,h2,decide_false];apply hK;refine aH ?_;apply ar;refine P5 _ (J λK hK=>?_);simp only[go_sem];apply hK;apply an;exact⟨au 0,by simp[bj,aP,bt,ah,ai,ak,aG,h1,h2],[],[],rfl,rfl,by simp[aL,aF,ai,ak,aG,aj,AV.aA,af,ae,-alh,h1,h2],by simp[AV.aA,aj,af,h1,h2]⟩
theorem Yq {f:List Int} {j:Nat} (hj:j<f.length):aN none (((cc f).map AV.d).drop j)=some (au (f.getD j 0)):=by
 unfold cc;rw[<-List.map_drop,<-List.map_drop,List.drop_eq_getElem_cons hj,alC,alw hj];rfl
def cpC (f g:List Int) (o i:Nat):St:=⟨[(0,.sl 0 1 o 4),(1,.sl 1 1 o 4),(9,.sl 0 1 o 4),(10,au 4),(11,au i)],[(0,(cc f).map .d),(1,(cc g).map .d)],2⟩
theorem Dy {f g:List Int} (hf:f.length=20) (hg:g.length=20) {o:Nat} (ho:o<=16):
 bB aK 138 [.sl 0 1 o 4,.sl 1 1 o 4] [(0,(cc f).map .d),(1,(cc g).map .d)] λr m'=>r=au (cJ f g o 4)/\m'=[(0,(cc f).map .d),(1,(cc g).map .d)]:=by
 generalize hR:cJ f g o 4=R;refine ay func138 WE ntmps138 results138 rfl ?_;unfold adA;refine J λK hK=>?_;simp only[go_sem];apply hK;refine aa λKE fV=>?_;refine J λK hK=>?_;simp only[go_sem];apply hK;apply ax;refine aw (S':=cpC f g o 0) (aB.cj [(0,0),(1,1)] ⟨by simp[aV,ah,AV.aA,aj,af,cpC],by simp[aL,aF,ai,ak,aj,AV.aA,af,ae,-alh,cpC],rfl,rfl⟩) ?_;refine ef (ι:={i:Nat//i<=4/\cJ f g (o+i) (4-i)=R}) (λi=>cpC f g o i.1) (λi=>4-i.1) ⟨0,by omega,hR⟩ ?_;rintro⟨i,hi,hr⟩;dsimp only;have r5:(cc f).length=20:=by simp[cc,hf]
 have hgl:(cc g).length=20:=by simp[cc,hg]
 unfold PG;by_cases bn:i<4
 ·have aQ:(i:Int)<4:=by omega
  have hge:¬(4:Int)<=i:=by omega
  have hw:=cY (i:=i) (by omega);have l1:=Yq (f:=f) (j:=o+i) (by omega);have l2:=Yq (f:=g) (j:=o+i) (by omega);rw[show 4-i=(4-(i+1))+1 by omega,cJ]at hr;generalize f.getD (o+i) 0=x at l1 hr;generalize g.getD (o+i) 0=y at l2 hr;have kc:=Sm x y;generalize l4 x y=c at kc hr;unfold cpC;refine J λK hK=>?_;simp only[go_sem,aQ,decide_true];apply hK;refine aa λK1 aT=>?_;refine aM ?_;apply ar;apply aT;refine aa λK1 aT=>?_;apply ax;refine J λK hK=>?_;simp only[go_sem,alm,aQ,bn,alj,alV,l1];apply hK;refine aa λK2 eX=>?_;refine J λK hK=>?_;simp only[go_sem,hge,decide_false];apply hK;refine aH ?_;apply ar
  refine eX _ (J λK hK=>?_);simp only[go_sem,alm,aQ,bn,alj,alV,l2];refine hK _ (J λK hK=>?_);simp only[go_sem];refine a8 (kc) ?_;simp only[go_sem];apply hK;by_cases hc:c=0
  ·rw[if_pos hc]at hr;refine J λK hK=>?_;simp only[go_sem,hc,decide_true,alT];apply hK;refine aH ?_;apply ar;simp only[go_sem];apply aT;refine ag rfl ?_;simp only[go_sem,hw];refine⟨⟨i+1,bn,hr⟩,by simp only;omega,?_⟩;exact aB.cj [(0,0),(1,1)] ⟨by simp[aV,ah,AV.aA,aj,af,cpC],by simp[aL,aF,ai,ak,aG,aj,AV.aA,af,ae,-alh,cpC],rfl,rfl⟩
  ·rw[if_neg hc]at hr;subst hr;refine J λK hK=>?_;simp only[go_sem,hc,decide_false,al7];apply hK;refine aM ?_;refine J λK hK=>?_;simp only[go_sem];apply hK;apply an;exact⟨au c,by simp[bj,aP,bt,ah,ai,ak,aG],[(0,0),(1,1)],[(0,(cc f).map .d),(1,(cc g).map .d)],rfl,rfl,by simp[aL,aF,ai,ak,aG,aj,AV.aA,af,ae,-alh],by simp[AV.aA,aj,af]⟩
 ·have du:i=4:=by omega
  subst du;have Cl:R=0:=hr.symm;subst Cl;unfold cpC;refine J λK hK=>?_;simp only[go_sem,show¬((4:Nat):Int)<4 by decide,decide_false];apply hK;refine aa λK1 aT=>?_;refine aH ?_;apply aW;show KE _;apply fV;refine aa λK2 eX=>?_;refine J λK hK=>?_;simp only[go_sem,decide_false];apply hK;refine aH ?_;apply ar;refine eX _ (J λK hK=>?_);simp only[go_sem];apply hK;apply an;exact⟨au 0,by simp[bj,aP,bt,ah,ai,ak,aG],[(0,0),(1,1)],[(0,(cc f).map .d),(1,(cc g).map .d)],rfl,rfl,by simp[aL,aF,ai,ak,aG,aj,AV.aA,af,ae,-alh],by simp[AV.aA,aj,af]⟩
def orS (c:Int) (i:Nat):St:=⟨[(3,au 0),(6,.sl 0 1 0 2),(7,au 2),(8,au i)],[(0,[au c,au 0])],1⟩
theorem Sn (c:Int):bB aK 139 [.sl 0 1 0 2] [(0,[au c,au 0])] λr m'=>r=au c/\m'=[(0,[au c,au 0])]:=by
 refine ay func139 WG ntmps139 results139 rfl ?_;unfold adB;refine J λK hK=>?_;simp only[go_sem];refine hK _ (J λK hK=>?_);simp only[go_sem];apply hK;refine aa λKE fV=>?_;refine J λK hK=>?_;simp only[go_sem];apply hK;apply ax;refine aw (S':=orS c 0) (aB.cj [(0,0)] ⟨by simp[aV,ah,AV.aA,aj,af,orS],by simp[aL,aF,ai,ak,aj,AV.aA,af,ae,-alh,orS],rfl,rfl⟩) ?_;refine ef (ι:={i:Nat//i<=2/\(i≠0->c=0)}) (λi=>orS c i.1) (λi=>2-i.1) ⟨0,by omega,λh=>absurd rfl h⟩ ?_;rintro⟨i,hi,hc⟩;dsimp only;unfold PH;by_cases bn:i<2
 ·have aQ:(i:Int)<2:=by omega
  have hw:=cY (i:=i) (by omega);by_cases hz:i=0/\c≠0
  ·obtain⟨h0,hcn⟩:=hz;subst h0;unfold orS;refine J λK hK=>?_;simp only[go_sem,aQ,decide_true];apply hK;refine aa λK1 aT=>?_;refine aM ?_;apply ar;apply aT;refine aa λK1 aT=>?_;apply ax;refine J λK hK=>?_;simp only[go_sem,aN];refine hK _ (J λK hK=>?_);simp only[go_sem,hcn,decide_false,al7];apply hK;refine aM ?_;refine J λK hK=>?_;simp only[go_sem];apply hK;apply an;exact⟨au c,by simp[bj,aP,bt,ah,ai,ak,aG],[(0,0)],[(0,[au c,au 0])],rfl,rfl,by simp[aL,aF,ai,ak,aG,aj,AV.aA,af,ae,-alh],by simp[AV.aA,aj,af]⟩
  ·have qU:aN none ([au c,au 0].drop i)=some (au 0):=by
    rcases(show i=0\/i=1 by omega)with h|h
    ·have:c=0:=by
      by_cases h2:c=0;·exact h2
      ·exact absurd ⟨h,h2⟩ hz
     subst h this;rfl
    ·subst h;rfl
   have hcz:c=0:=by
    by_cases h:i=0
    ·by_cases h2:c=0;·exact h2
     ·exact absurd ⟨h,h2⟩ hz
    ·exact hc h
   generalize hC: [au c,au 0]=C at qU;unfold orS;rw[hC];refine J λK hK=>?_;simp only[go_sem,aQ,decide_true];apply hK;refine aa λK1 aT=>?_;refine aM ?_;apply ar;apply aT;refine aa λK1 aT=>?_;apply ax;refine J λK hK=>?_;simp only[go_sem,alm,aQ,bn,alj,alV,alo,qU];refine hK _ (J λK hK=>?_);simp only[go_sem,decide_true,alT];apply hK;refine aH ?_;apply ar;simp only[go_sem];apply aT;refine ag rfl ?_;simp only[go_sem,hw];refine⟨⟨i+1,bn,λ_=>hcz⟩,by simp only;omega,?_⟩;subst hC;exact aB.cj [(0,0)] ⟨by simp[aV,ah,AV.aA,aj,af,orS],by simp[aL,aF,ai,ak,aG,aj,AV.aA,af,ae,-alh,orS],rfl,rfl⟩
 ·have du:i=2:=by omega
  subst du;have hcz:=hc (by decide);subst hcz;unfold orS;refine J λK hK=>?_;simp only[go_sem,show¬((2:Nat):Int)<2 by decide,decide_false];apply hK;refine aa λK1 aT=>?_;refine aH ?_;apply aW;show KE _;refine fV _ (J λK hK=>?_);simp only[go_sem];apply hK;apply an;exact⟨au 0,by simp[bj,aP,bt,ah,ai,ak,aG],[(0,0)],[(0,[au 0,au 0])],rfl,rfl,by simp[aL,aF,ai,ak,aG,aj,AV.aA,af,ae,-alh],by simp[AV.aA,aj,af]⟩
def cfS (f g:List Int) (i:Nat):St:=⟨[(2,.ptr 0 0),(3,.ptr 1 0),(7,au i)],[(0,(cc f).map .d),(1,(cc g).map .d)],2⟩
theorem H2 {f g:List Int} (hf:f.length=20) (hg:g.length=20):Pure aK 86 [.agg ((cc f).map .d),.agg ((cc g).map .d)] (au (uB f g)):=by
 have r5:((cc f).map AV.d).length=20:=by simp[cc,hf]
 have hgl:((cc g).map AV.d).length=20:=by simp[cc,hg]
 have aiD:(cc f).length=20:=by simp[cc,hf]
 have aiE:(cc g).length=20:=by simp[cc,hg]
 have hfx:sk 0 ((cc f).map AV.d)=(cc f).map AV.d:=n4 (by intro h;rw[h]at hf;cases hf);have hgx:sk 1 ((cc g).map AV.d)=(cc g).map AV.d:=n4 (by intro h;rw[h]at hg;cases hg);unfold uB;generalize hR:cJ f g 0 20=R;refine ay func86 aaX ntmps86 results86 rfl ?_;unfold aic;refine J λK hK=>?_;simp only[go_sem,hfx,hgx];apply hK;refine aa λKE fV=>?_;refine J λK hK=>?_;simp only[go_sem];apply hK;apply ax;refine aw (S':=cfS f g 0) (aB.cj [(0,0),(1,1)] ⟨by simp[aV,ah,AV.aA,aj,af,cfS],by simp[aL,aF,ai,ak,aj,AV.aA,af,ae,-alh,cfS],rfl,rfl⟩) ?_
 refine ef (ι:={i:Nat//i<=4/\cJ f g (i*4) (20-i*4)=R}) (λi=>cfS f g i.1) (λi=>4-i.1) ⟨0,by omega,hR⟩ ?_;rintro⟨i,hi,hr⟩;dsimp only;unfold Wo;by_cases bn:i<4
 ·have aQ:(i:Int)<4:=by omega
  have hw:=cY (i:=i) (by omega);have k4:=Dy hf hg (o:=i*4) (by omega);rw[show 20-i*4=4+(20-(i+1)*4) by omega,AN,show i*4+4=(i+1)*4 by omega]at hr;generalize cJ f g (i*4) 4=c at k4 hr;have e1:i*4+4<=20:=by omega
  unfold cfS;refine J λK hK=>?_;simp only[go_sem,aQ,decide_true];apply hK;refine aa λK1 aT=>?_;refine aM ?_;apply ar;apply aT;refine aa λK1 aT=>?_;apply ax;refine J λK hK=>?_;simp only[go_sem];apply hK;refine aa λK hK=>az rfl rfl ?_;simp only[go_sem,alm,aQ,bn,alj,alo,mU,uo,r5,hgl,aiD,aiE,alk,e1];refine fW [(0,0),(1,1)] [.sl 0 1 (i*4) 4,.sl 1 1 (i*4) 4] [(0,(cc f).map .d),(1,(cc g).map .d)] (nb:=1000) (k4) (by simp[bX]) (by first|(simp[aj,AV.aA,af];done)|simp[aj,AV.aA,af]) (by first|(simp[bZ,cd,af];done)|simp[bZ,cd,af]) (by simp[handed,af,ai,ak,aG,aj,AV.aA,bZ,cd,dL]) rfl ?_
  simp only[go_sem,fE,alz,alL,bx,bR,bU,ai,ak,aG,cf,af,aj,bQ,AV.aA,alH,alD,alF,alK,alM,aly];refine⟨rfl,hK _ ?_⟩;by_cases hc:c=0
  ·rw[if_pos hc]at hr;refine J λK hK=>?_;simp only[go_sem,hc,decide_true,alT];apply hK;refine aH ?_;apply ar;simp only[go_sem];apply aT;refine ag rfl ?_;simp only[go_sem,hw];refine⟨⟨i+1,bn,hr⟩,by simp only;omega,?_⟩;exact aB.cj [(0,0),(1,1)] ⟨by simp[aV,ah,AV.aA,aj,af,cfS],by simp[aL,aF,ai,ak,aG,aj,AV.aA,af,ae,-alh,cfS],rfl,rfl⟩
  ·rw[if_neg hc]at hr;subst hr;refine J λK hK=>?_;simp only[go_sem,hc,decide_false,al7];apply hK;refine aM ?_;refine J λK hK=>?_;simp only[go_sem];apply hK;apply an;exact⟨au c,by simp[bj,aP,bt,ah,ai,ak,aG],[],[],rfl,rfl,by simp[aL,aF,ai,ak,aG,aj,AV.aA,af,ae,-alh],by simp[AV.aA,aj,af]⟩
 ·have du:i=4:=by omega
  subst du;have k4:=Dy hf hg (o:=16) (by omega);have ZX:cJ f g 16 4=R:=hr;rw[ZX]at k4;have ko:=Sn R;unfold cfS;refine J λK hK=>?_;simp only[go_sem,show¬((4:Nat):Int)<4 by decide,decide_false];apply hK;refine aa λK1 aT=>?_;refine aH ?_;apply aW;show KE _;apply fV;refine aa λK hK=>az rfl rfl ?_;simp only[go_sem,mU,uo,r5,hgl,aiD,aiE,alk]
  refine fW [(0,0),(1,1)] [.sl 0 1 16 4,.sl 1 1 16 4] [(0,(cc f).map .d),(1,(cc g).map .d)] (nb:=1000) (k4) (by simp[bX]) (by first|(simp[aj,AV.aA,af];done)|simp[aj,AV.aA,af]) (by first|(simp[bZ,cd,af];done)|simp[bZ,cd,af]) (by simp[handed,af,ai,ak,aG,aj,AV.aA,bZ,cd,dL]) rfl ?_;simp only[go_sem,fE,alz,alL,bx,bR,bU,ai,ak,aG,cf,af,aj,bQ,AV.aA,alH,alD,alF,alK,alM,aly]
  refine fW [(0,8)] [.sl 0 1 0 2] [(0,[au R,au 0])] (nb:=1000) (ko) (by simp[bX]) (by first|(simp[aj,AV.aA,af];done)|simp[aj,AV.aA,af]) (by first|(simp[bZ,cd,af];done)|simp[bZ,cd,af]) (by simp[handed,af,ai,ak,aG,aj,AV.aA,bZ,cd,dL]) rfl ?_;simp only[go_sem,fE,alz,alL,bx,bR,bU,ai,ak,aG,cf,af,aj,bQ,AV.aA,alH,alD,alF,alK,alM,aly];refine⟨rfl,hK _ ?_⟩;apply an;exact⟨au R,by simp[bj,aP,bt,ah,ai,ak,aG],[],[],rfl,rfl,by simp[aL,aF,ai,ak,aG,aj,AV.aA,af,ae,-alh],by simp[AV.aA,aj,af]⟩
end
end Go.Proofs.YtadocofdkdiboaaGreatDoor
namespace Go.Jq
open Go
def WM (w w':World):Prop:=w'.tape=w.tape/\w.drawn<=w'.drawn
theorem WM.refl (w:World):WM w w:=⟨rfl,ali _⟩
theorem WM.trans {a b c:World} (h:WM a b) (k:WM b c):WM a c:=⟨k.1.trans h.1,Nat.le_trans h.2 k.2⟩
def rW {α:Type}:Result α->World
 |.ok _ w=>w
 |.halt _ w=>w
theorem Oc {α:Type}:∀(a:Ask α) (w:World),WM w (w.ask a).2
 |.done a,w=>WM.refl w
 |.ask what range k,w=>by
  simp only[World.ask];split;·exact Oc _ _
  ·exact WM.trans (b:={w with drawn:=w.drawn+1}) ⟨rfl,Nat.le_succ _⟩ (Oc _ _)
theorem Yr (w:World) (c:Sys):WM w (w.sys c).2:=by
 unfold World.sys;have h:=Oc (Kernel.perform c w.os) w;split;·exact WM.refl w
 ·rename_i r os w' _ he;rw[he]at h;exact h
theorem H3 {p:Program} {w:World} {at_:Addr} {u:TypeId} {k:Addr} {v:Value} {b:Bool} {w':World} {l:List Addr}
 (h:w.viewStore p at_ u k v b=.ok (w',l)):WM w w':=by
 unfold World.viewStore at h;simp only[bind,Except.bind,pure,Except.pure]at h
 repeat' first
  |(cases h;done)
  |(simp only[Except.ok.injEq,ama]at h;obtain⟨rfl,_⟩:=h;exact⟨rfl,ali _⟩)
  |split at h
theorem Lc {p:Program} {w:World} {a:Addr} {v:Value} {b:Bool} {w':World} {l:List Addr}
 (h:w.farStore p a v b=.ok (w',l)):WM w w':=by
 unfold World.farStore at h;split at h
 ·split at h;·rename_i hr;cases h;exact H3 hr
  ·cases h
 ·cases h
theorem Sp (w:World) (a:Addr) (n:Nat):WM w (w.freeze a n):=by
 unfold World.freeze;split<;>exact⟨rfl,ali _⟩
theorem vK {α:Type} (P:Program) (s:Sem α):∀w,WM w (rW (s.run P w)):=by
 induction s with
 |pure a=>intro w;exact WM.refl w
 |load m a k ih=>
  intro w;simp only[Sem.run];split;·exact ih _ w
  ·split;·exact ih _ w
   ·exact WM.refl w
 |store m a v k ih=>
  intro w;cases v<;>simp only[Sem.run]
  all_goals first
   |exact WM.refl w
   |(split
     ·split;·exact WM.refl w
      ·exact WM.trans ⟨rfl,ali _⟩ (ih _)
     ·split;·rename_i h;exact WM.trans (Lc h) (ih _)
      ·exact WM.refl w)
 |new o k ih=>intro w;simp only[Sem.run];exact WM.trans ⟨rfl,ali _⟩ (ih _ _)
 |shape r k ih=>intro w;simp only[Sem.run];exact ih _ w
 |freeze a n k ih=>intro w;simp only[Sem.run];exact WM.trans (Sp w a n) (ih _)
 |frozen a k ih=>intro w;simp only[Sem.run];exact ih _ w
 |getObj r k ih=>
  intro w;simp only[Sem.run];split;·exact WM.refl w
  ·exact ih _ w
  ·exact WM.refl w
 |setObj r o k ih=>
  intro w;simp only[Sem.run];split;·exact WM.refl w
  ·exact WM.trans ⟨rfl,ali _⟩ (ih _)
  ·exact WM.refl w
 |choose q k ih=>
  intro w;simp only[Sem.run];split;·exact ih _ w
  ·exact WM.trans (b:={w with drawn:=w.drawn+1}) ⟨rfl,Nat.le_succ _⟩ (ih _ _)
 |sys c k ih=>intro w;simp only[Sem.run];exact WM.trans (Yr w c) (ih _ _)
 |program k ih=>intro w;simp only[Sem.run];exact ih _ w
 |mark m k ih=>intro w;simp only[Sem.run];exact ih w
 |halt h=>intro w;exact WM.refl w
theorem fA {α:Type} {P:Program} {s:Sem α} {w w':World} {a:α} (h:s.run P w=.ok a w'):WM w w':=by
 have:=vK P s w;rw[h]at this;exact this
theorem lB {α:Type} {P:Program} {s:Sem α} {w w':World} {a:Halt} (h:s.run P w=.halt a w'):WM w w':=by
 have:=vK P s w;rw[h]at this;exact this
theorem ug {α:Type} (P:Program) (s:Sem α) (w:World) (es:Array Event):WM w (rW (s.runT P w es).1):=by
 rw[Sem.runT_fst];exact vK P s w
theorem lg {α:Type} {P:Program} {s:Sem α} {w w':World} {a:α} {es:Array Event} (h:(s.runT P w es).1=.ok a w'):WM w w':=by
 have:=ug P s w es;rw[h]at this;exact this
theorem jM {α:Type} {P:Program} {s:Sem α} {w w':World} {a:Halt} {es:Array Event} (h:(s.runT P w es).1=.halt a w'):WM w w':=by
 have:=ug P s w es;rw[h]at this;exact this
theorem Ld {α:Type} {P:Program} {s:Sem α} {w w':World} {a:α} {es es':Array Event} (h:s.runT P w es=(.ok a w',es')):WM w w':=by
 have:=ug P s w es;rw[h]at this;exact this
theorem pG {α:Type} {P:Program} {s:Sem α} {w w':World} {a:Halt} {es es':Array Event} (h:s.runT P w es=(.halt a w',es')):WM w w':=by
 have:=ug P s w es;rw[h]at this;exact this
def gW:GStep->World
 |.go _ w _=>w
 |.comm _ _ _ _ w _=>w
 |.spawn _ _ w _=>w
 |.count _ w _=>w
 |.timer _ _ w _=>w
 |.alone _ _ w _=>w
 |.newcoro _ _ _ w _=>w
 |.coroswitch _ _ _ w _=>w
 |.collect _ w _=>w
 |.watch _ w _=>w
 |.ended _ w _=>w
theorem qu (es:Array Event) (g:GStep):gW (g.after es)=gW g:=by cases g<;>rfl
theorem Od (w:World) (fd:Nat) (text:ByteArray) (o:Outcome):WM w (gW (endWith w fd text o)):=by
 unfold endWith;have h:=Yr w (.write fd text);generalize w.sys (.write fd text)=r at h⊢;obtain⟨ret,w'⟩:=r;have h:WM w w':=h;cases ret<;>simp only[]<;>(repeat' first|exact h|split)
theorem AO (fr:Frame) (m:String) (w:World):WM w (gW (endThrow fr m w)):=WM.refl w
theorem ti (p:Program) (fr:Frame) (v:Value) (w:World):WM w (gW (endPrinting p fr v w)):=by
 unfold endPrinting;simp only[]
 repeat' first
  |exact WM.refl w
  |split
theorem AP (p:Program) (fr:Frame) (cs:List Frame) (dy:Option Dying) (m:String) (w:World):WM w (gW (endFatal p fr cs dy m w)):=by
 unfold endFatal;simp only[];generalize hs:Sem.run p (_:Sem (List (ByteArray×String)×List ByteArray)) w=r;have h:WM w (rW r):=by rw[<-hs];exact vK _ _ _
 cases r with
 |ok a w'=>exact h
 |halt e w'=>cases e<;>exact h
theorem Oe (p:Program) (fr:Frame) (d:Dying) (f:Fatal) (w:World):WM w (gW (writeOn p fr d f w)):=by
 unfold writeOn;simp only[];split;·exact WM.refl w
 ·split;·rename_i h;exact Ld h
  ·rename_i h;exact pG h
  ·rename_i h;exact pG h
  ·rename_i h;exact pG h
theorem afS (p:Program) (fr:Frame) (d:Dying) (w:World):WM w (gW (die p fr d w)):=by
 unfold die;split;·exact Oe ..
 ·split
  ·split;·exact WM.refl w
   ·exact Od ..
  ·simp only[];split;·exact WM.refl w
   ·split;·rename_i h;exact fA h
    ·rename_i h;exact lB h
   ·rw[qu];split;·rename_i h;exact lg h
    ·rename_i h;exact lg h
    ·rename_i h;exact jM h
    ·rename_i h;exact WM.trans (jM h) (ti ..)
    ·exact WM.refl w
   ·exact WM.refl w
theorem tj (p:Program) (main:Bool) (fr:Frame) (cs:List Frame) (dy:Option Dying) (v:Value) (w:World):WM w (gW (doReturn p main fr cs dy v w)):=by
 unfold doReturn;simp only[]
 repeat' first
  |exact WM.refl w
  |split
theorem Bl (p:Program) (fr:Frame) (cs:List Frame) (dy:Option Dying) (d:Deferred) (w:World):WM w (gW (callDeferred p fr cs dy d w)):=by
 unfold callDeferred;refine iteInduction (motive:=λg=>WM w (gW g)) (λ_=>?_) (λ_=>?_);·exact WM.refl w
 ·simp only[qu];have h:=ug p (invoke d.target d.args) w #[]
  generalize ((invoke d.target d.args).runT p w #[]).1=r at h
  repeat' first
   |exact h
   |exact WM.trans h (AP ..)
   |exact WM.trans h (AO ..)
   |split
theorem Sq (p:Program) (main:Bool) (fr:Frame) (cs:List Frame) (dy:Option Dying) (w:World):WM w (gW (unwind p main fr cs dy w)):=by
 unfold unwind;split
 ·simp only[qu];split;·rename_i h;exact lg h
  ·rename_i h;exact jM h
 ·exact Bl ..
 ·split;·exact WM.refl w
  ·split;·exact WM.refl w
   ·split;·exact WM.refl w
    ·split
     ·split;·exact WM.refl w
      ·split;·rename_i h;exact fA h
       ·rename_i h;exact lB h
       ·rename_i h;exact lB h
     ·split;·exact ti ..
      ·exact WM.refl w
  ·split;·exact tj ..
   ·simp only[qu];split;·rename_i h;exact WM.trans (lg h) (tj ..)
    ·rename_i h;exact jM h
    ·rename_i h;exact jM h
theorem Ys (p:Program) (fr:Frame) (cs:List Frame) (dy:Option Dying) (g:Nat) (w:World):WM w (gW (early p fr cs dy g w)):=by
 unfold early;simp only[]
 repeat' first
  |exact WM.refl w
  |exact⟨rfl,ali _⟩
  |exact fA (by assumption)
  |exact lB (by assumption)
  |(refine WM.trans (fA (by assumption)) ?_;exact⟨rfl,ali _⟩)
  |split
theorem Dz (p:Program) (b:Bool) (fr:Frame) (cs:List Frame) (dy:Option Dying) (s:Sem Next) (w:World):WM w (gW (stepG.apply p b fr cs dy s w)):=by
 unfold stepG.apply;simp only[];have h:WM w (rW (if b=true then s.runT p w #[]else(s.run p w,#[])).1):=by
  split;·exact ug ..
  ·exact vK ..
 generalize (if b=true then s.runT p w #[]else(s.run p w,#[]))=q at h
 obtain⟨r,es⟩:=q;simp only[qu]at h⊢
 repeat' first
  |exact h
  |exact WM.trans h (AP ..)
  |exact WM.trans h (AO ..)
  |exact WM.trans h (Ys ..)
  |split
theorem abz (p:Program) (b:Bool) (fr:Frame) (cs:List Frame) (dy:Option Dying) (w:World):WM w (gW (stepG.oper p b fr cs dy w)):=by
 unfold stepG.oper;split;·exact WM.refl w
 ·split<;>exact Dz ..
theorem abA {α:Type} (o:Option α) (a:GStep) (f:α->GStep) (w:World) (ha:WM w (gW a)) (hf:∀x,WM w (gW (f x))):WM w (gW (o.elim a f)):=by
 cases o;·exact ha
 ·exact hf _
theorem abB (p:Program) (main b:Bool) (fr:Frame) (cs:List Frame) (dy:Option Dying) (w:World):WM w (gW (stepG.exec p main b fr cs dy w)):=by
 unfold stepG.exec;simp only[]
 repeat' first
  |exact WM.refl w
  |exact Dz ..
  |exact abz ..
  |exact WM.trans (lg (by assumption)) (tj ..)
  |exact WM.trans (lg (by assumption)) (Dz ..)
  |exact lg (by assumption)
  |exact jM (by assumption)
  |exact fA (by assumption)
  |exact lB (by assumption)
  |refine abA _ _ _ _ ?_ λ_=>?_
  |simp only[qu]
  |split
theorem Yt (p:Program) (main:Bool) (g:Goroutine) (w:World) (b:Bool):WM w (gW (stepG p main g w b)):=by
 obtain⟨fr,callers,status,dying,offers⟩:=g;simp only[stepG];split;·exact afS ..
 ·exact abB ..
 ·exact Sq ..
def SM (w:World):Stepped->Prop
 |.next m=>WM w m.world
 |.ended _ _=>True
theorem SM.of {w w':World} {s:Stepped} (h:WM w w') (k:SM w' s):SM w s:=by
 cases s;·exact WM.trans h k
 ·trivial
theorem H4 {rest:Rest} {cases:Array CommCase} {w w':World} (h:waitingAt rest cases w=some w'):WM w w':=by
 unfold waitingAt at h
 repeat' first
  |(cases h;done)
  |(cases h;exact⟨rfl,ali _⟩)
  |split at h
theorem DA (p:Program) (rest:Rest) (gs:Array Goroutine) (i:Nat) (g:Goroutine) (cs:Array CommCase) (Le:Bool)
 (shape:CommShape) (w:World):SM w (communicate p rest gs i g cs Le shape w).1:=by
 unfold communicate;simp only[];split;·trivial
 ·split
  ·split
   ·split;·exact H4 (by assumption)
    ·trivial
   ·exact WM.refl w
  ·generalize hs:Sem.run p (_:Sem (Nat×CommCase×Way)) w=r;have h:WM w (rW r):=by rw[<-hs];exact vK _ _ _
   cases r with
   |halt e w'=>trivial
   |ok a w'=>
    have h:WM w w':=h;obtain⟨k,c,way⟩:=a;simp only[]
    repeat' first
     |trivial
     |exact h
     |exact WM.trans h ⟨rfl,ali _⟩
     |(refine WM.trans h (WM.trans (fA (by assumption)) ?_);exact⟨rfl,ali _⟩)
     |(refine WM.trans h (WM.trans (lB (by assumption)) ?_);exact⟨rfl,ali _⟩)
     |split
theorem H5 (p:Program) (gs:Array Goroutine) (rest:Rest) (w:World):SM w (look p gs rest w):=by
 unfold look;simp only[];split
 ·split;·trivial
  ·split;·trivial
   ·generalize hs:Sem.run p (_:Sem (List (Nat×Deferred)×List (Nat×Deferred))) w=r;have h:WM w (rW r):=by rw[<-hs];exact vK _ _ _
    cases r with
    |halt e w'=>cases e<;>trivial
    |ok a w'=>exact WM.trans (b:=w') h ⟨rfl,ali _⟩
 ·trivial
theorem Yu (p:Program) (m:Machine) (k:Nat):SM m.world (serve p m k):=by
 unfold serve;simp only[];split;·trivial
 ·exact⟨rfl,ali _⟩
 ·split;·trivial
  ·exact WM.refl _
theorem Yv (w:World) (c:Nat):WM w (drain w c).2:=by
 unfold drain;split<;>exact⟨rfl,ali _⟩
theorem F1 (m:Machine) (k:Nat) (t:Timer) (a b:Nat):WM m.world (retime m k t a b).2.world:=by
 unfold retime;cases t.chan with
 |none=>exact WM.refl _
 |some c=>exact Yv _ _
theorem Lf {m:Machine} {var:Addr} {f:Nat->Timer->Value×Machine} (hf:∀k t,WM m.world (f k t).2.world) {v:Value} {m':Machine}
 (h:timerOp.named m var f=.ok (v,m')):WM m.world m'.world:=by
 unfold timerOp.named at h;split at h
 ·rename_i k _;have e:=Except.ok.inj h;have:=hf k (m.rest.timers.getD k default);rw[e]at this;exact this
 ·cases h
theorem Sr {m m':Machine} {var:Addr} (h:timerOp.opened m var=some m'):WM m.world m'.world:=by
 unfold timerOp.opened at h
 repeat' first
  |(cases h;done)
  |(cases h;exact⟨rfl,ali _⟩)
  |split at h
theorem Of {m:Machine} {op:TimerOp} {v:Value} {m':Machine} (h:timerOp m op=.ok (v,m')):WM m.world m'.world:=by
 unfold timerOp at h;split at h
 ·split at h;·cases h;exact WM.refl _
  ·split at h
   ·split at h;·cases h
    ·cases h;exact⟨rfl,ali _⟩
   ·cases h
 ·exact Lf (λk t=>F1 ..) h
 ·split at h
  ·rename_i m1 hm;exact Lf (λk t=>WM.trans (Sr hm) (F1 ..)) h
  ·cases h
 ·cases h;exact WM.refl _
theorem abC (p:Program) (m:Machine) (i:Nat) (b:Bool):SM m.world (Go.runT p m i b).1:=by
 simp only[Go.runT];generalize m.gs.swapAt! _ _=gg;have h:=Yt p (i==0) gg.1 m.world b;generalize stepG p _ gg.1 m.world b=s at h⊢;cases s with
 |go g w es=>exact h
 |comm g cases Le shape w es=>exact SM.of h (DA ..)
 |spawn g child w es=>exact h
 |count g w es=>
  simp only[];split;·trivial
  ·exact h
 |timer g op w es=>
  have h:WM m.world w:=h;simp only[];split
  ·rename_i v m' hm;exact WM.trans h (Of hm)
  ·split
   ·rename_i he;simp only[endThrow,dieOf]at he;cases he;exact h
   ·trivial
  ·trivial
  ·trivial
 |alone g on w es=>exact h
 |newcoro g c d w es=>exact WM.trans (b:=w) h ⟨rfl,ali _⟩
 |coroswitch g c exit w es=>
  have h:WM m.world w:=h;simp only[];split;·exact WM.trans h ⟨rfl,ali _⟩
  ·split
   ·rename_i he;simp only[endThrow,dieOf]at he;cases he;exact h
   ·trivial
  ·trivial
 |collect g w es=>exact SM.of h (H5 ..)
 |watch g w es=>exact h
 |ended o w es=>trivial
def MM (w:World):Move->Prop
 |.goroutine m _=>WM w m.world
 |.machine s _=>SM w s
theorem MM.of {w w':World} {s:Move} (h:WM w w') (k:MM w' s):MM w s:=by
 cases s;·exact WM.trans h k
 ·exact SM.of h k
theorem DB (p:Program) (m:Machine):MM m.world (askOn p m):=by
 unfold askOn;simp only[];split;·trivial
 ·rename_i k world hk;have hk:=fA hk;split;·exact SM.of hk (Yu p {m with world} _)
  ·split
   ·split;·exact WM.trans hk ⟨rfl,ali _⟩
    ·split;·exact hk
     ·split<;>trivial
   ·have pick:∀m1:Machine,WM m.world m1.world->∀mv:Move,mv=(match(choose (.sched (runnable m.gs m.world.os.mono).length)).run p m1.world with
     |.halt _ w=>Move.machine (.ended (.stuck "sched" "") w)
     |.ok k world=>
      if(runnable m.gs m.world.os.mono).length<=1 then .goroutine {m1 with world} ((runnable m.gs m.world.os.mono).getD k 0)else
      match(choose (.extern "sched.slice" 65536)).run p world with
      |.halt _ w=>.machine (.ended (.stuck "sched.slice" "") w)
      |.ok n world=>.goroutine {m1 with world,rest:={m1.rest with slice:=if n=0 then none else some ((runnable m.gs m.world.os.mono).getD k 0,n)}} ((runnable m.gs m.world.os.mono).getD k 0))->MM m.world mv:=by
     intro m1 h1 mv Ra;subst Ra;split;·trivial
     ·rename_i h2;have h2:=WM.trans h1 (fA h2);split;·exact h2
      ·split;·trivial
       ·rename_i h3;exact WM.trans h2 (fA h3)
    split;·exact pick {m with world} hk _ rfl
    ·split;·trivial
     ·rename_i h2;exact pick {world:=_,gs:=m.gs,rest:=m.rest} (WM.trans hk (fA h2)) _ rfl
     ·rename_i h2;exact WM.trans hk (WM.trans (fA h2) ⟨rfl,ali _⟩)
     ·rename_i h2;exact pick (Machine.advanceTo {world:=_,gs:=m.gs,rest:=m.rest} _) (WM.trans hk (WM.trans (fA h2) ⟨rfl,ali _⟩)) _ rfl
theorem AQ (p:Program) (m:Machine):MM m.world (ask p m):=by
 unfold ask;split
 ·split;·trivial
  ·rename_i h;have h:=fA h;split
   ·rename_i h2;have h3:=H5 p m.gs m.rest ‹World›;rw[h2]at h3;exact MM.of (WM.trans h h3) (DB ..)
   ·exact SM.of h (H5 ..)
  ·rename_i h;exact MM.of (fA h) (DB p {m with world:=_})
 ·exact DB ..
theorem abD (p:Program) (m:Machine):MM m.world (move p m):=by
 unfold move;split
 ·split;·exact WM.refl _
  ·trivial
 ·split
  ·split;·exact WM.refl _
   ·exact AQ p {m with rest:=_}
  ·exact AQ ..
theorem abE (p:Program) (m:Machine):SM m.world (step p m):=by
 unfold step stepT;have h:=abD p m;split
 ·rename_i he;rw[he]at h;exact SM.of h (abC ..)
 ·rename_i he;rw[he]at h;exact h
theorem Lg {P:Program} {m m':Machine} (h:Steps P m m'):WM m.world m'.world:=by
 obtain⟨n,hn⟩:=h;induction n generalizing m with
 |zero=>simp only[runN,Stepped.next.injEq]at hn;subst hn;exact WM.refl _
 |succ n ih=>
  simp only[runN]at hn;have h:=abE P m;cases hs:step P m with
  |next m1=>rw[hs]at hn h;exact WM.trans h (ih hn)
  |ended o w=>rw[hs]at hn;cases hn
theorem Yw {P:Program} {f:FuncId} {args:Array Value} {w:World} {R:Ending->World->Prop} (h:Calls P f args w R) (hR:∀e w',R e w'->e≠.outgrown):
 Calls P f args w λe w'=>R e w'/\WM w w':=λcs=>by
 obtain⟨e,w',fr,hr,hc,hf,hl⟩:=h cs;refine⟨e,w',fr,⟨hr,?_⟩,hc,hf,hl⟩;cases e with
 |returned v=>exact Lg hc
 |panicked c=>exact Lg hc
 |outgrown=>exact absurd rfl (hR _ _ hr)
end Go.Jq
namespace Go.Proofs
open Go.Shelf
def Tryz.EW:Go.Shelf.Ren:=⟨λ|6=>85|15=>137|14=>136|28=>202|29=>203|20=>194|21=>195|22=>196|23=>197|24=>198|25=>199|26=>200|27=>201|46=>260|47=>261|48=>262|49=>263|50=>264|57=>278|n=>n,λ|22=>44|24=>93|25=>145|3=>3|39=>75|0=>0|53=>262|55=>110|4=>4|46=>256|45=>255|50=>177|5=>5|9=>9|66=>302|70=>306|76=>317|77=>146|n=>n,λ|n=>n⟩
theorem Tryz.F2:Go.Proofs.SlLaysF0.n6 Tryz.prog Tryz.EW:={
 mixed:=by kernel_rfl
 f6:=⟨Tryz.f85.name,by decide,Tryz.func85.trans (congrArg some (by kernel_rfl))⟩
 f14:=⟨Tryz.f136.name,by decide,Tryz.func136.trans (congrArg some (by kernel_rfl))⟩
 f15:=Tryz.func137.trans (congrArg some (by kernel_rfl))
 f20:=⟨Tryz.f194.name,by decide,Tryz.func194.trans (congrArg some (by kernel_rfl))⟩
 f21:=⟨Tryz.f195.name,by decide,Tryz.func195.trans (congrArg some (by kernel_rfl))⟩
 f22:=⟨Tryz.f196.name,by decide,Tryz.func196.trans (congrArg some (by kernel_rfl))⟩
 f23:=⟨Tryz.f197.name,by decide,Tryz.func197.trans (congrArg some (by kernel_rfl))⟩
 f24:=⟨Tryz.f198.name,by decide,Tryz.func198.trans (congrArg some (by kernel_rfl))⟩
 f25:=⟨Tryz.f199.name,by decide,Tryz.func199.trans (congrArg some (by kernel_rfl))⟩
 f26:=⟨Tryz.f200.name,by decide,Tryz.func200.trans (congrArg some (by kernel_rfl))⟩
 f27:=⟨Tryz.f201.name,by decide,Tryz.func201.trans (congrArg some (by kernel_rfl))⟩
 f28:=Tryz.func202.trans (congrArg some (by kernel_rfl))
 f29:=Tryz.func203.trans (congrArg some (by kernel_rfl))
 f46:=⟨Tryz.f260.name,by decide,Tryz.func260.trans (congrArg some (by kernel_rfl))⟩
 f47:=Tryz.func261.trans (congrArg some (by kernel_rfl))
 f48:=Tryz.func262.trans (congrArg some (by kernel_rfl))
 f49:=⟨Tryz.f263.name,by decide,Tryz.func263.trans (congrArg some (by kernel_rfl))⟩
 f50:=⟨Tryz.f264.name,by decide,Tryz.func264.trans (congrArg some (by kernel_rfl))⟩
 f57:=⟨Tryz.f278.name,by decide,Tryz.func278.trans (congrArg some (by kernel_rfl))⟩
 t0:=Tryz.underlying0
 a0:=Tryz.isAgg0
 z0:=Tryz.sizeOf0
 v0:=Tryz.zeroValue0
 t3:=Tryz.underlying3
 a3:=Tryz.isAgg3
 z3:=Tryz.sizeOf3
 v3:=Tryz.zeroValue3
 t4:=Tryz.underlying4
 a4:=Tryz.isAgg4
 z4:=Tryz.sizeOf4
 v4:=Tryz.zeroValue4
 t5:=Tryz.underlying5
 a5:=Tryz.isAgg5
 z5:=Tryz.sizeOf5
 v5:=Tryz.zeroValue5
 t9:=Tryz.underlying9
 a9:=Tryz.isAgg9
 z9:=Tryz.sizeOf9
 v9:=Tryz.zeroValue9
 t22:=Tryz.underlying44
 a22:=Tryz.isAgg44
 z22:=Tryz.sizeOf44
 v22:=Tryz.zeroValue44
 t25:=Tryz.underlying145
 a25:=Tryz.isAgg145
 z25:=Tryz.sizeOf145
 v25:=Tryz.zeroValue145
 t39:=Tryz.underlying75
 a39:=Tryz.isAgg75
 z39:=Tryz.sizeOf75
 v39:=Tryz.zeroValue75
 t45:=Tryz.underlying255
 a45:=Tryz.isAgg255
 z45:=Tryz.sizeOf255
 v45:=Tryz.zeroValue255
 t46:=Tryz.underlying256
 a46:=Tryz.isAgg256
 z46:=Tryz.sizeOf256
 v46:=Tryz.zeroValue256
 t50:=Tryz.underlying177
 a50:=Tryz.isAgg177
 z50:=Tryz.sizeOf177
 v50:=Tryz.zeroValue177
 t53:=Tryz.underlying262
 a53:=Tryz.isAgg262
 z53:=Tryz.sizeOf262
 v53:=Tryz.zeroValue262
 t55:=Tryz.underlying110
 a55:=Tryz.isAgg110
 z55:=Tryz.sizeOf110
 v55:=Tryz.zeroValue110
 t66:=Tryz.underlying302
 a66:=Tryz.isAgg302
 z66:=Tryz.sizeOf302
 v66:=Tryz.zeroValue302
 t70:=Tryz.underlying306
 a70:=Tryz.isAgg306
 z70:=Tryz.sizeOf306
 v70:=Tryz.zeroValue306
 t76:=Tryz.underlying317
 a76:=Tryz.isAgg317
 z76:=Tryz.sizeOf317
 v76:=Tryz.zeroValue317
 t77:=Tryz.underlying146
 a77:=Tryz.isAgg146
 z77:=Tryz.sizeOf146
 v77:=Tryz.zeroValue146}
end Go.Proofs
namespace Go.Proofs.YtadocofdkdiboaaGreatDoor
open Go.Proofs.Tryz
open Go.Proofs.Tryz renaming prog → aK
section
open Go Go.Jq
theorem rB (f:List Int):∀(n j:Nat),cJ f f j n=0
 |0,_=>rfl
 |n+1,j=>by
  have h:l4 (f.getD j 0) (f.getD j 0)=0:=by simp[l4]
  rw[cJ,if_pos h,rB f n]
theorem Ss (a b:Int):l4 b a=-l4 a b:=by
 unfold l4
 repeat' split
 all_goals omega
theorem rC (f g:List Int):∀(n j:Nat),cJ g f j n=-cJ f g j n
 |0,_=>rfl
 |n+1,j=>by
  rw[cJ,cJ,rC f g n,Ss]
  repeat' split
  all_goals omega
theorem abF (a b c:Int) (h1:l4 a b<=0) (h2:l4 b c<=0):l4 a c<=0/\(l4 a c=0->l4 a b=0/\l4 b c=0)/\(l4 a b=0->l4 b c=0->l4 a c=0):=by
 unfold l4 at*
 repeat' split at h1
 all_goals repeat' split at h2
 all_goals(refine⟨?_,?_,?_⟩<;>(repeat' split)<;>omega)
theorem oP (f g h:List Int):∀(n j:Nat),cJ f g j n<=0->cJ g h j n<=0->cJ f h j n<=0/\(cJ f h j n=0->cJ f g j n=0/\cJ g h j n=0)
 |0,_,_,_=>⟨Int.le_refl _,λ_=>⟨rfl,rfl⟩⟩
 |n+1,j,h1,h2=>by
  have ih:=oP f g h n (j+1);rw[cJ]at h1 h2⊢;rw[cJ,cJ];generalize f.getD j 0=a at*;generalize g.getD j 0=b at*;generalize h.getD j 0=c at*;have t:=abF a b c;by_cases k1:l4 a b=0
  ·rw[if_pos k1]at h1;by_cases k2:l4 b c=0
   ·rw[if_pos k2]at h2;have k3:=(t (by omega) (by omega)).2.2 k1 k2;rw[if_pos k1,if_pos k2,if_pos k3];exact ih h1 h2
   ·rw[if_neg k2]at h2;have k3:=t (by omega) h2;have k4:¬l4 a c=0:=λk=>k2 (k3.2.1 k).2;rw[if_neg k4];exact⟨k3.1,λk=>absurd k k4⟩
  ·rw[if_neg k1]at h1;have Ba:l4 b c<=0:=by
    by_cases k2:l4 b c=0;·omega
    ·rw[if_neg k2]at h2;exact h2
   have k3:=t h1 Ba;have k4:¬l4 a c=0:=λk=>k1 (k3.2.1 k).1;rw[if_neg k4];exact⟨k3.1,λk=>absurd k k4⟩
theorem DC (f g:List Int):∀(n j:Nat),cJ f g j n=0->∀i,i<n->f.getD (j+i) 0=g.getD (j+i) 0
 |0,_,_,i,hi=>absurd hi (Nat.not_lt_zero i)
 |n+1,j,h,i,hi=>by
  rw[cJ]at h;by_cases k:l4 (f.getD j 0) (g.getD j 0)=0
  ·rw[if_pos k]at h;cases i with
   |zero=>
    unfold l4 at k
    repeat' split at k
    all_goals simp only[Nat.add_zero]at*
    all_goals omega
   |succ i=>
    have:=DC f g n (j+1) h i (by omega);rw[show j+(i+1)=j+1+i by omega];exact this
  ·rw[if_neg k]at h;exact absurd h k
theorem Su (f:List Int):uB f f=0:=rB f 20 0
theorem F3 (f g:List Int):uB g f=-uB f g:=rC f g 20 0
theorem Ql {f g:List Int} (hf:f.length=20) (hg:g.length=20) (h:uB f g=0):f=g:=by
 have:=DC f g 20 0 h;apply List.ext_getElem (by omega);intro i h1 h2;have:=this i (by omega);simp only[alo,alC]at this;rw[alw h1,alw h2]at this;exact this
abbrev xI:={f:List Int//f.length=20}
instance:Inhabited xI:=⟨⟨alA 20 0,rfl⟩⟩
def H6 (x y:xI):Int:=uB x.1 y.1
def nk (x:xI):List Value:=x.1.map (Value.int .i64)
theorem abG (x y:xI):(ltOf H6) x y=decide (cJ x.1 y.1 0 20<0):=rfl
theorem H7 (x y:xI):cJ y.1 x.1 0 20=-cJ x.1 y.1 0 20:=rC _ _ _ _
theorem aiF:Sort.SWO (ltOf H6)where
 irrefl x:=by rw[abG,rB];rfl
 trans x y z h1 h2:=by
  rw[abG,decide_eq_true_eq]at h1 h2⊢;have t:=oP x.1 y.1 z.1 20 0 (by omega) (by omega);by_cases h:cJ x.1 z.1 0 20=0;·have:=(t.2 h).1;omega
  ·omega
 ntrans x y z h1 h2:=by
  rw[abG,decide_eq_false_iff_not]at h1 h2⊢;have e1:=H7 x y;have e2:=H7 y z;have e3:=H7 x z;have t:=oP z.1 y.1 x.1 20 0 (by omega) (by omega);omega
theorem aiG (x y:xI) (h1:(ltOf H6) x y=false) (h2:(ltOf H6) y x=false):x=y:=by
 rw[abG,decide_eq_false_iff_not]at h1 h2;have e:=H7 x y;exact Subtype.ext (Ql x.2 y.2 (by unfold uB;omega))
def leF (f g:List Int):Bool:=!decide (uB g f<0)
def lC (l:List (List Int)):List (List Int):=l.mergeSort leF
theorem rD (l:List (List Int)):(lC l).Perm l:=List.mergeSort_perm _ _
theorem F4 (l:List (List Int)):(lC l).length=l.length:=(rD l).length_eq
theorem Lh {l:List (List Int)} (h:∀f∈l,f.length=20):∀f∈lC l,f.length=20:=λf hf=>h f ((rD l).mem_iff.1 hf)
theorem Sv (l:List xI):(l.mergeSort λx y=>!(ltOf H6) y x).map al4=lC (l.map al4):=
 List.map_mergeSort λa _ b _=>rfl
theorem og {c:Ctx} {w:World}:∀(ns:List Int) (vs:List Value),bg c w ((ns.map (DV.int .i64)).map AV.d) vs↔vs=ns.map (Value.int .i64)
 | [],vs=>by simp[bg]
 |n::ns,vs=>by
  simp only[alz,bg,Rel,dS];constructor
  ·rintro⟨v,o6,rfl,rfl,h⟩;rw[(og ns o6).1 h]
  ·rintro rfl;exact⟨_,_,rfl,rfl,(og ns _).2 rfl⟩
theorem Li (l:List (List Int)):cS l=(l.flatten).map (DV.int .i64):=by
 unfold cS cc;induction l with
 |nil=>rfl
 |cons a l ih=>simp[ih]
theorem DD {α β:Type} {enc:α->List β} {k:Nat} (hk:∀a,(enc a).length=k) (GF:0<k):∀(l:List α) (t:Nat),t<l.length*k->(l.flatMap enc)[t]?=(l[t/k]?).bind λa=>(enc a)[t%k]?
 | [],t,h=>by simp at h
 |a::l,t,h=>by
  rw[alO];by_cases ht:t<k;·rw[List.getElem?_append_left (by rw[hk];exact ht),Nat.div_eq_of_lt ht,Nat.mod_eq_of_lt ht];rfl
  ·obtain⟨u,rfl⟩:∃u,t=k+u:=⟨t-k,by omega⟩;rw[List.getElem?_append_right (by rw[hk];omega),hk,Nat.add_sub_cancel_left,Nat.add_div_left _ GF,Nat.add_mod_left,List.getElem?_cons_succ];exact DD hk GF l u (by simp only[alu,Nat.add_mul,Nat.one_mul]at h;omega)
theorem Lj {α:Type} [Inhabited α] {enc:α->List Value} {k:Nat} (hk:∀a,(enc a).length=k) (GF:0<k) (d:Array α):Sort.flatK enc k d=(d.toList.flatMap enc).toArray:=by
 have hl:∀l:List α,(l.flatMap enc).length=l.length*k:=by
  intro l;induction l with
  |nil=>simp
  |cons a l ih=>simp[ih,hk,Nat.add_mul,Nat.add_comm]
 apply Array.ext;·simp[hl]
 ·intro t h1 h2;have ht:t<d.size*k:=by simpa using h1
  have h3:=DD hk GF d.toList t (by simpa using ht);have hd:t/k<d.size:=Nat.div_lt_of_lt_mul (by rw[Nat.mul_comm];exact ht);have hm:t%k<k:=Nat.mod_lt _ GF;have h4:=Sort.get_flatK enc k d t ht;rw[getElem!_pos (Sort.flatK enc k d) t h1]at h4;rw[h4];have h5:(d.toList.flatMap enc)[t]?=some ((d.toList.flatMap enc).toArray[t]):=by simp
  rw[h5,Array.getElem?_toList,Array.getElem?_eq_getElem hd]at h3;simp only[Option.bind_some]at h3;rw[getElem!_pos d _ hd,getElem!_def,<-h3]
theorem Sw {w:World} {pM:Nat} {arr:Array Value} {T:TypeId} {f:Nat×Nat} {F F':Array Value} {rest:List Value} (h:w.heap[pM]?=some (.cells arr T f))
 (ha:arr.toList=F.toList++rest) (hs:F'.size=F.size):
 (Sort.putRow id w pM 0 F').heap[pM]?=some (.cells (F'.toList++rest).toArray T f):=by
 have e:Sort.putCells id 0 F' arr=(F'.toList++rest).toArray:=by
  have jH:arr.size=F.size+rest.length:=by rw[<-Array.length_toList,ha];simp
  apply Array.ext;·simp[Sort.putCells,jH,hs]
  ·intro i h1 h2;simp only[Sort.putCells,Array.getElem_mapIdx,alZ,true_and,alo,Nat.sub_zero,id];by_cases hi:i<F'.size
   ·rw[if_pos hi,getElem!_pos F' i hi];simp[List.getElem_append_left,hi]
   ·rw[if_neg hi];have h6:i<arr.size:=by simpa[Sort.putCells]using h1
    have h7:arr[i]=arr.toList[i]'(by simpa using h6):=by simp
    rw[h7];simp only[ha,List.getElem_toArray];rw[List.getElem_append_right (by simpa[<-hs]using Nat.le_of_not_lt hi),List.getElem_append_right (by simpa using Nat.le_of_not_lt hi)];simp[hs]
 unfold Sort.putRow Sort.mapBlock;simp only[Array.getElem?_modify,if_pos,h,alX,Sort.onCells,e]
theorem Yx {w:World} {pM k:Nat} {F':Array Value} (hk:k≠pM):(Sort.putRow id w pM 0 F').heap[k]?=w.heap[k]?:=by
 unfold Sort.putRow Sort.mapBlock;simp only[Array.getElem?_modify];rw[if_neg (Ne.symm hk)]
theorem H8 (w:World) (os:Array Obj) (k:Nat) (hk:k<w.heap.size):(Sort.grow w os).heap[k]?=w.heap[k]?:=by
 unfold Sort.grow;simp only[];rw[Array.getElem?_append_left hk]
theorem grown_of {W w':World} (h1:w'.os=W.os) (h2:w'.tape=W.tape) (h3:w'.output=W.output) (h4:W.heap.size<=w'.heap.size) (h5:∀k,k<W.heap.size->w'.heap[k]?=W.heap[k]?) (h6:W.drawn<=w'.drawn):
 ∃q os',w'=Sort.grow (W.drewN q) os':=by
 refine⟨w'.drawn-W.drawn,w'.heap.extract W.heap.size w'.heap.size,?_⟩;obtain⟨hp,tp,dr,os,out⟩:=w';simp only at h1 h2 h3 h4 h5 h6⊢;subst h1 h2 h3;have hh:hp=W.heap++hp.extract W.heap.size hp.size:=by
  apply Array.ext_getElem?;intro k;by_cases hk:k<W.heap.size;·rw[Array.getElem?_append_left hk,h5 k hk]
  ·rw[Array.getElem?_append_right (by omega),Array.getElem?_extract];by_cases TJ:k<hp.size;·rw[if_pos (by omega)];congr 1;omega
   ·rw[if_neg (by omega)];exact Array.getElem?_eq_none (by omega)
 have hd:W.drawn+(dr-W.drawn)=dr:=by omega
 unfold Sort.grow World.drewN;simp only[hd];rw[<-hh]
def tk (w:Wk) (b:Int):Wk:={w with aR:=b}
theorem DE (w:Wk) (b:Int) (v:Vm) (s:Nat):eY (tk w b) v s=tk (eY w v s) b:=by
 unfold eY;dsimp only;split;·rfl
 ·split<;>rfl
theorem Lk (w:Wk) (b:Int):iE (tk w b)=tk (iE w) b:=rfl
theorem Sx (w:Wk) (b:Int):qg (tk w b)=tk (qg w) b:=rfl
theorem vL {w:Wk} {f:Fm} (h:w.stack.getLast?=some f) (hn:¬ea (dO f.back f.sleep)<0):
 jf w=if w.aR<w.ba+1+(cH f.sleep).length then .XI else .on (eY (iE {w with ba:=w.ba+1+(cH f.sleep).length,stack:=w.stack.dropLast++[{f with sleep:=fq f.sleep (ea (dO f.back f.sleep))}],steps:=w.steps++[(cR f.v (ea (dO f.back f.sleep))).2.1]}) (cR f.v (ea (dO f.back f.sleep))).1 (gU f (cR f.v (ea (dO f.back f.sleep))).2.1 w.m)):=by
 unfold jf;rw[h];simp only;rw[if_neg hn]
theorem vM:∀(n:Nat) {w w':Wk} {b:Int},w.aR<=b->sb n w=some w'->sb n (tk w b)=some (tk w' b)
 |0,w,w',b,hb,h=>by simp[sb]at h
 |n+1,w,w',b,hb,h=>by
  cases hl:w.stack.getLast? with
  |none=>
   have t1:jf w=.done w:=by unfold jf;rw[hl]
   have t2:jf (tk w b)=.done (tk w b):=by unfold jf;rw[show(tk w b).stack.getLast?=none from hl]
   rw[xF n t1]at h;rw[xF n t2];cases h;rfl
  |some f=>
   have uv:(tk w b).stack.getLast?=some f:=hl;by_cases hn:ea (dO f.back f.sleep)<0
   ·have t1:jf w=.on (qg w):=by unfold jf;rw[hl];simp only;rw[if_pos hn]
    have t2:jf (tk w b)=.on (qg (tk w b)):=by unfold jf;rw[uv];simp only;rw[if_pos hn]
    rw[ta n t1]at h;rw[ta n t2,Sx];exact vM n (w:=qg w) hb h
   ·have t1:=vL hl hn;have t2:=vL uv hn;by_cases hm:w.aR<w.ba+1+((cH f.sleep).length:Int)
    ·rw[if_pos hm]at t1;rw[Dq n t1]at h;cases h
    ·have hm2:¬(tk w b).aR<(tk w b).ba+1+((cH f.sleep).length:Int):=by
      show¬b<w.ba+1+((cH f.sleep).length:Int);omega
     rw[if_neg hm]at t1;rw[if_neg hm2]at t2;rw[ta n t1]at h;rw[ta n t2];have:=vM n (b:=b) (by
      obtain⟨h1,_,_⟩:=n5 (iE {w with ba:=w.ba+1+((cH f.sleep).length:Int),stack:=w.stack.dropLast++[{f with sleep:=fq f.sleep (ea (dO f.back f.sleep))}],steps:=w.steps++[(cR f.v (ea (dO f.back f.sleep))).2.1]}) (cR f.v (ea (dO f.back f.sleep))).1 (gU f (cR f.v (ea (dO f.back f.sleep))).2.1 w.m);rw[h1];exact hb) h
     rw[<-DE,<-Lk]at this;exact this
theorem tm {p:Prog} {m a b:Int} (h:a<=b) {f:Found} (hf:explore p m a=some f):explore p m b=some f:=by
 unfold explore at hf⊢;rw[alG]at hf;obtain⟨w,hw,rfl⟩:=hf;have hb:(CL p m a).aR<=min (max b 0) 2000000:=by
  unfold CL;obtain⟨h1,_,_⟩:=n5 ⟨m,min (max a 0) 2000000,[],[],[],0,0⟩ (lY p m) 0;rw[h1];simp only;omega
 have:=vM 4000010 hb hw;have e:tk (CL p m a) (min (max b 0) 2000000)=CL p m b:=by
  unfold CL;rw[<-DE];rfl
 rw[e]at this;rw[this];rfl
def ik (l:List (List Int)):List (List Int):=cE (lC l)
theorem Sy {l:List (List Int)} {x:List Int}:x∈ik l↔x∈l:=by
 unfold ik;rw[HX,(rD l).mem_iff]
theorem zw (l:List (List Int)):(ik l).length<=l.length:=by
 unfold ik;have:=HW (lC l);rw[F4]at this;exact this
theorem DF {l:List (List Int)} (h:∀f∈l,f.length=20):∀f∈ik l,f.length=20:=λf hf=>h f (Sy.1 hf)
def dT (p:Prog) (m:Int) (runs:List (List Int)):List (List Int):=runs.map λr=>(kY p m r).getD j2
def j3 (p:Prog) (m:Int) (had:List (List Int)) (row:List Int):Bool:=match kY p m row with
 |some x=>!decide (x∈had)
 |none=>false
def lh (p:Prog) (m:Int) (f:Option Found) (aR:Int):Int×Option (List Int):=
 match f,explore p 1 aR with
 |some f,some g=>match f.runs.find? (j3 p m (ik (dT p 1 g.runs)))with
  |some row=>(2,some row)
  |none=>(1,none)
 |_,_=>(0,none)
structure Rep where
 done:Bool
 DG:List (List Int)
 verdict:Int
 afT:Int
 witness:Option (List Int)
 runs:Nat
 blocked:Int
def sd:Rep:=⟨false,[],0,0,none,0,0⟩
def abH (p:Prog) (kind:Int) (rows:List (List Atom)) (F:List (List Int)):Nat:=F.countP λf=>tg p.aC p.threads.length kind rows f
def qv (p:Prog) (kind:Int) (rows:List (List Atom)) (F:List (List Int)):Int:=
 if kind=1 then if 0<abH p kind rows F then 1 else 2 else if kind=2 then if F.length-abH p kind rows F=0 then 1 else 2 else 0
theorem Ll (p:Prog) (kind:Int) (rows:List (List Atom)) (d:zu):qt p.aC p.threads.length kind rows d=qv p kind rows (d.map al4):=by
 have:abH p kind rows (d.map al4)=kH p.aC p.threads.length kind rows d:=by
  unfold abH kH;rw[List.countP_map];rfl
 unfold qt qv;rw[this,alk]
def eL (p:Prog) (kind:Int) (rows:List (List Atom)) (m aR:Int):Rep:=
 match explore p m aR with
 |none=>sd
 |some f=>
  let s:=lh p m (some f) aR
  if s.1=0 then sd else
   let F:=ik (dT p m f.runs)
   ⟨true,F,qv p kind rows F,s.1,s.2,f.runs.length,f.blocked⟩
theorem DH {p:Prog} {kind:Int} {rows:List (List Atom)} {m a b:Int} (h:a<=b) (hd:(eL p kind rows m a).done=true):eL p kind rows m b=eL p kind rows m a:=by
 unfold eL at*;cases ha:explore p m a with
 |none=>rw[ha]at hd;cases hd
 |some f=>
  rw[ha]at hd;rw[tm h ha];simp only at hd⊢;have hs:(lh p m (some f) a).1≠0:=by
   intro h0;rw[if_pos h0]at hd;cases hd
  have:lh p m (some f) b=lh p m (some f) a:=by
   unfold lh at*;cases hg:explore p 1 a with
   |none=>rw[hg]at hs;exact absurd rfl hs
   |some g=>rw[tm h hg]
  rw[this]
theorem Lm (p:Prog) (kind:Int) (rows:List (List Atom)) (m:Int):eL p kind rows m (-1)=eL p kind rows m 0:=rfl
theorem Ln {p:Prog} {kind:Int} {rows:List (List Atom)} {m b:Int} (h:(eL p kind rows m b).done=false):eL p kind rows m b=sd:=by
 unfold eL at*;split;·rfl
 ·simp only at h⊢;split;·rfl
  ·rename_i f hf hs;rw[hf]at h;simp only at h;rw[if_neg hs]at h;cases h
theorem DI (d:List xI):d.flatMap nk=((d.map al4).flatten).map (Value.int .i64):=by
 induction d with
 |nil=>rfl
 |cons a d ih=>simp[ih,nk]
theorem Sz {c:Ctx} {w:World} {pM off size:Nat} (hM:MR c [] w) (jj:¬c.dY pM):CmpLays aK 86 #[] nk 20 H6 pM off size w:=by
 intro m os dk Ri x y;have kp:=H2 x.2 y.2;generalize hW:sortWorldK nk 20 w pM off m dk os=W;have jH:w.heap.size<=W.heap.size:=by rw[<-hW];exact size_sortWorldK_c nk 20 w pM off m dk os
 have sL:∀k,k<w.heap.size->k≠pM->W.heap[k]?=w.heap[k]?:=by
  intro k hk hb;rw[<-hW];unfold sortWorldK Sort.putRowK;rw[H8 _ _ _ (by unfold Sort.putRow Sort.mapBlock Sort.ahead;simpa using hk)];unfold Sort.putRow Sort.mapBlock;simp only[Array.getElem?_modify];rw[if_neg (Ne.symm hb)];rfl
 have hMW:MR ⟨λ_=>.free,c.dY⟩ [] W:=
  ⟨λid cells hi=>by simp[ai]at hi,λid mK b hi=>by simp[ai]at hi,λb hb=>Nat.lt_of_lt_of_le (hM.dY b hb) jH,
   hM.o7 (c':=⟨λ_=>.free,c.dY⟩) (λ_ h=>h) λb hb=>sL b (hM.dY b hb) λe=>jj (e▸hb)⟩
 have hr:bg ⟨λ_=>.free,c.dY⟩ W [.agg ((cc x.1).map .d),.agg ((cc y.1).map .d)] [.agg (nk x).toArray,.agg (nk y).toArray]:=by
  simp only[bg,Rel];exact⟨_,_,rfl,⟨_,rfl,(og _ _).2 rfl⟩,_,_,rfl,⟨_,rfl,(og _ _).2 rfl⟩,rfl⟩
 have h:=kp _ W _ hr hMW λ_ _=>rfl;refine(Yw h (λe w' ⟨v,r,m',c',he,_⟩=>by rw[he];exact λh=>by cases h)).mono ?_;rintro e w' ⟨⟨v,r,m',c',rfl,⟨rfl,rfl⟩,hv,-,nB,-⟩,uN⟩;simp only[Rel,dS]at hv;subst hv;refine⟨rfl,grown_of nB.os nB.tape nB.output nB.size (λk hk=>nB.di k hk ?_) uN.2⟩;rintro⟨id,h1,h2⟩;simp[ai]at h1
theorem DJ {l:List (List Int)} (lA:∀f∈l,f.length=20) (hn:l.length<4611686018427387904):
 bB aK 85 [.sl 0 20 0 l.length,.fn 86 []] [(0,(cS l).map .d)] λr m'=>r=.cC []/\m'=[(0,(cS (lC l)).map .d)]:=by
 intro c w vs hr hM js;simp only[bg,Rel]at hr;obtain⟨v1,vs1,rfl,h1,v2,vs2,rfl,⟨us,rfl,rfl⟩,rfl⟩:=hr;have hmb:∀ds VG:List AV,aE [(0,ds)]=aE [(0,VG)]:=λ_ _=>rfl;rcases h1 with⟨h0,-,El,a,rfl⟩|⟨b,cap,n,hb,rfl,hle,Tx,jH⟩
 ·have hl:=amb El;subst hl;refine(AnyF.slices_SortFunc_none Tryz.F2 a 0 _ w).mono ?_;rintro e w' ⟨rfl,rfl⟩;refine⟨_,.cC [],_,c,rfl,⟨rfl,rfl⟩,⟨[],rfl,by simp[bg]⟩,?_,Step.refl _ _ _,?_,?_,?_⟩;·simpa[lC,cS]using hM
  ·intro b hb;left;simpa[lC,cS]using hb
  ·intro id hid h;exact⟨by simpa[lC,cS]using h,rfl⟩
  ·intro id hid;exact js id (Nat.le_trans (Nat.le_max_left _ _) hid)
 ·obtain⟨d,hd⟩:∃d:List xI,d.map al4=l:=⟨l.pmap (λf h=>⟨f,h⟩) lA,by simp[List.map_pmap]⟩;subst hd;rcases hM.own 0 _ rfl with⟨h0,_⟩|⟨b',arr,T,f,gi,jj,pQ,hnf,vs,rest,ha,pC⟩|⟨b',es,kv,gi,_⟩;·rw[hb]at h0;cases h0
  ·rw[hb]at gi;cases gi;rw[Li]at pC;have B6:=(og _ _).1 pC;have hF:Sort.flatK nk 20 d.toArray=vs.toArray:=by
    rw[Lj (λa=>by simp[nk,a.2]) (by decide),B6,<-DI]
   have vw:b<w.heap.size:=(Array.getElem?_eq_some_iff.1 pQ).1;have hH:Sort.HoldsK nk 20 w b 0 d.toArray:=by
    unfold Sort.HoldsK;rw[hF];intro j hj;have A6:j<vs.length:=by simpa using hj
    have hja:arr[j]?=vs[j]?:=by rw[<-Array.getElem?_toList,ha,List.getElem?_append_left A6]
    refine⟨?_,?_⟩
    ·simp only[World.cell?,pQ,alo,alD,aly,if_false,hja];rw[getElem!_pos vs.toArray j hj];simp[A6]
    ·simp only[World.frozen?,pQ,alo];have hjs:j<arr.size:=by rw[<-Array.length_toList,ha];simp;omega
     rcases hnf with h|h;·simp;omega
     ·simp;omega
   have hM0:MR c [] w:=⟨λid cells hi=>by simp[ai]at hi,λid mK b hi=>by simp[ai]at hi,hM.dY,hM.zZ⟩;have eg:∀args w,(callFunc 86 args).run aK w=.ok (.enter 86 args) w:=λargs w=>lQ (by kernel_rfl) w;have hs:=AnyQ.slices_SortFunc_total Tryz.F2 20 (λw=>Tryz.isAgg93 w) (λw=>Tryz.sizeOf93 w) nk (λa=>by simp[nk,a.2])
    (λx v hv=>by simp only[nk,List.mem_map]at hv;obtain⟨n,_,rfl⟩:=hv;rfl) H6 aiF 86 #[] b 0 cap d.toArray w eg (Sz hM0 jj) hH vw (by simpa using hn) aiG
   simp only[List.size_toArray,List.append_nil]at hs;rw[alk];apply hs.mono;rintro e w' ⟨rfl,n,os,rfl⟩;have hF':Sort.flatK nk 20 (d.mergeSort λx y=>!(ltOf H6) y x).toArray=(((lC (d.map al4)).flatten).map (Value.int .i64)).toArray:=by
    rw[Lj (λa=>by simp[nk,a.2]) (by decide),<-Sv,DI]
   generalize Tv:sortWorldK nk 20 w b 0 n (d.mergeSort λx y=>!(ltOf H6) y x).toArray os=w';have yU:((lC (d.map al4)).flatten.map (Value.int .i64)).length=vs.length:=by
    rw[B6,alk,alk];exact(rD _).flatten.length_eq
   have B5:w'.heap[b]?=some (.cells ((((lC (d.map al4)).flatten).map (Value.int .i64))++rest).toArray T f):=by
    rw[<-Tv];unfold sortWorldK Sort.putRowK;rw[hF',H8 _ _ _ (by unfold Sort.putRow Sort.mapBlock Sort.ahead;simpa using vw)];exact Sw (w:=Sort.ahead w n) (F:=vs.toArray) pQ (by simpa using ha) (by simpa using yU)
   have hold:∀k,k<w.heap.size->k≠b->w'.heap[k]?=w.heap[k]?:=by
    intro k hk hkb;rw[<-Tv];unfold sortWorldK Sort.putRowK;rw[H8 _ _ _ (by unfold Sort.putRow Sort.mapBlock Sort.ahead;simpa using hk)];exact Yx hkb
   have hws:w.heap.size<=w'.heap.size:=by rw[<-Tv];exact size_sortWorldK_c nk 20 w b 0 n _ os
   have pV:arr.size=(((lC (d.map al4)).flatten.map (Value.int .i64))++rest).toArray.size:=by
    rw[<-Array.length_toList,ha];simp only[aln,List.size_toArray,yU]
   have mW:∀c':Ctx,bg c' w' ((cS (lC (d.map al4))).map .d) (((lC (d.map al4)).flatten).map (Value.int .i64)):=λc'=>by
    rw[Li];exact(og _ _).2 rfl
   have h00:∀id,(ai [(0,(cS (lC (d.map al4))).map AV.d)] id).isSome->id=0:=by
    intro id h;simp only[ai]at h;split at h;·rename_i e;exact e.symm
    ·simp at h
   refine⟨_,.cC [],_,c,rfl,⟨rfl,rfl⟩,⟨[],rfl,by simp[bg]⟩,?_,?_,?_,?_,?_⟩
   ·refine⟨λid cells hi=>?_,λid mK b h1 h2 _ _=>by rw[h00 id h1,h00 mK h2],λk hk=>Nat.lt_of_lt_of_le (hM.dY k hk) hws,hM.o7 (λ_ h=>h) λk hk=>hold k (hM.dY k hk) λe=>jj (e▸hk)⟩;have hid:=h00 id (by rw[hi];rfl);subst hid;simp only[ai,if_true,alJ]at hi;subst hi;refine .inr (.inl ⟨b,_,T,f,hb,jj,B5,by rw[<-pV];exact hnf,_,rest,rfl,mW c⟩)
   ·refine⟨by rw[<-Tv];rfl,by rw[<-Tv];rfl,by rw[<-Tv];rfl,hws,λk hk wD=>hold k hk λe=>wD ⟨0,rfl,by rw[e];exact j7.jU hb⟩,?_,λ_ h=>h,λ_ h=>.inl h⟩;intro k nn hk;by_cases hkb:k=b
    ·subst hkb;unfold dP at hk⊢;simp only[pQ]at hk;simp only[B5];rw[<-hk,pV]
    ·unfold dP at hk⊢;rw[hold k (by
      by_cases bn:k<w.heap.size;·exact bn
      ·rw[Array.getElem?_eq_none (by omega)]at hk;cases hk) hkb]
     exact hk
   ·rintro k ⟨id,h1,h2⟩;rw[h00 id h1]at h2;exact .inl ⟨0,rfl,h2⟩
   ·intro id hid h;rw[h00 id h];exact⟨rfl,rfl⟩
   ·intro id hid;exact js id (Nat.le_trans (Nat.le_max_left _ _) hid)
  ·rw[hb]at gi;cases gi
structure abI (w:Wk):Prop where
 steps:(w.steps.length:Int)<=w.ba
 runs:(w.runs.length:Int)<=w.ba+1
 rows:∀r∈w.runs,(r.length:Int)<=w.ba
 pb:w.ba<=w.aR
theorem vN (w:Wk) (v:Vm) (s:Nat):(eY w v s).steps=w.steps/\(eY w v s).ba=w.ba/\(eY w v s).aR=w.aR/\((eY w v s).runs=w.runs\/(eY w v s).runs=w.runs++[w.steps.map (·.pick)]):=by
 unfold eY;dsimp only;split;·exact⟨rfl,rfl,rfl,.inr rfl⟩
 ·split;·exact⟨rfl,rfl,rfl,.inl rfl⟩
  ·exact⟨rfl,rfl,rfl,.inl rfl⟩
theorem F5 {w:Wk} {v:Vm} {s:Nat} (h1:(w.steps.length:Int)<=w.ba) (h2:(w.runs.length:Int)<=w.ba) (h3:∀r∈w.runs,(r.length:Int)<=w.ba) (h4:w.ba<=w.aR):abI (eY w v s):=by
 obtain⟨e1,e2,e3,e4⟩:=vN w v s;refine⟨by rw[e1,e2];exact h1,?_,?_,by rw[e2,e3];exact h4⟩
 ·rw[e2];rcases e4 with e|e;·rw[e];omega
  ·rw[e];simp;omega
 ·rw[e2];rcases e4 with e|e;·rw[e];exact h3
  ·rw[e];intro r hr;rcases List.mem_append.1 hr with h|h;·exact h3 r h
   ·rw[List.mem_singleton.1 h];simpa using h1
theorem H9:∀(n:Nat) {w w':Wk},abI w->sb n w=some w'->abI w'/\w'.aR=w.aR
 |0,w,w',hi,h=>by simp[sb]at h
 |n+1,w,w',hi,h=>by
  cases hl:w.stack.getLast? with
  |none=>
   have t1:jf w=.done w:=by unfold jf;rw[hl]
   rw[xF n t1]at h;cases h;exact⟨hi,rfl⟩
  |some f=>
   by_cases hn:ea (dO f.back f.sleep)<0
   ·have t1:jf w=.on (qg w):=by unfold jf;rw[hl];simp only;rw[if_pos hn]
    rw[ta n t1]at h;refine H9 n (w:=qg w) ⟨?_,hi.runs,hi.rows,hi.pb⟩ h;have:=hi.steps;show((w.steps.dropLast).length:Int)<=w.ba;rw[List.length_dropLast];omega
   ·have t1:=vL hl hn;by_cases hm:w.aR<w.ba+1+((cH f.sleep).length:Int)
    ·rw[if_pos hm]at t1;rw[Dq n t1]at h;cases h
    ·rw[if_neg hm]at t1;rw[ta n t1]at h;have key:=H9 n (F5 (w:=iE {w with ba:=w.ba+1+((cH f.sleep).length:Int),stack:=w.stack.dropLast++[{f with sleep:=fq f.sleep (ea (dO f.back f.sleep))}],steps:=w.steps++[(cR f.v (ea (dO f.back f.sleep))).2.1]}) ?_ ?_ ?_ ?_) h;·exact⟨key.1,key.2.trans (vN _ _ _).2.2.1⟩
     ·show(((w.steps++[_]).length:Nat):Int)<=w.ba+1+_;have:=hi.steps;rw[aln];simp only[List.length_singleton];omega
     ·show(w.runs.length:Int)<=w.ba+1+_;have:=hi.runs;omega
     ·intro r hr;have:=hi.rows r hr;show(r.length:Int)<=w.ba+1+_;omega
     ·show w.ba+1+_<=w.aR;omega
theorem mQ {p:Prog} {m b:Int} {f:Found} (h:explore p m b=some f):f.runs.length<=2000001/\(∀r∈f.runs,r.length<=2000000):=by
 unfold explore at h;rw[alG]at h;obtain⟨w,hw,rfl⟩:=h;have h0:abI (CL p m b):=F5 (by simp) (by simp) (by simp) (by simp only;omega);obtain⟨hi,hb⟩:=H9 _ h0 hw;have iq:w.aR<=2000000:=by
  rw[hb];show(eY _ _ _).aR<=_;rw[(vN _ _ _).2.2.1];simp only;omega
 have h1:=hi.runs;have h2:=hi.pb;refine⟨by show w.runs.length<=2000001;omega,λr hr=>?_⟩;have:=hi.rows r hr;omega
theorem Ia (o:Option (List Int)):Dt o=.cC [.agg (dA (o.getD j2)),.d (.bool o.isSome)]:=by cases o<;>rfl
theorem SA {p:Prog} {m:Int} {ba f:List Int} (h:kY p m ba=some f):f.length=20:=by
 unfold kY at h;simp only at h;split at h;·cases h
 ·cases h;exact zl (HV (p:=p) ba (lY p m) 0 (BN p m) rfl).1
theorem Ib (p:Prog) (m:Int) (r:List Int):((kY p m r).getD j2).length=20:=by
 cases h:kY p m r with
 |none=>rfl
 |some f=>exact SA h
theorem qw (p:Prog) (m:Int) (runs:List (List Int)):∀f∈dT p m runs,f.length=20:=by
 intro f hf;obtain⟨r,_,rfl⟩:=List.mem_map.1 hf;exact Ib p m r
theorem oh (p:Prog) (m:Int) (runs:List (List Int)):(dT p m runs).length=runs.length:=by simp[dT]
theorem DK {p:Prog} {m:Int} {runs:List (List Int)} {i:Nat} (hi:i<runs.length):dT p m (runs.take (i+1))=dT p m (runs.take i)++[(kY p m runs[i]).getD j2]:=by
 unfold dT;rw[List.take_add_one,alw hi,al1];rfl
theorem BP {r:List Int} (h:r.length<=1000000000):de r (EP r):=by
 refine⟨by rw[alk];omega,.inr ?_⟩;unfold EP;rw[alk]
 congr 1
 simp
theorem DL {runs:List (List Int)} {i:Nat} (hi:i<runs.length):∃rest,(c8 runs).drop i=EP runs[i]::rest:=by
 unfold c8;rw[<-List.map_drop,List.drop_eq_getElem_cons hi];exact⟨_,rfl⟩
theorem rE (l:List (List Int)) (f:List Int):cT (l++[f])=cT l++dA f:=by rw[uf,jE];simp[cT,cS]
theorem tn {d:zu} {X:DV} (hX:dU mc d X) (hb:d.length<=100000000000):
 Pure aK 36 [.d X] (.d (.sl (ik (d.map al4)).length (cS (ik (d.map al4))))):=
 H0 (λl h=>Lh h) F4 (λh hn=>DJ h hn) hX hb
def xJ (m:Int) (pc:List DV) (X:DV) (n:Nat) (es:List (List Int)) (i:Nat):St:=
 ⟨[(1,au m),(3,.bw pc),(9,.sl 0 20 0 i),(22,.d X),(23,au n),(24,au i)],[(0,cT es)],1⟩
def mR (p:Prog) (m:Int):Option Found->AV
 |none=>.cC [.d .ct,.d (.bool false)]
 |some f=>.cC [.d (.sl (ik (dT p m f.runs)).length (cS (ik (dT p m f.runs)))),.d (.bool true)]
theorem rF (x:List Int) (hx:x.length=20):putAt ((cc j2).map AV.d) 0 (dA x)=dA x:=iP (by rw[fG hx];rfl)
theorem Lo {p:Prog} {I T:DV} (hI:de p.init I) (hT:cQ Ins.cells p.threads T) (h:En p) {m:Int} (jX:1<=m) (Ai:m<=3) {runs:List (List Int)} (pC:runs.length<=2000001) (uS:∀r∈runs,r.length<=2000000) {Q:Exit->St->Prop}
 (hQ:Q (.exit 0) (xJ m [aX p.aC,I,T] (.sl runs.length (c8 runs)) runs.length (dT p m runs) runs.length)):
 fP aK (aE []) 42 (.loop Nv) (xJ m [aX p.aC,I,T] (.sl runs.length (c8 runs)) runs.length (dT p m (runs.take 0)) 0) Q:=by
 have Em:(c8 runs).length=runs.length:=qq ..;refine bS (λi=>xJ m [aX p.aC,I,T] (.sl runs.length (c8 runs)) runs.length (dT p m (runs.take i)) i) runs.length ?_;intro i hi;unfold Nv;by_cases bn:i<runs.length
 ·have aQ:(i:Int)<runs.length:=by omega
  have hw:=cY (i:=i) (by omega);obtain⟨rest,bT⟩:=DL bn;have hr:=uS _ (alR bn);have kp:=oN hI hT h jX Ai (BP (r:=runs[i]) (by omega)) (by omega);rw[Ia]at kp;have cy:=DK (p:=p) (m:=m) bn;have hx:=Ib p m runs[i];have pU:(dT p m (runs.take i)).length=i:=by rw[oh,List.length_take];omega
  have lA:=qw p m (runs.take i);generalize runs[i]=row at bT kp cy hx;generalize (kY p m row).getD j2=x at kp cy hx;generalize (kY p m row).isSome=b at kp;generalize dT p m (runs.take i)=es at cy pU lA;have hec:(cT es).length=i*20:=by rw[eV lA,pU]
  have pN:=fG hx;have fw:=tf x;have SB:=rF x hx;have hzl:((cc j2).map AV.d).length=20:=rfl;have ur:(cc j2).length=20:=rfl;have Sj:=n4 (f:=j2) (n:=1) (by decide);have Yy:(i+1)*160<=140737488351232:=by omega
  have qU:aN (some 20) (dA x)=some (.agg (dA x)):=by rw[ep,pN,if_pos (ali _),alx (by omega)]
  have Lp:(dA x).take 20=dA x:=alx (by omega);unfold xJ;refine J λK hK=>?_;simp only[go_sem,aQ,decide_true];apply hK;refine aa λK1 aT=>?_;refine aM ?_;apply ar;apply aT;refine aa λK1 aT=>?_;apply ax;refine J λK hK=>?_;simp only[go_sem,alm,aQ,bn,alj,bT,Em,alV];refine hK _ (J λK hK=>?_);simp only[go_sem,aN];refine a8 (kp) ?_;simp only[go_sem,ql,lZ,Sj,hzl,ur,pN,fw,SB,alo,ali];apply hK;refine ag rfl ?_;simp only[go_sem,qU,Lp,ql,lZ,alk,ur,pN,fw,SB,alo,ali,hec,Yy];apply aT;refine ag rfl ?_;simp only[go_sem,hw]
  exact⟨bn,(aB.cj [(3,0)] ⟨by simp[aV,ah,AV.aA,aj,af,xJ,cy,rE,cL,te],by simp[aL,aF,ai,ak,aj,AV.aA,af,ae,-alh,xJ,cy,rE,cL,te],rfl,rfl⟩)⟩
 ·have du:i=runs.length:=by omega
  subst du;have aQ:¬(runs.length:Int)<runs.length:=by omega
  rw[alx (ali _)];unfold xJ;refine J λK hK=>?_;simp only[go_sem,aQ,decide_false];apply hK;refine aa λK1 aT=>?_;refine aH ?_;refine aw (S':=xJ m [aX p.aC,I,T] (.sl runs.length (c8 runs)) runs.length (dT p m runs) runs.length) (aB.cj [(0,0)] ⟨by simp[aV,ah,AV.aA,aj,af,xJ,cL],by simp[aL,aF,ai,ak,aj,AV.aA,af,ae,-alh,xJ,cL],rfl,rfl⟩) ?_;exact aW hQ
theorem Lq {p:Prog} {I T:DV} (hI:de p.init I) (hT:cQ Ins.cells p.threads T) (h:En p) {m:Int} (jX:1<=m) (Ai:m<=3) (aR:Int):
 Pure aK 80 [.agg [.d (aX p.aC),.d I,.d T],au m,au aR] (mR p m (explore p m aR)):=by
 have ke:=xG hI hT h jX Ai aR;have ZI:=λf (h:explore p m aR=some f)=>mQ h;generalize explore p m aR=res at ke ZI;refine ay func80 aaS ntmps80 results80 rfl ?_;unfold ah8;refine J λK hK=>?_;simp only[go_sem];apply hK;refine aw (aB.jl (S':=⟨[(1,au m),(2,au aR),(3,.bw [aX p.aC,I,T]),(6,.d .ct),(7,.d (.bool false))],[],0⟩) [] [(0,[aX p.aC,I,T])] ⟨by simp[fb,ah,AV.cv,db,bI,af],by simp[fx,aF,bI,ai,ak,aG,db,AV.cv,af,cD,bh,-alh],rfl,rfl,by simp[bG,bI,ai,ak,aG,db,AV.cv,cD,bh,-alh]⟩) ?_;cases res with
 |none=>
  simp only[lf,alz,alL]at ke;refine J λK hK=>?_;simp only[go_sem,aN];refine a8 (ke) ?_;simp only[go_sem];apply hK;refine aa λK1 aT=>?_;refine J λK hK=>?_;simp only[go_sem];apply hK;refine aM ?_;refine J λK hK=>?_;simp only[go_sem];apply hK;apply an;exact⟨.cC [.d .ct,.d (.bool false)],by simp[bj,aP,bt,ah,ai,ak,aG,mR],[],[],rfl,rfl,by simp[aL,aF,ai,ak,aG,aj,AV.aA,af,ae,-alh,mR],by simp[AV.aA,aj,af,mR]⟩
 |some f=>
  obtain⟨pC,uS⟩:=ZI f rfl;simp only[lf,alz,alL]at ke;have Em:(c8 f.runs).length=f.runs.length:=qq ..;refine J λK hK=>?_;simp only[go_sem,aN];refine a8 (ke) ?_;simp only[go_sem];apply hK;refine aa λK1 aT=>?_;refine J λK hK=>?_;simp only[go_sem];apply hK;refine aH ?_;apply ar;refine aT _ (J λK hK=>?_);simp only[go_sem];apply hK;refine aa λKE fV=>?_;refine J λK hK=>?_;simp only[go_sem];apply hK;apply ax;refine aw (aB.nil 9 20 rfl rfl) ?_
  refine aw (S':=xJ m [aX p.aC,I,T] (.sl f.runs.length (c8 f.runs)) f.runs.length [] 0) (aB.cj [(1,0)] ⟨by simp[aV,ah,AV.aA,aj,af,xJ,cT,cS],by simp[aL,aF,ai,ak,aj,AV.aA,af,ae,-alh,xJ,cT,cS],rfl,rfl⟩) ?_;have key:=Lo hI hT h jX Ai pC uS (Q:=Exit.kq 0 (Exit.jQ KE (nC aK #[.tmp 6,.tmp 7] (aE []) λr m'=>r=mR p m (some f)/\m'=[]))) ?_
  ·exact key
  show KE _;apply fV;have lA:=qw p m f.runs;have pU:=oh p m f.runs;obtain⟨d,hd,hdX⟩:=BO lA (by omega);have ks:=tn hdX (by have:=congrArg List.length hd;simp at this;omega);rw[hd]at ks;have pq:(cS (dT p m f.runs)).take (f.runs.length*20)=cS (dT p m f.runs):=alx (by have:=eV lA;unfold cT at this;rw[alk]at this;omega);rw[pU]at ks;unfold mR;simp only;generalize dT p m f.runs=es at*;unfold xJ cT
  refine aw (aB.jl (S':=⟨[(9,.d (.sl f.runs.length (cS es)))],[],0⟩) [] [(0,cS es)] ⟨by simp[fb,ah,AV.cv,db,bI,af,pq],by simp[fx,aF,bI,ai,ak,aG,db,AV.cv,af,cD,bh,-alh,pq],rfl,rfl,by simp[bG,bI,ai,ak,aG,db,AV.cv,cD,bh,-alh,pq]⟩) ?_;refine J λK hK=>?_;simp only[go_sem];refine a8 (ks) ?_;simp only[go_sem];apply hK;apply an;exact⟨.cC [.d (.sl (ik es).length (cS (ik es))),.d (.bool true)],by simp[bj,aP,bt,ah,ai,ak,aG],[],[],rfl,rfl,by simp[aL,aF,ai,ak,aG,aj,AV.aA,af,ae,-alh],by simp[AV.aA,aj,af]⟩
def ltF (f g:List Int):Prop:=uB f g<0
theorem BQ {f g:List Int}:leF f g=true↔uB f g<=0:=by
 unfold leF;rw[Bool.not_eq_true',decide_eq_false_iff_not,F3 f g];omega
theorem Ic (l:List (List Int)):(lC l).Pairwise λa b=>leF a b=true:=by
 refine List.pairwise_mergeSort (λa b c h1 h2=>?_) (λa b=>?_) l
 ·rw[BQ]at*;exact(oP a b c 20 0 h1 h2).1
 ·rw[Bool.or_eq_true,BQ,BQ,F3 a b];omega
theorem F6:∀(r:List (List Int)) (p:List Int),p.length=20->(∀f∈r,f.length=20)->(∀f∈r,leF p f=true)->(r.Pairwise λa b=>leF a b=true)->(p::ja p r).Pairwise ltF
 | [],p,_,_,_,_=>List.pairwise_singleton _ _
 |b::r,p,hp,lA,hle,hs=>by
  have hb:=lA b alU;obtain⟨s1,s2⟩:=List.pairwise_cons.1 hs;have ih:=F6 r b hb (λf hf=>lA f (alY _ hf)) s1 s2;have hpb:=hle b alU;by_cases h:b=p
  ·subst h;rw[ja,if_pos rfl];exact ih
  ·rw[ja,if_neg h];refine List.pairwise_cons.2 ⟨λc hc=>?_,ih⟩;have bn:uB p b<0:=by
    rw[BQ]at hpb;by_cases h0:uB p b=0;·exact absurd (Ql hp hb h0).symm h
    ·omega
   rcases alW.1 hc with rfl|hc;·exact bn
   ·have hbc:=(List.pairwise_cons.1 ih).1 c hc;have t:=oP p b c 20 0 (by unfold uB at bn;omega) (by unfold ltF uB at hbc;omega);unfold ltF uB at*;by_cases h0:cJ p c 0 20=0;·have:=(t.2 h0).1;omega
    ·omega
theorem Og {l:List (List Int)} (lA:∀f∈l,f.length=20):(ik l).Pairwise ltF:=by
 unfold ik;have hs:=Ic l;have h:=Lh lA;cases hl:lC l with
 |nil=>exact List.Pairwise.nil
 |cons a r=>
  rw[hl]at hs h;obtain⟨s1,s2⟩:=List.pairwise_cons.1 hs;exact F6 r a (h a alU) (λf hf=>h f (alY _ hf)) s1 s2
theorem Yz {F:List (List Int)} (h:F.Pairwise ltF) {i:Nat} (hi:i<F.length):F[i]∉F.take i:=by
 intro hm;obtain⟨j,hj,he⟩:=List.getElem_of_mem hm;rw[List.length_take]at hj;rw[List.getElem_take]at he;have:=List.pairwise_iff_getElem.1 h j i (by omega) hi (by omega);rw[he]at this;unfold ltF at this;rw[Su]at this;omega
def pH:List Nat:=[0,0,0,0,0,0,0,0,0,0,0,0,0,0,0,0,0,0,0,0]
def wj (l:List (List Int)):List AV:=l.flatMap λk=>[.agg (dA k),au 1]
theorem uh (l:List (List Int)):(wj l).length=2*l.length:=by
 induction l with
 |nil=>rfl
 |cons a l ih=>unfold wj at*;rw[alO,aln,ih];simp;omega
theorem YA (l:List (List Int)) (x:List Int):wj (l++[x])=wj l++[.agg (dA x),au 1]:=by simp[wj]
theorem mS (π:Nat->Option Nat) (l:List (List Int)):aj π (wj l)=wj l:=by
 induction l with
 |nil=>rfl
 |cons a l ih=>unfold wj at*;rw[alO,ae,ih];simp[aj,AV.aA,te]
theorem Oh:∀{l:List (List Int)} {x:List Int} (_:∀f∈l,f.length=20) (_:x.length=20),x∉l->j8 pH (dA x) (wj l)=some none
 | [],x,_,_,_=>rfl
 |a::l,x,h,hx,hn=>by
  have ha:=h a alU;have pe:¬x=a:=λe=>hn (e▸alU);have ih:=Oh (λf hf=>h f (alY _ hf)) hx (λhm=>hn (alY _ hm));show j8 pH (dA x) (.agg (dA a)::au 1::wj l)=_;rw[j8,show cw pH (dA x) (dA a)=some (decide (x=a)) from AM hx ha,decide_eq_false pe,ih];rfl
theorem Qm:∀{l:List (List Int)} {x:List Int} (_:∀f∈l,f.length=20) (_:x.length=20),x∈l->∃j,j8 pH (dA x) (wj l)=some (some j)/\(wj l)[2*j+1]?=some (au 1)
 | [],x,_,_,hm=>by cases hm
 |a::l,x,h,hx,hm=>by
  have ha:=h a alU;by_cases he:x=a
  ·refine⟨0,?_,rfl⟩;show j8 pH (dA x) (.agg (dA a)::au 1::wj l)=_;rw[j8,show cw pH (dA x) (dA a)=some (decide (x=a)) from AM hx ha,decide_eq_true he]
  ·rcases alW.1 hm with e|hm;·exact absurd e he
   ·obtain⟨j,h1,h2⟩:=Qm (λf hf=>h f (alY _ hf)) hx hm;refine⟨j+1,?_,?_⟩
    ·show j8 pH (dA x) (.agg (dA a)::au 1::wj l)=_;rw[j8,show cw pH (dA x) (dA a)=some (decide (x=a)) from AM hx ha,decide_eq_false he,h1];rfl
    ·show(AV.agg (dA a)::au 1::wj l)[2*(j+1)+1]?=_;rw[show 2*(j+1)+1=(2*j+1)+1+1 by omega,List.getElem?_cons_succ,List.getElem?_cons_succ];exact h2
theorem Qn {l:List (List Int)} {x:List Int} (h:∀f∈l,f.length=20) (hx:x.length=20) (hn:x∉l):wm pH (au 0) (dA x) (wj l)=some (au 0,false):=by
 unfold wm;rw[if_pos (by rw[fG hx];rfl),Oh h hx hn]
theorem YB {l:List (List Int)} {x:List Int} (h:∀f∈l,f.length=20) (hx:x.length=20) (hn:x∈l):wm pH (au 0) (dA x) (wj l)=some (au 1,true):=by
 obtain⟨j,h1,h2⟩:=Qm h hx hn;unfold wm;rw[if_pos (by rw[fG hx];rfl),h1];simp only[h2,alX]
theorem YC {l:List (List Int)} {x:List Int} (h:∀f∈l,f.length=20) (hx:x.length=20) (hn:x∉l):B2 pH (au 0) (dA x) (wj l)=some (au 0,l.length,wj l++[.agg (dA x),au 0]):=by
 unfold B2;rw[if_pos (by rw[fG hx];rfl),Oh h hx hn];simp only[uh,Nat.mul_div_cancel_left _ (show 0<2 by decide)]
theorem Qo:∀{l:List (List Int)} {x:List Int} (_:∀f∈l,f.length=20) (_:x.length=20),x∉l->j8 pH (dA x) (wj l++[.agg (dA x),au 0])=some (some l.length)
 | [],x,_,hx,_=>by
   show j8 pH (dA x) [.agg (dA x),au 0]=_;rw[j8,show cw pH (dA x) (dA x)=some (decide (x=x)) from AM hx hx,decide_eq_true rfl];rfl
 |a::l,x,h,hx,hn=>by
  have ha:=h a alU;have pe:¬x=a:=λe=>hn (e▸alU);have ih:=Qo (λf hf=>h f (alY _ hf)) hx (λhm=>hn (alY _ hm));show j8 pH (dA x) (.agg (dA a)::au 1::(wj l++[.agg (dA x),au 0]))=_;rw[j8,show cw pH (dA x) (dA a)=some (decide (x=a)) from AM hx ha,decide_eq_false pe,ih];rfl
theorem YD {l:List (List Int)} {x:List Int} (h:∀f∈l,f.length=20) (hx:x.length=20) (hn:x∉l):wm pH (au 0) (dA x) (wj l++[.agg (dA x),au 0])=some (au 0,true):=by
 unfold wm;rw[if_pos (by rw[fG hx];rfl),Qo h hx hn];simp only;rw[List.getElem?_append_right (by rw[uh];omega),uh,Nat.add_sub_cancel_left];rfl
theorem SC (l:List (List Int)) (x:List Int):(wj l++[AV.agg (dA x),au 0]).set (2*l.length+1) (au 1)=wj (l++[x]):=by
 rw[YA,List.set_append_right _ _ (by rw[uh];omega),uh,Nat.add_sub_cancel_left];rfl
end
end Go.Proofs.YtadocofdkdiboaaGreatDoor
namespace Go.Jq
open Go
def stepG (P:Program) (o:bC) (S:St) (K:St->Prop):Prop:=
 match o.guard with
 |none=>nD P o S K
 |some (g,want)=>match ah S.t g with
  |.d (.bool b)=>if b=want then nD P o S K else K ⟨cG S.t o.dst (.cC []),S.m,S.n⟩
  |.cC _=>K ⟨cG S.t o.dst (.cC []),S.m,S.n⟩
  |_=>False
def pI (ms:List Nat) (L:Nat):List Nat:=(alI ms.length).filter λi=>!L.testBit i&&(ms.getD i 0&&&L==ms.getD i 0)
def mD (P:Program) (al:List bC) (ms:List Nat) (K:St->Prop):Nat->Nat->St->Prop
 |0,L,S=>pI ms L=[]/\K S
 |f+1,L,S=>(pI ms L=[]->K S)/\∀i∈pI ms L,match al[i]?with
  |some ao=>stepG P ao S (mD P al ms K f (L|||2^i))
  |none=>False
theorem Lr (i:Nat):∀(l:List Edge) (s:Nat),(s.testBit i=true\/∃e∈l,Region.binds .any e=true/\e.on=i)->(l.foldl (λs e=>if Region.binds .any e then s|||2^e.on else s) s).testBit i=true
 | [],s,h=>by
   rcases h with h|⟨e,he,_⟩;·exact h
   ·cases he
 |e::l,s,h=>by
  simp only[al2];refine Lr i l _ ?_;rcases h with h|⟨e',Ty,h1,h2⟩
  ·left;split;·rw[Nat.testBit_or,h];rfl
   ·exact h
  ·rcases alW.1 Ty with rfl|Ty
   ·left;rw[if_pos h1,Nat.testBit_or,h2,Nat.testBit_two_pow_self,Bool.or_true]
   ·exact .inr ⟨e',Ty,h1,h2⟩
theorem Oi (m L:Nat):(m&&&L==m)=true↔∀b,m.testBit b=true->L.testBit b=true:=by
 rw[beq_iff_eq];constructor
 ·intro h b hb;rw[<-h,Nat.testBit_and,alE]at hb;exact hb.2
 ·intro h;apply Nat.eq_of_testBit_eq;intro b;rw[Nat.testBit_and];cases hb:m.testBit b with
  |false=>rfl
  |true=>rw[h b hb];rfl
section
variable{P:Program} {k:Nat} {ops:Array Oper}
theorem zx {listed:Array Bool} {L:Nat} (jH:listed.size=ops.size) (hL:∀i,L.testBit i=listed.getD i false) (i:Nat):i∈pI (ga ops) L↔i∈Region.ready .any ops listed:=by
 rw[mem_ready];unfold pI;rw[List.mem_filter,List.mem_range,alE,Bool.not_eq_true',Oi];have hlen:(ga ops).length=ops.size:=by simp[ga]
 rw[hlen];constructor
 ·rintro⟨h1,h2,h3⟩;have hi:i<listed.size:=by omega
  refine⟨?_,ops[i],by simp[h1],λe he hb=>?_⟩
  ·have:=hL i;rw[h2]at this;simp[hi]at this⊢;exact this
  ·rw[<-hL];refine h3 _ ?_;have:(ga ops).getD i 0=(ops[i]).after.toList.foldl (λs e=>if Region.binds .any e then s|||2^e.on else s) 0:=by
    simp[ga,h1]
   rw[this];exact Lr _ _ _ (.inr ⟨e,by simpa using he,hb,rfl⟩)
 ·rintro⟨h1,o,ho,h3⟩;have hi:i<ops.size:=(Array.getElem?_eq_some_iff.1 ho).1;have gK:i<listed.size:=by omega
  refine⟨hi,?_,λb hb=>?_⟩
  ·rw[hL];simp[gK]at h1⊢;exact h1
  ·have:(ga ops).getD i 0=o.after.toList.foldl (λs e=>if Region.binds .any e then s|||2^e.on else s) 0:=by
    have e:ops[i]=o:=(Array.getElem?_eq_some_iff.1 ho).2;simp[ga,hi,e]
   rw[this]at hb;rcases yY b _ _ hb with h|⟨e,he,h4,h5⟩;·simp at h
   ·rw[hL,<-h5];exact h3 e (by simpa using he) h4
theorem SD {listed:Array Bool} {L:Nat} (jH:listed.size=ops.size) (hL:∀i,L.testBit i=listed.getD i false):Region.ready .any ops listed=[]->pI (ga ops) L=[]:=by
 intro h;rw[List.eq_nil_iff_forall_not_mem];intro i hi;rw[zx jH hL,h]at hi;cases hi
theorem xK {E:Env} {al:List bC} {Q:Exit->Act->World->Prop} {K:St->Prop} (hc:jW P ops k ops.toList=some al) (hK:∀S' a' w',K S'->ml E k S' a' w'->Q .normal a' w'):
 ∀(fuel L:Nat) (listed:Array Bool) (S:St) (a:Act) (w:World),listed.size=ops.size->(∀i,L.testBit i=listed.getD i false)->E.n<=S.n->ml E k S a w->mD P al (ga ops) K fuel L S->
  wpAny P .any ops Q fuel listed a w
 |0,L,listed,S,a,w,jH,hL,_,r7,h=>⟨by
  rw[List.eq_nil_iff_forall_not_mem];intro i hi;rw[<-zx jH hL,h.1]at hi;exact absurd hi (List.not_mem_nil),hK _ _ _ h.2 r7⟩
 |fuel+1,L,listed,S,a,w,jH,hL,hn,r7,h=>by
  refine⟨λh0=>hK _ _ _ (h.1 (SD jH hL h0)) r7,λi hi=>?_⟩;have h1:=h.2 i ((zx jH hL i).2 hi);obtain⟨_,o,ho,_⟩:=mem_ready.1 hi;have sf:∃ao,al[i]?=some ao/\rN P ops k o=some ao:=by
   have key:∀(l:List Oper) (al:List bC),jW P ops k l=some al->∀(i:Nat) (o:Oper),l[i]?=some o->∃ao,al[i]?=some ao/\rN P ops k o=some ao:=by
    intro l;induction l with
    |nil=>intro al _ i o ho;simp at ho
    |cons x l ih=>
     intro al hc i o ho;simp only[jW]at hc;split at hc
     ·rename_i ao r' e1 e2;cases hc;cases i with
      |zero=>simp at ho;subst ho;exact⟨ao,rfl,e1⟩
      |succ i=>exact ih r' e2 i o (by simpa using ho)
     ·cases hc
   exact key _ _ hc i o (by rw[Array.getElem?_toList];exact ho)
  obtain⟨ao,Bw,sf⟩:=sf;rw[Bw]at h1;simp only at h1;have yU:(listed.setIfInBounds i true).size=ops.size:=by simp[jH]
  have gK:i<listed.size:=by rw[jH];exact(Array.getElem?_eq_some_iff.1 ho).1
  have hL':∀j,(L|||2^i).testBit j=(listed.setIfInBounds i true).getD j false:=by
   intro j;rw[Nat.testBit_or,Nat.testBit_two_pow];by_cases ZF:i=j
   ·subst ZF;simp[gK]
   ·rw[getD_set_ne false ZF,<-hL j];simp[ZF]
  have next:∀S' a' w',mD P al (ga ops) K fuel (L|||2^i) S'->ml E k S' a' w'->S.n<=S'.n->wpAny P .any ops Q fuel (listed.setIfInBounds i true) a' w':=
   λS' a' w' hs Bu hle=>xK hc hK fuel _ _ S' a' w' yU hL' (Nat.le_trans hn hle) Bu hs
  obtain⟨hg,hd,Ri⟩:=mZ sf;unfold wpOp;simp only[ho];unfold stepG at h1;split at h1
  ·rename_i hgn;rw[hgn]at hg;rw[if_pos (Cj hg _)];exact .inl (Bv sf hn next r7 h1)
  ·rename_i g want hgs;rw[hgs]at hg;split at h1
   ·rename_i b hb;obtain⟨c,iW,hp⟩:=id r7;have hw:=wL hg iW.fr hb;split at h1
    ·rename_i Uz;rw[hw,if_pos (by simpa using Uz)];exact .inl (Bv sf hn next r7 h1)
    ·rename_i Uz;rw[hw,if_neg (by simpa using Uz)];refine next ⟨cG S.t ao.dst (.cC []),S.m,S.n⟩ _ _ h1 ?_ (ali _)
     rw[hd];exact pZ iW hp hn Ri (.inl (p8 _ _)) iW.mr (Step.refl _ _ _) (λ_ h=>.inl h) (λ_ _=>rfl) (λ_ _ h=>h) iW.free rfl
   ·rename_i cs hb;obtain⟨c,iW,hp⟩:=r7;have hw:=Fo hg iW.fr hb;rw[hw,if_neg (by simp)];refine next ⟨cG S.t ao.dst (.cC []),S.m,S.n⟩ _ _ h1 ?_ (ali _)
    rw[hd];exact pZ iW hp hn Ri (.inl (p8 _ _)) iW.mr (Step.refl _ _ _) (λ_ h=>.inl h) (λ_ _=>rfl) (λ_ _ h=>h) iW.free rfl
   ·exact h1.elim
theorem DM {n0:Nat} {S:St} {Q:Exit->St->Prop} {id:Nat} {al:List bC} (hm:P.follows .mixedOrders=true) (hc:jW P ops k ops.toList=some al) (hn:n0<=S.n)
 (h:mD P al (ga ops) (λS'=>Q .normal S') (ga ops).length 0 S):Ci P n0 k (.region id ops true) S Q:=by
 intro E hE a w r7;refine wp_region_any hm ?_;have Ae:ml E k S a {w with drawn:=w.drawn+1}:=Ft r7 rfl rfl rfl rfl;have hlen:(ga ops).length=ops.size:=by simp[ga]
 rw[hlen]at h;refine xK hc (K:=λS'=>Q .normal S') (λS' a' w' h1 h2=>⟨S',h1,h2⟩) ops.size 0 _ S a _ (by simp) (λi=>?_) (hE▸hn) Ae h;rw[Nat.zero_testBit,Array.getD_eq_getD_getElem?];by_cases hi:i<ops.size;·simp[hi]
 ·rw[Array.getElem?_eq_none (by simpa using Nat.le_of_not_lt hi)];rfl
theorem tq {n0:Nat} {S:St} {Q:Exit->St->Prop} {al:List bC} {ms:List Nat} (hm:P.follows .mixedOrders=true) (hn:decide (n0<=S.n)=true) (h:mD P al ms (λS'=>Q .normal S') ms.length 0 S):
 fP P n0 k (.region true al ms) S Q:=by
 intro code hc;cases code with
 |region id ops draw=>
  simp only[cX]at hc;split at hc
  ·rename_i al' tK;split at hc
   ·rename_i hd;split at hc
    ·cases hc;subst hd;exact DM hm tK (of_decide_eq_true hn) h
    ·cases hc
   ·cases hc
  ·cases hc
 |cond c a b=>simp only[cX]at hc;repeat' split at hc
              all_goals cases hc
 |seq a b=>simp only[cX]at hc;repeat' split at hc
           all_goals cases hc
 |_=>simp[cX]at hc
theorem AR {al:List bC} {ms:List Nat} {K:St->Prop} {f L:Nat} {S:St} (l:List Nat) (hl:pI ms L=l) (pe:l≠ []) (h:∀i∈l,match al[i]?with
 |some ao=>stepG P ao S (mD P al ms K f (L|||2^i))
 |none=>False):mD P al ms K (f+1) L S:=by
 subst hl;exact⟨λh0=>absurd h0 pe,h⟩
theorem AU {al:List bC} {ms:List Nat} {K:St->Prop} {f L:Nat} {S:St} (hl:pI ms L=[]) (h:K S):mD P al ms K f L S:=by
 cases f with
 |zero=>exact⟨hl,h⟩
 |succ f=>exact⟨λ_=>h,λi hi=>by rw[hl]at hi;cases hi⟩
theorem zy {o:bC} {S:St} {K:St->Prop} (h:bN P [o] S K):stepG P o S K:=by
 unfold stepG;simp only[bN]at h;exact h
theorem DN {al:List bC} {ms:List Nat} {K:St->Prop} {f L i:Nat} {S:St} {ao:bC} (hl:pI ms L=[i]) (ha:al[i]?=some ao) (h:bN P [ao] S (mD P al ms K f (L|||2^i))):mD P al ms K (f+1) L S:=by
 refine AR [i] hl (by simp) ?_;intro j hj;simp only[alW,List.not_mem_nil,or_false]at hj;subst hj;rw[ha];exact zy h
theorem DO {al:List bC} {ms:List Nat} {K:St->Prop} {f L i j:Nat} {S:St} {ao bo:bC} (hl:pI ms L=[i,j]) (ha:al[i]?=some ao) (hb:al[j]?=some bo)
 (h:bN P [ao] S (mD P al ms K f (L|||2^i))) (h':bN P [bo] S (mD P al ms K f (L|||2^j))):mD P al ms K (f+1) L S:=by
 refine AR [i,j] hl (by simp) ?_;intro k hk;simp only[alW,List.not_mem_nil,or_false]at hk;rcases hk with rfl|rfl;·rw[ha];exact zy h
 ·rw[hb];exact zy h'
end
end Go.Jq
namespace Go.Proofs.YtadocofdkdiboaaGreatDoor
open Go.Proofs.Tryz
open Go.Proofs.Tryz renaming prog → aK
section
open Go Go.Jq
def oQ:Option (List Int)->DV
 |none=>.ct
 |some r=>if r=[]then .ct else EP r
def Qp (m:Int) (pc fc:List DV) (X:DV) (n:Nat) (l:List (List Int)) (i:Nat):St:=
 ⟨[(1,au m),(4,.bw pc),(6,.bw fc),(12,.uF 0),(33,.d X),(34,au n),(35,au i)],[(0,.cC []::wj l)],1⟩
theorem SE {F:List (List Int)} (lA:∀f∈F,f.length=20) (hr:F.Pairwise ltF) (hn:F.length<=1000000000) (m:Int) (pc fc:List DV) {Q:Exit->St->Prop}
 (hQ:Q (.exit 0) (Qp m pc fc (.sl F.length (cS F)) F.length F F.length)):
 fP aK (aE []) 70 (.loop Nt) (Qp m pc fc (.sl F.length (cS F)) F.length (F.take 0) 0) Q:=by
 refine bS (λi=>Qp m pc fc (.sl F.length (cS F)) F.length (F.take i) i) F.length ?_;intro i hi;unfold Nt;have r5:(cS F).length=F.length*20:=by have:=eV lA;unfold cT at this;rwa[alk]at this
 by_cases bn:i<F.length
 ·have aQ:(i:Int)<F.length:=by omega
  have hw:=cY (i:=i) (by omega);have qU:=oO lA bn;unfold cT at qU;rw[<-List.map_drop]at qU;have B5:=Yz hr bn;have hx:=lA _ (alR bn);have cy:F.take (i+1)=F.take i++[F[i]]:=by rw[List.take_add_one,alw bn];rfl
  have Lp:∀f∈F.take i,f.length=20:=λf hf=>lA f (List.mem_of_mem_take hf);have Pq:(F.take i).length=i:=by rw[List.length_take];omega
  generalize F[i]=x at qU B5 hx cy;generalize F.take i=l at B5 cy Lp Pq;have q1:=Qn Lp hx B5;have q2:=YC Lp hx B5;have q3:=SC l x;unfold pH at q1 q2;rw[Pq]at q2 q3;have Ug:(wj l).length=2*i:=by rw[uh,Pq]
  have pN:=fG hx;have fw:=tf x;have SB:=rF x hx;have ur:(cc j2).length=20:=rfl;have Sj:=n4 (f:=j2) (n:=1) (by decide);have TK:aN (some 20) (dA x)=some (.agg (dA x)):=by rw[ep,pN,if_pos (ali _),alx (by omega)]
  have aky:i*20<F.length*20:=by omega
  have h21:2*i+1<(wj l++[AV.agg (dA x),au 0]).length:=by rw[aln,Ug];simp
  have qC:alv.wrap (0+1)=1:=by decide
  unfold Qp;refine J λK hK=>?_;simp only[go_sem,aQ,decide_true];apply hK;refine aa λK1 aT=>?_;refine aM ?_;apply ar;apply aT;refine aa λK1 aT=>?_;apply ax;refine J λK hK=>?_;simp only[go_sem,alm,aQ,bn,alj,r5,aky,qU,ql,lZ,Sj,alk,ur,pN,fw,SB,alo,ali];apply hK;have q4:=YD Lp hx B5;unfold pH at q4;refine tq rfl rfl ?_
  repeat' (first
   |(refine DO rfl rfl rfl ?_ ?_<;>simp only[go_sem,TK,q1,q2,q4,alm,alj,h21,qC,q3])
   |(refine DN rfl rfl ?_;simp only[go_sem,TK,q1,q2,q4,alm,alj,h21,qC,q3]))
  all_goals refine AU rfl ?_
  all_goals(apply aT;clear aT;refine ag rfl ?_)
  all_goals simp only[go_sem,hw]
  all_goals exact⟨bn,(aB.cj [(0,0)] ⟨by simp[aV,ah,AV.aA,aj,af,Qp,cy,mS],by simp[aL,aF,ai,ak,aj,AV.aA,af,ae,Qp,cy,mS,-alh],rfl,rfl⟩)⟩
 ·have du:i=F.length:=by omega
  subst du;have aQ:¬(F.length:Int)<F.length:=by omega
  rw[alx (ali _)];unfold Qp;refine J λK hK=>?_;simp only[go_sem,aQ,decide_false];apply hK;refine aa λK1 aT=>?_;refine aH ?_;refine aw (S':=Qp m pc fc (.sl F.length (cS F)) F.length F F.length) (aB.cj [(0,0)] ⟨by simp[aV,ah,AV.aA,aj,af,Qp,mS],by simp[aL,aF,ai,ak,aj,AV.aA,af,ae,-alh,Qp,mS],rfl,rfl⟩) ?_;exact aW hQ
def YE (m:Int) (pc:List DV) (X:DV) (n:Nat) (F:List (List Int)) (i:Nat):St:=
 ⟨[(1,au m),(4,.bw pc),(12,.uF 0),(47,.d X),(48,au n),(49,au i)],[(0,.cC []::wj F)],1⟩
theorem Oj {p:Prog} {I T:DV} (hI:de p.init I) (hT:cQ Ins.cells p.threads T) (h:En p) {m:Int} (jX:1<=m) (Ai:m<=3) {runs:List (List Int)} (pC:runs.length<=2000001) (uS:∀r∈runs,r.length<=2000000)
 {F:List (List Int)} (lA:∀f∈F,f.length=20) {R:AV} (hR:R=(match runs.find? (j3 p m F)with
  |some row=>.cC [au 2,.d (oQ (some row))]
  |none=>.cC [au 1,.d .ct])) {KE:St->Prop}
 (fV:∀S',fP aK (aE []) 70 (.seq (.region false [oM 8 (.mv (.c (au 1))),oM 9 (.mv (.c (.d .ct)))] []) .ret) S' (nC aK #[.tmp 8,.tmp 9] (aE []) λr m'=>r=R/\m'=[])->KE S'):
 fP aK (aE []) 70 (.loop Nu) (YE m [aX p.aC,I,T] (.sl runs.length (c8 runs)) runs.length F 0) (Exit.kq 2 (Exit.jQ KE (nC aK #[.tmp 8,.tmp 9] (aE []) λr m'=>r=R/\m'=[]))):=by
 have Em:(c8 runs).length=runs.length:=qq ..;refine ef (ι:={i:Nat//i<=runs.length/\∀r∈runs.take i,j3 p m F r=false}) (λi=>YE m [aX p.aC,I,T] (.sl runs.length (c8 runs)) runs.length F i.1) (λi=>runs.length-i.1) ⟨0,alZ _,λr hr=>by simp at hr⟩ ?_;rintro⟨i,hi,wD⟩;dsimp only;unfold Nu;by_cases bn:i<runs.length
 ·have aQ:(i:Int)<runs.length:=by omega
  have hw:=cY (i:=i) (by omega);obtain⟨rest,bT⟩:=DL bn;have hr:=uS _ (alR bn);have kp:=oN hI hT h jX Ai (BP (r:=runs[i]) (by omega)) (by omega);rw[Ia]at kp;have hx:=Ib p m runs[i];have cy:j3 p m F runs[i]=false->∀r∈runs.take (i+1),j3 p m F r=false:=λe r hr=>by
   rw[List.take_add_one,alw bn]at hr;rcases List.mem_append.1 hr with h1|h1;·exact wD r h1
   ·simp at h1;rw[h1];exact e
  have Qq:j3 p m F runs[i]=true->runs.find? (j3 p m F)=some runs[i]:=λe=>by
   rw[List.find?_eq_some_iff_getElem];refine⟨e,i,bn,rfl,λj hj=>?_⟩;have:=wD runs[j] (List.mem_take_iff_getElem.2 ⟨j,by omega,rfl⟩);rw[this];rfl
  have pe:j3 p m F runs[i]=(match kY p m runs[i]with
   |some x=>!decide (x∈F)
   |none=>false):=rfl
  rw[pe]at cy Qq;generalize runs[i]=row at bT kp hx hr cy Qq;generalize kY p m row=o at kp hx cy Qq;have pN:=fG hx;have fw:=tf (o.getD j2);have SB:=rF _ hx;have ur:(cc j2).length=20:=rfl;have Sj:=n4 (f:=j2) (n:=1) (by decide);have TK:aN (some 20) (dA (o.getD j2))=some (.agg (dA (o.getD j2))):=by rw[ep,pN,if_pos (ali _),alx (by omega)]
  unfold YE;refine J λK hK=>?_;simp only[go_sem,aQ,decide_true];apply hK;refine aa λK1 aT=>?_;refine aM ?_;apply ar;apply aT;refine aa λK1 aT=>?_;apply ax;refine J λK hK=>?_;simp only[go_sem,alm,aQ,bn,alj,bT,Em,alV];apply hK;cases o with
  |none=>
   simp only[Option.getD_none,alD]at*;refine J λK hK=>?_;simp only[go_sem,aN];refine a8 (kp) ?_;simp only[go_sem,ql,lZ,Sj,alk,ur,pN,fw,SB,alo,ali];refine hK _ (J λK hK=>?_);simp only[go_sem];apply hK;refine aH ?_;apply ar;simp only[go_sem];apply aT;refine ag rfl ?_;simp only[go_sem,hw];refine⟨⟨i+1,bn,cy trivial⟩,by simp only;omega,?_⟩;exact aB.cj [(0,0)] ⟨by simp[aV,ah,AV.aA,aj,af,YE,mS],by simp[aL,aF,ai,ak,aG,aj,AV.aA,af,ae,-alh,YE,mS],rfl,rfl⟩
  |some x=>
   simp only[al6,alH]at*;by_cases hm:x∈F
   ·have q1:=YB lA hx hm;unfold pH at q1;refine J λK hK=>?_;simp only[go_sem,aN];refine a8 (kp) ?_;simp only[go_sem,ql,lZ,Sj,alk,ur,pN,fw,SB,alo,ali];refine hK _ (J λK hK=>?_);simp only[go_sem,TK,q1];apply hK;refine aH ?_;apply ar;simp only[go_sem];apply aT;refine ag rfl ?_;simp only[go_sem,hw];refine⟨⟨i+1,bn,cy (by rw[decide_eq_true hm];rfl)⟩,by simp only;omega,?_⟩;exact aB.cj [(0,0)] ⟨by simp[aV,ah,AV.aA,aj,af,YE,mS],by simp[aL,aF,ai,ak,aG,aj,AV.aA,af,ae,-alh,YE,mS],rfl,rfl⟩
   ·have q1:=Qn lA hx hm;unfold pH at q1;rw[Qq (by rw[decide_eq_false hm];rfl)]at hR;simp only at hR;subst hR;refine J λK hK=>?_;simp only[go_sem,aN];refine a8 (kp) ?_;simp only[go_sem,ql,lZ,Sj,alk,ur,pN,fw,SB,alo,ali];refine hK _ (J λK hK=>?_);simp only[go_sem,TK,q1];apply hK;refine aM ?_;unfold EP;have h8:row.length*8<=140737488351232:=by omega
    cases row with
    |nil=>
     refine J λK hK=>?_;simp only[go_sem,alB,alL,Nat.zero_mul,alZ];apply hK;apply an;exact⟨.cC [au 2,.d .ct],by simp[bj,aP,bt,ah,ai,ak,aG,oQ],[],[],rfl,rfl,by simp[aL,aF,ai,ak,aG,aj,AV.aA,af,ae,-alh,oQ],by simp[AV.aA,aj,af,oQ]⟩
    |cons a r=>
     have Mo:((a::r).map λi=>DV.int .i64 i).length=(a::r).length:=alk ..;have wC:oQ (some (a::r))=.sl (a::r).length ((a::r).map λi=>DV.int .i64 i):=rfl;have hz:¬(a::r).length=0:=by simp
     rw[wC];have pq:((a::r).map λi=>DV.int .i64 i).take (a::r).length=(a::r).map λi=>DV.int .i64 i:=alx (by rw[Mo];exact ali _);generalize ((a::r).map λi=>DV.int .i64 i)=ds at Mo pq;generalize (a::r).length=k at Mo pq h8 hz;refine J λK hK=>?_;simp only[go_sem,Mo,alV,h8,hz];apply hK;refine aw (aB.jl (S':=⟨[(8,au 2),(9,.d (.sl k ds))],[],0⟩) [] [(2,ds)] ⟨by simp[fb,ah,AV.cv,db,bI,af,pq],by simp[fx,aF,bI,ai,ak,aG,db,AV.cv,af,cD,bh,-alh,pq],rfl,rfl,by simp[bG,bI,ai,ak,aG,db,AV.cv,cD,bh,-alh,pq]⟩) ?_;apply an
     exact⟨.cC [au 2,.d (.sl k ds)],by simp[bj,aP,bt,ah,ai,ak,aG],[],[],rfl,rfl,by simp[aL,aF,ai,ak,aG,aj,AV.aA,af,ae,-alh],by simp[AV.aA,aj,af]⟩
 ·have du:i=runs.length:=by omega
  subst du;have aQ:¬(runs.length:Int)<runs.length:=by omega
  rw[alx (ali _)]at wD;have hfn:runs.find? (j3 p m F)=none:=List.find?_eq_none.2 λr hr=>by rw[wD r hr];exact Bool.false_ne_true
  rw[hfn]at hR;simp only at hR;subst hR;unfold YE;refine J λK hK=>?_;simp only[go_sem,aQ,decide_false];apply hK;refine aa λK1 aT=>?_;refine aH ?_;apply aW;show KE _;refine fV _ (J λK hK=>?_);simp only[go_sem];apply hK;apply an;exact⟨.cC [au 1,.d .ct],by simp[bj,aP,bt,ah,ai,ak,aG],[],[],rfl,rfl,by simp[aL,aF,ai,ak,aG,aj,AV.aA,af,ae,-alh],by simp[AV.aA,aj,af]⟩
def vO (s:Int×Option (List Int)):AV:=.cC [au s.1,.d (oQ s.2)]
theorem Ol {p:Prog} {I T:DV} (hI:de p.init I) (hT:cQ Ins.cells p.threads T) (h:En p) {m:Int} (jX:1<=m) (Ai:m<=3) {res:Option Found} (ZI:∀f,res=some f->f.runs.length<=2000001/\∀r∈f.runs,r.length<=2000000) (aR:Int):
 Pure aK 34 [.agg [.d (aX p.aC),.d I,.d T],au m,.agg ((lf res).map .d),au aR] (vO (lh p m res aR)):=by
 have kf:=Lq hI hT h (m:=1) (by omega) (by omega) aR;have tr:=λf (h:explore p 1 aR=some f)=>mQ h;unfold lh;generalize explore p 1 aR=g at kf tr;cases res with
 |none=>
  have hR:vO (match(none:Option Found),g with
   |some f,some g=>match f.runs.find? (j3 p m (ik (dT p 1 g.runs)))with
    |some row=>(2,some row)
    |none=>(1,none)
   |_,_=>(0,none))=.cC [au 0,.d .ct]:=rfl
  rw[hR];refine ay func34 He ntmps34 results34 rfl ?_;unfold aaM;simp only[lf,alz,alL];refine J λK hK=>?_;simp only[go_sem];apply hK;refine aw (aB.jl (S':=⟨[(1,au m),(3,au aR),(4,.bw [aX p.aC,I,T]),(6,.bw [.ct,.int .i64 0,.int .i64 0,.bool false]),(8,au 0),(9,.d .ct)],[],0⟩) [] [(0,[aX p.aC,I,T]),(1,[.ct,.int .i64 0,.int .i64 0,.bool false])] ⟨by simp[fb,ah,AV.cv,db,bI,af],by simp[fx,aF,bI,ai,ak,aG,db,AV.cv,af,cD,bh,-alh],rfl,rfl,by simp[bG,bI,ai,ak,aG,db,AV.cv,cD,bh,-alh]⟩) ?_;cases g with
  |none=>
   unfold mR at kf;refine J λK hK=>?_;simp only[go_sem,aN];refine a8 (kf) ?_;simp only[go_sem];apply hK;refine aa λK1 aT=>?_;refine J λK hK=>?_;simp only[go_sem];apply hK;refine aM ?_;refine J λK hK=>?_;simp only[go_sem];apply hK;apply an;exact⟨.cC [au 0,.d .ct],by simp[bj,aP,bt,ah,ai,ak,aG],[],[],rfl,rfl,by simp[aL,aF,ai,ak,aG,aj,AV.aA,af,ae,-alh],by simp[AV.aA,aj,af]⟩
  |some g=>
   unfold mR at kf;refine J λK hK=>?_;simp only[go_sem,aN];refine a8 (kf) ?_;simp only[go_sem];apply hK;refine aa λK1 aT=>?_;refine J λK hK=>?_;simp only[go_sem];apply hK;refine aM ?_;refine J λK hK=>?_;simp only[go_sem];apply hK;apply an;exact⟨.cC [au 0,.d .ct],by simp[bj,aP,bt,ah,ai,ak,aG],[],[],rfl,rfl,by simp[aL,aF,ai,ak,aG,aj,AV.aA,af,ae,-alh],by simp[AV.aA,aj,af]⟩
 |some f=>
  obtain⟨pC,uS⟩:=ZI f rfl;cases g with
  |none=>
   have hR:vO (0,none)=.cC [au 0,.d .ct]:=rfl;simp only[hR];unfold mR at kf;refine ay func34 He ntmps34 results34 rfl ?_;unfold aaM;simp only[lf,alz,alL];refine J λK hK=>?_;simp only[go_sem];apply hK
   refine aw (aB.jl (S':=⟨[(1,au m),(3,au aR),(4,.bw [aX p.aC,I,T]),(6,.bw [.sl f.runs.length (c8 f.runs),.int .i64 f.blocked,.int .i64 f.ba,.bool true]),(8,au 0),(9,.d .ct)],[],0⟩) [] [(0,[aX p.aC,I,T]),(1,[.sl f.runs.length (c8 f.runs),.int .i64 f.blocked,.int .i64 f.ba,.bool true])] ⟨by simp[fb,ah,AV.cv,db,bI,af],by simp[fx,aF,bI,ai,ak,aG,db,AV.cv,af,cD,bh,-alh],rfl,rfl,by simp[bG,bI,ai,ak,aG,db,AV.cv,cD,bh,-alh]⟩) ?_;refine J λK hK=>?_;simp only[go_sem,aN];refine a8 (kf) ?_;simp only[go_sem];apply hK;refine aa λK1 aT=>?_;refine J λK hK=>?_;simp only[go_sem];apply hK;refine aM ?_
   refine J λK hK=>?_;simp only[go_sem];apply hK;apply an;exact⟨.cC [au 0,.d .ct],by simp[bj,aP,bt,ah,ai,ak,aG],[],[],rfl,rfl,by simp[aL,aF,ai,ak,aG,aj,AV.aA,af,ae,-alh],by simp[AV.aA,aj,af]⟩
  |some g=>
   obtain⟨hgl,hgr⟩:=tr g rfl;have lA:=qw p 1 g.runs;have abJ:=DF lA;have hFr:=Og lA;have hFl:=zw (dT p 1 g.runs);rw[oh]at hFl;simp only;have hR:∀R,R=vO (match f.runs.find? (j3 p m (ik (dT p 1 g.runs)))with
    |some row=>(2,some row)
    |none=>(1,none))->R=(match f.runs.find? (j3 p m (ik (dT p 1 g.runs)))with
    |some row=>.cC [au 2,.d (oQ (some row))]
    |none=>.cC [.d (.int .i64 1),.d .ct]):=λR e=>by
    rw[e];cases f.runs.find? (j3 p m (ik (dT p 1 g.runs)))<;>rfl
   have hR:=hR _ rfl;generalize vO (match f.runs.find? (j3 p m (ik (dT p 1 g.runs)))with
    |some row=>(2,some row)
    |none=>(1,none))=R at hR⊢
   unfold mR at kf;simp only at kf;generalize ik (dT p 1 g.runs)=F at*;refine ay func34 He ntmps34 results34 rfl ?_;unfold aaM;simp only[lf,alz,alL];refine J λK hK=>?_;simp only[go_sem];apply hK
   refine aw (aB.jl (S':=⟨[(1,au m),(3,au aR),(4,.bw [aX p.aC,I,T]),(6,.bw [.sl f.runs.length (c8 f.runs),.int .i64 f.blocked,.int .i64 f.ba,.bool true]),(8,au 0),(9,.d .ct)],[],0⟩) [] [(0,[aX p.aC,I,T]),(1,[.sl f.runs.length (c8 f.runs),.int .i64 f.blocked,.int .i64 f.ba,.bool true])] ⟨by simp[fb,ah,AV.cv,db,bI,af],by simp[fx,aF,bI,ai,ak,aG,db,AV.cv,af,cD,bh,-alh],rfl,rfl,by simp[bG,bI,ai,ak,aG,db,AV.cv,cD,bh,-alh]⟩) ?_;refine J λK hK=>?_;simp only[go_sem,aN];refine a8 (kf) ?_;simp only[go_sem];apply hK;refine aa λK1 aT=>?_;refine J λK hK=>?_;simp only[go_sem];apply hK;refine aH ?_;apply ar
   refine aT _ (J λK hK=>?_);simp only[go_sem];apply hK;refine aa λKE fV=>?_;refine J λK hK=>?_;simp only[go_sem];apply hK;apply ax;refine aw (S':=Qp m [aX p.aC,I,T] [.sl f.runs.length (c8 f.runs),.int .i64 f.blocked,.int .i64 f.ba,.bool true] (.sl F.length (cS F)) F.length (F.take 0) 0) (aB.cj [(0,0)] ⟨by simp[aV,ah,AV.aA,aj,af,Qp,wj],by simp[aL,aF,ai,ak,aj,AV.aA,af,ae,-alh,Qp,wj],rfl,rfl⟩) ?_;refine SE abJ hFr (by omega) m _ _ ?_;show KE _;apply fV;refine aa λKE fV=>?_;unfold Qp;refine J λK hK=>?_;simp only[go_sem];apply hK;apply ax
   refine aw (S':=YE m [aX p.aC,I,T] (.sl f.runs.length (c8 f.runs)) f.runs.length F 0) (aB.cj [(0,0)] ⟨by simp[aV,ah,AV.aA,aj,af,YE,mS],by simp[aL,aF,ai,ak,aj,AV.aA,af,ae,-alh,YE,mS],rfl,rfl⟩) ?_;exact Oj hI hT h jX Ai pC uS abJ hR fV
def ixB (aC:List UInt8) (c:Int) (i:Nat):St:=⟨[(0,.d (aX aC)),(1,.d (.int .u8 c)),(7,au aC.length),(8,au i)],[],0⟩
theorem AW {aC:List UInt8} (hb:aC.length<=1000) (c:Int):Pure aK 76 [.d (aX aC),.d (.int .u8 c)] (au (place aC c)):=by
 have vw:jV (.d (aX aC))=some aC.length:=rfl;refine ay func76 aaP ntmps76 results76 rfl ?_;unfold ah5;refine J λK hK=>?_;simp only[go_sem];apply hK;refine aa λKE fV=>?_;refine J λK hK=>?_;simp only[go_sem,vw];apply hK;apply ax;refine aw (S':=ixB aC c 0) (aB.cj [] ⟨by simp[aV,ah,AV.aA,aj,af,ixB],by simp[aL,aF,ai,ak,aj,AV.aA,af,ae,-alh,ixB],rfl,rfl⟩) ?_;refine ef (ι:={i:Nat//i<=aC.length/\∀j (h:j<aC.length),j<i->(aC[j].toNat:Int)≠c}) (λi=>ixB aC c i.1) (λi=>aC.length-i.1) ⟨0,alZ _,λj _ h=>absurd h (by omega)⟩ ?_;rintro⟨i,hi,pe⟩;dsimp only;unfold Wi;by_cases bn:i<aC.length
 ·have aQ:(i:Int)<aC.length:=by omega
  have hw:=cY (i:=i) (by omega);obtain⟨rest,bT⟩:=US aC i bn;unfold ixB;refine J λK hK=>?_;simp only[go_sem,aQ,decide_true];apply hK;refine aa λK1 aT=>?_;refine aM ?_;apply ar;apply aT;refine aa λK1 aT=>?_;apply ax;refine J λK hK=>?_;simp only[go_sem];apply hK;by_cases hc:c=(aC[i].toNat:Int)
  ·have hp:=J5 bn hc.symm pe;refine J λK hK=>?_;simp only[go_sem,aX,alm,aQ,bn,alj,bT,alk,eq_true hc,decide_true];apply hK;refine aM ?_;refine J λK hK=>?_;simp only[go_sem];apply hK;apply an;exact⟨au (i:Nat),by simp[bj,aP,bt,ah,ai,ak,aG,hp],[],[],rfl,rfl,by simp[aL,aF,ai,ak,aG,aj,AV.aA,af,ae,-alh,hp],by simp[AV.aA,aj,af,hp]⟩
  ·refine J λK hK=>?_;simp only[go_sem,aX,alm,aQ,bn,alj,bT,alk,eq_false hc,decide_false];apply hK;refine aH ?_;apply ar;simp only[go_sem];apply aT;refine ag rfl ?_;simp only[go_sem,hw];refine⟨⟨i+1,bn,λj hj h1=>?_⟩,by simp only;omega,?_⟩
   ·by_cases h2:j<i;·exact pe j hj h2
    ·have:j=i:=by omega
     subst this;exact λh=>hc h.symm
   ·exact aB.cj [] ⟨by simp[aV,ah,AV.aA,aj,af,ixB,aX],by simp[aL,aF,ai,ak,aG,aj,AV.aA,af,ae,-alh,ixB,aX],rfl,rfl⟩
 ·have du:i=aC.length:=by omega
  subst du;have aQ:¬(aC.length:Int)<aC.length:=by omega
  have hp:=XG (aC:=aC) (x:=c) λj h=>pe j h h;unfold ixB;refine J λK hK=>?_;simp only[go_sem,aQ,decide_false];apply hK;refine aa λK1 aT=>?_;refine aH ?_;apply aW;show KE _;refine fV _ (J λK hK=>?_);simp only[go_sem];apply hK;apply an;exact⟨au (-1),by simp[bj,aP,bt,ah,ai,ak,aG,hp],[],[],rfl,rfl,by simp[aL,aF,ai,ak,aG,aj,AV.aA,af,ae,-alh,hp],by simp[AV.aA,aj,af,hp]⟩
theorem EX {aC:List UInt8} (hb:aC.length<=1000) {x:Int} (hx0:0<=x) (hx:x<256) (n:Nat) (cs:List DV):
 bB aK 75 [au x,.ptr 0 0] [(0,[.d (aX aC),.sl 1 1 0 n,.d .ct]),(1,cs.map .d)] λr m'=>r=au (place aC x)/\m'=[(0,[.d (aX aC),.sl 1 1 0 n,.d .ct]),(1,cs.map .d)]:=by
 have hw:IntKind.u8.wrap x=x:=by
  simp only[IntKind.wrap,IntKind.signed,IntKind.bits];simp;omega
 have ki:=AW hb x;refine ay func75 Pv ntmps75 results75 rfl ?_;unfold afm;refine J λK hK=>?_;simp only[go_sem];refine hK _ (J λK hK=>?_);simp only[go_sem,hw];refine a8 (ki) ?_;simp only[go_sem];apply hK;apply an;exact⟨au (place aC x),by simp[bj,aP,bt,ah,ai,ak,aG],[(0,0),(1,1)],[(0,[.d (aX aC),.sl 1 1 0 n,.d .ct]),(1,cs.map .d)],rfl,rfl,by simp[aL,aF,ai,ak,aG,aj,AV.aA,af,ae,-alh],by simp[AV.aA,aj,af]⟩
theorem EY {aC:List UInt8} (hb:aC.length<=1000) {x:Int} (hx0:0<=x) (hx:x<256) (Iv:DV) (n:Nat) (cs:List DV):
 bB aK 75 [au x,.ptr 0 0] [(0,[.d (aX aC),.d Iv,.sl 1 1 0 n]),(1,cs.map .d)] λr m'=>r=au (place aC x)/\m'=[(0,[.d (aX aC),.d Iv,.sl 1 1 0 n]),(1,cs.map .d)]:=by
 have hw:IntKind.u8.wrap x=x:=by
  simp only[IntKind.wrap,IntKind.signed,IntKind.bits];simp;omega
 have ki:=AW hb x;refine ay func75 Pv ntmps75 results75 rfl ?_;unfold afm;refine J λK hK=>?_;simp only[go_sem];refine hK _ (J λK hK=>?_);simp only[go_sem,hw];refine a8 (ki) ?_;simp only[go_sem];apply hK;apply an;exact⟨au (place aC x),by simp[bj,aP,bt,ah,ai,ak,aG],[(0,0),(1,1)],[(0,[.d (aX aC),.d Iv,.sl 1 1 0 n]),(1,cs.map .d)],rfl,rfl,by simp[aL,aF,ai,ak,aG,aj,AV.aA,af,ae,-alh],by simp[AV.aA,aj,af]⟩
def nN (aC:List UInt8) (vs:List Int) (x:Init):List Int:=vs.set (place aC x.loc).toNat x.value
def qx (aC:List UInt8) (vs:List Int) (l:List Init) (i:Nat):List Int:=(l.take i).foldl (nN aC) vs
theorem Om (aC:List UInt8) (vs:List Int) {l:List Init} {i:Nat} (hi:i<l.length):qx aC vs l (i+1)=nN aC (qx aC vs l i) l[i]:=by
 unfold qx;rw[List.take_add_one,alw hi,List.foldl_append];rfl
theorem pA (aC:List UInt8):∀(l:List Init) (vs:List Int),(l.foldl (nN aC) vs).length=vs.length
 | [],_=>rfl
 |a::l,vs=>by rw[al2,pA];simp[nN]
theorem abK (vs:List Int) (i:Nat) (x:Int):((oX vs).map AV.d).set i (au x)=(oX (vs.set i x)).map AV.d:=by
 unfold oX;rw[List.map_set,List.map_set]
def Qr (aC:List UInt8) (tc:List DV) (X:DV) (n:Nat) (vs:List Int) (i:Nat):St:=
 ⟨[(1,.bw tc),(2,.ptr 0 0),(5,.ptr 1 0),(6,.fn 75 [.ptr 1 0]),(29,.d X),(30,au n),(31,au i)],
  [(0,[.d .ct,.d .ct,.d .ct]),(1,[.d (aX aC),.sl 2 1 0 aC.length,.d .ct]),(2,(oX vs).map .d)],3⟩
theorem Ls {aC:List UInt8} (hb:aC.length<=26) {l:List Init} {X:DV} (hX:dU Init.cells l X) (tc:List DV) (hl:∀x∈l,0<=x.loc/\x.loc<256/\0<=place aC x.loc/\place aC x.loc<aC.length) {vs:List Int} (hv:vs.length=aC.length) {Q:Exit->St->Prop}
 (hQ:Q (.exit 0) (Qr aC tc X l.length (l.foldl (nN aC) vs) l.length)):
 fP aK (aE []) 91 (.loop Nq) (Qr aC tc X l.length (qx aC vs l 0) 0) Q:=by
 have fk:=hX.1;refine bS (λi=>Qr aC tc X l.length (qx aC vs l i) i) l.length ?_;intro i hi;unfold Nq;have AE:(qx aC vs l i).length=aC.length:=by unfold qx;rw[pA,hv]
 by_cases bn:i<l.length
 ·have aQ:(i:Int)<l.length:=by omega
  have hw:=cY (i:=i) (by omega);obtain⟨cs,rest,gL,bT,cq⟩:=hX.at (w:=2) (λ_=>rfl) (by decide) i bn;have cy:=Om aC vs bn;have hx:=hl _ (alR bn);generalize l[i]=x at bT cy hx;generalize qx aC vs l i=u at AE cy;obtain⟨q0,q1,q2,q3⟩:=hx;have kp:=EX (aC:=aC) (by omega) q0 q1 aC.length (oX u);unfold nN at cy;obtain⟨k,hk⟩:∃k:Nat,place aC x.loc=k:=⟨(place aC x.loc).toNat,by omega⟩;rw[hk]at kp q2 q3 cy;rw[alj]at cy;have I5:(k:Int)<aC.length:=q3;have TJ:k<aC.length:=by omega
  have po:(oX u).length=aC.length:=by simp[oX,AE]
  have hk3:k+1<=aC.length:=by omega
  have jk:=abK u k x.value;unfold Qr;refine J λK hK=>?_;simp only[go_sem,aQ,decide_true];apply hK;refine aa λK1 aT=>?_;refine aM ?_;apply ar;apply aT;refine aa λK1 aT=>?_;apply ax;refine J λK hK=>?_;simp only[go_sem,gL,alm,aQ,bn,alj,cq,bT,Init.cells];apply hK;refine az rfl rfl ?_;simp only[go_sem];refine⟨rfl,?_⟩
  refine GM [(0,1),(1,2)] [au x.loc,.ptr 0 0] [(0,[.d (aX aC),.sl 1 1 0 aC.length,.d .ct]),(1,(oX u).map .d)] (nb:=1000) (kp) (by simp[bX]) (by first|(simp[aj,AV.aA,af];done)|simp[aj,AV.aA,af,alm,I5,TJ,alj,alo,alV,alk,po,hk3,jk]) (by first|(simp[bZ,cd,af];done)|simp[bZ,cd,af,alm,I5,TJ,alj,alo,alV,alk,po,hk3,jk]) (by simp[handed,af,ai,ak,aG,aj,AV.aA,bZ,cd,dL,alm,I5,TJ,alj,alo,alV,alk,po,hk3,jk]) rfl (λ_=>rfl) ?_;simp only[go_sem,fE,alz,alL,bx,bR,bU,ai,ak,aG,cf,af,aj,bQ,AV.aA,alH,alD,alF,alK,alM,aly,alm,I5,TJ,alj,alo,alV,alk,po,hk3,jk];refine⟨rfl,?_⟩;apply aT;refine ag rfl ?_;simp only[go_sem,hw]
  exact⟨bn,(aB.cj [(0,0),(1,1),(2,2)] ⟨by simp[aV,ah,AV.aA,aj,af,Qr,gL,<-cy],by simp[aL,aF,ai,ak,aj,AV.aA,af,ae,-alh,Qr,gL,<-cy],rfl,rfl⟩)⟩
 ·have du:i=l.length:=by omega
  subst du;have aQ:¬(l.length:Int)<l.length:=by omega
  have akz:qx aC vs l l.length=l.foldl (nN aC) vs:=by unfold qx;rw[alx (ali _)]
  rw[akz];unfold Qr;refine J λK hK=>?_;simp only[go_sem,aQ,decide_false];apply hK;refine aa λK1 aT=>?_;refine aH ?_;refine aw (S':=Qr aC tc X l.length (l.foldl (nN aC) vs) l.length) (aB.cj [(0,0),(1,1),(2,2)] ⟨by simp[aV,ah,AV.aA,aj,af,Qr],by simp[aL,aF,ai,ak,aj,AV.aA,af,ae,-alh,Qr],rfl,rfl⟩) ?_;exact aW hQ
def YF (x:Ins) (v:Int):Ins:={x with loc:=v}
def fH (aC:List UInt8) (x:Ins):Ins:=if x.kind=1\/x.kind=2\/x.kind=4 then YF x (place aC x.loc)else x
def F7 (aC:List UInt8) (tc:List DV) (Iv:DV) (T:DV) (n:Nat) (ds:List DV) (i:Nat) (ls:List Ins) (k:Nat):St:=
 ⟨[(1,.bw tc),(2,.ptr 0 0),(5,.ptr 1 0),(6,.fn 75 [.ptr 1 0]),(46,.d T),(47,au n),(48,au i),(10,.sl 3 9 0 ls.length),(54,.sl 3 9 0 ls.length),(55,au ls.length),(56,au k)],
  [(0,[.d .ct,.d .ct,.d .ct]),(1,[.d (aX aC),.d Iv,.sl 2 1 0 i]),(2,ds.map .d),(3,(ls.flatMap Ins.cells).map .d)],4⟩
theorem F8 (l:List Ins):(l.flatMap Ins.cells).length=l.length*9:=by
 induction l with
 |nil=>rfl
 |cons a l ih=>rw[alO,aln,ih,alu];show 9+_=_;omega
theorem DP:∀(l:List Ins) (k:Nat),(l.flatMap Ins.cells).drop (k*9)=(l.drop k).flatMap Ins.cells
 |l,0=>by simp
 | [],k+1=>by simp
 |a::l,k+1=>by
  rw[alO,show(k+1)*9=(Ins.cells a).length+k*9 by show _=9+k*9;omega,List.drop_append,List.drop_eq_nil_of_le (by omega),al8,Nat.add_sub_cancel_left,List.drop_succ_cons];exact DP l k
theorem YG {l:List Ins} {k:Nat} (hk:k<l.length):∃rest,((l.flatMap Ins.cells).map AV.d).drop (k*9)=(Ins.cells l[k]).map AV.d++rest:=by
 rw[<-List.map_drop,DP,List.drop_eq_getElem_cons hk,alO,al1];exact⟨_,rfl⟩
theorem SF {l:List Ins} {k:Nat} (hk:k<l.length) (v:Int):((l.flatMap Ins.cells).map AV.d).set (k*9+2) (au v)=((l.set k (YF l[k] v)).flatMap Ins.cells).map AV.d:=by
 induction l generalizing k with
 |nil=>simp at hk
 |cons a l ih=>
  cases k with
  |zero=>rfl
  |succ k=>
   have hk':k<l.length:=by simpa using hk
   simp only[List.getElem_cons_succ];rw[List.set_cons_succ,alO,alO,al1,al1,List.set_append_right _ _ (by simp[Ins.cells];omega)]
   congr 1
   rw[<-ih hk']
   congr 1
   simp[Ins.cells];omega
def l5 (aC:List UInt8) (l:List Ins) (k:Nat):List Ins:=(l.take k).map (fH aC)++l.drop k
theorem F9 (aC:List UInt8) (l:List Ins) (k:Nat):(l5 aC l k).length=l.length:=by unfold l5;simp;omega
theorem DQ (aC:List UInt8) {l:List Ins} {k:Nat} (hk:k<l.length):(l5 aC l k)[k]'(by rw[F9];exact hk)=l[k]:=by
 unfold l5;rw[List.getElem_append_right (by simp;omega)];simp[Nat.min_eq_left (Nat.le_of_lt hk)]
theorem On (aC:List UInt8) {l:List Ins} {k:Nat} (hk:k<l.length):l5 aC l (k+1)=(l5 aC l k).set k (fH aC l[k]):=by
 unfold l5;rw[List.take_add_one,alw hk,al1,List.drop_eq_getElem_cons hk,List.set_append_right _ _ (by simp;omega)];simp only[alk,List.length_take,Nat.min_eq_left (Nat.le_of_lt hk),Nat.sub_self,List.set_cons_zero,Option.toList_some,alz,alL,List.append_assoc,List.singleton_append]
theorem SG {aC:List UInt8} (hb:aC.length<=26) {l:List Ins} (fk:l.length<=1000000) (tc:List DV) (Iv T:DV) (n i:Nat) {ds:List DV} (yH:ds.length=i)
 (hl:∀x∈l,x.kind=1\/x.kind=2\/x.kind=4->0<=x.loc/\x.loc<256) {Q:Exit->St->Prop}
 (hQ:Q (.exit 4) (F7 aC tc Iv T n ds i (l.map (fH aC)) l.length)):
 fP aK (aE []) 91 (.loop Nr) (F7 aC tc Iv T n ds i (l5 aC l 0) 0) Q:=by
 refine bS (λk=>F7 aC tc Iv T n ds i (l5 aC l k) k) l.length ?_;intro k hk;unfold Nr;have AE:=F9 aC l k;by_cases bn:k<l.length
 ·have aQ:(k:Int)<l.length:=by omega
  have hw:=cY (i:=k) (by omega);have cy:=On aC bn;obtain⟨rest,Mm⟩:=YG (l:=l5 aC l k) (k:=k) (by rw[AE];exact bn);have jk:=SF (l:=l5 aC l k) (k:=k) (by rw[AE];exact bn);rw[DQ aC bn]at Mm;rw[DQ aC bn]at jk;have TK:=hl _ (alR bn);have aew:fH aC l[k]=l[k]->(l5 aC l k).set k (fH aC l[k])=l5 aC l k:=λe=>by
   rw[e];conv=>lhs;rw[<-DQ aC bn]
   exact List.set_getElem_self _
  generalize l[k]=x at Mm cy jk TK aew;generalize l5 aC l k=u at*;have TL:((u.flatMap Ins.cells).map AV.d).length=l.length*9:=by rw[alk,F8,AE]
  have TM:k*9+2+1<=l.length*9:=by omega
  have kp:=λh=>EY (aC:=aC) (by omega) (x:=x.loc) (TK h).1 (TK h).2 Iv i ds;unfold F7;rw[AE];refine J λK hK=>?_;simp only[go_sem,aQ,decide_true];apply hK;refine aa λK1 aT=>?_;refine aM ?_;apply ar;apply aT;refine aa λK1 aT=>?_;apply ax;refine J λK hK=>?_;simp only[go_sem,alm,aQ,alj,alo,Mm,Ins.cells];apply hK;by_cases h1:x.kind=1
  ·refine J λK hK=>?_;simp only[go_sem,eq_true h1,decide_true];apply hK;refine aM ?_;refine ag rfl ?_;simp only[go_sem];refine⟨rfl,?_⟩;refine bA [(0,1),(1,2)] [au x.loc,.ptr 0 0] [(0,[.d (aX aC),.d Iv,.sl 1 1 0 i]),(1,ds.map .d)] (nb:=1000) (kp (.inl h1)) (by simp[bX]) (by first|(simp[aj,AV.aA,af];done)|simp[aj,AV.aA,af,alm,aQ,alj,alo,TL,TM,jk]) (by first|(simp[bZ,cd,af];done)|simp[bZ,cd,af,alm,aQ,alj,alo,TL,TM,jk]) (by simp[handed,af,ai,ak,aG,aj,AV.aA,bZ,cd,alm,aQ,alj,alo,TL,TM,jk]) rfl ?_;rintro r0 m' ⟨rfl,rfl⟩
   simp only[go_sem,bx,bR,bU,ai,ak,aG,cf,af,aj,bQ,AV.aA,alH,alD,alF,alK,alM,aly,alm,aQ,alj,alo,TL,TM,jk];apply aT;refine ag rfl ?_;simp only[go_sem,hw];exact⟨bn,(aB.cj [(0,0),(1,1),(2,2),(3,3)] ⟨by simp[aV,ah,AV.aA,aj,af,F7,cy,fH,h1,true_or,if_true,List.length_set,AE],by simp[aL,aF,ai,ak,aj,AV.aA,af,ae,-alh,F7,cy,fH,h1,true_or,if_true,List.length_set,AE],rfl,rfl⟩)⟩
  ·by_cases h2:x.kind=2
   ·refine J λK hK=>?_;simp only[go_sem,eq_false h1,eq_true h2,decide_true,decide_false];apply hK;refine aM ?_;refine ag rfl ?_;simp only[go_sem];refine⟨rfl,?_⟩;refine bA [(0,1),(1,2)] [au x.loc,.ptr 0 0] [(0,[.d (aX aC),.d Iv,.sl 1 1 0 i]),(1,ds.map .d)] (nb:=1000) (kp (.inr (.inl h2))) (by simp[bX]) (by first|(simp[aj,AV.aA,af];done)|simp[aj,AV.aA,af,alm,aQ,alj,alo,TL,TM,jk]) (by first|(simp[bZ,cd,af];done)|simp[bZ,cd,af,alm,aQ,alj,alo,TL,TM,jk]) (by simp[handed,af,ai,ak,aG,aj,AV.aA,bZ,cd,alm,aQ,alj,alo,TL,TM,jk]) rfl ?_;rintro r0 m' ⟨rfl,rfl⟩
    simp only[go_sem,bx,bR,bU,ai,ak,aG,cf,af,aj,bQ,AV.aA,alH,alD,alF,alK,alM,aly,alm,aQ,alj,alo,TL,TM,jk];apply aT;refine ag rfl ?_;simp only[go_sem,hw];exact⟨bn,(aB.cj [(0,0),(1,1),(2,2),(3,3)] ⟨by simp[aV,ah,AV.aA,aj,af,F7,cy,fH,h2,true_or,or_true,if_true,List.length_set,AE],by simp[aL,aF,ai,ak,aj,AV.aA,af,ae,-alh,F7,cy,fH,h2,true_or,or_true,if_true,List.length_set,AE],rfl,rfl⟩)⟩
   ·by_cases h4:x.kind=4
    ·refine J λK hK=>?_;simp only[go_sem,eq_false h1,eq_false h2,eq_true h4,decide_true,decide_false];apply hK;refine aM ?_;refine ag rfl ?_;simp only[go_sem];refine⟨rfl,?_⟩;refine bA [(0,1),(1,2)] [au x.loc,.ptr 0 0] [(0,[.d (aX aC),.d Iv,.sl 1 1 0 i]),(1,ds.map .d)] (nb:=1000) (kp (.inr (.inr h4))) (by simp[bX]) (by first|(simp[aj,AV.aA,af];done)|simp[aj,AV.aA,af,alm,aQ,alj,alo,TL,TM,jk]) (by first|(simp[bZ,cd,af];done)|simp[bZ,cd,af,alm,aQ,alj,alo,TL,TM,jk]) (by simp[handed,af,ai,ak,aG,aj,AV.aA,bZ,cd,alm,aQ,alj,alo,TL,TM,jk]) rfl ?_;rintro r0 m' ⟨rfl,rfl⟩
     simp only[go_sem,bx,bR,bU,ai,ak,aG,cf,af,aj,bQ,AV.aA,alH,alD,alF,alK,alM,aly,alm,aQ,alj,alo,TL,TM,jk];apply aT;refine ag rfl ?_;simp only[go_sem,hw];exact⟨bn,(aB.cj [(0,0),(1,1),(2,2),(3,3)] ⟨by simp[aV,ah,AV.aA,aj,af,F7,cy,fH,h4,true_or,or_true,if_true,List.length_set,AE],by simp[aL,aF,ai,ak,aj,AV.aA,af,ae,-alh,F7,cy,fH,h4,true_or,or_true,if_true,List.length_set,AE],rfl,rfl⟩)⟩
    ·refine J λK hK=>?_;simp only[go_sem,eq_false h1,eq_false h2,eq_false h4,decide_true,decide_false];apply hK;refine aH ?_;have e:fH aC x=x:=by unfold fH;rw[if_neg (by rintro(h|h|h)<;>contradiction)]
     rw[aew e]at cy;apply ar;simp only[go_sem];apply aT;refine ag rfl ?_;simp only[go_sem,hw];exact⟨bn,(aB.cj [(0,0),(1,1),(2,2),(3,3)] ⟨by simp[aV,ah,AV.aA,aj,af,F7,cy,AE],by simp[aL,aF,ai,ak,aj,AV.aA,af,ae,-alh,F7,cy,AE],rfl,rfl⟩)⟩
 ·have du:k=l.length:=by omega
  subst du;have aQ:¬(l.length:Int)<l.length:=by omega
  have e:l5 aC l l.length=l.map (fH aC):=by unfold l5;simp
  rw[e];unfold F7;rw[alk];refine J λK hK=>?_;simp only[go_sem,aQ,decide_false];apply hK;refine aa λK1 aT=>?_;refine aH ?_;refine aw (S':=F7 aC tc Iv T n ds i (l.map (fH aC)) l.length) (aB.cj [(0,0),(1,1),(2,2),(3,3)] ⟨by simp[aV,ah,AV.aA,aj,af,F7],by simp[aL,aF,ai,ak,aj,AV.aA,af,ae,-alh,F7],rfl,rfl⟩) ?_;exact aW hQ
theorem Oo (l:List Ins):(l.flatMap Ins.cells).take (l.length*9)=l.flatMap Ins.cells:=alx (by rw[F8];exact ali _)
def TN (aC:List UInt8) (tc:List DV) (Iv T:DV) (n:Nat) (ds:List DV) (i:Nat):St:=
 ⟨[(1,.bw tc),(2,.ptr 0 0),(5,.ptr 1 0),(6,.fn 75 [.ptr 1 0]),(46,.d T),(47,au n),(48,au i)],
  [(0,[.d .ct,.d .ct,.d .ct]),(1,[.d (aX aC),.d Iv,.sl 2 1 0 i]),(2,ds.map .d)],3⟩
theorem EZ {aC:List UInt8} (hb:aC.length<=26) {ls:List (List Ins)} {T:DV} (hT:cQ Ins.cells ls T) (hn:ls.length<=1000000) (fk:∀l∈ls,l.length<=1000000) (tc:List DV) (Iv:DV)
 (hl:∀l∈ls,∀x∈l,x.kind=1\/x.kind=2\/x.kind=4->0<=x.loc/\x.loc<256) {Q:Exit->St->Prop}
 (hQ:Q (.exit 2) (TN aC tc Iv T ls.length (oY (ls.map λl=>l.map (fH aC))) ls.length)):
 fP aK (aE []) 91 (.loop Ns) (TN aC tc Iv T ls.length (oY ((ls.map λl=>l.map (fH aC)).take 0)) 0) Q:=by
 refine bS (λi=>TN aC tc Iv T ls.length (oY ((ls.map λl=>l.map (fH aC)).take i)) i) ls.length ?_;intro i hi;unfold Ns;by_cases bn:i<ls.length
 ·have aQ:(i:Int)<ls.length:=by omega
  have hw:=cY (i:=i) (by omega);obtain⟨cs,d,rest,gL,bT,cq,hD⟩:=hT.at i bn;have TK:=hl _ (alR bn);have hbx:=fk _ (alR bn);have cy:=KZ (l:=ls.map λl=>l.map (fH aC)) (i:=i) (by simpa using bn);rw[alC,List.getElem?_map,alw bn]at cy;simp only[alX,al6]at cy;generalize ls[i]=l at hD TK hbx cy;have uK:(oY ((ls.map λl=>l.map (fH aC)).take i)).length=i:=by rw[ue];simp;omega
  generalize oY ((ls.map λl=>l.map (fH aC)).take i)=ds at cy uK;have kc:=lz (P:=aK) (dR:=9) (bytes:=72) (el:=72) func77 Pw ntmps77 rfl results77 (hD.slC kM) (by omega);have afd:(i+1)*24<=140737488351232:=by omega
  unfold TN;refine J λK hK=>?_;simp only[go_sem,aQ,decide_true];apply hK;refine aa λK1 aT=>?_;refine aM ?_;apply ar;apply aT;refine aa λK1 aT=>?_;apply ax;refine J λK hK=>?_;simp only[go_sem,gL,alm,aQ,bn,alj,cq,bT,alV];refine hK _ (J λK hK=>?_);simp only[go_sem];refine bA [] [.d d] [] (nb:=1000) (kc) (by simp[bX]) (by first|(simp[aj,AV.aA,af];done)|simp[aj,AV.aA,af,aE,alP,alQ,alN]) (by first|(simp[bZ,cd,af];done)|simp[bZ,cd,af,aE,alP,alQ,alN]) (by simp[handed,af,ai,ak,aG,aj,AV.aA,bZ,cd,aE,alP,alQ,alN]) rfl ?_;rintro r0 m' ⟨rfl,rfl⟩
  simp only[go_sem,bx,bR,bU,ai,ak,aG,cf,af,aj,bQ,AV.aA,alH,alD,alF,alK,alM,aly,aE,alP,alQ,alN];apply hK;refine aa λK2 eX=>?_;refine J λK hK=>?_;simp only[go_sem];apply hK;apply ax;have e0:l5 aC l 0=l:=by simp[l5]
  refine aw (S':=F7 aC tc Iv T ls.length ds i (l5 aC l 0) 0) (aB.cj [(0,0),(1,1),(2,2),(3,3)] ⟨by simp[aV,ah,AV.aA,aj,af,F7,gL,e0],by simp[aL,aF,ai,ak,aj,AV.aA,af,ae,-alh,F7,gL,e0],rfl,rfl⟩) ?_;refine SG hb hbx tc Iv T ls.length i uK TK ?_;show K2 _;apply eX;have Mo:(l.map (fH aC)).length=l.length:=alk ..;generalize l.map (fH aC)=l' at cy Mo;unfold F7;rw[Mo];refine ag rfl ?_;simp only[go_sem,uK,afd,alk];apply aT;refine ag rfl ?_;simp only[go_sem,hw];refine⟨bn,?_⟩;have pq:=Oo l';rw[Mo]at pq;have hid:Yj l'=.sl l.length (l'.flatMap Ins.cells):=by unfold Yj;rw[Mo]
  rw[hid]at cy;exact aB.jl [(0,0),(1,1),(5,2)] [(3,l'.flatMap Ins.cells)] ⟨by simp[fb,ah,AV.cv,db,bI,af],by simp[fx,aF,bI,ai,ak,aG,db,AV.cv,cD,bh,pq,cy,af,-alh],rfl,rfl,by simp[bG,bI,ai,ak,aG,db,AV.cv,cD,-alh]⟩
 ·have du:i=ls.length:=by omega
  subst du;have aQ:¬(ls.length:Int)<ls.length:=by omega
  rw[alx (by simp)];unfold TN;refine J λK hK=>?_;simp only[go_sem,aQ,decide_false];apply hK;refine aa λK1 aT=>?_;refine aH ?_;refine aw (S':=TN aC tc Iv T ls.length (oY (ls.map λl=>l.map (fH aC))) ls.length) (aB.cj [(0,0),(1,1),(2,2)] ⟨by simp[aV,ah,AV.aA,aj,af,TN],by simp[aL,aF,ai,ak,aj,AV.aA,af,ae,-alh,TN],rfl,rfl⟩) ?_;exact aW hQ
theorem E0 {l:List Ins} {X:DV} (hX:dU Ins.cells l X):Pure aK 115 [.d X] (.d (.bool (!jz l))):=by
 refine ay func115 U1 ntmps115 results115 rfl ?_;unfold acq;refine J λK hK=>?_;simp-implicitDefEqProofs only[go_sem];refine hK _ (J λK hK=>?_);simp-implicitDefEqProofs only[go_sem];refine aI (CJ hX) rfl rfl ?_;simp-implicitDefEqProofs only[go_sem];apply hK;apply an;simp only[go_sem];refine aD _ rfl rfl ⟨?_,rfl⟩;rfl
def DR (n:Nat) (a:Atom):Bool:=!decide (a.fB=-1)&&decide ((n:Int)<=a.fB)
theorem YH {t:Test} {cs:List DV} (hT:lU t cs) (a:Atom):Pure aK 118 [.agg (a.cells.map .d),.bw cs] (.d (.bool (DR t.threads.length a))):=by
 obtain⟨I,T,A,rfl,hI,CE,hA⟩:=hT;have VP:=CE.len;refine ay func118 U3 ntmps118 results118 rfl ?_;unfold acs;refine J λK hK=>?_;simp-implicitDefEqProofs only[go_sem,Atom.cells];apply hK;by_cases h:a.fB=-1
 ·refine J λK hK=>?_;simp-implicitDefEqProofs only[go_sem,h];apply hK;apply an;simp only[go_sem];refine aD _ rfl rfl ⟨?_,rfl⟩;simp[ah,DR,h]
 ·refine J λK hK=>?_;simp-implicitDefEqProofs only[go_sem,h,VP];apply hK;apply an;simp only[go_sem];refine aD _ rfl rfl ⟨?_,rfl⟩;simp[ah,DR,h]
def dB (t:Test):Int:=
 if okB t=false then 1 else if sP t=true then 8 else if sQ t.inits=true then 9 else if t.threads.any (λl=>!jz l)=true then 10
 else if t.rows.any (λl=>l.any (DR t.threads.length))=true then 10 else 0
def ckS (cs:List DV) (A:DV) (n j:Nat):St:=⟨[(24,au j),(22,.d A),(23,au n),(1,.bw cs),(2,au 0)],[],0⟩
theorem SH {t:Test} (h:okB t=true):∀x∈t.inits,97<=x.loc/\x.loc<=122:=by
 intro x hx;simp only[okB,alE,Bool.not_eq_true',ky,al3,Bool.not_eq_true]at h;have:=h.1.1.2 x hx;exact(eS x.loc).1 (by simpa using this)
theorem vP {t:Test} {cs:List DV} (hT:lU t cs) (hn:t.name.length<=9223372036854775807) (fk:t.threads.length<=1000000):Pure aK 63 [.agg (cs.map .d)] (au (dB t)):=by
 have hT0:=hT;obtain⟨I,T,A,rfl,hI,CE,hA⟩:=hT;have hAl:=hA.len;have hAb:=hA.j6;refine ay func63 aaq ntmps63 results63 rfl ?_;unfold ahG;refine J λK hK=>?_;simp-implicitDefEqProofs only[go_sem];apply hK;refine aw (S':=⟨[(1,.bw [.str t.name,I,T,.int .i64 t.kind,A]),(2,au 0)],[],0⟩) (aB.jl [] [(0,[.str t.name,I,T,.int .i64 t.kind,A])] ⟨?_,?_,rfl,rfl,?_⟩) ?_;·simp[fb,ah,AV.cv,db,bI,af]
 ·simp[fx,aF,bI,ai,db,AV.cv]
 ·simp[bG,ai,db,AV.cv]
 refine aa λK1 aT=>?_;apply ax;refine J λK hK=>?_;simp-implicitDefEqProofs only[go_sem];refine aI (aaD hT0 hn) rfl rfl ?_;simp-implicitDefEqProofs only[go_sem];apply hK;cases h1:okB t
 ·refine aM ?_;refine J λK hK=>?_;simp-implicitDefEqProofs only[go_sem];apply hK;apply an;simp only[go_sem];refine aD _ rfl rfl ⟨?_,rfl⟩;simp[ah,dB,h1]
 refine aH ?_;refine J λK hK=>?_;simp-implicitDefEqProofs only[go_sem];refine aI (We hT0 fk) rfl rfl ?_;simp-implicitDefEqProofs only[go_sem];apply hK;cases h2:sP t
 case true=>
  refine aM ?_;refine J λK hK=>?_;simp-implicitDefEqProofs only[go_sem];apply hK;apply an;simp only[go_sem];refine aD _ rfl rfl ⟨?_,rfl⟩;simp[ah,dB,h1,h2]
 refine aH ?_;refine J λK hK=>?_;simp-implicitDefEqProofs only[go_sem];refine aI (Ni hI (SH h1)) rfl rfl ?_;simp-implicitDefEqProofs only[go_sem];apply hK;cases h3:sQ t.inits
 case true=>
  refine aM ?_;refine J λK hK=>?_;simp-implicitDefEqProofs only[go_sem];apply hK;apply an;simp only[go_sem];refine aD _ rfl rfl ⟨?_,rfl⟩;simp[ah,dB,h1,h2,h3]
 refine aH ?_;refine J λK hK=>?_;simp-implicitDefEqProofs only[go_sem];refine aI (CC rfl rfl CE (λl=>!jz l) λl _ d hd=>E0 hd) rfl rfl ?_;simp-implicitDefEqProofs only[go_sem];apply hK;cases h4:t.threads.any (λl=>!jz l)
 case true=>
  refine aM ?_;refine J λK hK=>?_;simp-implicitDefEqProofs only[go_sem];apply hK;apply an;simp only[go_sem];refine aD _ rfl rfl ⟨?_,rfl⟩;simp[ah,dB,h1,h2,h3,h4]
 refine aH ?_;apply ar;simp-implicitDefEqProofs only[go_sem];apply aT;refine aa λK1 aT=>?_;refine aa λK2 eX=>?_;refine ag rfl ?_;simp-implicitDefEqProofs only[go_sem,hAl];apply eX;apply ax;refine aw (S':=ckS [.str t.name,I,T,.int .i64 t.kind,A] A t.rows.length 0) (aB.cj [] ⟨by simp[aV,ah,AV.aA,aj,af,ckS],by simp[aL,aF,ai,ak,aj,AV.aA,af,ae,-alh,ckS],rfl,rfl⟩) ?_;refine kV (λj=>ckS [.str t.name,I,T,.int .i64 t.kind,A] A t.rows.length j) (λj=>∀l∈t.rows.take j,l.any (DR t.threads.length)=false) t.rows.length (by simp) ?_;intro j hj hp;unfold UT;by_cases bn:j<t.rows.length
 ·have aQ:(j:Int)<t.rows.length:=by omega
  obtain⟨Cy,d,rest,tR,G5,hjc,hd⟩:=hA.at j bn;have hw:=cY (i:=j) (by omega);unfold ckS;refine J λK hK=>?_;simp-implicitDefEqProofs only[go_sem,aQ];apply hK;refine aa λK2 eX=>?_;refine aM ?_;apply ar;apply eX;refine aa λK2 eX=>?_;apply ax;refine J λK hK=>?_;simp-implicitDefEqProofs only[go_sem,tR,aQ,alm,alj,alV,hjc,G5];refine hK _ (J λK hK=>?_);simp-implicitDefEqProofs only[go_sem];rw[<-tR];refine aI (JP (caps:=[.bw [.str t.name,I,T,.int .i64 t.kind,A]]) rfl rfl hd (DR t.threads.length) λa _=>YH hT0 a) rfl rfl ?_;simp-implicitDefEqProofs only[go_sem];apply hK
  cases h5:t.rows[j].any (DR t.threads.length)
  ·refine aH ?_;apply ar;simp-implicitDefEqProofs only[go_sem];apply eX;refine ag rfl ?_;simp-implicitDefEqProofs only[go_sem,hw];refine⟨bn,?_,aB.cj [] ⟨by simp[ckS,aV,ah,AV.aA,af],by simp[ckS,aL],rfl,rfl⟩⟩;intro l hl;rw[List.take_add_one,alw bn,List.mem_append]at hl;rcases hl with hl|hl;·exact hp l hl
   ·simp only[Option.toList_some,List.mem_singleton]at hl;subst hl;exact h5
  ·refine aM ?_;refine J λK hK=>?_;simp-implicitDefEqProofs only[go_sem];apply hK;apply an;simp only[go_sem];refine aD _ rfl rfl ⟨?_,rfl⟩;have:t.rows.any (λl=>l.any (DR t.threads.length))=true:=List.any_eq_true.2 ⟨_,alR bn,h5⟩;simp[ah,dB,h1,h2,h3,h4,this]
 ·have aQ:¬(j:Int)<t.rows.length:=by omega
  have du:j=t.rows.length:=by omega
  subst du;rw[alx (ali _)]at hp;unfold ckS;refine J λK hK=>?_;simp-implicitDefEqProofs only[go_sem,aQ];apply hK;refine aa λK2 eX=>?_;refine aH ?_;apply aW;simp-implicitDefEqProofs only[go_sem];refine aT _ (J λK hK=>?_);simp-implicitDefEqProofs only[go_sem];apply hK;apply an;simp only[go_sem];refine aD _ rfl rfl ⟨?_,rfl⟩;have:t.rows.any (λl=>l.any (DR t.threads.length))=false:=by
   rw[al3];intro l hl;rw[hp l hl];decide
  simp[ah,dB,h1,h2,h3,h4,this]
def gG (t:Test):Prog:=⟨dj t,t.inits.foldl (nN (dj t)) (alA (dj t).length 0),t.threads.map λl=>l.map (fH (dj t))⟩
structure Ie (t:Test):Prop where
 aC:(dj t).length<=26
 inits:∀x∈t.inits,0<=x.loc/\x.loc<256/\0<=place (dj t) x.loc/\place (dj t) x.loc<(dj t).length
 threads:t.threads.length<=1000000
 len:∀l∈t.threads,l.length<=1000000
 ins:∀l∈t.threads,∀x∈l,x.kind=1\/x.kind=2\/x.kind=4->0<=x.loc/\x.loc<256
theorem akA (n:Nat):((alI n).map λi=>[au 0].getD (i%1) .any)=(oX (alA n 0)).map AV.d:=by
 unfold oX;rw[List.map_replicate,List.map_replicate,List.eq_replicate_iff];refine⟨by simp,λb hb=>?_⟩;obtain⟨i,_,rfl⟩:=List.mem_map.1 hb;rw[Nat.mod_one];rfl
theorem Ig {t:Test} {cs:List DV} (hT:lU t cs) (hn:t.name.length<=9223372036854775807) (fk:t.threads.length<=1000000) (hc:dB t≠0):
 Pure aK 32 [.agg (cs.map .d)] (.cC [.agg [.d .ct,.d .ct,.d .ct],au (dB t)]):=by
 have kc:=vP hT hn fk;generalize dB t=e at hc kc;obtain⟨I,T,A,rfl,hI,CE,hA⟩:=hT;have Oq:mV aK 43=some (some 3):=by kernel_rfl
 simp only[alz,alL]at kc;refine ay func32 Pt ntmps32 results32 rfl ?_;unfold afk;refine J λK hK=>?_;simp only[go_sem];apply hK;refine aa λK1 aT=>?_;refine J λK hK=>?_;simp only[go_sem,aN];refine a8 (kc) ?_;simp only[go_sem];refine hK _ (J λK hK=>?_);simp only[go_sem,eq_false hc,decide_false,al7];apply hK;refine aM ?_;refine J λK hK=>?_;simp only[go_sem];apply hK;apply an;exact⟨.cC [.agg [.d .ct,.d .ct,.d .ct],au e],by simp[bj,aP,bt,ah,ai,ak,aG,Oq,aN],[],[],rfl,rfl,by simp[aL,aF,ai,ak,aG,aj,AV.aA,af,ae,-alh,Oq,aN],by simp[AV.aA,aj,af,Oq,aN]⟩
theorem xL {t:Test} {cs:List DV} (hT:lU t cs) (hn:t.name.length<=9223372036854775807) (fk:t.threads.length<=1000000) (hc:dB t=0) (ho:Ie t):
 Pure aK 32 [.agg (cs.map .d)] (.cC [.agg [.d (aX (gG t).aC),.d (.sl (gG t).init.length (oX (gG t).init)),.d (.sl (gG t).threads.length (oY (gG t).threads))],au 0]):=by
 have kc:=vP hT hn fk;have kl:=uO hT;rw[hc]at kc;obtain⟨aiH,du,Bh,hlen,akB⟩:=ho;have Lt:(gG t).aC=dj t:=rfl;have aiI:(gG t).init=t.inits.foldl (nN (dj t)) (alA (dj t).length 0):=rfl;have afU:(gG t).threads=t.threads.map λl=>l.map (fH (dj t)):=rfl;rw[Lt,aiI,afU];generalize dj t=aC at*;obtain⟨I,T,A,rfl,hI,CE,hA⟩:=hT;have Oq:mV aK 43=some (some 3):=by kernel_rfl
 simp only[alz,alL]at kc kl;have hll:jV (.d (aX aC))=some aC.length:=rfl;have po:=hI.len;have EG:(aC.length:Int)<=9223372036854775807:=by omega
 have hby:8*(aC.length:Int)<=140737488351232:=by omega
 refine ay func32 Pt ntmps32 results32 rfl ?_;unfold afk;refine J λK hK=>?_;simp only[go_sem];apply hK;refine aa λK1 aT=>?_;refine J λK hK=>?_;simp only[go_sem,aN];refine a8 (kc) ?_;simp only[go_sem];refine hK _ (J λK hK=>?_);simp only[go_sem,decide_true,alT];apply hK;refine aH ?_;apply ar;refine aT _ (J λK hK=>?_);simp only[go_sem,aN];refine a8 (kl) ?_;simp only[go_sem];refine hK _ (J λK hK=>?_);simp only[go_sem,hll,alm,alj,Int.le_refl,EG,hby];apply hK;rw[akA];have VP:=CE.len;refine J λK hK=>?_;simp only[go_sem];apply hK
 refine aw (aB.jl (S':=⟨[(1,.bw [.str t.name,I,T,.int .i64 t.kind,A]),(2,.ptr 0 0),(5,.ptr 1 0),(6,.fn 75 [.ptr 1 0])],[(0,[.d .ct,.d .ct,.d .ct]),(1,[.d (aX aC),.sl 2 1 0 aC.length,.d .ct]),(2,(oX (alA aC.length 0)).map .d)],3⟩) [(1,0),(2,1),(3,2)] [(0,[.str t.name,I,T,.int .i64 t.kind,A])] ⟨by simp[fb,ah,AV.cv,db,bI,af],by simp[fx,aF,bI,ai,ak,aG,db,AV.cv,af,cD,bh,-alh],rfl,rfl,by simp[bG,bI,ai,ak,aG,db,AV.cv,cD,bh,-alh]⟩) ?_;refine aa λKE fV=>?_;refine J λK hK=>?_;simp only[go_sem,po];apply hK;apply ax
 refine aw (S':=Qr aC [.str t.name,I,T,.int .i64 t.kind,A] I t.inits.length (qx aC (alA aC.length 0) t.inits 0) 0) (aB.cj [(0,0),(1,1),(2,2)] ⟨by simp[aV,ah,AV.aA,aj,af,Qr,qx],by simp[aL,aF,ai,ak,aj,AV.aA,af,ae,-alh,Qr,qx],rfl,rfl⟩) ?_;refine Ls aiH hI _ du (by simp) ?_;show KE _;apply fV;have wa:(t.inits.foldl (nN aC) (alA aC.length 0)).length=aC.length:=by rw[pA];simp
 generalize t.inits.foldl (nN aC) (alA aC.length 0)=vs at wa;have pq:=Qj vs;have afV:(oX vs).take aC.length=oX vs:=by rw[<-wa];exact pq
 refine aa λK2 eX=>?_;unfold Qr;refine J λK hK=>?_;simp only[go_sem,VP];apply hK;apply ax;refine aw (aB.jl (S':=⟨[(1,.bw [.str t.name,I,T,.int .i64 t.kind,A]),(2,.ptr 0 0),(5,.ptr 1 0),(6,.fn 75 [.ptr 1 0]),(46,.d T),(47,au t.threads.length),(48,au 0)],[(0,[.d .ct,.d .ct,.d .ct]),(1,[.d (aX aC),.d (.sl vs.length (oX vs)),.d .ct])],2⟩) [(0,0),(1,1)] [(2,oX vs)] ⟨by simp[fb,ah,AV.cv,db,bI,af,afV,wa],by simp[fx,aF,bI,ai,ak,aG,db,AV.cv,af,cD,bh,-alh,afV,wa],rfl,rfl,by simp[bG,bI,ai,ak,aG,db,AV.cv,cD,bh,-alh,afV,wa]⟩) ?_;refine aw (aB.lS 1 2 1 rfl rfl rfl rfl) ?_
 refine aw (S':=TN aC [.str t.name,I,T,.int .i64 t.kind,A] (.sl vs.length (oX vs)) T t.threads.length (oY ((t.threads.map λl=>l.map (fH aC)).take 0)) 0) (aB.cj [(0,0),(1,1),(2,2)] ⟨by simp[aV,ah,AV.aA,aj,af,TN,oY],by simp[aL,aF,ai,ak,aj,AV.aA,af,ae,-alh,TN,oY],rfl,rfl⟩) ?_;refine EZ aiH CE Bh hlen _ _ akB ?_;show K2 _;apply eX;have uK:(oY (t.threads.map λl=>l.map (fH aC))).length=t.threads.length:=by rw[ue,alk]
 have abL:(oY (t.threads.map λl=>l.map (fH aC))).take t.threads.length=oY (t.threads.map λl=>l.map (fH aC)):=alx (by omega);rw[alk];generalize oY (t.threads.map λl=>l.map (fH aC))=ds at uK abL;unfold TN;refine aw (aB.jl (S':=⟨[(2,.ptr 0 0),(5,.ptr 1 0)],[(0,[.d .ct,.d .ct,.d .ct]),(1,[.d (aX aC),.d (.sl vs.length (oX vs)),.d (.sl t.threads.length ds)])],2⟩) [(0,0),(1,1)] [(2,ds)] ⟨by simp[fb,ah,AV.cv,db,bI,af,abL],by simp[fx,aF,bI,ai,ak,aG,db,AV.cv,af,cD,bh,-alh,abL],rfl,rfl,by simp[bG,bI,ai,ak,aG,db,AV.cv,cD,bh,-alh,abL]⟩) ?_;refine J λK hK=>?_;simp only[go_sem,aN];apply hK;apply an
 exact⟨.cC [.agg [.d (aX aC),.d (.sl vs.length (oX vs)),.d (.sl t.threads.length ds)],au 0],by simp[bj,aP,bt,ah,ai,ak,aG,Oq,aN],[],[],rfl,rfl,by simp[aL,aF,ai,ak,aG,aj,AV.aA,af,ae,-alh,Oq,aN],by simp[AV.aA,aj,af,Oq,aN]⟩
def eD (code at_:Int):List DV:=[.int .i64 code,.int .i64 at_,.bool false,.ct,.ct,.ct,.ct,.int .i64 0,.int .i64 0,.ct,.int .i64 0,.int .i64 0]
def nO (r:Rep):DV:=if r.done then .sl r.DG.length (cS r.DG)else .ct
def o3 (p:Prog) (r:Rep):List DV:=[.int .i64 0,.int .i64 0,.bool r.done,aX p.aC,.sl p.init.length (oX p.init),.sl p.threads.length (oY p.threads),nO r,.int .i64 r.verdict,.int .i64 r.afT,oQ r.witness,.int .i64 r.runs,.int .i64 r.blocked]
theorem zz (code at_:Int):Pure aK 30 [au code,au at_] (.agg ((eD code at_).map .d)):=by
 have lj:mV aK 46=some (some 12):=by kernel_rfl
 refine ay func30 aaK ntmps30 results30 rfl ?_;unfold ah1;refine J λK hK=>?_;simp only[go_sem];refine hK _ (J λK hK=>?_);simp only[go_sem];apply hK;apply an;exact⟨.agg ((eD code at_).map .d),by simp[bj,aP,bt,ah,ai,ak,aG,lj,aN,eD],[],[],rfl,rfl,by simp[aL,aF,ai,ak,aG,aj,AV.aA,af,ae,-alh,lj,aN,eD],by simp[AV.aA,aj,af,lj,aN,eD]⟩
def E2 (t:Test) (m aR:Int):List DV:=
 if dB t≠0 then eD (dB t) 0 else if m<1\/3<m then eD 1 0 else o3 (gG t) (eL (gG t) t.kind t.rows m aR)
theorem YI {t:Test} {cs:List DV} (hT:lU t cs) (hn:t.name.length<=9223372036854775807) (fk:t.threads.length<=1000000) (m aR:Int) (hc:dB t≠0):
 Pure aK 13 [.agg (cs.map .d),au m,au aR] (.agg ((eD (dB t) 0).map .d)):=by
 have kc:=Ig hT hn fk hc;have kf:=zz (dB t) 0;generalize dB t=e at hc kc kf;obtain⟨I,T,A,rfl,hI,CE,hA⟩:=hT;have lj:mV aK 46=some (some 12):=by kernel_rfl
 simp only[alz,alL,eD]at kc kf;refine ay func13 tU ntmps13 results13 rfl ?_;unfold Nk;refine J λK hK=>?_;simp only[go_sem];refine hK _ (J λK hK=>?_);simp only[go_sem,aN];refine a8 (kc) ?_;simp only[go_sem];apply hK;refine aa λKE fV=>?_;apply ax;refine J λK hK=>?_;simp only[go_sem,eq_false hc,decide_false,al7];apply hK;refine aM ?_;refine J λK hK=>?_;simp only[go_sem];refine a8 (kf) ?_;simp only[go_sem];apply hK;apply an;exact⟨.agg ((eD e 0).map .d),by simp[bj,aP,bt,ah,ai,ak,aG,lj,aN,eD],[],[],rfl,rfl,by simp[aL,aF,ai,ak,aG,aj,AV.aA,af,ae,-alh,lj,aN,eD],by simp[AV.aA,aj,af,lj,aN,eD]⟩
theorem YJ {t:Test} {cs:List DV} (hT:lU t cs) (hn:t.name.length<=9223372036854775807) (fk:t.threads.length<=1000000) {m:Int} (aR:Int) (hc:dB t=0) (ho:Ie t) (hm:m<1\/3<m):
 Pure aK 13 [.agg (cs.map .d),au m,au aR] (.agg ((eD 1 0).map .d)):=by
 have kc:=xL hT hn fk hc ho;have kf:=zz 1 0;obtain⟨I,T,A,rfl,hI,CE,hA⟩:=hT;have lj:mV aK 46=some (some 12):=by kernel_rfl
 simp only[alz,alL,eD]at kc kf;by_cases h1:m<1
 ·refine ay func13 tU ntmps13 results13 rfl ?_;unfold Nk;refine J λK hK=>?_;simp only[go_sem];refine hK _ (J λK hK=>?_);simp only[go_sem,aN];refine a8 (kc) ?_;simp only[go_sem];apply hK;refine aa λKE fV=>?_;apply ax;refine J λK hK=>?_;simp only[go_sem,decide_true,alT];apply hK;refine aH ?_;refine J λK hK=>?_;simp only[go_sem,eq_true h1,decide_true];apply hK;refine aM ?_;refine J λK hK=>?_;simp only[go_sem];refine a8 (kf) ?_;simp only[go_sem];apply hK;apply an
  exact⟨.agg ((eD 1 0).map .d),by simp[bj,aP,bt,ah,ai,ak,aG,lj,aN,eD],[],[],rfl,rfl,by simp[aL,aF,ai,ak,aG,aj,AV.aA,af,ae,-alh,lj,aN,eD],by simp[AV.aA,aj,af,lj,aN,eD]⟩
 ·have h3:3<m:=by omega
  refine ay func13 tU ntmps13 results13 rfl ?_;unfold Nk;refine J λK hK=>?_;simp only[go_sem];refine hK _ (J λK hK=>?_);simp only[go_sem,aN];refine a8 (kc) ?_;simp only[go_sem];apply hK;refine aa λKE fV=>?_;apply ax;refine J λK hK=>?_;simp only[go_sem,decide_true,alT];apply hK;refine aH ?_;refine J λK hK=>?_;simp only[go_sem,eq_false h1,eq_true h3,decide_true,decide_false];apply hK;refine aM ?_;refine J λK hK=>?_;simp only[go_sem];refine a8 (kf) ?_;simp only[go_sem];apply hK;apply an
  exact⟨.agg ((eD 1 0).map .d),by simp[bj,aP,bt,ah,ai,ak,aG,lj,aN,eD],[],[],rfl,rfl,by simp[aL,aF,ai,ak,aG,aj,AV.aA,af,ae,-alh,lj,aN,eD],by simp[AV.aA,aj,af,lj,aN,eD]⟩
def z12:List AV:=(eD 0 0).map .d
def Qs (m:Int) (tc pc fc:List DV) (s1:Int) (W:DV) (R:List AV) (X:DV) (n:Nat) (es:List (List Int)) (i:Nat):St:=
 ⟨[(1,au m),(3,.bw tc),(6,.ptr 0 0),(7,.bw pc),(9,.ptr 1 0),(10,.bw fc),(11,au s1),(12,.d W),(13,.sl 2 20 0 i),(54,.d X),(55,au n),(56,au i)],[(0,z12),(1,R),(2,cT es)],3⟩
theorem SI {p:Prog} {I T:DV} (hI:de p.init I) (hT:cQ Ins.cells p.threads T) (h:En p) {m:Int} (jX:1<=m) (Ai:m<=3) {runs:List (List Int)} (pC:runs.length<=2000001) (uS:∀r∈runs,r.length<=2000000) (tc fc:List DV) (s1:Int) (W:DV) {Rd:List DV} {Q:Exit->St->Prop}
 (hQ:Q (.exit 1) (Qs m tc [aX p.aC,I,T] fc s1 W (Rd.map .d) (.sl runs.length (c8 runs)) runs.length (dT p m runs) runs.length)):
 fP aK (aE []) 95 (.loop Nj) (Qs m tc [aX p.aC,I,T] fc s1 W (Rd.map .d) (.sl runs.length (c8 runs)) runs.length (dT p m (runs.take 0)) 0) Q:=by
 have Em:(c8 runs).length=runs.length:=qq ..;refine bS (λi=>Qs m tc [aX p.aC,I,T] fc s1 W (Rd.map .d) (.sl runs.length (c8 runs)) runs.length (dT p m (runs.take i)) i) runs.length ?_;intro i hi;unfold Nj;have abM:∀π,aj π z12=z12:=λπ=>bQ ..;by_cases bn:i<runs.length
 ·have aQ:(i:Int)<runs.length:=by omega
  have hw:=cY (i:=i) (by omega);obtain⟨rest,bT⟩:=DL bn;have hr:=uS _ (alR bn);have kp:=oN hI hT h jX Ai (BP (r:=runs[i]) (by omega)) (by omega);rw[Ia]at kp;have cy:=DK (p:=p) (m:=m) bn;have hx:=Ib p m runs[i];have pU:(dT p m (runs.take i)).length=i:=by rw[oh,List.length_take];omega
  have lA:=qw p m (runs.take i);generalize runs[i]=row at bT kp cy hx;generalize (kY p m row).getD j2=x at kp cy hx;generalize (kY p m row).isSome=b at kp;generalize dT p m (runs.take i)=es at cy pU lA;have hec:(cT es).length=i*20:=by rw[eV lA,pU]
  have pN:=fG hx;have fw:=tf x;have SB:=rF x hx;have ur:(cc j2).length=20:=rfl;have Sj:=n4 (f:=j2) (n:=3) (by decide);have Yy:(i+1)*160<=140737488351232:=by omega
  have qU:aN (some 20) (dA x)=some (.agg (dA x)):=by rw[ep,pN,if_pos (ali _),alx (by omega)]
  have Lp:(dA x).take 20=dA x:=alx (by omega);unfold Qs;refine J λK hK=>?_;simp only[go_sem,aQ,decide_true];apply hK;refine aa λK1 aT=>?_;refine aM ?_;apply ar;apply aT;refine aa λK1 aT=>?_;apply ax;refine J λK hK=>?_;simp only[go_sem,alm,aQ,bn,alj,bT,Em,alV];refine hK _ (J λK hK=>?_);simp only[go_sem,aN];refine a8 (kp) ?_;simp only[go_sem,ql,lZ,Sj,alk,ur,pN,fw,SB,alo,ali];apply hK;refine ag rfl ?_;simp only[go_sem,qU,Lp,ql,lZ,alk,ur,pN,fw,SB,alo,ali,hec,Yy];apply aT;refine ag rfl ?_;simp only[go_sem,hw]
  exact⟨bn,(aB.cj [(0,0),(1,1),(5,2)] ⟨by simp[aV,ah,AV.aA,aj,af,Qs,cy,rE,cL,te,abM],by simp[aL,aF,ai,ak,aj,AV.aA,af,ae,-alh,Qs,cy,rE,cL,te,abM],rfl,rfl⟩)⟩
 ·have du:i=runs.length:=by omega
  subst du;have aQ:¬(runs.length:Int)<runs.length:=by omega
  rw[alx (ali _)];unfold Qs;refine J λK hK=>?_;simp only[go_sem,aQ,decide_false];apply hK;refine aa λK1 aT=>?_;refine aH ?_;refine aw (S':=Qs m tc [aX p.aC,I,T] fc s1 W (Rd.map .d) (.sl runs.length (c8 runs)) runs.length (dT p m runs) runs.length) (aB.cj [(0,0),(1,1),(2,2)] ⟨by simp[aV,ah,AV.aA,aj,af,Qs,cL,abM],by simp[aL,aF,ai,ak,aj,AV.aA,af,ae,-alh,Qs,cL,abM],rfl,rfl⟩) ?_;exact aW hQ
theorem Ga {p:Prog} (h:En p):de p.init (.sl p.init.length (oX p.init))/\cQ Ins.cells p.threads (.sl p.threads.length (oY p.threads)):=by
 refine⟨⟨?_,.inr ?_⟩,Dr h⟩
 ·rw[alk];have:=h.ini;have:=h.lc;omega
 ·rw[HS,alk]
theorem abN {t:Test} {cs:List DV} (hT:lU t cs) (hn:t.name.length<=9223372036854775807) (fk:t.threads.length<=1000000) {m:Int} (aR:Int) (hc:dB t=0) (ho:Ie t) (hP:En (gG t)) (jX:1<=m) (Ai:m<=3):
 Pure aK 13 [.agg (cs.map .d),au m,au aR] (.agg ((o3 (gG t) (eL (gG t) t.kind t.rows m aR)).map .d)):=by
 have kc:=xL hT hn fk hc ho;obtain⟨hI,CE⟩:=Ga hP;have ke:=xG hI CE hP jX Ai aR;have ZI:=λf (h:explore (gG t) m aR=some f)=>mQ h;have ks:=Ol hI CE hP jX Ai ZI aR;obtain⟨I,T,A,rfl,hI',ak9,hA⟩:=hT;have lj:mV aK 46=some (some 12):=by kernel_rfl
 generalize gG t=p at*;have aiJ:eL p t.kind t.rows m aR=(match explore p m aR with
  |none=>sd
  |some f=>if(lh p m (some f) aR).1=0 then sd else⟨true,ik (dT p m f.runs),qv p t.kind t.rows (ik (dT p m f.runs)),(lh p m (some f) aR).1,(lh p m (some f) aR).2,f.runs.length,f.blocked⟩):=rfl
 rw[aiJ];clear aiJ;generalize explore p m aR=res at*;have m1:¬m<1:=by omega
 have m3:¬3<m:=by omega
 simp only[alz,alL]at kc;cases res with
 |none=>
  have O8:lh p m none aR=(0,none):=rfl;rw[O8]at ks;simp only[vO,lf,alz,alL,oQ]at ks ke;refine ay func13 tU ntmps13 results13 rfl ?_;unfold Nk;refine J λK hK=>?_;simp only[go_sem];refine hK _ (J λK hK=>?_);simp only[go_sem,aN];refine a8 (kc) ?_;simp only[go_sem];apply hK;refine aa λKE fV=>?_;apply ax;refine J λK hK=>?_;simp only[go_sem,decide_true,alT];apply hK;refine aH ?_;refine J λK hK=>?_;simp only[go_sem,eq_false m1,eq_false m3,decide_false];apply hK;refine aH ?_;apply ar;show KE _;refine fV _ (J λK hK=>?_);simp only[go_sem,aN];refine hK _ (J λK hK=>?_);simp only[go_sem,aN];refine a8 (ke) ?_
  simp only[go_sem];refine hK _ (J λK hK=>?_);simp only[go_sem,aN];refine a8 (ks) ?_;simp only[go_sem];apply hK;refine aa λK1 aT=>?_;refine J λK hK=>?_;simp only[go_sem];apply hK;refine aM ?_;refine J λK hK=>?_;simp only[go_sem,aN];apply hK;apply an;exact⟨.agg ((o3 p sd).map .d),by simp[bj,aP,bt,ah,ai,ak,aG,lj,aN,o3,sd,nO,oQ],[],[],rfl,rfl,by simp[aL,aF,ai,ak,aG,aj,AV.aA,af,ae,-alh,lj,aN,o3,sd,nO,oQ],by simp[AV.aA,aj,af,lj,aN,o3,sd,nO,oQ]⟩
 |some f=>
  obtain⟨pC,uS⟩:=ZI f rfl;simp only;generalize lh p m (some f) aR=s at ks⊢;obtain⟨s1,s2⟩:=s;simp only[vO,lf,alz,alL]at ks ke⊢;by_cases hs:s1=0
  ·subst hs;rw[if_pos rfl];refine ay func13 tU ntmps13 results13 rfl ?_;unfold Nk;refine J λK hK=>?_;simp only[go_sem];refine hK _ (J λK hK=>?_);simp only[go_sem,aN];refine a8 (kc) ?_;simp only[go_sem];apply hK;refine aa λKE fV=>?_;apply ax;refine J λK hK=>?_;simp only[go_sem,decide_true,alT];apply hK;refine aH ?_;refine J λK hK=>?_;simp only[go_sem,eq_false m1,eq_false m3,decide_false];apply hK;refine aH ?_;apply ar;show KE _;refine fV _ (J λK hK=>?_);simp only[go_sem,aN];refine hK _ (J λK hK=>?_);simp only[go_sem,aN];refine a8 (ke) ?_;simp only[go_sem];refine hK _ (J λK hK=>?_)
   simp only[go_sem,aN];refine a8 (ks) ?_;simp only[go_sem];apply hK;refine aa λK1 aT=>?_;refine J λK hK=>?_;simp only[go_sem];apply hK;refine aM ?_;refine J λK hK=>?_;simp only[go_sem,aN];apply hK;apply an;exact⟨.agg ((o3 p sd).map .d),by simp[bj,aP,bt,ah,ai,ak,aG,lj,aN,o3,sd,nO,oQ],[],[],rfl,rfl,by simp[aL,aF,ai,ak,aG,aj,AV.aA,af,ae,-alh,lj,aN,o3,sd,nO,oQ],by simp[AV.aA,aj,af,lj,aN,o3,sd,nO,oQ]⟩
  ·rw[if_neg hs];refine ay func13 tU ntmps13 results13 rfl ?_;unfold Nk;refine J λK hK=>?_;simp only[go_sem];refine hK _ (J λK hK=>?_);simp only[go_sem,aN];refine a8 (kc) ?_;simp only[go_sem];apply hK;refine aa λKE fV=>?_;apply ax;refine J λK hK=>?_;simp only[go_sem,decide_true,alT];apply hK;refine aH ?_;refine J λK hK=>?_;simp only[go_sem,eq_false m1,eq_false m3,decide_false];apply hK;refine aH ?_;apply ar;show KE _;refine fV _ (J λK hK=>?_);simp only[go_sem,aN];refine hK _ (J λK hK=>?_);simp only[go_sem,aN];refine a8 (ke) ?_;simp only[go_sem];refine hK _ (J λK hK=>?_);simp only[go_sem,aN]
   refine a8 (ks) ?_;simp only[go_sem];apply hK;refine aa λK1 aT=>?_;refine J λK hK=>?_;simp only[go_sem,eq_false hs,decide_false];apply hK;refine aH ?_;apply ar;refine aT _ (J λK hK=>?_);simp only[go_sem];apply hK;refine aa λKE fV=>?_;refine J λK hK=>?_;simp only[go_sem];apply hK;apply ax;have lA:=qw p m f.runs;have pU:=oh p m f.runs
   refine aw (aB.jl (S':=⟨[(1,au m),(3,.bw [.str t.name,I,T,.int .i64 t.kind,A]),(6,.ptr 0 0),(7,.bw [aX p.aC,.sl p.init.length (oX p.init),.sl p.threads.length (oY p.threads)]),(9,.ptr 1 0),(10,.bw [.sl f.runs.length (c8 f.runs),.int .i64 f.blocked,.int .i64 f.ba,.bool true]),(11,au s1),(12,.d (oQ s2)),(13,.d .ct),(54,.d (.sl f.runs.length (c8 f.runs))),(55,au f.runs.length),(56,au (0:Nat))],[(0,z12),(1,([.int .i64 0,.int .i64 0,.bool false,aX p.aC,.sl p.init.length (oX p.init),.sl p.threads.length (oY p.threads),.ct,.int .i64 0,.int .i64 0,.ct,.int .i64 0,.int .i64 0]:List DV).map .d)],2⟩) [(1,0),(3,1)] [(0,[.str t.name,I,T,.int .i64 t.kind,A]),(2,[aX p.aC,.sl p.init.length (oX p.init),.sl p.threads.length (oY p.threads)]),(4,[.sl f.runs.length (c8 f.runs),.int .i64 f.blocked,.int .i64 f.ba,.bool true])] ⟨by simp[fb,ah,AV.cv,db,bI,af,z12,eD],by simp[fx,aF,bI,ai,ak,aG,db,AV.cv,af,cD,bh,-alh,z12,eD],rfl,rfl,by simp[bG,bI,ai,ak,aG,db,AV.cv,cD,bh,-alh,z12,eD]⟩) ?_
   refine aw (aB.nil 13 20 rfl rfl) ?_
   refine aw (S':=Qs m [.str t.name,I,T,.int .i64 t.kind,A] [aX p.aC,.sl p.init.length (oX p.init),.sl p.threads.length (oY p.threads)] [.sl f.runs.length (c8 f.runs),.int .i64 f.blocked,.int .i64 f.ba,.bool true] s1 (oQ s2) (([.int .i64 0,.int .i64 0,.bool false,aX p.aC,.sl p.init.length (oX p.init),.sl p.threads.length (oY p.threads),.ct,.int .i64 0,.int .i64 0,.ct,.int .i64 0,.int .i64 0]:List DV).map .d) (.sl f.runs.length (c8 f.runs)) f.runs.length (dT p m (f.runs.take 0)) 0) (aB.cj [(0,0),(1,1),(2,2)] ⟨by simp[aV,ah,AV.aA,aj,af,Qs,z12,eD,dT,cT,cS],by simp[aL,aF,ai,ak,aj,AV.aA,af,ae,-alh,Qs,z12,eD,dT,cT,cS],rfl,rfl⟩) ?_
   refine SI hI CE hP jX Ai pC uS _ _ s1 _ ?_;show KE _;apply fV;obtain⟨d,hd,hdX⟩:=BO lA (by omega);have ksr:=tn hdX (by have:=congrArg List.length hd;simp at this;omega);rw[hd]at ksr;have pq:(cS (dT p m f.runs)).take (f.runs.length*20)=cS (dT p m f.runs):=alx (by have:=eV lA;unfold cT at this;rw[alk]at this;omega);rw[pU]at ksr;have abJ:=DF lA;have hFl:=zw (dT p m f.runs);obtain⟨d2,Al,akC⟩:=BO abJ (by omega);have kv:=HZ (L:=aX p.aC) (I:=.sl p.init.length (oX p.init)) (T:=.sl p.threads.length (oY p.threads)) (aC:=p.aC) (nt:=p.threads.length) (.inr rfl) rfl hA t.kind akC;rw[Ll,Al]at kv
   generalize ik (dT p m f.runs)=F at*;generalize dT p m f.runs=es at*;unfold Qs cT z12;simp only[eD,alz,alL]
   refine aw (aB.jl (S':=⟨[(1,au m),(3,.bw [.str t.name,I,T,.int .i64 t.kind,A]),(6,.ptr 0 0),(7,.bw [aX p.aC,.sl p.init.length (oX p.init),.sl p.threads.length (oY p.threads)]),(9,.ptr 1 0),(10,.bw [.sl f.runs.length (c8 f.runs),.int .i64 f.blocked,.int .i64 f.ba,.bool true]),(11,au s1),(12,.d (oQ s2)),(13,.d (.sl f.runs.length (cS es)))],[(0,[au 0,au 0,.d (.bool false),.d .ct,.d .ct,.d .ct,.d .ct,au 0,au 0,.d .ct,au 0,au 0]),(1,[au 0,au 0,.d (.bool false),.d (aX p.aC),.d (.sl p.init.length (oX p.init)),.d (.sl p.threads.length (oY p.threads)),.d .ct,au 0,au 0,.d .ct,au 0,au 0])],2⟩) [(0,0),(1,1)] [(2,cS es)] ⟨by simp[fb,ah,AV.cv,db,bI,af,pq],by simp[fx,aF,bI,ai,ak,aG,db,AV.cv,af,cD,bh,-alh,pq],rfl,rfl,by simp[bG,bI,ai,ak,aG,db,AV.cv,cD,bh,-alh,pq]⟩) ?_
   refine J λK hK=>?_;simp only[go_sem];refine a8 (ksr) ?_;simp only[go_sem];refine hK _ (J λK hK=>?_);simp only[go_sem,aN];refine a8 (kv) ?_;simp only[go_sem];refine hK _ (J λK hK=>?_);simp only[go_sem];apply hK;refine aa λK hK=>az rfl rfl ?_;simp only[go_sem];refine⟨rfl,hK _ ?_⟩;refine J λK hK=>?_;simp only[go_sem,aN];apply hK;apply an;exact⟨.agg ((o3 p ⟨true,F,qv p t.kind t.rows F,s1,s2,f.runs.length,f.blocked⟩).map .d),by simp[bj,aP,bt,ah,ai,ak,aG,lj,aN,o3,nO],[],[],rfl,rfl,by simp[aL,aF,ai,ak,aG,aj,AV.aA,af,ae,-alh,lj,aN,o3,nO],by simp[AV.aA,aj,af,lj,aN,o3,nO]⟩
def awP:Prog:=⟨[120],[0],[[⟨1,0,0,⟨-1,1⟩,0,⟨0,0⟩,0⟩]]⟩
theorem Ot:explore awP 1 1000=some ⟨[[0]],0,1⟩:=by kernel_rfl
def oR (l:List Ins):Prop:=∀(i:Nat) (x:Ins),l[i]?=some x->x.kind=6->x.n=1/\i+1<l.length
theorem oR.append {l l':List Ins} (h:oR l) (h':oR l'):oR (l++l'):=by
 intro i x hx hk;rcases Nat.lt_or_ge i l.length with hi|hi
 ·rw[List.getElem?_append_left hi]at hx;have:=h i x hx hk;rw[aln];omega
 ·rw[List.getElem?_append_right hi]at hx;have:=h' _ x hx hk;rw[aln];omega
structure rG (l:List Ins):Prop where
 len:l.length<=6
 ok:∀x∈l,cB x=true
 loc:∀x∈l,x.loc=0\/(120<=x.loc/\x.loc<=122)
 jump:oR l
theorem Lu (x:Nat):eo (fo x)=true:=by
 unfold fo;split
 ·have:x/1024%2<2:=Nat.mod_lt _ (by omega);have h1:dQ ((x/1024%2:Nat):Int)=true:=by
   generalize x/1024%2=q at this;simp only[dQ,alE,decide_eq_true_eq];omega
  simp only[eo,h1,Bool.true_and,Bool.or_eq_true];exact .inr rfl
 ·simp[eo]
theorem Lv (x:Nat):dQ (lW x:Nat)=true:=by
 have:lW x<2:=Nat.mod_lt _ (by omega);simp only[dQ,alE,decide_eq_true_eq];omega
theorem Lw {aC:Nat} (h0:0<aC) (h3:aC<=3) (x:Nat):120<=eO aC x/\eO aC x<=122:=by
 have:x/16%aC<aC:=Nat.mod_lt _ h0;unfold eO;omega
theorem Lx {aC:Nat} (h0:0<aC) (h3:aC<=3) (x:Nat):(∀i∈gz aC x,cB i=true/\(i.loc=0\/(120<=i.loc/\i.loc<=122)))/\oR (gz aC x):=by
 have hv:=Lu x;have hr:=Lv x;have hl:=Lw h0 h3 x;have hlB:dp (eO aC x:Nat)=true:=(eS _).2 (by omega);have hlI:(120:Int)<=(eO aC x:Nat)/\((eO aC x:Nat):Int)<=122:=by omega
 unfold gz;generalize eO aC x=L at*;generalize lW x=R at*;generalize fo x=V at*;have aiK:eo ⟨-1,1⟩=true:=rfl;have akD:eo ⟨-1,0⟩=true:=rfl;have akE:eo ⟨-1,2⟩=true:=rfl;have one:∀y:Ins,y.kind≠6->oR [y]:=by
  intro y hy i x hx hk;cases i with
  |zero=>simp at hx;subst hx;exact absurd hk hy
  |succ i=>simp at hx
 split
 ·refine⟨?_,one _ (by simp)⟩;intro i hi;simp only[List.mem_singleton]at hi;subst hi;exact⟨by simp[cB,fl,hlB,hv],.inr hlI⟩
 ·split
  ·refine⟨?_,one _ (by simp)⟩;intro i hi;simp only[List.mem_singleton]at hi;subst hi;exact⟨by simp[cB,fl,hlB,hr],.inr hlI⟩
  ·split
   ·refine⟨?_,one _ (by simp)⟩;intro i hi;simp only[List.mem_singleton]at hi;subst hi;exact⟨by decide,.inl rfl⟩
   ·split
    ·refine⟨?_,one _ (by simp)⟩;intro i hi;simp only[List.mem_singleton]at hi;subst hi;exact⟨by simp[cB,fl,hlB,hr,hv,aiK],.inr hlI⟩
    ·split
     ·refine⟨?_,one _ (by simp)⟩;intro i hi;simp only[List.mem_singleton]at hi;subst hi;exact⟨by simp[cB,fl,hr,hv,aiK],.inl rfl⟩
     ·refine⟨?_,?_⟩
      ·intro i hi;simp only[alW,List.not_mem_nil,or_false]at hi;rcases hi with rfl|rfl;·exact⟨by simp[cB,fl,hv,akD],.inl rfl⟩
       ·exact⟨by simp[cB,fl,hlB,akE],.inr hlI⟩
      ·intro i x hx hk
       match i with
       |0=>simp at hx;subst hx;exact⟨rfl,by simp⟩
       |1=>simp at hx;subst hx;simp at hk
       |i+2=>simp at hx
theorem tu (ls:List Int) {aC:Nat} (h0:0<aC) (h3:aC<=3) (most:Nat):∀(k a mem:Nat) (s:List Ins),(∀i∈s,cB i=true/\(i.loc=0\/(120<=i.loc/\i.loc<=122)))->oR s->
 (∀i∈(cr ls aC most k a mem s).2.2,cB i=true/\(i.loc=0\/(120<=i.loc/\i.loc<=122)))/\oR (cr ls aC most k a mem s).2.2
 |0,a,mem,s,h,hj=>⟨h,hj⟩
 |k+1,a,mem,s,h,hj=>by
  simp only[cr];split
  ·have hi:=Lx h0 h3 (qY ls a);refine tu ls h0 h3 most k _ _ _ ?_ (hj.append hi.2);intro i Mv;rcases List.mem_append.1 Mv with Mv|Mv;·exact h i Mv
   ·exact hi.1 i Mv
  ·exact⟨h,hj⟩
theorem rX (ls:List Int) {aC:Nat} (h0:0<aC) (h3:aC<=3) (most:Nat):∀(n a mem:Nat) (ts:List (List Ins)),(∀l∈ts,rG l)->∀l∈(dq ls aC most n a mem ts).2,rG l
 |0,a,mem,ts,h=>h
 |n+1,a,mem,ts,h=>by
  simp only[dq];refine rX ls h0 h3 most n _ _ _ ?_;intro l hl;rw[List.mem_append]at hl;rcases hl with hl|hl;·exact h l hl
  ·simp only[List.mem_singleton]at hl;subst hl;have hb:=kX ls aC most (qY ls a%3+1) (a+1) mem [];have hk:=tu ls h0 h3 most (qY ls a%3+1) (a+1) mem [] (by simp) (λi x hx=>by simp at hx);simp only[alB]at hb;exact⟨by omega,λx hx=>(hk.1 x hx).1,λx hx=>(hk.1 x hx).2,hk.2⟩
theorem Ou (ls:List Int) (most:Nat):∀l∈(small ls most).threads,rG l:=by
 simp only[small,tS];exact rX ls (by unfold gr;omega) (by unfold gr;omega) most _ _ _ [] (by simp)
structure fX (t:Test):Prop where
 name:mN t.name=true
 short:t.name.length<=20
 threads:∀l∈t.threads,rG l
 inits:∀x∈t.inits,x.loc=120
 once:t.inits.length<=1
 cond:jd t.kind t.rows=true
 rows:t.rows.length<=8
 row:∀l∈t.rows,l.length<=8
 akF:∀l∈t.rows,∀a∈l,a.loc=0\/a.loc=120
theorem fX.ok {t:Test} (h:fX t):okB t=true:=by
 have h1:ky t.inits=false:=by
  unfold ky;rw[al3];intro x hx;rw[h.inits x hx];decide
 have h2:t.threads.any fC=false:=by
  rw[al3];intro l hl;unfold fC;rw[Bool.not_eq_true,al3];intro x hx;rw[(h.threads l hl).ok x hx];decide
 simp[okB,h.name,h1,h2,h.cond]
theorem DS (ls:List Int) (most:Nat):fX (small ls most):=by
 refine⟨by show mN [116]=true;decide+kernel,by simp[small],Ou ls most,?_,?_,?_,?_,?_,?_⟩
 ·intro x hx;simp only[small,mw]at hx;split at hx;·simp only[List.mem_singleton]at hx;subst hx;rfl
  ·simp at hx
 ·simp only[small,mw];split<;>simp
 ·simp only[small];generalize ve ls most=x;unfold jd my ic;by_cases hz:x%3=0
  ·have h2:x/3%2<2:=Nat.mod_lt _ (by omega);have h8:x/8%2<2:=Nat.mod_lt _ (by omega);have hk:((x/3%2+1:Nat):Int)=1\/((x/3%2+1:Nat):Int)=2:=by omega
   have hr8:dQ ((x/8%2:Nat):Int)=true:=by simp only[dQ,alE,decide_eq_true_eq];omega
   have Cl:dQ 0=true:=rfl;have hl:dp 120=true:=rfl;simp only[hz,if_true];generalize ((x/3%2+1:Nat):Int)=kd at hk;generalize ((x/8%2:Nat):Int)=r8 at hr8;rcases hk with rfl|rfl;·simp[lV,gy,hr8,Cl,hl]
   ·simp[lV,gy,hr8,Cl,hl]
  ·simp[hz]
 ·simp only[small,ic];split<;>simp
 ·intro l hl;simp only[small,ic]at hl;split at hl
  ·simp only[alW,List.not_mem_nil,or_false]at hl;rcases hl with rfl|rfl<;>simp
  ·simp at hl
 ·intro l hl a ha;simp only[small,ic]at hl;split at hl
  ·simp only[alW,List.not_mem_nil,or_false]at hl;rcases hl with rfl|rfl;·simp only[List.mem_singleton]at ha;subst ha;exact .inl rfl
   ·simp only[alW,List.not_mem_nil,or_false]at ha;rcases ha with rfl|rfl;·exact .inr rfl
    ·exact .inl rfl
  ·simp at hl
def gV (t:Test):List Int:=t.inits.map (·.loc)++((t.threads.flatten).map (·.loc)++(t.rows.flatten).map (·.loc))
theorem oS {α β:Type} (f:β->α->β):∀(ls:List (List α)) (b:β),ls.foldl (λb l=>l.foldl f b) b=ls.flatten.foldl f b
 | [],_=>rfl
 |l::ls,b=>by rw[al2,oS f ls,List.flatten_cons,List.foldl_append]
theorem foldl_map' {α β γ:Type} (f:β->γ->β) (g:α->γ):∀(l:List α) (b:β),l.foldl (λb x=>f b (g x)) b=(l.map g).foldl f b
 | [],_=>rfl
 |a::l,b=>by rw[al2,foldl_map' f g l,alz,al2]
theorem YK (t:Test):sN t=(gV t).foldl ck 0:=by
 unfold sN gV;rw[oS (λs (x:Atom)=>ck s x.loc),oS (λs (x:Ins)=>ck s x.loc),foldl_map' ck Atom.loc,foldl_map' ck Ins.loc,foldl_map' ck Init.loc,List.foldl_append,List.foldl_append]
theorem xM (i:Nat):∀(l:List Int) (s:Nat),(l.foldl ck s).testBit i=(s.testBit i||l.any λx=>dp x&&decide ((x-97).toNat=i))
 | [],s=>by simp
 |a::l,s=>by
  rw[al2,xM i l,List.any_cons,<-Bool.or_assoc]
  congr 1
  unfold ck;split;·rename_i h;rw[Ak,h,Bool.true_and]
  ·rename_i h;have:dp a=false:=by simpa using h
   simp[this]
theorem DT (t:Test) (i:Nat):(sN t).testBit i=true↔∃x∈gV t,dp x=true/\(x-97).toNat=i:=by
 rw[YK,xM];simp
theorem Ly (t:Test):sO t=(gV t).foldl mark tT:=by
 unfold sO gV;rw[oS (λs (x:Atom)=>mark s x.loc),oS (λs (x:Ins)=>mark s x.loc),foldl_map' mark Atom.loc,foldl_map' mark Ins.loc,foldl_map' mark Init.loc,List.foldl_append,List.foldl_append]
theorem Gb (c:Nat) (hc:c<256):∀(l:List Int) (th:List Bool),th.length=256->(l.foldl mark th).getD c false=(th.getD c false||l.any λx=>decide (Rs x=c))
 | [],th,_=>by simp
 |a::l,th,h=>by
  rw[al2,Gb c hc l _ (by simp[mark,h]),List.any_cons,<-Bool.or_assoc]
  congr 1
  unfold mark;rw[alC,List.getElem?_set,alC];by_cases h1:Rs a=c
  ·rw[if_pos h1,if_pos (by omega)];simp[h1]
  ·rw[if_neg h1];simp[h1]
theorem DU (t:Test) (c:Nat) (hc:c<256):(sO t).getD c false=true↔∃x∈gV t,Rs x=c:=by
 rw[Ly,Gb c hc _ _ JX];have:tT.getD c false=false:=by
  unfold tT;rw[alC,List.getElem?_replicate];split<;>rfl
 rw[this,Bool.false_or];simp
theorem tv {x:Int} (h:dp x=true\/x=0):(Rs x:Int)=x:=by
 have hx:0<=x/\x<=122:=by
  rcases h with h|h;·have:=(eS x).1 h;omega
  ·omega
 obtain⟨n,rfl⟩:=Int.eq_ofNat_of_zero_le hx.1;have e:bits .and .i64 (n:Int) 255=((n%256:Nat):Int):=by
  have e:bits .and .i64 (n:Int) 255=alv.wrap (((al5 64 (n:Int))&&&(al5 64 255)).toNat:Nat):=rfl;have h1:(al5 64 255).toNat=2^8-1:=rfl;rw[e,BitVec.toNat_and,h1,fK (by omega),Nat.and_two_pow_sub_one_eq_mod,wrap_i64 (by omega) (by omega)]
 unfold Rs;rw[e];omega
theorem zA {t:Test} (h:∀x∈gV t,dp x=true\/x=0):dj t=eA t:=by
 unfold dj eA gA lets
 congr 1
 refine List.filter_congr λc hc=>?_;have ala:=List.mem_range.1 hc;rw[Bool.eq_iff_iff,DT,DU t _ (by omega)];constructor
 ·rintro⟨x,hx,h1,h2⟩;have:=tv (.inl h1);have h3:=(eS x).1 h1;exact⟨x,hx,by omega⟩
 ·rintro⟨x,hx,h1⟩;have h2:=tv (h x hx);have h3:dp x=true:=(eS x).2 (by omega);exact⟨x,hx,h3,by omega⟩
theorem Ih {t:Test} (h:∀x∈gV t,dp x=true->119<=x):(dj t).length<=4:=by
 unfold dj gA;rw[alk,<-List.countP_eq_length_filter];refine Nat.le_trans (List.countP_mono_left (q:=λc=>decide (22<=c)) λc hc hb=>?_) (by decide);obtain⟨x,hx,h1,h2⟩:=(DT t c).1 hb;have:=h x hx h1;simp only[decide_eq_true_eq];omega
theorem oR.bad {l:List Ins} (h:oR l):jz l=true:=by
 have:(alI l.length).any (ie l)=false:=by
  rw[al3];intro i hi;have gK:=List.mem_range.1 hi;unfold ie;rw[alw gK];simp only[alE,Bool.or_eq_true,decide_eq_true_eq,not_and,not_or];intro hk;have:=h i _ (alw gK) hk;omega
 simp[jz,this]
theorem SJ:∀(T:List (List Ins)),(∀l∈T,l.length<=6)->nF T<=6*T.length:=by
 have:∀(T:List (List Ins)) (s:Nat),(∀l∈T,l.length<=6)->T.foldl (λs x=>s+x.length) s<=s+6*T.length:=by
  intro T;induction T with
  |nil=>intro s _;simp
  |cons a T ih=>
   intro s h;rw[al2,alu];have h1:=h a alU;have h2:=ih (s+a.length) λl hl=>h l (alY _ hl);omega
 intro T h;have:=this T 0 h;unfold nF;omega
theorem fX.aC {t:Test} (h:fX t):∀x∈gV t,x=0\/(120<=x/\x<=122):=by
 intro x hx;simp only[gV,List.mem_append,List.mem_map,List.mem_flatten]at hx;rcases hx with⟨i,hi,rfl⟩|⟨i,⟨l,hl,hi⟩,rfl⟩|⟨a,⟨l,hl,ha⟩,rfl⟩;·rw[h.inits i hi];decide
 ·exact(h.threads l hl).loc i hi
 ·rcases h.akF l hl a ha with h|h;·exact .inl h
  ·rw[h];decide
theorem fX.few {t:Test} (h:fX t):(dj t).length<=4:=
 Ih λx hx hb=>by
  have:=h.aC x hx;have:=(eS x).1 hb;omega
theorem fX.j6 {t:Test} (h:fX t) (h4:t.threads.length<=4):sP t=decide (t.threads.length=0):=by
 have e1:t.threads.any (λl=>decide (10<l.length))=false:=by
  rw[al3];intro l hl;have:=(h.threads l hl).len;simp only[decide_eq_true_eq];omega
 have e2:=SJ t.threads λl hl=>(h.threads l hl).len;have e3:=h.few;have e4:t.rows.any Am=false:=by
  rw[al3];intro l hl;have:=h.row l hl;simp only[Am,decide_eq_true_eq];omega
 have e5:=h.rows;have e6:=h.short;have f1:¬4<t.threads.length:=by omega
 have f2:¬24<nF t.threads:=by omega
 have f3:¬4<(dj t).length:=by omega
 have f4:¬8<t.rows.length:=by omega
 have f5:¬20<t.name.length:=by omega
 simp[sP,e1,e4,f1,f2,f3,f4,f5]
theorem fX.aiL {t:Test} (h:fX t):sQ t.inits=false:=by
 have h1:=h.once;unfold sQ
 match t.inits,h1 with
 | [],_=>rfl
 | [a],_=>simp
theorem fX.jumps {t:Test} (h:fX t):t.threads.any (λl=>!jz l)=false:=by
 rw[al3];intro l hl;rw[(h.threads l hl).jump.bad];decide
theorem fX.check {t:Test} (h:fX t) (h4:t.threads.length<=4):
 dB t=if t.threads.length=0 then 8 else if t.rows.any (λl=>l.any (DR t.threads.length))=true then 10 else 0:=by
 unfold dB;rw[h.ok,h.j6 h4,h.aiL,h.jumps];by_cases h0:t.threads.length=0;·simp[h0]
 ·simp[h0]
theorem tw {t:Test} (h:dB t=0):okB t=true/\sP t=false/\∀l∈t.threads,jz l=true:=by
 unfold dB at h;by_cases h1:okB t=false;·rw[if_pos h1]at h;cases h
 rw[if_neg h1]at h;by_cases h2:sP t=true;·rw[if_pos h2]at h;cases h
 rw[if_neg h2]at h;by_cases h3:sQ t.inits=true;·rw[if_pos h3]at h;cases h
 rw[if_neg h3]at h;by_cases h4:t.threads.any (λl=>!jz l)=true;·rw[if_pos h4]at h;cases h
 refine⟨by simpa using h1,by simpa using h2,λl hl=>?_⟩;simp only[List.any_eq_true,not_exists,not_and,Bool.not_eq_true',Bool.not_eq_false]at h4;exact h4 l hl
theorem Lz (aC:List UInt8) (x:Ins):(pE aC x).kind=x.kind/\(pE aC x).n=x.n:=by
 unfold pE;split<;>exact⟨rfl,rfl⟩
theorem SK (aC:List UInt8) (l:List Ins):jz (l.map (pE aC))=jz l:=by
 unfold jz;rw[alk]
 congr 2
 funext i
 unfold ie;rw[List.getElem?_map,alk];cases l[i]?with
 |none=>rfl
 |some x=>
  obtain⟨h1,h2⟩:=Lz aC x;simp only[alX,h1,h2]
theorem DW {aC:List UInt8} {x:Int} (h:∃b∈aC,(b.toNat:Int)=x):0<=place aC x/\place aC x<aC.length:=by
 unfold place;cases hf:aC.findIdx? (λb=>decide ((b.toNat:Int)=x))with
 |none=>
  rw[List.findIdx?_eq_none_iff]at hf;obtain⟨b,hb,hx⟩:=h;have:=hf b hb;simp[hx]at this
 |some i=>
  rw[List.findIdx?_eq_some_iff_getElem]at hf;obtain⟨hi,_⟩:=hf;simp only;omega
theorem SL {t:Test} {x:Ins} (h:cB x=true) (hm:dp x.loc=true->0<=place (eA t) x.loc/\place (eA t) x.loc<(eA t).length) (p:Prog) (hp:p.aC=eA t):eB (ry p) (pE (eA t) x)=true:=by
 unfold cB at h;have h0:dp 0=false:=by decide
 unfold pE;by_cases hz:x.loc=0
 ·rw[if_pos hz];unfold eB;rw[hz]at h
  repeat' split at h
  all_goals simp_all [fl]
 ·rw[if_neg hz];unfold eB ry;rw[hp];simp only
  repeat' split at h
  all_goals simp_all [fl]
theorem zC {t:Test} (h:okB t=true):∀x∈gV t,dp x=true\/x=0:=by
 simp only[okB,alE,Bool.not_eq_true']at h;obtain⟨⟨⟨_,h1⟩,h2⟩,h3⟩:=h;intro x hx;simp only[gV,List.mem_append,List.mem_map,List.mem_flatten]at hx;rcases hx with⟨i,hi,rfl⟩|⟨i,⟨l,hl,hi⟩,rfl⟩|⟨a,⟨l,hl,ha⟩,rfl⟩
 ·unfold ky at h1;rw[al3]at h1;exact .inl (by simpa using h1 i hi)
 ·rw[al3]at h2;have h4:=h2 l hl;unfold fC at h4;rw[Bool.not_eq_true,al3]at h4;have h5:cB i=true:=by simpa using h4 i hi
  unfold cB at h5;split at h5;·exact .inl (by simp only[alE]at h5;exact h5.1.1)
  ·split at h5;·exact .inl (by simp only[alE]at h5;exact h5.1.1)
   ·split at h5;·exact .inr (by simp only[fl,alE,decide_eq_true_eq]at h5;exact h5.2.2.1)
    ·split at h5;·exact .inl (by simp only[alE]at h5;exact h5.1.1.1.1)
     ·split at h5;·exact .inr (by simp only[fl,alE,decide_eq_true_eq]at h5;exact h5.2.2.2.1)
      ·split at h5;·exact .inr (by simp only[fl,alE,decide_eq_true_eq]at h5;exact h5.2.2.2.1)
       ·cases h5
 ·unfold jd at h3;split at h3
  ·simp only[decide_eq_true_eq]at h3;have:t.rows=[]:=amb h3;rw[this]at hl;cases hl
  ·simp only[alE,Bool.not_eq_true']at h3;have h4:=al3.1 h3.2 l hl;unfold lV at h4;simp only[Bool.not_eq_true,Bool.or_eq_false_iff]at h4;have h5:gy a=true:=by simpa using al3.1 h4.2 a ha
   unfold gy at h5;split at h5;·exact .inl (by simp only[alE]at h5;exact h5.2)
   ·exact .inr (by simp only[alE,decide_eq_true_eq]at h5;exact h5.1.2)
theorem rH {i:Nat} (h:i<26):(letter i).toNat=97+i:=by
 unfold letter;simp only[UInt8.toNat_ofNat'];omega
theorem LA {th:List Bool} {b:UInt8}:b∈lets th 26↔∃i,i<26/\th.getD (97+i) false=true/\b=letter i:=by
 unfold lets;simp only[List.mem_map,List.mem_filter,List.mem_range];constructor;·rintro⟨i,⟨h1,h2⟩,rfl⟩;exact⟨i,h1,h2,rfl⟩
 ·rintro⟨i,h1,h2,rfl⟩;exact⟨i,⟨h1,h2⟩,rfl⟩
theorem AX (th:List Bool):(lets th 26).Pairwise λa b=>a.toNat<b.toNat:=by
 unfold lets;rw[List.pairwise_map];refine List.Pairwise.imp_of_mem (λ{a b} ha hb hab=>?_) (List.Pairwise.filter _ (List.pairwise_lt_range (n:=26)));have h1:=List.mem_range.1 (List.mem_filter.1 ha).1;have h2:=List.mem_range.1 (List.mem_filter.1 hb).1;rw[rH h1,rH h2];omega
theorem Ii {t:Test} {x:Int} (hx:x∈gV t) (hl:dp x=true):∃b∈eA t,(b.toNat:Int)=x:=by
 have h1:=(eS x).1 hl;have h2:=tv (.inl hl);refine⟨letter (x-97).toNat,LA.2 ⟨(x-97).toNat,by omega,?_,rfl⟩,?_⟩
 ·rw[DU t _ (by omega)];exact⟨x,hx,by omega⟩
 ·rw[rH (by omega)];omega
theorem Gc:∀(l:List (List Ins)) (s:Nat),l.foldl (λs x=>s+x.length) s=s+(l.map List.length).sum
 | [],s=>by simp
 |a::l,s=>by rw[al2,Gc l,alz,List.sum_cons];omega
theorem abO {t:Test} (h:dB t=0):En (w8 t):=by
 obtain⟨cI,fk,hj⟩:=tw h;have Lt:=zC cI;have nK:=zA Lt;have afU:∀l∈t.threads,∀x∈l,cB x=true:=by
  intro l hl x hx;simp only[okB,alE,Bool.not_eq_true']at cI;have h2:=cI.1.2;rw[al3]at h2;have h4:=h2 l hl;unfold fC at h4;rw[Bool.not_eq_true,al3]at h4;simpa using h4 x hx
 unfold sP at fk;simp only[Bool.or_eq_false_iff,decide_eq_false_iff_not,al3,decide_eq_true_eq]at fk;obtain⟨b1,b2,b3,b4,b5,_⟩:=fk;rw[nK]at b5;have jH:nF t.threads=(t.threads.map List.length).sum:=by unfold nF;rw[Gc];omega
 rw[jH]at b4;refine⟨?_,?_,?_,?_,?_,?_,?_,?_,?_,?_⟩
 ·show 1<=(t.threads.map _).length;rw[alk];omega
 ·show(t.threads.map _).length<=4;rw[alk];omega
 ·show(eA t).length<=4;omega
 ·show((eA t).map _).length=(eA t).length;rw[alk]
 ·show((t.threads.map _).map List.length).sum<=24;rw[alh,show(List.length∘λl:List Ins=>l.map (pE (eA t)))=List.length by funext l;simp];omega
 ·intro c hc;obtain⟨i,hi,_,rfl⟩:=LA.1 hc;rw[rH hi,eS];omega
 ·intro i h0 hi;have hp:=List.pairwise_iff_getElem.1 (AX (sO t)) (i-1) i (by show i-1<(eA t).length;have:(w8 t).aC=eA t:=rfl;rw[this]at hi;omega) hi (by omega);show((eA t).getD (i-1) 0).toNat<((eA t).getD i 0).toNat;have gK:i<(eA t).length:=hi;rw[alC,alw (by omega),alC,alw gK];exact hp
 ·intro l hl;obtain⟨l',uv,rfl⟩:=List.mem_map.1 hl;rw[alk];have:=b1 l' uv;omega
 ·intro l hl;obtain⟨l',uv,rfl⟩:=List.mem_map.1 hl;rw[SK];exact hj l' uv
 ·intro l hl x hx;obtain⟨l',uv,rfl⟩:=List.mem_map.1 hl;obtain⟨x',hx',rfl⟩:=List.mem_map.1 hx;refine SL (afU l' uv x' hx') (λBr=>DW (Ii ?_ Br)) (w8 t) rfl;unfold gV;refine List.mem_append.2 (.inr (List.mem_append.2 (.inl ?_)));exact List.mem_map.2 ⟨x',List.mem_flatten.2 ⟨l',uv,hx'⟩,rfl⟩
theorem Qt {t:Test} (cI:okB t=true):∀l∈t.threads,∀x∈l,cB x=true:=by
 intro l hl x hx;simp only[okB,alE,Bool.not_eq_true']at cI;have h2:=cI.1.2;rw[al3]at h2;have h4:=h2 l hl;unfold fC at h4;rw[Bool.not_eq_true,al3]at h4;simpa using h4 x hx
theorem DX {t:Test} (cI:okB t=true):∀x∈t.inits,dp x.loc=true:=by
 intro x hx;simp only[okB,alE,Bool.not_eq_true']at cI;have h1:=cI.1.1.2;unfold ky at h1;rw[al3]at h1;simpa using h1 x hx
theorem DY {x:Ins} (h:cB x=true):(x.kind=1\/x.kind=2\/x.kind=4->dp x.loc=true)/\(¬(x.kind=1\/x.kind=2\/x.kind=4)->x.loc=0):=by
 unfold cB at h
 repeat' split at h
 all_goals simp[fl]at h
 all_goals first
  |exact⟨λ_=>by simp[h],λhn=>absurd (by omega) hn⟩
  |exact⟨λhk=>by omega,λ_=>by omega⟩
  |(refine⟨λhk=>?_,λhn=>?_⟩<;>simp_all<;>omega)
theorem SN {aC:List UInt8} {x:Ins} (h:cB x=true):fH aC x=pE aC x:=by
 obtain⟨h1,h2⟩:=DY h;unfold fH pE;by_cases hk:x.kind=1\/x.kind=2\/x.kind=4
 ·have h3:=(eS _).1 (h1 hk);rw[if_pos hk,if_neg (by omega)];rfl
 ·rw[if_neg hk,if_pos (h2 hk)]
theorem SO {aC:List UInt8} (hs:aC.Pairwise λa b=>a.toNat<b.toNat) {x:Int} {i:Nat} (hi:i<aC.length):(place aC x).toNat=i/\0<=place aC x↔(aC[i].toNat:Int)=x:=by
 constructor
 ·rintro⟨h1,h2⟩;unfold place at h1 h2;cases hf:aC.findIdx? (λb=>decide ((b.toNat:Int)=x))with
  |none=>rw[hf]at h2;simp at h2
  |some j=>
   rw[hf]at h1;simp only[alj]at h1;subst h1;obtain⟨_,h3,_⟩:=List.findIdx?_eq_some_iff_getElem.1 hf;simpa using h3
 ·intro h;have:=J5 hi h λj hj wb he=>by
   have hp:=List.pairwise_iff_getElem.1 hs j i hj hi wb;omega
  rw[this];exact⟨by simp,by omega⟩
theorem LB {aC:List UInt8} (hs:aC.Pairwise λa b=>a.toNat<b.toNat) {i:Nat} (hi:i<aC.length):∀(l:List Init) (vs:List Int) (hv:vs.length=aC.length),(∀x∈l,0<=place aC x.loc)->
 (l.foldl (nN aC) vs).getD i 0=l.foldl (λv x=>if x.loc=(aC[i].toNat:Int)then x.value else v) (vs.getD i 0)
 | [],vs,hv,_=>rfl
 |x::l,vs,hv,h=>by
  have ih:=LB hs hi l (nN aC vs x) (by simp[nN,hv]) λy hy=>h y (alY _ hy);rw[al2,al2,ih]
  congr 1
  have hp:=SO hs (x:=x.loc) hi;have h0:=h x alU;unfold nN;by_cases he:x.loc=(aC[i].toNat:Int)
  ·rw[if_pos he];have:=(hp.2 he.symm).1;rw[this,alC,List.getElem?_set_self (by omega)];rfl
  ·rw[if_neg he,alC,List.getElem?_set_ne (λe=>he (hp.1 ⟨e,h0⟩).symm),alC]
theorem YL {t:Test} (h:dB t=0):gG t=w8 t:=by
 obtain⟨cI,fk,hj⟩:=tw h;have Lt:=zC cI;have nK:=zA Lt;have hso:(eA t).Pairwise λa b=>a.toNat<b.toNat:=AX _;have u5:∀x∈t.inits,0<=place (eA t) x.loc:=λx hx=>(DW (Ii (by
  unfold gV;exact List.mem_append.2 (.inl (List.mem_map.2 ⟨x,hx,rfl⟩))) (DX cI x hx))).1
 unfold gG w8;rw[nK]
 congr 1
 ·apply List.ext_getElem;·rw[pA];simp
  ·intro i h1 h2;have hi:i<(eA t).length:=by simpa using h2
   have:=LB hso hi t.inits (alA (eA t).length 0) (by simp) u5;rw[alC,alw h1]at this;simp only[al6]at this;rw[this,List.getElem_map];unfold P1
   congr 1
   rw[alC,List.getElem?_replicate];split<;>rfl
 ·refine List.map_congr_left λl hl=>List.map_congr_left λx hx=>SN (Qt cI l hl x hx)
theorem Qu {t:Test} (h:dB t=0):Ie t:=by
 obtain⟨cI,fk,hj⟩:=tw h;have nK:=zA (zC cI);unfold sP at fk;simp only[Bool.or_eq_false_iff,decide_eq_false_iff_not,al3,decide_eq_true_eq]at fk;obtain⟨b1,b2,b3,b4,b5,_⟩:=fk;refine⟨by omega,λx hx=>?_,by omega,λl hl=>?_,λl hl x hx hk=>?_⟩
 ·have h1:=DX cI x hx;have h2:=(eS _).1 h1;rw[nK];have h3:=DW (Ii (t:=t) (x:=x.loc) (by
   unfold gV;exact List.mem_append.2 (.inl (List.mem_map.2 ⟨x,hx,rfl⟩))) h1)
  exact⟨by omega,by omega,h3⟩
 ·have:=b1 l hl;omega
 ·have h2:=(eS _).1 ((DY (Qt cI l hl x hx)).1 hk);omega
theorem LC {t:Test} (h:dB t=0):En (gG t):=by rw[YL h];exact abO h
end
section
open Go Go.Jq Go.RowKit
theorem YM {a b:ByteArray} (h:a.data.toList=b.data.toList):a=b:=by
 cases a;cases b;simp only[Array.toList_inj]at h;rw[h]
theorem SP {w w':World} (h:Lib.TabIs aK w "internal/strconv.uint64pow10" .u64 Lib.pow10Tab) (hb:Below w.heap.size w w'):Lib.TabIs aK w' "internal/strconv.uint64pow10" .u64 Lib.pow10Tab:=by
 unfold Lib.TabIs World.var? at h⊢;rw[aaz]at h⊢;simp only[Option.bind_some]at h⊢;cases h0:w.heap[1]?with
 |none=>rw[h0]at h;cases h
 |some o=>
  have bn:1<w.heap.size:=by
   rcases Nat.lt_or_ge 1 w.heap.size with h'|h';·exact h'
   ·rw[Array.getElem?_eq_none h']at h0;cases h0
  rw[hb.block 1 bn];exact h
theorem E3 {w w':World} {k:Nat} {os:Array Obj} (h:w'=Go.Sort.grow (w.drewN k) os):Below w.heap.size w w':=by
 subst h;refine⟨rfl,rfl,rfl,?_,λj hj=>?_⟩;·simp[Go.Sort.grow,World.drewN]
 ·simp only[Go.Sort.grow,World.drewN];exact Array.getElem?_append_left hj
set_option maxHeartbeats 2000000 in
theorem Ov {n:Int} (hn:pj n) (s:ByteArray) (hs:s.data.toList=Lib.itoa n) (w:World) (GY:Lib.TabIs aK w "internal/strconv.uint64pow10" .u64 Lib.pow10Tab):
 Calls aK 39 #[.int .i64 n] w λe w'=>e=.returned (.string s)/\Below w.heap.size w w':=by
 have hI:=Tryz.strconv_FormatInt_10 n hn.1 hn.2 w GY;have ny:(⟨(Lib.itoa n).toArray⟩:ByteArray)=s:=by
  cases s with
  |mk d=>cases d with
   |mk l=>simp only at hs;rw[hs]
 rw[ny]at hI;clear hs ny GY hn
 go_enter func39,ntmps39
 go_wp2_with (go_at_call 91;apply hI.mono)
 rintro e W1 ⟨rfl,k,os,hW⟩;have hb:=E3 hW;clear hW
 go_wp2
 go_ret
 exact⟨rfl,hb⟩
set_option maxHeartbeats 2000000 in
theorem DZ (s:ByteArray) (Z5:s.size<=9223372036854775806) (n:Int) (h:Lib.parseIntB 64 s.data.toList=.ok n) (hn:pj n) (w:World) (GY:Lib.TabIs aK w "internal/strconv.uint64pow10" .u64 Lib.pow10Tab)
 (s':ByteArray) (hs:s'.data.toList=Lib.itoa n):Calls aK 220 #[.string s] w λe w'=>e=.returned (.tuple #[.int .i64 (if s'=s then n else 0),.bool (decide (s'=s))])/\Below w.heap.size w w':=by
 have hI:=Any.strconv_ParseInt_10_at64_ok Tryz.Cx s Z5 n h w;have hT:∀W1,Below w.heap.size w W1->Calls aK 39 #[.int .i64 n] W1 λe w'=>e=.returned (.string s')/\Below W1.heap.size W1 w':=λW1 hb=>Ov hn s' hs W1 (SP GY hb)
 clear h GY hs hn
 go_enter func220,ntmps220
 go_wp2_with (go_at_call 271;apply hI.mono)
 rintro e W1 ⟨rfl,hW⟩;have jR:Below w.heap.size w W1:=by
  rcases hW with rfl|⟨t,rfl⟩;·exact Below.refl _ _
  ·exact Lib.bytesWorld_below _ _ _
 have hT1:=hT W1 jR;clear hW hT hI
 go_wp2_with (go_at_call 39;apply hT1.mono)
 rintro e W2 ⟨rfl,iq⟩;have hb:=jR.trans (iq.mono jR.size);clear hT1 jR iq;by_cases JI:s'=s
 ·subst JI
  go_wp2
  go_ret2
  simp only[if_true,decide_true];exact⟨rfl,hb⟩
 ·have ht:¬s'.toList=s.toList:=λe=>JI (by
   simp only[ByteArray.toList_eq]at e;exact YM e)
  go_wp2
  ·go_ret2
   simp only[JI,if_false,decide_false];exact⟨rfl,hb⟩
  ·rename_i hx;exact absurd (by simpa using hx) ht
theorem D0 (s:ByteArray) (abP:s.size<=281474976710656) (w:World) (h:Lib.parseIntB 64 s.data.toList=Lib.parseIntB 64 []\/Lib.parseIntB 64 s.data.toList=.range)
 (h1:∃t p,w.cell? ⟨4,0,none⟩=some (.iface t p)) (h2:∃t p,w.cell? ⟨5,0,none⟩=some (.iface t p)):
 Calls aK 271 #[.string s,.int .i64 10,.int .i64 64] w λe w'=>∃v N,e=.returned (.tuple #[.int .i64 v,.iface 327 (.pointer (some ⟨N,0,none⟩))])/\Below w.heap.size w w':=by
 rcases h with h|h
 ·obtain⟨t,p,hv⟩:=h1;refine(Any.strconv_ParseInt_10_at64_syntax Tryz.Cx s abP h _ w hv (.inr ⟨t,p,rfl⟩)).mono ?_;rintro e w' ⟨N,rfl,_,_,hb⟩;exact⟨0,N,rfl,hb⟩
 ·obtain⟨t,p,hv⟩:=h2;refine(Any.strconv_ParseInt_10_at64_range Tryz.Cx s abP h _ w hv (.inr ⟨t,p,rfl⟩)).mono ?_;rintro e w' ⟨N,rfl,_,_,hb⟩;exact⟨_,N,rfl,hb⟩
set_option maxHeartbeats 2000000 in
theorem Bm (s:ByteArray) (abP:s.size<=281474976710656) (w:World) (h:Lib.parseIntB 64 s.data.toList=Lib.parseIntB 64 []\/Lib.parseIntB 64 s.data.toList=.range)
 (h1:∃t p,w.cell? ⟨4,0,none⟩=some (.iface t p)) (h2:∃t p,w.cell? ⟨5,0,none⟩=some (.iface t p)):
 Calls aK 220 #[.string s] w λe w'=>e=.returned (.tuple #[.int .i64 0,.bool false])/\Below w.heap.size w w':=by
 have hI:=D0 s abP w h h1 h2;clear h h1 h2
 go_enter func220,ntmps220
 go_wp2_with (go_at_call 271;apply hI.mono)
 rintro e W1 ⟨v,N,rfl,hb⟩
 go_wp2
 go_ret2
 exact⟨rfl,hb⟩
def eu (s:List UInt8):Int×Bool:=
 match Lib.parseIntB 64 s with
 |.ok n=>if Lib.itoa n=s then(n,true)else(0,false)
 |_=>(0,false)
theorem afW (n:Int):(⟨(Lib.itoa n).toArray⟩:ByteArray).data.toList=Lib.itoa n:=by simp
theorem YN (s:List UInt8):(⟨s.toArray⟩:ByteArray).data.toList=s:=by simp
theorem Ow (s:List UInt8):(⟨s.toArray⟩:ByteArray).size=s.length:=by simp[ByteArray.size]
theorem xN {c:Ctx} {m:Mem} {w:World} (h:MR c m w) (g:Nat) (hg:g=4\/g=5):∃t p,w.cell? ⟨g,0,none⟩=some (.iface t p):=by
 have:∃Φ,Mt g=some Φ/\∀cs,Φ cs->∃t p,cs=#[Value.iface t p]:=by
  rcases hg with rfl|rfl<;>exact⟨_,rfl,λ_ h=>h⟩
 obtain⟨Φ,hΦ,hc⟩:=this;obtain⟨_,cs,T,f,h1,h2⟩:=h.zZ g Φ hΦ;obtain⟨t,p,rfl⟩:=hc cs h2;refine⟨t,p,?_⟩;simp[World.cell?,h1]
theorem rI {s:List UInt8} (h:s.length<=281474976710656):Pure aK 220 [.d (.str s)] (.cC [au ((eu s).1),.d (.bool (eu s).2)]):=by
 refine mL λc w vs hr hM=>?_;simp only[bg,Rel,dS]at hr;obtain⟨v1,vs1,rfl,rfl,rfl⟩:=hr;have hs:=YN s;have hz:=Ow s;have key:Calls aK 220 #[.string ⟨s.toArray⟩] w λe w'=>e=.returned (.tuple #[.int .i64 (eu s).1,.bool (eu s).2])/\Below w.heap.size w w':=by
  have hE:=Bm ⟨s.toArray⟩ (by omega) w;rw[hs]at hE;unfold eu;rcases hp:Lib.parseIntB 64 s with n|_|_
  rotate_left
  ·exact hE (.inl hp) (xN hM 4 (.inl rfl)) (xN hM 5 (.inr rfl))
  ·exact hE (.inr hp) (xN hM 4 (.inl rfl)) (xN hM 5 (.inr rfl))
  ·have hn:pj n:=by
    have:=Lib.parseIntB_bounds hp;simp at this;unfold pj;omega
   have:=DZ ⟨s.toArray⟩ (by omega) n (by rw[hs];exact hp) hn w (ac1 hM) ⟨(Lib.itoa n).toArray⟩ (afW n);apply this.mono;rintro e w' ⟨rfl,hb⟩;refine⟨?_,hb⟩;by_cases he:Lib.itoa n=s;·simp[he]
   ·have:¬(⟨(Lib.itoa n).toArray⟩:ByteArray)=⟨s.toArray⟩:=λe=>he (by have:=congrArg (λb:ByteArray=>b.data.toList) e;simpa using this);simp[he,this]
 apply key.mono;rintro e w' ⟨rfl,hb⟩;exact⟨_,rfl,hb.os,hb.tape,hb.output,hb.size,λk hk=>hb.block k hk,(by simp[Rel,bg,dS])⟩
end
section
open Go Go.Jq
theorem LD {s:List UInt8} (h:(eu s).2=true):Lib.itoa (eu s).1=s/\pj (eu s).1:=by
 unfold eu at h⊢;rcases hp:Lib.parseIntB 64 s with n|_|_
 ·rw[hp]at h;simp only at h⊢;split at h
  ·rename_i he;rw[if_pos he];refine⟨he,?_⟩;have:=Lib.parseIntB_bounds hp;simp at this;unfold pj;omega
  ·cases h
 ·rw[hp]at h;cases h
 ·rw[hp]at h;cases h
theorem SQ {s:List UInt8} (h:(eu s).2=false):eu s=(0,false):=by
 unfold eu at h⊢;rcases hp:Lib.parseIntB 64 s with n|_|_
 ·rw[hp]at h;simp only at h⊢;split at h;·cases h
  ·rename_i he;rw[if_neg he]
 ·rfl
 ·rfl
theorem D1 (s:List UInt8):pj (eu s).1:=by
 cases h:(eu s).2 with
 |true=>exact(LD h).2
 |false=>rw[SQ h];constructor<;>decide
def Ij:Nat->aJ->aJ
 |0,c=>c
 |n+1,.seq _ b=>Ij n b
 |_,c=>c
def nq (c:UInt8):Bool:=decide (48<=c.toNat)&&decide (c.toNat<=57)
structure Tok where
 kd:Int
 tx:List UInt8
 pl:Nat
 deriving DecidableEq
def Tok.cells (t:Tok):List DV:=[.int .i64 t.kd,.str t.tx,.int .i64 t.pl]
def lk (c:UInt8):Bool:=c==32||c==9||c==10
def o4 (c:UInt8):Bool:=decide (97<=c.toNat)&&decide (c.toNat<=122)
def Ik (c:UInt8):Bool:=o4 c||nq c
def kJ:Bool->List UInt8->Nat
 |_,[]=>0
 |true,c::r=>1+kJ (c !=10) r
 |false,c::r=>if lk c=true then 1+kJ false r else if c=35 then 1+kJ true r else 0
def dv (s:List UInt8) (at':Nat):Nat:=at'+kJ false (s.drop at')
def iM:List UInt8->Nat
 | []=>0
 |c::r=>if Ik c=true then 1+iM r else 0
def afX:List UInt8:=[123,125,59,58,61,43,45,42,38,124,94,60]
def ed:List UInt8->Nat
 | []=>0
 |c::r=>
  if(c=60/\r.head?=some 60)\/(c=62/\r.head?=some 62)\/((c=61\/c=33)/\r.head?=some 61)then 2
  else if c∈afX then 1 else 0
def jS:Tok:=⟨0,[],0⟩
def fY (a:Nat):List UInt8->Tok×Nat×Int
 | []=>(⟨4,[],a⟩,a,0)
 |c::r=>
  if o4 c=true then(⟨1,c::r.take (iM r),a⟩,a+(1+iM r),0)
  else if nq c=true\/(c=45/\(r.head?.map nq).getD false=true)then
   (if(eu (c::r.take (iM r))).2=true then(⟨2,c::r.take (iM r),a⟩,a+(1+iM r),0)else(jS,a,5))
  else if ed (c::r)=0 then(jS,a,4)
  else(⟨3,(c::r).take (ed (c::r)),a⟩,a+ed (c::r),0)
def b8 (s:List UInt8) (at':Nat):Tok×Nat×Int:=fY (dv s at') (s.drop (dv s at'))
def nu (s:List UInt8) (at':Nat):Nat:=if(b8 s at').2.2=0 then 0 else dv s at'
theorem xO:∀(b:Bool) (l:List UInt8),kJ b l<=l.length
 |_,[]=>by simp[kJ]
 |true,c::r=>by have:=xO (c !=10) r;simp only[kJ,alu];omega
 |false,c::r=>by
  have h1:=xO false r;have h2:=xO true r;simp only[kJ,alu];split;·omega
  ·split<;>omega
theorem D3 {s:List UInt8} {a:Nat} (h:a<=s.length):dv s a<=s.length:=by
 have:=xO false (s.drop a);rw[List.length_drop]at this;unfold dv;omega
theorem D4 (s:List UInt8) (a:Nat):a<=dv s a:=Nat.le_add_right ..
theorem xP:∀l:List UInt8,iM l<=l.length
 | []=>by simp[iM]
 |c::r=>by have:=xP r;simp only[iM,alu];split<;>omega
theorem D5:∀l:List UInt8,ed l<=l.length/\ed l<=2
 | []=>by simp[ed]
 |c::r=>by
  rw[ed];split
  ·rename_i h;cases r with
   |nil=>simp at h
   |cons d r=>simp
  ·split<;>simp
theorem YO (a:Nat) (l:List UInt8):a<=(fY a l).2.1/\(fY a l).2.1<=a+l.length/\((fY a l).2.2=0->(fY a l).1.kd≠4->a<(fY a l).2.1):=by
 cases l with
 |nil=>simp[fY]
 |cons c r=>
  have h1:=xP r;have h2:=D5 (c::r);rw[fY];simp only[alu]at h2⊢;split;·simp only;omega
  ·split
   ·split;·simp only;omega
    ·simp
   ·split;·simp
    ·simp only;omega
theorem nv {s:List UInt8} {a:Nat} (h:a<=s.length):a<=(b8 s a).2.1/\(b8 s a).2.1<=s.length/\((b8 s a).2.2=0->(b8 s a).1.kd≠4->a<(b8 s a).2.1):=by
 have h1:=YO (dv s a) (s.drop (dv s a));have h2:=D3 h;have h3:=D4 s a;rw[List.length_drop]at h1;unfold b8;refine⟨by omega,by omega,λh4 h5=>?_⟩;have:=h1.2.2 h4 h5;omega
theorem Ox (a:Nat) (l:List UInt8) (h:(fY a l).2.2=0):(fY a l).1.pl=a/\(fY a l).1.tx=l.take ((fY a l).2.1-a)/\(fY a l).2.1=a+(fY a l).1.tx.length/\((fY a l).1.kd=4↔l=[]):=by
 cases l with
 |nil=>simp[fY]
 |cons c r=>
  have h1:=xP r;have h2:=D5 (c::r);rw[fY]at h⊢;split;·simp[Nat.add_sub_cancel_left,Nat.add_comm 1];omega
  ·rename_i hc;rw[if_neg hc]at h;split
   ·rename_i hd;rw[if_pos hd]at h;split;·simp[Nat.add_sub_cancel_left,Nat.add_comm 1];omega
    ·rename_i hp;rw[if_neg hp]at h;cases h
   ·rename_i hd;rw[if_neg hd]at h;split
    ·rename_i hs;rw[if_pos hs]at h;cases h
    ·simp only[alu]at h2;simp[Nat.add_sub_cancel_left];omega
def YP (c:UInt8):Prop:=lk c=false/\c≠35
theorem SR {c:UInt8} (r:List UInt8) (h:YP c):kJ false (c::r)=0:=by
 simp[kJ,h.1,h.2]
theorem SS {c:UInt8} (h:o4 c=true):YP c:=by
 simp only[o4,alE,decide_eq_true_eq]at h;constructor
 ·simp only[lk,Bool.or_eq_false_iff,beq_eq_false_iff_ne];refine⟨⟨?_,?_⟩,?_⟩<;>(rintro rfl;simp at h)
 ·rintro rfl;simp at h
theorem SU {c:UInt8} (h:nq c=true):YP c:=by
 simp only[nq,alE,decide_eq_true_eq]at h;constructor
 ·simp only[lk,Bool.or_eq_false_iff,beq_eq_false_iff_ne];refine⟨⟨?_,?_⟩,?_⟩<;>(rintro rfl;simp at h)
 ·rintro rfl;simp at h
theorem SV {s:List UInt8} {a e:Nat} {t:Tok} (ha:a<=s.length) (h:b8 s a=(t,e,0)):t.pl=dv s a/\t.tx=(s.drop t.pl).take t.tx.length/\e=t.pl+t.tx.length/\a<=t.pl/\e<=s.length/\(t.kd=4↔t.pl=s.length)/\(t.kd=4->t.tx=[]/\e=s.length):=by
 have h1:=Ox (dv s a) (s.drop (dv s a)) (by unfold b8 at h;rw[h]);have h2:=nv ha;have h3:=D3 ha;have h4:=D4 s a;unfold b8 at h;rw[h]at h1;rw[show b8 s a=(t,e,0) from h]at h2;simp only at h1 h2;obtain⟨p1,p2,p3,p4⟩:=h1;have hk:t.kd=4↔t.pl=s.length:=by
  rw[p4,p1];constructor
  ·intro h5;have:=congrArg List.length h5;rw[List.length_drop,alB]at this;omega
  ·intro h5;rw[h5,List.drop_length]
 have ht:t.tx=(s.drop t.pl).take t.tx.length:=by
  have:e-dv s a=t.tx.length:=by omega
  rw[p1,<-this];exact p2
 refine⟨p1,ht,by omega,by omega,h2.2.1,hk,λh5=>?_⟩;have h6:=hk.1 h5;have:t.tx=[]:=by
  rw[ht,h6,List.drop_length,List.take_nil]
 refine⟨this,?_⟩;rw[this]at p3;simp at p3;omega
theorem Oy:Pure aK 284 [] (.agg (mu.map λs=>.d (.str s))):=by
 refine ay func284 VD ntmps284 results284 rfl ?_;unfold ac0;refine J λK hK=>?_;simp only[go_sem];refine hK _ (J λK hK=>?_);simp only[go_sem];apply hK;apply an;simp only[go_sem];refine bO (.agg (mu.map λs=>.d (.str s))) [] [] ?_ rfl rfl trivial ⟨rfl,rfl⟩;rfl
def iJ (s:List UInt8) (i:Nat):Nat->Int×Bool
 |0=>(0,false)
 |f+1=>if 0<i/\mu.getD i []=s then(i,true)else iJ s (i+1) f
def opW (s:List UInt8):Int×Bool:=iJ s 0 12
theorem Oz {s:List UInt8} {i f:Nat} (h:0<i) (h2:mu.getD i []=s) (hf:0<f):iJ s i f=((i:Int),true):=by
 cases f with
 |zero=>omega
 |succ f=>rw[iJ,if_pos ⟨h,h2⟩]
theorem LF {s:List UInt8} {i f:Nat} (h:¬(0<i/\mu.getD i []=s)) (hf:0<f):iJ s i f=iJ s (i+1) (f-1):=by
 cases f with
 |zero=>omega
 |succ f=>rw[iJ,if_neg h];rfl
def LG:List AV:=mu.map λs=>.d (.str s)
theorem aiM {i:Nat} (hi:i<12):LG[i]?=some (.d (.str (mu.getD i []))):=by
 have key:∀q:Fin 12,LG[q.1]?=some (.d (.str (mu.getD q.1 []))):=by
  intro q
  match q with
  |⟨0,_⟩=>rfl|⟨1,_⟩=>rfl|⟨2,_⟩=>rfl|⟨3,_⟩=>rfl|⟨4,_⟩=>rfl|⟨5,_⟩=>rfl|⟨6,_⟩=>rfl|⟨7,_⟩=>rfl|⟨8,_⟩=>rfl|⟨9,_⟩=>rfl|⟨10,_⟩=>rfl|⟨11,_⟩=>rfl
 exact key ⟨i,hi⟩
def opS (s:List UInt8) (i:Nat):St:=⟨[(7,au i),(6,.agg LG),(0,.d (.str s))],[],0⟩
set_option maxHeartbeats 4000000 in
theorem abQ (s:List UInt8):Pure aK 273 [.d (.str s)] (.cC [au ((opW s).1),.d (.bool (opW s).2)]):=by
 refine ay func273 VB ntmps273 results273 rfl ?_;unfold acY;refine J λK hK=>?_;simp only[go_sem];apply hK;refine aa λK0 Yh=>?_;refine J λK hK=>?_;simp only[go_sem];refine aI Oy rfl rfl ?_;simp only[go_sem];apply hK;apply ax;have aiN:aj (λ_=>none) (mu.map λs=>AV.d (DV.str s))=mu.map λs=>AV.d (DV.str s):=rfl;refine aw (S':=opS s 0) (aB.cj [] ⟨by simp[aV,ah,AV.aA,aj,af,opS,LG,aiN],by simp[aL,aF,ai,ak,aj,AV.aA,af,ae,-alh,opS,LG,aiN],rfl,rfl⟩) ?_;refine kV (λi=>opS s i) (λi=>i<=12/\opW s=iJ s i (12-i)) 12 ⟨by omega,rfl⟩ ?_;rintro i hi ⟨_,hp⟩;have hrA:aj (λ_=>none) LG=LG:=rfl;unfold Pl opS
 by_cases bn:i<12
 ·have aQ:(i:Int)<12:=by omega
  have VI:=aiM bn;have hi0:(0:Int)<=(i:Int):=alm _;have hw:alv.wrap ((i:Int)+1)=((i+1:Nat):Int):=by rw[wB (by unfold pj;omega)];rfl
  have hlen:LG.length=12:=rfl;have aex:¬(0<i/\mu.getD i []=s)->opW s=iJ s (i+1) (12-(i+1)):=λh=>by
   rw[hp,LF h (by omega)];congr 1
  refine J λK hK=>?_;simp only[go_sem,aQ];apply hK;refine aa λK1 aT=>?_;refine aM ?_;apply ar;apply aT;refine aa λK1 aT=>?_;apply ax;refine J λK hK=>?_;simp only[go_sem,hi0,aQ,bn,alj,List.getElem?_drop,alV,Nat.add_zero,VI,hlen];apply hK;by_cases h0:i=0
  ·have ZK:¬(0:Int)<(i:Int):=by omega
   refine J λK hK=>?_;simp only[go_sem,ZK];apply hK;refine aH ?_;apply ar;apply aT;refine ag rfl ?_;simp only[go_sem,hw];refine⟨by omega,⟨by omega,aex (by omega)⟩,aB.cj [] ⟨by simp[opS,aV,ah,AV.aA,af,hrA],by simp[opS,aL],rfl,rfl⟩⟩
  ·have h1:(0:Int)<(i:Int):=by omega
   by_cases h2:mu.getD i []=s
   ·refine J λK hK=>?_;simp only[go_sem,h1,h2];apply hK;refine aM ?_;refine J λK hK=>?_;simp only[go_sem];apply hK;apply an;simp only[go_sem];refine aD _ rfl rfl ⟨?_,rfl⟩;have:=Oz (s:=s) (i:=i) (f:=12-i) (by omega) h2 (by omega);simp[ah,hp,this]
   ·refine J λK hK=>?_;simp only[go_sem,h1,h2];apply hK;refine aH ?_;apply ar;apply aT;refine ag rfl ?_;simp only[go_sem,hw];refine⟨by omega,⟨by omega,aex (λh=>h2 h.2)⟩,aB.cj [] ⟨by simp[opS,aV,ah,AV.aA,af,hrA],by simp[opS,aL],rfl,rfl⟩⟩
 ·have aQ:¬(i:Int)<12:=by omega
  have du:i=12:=by omega
  subst du;refine J λK hK=>?_;simp only[go_sem,aQ];apply hK;refine aa λK1 aT=>?_;refine aH ?_;apply aW;simp only[go_sem];refine Yh _ (J λK hK=>?_);simp only[go_sem];apply hK;apply an;simp only[go_sem];refine aD _ rfl rfl ⟨?_,rfl⟩;simp[ah,hp,iJ]
end
end Go.Proofs.YtadocofdkdiboaaGreatDoor
namespace Go.Proofs.YtadocofdkdiboaaGreatDoor
open Go Go.Jq
abbrev PE:=Int×Nat
abbrev PR (α:Type):=Except PE α
def o5 (s:List UInt8) (a:Nat):Tok:=(b8 s a).1
def Eo (s:List UInt8) (a:Nat):PR Nat:=if(b8 s a).2.2=0 then .ok a else .error ((b8 s a).2.2,dv s a)
def oT (s:List UInt8) (a:Nat):PR Nat:=Eo s (b8 s a).2.1
inductive PT (α:Type)where
 |ret (x:α)
 |bad (code:Int)
 |cur (k:Int->List UInt8->PT α)
 |lI (k:PT α)
namespace PT
variable{α β:Type}
def bind:PT α->(α->PT β)->PT β
 |.ret x,f=>f x
 |.bad c,_=>.bad c
 |.cur k,f=>.cur λd x=>(k d x).bind f
 |.lI k,f=>.lI (k.bind f)
def run (s:List UInt8):PT α->Nat->PR (α×Nat)
 |.ret x,a=>.ok (x,a)
 |.bad c,a=>.error (c,(o5 s a).pl)
 |.cur k,a=>(k (o5 s a).kd (o5 s a).tx).run s a
 |.lI k,a=>match oT s a with
  |.ok b=>k.run s b
  |.error e=>.error e
theorem run_bind (s:List UInt8) (t:PT α) (f:α->PT β):∀a,(t.bind f).run s a=match t.run s a with
  |.ok (x,b)=>(f x).run s b
  |.error e=>.error e:=by
 induction t with
 |ret x=>intro a;rfl
 |bad c=>intro a;rfl
 |cur k ih=>intro a;exact ih _ _ a
 |lI k ih=>
  intro a;simp only[bind,run];cases oT s a with
  |ok b=>exact ih b
  |error e=>rfl
end PT
def vQ (x:List UInt8):Option Int:=if x.length=1 then some ((x.getD 0 0).toNat:Int)else none
def pJ (x:List UInt8):Option Int:=if x.length=2/\x.getD 0 0=114/\48<=(x.getD 1 0).toNat/\(x.getD 1 0).toNat<=51 then some (((x.getD 1 0).toNat-48:Nat):Int)else none
def TO (d:Int) (y:List UInt8) (x:List UInt8):Bool:=(decide (d=3)||decide (d=1))&&decide (y=x)
def OA:List UInt8:=[115,116,111,114,101]
def OB:List UInt8:=[102,101,110,99,101]
def YQ:List UInt8:=[115,107,105,112]
def wIf:List UInt8:=[105,102]
def aiO:List UInt8:=[108,111,97,100]
def akG:List UInt8:=[99,97,115]
def YR:List UInt8:=[116,101,115,116]
def D6:List UInt8:=[105,110,105,116]
def xQ:List UInt8:=[116,104,114,101,97,100]
def Il:List UInt8:=[101,120,105,115,116,115]
def Im:List UInt8:=[102,111,114,97,108,108]
def iN {α:Type} (x:List UInt8) (yes no:PT α):PT α:=.cur λd y=>if TO d y x=true then .lI yes else no
def gj (x:List UInt8):PT Unit:=.cur λd y=>if TO d y x=true then .lI (.ret ())else .bad 6
def D7:PT (List UInt8):=.cur λd y=>if d=1 then .lI (.ret y)else .bad 6
def zD:PT Int:=.cur λd y=>if d=2 then .lI (.ret (eu y).1)else .bad 6
def jb (f:List UInt8->Option Int):PT Int:=.cur λd y=>if d=1 then(match f y with
 |some n=>.lI (.ret n)
 |none=>.bad 7)else .bad 6
def rJ:PT nf:=.cur λd _=>if d=2 then zD.bind λn=>.ret ⟨-1,n⟩else(jb pJ).bind λn=>.ret ⟨n,0⟩
def tz (r:Int):PT Ins:=
 iN aiO ((jb vQ).bind λl=>.ret ⟨2,r,l,⟨0,0⟩,0,⟨0,0⟩,0⟩)<|
 iN akG ((jb vQ).bind λl=>rJ.bind λx=>rJ.bind λy=>.ret ⟨4,r,l,x,0,y,0⟩)<|
 rJ.bind λx=>.cur λd y=>if d=3/\(opW y).2=true then .lI (rJ.bind λz=>.ret ⟨5,r,0,x,(opW y).1,z,0⟩)else .ret ⟨5,r,0,x,0,⟨-1,0⟩,0⟩
def Io:PT Ins:=
 iN OA ((jb vQ).bind λl=>rJ.bind λx=>.ret ⟨1,0,l,x,0,⟨0,0⟩,0⟩)<|
 iN OB (.ret ⟨3,0,0,⟨0,0⟩,0,⟨0,0⟩,0⟩)<|
 iN YQ (.cur λd y=>if d=2/\(eu y).1<0 then .bad 6 else
  zD.bind λn=>(gj wIf).bind λ_=>rJ.bind λx=>(gj [61,61]).bind λ_=>rJ.bind λy=>.ret ⟨6,0,0,x,0,y,n⟩)<|
 (jb pJ).bind λr=>(gj [61]).bind λ_=>tz r
def SX:PT Atom:=.cur λd y=>if d=2 then
    (if(eu y).1<0\/9<(eu y).1 then .bad 7 else .lI ((gj [58]).bind λ_=>(jb pJ).bind λr=>.ret ⟨(eu y).1,r,0,0⟩))
 else(jb vQ).bind λl=>.ret ⟨-1,0,l,0⟩
def jF:PT Atom:=SX.bind λx=>(gj [61]).bind λ_=>zD.bind λn=>.ret {x with value:=n}
def AY:PT Init:=(jb vQ).bind λl=>(gj [61]).bind λ_=>zD.bind λn=>(gj [59]).bind λ_=>.ret ⟨l,n⟩
def xR:PT Ins:=Io.bind λx=>(gj [59]).bind λ_=>.ret x
def pB {α:Type} (one:PT α):Nat->PT (List α)
 |0=>.bad 0
 |f+1=>iN [125] (.ret []) (one.bind λx=>(pB one f).bind λl=>.ret (x::l))
def bV:Nat:=4001
def n9:PT (List Ins):=(gj [123]).bind λ_=>pB xR bV
def gH:Nat->PT (List (List Ins))
 |0=>.bad 0
 |f+1=>iN xQ (n9.bind λx=>(gH f).bind λl=>.ret (x::l)) (.ret [])
def uC:Nat->PT (List Atom)
 |0=>.bad 0
 |f+1=>iN [38] (jF.bind λx=>(uC f).bind λl=>.ret (x::l)) (.ret [])
def xS:Nat->PT (List (List Atom))
 |0=>.bad 0
 |f+1=>jF.bind λx=>(uC bV).bind λl=>iN [124] ((xS f).bind λr=>.ret ((x::l)::r)) (.ret [x::l])
def Ip (k:Int):PT (Int×List (List Atom)):=(xS bV).bind λr=>(gj [59]).bind λ_=>.ret (k,r)
def LH:PT (Int×List (List Atom)):=iN Il (Ip 1) (iN Im (Ip 2) (.ret (0,[])))
def tA:PT (List Init):=(gj [123]).bind λ_=>pB AY bV
def D8:PT Test:=
 (gj YR).bind λ_=>D7.bind λn=>(gj [123]).bind λ_=>(iN D6 tA (.ret [])).bind λi=>(gH bV).bind λt=>LH.bind λc=>
  (gj [125]).bind λ_=>.cur λd _=>if d=4 then .ret ⟨n,i,t,c.1,c.2⟩else .bad 6
def l6 (s:List UInt8):PR Test:=
 if 4000<s.length then .error (2,4000)
 else match Eo s 0 with
  |.ok a=>(match D8.run s a with
   |.ok (t,_)=>.ok t
   |.error e=>.error e)
  |.error e=>.error e
theorem YS {s:List UInt8} {a b:Nat} (h:Eo s a=.ok b):a=b/\(b8 s a).2.2=0:=by
 unfold Eo at h;split at h;·rename_i h0;cases h;exact⟨rfl,h0⟩
 ·cases h
theorem Qv {s:List UInt8} {a:Nat} {c:Int} {p:Nat} (h:Eo s a=.error (c,p)):(b8 s a).2.2=c/\c≠0/\p=dv s a:=by
 unfold Eo at h;split at h;·cases h
 ·rename_i h0;cases h;exact⟨rfl,h0,rfl⟩
theorem ui {s:List UInt8} {a b:Nat} (h:oT s a=.ok b):b=(b8 s a).2.1/\(b8 s b).2.2=0:=by
 obtain⟨h1,h2⟩:=YS h;subst h1;exact⟨rfl,h2⟩
theorem PT.mE {α:Type} {s:List UInt8} (t:PT α):∀{a:Nat} {x:α} {b:Nat},a<=s.length->t.run s a=.ok (x,b)->a<=b/\b<=s.length:=by
 induction t with
 |ret x=>intro a y b ha h;simp only[run,Except.ok.injEq,ama]at h;obtain⟨_,rfl⟩:=h;exact⟨ali _,ha⟩
 |bad c=>intro a y b ha h;cases h
 |cur k ih=>intro a y b ha h;exact ih _ _ ha h
 |lI k ih=>
  intro a y b ha h;simp only[run]at h;split at h
  ·rename_i b' hb;obtain⟨rfl,_⟩:=ui hb;have h1:=nv ha;have:=ih h1.2.1 h;omega
  ·cases h
end Go.Proofs.YtadocofdkdiboaaGreatDoor
namespace Go.Proofs.YtadocofdkdiboaaGreatDoor
open Go.Proofs.Tryz
open Go.Proofs.Tryz renaming prog → aK
section
open Go Go.Jq
theorem vR {c k:UInt8} (h:(c.toNat:Int)=(k.toNat:Int)):c=k:=UInt8.toNat_inj.1 (by exact_mod_cast h)
theorem xU {c k:UInt8} (h:¬(c.toNat:Int)=(k.toNat:Int)):c≠k:=λe=>h (by rw[e])
theorem mT {s:List UInt8} {p:Nat} (h:p<s.length):s.drop p=s.getD p 0::s.drop (p+1):=by
 rw[List.drop_eq_getElem_cons h,alC,alw h,al6]
theorem SY (r:List UInt8):kJ true (10::r)=kJ false (10::r):=rfl
theorem Gd {c:UInt8} (h:c≠10) (r:List UInt8):kJ true (c::r)=1+kJ true r:=by
 have:(c !=10)=true:=by simpa using h
 simp only[kJ];rw[this]
theorem LI {j n:Nat} {m:Mem} {cs c':List AV} (h:bZ (λ_=>none) c'=true):bx [(0,j)] [(0,cs)] [(0,c')] n m=ak m j c':=by
 simp[bx,bR,bU,ai,fM _ h]
theorem ll {P:Program} {f:Nat} {rest cells:List AV} {Q:AV->List AV->Prop} (h:bB P f (.ptr 0 0::rest) [(0,cells)] λr m'=>∃c',m'=[(0,c')]/\Q r c')
 (hr:bZ (λ_=>none) rest=true) (hc:bZ (λ_=>none) cells=true) (hQ:∀r c',Q r c'->cd (λ_=>none) r=true/\bZ (λ_=>none) c'=true)
 {j:Nat} {dst:Option Nat} {r:List bC} {K:St->Prop} {t:Fr} {m:Mem} {n:Nat} (hm:ai m j=some cells)
 (hk:∀v c',Q v c'->bN P r ⟨cG t dst v,ak m j c',n+1⟩ K):ej P f (.ptr j 0::rest) dst r K t m n:=by
 refine bA [(0,j)] (.ptr 0 0::rest) [(0,cells)] (nb:=j+1) h (by simp[bX]) (by simp[aj,AV.aA,af,fM _ hr]) (by simp only[bZ,cd,af];simp;exact kx (λ_ h=>by cases h) _ hr) ⟨by simp[af,hm,fM _ hc];exact kx (λ_ h=>by cases h) _ hc,trivial⟩ (by simp[ai]) ?_;rintro r0 m' ⟨c',rfl,hq⟩;obtain⟨h1,h2⟩:=hQ _ _ hq;rw[LI h2,qd _ h1];exact hk _ _ hq
def aU (s:List UInt8) (a rd:Nat) (code lI:Int):List AV:=[.d (.str s),au a,au rd,au code,au lI]
theorem abR (s:List UInt8) (a rd:Nat) (code lI:Int):bZ (λ_=>none) (aU s a rd code lI)=true:=rfl
def BR (s:List UInt8) (rd k:Nat):Nat:=if k<s.length then max rd (k+1)else rd
theorem SZ (s:List UInt8) (a rd:Nat) (code lI:Int) (k:Nat):bB aK 216 [.ptr 0 0,au k] [(0,aU s a rd code lI)] λr m'=>r=.d (.bool (decide (k<s.length)))/\m'=[(0,aU s a rd code lI)]:=by
 refine ay func216 Vo ntmps216 results216 rfl ?_;unfold acL;refine J λK hK=>?_;simp only[go_sem];refine hK _ (J λK hK=>?_);simp only[go_sem,aU];apply hK;have e:(decide ((k:Int)<(s.length:Int)))=decide (k<s.length):=by rw[decide_eq_decide];omega
 apply an;simp only[go_sem];refine bO (.d (.bool (decide (k<s.length)))) [(0,0)] [(0,aU s a rd code lI)] ?_ rfl rfl ?_ ⟨rfl,rfl⟩;·simp[bj,aP,bt,ah]
 ·simp[aL,aF,ai,aj,AV.aA,aU]
theorem OC {s:List UInt8} (hs:s.length<=140737488351232) (a rd:Nat) (code lI:Int) (k:Nat):bB aK 217 [.ptr 0 0,au k] [(0,aU s a rd code lI)] λr m'=>r=.d (.int .u8 (s.getD k 0).toNat)/\m'=[(0,aU s a (BR s rd k) code lI)]:=by
 refine ay func217 Vp ntmps217 results217 rfl ?_;unfold acM;refine J λK hK=>?_;simp only[go_sem];apply hK;refine aa λK1 aT=>?_;have hi0:(0:Int)<=(k:Int):=alm _;by_cases h:k<s.length
 ·have h1:¬(s.length:Int)<=(k:Int):=by omega
  have h2:(k:Int)<s.length:=by omega
  have hw:=cY (i:=k) (by omega);have hmx:(if(rd:Int)<((k+1:Nat):Int)then((k+1:Nat):Int)else(rd:Int))=((max rd (k+1):Nat):Int):=by split<;>omega
  refine J λK hK=>?_;simp only[go_sem,aU,h1];apply hK;refine aH ?_;apply ar;refine aT _ (J λK hK=>?_);simp only[go_sem,hw,hmx];refine hK _ (J λK hK=>?_);simp only[go_sem,hi0,h2,alj];apply hK;apply an;simp only[go_sem];refine bO (.d (.int .u8 (s.getD k 0).toNat)) [(0,0)] [(0,aU s a (BR s rd k) code lI)] ?_ rfl rfl ?_ ⟨rfl,rfl⟩;·simp[bj,aP,bt,ah]
  ·simp[aL,aF,ai,ak,aj,AV.aA,aU,BR,h,alN]
 ·have h1:(s.length:Int)<=(k:Int):=by omega
  have hz:s[k]?.getD 0=0:=by rw[List.getElem?_eq_none (by omega)];rfl
  refine J λK hK=>?_;simp only[go_sem,aU,h1];apply hK;refine aM ?_;refine J λK hK=>?_;simp only[go_sem];apply hK;apply an;simp only[go_sem];refine bO (.d (.int .u8 (s.getD k 0).toNat)) [(0,0)] [(0,aU s a (BR s rd k) code lI)] ?_ rfl rfl ?_ ⟨rfl,rfl⟩;·simp[bj,aP,bt,ah,hz]
  ·simp[aL,aF,ai,ak,aj,AV.aA,aU,BR,h]
theorem uj (s:List UInt8) (a rd:Nat) (code lI:Int) (k:Nat) {j:Nat} {dst:Option Nat} {r:List bC} {K:St->Prop} {t:Fr} {m:Mem} {n:Nat} (hm:ai m j=some (aU s a rd code lI))
 (hk:bN aK r ⟨cG t dst (.d (.bool (decide (k<s.length)))),ak m j (aU s a rd code lI),n+1⟩ K):ej aK 216 [.ptr j 0,au k] dst r K t m n:=by
 refine ll (rest:=[au k]) (Q:=λr c'=>r=.d (.bool (decide (k<s.length)))/\c'=aU s a rd code lI) ((SZ s a rd code lI k).mono λr m' h=>⟨_,h.2,h.1,rfl⟩) rfl rfl ?_ hm ?_;·rintro _ _ ⟨rfl,rfl⟩;exact⟨rfl,rfl⟩
 ·rintro _ _ ⟨rfl,rfl⟩;exact hk
theorem gP {s:List UInt8} (hs:s.length<=140737488351232) (a rd:Nat) (code lI:Int) (k:Nat) {j:Nat} {dst:Option Nat} {r:List bC} {K:St->Prop} {t:Fr} {m:Mem} {n:Nat} (hm:ai m j=some (aU s a rd code lI))
 (hk:bN aK r ⟨cG t dst (.d (.int .u8 (s.getD k 0).toNat)),ak m j (aU s a (BR s rd k) code lI),n+1⟩ K):ej aK 217 [.ptr j 0,au k] dst r K t m n:=by
 refine ll (rest:=[au k]) (Q:=λr c'=>r=.d (.int .u8 (s.getD k 0).toNat)/\c'=aU s a (BR s rd k) code lI) ((OC hs a rd code lI k).mono λr m' h=>⟨_,h.2,h.1,rfl⟩) rfl rfl ?_ hm ?_;·rintro _ _ ⟨rfl,rfl⟩;exact⟨rfl,rfl⟩
 ·rintro _ _ ⟨rfl,rfl⟩;exact hk
def kK (c:UInt8):Int:=if lk c=true then 1 else if o4 c=true then 2 else if nq c=true then 3 else 0
set_option maxHeartbeats 4000000 in
theorem uk (c:UInt8):Pure aK 218 [.d (.int .u8 c.toNat)] (au (kK c)):=by
 refine ay func218 Vq ntmps218 results218 rfl ?_;unfold acN;refine J λK hK=>?_;simp only[go_sem];apply hK;refine aa λK1 aT=>?_;apply ax;have hb:∀{k:UInt8},(c.toNat:Int)=k.toNat->lk k=true->kK c=1:=λh h1=>by rw[vR h];unfold kK;rw[if_pos h1]
 by_cases h32:(c.toNat:Int)=32
 ·refine J λK hK=>?_;simp only[go_sem,h32];apply hK;refine aM ?_;refine J λK hK=>?_;simp only[go_sem];apply hK;apply an;simp only[go_sem];refine aD _ rfl rfl ⟨?_,rfl⟩;simp[ah,hb (k:=32) h32 rfl]
 by_cases h9:(c.toNat:Int)=9
 ·refine J λK hK=>?_;simp only[go_sem,h32,h9];apply hK;refine aM ?_;refine J λK hK=>?_;simp only[go_sem];apply hK;apply an;simp only[go_sem];refine aD _ rfl rfl ⟨?_,rfl⟩;simp[ah,hb (k:=9) h9 rfl]
 by_cases ng:(c.toNat:Int)=10
 ·refine J λK hK=>?_;simp only[go_sem,h32,h9,ng];apply hK;refine aM ?_;refine J λK hK=>?_;simp only[go_sem];apply hK;apply an;simp only[go_sem];refine aD _ rfl rfl ⟨?_,rfl⟩;simp[ah,hb (k:=10) ng rfl]
 have vw:lk c=false:=by
  simp only[lk,Bool.or_eq_false_iff,beq_eq_false_iff_ne];exact⟨⟨xU (k:=32) h32,xU (k:=9) h9⟩,xU (k:=10) ng⟩
 refine J λK hK=>?_;simp only[go_sem,h32,h9,ng];apply hK;refine aH ?_;by_cases h97:(97:Int)<=c.toNat
 ·by_cases aiP:(c.toNat:Int)<=122
  ·refine J λK hK=>?_;simp only[go_sem,h97,aiP];apply hK;refine aM ?_;refine J λK hK=>?_;simp only[go_sem];apply hK;apply an;simp only[go_sem];refine aD _ rfl rfl ⟨?_,rfl⟩;have e1:97<=c.toNat:=by omega
   have e2:c.toNat<=122:=by omega
   simp[ah,kK,vw,o4,e1,e2]
  ·have e2:¬c.toNat<=122:=by omega
   have h48:(48:Int)<=c.toNat:=by omega
   have h57:¬(c.toNat:Int)<=57:=by omega
   have e3:¬c.toNat<=57:=by omega
   refine J λK hK=>?_;simp only[go_sem,h97,aiP];apply hK;refine aH ?_;refine J λK hK=>?_;simp only[go_sem,h48,h57];apply hK;refine aH ?_;apply ar;refine aT _ (J λK hK=>?_);simp only[go_sem];apply hK;apply an;simp only[go_sem];refine aD _ rfl rfl ⟨?_,rfl⟩;simp[ah,kK,vw,o4,nq,e2,e3]
 ·have e1:¬97<=c.toNat:=by omega
  refine J λK hK=>?_;simp only[go_sem,h97];apply hK;refine aH ?_;by_cases h48:(48:Int)<=c.toNat
  ·by_cases h57:(c.toNat:Int)<=57
   ·refine J λK hK=>?_;simp only[go_sem,h48,h57];apply hK;refine aM ?_;refine J λK hK=>?_;simp only[go_sem];apply hK;apply an;simp only[go_sem];refine aD _ rfl rfl ⟨?_,rfl⟩;have e2:48<=c.toNat:=by omega
    have e3:c.toNat<=57:=by omega
    simp[ah,kK,vw,o4,nq,e1,e2,e3]
   ·refine J λK hK=>?_;simp only[go_sem,h48,h57];apply hK;refine aH ?_;apply ar;refine aT _ (J λK hK=>?_);simp only[go_sem];apply hK;apply an;simp only[go_sem];refine aD _ rfl rfl ⟨?_,rfl⟩;have e3:¬c.toNat<=57:=by omega
    simp[ah,kK,vw,o4,nq,e1,e3]
  ·refine J λK hK=>?_;simp only[go_sem,h48];apply hK;refine aH ?_;apply ar;refine aT _ (J λK hK=>?_);simp only[go_sem];apply hK;apply an;simp only[go_sem];refine aD _ rfl rfl ⟨?_,rfl⟩;have e2:¬48<=c.toNat:=by omega
   simp[ah,kK,vw,o4,nq,e1,e2]
theorem LJ (c:UInt8):(2<=kK c)↔Ik c=true:=by
 unfold kK Ik;cases h1:lk c with
 |true=>
  simp only[lk,Bool.or_eq_true,beq_iff_eq]at h1;rcases h1 with(rfl|rfl)|rfl<;>decide
 |false=>
  cases o4 c<;>cases nq c<;>decide
theorem D9 (c:UInt8):kK c=1↔lk c=true:=by
 unfold kK;cases lk c<;>cases o4 c<;>cases nq c<;>decide
def vS (s:List UInt8) (p rd:Nat):St:=⟨[(0,.ptr 0 0)],[(0,aU s p rd 0 0)],1⟩
theorem OD {s:List UInt8} {rd k:Nat} (h:k<s.length):BR s rd k=max rd (k+1):=by unfold BR;rw[if_pos h]
def nJ (s:List UInt8) (AZ p rd:Nat):Prop:=AZ<=rd/\p<=rd/\rd<=s.length/\rd<=max AZ (p+1)
theorem zE {s:List UInt8} {AZ p rd:Nat} (h:nJ s AZ p rd) (hp:p<s.length):nJ s AZ p (BR s rd p)/\nJ s AZ (p+1) (BR s rd p):=by
 rw[OD hp];unfold nJ at*;omega
set_option maxHeartbeats 8000000 in
theorem YT {s:List UInt8} (hs:s.length<=140737488351232) {T p0 AZ uV:Nat} (hp0:p0<=s.length) (h0:p0+kJ true (s.drop p0)=T) (Cl:nJ s AZ p0 uV) {Q:Exit->St->Prop}
 (hQ:∀p rd,p0<=p->p<=s.length->p+kJ false (s.drop p)=T->(p=p0->p0<s.length->s.getD p0 0=10)->nJ s AZ p rd->Q (.exit 3) (vS s p rd)):
 fP aK 1 51 (.loop GU) (vS s p0 uV) Q:=by
 refine ef (ι:={p:Nat×Nat//p0<=p.1/\p.1<=s.length/\p.1+kJ true (s.drop p.1)=T/\nJ s AZ p.1 p.2}) (λp=>vS s p.1.1 p.1.2) (λp=>s.length-p.1.1) ⟨(p0,uV),ali _,hp0,h0,Cl⟩ ?_;rintro⟨⟨p,rd⟩,hle,hl,hT,Em⟩;simp only at hle hl hT Em⊢;unfold GU vS;refine aa λK1 aT=>?_;refine J λK hK=>?_;simp only[go_sem,aU];refine uj s p rd 0 0 p rfl ?_;by_cases bn:p<s.length
 ·have hd:=mT bn;have Be:=zE Em bn;generalize hc:s.getD p 0=c at hd;rw[hd]at hT;simp only[go_sem,bn,decide_true,aU,ak];refine gP hs p rd 0 0 p rfl ?_;rw[hc];generalize BR s rd p=eE at Be⊢;by_cases ng:(c.toNat:Int)=10
  ·have YU:=vR (k:=10) ng;simp only[go_sem,ng,aU,ak];apply hK;refine aH ?_;refine aw (S':=vS s p eE) (aB.cj [(0,0)] ⟨by simp[aV,ah,AV.aA,aj,af,vS,aU],by simp[aL,aF,ai,ak,aj,AV.aA,af,ae,-alh,vS,aU],rfl,rfl⟩) ?_;refine aW (hQ p eE hle hl ?_ (λhe _=>?_) Be.1)
   ·rw[YU,SY]at hT;rw[hd,YU];exact hT
   ·rw[<-he,hc,YU]
  ·have YU:=xU (k:=10) ng;rw[Gd YU]at hT;have hw:=cY (i:=p) (by omega);simp only[go_sem,ng,aU,ak];apply hK;refine aM ?_;apply ar;apply aT;apply ax;refine ag rfl ?_;simp only[go_sem,hw];refine⟨⟨(p+1,eE),by simp only;omega,by simp only;omega,by simp only;omega,Be.2⟩,by simp only;omega,?_⟩;exact aB.cj [(0,0)] ⟨by simp[aV,ah,AV.aA,aj,af,vS],by simp[aL,aF,ai,ak,aj,AV.aA,vS,aU],rfl,rfl⟩
 ·have he:p=s.length:=by omega
  simp only[go_sem,bn,decide_false,aU,ak];apply hK;refine aH ?_;refine aw (S':=vS s p rd) (aB.cj [(0,0)] ⟨by simp[aV,ah,AV.aA,aj,af,vS,aU],by simp[aL,aF,ai,ak,aj,AV.aA,af,ae,-alh,vS,aU],rfl,rfl⟩) ?_;refine aW (hQ p rd hle hl ?_ (λh1 h2=>by omega) Em);subst he;rw[List.drop_length]at hT⊢;exact hT
set_option maxHeartbeats 8000000 in
theorem YV {s:List UInt8} (hs:s.length<=140737488351232) {a AZ:Nat} (ha:a<=s.length) (Cl:a<=AZ/\AZ<=s.length) {Q:Exit->St->Prop}
 (hQ:∀rd,nJ s AZ (dv s a) rd->Q (.exit 0) (vS s (dv s a) rd)) (hR:∀t rd n,nJ s AZ (dv s a) rd->Q .ret ⟨t,[(0,aU s (dv s a) rd 0 0)],n⟩):
 fP aK 1 51 (.loop GV) (vS s a AZ) Q:=by
 refine ef (ι:={p:Nat×Nat//p.1<=s.length/\p.1+kJ false (s.drop p.1)=dv s a/\nJ s AZ p.1 p.2}) (λp=>vS s p.1.1 p.1.2) (λp=>s.length-p.1.1) ⟨(a,AZ),ha,rfl,by unfold nJ;simp only;omega⟩ ?_;rintro⟨⟨p,rd⟩,hl,hT,Em⟩;simp only at hl hT Em⊢;unfold GV vS;refine aa λK1 aT=>?_;refine J λK hK=>?_;simp only[go_sem,aU];refine uj s p rd 0 0 p rfl ?_;by_cases bn:p<s.length
 ·have hd:=mT bn;have hw:=cY (i:=p) (by omega);have Be:=zE Em bn;generalize hc:s.getD p 0=c at hd;rw[hd]at hT;simp only[go_sem,bn,decide_true,aU,ak];apply hK;refine aM ?_;apply ar;apply aT;apply ax;refine J λK hK=>?_;simp only[go_sem];refine gP hs p rd 0 0 p rfl ?_;rw[hc];generalize BR s rd p=eE at Be⊢;simp only[go_sem,aU,ak];apply hK;apply ax;by_cases h35:(c.toNat:Int)=35
  ·have YW:=vR (k:=35) h35;refine J λK hK=>?_;simp only[go_sem,h35];apply hK;refine aM ?_;apply ax;refine aw (S':=vS s p eE) (aB.cj [(0,0)] ⟨by simp[aV,ah,AV.aA,aj,af,vS,aU],by simp[aL,aF,ai,ak,aj,AV.aA,af,ae,-alh,vS,aU],rfl,rfl⟩) ?_;refine YT hs (T:=dv s a) (AZ:=AZ) hl ?_ Be.1 ?_
   ·rw[hd,YW,Gd (by decide)];rw[YW]at hT;exact hT
   ·intro q rdq Qa NP hq3 RP hq5;unfold vS;simp only[go_sem];refine⟨⟨(q,rdq),NP,hq3,hq5⟩,?_,aB.cj [(0,0)] ⟨by simp[aV,ah,AV.aA,aj,af,vS],by simp[aL,aF,ai,ak,aj,AV.aA,vS,aU],rfl,rfl⟩⟩;simp only;have:q≠p:=λe=>by
     have:=RP e bn;rw[hc,YW]at this;cases this
    omega
  ·have YW:=xU (k:=35) h35;refine J λK hK=>?_;simp only[go_sem,h35];apply hK;refine aH ?_;have k1:=uk c;refine J λK hK=>?_;simp only[go_sem];refine aI k1 rfl rfl ?_;by_cases hb:lk c=true
   ·have I5:=(D9 c).2 hb;simp only[go_sem,I5];apply hK;refine aM ?_;refine ag rfl ?_;simp only[go_sem,hw];refine⟨⟨(p+1,eE),by simp only;omega,?_,Be.2⟩,by simp only;omega,aB.cj [(0,0)] ⟨by simp[aV,ah,AV.aA,aj,af,vS],by simp[aL,aF,ai,ak,aj,AV.aA,vS,aU],rfl,rfl⟩⟩;simp only[kJ]at hT;rw[if_pos hb]at hT;simp only;omega
   ·have I5:¬kK c=1:=λh=>hb ((D9 c).1 h);have hz:kJ false (c::s.drop (p+1))=0:=SR _ ⟨by simpa using hb,YW⟩;rw[hz]at hT;have S0:p=dv s a:=by omega
    simp only[go_sem,I5];apply hK;refine aH ?_;apply an;simp only[go_sem];have:=λt n=>hR t eE n (by rw[<-S0];exact Be.1);rw[<-S0]at this;exact this _ _
 ·have he:p=s.length:=by omega
  subst he;rw[List.drop_length]at hT;have S0:s.length=dv s a:=by rw[<-hT];rfl
  simp only[go_sem,bn,decide_false,aU,ak];apply hK;refine aH ?_;refine aw (S':=vS s s.length rd) (aB.cj [(0,0)] ⟨by simp[aV,ah,AV.aA,aj,af,vS,aU],by simp[aL,aF,ai,ak,aj,AV.aA,af,ae,-alh,vS,aU],rfl,rfl⟩) ?_;apply aW;have:=hQ rd (by rw[<-S0];exact Em);rw[<-S0]at this;exact this
theorem OE {s:List UInt8} (hs:s.length<=140737488351232) {a rd:Nat} (ha:a<=s.length) (hr:a<=rd/\rd<=s.length):
 bB aK 215 [.ptr 0 0] [(0,aU s a rd 0 0)] λr m'=>r=.cC []/\∃eE,nJ s rd (dv s a) eE/\m'=[(0,aU s (dv s a) eE 0 0)]:=by
 refine ay func215 Vn ntmps215 results215 rfl ?_;unfold acK;apply ax;refine aw (S':=vS s a rd) (aB.cj [(0,0)] ⟨by simp[aV,ah,AV.aA,aj,af,vS,aU,MO],by simp[aL,aF,ai,ak,aj,AV.aA,af,ae,-alh,vS,aU,MO],rfl,rfl⟩) ?_;refine YV hs ha hr ?_ ?_
 ·intro eE h;unfold vS;simp only[go_sem];refine⟨.cC [],rfl,[(0,0)],[(0,aU s (dv s a) eE 0 0)],rfl,rfl,?_,⟨rfl,eE,h,rfl⟩⟩;simp[aL,aF,ai,aj,AV.aA,aU]
 ·intro t eE n h;simp only[go_sem];refine bO (.cC []) [(0,0)] [(0,aU s (dv s a) eE 0 0)] rfl rfl rfl ?_ ⟨rfl,eE,h,rfl⟩;simp[aL,aF,ai,aj,AV.aA,aU]
def LK (s:List UInt8) (a p rd:Nat):St:=⟨[(1,au p),(0,.ptr 0 0),(4,au 0)],[(0,aU s a rd 0 0)],1⟩
set_option maxHeartbeats 8000000 in
theorem abS {s:List UInt8} (hs:s.length<=140737488351232) {a p0 AZ uV:Nat} (hp0:p0<=s.length) (Cl:nJ s AZ p0 uV) {Q:Exit->St->Prop}
 (hQ:∀rd,nJ s AZ (p0+iM (s.drop p0)) rd->Q (.exit 0) (LK s a (p0+iM (s.drop p0)) rd)):
 fP aK 1 18 (.loop GW) (LK s a p0 uV) Q:=by
 refine ef (ι:={p:Nat×Nat//p.1<=s.length/\p.1+iM (s.drop p.1)=p0+iM (s.drop p0)/\nJ s AZ p.1 p.2}) (λp=>LK s a p.1.1 p.1.2) (λp=>s.length-p.1.1) ⟨(p0,uV),hp0,rfl,Cl⟩ ?_;rintro⟨⟨p,rd⟩,hl,hT,Em⟩;simp only at hl hT Em⊢;unfold GW LK;have GH:∀eE,nJ s AZ p eE->iM (s.drop p)=0->Q (.exit 0) (LK s a p eE):=λeE h h0=>by
  rw[h0]at hT;have:=hQ eE (by rw[<-hT];exact h);rw[<-hT]at this;exact this
 refine aa λK1 aT=>?_;refine J λK hK=>?_;simp only[go_sem,aU];refine uj s a rd 0 0 p rfl ?_;by_cases bn:p<s.length
 ·have hd:=mT bn;have Be:=zE Em bn;generalize hc:s.getD p 0=c at hd;simp only[go_sem,bn,decide_true,aU,ak];refine gP hs a rd 0 0 p rfl ?_;rw[hc];generalize BR s rd p=eE at Be⊢;have k1:=uk c;simp only[go_sem,aU,ak];refine aI k1 rfl rfl ?_;by_cases ha:Ik c=true
  ·have hk:=(LJ c).2 ha;have hw:=cY (i:=p) (by omega);rw[hd,iM,if_pos ha]at hT;simp only[go_sem,hk];apply hK;refine aM ?_;apply ar;apply aT;apply ax;refine ag rfl ?_;simp only[go_sem,hw];refine⟨⟨(p+1,eE),by simp only;omega,by simp only;omega,Be.2⟩,by simp only;omega,?_⟩;exact aB.cj [(0,0)] ⟨by simp[aV,ah,AV.aA,aj,af,LK],by simp[aL,aF,ai,ak,aj,AV.aA,LK,aU],rfl,rfl⟩
  ·have hk:¬2<=kK c:=λh=>ha ((LJ c).1 h);simp only[go_sem,hk];apply hK;refine aH ?_;refine aw (S':=LK s a p eE) (aB.cj [(0,0)] ⟨by simp[aV,ah,AV.aA,aj,af,LK,aU],by simp[aL,aF,ai,ak,aj,AV.aA,af,ae,-alh,LK,aU],rfl,rfl⟩) ?_;exact aW (GH eE Be.1 (by rw[hd,iM,if_neg ha]))
 ·have he:p=s.length:=by omega
  simp only[go_sem,bn,decide_false,aU,ak];apply hK;refine aH ?_;refine aw (S':=LK s a p rd) (aB.cj [(0,0)] ⟨by simp[aV,ah,AV.aA,aj,af,LK,aU],by simp[aL,aF,ai,ak,aj,AV.aA,af,ae,-alh,LK,aU],rfl,rfl⟩) ?_;exact aW (GH rd Em (by rw[he,List.drop_length];rfl))
theorem S1 {s:List UInt8} (hs:s.length<=140737488351232) {a p rd:Nat} (hp:p<=s.length) (hr:p<=rd/\rd<=s.length):
 bB aK 219 [.ptr 0 0,au p] [(0,aU s a rd 0 0)] λr m'=>r=au (p+iM (s.drop p):Nat)/\∃eE,nJ s rd (p+iM (s.drop p)) eE/\m'=[(0,aU s a eE 0 0)]:=by
 refine ay func219 Vr ntmps219 results219 rfl ?_;unfold acO;refine J λK hK=>?_;simp only[go_sem];apply hK;refine aa λK1 aT=>?_;apply ax;refine aw (S':=LK s a p rd) (aB.cj [(0,0)] ⟨by simp[aV,ah,AV.aA,aj,af,LK,aU,MO],by simp[aL,aF,ai,ak,aj,AV.aA,af,ae,-alh,LK,aU,MO],rfl,rfl⟩) ?_;refine abS hs (AZ:=rd) hp (by unfold nJ;omega) ?_;intro eE h;unfold LK;simp only[go_sem];refine aT _ (J λK hK=>?_);simp only[go_sem];apply hK;apply an;simp only[go_sem];refine bO (au (p+iM (s.drop p):Nat)) [(0,0)] [(0,aU s a eE 0 0)] ?_ rfl rfl ?_ ⟨rfl,eE,h,rfl⟩;·simp[bj,aP,bt,ah]
 ·simp[aL,aF,ai,aj,AV.aA,aU]
theorem OG {s:List UInt8} (hs:s.length<=140737488351232) {a rd:Nat} (ha:a<=s.length) (hr:a<=rd/\rd<=s.length) {j:Nat} {dst:Option Nat} {r:List bC} {K:St->Prop} {t:Fr} {m:Mem} {n:Nat} (hm:ai m j=some (aU s a rd 0 0))
 (hk:∀eE,nJ s rd (dv s a) eE->bN aK r ⟨cG t dst (.cC []),ak m j (aU s (dv s a) eE 0 0),n+1⟩ K):ej aK 215 [.ptr j 0] dst r K t m n:=by
 refine ll (rest:=[]) (Q:=λr c'=>r=.cC []/\∃eE,nJ s rd (dv s a) eE/\c'=aU s (dv s a) eE 0 0) ((OE hs ha hr).mono λr m' h=>?_) rfl rfl ?_ hm ?_
 ·obtain⟨h1,eE,h2,h3⟩:=h;exact⟨_,h3,h1,eE,h2,rfl⟩
 ·rintro _ _ ⟨rfl,eE,_,rfl⟩;exact⟨rfl,rfl⟩
 ·rintro _ _ ⟨rfl,eE,h,rfl⟩;exact hk eE h
theorem Ge {s:List UInt8} (hs:s.length<=140737488351232) {a p rd:Nat} (hp:p<=s.length) (hr:p<=rd/\rd<=s.length) {j:Nat} {dst:Option Nat} {r:List bC} {K:St->Prop} {t:Fr} {m:Mem} {n:Nat} (hm:ai m j=some (aU s a rd 0 0))
 (hk:∀eE,nJ s rd (p+iM (s.drop p)) eE->bN aK r ⟨cG t dst (au (p+iM (s.drop p):Nat)),ak m j (aU s a eE 0 0),n+1⟩ K):ej aK 219 [.ptr j 0,au p] dst r K t m n:=by
 refine ll (rest:=[au p]) (Q:=λr c'=>r=au (p+iM (s.drop p):Nat)/\∃eE,nJ s rd (p+iM (s.drop p)) eE/\c'=aU s a eE 0 0) ((S1 hs hp hr).mono λr m' h=>?_) rfl rfl ?_ hm ?_
 ·obtain⟨h1,eE,h2,h3⟩:=h;exact⟨_,h3,h1,eE,h2,rfl⟩
 ·rintro _ _ ⟨rfl,eE,_,rfl⟩;exact⟨rfl,rfl⟩
 ·rintro _ _ ⟨rfl,eE,h,rfl⟩;exact hk eE h
end
end Go.Proofs.YtadocofdkdiboaaGreatDoor
