/- What the statement's proof leans on, part 5: the layer, the walks, the plain laws. Names and blanks are short to keep the claim within its limit of bytes. -/
import Derived.Test.YtjfdjkageiemkaaGreatDoorMJK1d
import Derived.WalkKit
import Derived.RunT
import Derived.Shelf.SlSortCmp.NoneTotal
import Derived.Shelf.Strings.Builder1
import Derived.Shelf.Strings.Builder2
import Derived.Shelf.Strings.OnBuilder
import Derived.Shelf.Small.Bits
import Derived.Shelf.Small.Strs
import Derived.Shelf.Strconv.Itoa0
import Derived.Shelf.Strconv.Itoa1
import Derived.Shelf.LaysM
import Derived.Shelf.Strconv.Itoa2
import Derived.Shelf.Strconv.Itoa3
import Derived.Shelf.Strconv.Itoa4
import Derived.Shelf.Strconv.ParseIntEmpty
import Derived.Shelf.Strconv.Clone
import Derived.Shelf.Strconv.SyntaxError
import Derived.Shelf.LaysC
import Derived.Shelf.Strconv.ToError
import Derived.Shelf.Strconv.Lower
import Derived.Shelf.Strconv.ParseUint10
import Derived.Shelf.Strconv.ParseUint10Empty
import Derived.Shelf.Strconv.ParseUint10Any
import Derived.Shelf.Strconv.ParseInt10
import Derived.Shelf.Strconv.RangeError
import Derived.Shelf.Strconv.ToErrorRange
import Derived.Shelf.Strconv.ParseUintEmpty
import Derived.Shelf.Strconv.ParseUint10b64
import Derived.Shelf.Strconv.ParseUint10b32
import Derived.Shelf.Strconv.ParseUint10b16
import Derived.Shelf.Strconv.ParseUint10b8
import Derived.Shelf.Strconv.ParseUint10At
import Derived.Shelf.Strconv.ParseInt10At64
import Derived.Shelf.Strconv.ParseInt10At32
import Derived.Shelf.Strconv.ParseInt10At16
import Derived.Shelf.Strconv.ParseInt10At8
import Derived.Shelf.Strconv.ParseInt10All
import Derived.Shelf.Strconv.ParseIntPublic10
import Derived.Shelf.Strconv.ErrVarParseInt
import Derived.Shelf.Strings.Search1
import Derived.Test.YtjfdjkageiemkaaGreatDoorProg
import Derived.Test.YtjfdjkageiemkaaGreatDoorMJK1c
import Derived.Test.YtjfdjkageiemkaaGreatDoorMJK1b
import Derived.Test.YtjfdjkageiemkaaGreatDoorRows
import Derived.Test.YtjfdjkageiemkaaGreatDoorTie
import Derived.ProofKit
import Derived.LaidMore
import Derived.OpenShut
import Derived.Stop.Joined
import Derived.ChangeOld
import Derived.Below
import Derived.Carry
import Derived.Lib.LaidTab
import Derived.SevenTiedAt
import Derived.SizedLaws
set_option linter.unusedSimpArgs false
set_option linter.unusedVariables false
set_option maxRecDepth 100000
open List renaming map_map → acU, length_map → acY, getElem?_eq_getElem → ac6, range → ac7, take_of_length_le → ac8, replicate → ada, map_cons → ade, length_append → adk, getD_eq_getElem?_getD → adl, foldr_cons → adp, foldr_nil → adq, flatMap_cons → adr, length_cons → ads, getElem_mem → adt, map_nil → adu, mem_cons_self → adw, mem_cons_of_mem → adx, length_nil → adz, foldl_cons → adB, map_append → adC, nil_append → adF, take_add_one → adG, eq_nil_of_length_eq_zero → adH
open Nat renaming le_refl → acV, zero_add → ac2, max_def → ado
open Int renaming toNat_natCast → acW, natCast_nonneg → acX
open Bool renaming false_eq_true → ac5, and_self → adg, false_and → adi, and_false → adm, and_eq_true → adn
open Go.IntKind renaming i64 → ac9
open Option renaming isSome_none → adb, map_eq_some_iff → adf, isSome_some → adj, isSome_iff_exists → adv, map_some → ady, getD_some → adE
open Option.some renaming injEq → adh
open Subtype renaming val → adD
namespace Go.Proofs.YtjfdjkageiemkaaGreatDoor
open Go.Proofs.Tryz
open Go.Proofs.Tryz renaming prog → aM
section
open Go Go.Jq
theorem HZ {n:Nat} {ds:List DV} (hn:0<n):bT aM 162 [.sl 0 20 0 n] [(0,ds.map .d)] λr m'=>r=.sl 0 20 0 n/\m'=[(0,ds.map .d)]:=by
 have hn0:¬n=0:=by omega
 refine ay func162 EJ ntmps162 results162 rfl ?_;unfold OH;refine J λK hK=>?_;simp only[go_sem];refine hK _ (J λK hK=>?_);simp only[go_sem,qJ,ir,acX,acW,hn0];apply hK;apply ak;exact⟨.sl 0 20 0 n,by simp[bB,aV,bK,ah,ai,an,aB,bG],[(0,0)],[(0,ds.map .d)],rfl,rfl,by simp[aL,aI,ai,an,aB,aj,AV.aC,ag,ae,-acU,bG],by simp[AV.aC,aj,ag,bG]⟩
theorem FN {ds:List DV}:bT aM 162 [.sl 0 20 0 0] [(0,ds.map .d)] λr m'=>r=.sl 1 20 0 0/\m'=[(1,[])]:=by
 refine ay func162 EJ ntmps162 results162 rfl ?_;unfold OH;refine J λK hK=>?_;simp only[go_sem];refine hK _ (J λK hK=>?_);simp only[go_sem,qJ,ir,acX,acW,aw,adp,adq,ado];apply hK;apply ak;exact⟨.sl 1 20 0 0,by simp[bB,aV,bK,ah,ai,an,aB,bG],[(1,1)],[(1,[])],rfl,rfl,by simp[aL,aI,ai,an,aB,aj,AV.aC,ag,ae,-acU,bG],by simp[AV.aC,aj,ag,bG]⟩
theorem C1 {l:List (List Int)} (jf:∀f∈l,f.length=20) (hb:l.length<=9223372036854775807):∃d:Ad,d.map adD=l/\dM o3 d (.sl l.length (cm l)):=by
 have hm:(l.pmap (λf h=>(⟨f,h⟩:{f:List Int//f.length=20})) jf).map adD=l:=by simp[List.map_pmap]
 refine⟨l.pmap (λf h=>⟨f,h⟩) jf,hm,by simpa using hb,.inr ?_⟩;have:∀d:Ad,d.flatMap o3=cm (d.map adD):=by
  intro d;induction d with
  |nil=>rfl
  |cons a d ih=>simp[cm,o3,ih,List.flatMap_map]
 rw[this,hm];simp
theorem H0 {d:Ad}:d.flatMap o3=cm (d.map adD):=by
 induction d with
 |nil=>rfl
 |cons a d ih=>simp[cm,o3,ih,List.flatMap_map]
theorem C2 {Aa:List (List Int)->List (List Int)} (acr:∀l,(∀f∈l,f.length=20)->∀f∈Aa l,f.length=20) (iZ:∀l,(Aa l).length=l.length)
 (ks:∀{l:List (List Int)},(∀f∈l,f.length=20)->l.length<4611686018427387904->bT aM 160 [.sl 0 20 0 l.length,.fn 161 []] [(0,cn l)] λr m'=>r=.cu []/\m'=[(0,cn (Aa l))])
 {d:Ad} {X:DV} (hX:dM o3 d X) (hb:d.length<=100000000000):
 Pure aM 99 [.d X] (.d (.sl (cc (Aa (d.map adD))).length (cm (cc (Aa (d.map adD)))))):=by
 have kc:=je (P:=aM) (de:=20) (bytes:=160) (el:=102) func159 OE ntmps159 rfl results159 (hX.Yl (w:=20) (λf=>by simp[o3,bR,f.2])) (by omega);rw[H0,show d.length=(d.map adD).length by simp]at kc;have jf:∀f∈d.map adD,f.length=20:=by
  intro f hf;obtain⟨x,_,rfl⟩:=List.mem_map.1 hf;exact x.2
 have hlen:(d.map adD).length<=100000000000:=by simpa using hb
 generalize d.map adD=l at*;have k2:=ks jf (by omega);have hs:=acr l jf;have hl:=iZ l;have k3:=Ac hs (by omega);rw[hl]at k3;have XC:∀{q:List (List Int)},(∀f∈q,f.length=20)->(cm (qS q)).take ((cc q).length*20)=cm (cc q):=by
  intro q hq;have VK:∀f∈cc q,f.length=20:=λf hf=>hq f (tB hf);have e1:(cn (qS q)).take ((cc q).length*20)=cn (cc q):=by
   unfold qS;rw[qF,List.take_append_of_le_length (by rw[dQ VK];exact acV _),ac8 (by rw[dQ VK];exact acV _)]
  unfold cn at e1;rw[<-List.map_take]at e1;exact(List.map_inj_right (λa b h=>by cases h;rfl)).1 e1
 have hp:=XC hs;by_cases h0:(cc (Aa l)).length=0
 ·have hz:cc (Aa l)=[]:=adH h0;rw[hz]at k3 hp⊢;have k4:=FN (ds:=cm (qS (Aa l)));simp only[adz,Nat.zero_mul]at k3 hp⊢;unfold cn at*;refine ay func99 IX ntmps99 results99 rfl ?_;unfold WY;refine J λK hK=>?_;simp only[go_sem];refine hK _ (J λK hK=>?_);simp only[go_sem];refine bt [] [.d X] [] (nb:=1000) (kc) (by simp[bC]) (by first|(simp[aj,AV.aC,ag];done)|simp[aj,AV.aC,ag,aw,adp,adq,ado]) (by first|(simp[bF,bE,ag];done)|simp[bF,bE,ag,aw,adp,adq,ado]) (by simp[handed,ag,ai,an,aB,aj,AV.aC,bF,bE,aw,adp,adq,ado]) rfl ?_;rintro r0 m' ⟨rfl,rfl⟩
  simp only[go_sem,bn,bL,bN,ai,an,aB,bX,ag,aj,bG,AV.aC,adj,adb,adg,adi,adm,ac5,aw,adp,adq,ado];refine hK _ (J λK hK=>?_);simp only[go_sem];refine bt [(0,0)] [.sl 0 20 0 l.length,.fn 161 []] [(0,(cm l).map .d)] (nb:=1000) (k2) (by simp[bC]) (by first|(simp[aj,AV.aC,ag];done)|simp[aj,AV.aC,ag]) (by first|(simp[bF,bE,ag];done)|simp[bF,bE,ag]) (by simp[handed,ag,ai,an,aB,aj,AV.aC,bF,bE]) rfl ?_;rintro r0 m' ⟨rfl,rfl⟩;simp only[go_sem,bn,bL,bN,ai,an,aB,bX,ag,aj,bG,AV.aC,adj,adb,adg,adi,adm,ac5];refine hK _ (J λK hK=>?_);simp only[go_sem]
  refine bt [(0,0)] [.sl 0 20 0 l.length] [(0,(cm (Aa l)).map .d)] (nb:=1000) (k3) (by simp[bC]) (by first|(simp[aj,AV.aC,ag];done)|simp[aj,AV.aC,ag]) (by first|(simp[bF,bE,ag];done)|simp[bF,bE,ag]) (by simp[handed,ag,ai,an,aB,aj,AV.aC,bF,bE]) rfl ?_;rintro r0 m' ⟨rfl,rfl⟩;simp only[go_sem,bn,bL,bN,ai,an,aB,bX,ag,aj,bG,AV.aC,adj,adb,adg,adi,adm,ac5]
  refine bt [(0,0)] [.sl 0 20 0 0] [(0,(cm (qS (Aa l))).map .d)] (nb:=1000) (k4) (by simp[bC]) (by first|(simp[aj,AV.aC,ag];done)|simp[aj,AV.aC,ag,aw,adp,adq,ado]) (by first|(simp[bF,bE,ag];done)|simp[bF,bE,ag,aw,adp,adq,ado]) (by simp[handed,ag,ai,an,aB,aj,AV.aC,bF,bE,aw,adp,adq,ado]) rfl ?_;rintro r0 m' ⟨rfl,rfl⟩;simp only[go_sem,bn,bL,bN,ai,an,aB,bX,ag,aj,bG,AV.aC,adj,adb,adg,adi,adm,ac5,aw,adp,adq,ado];apply hK
  refine ax (aH.jn (S':=⟨[(2,.d (.sl 0 []))],[],0⟩) [] [(4,[])] ⟨by simp[fO,ah,AV.cv,dn,bI,ag],by simp[gd,aI,bI,ai,an,aB,dn,AV.cv,ag,cF,ba,-acU],rfl,rfl,by simp[bD,bI,ai,an,aB,dn,AV.cv,cF,ba,-acU]⟩) ?_;apply ak;exact⟨.d (.sl 0 []),by simp[bB,aV,bK,ah,ai,an,aB,cm],[],[],rfl,rfl,by simp[aL,aI,ai,an,aB,aj,AV.aC,ag,ae,-acU,cm],by simp[AV.aC,aj,ag,cm]⟩
 ·have k4:=HZ (n:=(cc (Aa l)).length) (ds:=cm (qS (Aa l))) (by omega);unfold cn at*;refine ay func99 IX ntmps99 results99 rfl ?_;unfold WY;refine J λK hK=>?_;simp only[go_sem];refine hK _ (J λK hK=>?_);simp only[go_sem];refine bt [] [.d X] [] (nb:=1000) (kc) (by simp[bC]) (by first|(simp[aj,AV.aC,ag];done)|simp[aj,AV.aC,ag,aw,adp,adq,ado]) (by first|(simp[bF,bE,ag];done)|simp[bF,bE,ag,aw,adp,adq,ado]) (by simp[handed,ag,ai,an,aB,aj,AV.aC,bF,bE,aw,adp,adq,ado]) rfl ?_;rintro r0 m' ⟨rfl,rfl⟩;simp only[go_sem,bn,bL,bN,ai,an,aB,bX,ag,aj,bG,AV.aC,adj,adb,adg,adi,adm,ac5,aw,adp,adq,ado]
  refine hK _ (J λK hK=>?_);simp only[go_sem];refine bt [(0,0)] [.sl 0 20 0 l.length,.fn 161 []] [(0,(cm l).map .d)] (nb:=1000) (k2) (by simp[bC]) (by first|(simp[aj,AV.aC,ag];done)|simp[aj,AV.aC,ag]) (by first|(simp[bF,bE,ag];done)|simp[bF,bE,ag]) (by simp[handed,ag,ai,an,aB,aj,AV.aC,bF,bE]) rfl ?_;rintro r0 m' ⟨rfl,rfl⟩;simp only[go_sem,bn,bL,bN,ai,an,aB,bX,ag,aj,bG,AV.aC,adj,adb,adg,adi,adm,ac5];refine hK _ (J λK hK=>?_);simp only[go_sem]
  refine bt [(0,0)] [.sl 0 20 0 l.length] [(0,(cm (Aa l)).map .d)] (nb:=1000) (k3) (by simp[bC]) (by first|(simp[aj,AV.aC,ag];done)|simp[aj,AV.aC,ag]) (by first|(simp[bF,bE,ag];done)|simp[bF,bE,ag]) (by simp[handed,ag,ai,an,aB,aj,AV.aC,bF,bE]) rfl ?_;rintro r0 m' ⟨rfl,rfl⟩;simp only[go_sem,bn,bL,bN,ai,an,aB,bX,ag,aj,bG,AV.aC,adj,adb,adg,adi,adm,ac5]
  refine bt [(0,0)] [.sl 0 20 0 (cc (Aa l)).length] [(0,(cm (qS (Aa l))).map .d)] (nb:=1000) (k4) (by simp[bC]) (by first|(simp[aj,AV.aC,ag];done)|simp[aj,AV.aC,ag]) (by first|(simp[bF,bE,ag];done)|simp[bF,bE,ag]) (by simp[handed,ag,ai,an,aB,aj,AV.aC,bF,bE]) rfl ?_;rintro r0 m' ⟨rfl,rfl⟩;simp only[go_sem,bn,bL,bN,ai,an,aB,bX,ag,aj,bG,AV.aC,adj,adb,adg,adi,adm,ac5];apply hK
  refine ax (aH.jn (S':=⟨[(2,.d (.sl (cc (Aa l)).length (cm (cc (Aa l)))))],[],0⟩) [] [(0,cm (qS (Aa l)))] ⟨by simp[fO,ah,AV.cv,dn,bI,ag,hp],by simp[gd,aI,bI,ai,an,aB,dn,AV.cv,ag,cF,ba,-acU,hp],rfl,rfl,by simp[bD,bI,ai,an,aB,dn,AV.cv,cF,ba,-acU,hp]⟩) ?_;apply ak;exact⟨.d (.sl (cc (Aa l)).length (cm (cc (Aa l)))),by simp[bB,aV,bK,ah,ai,an,aB],[],[],rfl,rfl,by simp[aL,aI,ai,an,aB,aj,AV.aC,ag,ae,-acU],by simp[AV.aC,aj,ag]⟩
def jD (a b:Int):Int:=if a<b then-1 else if b<a then 1 else 0
def cd (f g:List Int):Nat->Nat->Int
 |_,0=>0
 |j,n+1=>if jD (f.getD j 0) (g.getD j 0)=0 then cd f g (j+1) n else jD (f.getD j 0) (g.getD j 0)
theorem wm (f g:List Int):∀(a j b:Nat),cd f g j (a+b)=if cd f g j a=0 then cd f g (j+a) b else cd f g j a
 |0,j,b=>by simp[cd]
 |a+1,j,b=>by
  rw[show a+1+b=(a+b)+1 by omega,cd,cd];by_cases h:jD (f.getD j 0) (g.getD j 0)=0;·rw[if_pos h,if_pos h,wm f g a (j+1) b,show j+1+a=j+(a+1) by omega]
  ·rw[if_neg h,if_neg h,if_neg h]
def qT (f g:List Int):Int:=cd f g 0 20
theorem y5 (x:Int):Pure aM 323 [aq x] (.d (.bool false)):=by
 refine ay func323 PE ntmps323 results323 rfl ?_;unfold VE;refine J λK hK=>?_;simp only[go_sem];refine hK _ (J λK hK=>?_);simp only[go_sem,decide_true,Bool.not_true];apply hK;apply ak;exact⟨.d (.bool false),by simp[bB,aV,bK,ah,ai,an,aB],[],[],rfl,rfl,by simp[aL,aI,ai,an,aB,aj,AV.aC,ag,ae,-acU],by simp[AV.aC,aj,ag]⟩
theorem LK (a b:Int):Pure aM 290 [aq a,aq b] (aq (jD a b)):=by
 have ka:=y5 a;have kb:=y5 b;unfold jD;refine ay func290 Pz ntmps290 results290 rfl ?_;unfold Vz;refine J λK hK=>?_;simp only[go_sem];refine hK _ (J λK hK=>?_);simp only[go_sem];refine aY (ka) ?_;simp only[go_sem];refine hK _ (J λK hK=>?_);simp only[go_sem];refine aY (kb) ?_;simp only[go_sem];apply hK;refine aa λK1 a8=>?_;refine J λK hK=>?_;simp only[go_sem];apply hK;refine aK ?_;apply au;apply a8;refine aa λK2 fx=>?_;refine J λK hK=>?_;simp only[go_sem];apply hK;refine aK ?_;apply au;apply fx;refine aa λK3 Gs=>?_;by_cases h1:a<b
 ·refine J λK hK=>?_;simp only[go_sem,h1,decide_true];apply hK;refine aN ?_;refine J λK hK=>?_;simp only[go_sem];apply hK;apply ak;exact⟨aq (-1),by simp[bB,aV,bK,ah,ai,an,aB,h1],[],[],rfl,rfl,by simp[aL,aI,ai,an,aB,aj,AV.aC,ag,ae,-acU,h1],by simp[AV.aC,aj,ag,h1]⟩
 ·refine J λK hK=>?_;simp only[go_sem,h1,decide_false];apply hK;refine aK ?_;apply au;apply Gs;refine aa λK4 Mi=>?_;by_cases h2:b<a
  ·refine J λK hK=>?_;simp only[go_sem,h2,decide_true];apply hK;refine aN ?_;refine J λK hK=>?_;simp only[go_sem];apply hK;apply ak;exact⟨aq 1,by simp[bB,aV,bK,ah,ai,an,aB,h1,h2],[],[],rfl,rfl,by simp[aL,aI,ai,an,aB,aj,AV.aC,ag,ae,-acU,h1,h2],by simp[AV.aC,aj,ag,h1,h2]⟩
  ·refine J λK hK=>?_;simp only[go_sem,h2,decide_false];apply hK;refine aK ?_;apply au;refine Mi _ (J λK hK=>?_);simp only[go_sem];apply hK;apply ak;exact⟨aq 0,by simp[bB,aV,bK,ah,ai,an,aB,h1,h2],[],[],rfl,rfl,by simp[aL,aI,ai,an,aB,aj,AV.aC,ag,ae,-acU,h1,h2],by simp[AV.aC,aj,ag,h1,h2]⟩
theorem Qu {f:List Int} {j:Nat} (hj:j<f.length):aP none (((bR f).map AV.d).drop j)=some (aq (f.getD j 0)):=by
 unfold bR;rw[<-List.map_drop,<-List.map_drop,List.drop_eq_getElem_cons hj,adl,ac6 hj];rfl
def V3 (f g:List Int) (o i:Nat):St:=⟨[(0,.sl 0 1 o 4),(1,.sl 1 1 o 4),(9,.sl 0 1 o 4),(10,aq 4),(11,aq i)],[(0,(bR f).map .d),(1,(bR g).map .d)],2⟩
theorem y6 {f g:List Int} (hf:f.length=20) (hg:g.length=20) {o:Nat} (ho:o<=16):
 bT aM 229 [.sl 0 1 o 4,.sl 1 1 o 4] [(0,(bR f).map .d),(1,(bR g).map .d)] λr m'=>r=aq (cd f g o 4)/\m'=[(0,(bR f).map .d),(1,(bR g).map .d)]:=by
 generalize hR:cd f g o 4=R;refine ay func229 O5 ntmps229 results229 rfl ?_;unfold U5;refine J λK hK=>?_;simp only[go_sem];apply hK;refine aa λKE fK=>?_;refine J λK hK=>?_;simp only[go_sem];apply hK;apply aA;refine ax (S':=V3 f g o 0) (aH.cN [(0,0),(1,1)] ⟨by simp[bm,ah,AV.aC,aj,ag,V3],by simp[aL,aI,ai,an,aj,AV.aC,ag,ae,-acU,V3],rfl,rfl⟩) ?_;refine fy (ι:={i:Nat//i<=4/\cd f g (o+i) (4-i)=R}) (λi=>V3 f g o i.1) (λi=>4-i.1) ⟨0,by omega,hR⟩ ?_;rintro⟨i,hi,hr⟩;dsimp only;have qZ:(bR f).length=20:=by simp[bR,hf]
 have Xy:(bR g).length=20:=by simp[bR,hg]
 unfold Jj;by_cases bd:i<4
 ·have aQ:(i:Int)<4:=by omega
  have hge:¬(4:Int)<=i:=by omega
  have hw:=c8 (i:=i) (by omega);have l1:=Qu (f:=f) (j:=o+i) (by omega);have l2:=Qu (f:=g) (j:=o+i) (by omega);rw[show 4-i=(4-(i+1))+1 by omega,cd]at hr;generalize f.getD (o+i) 0=x at l1 hr;generalize g.getD (o+i) 0=y at l2 hr;have kc:=LK x y;generalize jD x y=c at kc hr;unfold V3;refine J λK hK=>?_;simp only[go_sem,aQ,decide_true];apply hK;refine aa λK1 a8=>?_;refine aN ?_;apply au;apply a8;refine aa λK1 a8=>?_;apply aA;refine J λK hK=>?_;simp only[go_sem,acX,aQ,bd,acW,Nat.mul_one,l1];apply hK;refine aa λK2 fx=>?_;refine J λK hK=>?_;simp only[go_sem,hge,decide_false];apply hK;refine aK ?_
  apply au;refine fx _ (J λK hK=>?_);simp only[go_sem,acX,aQ,bd,acW,Nat.mul_one,l2];refine hK _ (J λK hK=>?_);simp only[go_sem];refine aY (kc) ?_;simp only[go_sem];apply hK;by_cases hc:c=0
  ·rw[if_pos hc]at hr;refine J λK hK=>?_;simp only[go_sem,hc,decide_true,Bool.not_true];apply hK;refine aK ?_;apply au;simp only[go_sem];apply a8;refine af rfl ?_;simp only[go_sem,hw];refine⟨⟨i+1,bd,hr⟩,by simp only;omega,?_⟩;exact aH.cN [(0,0),(1,1)] ⟨by simp[bm,ah,AV.aC,aj,ag,V3],by simp[aL,aI,ai,an,aB,aj,AV.aC,ag,ae,-acU,V3],rfl,rfl⟩
  ·rw[if_neg hc]at hr;subst hr;refine J λK hK=>?_;simp only[go_sem,hc,decide_false,Bool.not_false];apply hK;refine aN ?_;refine J λK hK=>?_;simp only[go_sem];apply hK;apply ak;exact⟨aq c,by simp[bB,aV,bK,ah,ai,an,aB],[(0,0),(1,1)],[(0,(bR f).map .d),(1,(bR g).map .d)],rfl,rfl,by simp[aL,aI,ai,an,aB,aj,AV.aC,ag,ae,-acU],by simp[AV.aC,aj,ag]⟩
 ·have dh:i=4:=by omega
  subst dh;have Az:R=0:=hr.symm;subst Az;unfold V3;refine J λK hK=>?_;simp only[go_sem,show¬((4:Nat):Int)<4 by decide,decide_false];apply hK;refine aa λK1 a8=>?_;refine aK ?_;apply aZ;show KE _;apply fK;refine aa λK2 fx=>?_;refine J λK hK=>?_;simp only[go_sem,decide_false];apply hK;refine aK ?_;apply au;refine fx _ (J λK hK=>?_);simp only[go_sem];apply hK;apply ak;exact⟨aq 0,by simp[bB,aV,bK,ah,ai,an,aB],[(0,0),(1,1)],[(0,(bR f).map .d),(1,(bR g).map .d)],rfl,rfl,by simp[aL,aI,ai,an,aB,aj,AV.aC,ag,ae,-acU],by simp[AV.aC,aj,ag]⟩
def S7 (c:Int) (i:Nat):St:=⟨[(3,aq 0),(6,.sl 0 1 0 2),(7,aq 2),(8,aq i)],[(0,[aq c,aq 0])],1⟩
theorem LL (c:Int):bT aM 230 [.sl 0 1 0 2] [(0,[aq c,aq 0])] λr m'=>r=aq c/\m'=[(0,[aq c,aq 0])]:=by
 refine ay func230 O6 ntmps230 results230 rfl ?_;unfold U6;refine J λK hK=>?_;simp only[go_sem];refine hK _ (J λK hK=>?_);simp only[go_sem];apply hK;refine aa λKE fK=>?_;refine J λK hK=>?_;simp only[go_sem];apply hK;apply aA;refine ax (S':=S7 c 0) (aH.cN [(0,0)] ⟨by simp[bm,ah,AV.aC,aj,ag,S7],by simp[aL,aI,ai,an,aj,AV.aC,ag,ae,-acU,S7],rfl,rfl⟩) ?_;refine fy (ι:={i:Nat//i<=2/\(i≠0->c=0)}) (λi=>S7 c i.1) (λi=>2-i.1) ⟨0,by omega,λh=>absurd rfl h⟩ ?_;rintro⟨i,hi,hc⟩;dsimp only;unfold Jk;by_cases bd:i<2
 ·have aQ:(i:Int)<2:=by omega
  have hw:=c8 (i:=i) (by omega);by_cases hz:i=0/\c≠0
  ·obtain⟨h0,hcn⟩:=hz;subst h0;unfold S7;refine J λK hK=>?_;simp only[go_sem,aQ,decide_true];apply hK;refine aa λK1 a8=>?_;refine aN ?_;apply au;apply a8;refine aa λK1 a8=>?_;apply aA;refine J λK hK=>?_;simp only[go_sem,aP];refine hK _ (J λK hK=>?_);simp only[go_sem,hcn,decide_false,Bool.not_false];apply hK;refine aN ?_;refine J λK hK=>?_;simp only[go_sem];apply hK;apply ak;exact⟨aq c,by simp[bB,aV,bK,ah,ai,an,aB],[(0,0)],[(0,[aq c,aq 0])],rfl,rfl,by simp[aL,aI,ai,an,aB,aj,AV.aC,ag,ae,-acU],by simp[AV.aC,aj,ag]⟩
  ·have vM:aP none ([aq c,aq 0].drop i)=some (aq 0):=by
    rcases(show i=0\/i=1 by omega)with h|h
    ·have:c=0:=by
      by_cases h2:c=0;·exact h2
      ·exact absurd ⟨h,h2⟩ hz
     subst h this;rfl
    ·subst h;rfl
   have hcz:c=0:=by
    by_cases h:i=0
    ·by_cases h2:c=0;·exact h2
     ·exact absurd ⟨h,h2⟩ hz
    ·exact hc h
   generalize hC: [aq c,aq 0]=C at vM;unfold S7;rw[hC];refine J λK hK=>?_;simp only[go_sem,aQ,decide_true];apply hK;refine aa λK1 a8=>?_;refine aN ?_;apply au;apply a8;refine aa λK1 a8=>?_;apply aA;refine J λK hK=>?_;simp only[go_sem,acX,aQ,bd,acW,Nat.mul_one,ac2,vM];refine hK _ (J λK hK=>?_);simp only[go_sem,decide_true,Bool.not_true];apply hK;refine aK ?_;apply au;simp only[go_sem];apply a8;refine af rfl ?_;simp only[go_sem,hw];refine⟨⟨i+1,bd,λ_=>hcz⟩,by simp only;omega,?_⟩;subst hC;exact aH.cN [(0,0)] ⟨by simp[bm,ah,AV.aC,aj,ag,S7],by simp[aL,aI,ai,an,aB,aj,AV.aC,ag,ae,-acU,S7],rfl,rfl⟩
 ·have dh:i=2:=by omega
  subst dh;have hcz:=hc (by decide);subst hcz;unfold S7;refine J λK hK=>?_;simp only[go_sem,show¬((2:Nat):Int)<2 by decide,decide_false];apply hK;refine aa λK1 a8=>?_;refine aK ?_;apply aZ;show KE _;refine fK _ (J λK hK=>?_);simp only[go_sem];apply hK;apply ak;exact⟨aq 0,by simp[bB,aV,bK,ah,ai,an,aB],[(0,0)],[(0,[aq 0,aq 0])],rfl,rfl,by simp[aL,aI,ai,an,aB,aj,AV.aC,ag,ae,-acU],by simp[AV.aC,aj,ag]⟩
def V4 (f g:List Int) (i:Nat):St:=⟨[(2,.ptr 0 0),(3,.ptr 1 0),(7,aq i)],[(0,(bR f).map .d),(1,(bR g).map .d)],2⟩
theorem C3 {f g:List Int} (hf:f.length=20) (hg:g.length=20):Pure aM 161 [.agg ((bR f).map .d),.agg ((bR g).map .d)] (aq (qT f g)):=by
 have qZ:((bR f).map AV.d).length=20:=by simp[bR,hf]
 have Xy:((bR g).map AV.d).length=20:=by simp[bR,hg]
 have aaA:(bR f).length=20:=by simp[bR,hf]
 have aaB:(bR g).length=20:=by simp[bR,hg]
 have hfx:o8 0 ((bR f).map AV.d)=(bR f).map AV.d:=ln (by intro h;rw[h]at hf;cases hf);have hgx:o8 1 ((bR g).map AV.d)=(bR g).map AV.d:=ln (by intro h;rw[h]at hg;cases hg);unfold qT;generalize hR:cd f g 0 20=R;refine ay func161 OG ntmps161 results161 rfl ?_;unfold UJ;refine J λK hK=>?_;simp only[go_sem,hfx,hgx];apply hK;refine aa λKE fK=>?_;refine J λK hK=>?_;simp only[go_sem];apply hK;apply aA;refine ax (S':=V4 f g 0) (aH.cN [(0,0),(1,1)] ⟨by simp[bm,ah,AV.aC,aj,ag,V4],by simp[aL,aI,ai,an,aj,AV.aC,ag,ae,-acU,V4],rfl,rfl⟩) ?_
 refine fy (ι:={i:Nat//i<=4/\cd f g (i*4) (20-i*4)=R}) (λi=>V4 f g i.1) (λi=>4-i.1) ⟨0,by omega,hR⟩ ?_;rintro⟨i,hi,hr⟩;dsimp only;unfold I7;by_cases bd:i<4
 ·have aQ:(i:Int)<4:=by omega
  have hw:=c8 (i:=i) (by omega);have k4:=y6 hf hg (o:=i*4) (by omega);rw[show 20-i*4=4+(20-(i+1)*4) by omega,wm,show i*4+4=(i+1)*4 by omega]at hr;generalize cd f g (i*4) 4=c at k4 hr;have e1:i*4+4<=20:=by omega
  unfold V4;refine J λK hK=>?_;simp only[go_sem,aQ,decide_true];apply hK;refine aa λK1 a8=>?_;refine aN ?_;apply au;apply a8;refine aa λK1 a8=>?_;apply aA;refine J λK hK=>?_;simp only[go_sem];apply hK;refine aa λK hK=>az rfl rfl ?_;simp only[go_sem,acX,aQ,bd,acW,ac2,kg,qJ,qZ,Xy,aaA,aaB,acY,e1];refine eQ [(0,0),(1,1)] [.sl 0 1 (i*4) 4,.sl 1 1 (i*4) 4] [(0,(bR f).map .d),(1,(bR g).map .d)] (nb:=1000) (k4) (by simp[bC]) (by first|(simp[aj,AV.aC,ag];done)|simp[aj,AV.aC,ag]) (by first|(simp[bF,bE,ag];done)|simp[bF,bE,ag]) (by simp[handed,ag,ai,an,aB,aj,AV.aC,bF,bE,cT]) rfl ?_
  simp only[go_sem,dX,ade,adu,bn,bL,bN,ai,an,aB,bX,ag,aj,bG,AV.aC,adj,adb,adg,adi,adm,ac5];refine⟨rfl,hK _ ?_⟩;by_cases hc:c=0
  ·rw[if_pos hc]at hr;refine J λK hK=>?_;simp only[go_sem,hc,decide_true,Bool.not_true];apply hK;refine aK ?_;apply au;simp only[go_sem];apply a8;refine af rfl ?_;simp only[go_sem,hw];refine⟨⟨i+1,bd,hr⟩,by simp only;omega,?_⟩;exact aH.cN [(0,0),(1,1)] ⟨by simp[bm,ah,AV.aC,aj,ag,V4],by simp[aL,aI,ai,an,aB,aj,AV.aC,ag,ae,-acU,V4],rfl,rfl⟩
  ·rw[if_neg hc]at hr;subst hr;refine J λK hK=>?_;simp only[go_sem,hc,decide_false,Bool.not_false];apply hK;refine aN ?_;refine J λK hK=>?_;simp only[go_sem];apply hK;apply ak;exact⟨aq c,by simp[bB,aV,bK,ah,ai,an,aB],[],[],rfl,rfl,by simp[aL,aI,ai,an,aB,aj,AV.aC,ag,ae,-acU],by simp[AV.aC,aj,ag]⟩
 ·have dh:i=4:=by omega
  subst dh;have k4:=y6 hf hg (o:=16) (by omega);have Ry:cd f g 16 4=R:=hr;rw[Ry]at k4;have ko:=LL R;unfold V4;refine J λK hK=>?_;simp only[go_sem,show¬((4:Nat):Int)<4 by decide,decide_false];apply hK;refine aa λK1 a8=>?_;refine aK ?_;apply aZ;show KE _;apply fK;refine aa λK hK=>az rfl rfl ?_;simp only[go_sem,kg,qJ,qZ,Xy,aaA,aaB,acY]
  refine eQ [(0,0),(1,1)] [.sl 0 1 16 4,.sl 1 1 16 4] [(0,(bR f).map .d),(1,(bR g).map .d)] (nb:=1000) (k4) (by simp[bC]) (by first|(simp[aj,AV.aC,ag];done)|simp[aj,AV.aC,ag]) (by first|(simp[bF,bE,ag];done)|simp[bF,bE,ag]) (by simp[handed,ag,ai,an,aB,aj,AV.aC,bF,bE,cT]) rfl ?_;simp only[go_sem,dX,ade,adu,bn,bL,bN,ai,an,aB,bX,ag,aj,bG,AV.aC,adj,adb,adg,adi,adm,ac5]
  refine eQ [(0,8)] [.sl 0 1 0 2] [(0,[aq R,aq 0])] (nb:=1000) (ko) (by simp[bC]) (by first|(simp[aj,AV.aC,ag];done)|simp[aj,AV.aC,ag]) (by first|(simp[bF,bE,ag];done)|simp[bF,bE,ag]) (by simp[handed,ag,ai,an,aB,aj,AV.aC,bF,bE,cT]) rfl ?_;simp only[go_sem,dX,ade,adu,bn,bL,bN,ai,an,aB,bX,ag,aj,bG,AV.aC,adj,adb,adg,adi,adm,ac5];refine⟨rfl,hK _ ?_⟩;apply ak;exact⟨aq R,by simp[bB,aV,bK,ah,ai,an,aB],[],[],rfl,rfl,by simp[aL,aI,ai,an,aB,aj,AV.aC,ag,ae,-acU],by simp[AV.aC,aj,ag]⟩
end
end Go.Proofs.YtjfdjkageiemkaaGreatDoor
namespace Go.Jq
open Go
def WM (w w':World):Prop:=w'.tape=w.tape/\w.drawn<=w'.drawn
theorem WM.refl (w:World):WM w w:=⟨rfl,acV _⟩
theorem WM.trans {a b c:World} (h:WM a b) (k:WM b c):WM a c:=⟨k.1.trans h.1,Nat.le_trans h.2 k.2⟩
def rW {α:Type}:Result α->World
 |.ok _ w=>w
 |.halt _ w=>w
theorem H2 {α:Type}:∀(a:Ask α) (w:World),WM w (w.ask a).2
 |.done a,w=>WM.refl w
 |.ask what range k,w=>by
  simp only[World.ask];split;·exact H2 _ _
  ·exact WM.trans (b:={w with drawn:=w.drawn+1}) ⟨rfl,Nat.le_succ _⟩ (H2 _ _)
theorem Qv (w:World) (c:Sys):WM w (w.sys c).2:=by
 unfold World.sys;have h:=H2 (Kernel.perform c w.os) w;split;·exact WM.refl w
 ·rename_i r os w' _ he;rw[he]at h;exact h
theorem C4 {p:Program} {w:World} {at_:Addr} {u:TypeId} {k:Addr} {v:Value} {b:Bool} {w':World} {l:List Addr}
 (h:w.viewStore p at_ u k v b=.ok (w',l)):WM w w':=by
 unfold World.viewStore at h;simp only[bind,Except.bind,pure,Except.pure]at h
 repeat' first
  |(cases h;done)
  |(simp only[Except.ok.injEq,Prod.mk.injEq]at h;obtain⟨rfl,_⟩:=h;exact⟨rfl,acV _⟩)
  |split at h
theorem FO {p:Program} {w:World} {a:Addr} {v:Value} {b:Bool} {w':World} {l:List Addr}
 (h:w.farStore p a v b=.ok (w',l)):WM w w':=by
 unfold World.farStore at h;split at h
 ·split at h;·rename_i hr;cases h;exact C4 hr
  ·cases h
 ·cases h
theorem LM (w:World) (a:Addr) (n:Nat):WM w (w.freeze a n):=by
 unfold World.freeze;split<;>exact⟨rfl,acV _⟩
theorem r5 {α:Type} (P:Program) (s:Sem α):∀w,WM w (rW (s.run P w)):=by
 induction s with
 |pure a=>intro w;exact WM.refl w
 |load m a k ih=>
  intro w;simp only[Sem.run];split;·exact ih _ w
  ·split;·exact ih _ w
   ·exact WM.refl w
 |store m a v k ih=>
  intro w;cases v<;>simp only[Sem.run]
  all_goals first
   |exact WM.refl w
   |(split
     ·split;·exact WM.refl w
      ·exact WM.trans ⟨rfl,acV _⟩ (ih _)
     ·split;·rename_i h;exact WM.trans (FO h) (ih _)
      ·exact WM.refl w)
 |new o k ih=>intro w;simp only[Sem.run];exact WM.trans ⟨rfl,acV _⟩ (ih _ _)
 |shape r k ih=>intro w;simp only[Sem.run];exact ih _ w
 |freeze a n k ih=>intro w;simp only[Sem.run];exact WM.trans (LM w a n) (ih _)
 |frozen a k ih=>intro w;simp only[Sem.run];exact ih _ w
 |getObj r k ih=>
  intro w;simp only[Sem.run];split;·exact WM.refl w
  ·exact ih _ w
  ·exact WM.refl w
 |setObj r o k ih=>
  intro w;simp only[Sem.run];split;·exact WM.refl w
  ·exact WM.trans ⟨rfl,acV _⟩ (ih _)
  ·exact WM.refl w
 |choose q k ih=>
  intro w;simp only[Sem.run];split;·exact ih _ w
  ·exact WM.trans (b:={w with drawn:=w.drawn+1}) ⟨rfl,Nat.le_succ _⟩ (ih _ _)
 |sys c k ih=>intro w;simp only[Sem.run];exact WM.trans (Qv w c) (ih _ _)
 |program k ih=>intro w;simp only[Sem.run];exact ih _ w
 |mark m k ih=>intro w;simp only[Sem.run];exact ih w
 |halt h=>intro w;exact WM.refl w
theorem ef {α:Type} {P:Program} {s:Sem α} {w w':World} {a:α} (h:s.run P w=.ok a w'):WM w w':=by
 have:=r5 P s w;rw[h]at this;exact this
theorem jg {α:Type} {P:Program} {s:Sem α} {w w':World} {a:Halt} (h:s.run P w=.halt a w'):WM w w':=by
 have:=r5 P s w;rw[h]at this;exact this
theorem qG {α:Type} (P:Program) (s:Sem α) (w:World) (es:Array Event):WM w (rW (s.runT P w es).1):=by
 rw[Sem.runT_fst];exact r5 P s w
theorem iT {α:Type} {P:Program} {s:Sem α} {w w':World} {a:α} {es:Array Event} (h:(s.runT P w es).1=.ok a w'):WM w w':=by
 have:=qG P s w es;rw[h]at this;exact this
theorem hY {α:Type} {P:Program} {s:Sem α} {w w':World} {a:Halt} {es:Array Event} (h:(s.runT P w es).1=.halt a w'):WM w w':=by
 have:=qG P s w es;rw[h]at this;exact this
theorem FP {α:Type} {P:Program} {s:Sem α} {w w':World} {a:α} {es es':Array Event} (h:s.runT P w es=(.ok a w',es')):WM w w':=by
 have:=qG P s w es;rw[h]at this;exact this
theorem mJ {α:Type} {P:Program} {s:Sem α} {w w':World} {a:Halt} {es es':Array Event} (h:s.runT P w es=(.halt a w',es')):WM w w':=by
 have:=qG P s w es;rw[h]at this;exact this
def gW:GStep->World
 |.go _ w _=>w
 |.comm _ _ _ _ w _=>w
 |.spawn _ _ w _=>w
 |.count _ w _=>w
 |.timer _ _ w _=>w
 |.alone _ _ w _=>w
 |.newcoro _ _ _ w _=>w
 |.coroswitch _ _ _ w _=>w
 |.collect _ w _=>w
 |.watch _ w _=>w
 |.ended _ w _=>w
theorem nE (es:Array Event) (g:GStep):gW (g.after es)=gW g:=by cases g<;>rfl
theorem H3 (w:World) (fd:Nat) (text:ByteArray) (o:Outcome):WM w (gW (endWith w fd text o)):=by
 unfold endWith;have h:=Qv w (.write fd text);generalize w.sys (.write fd text)=r at h⊢;obtain⟨ret,w'⟩:=r;have h:WM w w':=h;cases ret<;>simp only[]<;>(repeat' first|exact h|split)
theorem wo (fr:Frame) (m:String) (w:World):WM w (gW (endThrow fr m w)):=WM.refl w
theorem pZ (p:Program) (fr:Frame) (v:Value) (w:World):WM w (gW (endPrinting p fr v w)):=by
 unfold endPrinting;simp only[]
 repeat' first
  |exact WM.refl w
  |split
theorem wq (p:Program) (fr:Frame) (cs:List Frame) (dy:Option Dying) (m:String) (w:World):WM w (gW (endFatal p fr cs dy m w)):=by
 unfold endFatal;simp only[];generalize hs:Sem.run p (_:Sem (List (ByteArray×String)×List ByteArray)) w=r;have h:WM w (rW r):=by rw[<-hs];exact r5 _ _ _
 cases r with
 |ok a w'=>exact h
 |halt e w'=>cases e<;>exact h
theorem H4 (p:Program) (fr:Frame) (d:Dying) (f:Fatal) (w:World):WM w (gW (writeOn p fr d f w)):=by
 unfold writeOn;simp only[];split;·exact WM.refl w
 ·split;·rename_i h;exact FP h
  ·rename_i h;exact mJ h
  ·rename_i h;exact mJ h
  ·rename_i h;exact mJ h
theorem XD (p:Program) (fr:Frame) (d:Dying) (w:World):WM w (gW (die p fr d w)):=by
 unfold die;split;·exact H4 ..
 ·split
  ·split;·exact WM.refl w
   ·exact H3 ..
  ·simp only[];split;·exact WM.refl w
   ·split;·rename_i h;exact ef h
    ·rename_i h;exact jg h
   ·rw[nE];split;·rename_i h;exact iT h
    ·rename_i h;exact iT h
    ·rename_i h;exact hY h
    ·rename_i h;exact WM.trans (hY h) (pZ ..)
    ·exact WM.refl w
   ·exact WM.refl w
theorem p5 (p:Program) (main:Bool) (fr:Frame) (cs:List Frame) (dy:Option Dying) (v:Value) (w:World):WM w (gW (doReturn p main fr cs dy v w)):=by
 unfold doReturn;simp only[]
 repeat' first
  |exact WM.refl w
  |split
theorem wP (p:Program) (fr:Frame) (cs:List Frame) (dy:Option Dying) (d:Deferred) (w:World):WM w (gW (callDeferred p fr cs dy d w)):=by
 unfold callDeferred;refine iteInduction (motive:=λg=>WM w (gW g)) (λ_=>?_) (λ_=>?_);·exact WM.refl w
 ·simp only[nE];have h:=qG p (invoke d.target d.args) w #[]
  generalize ((invoke d.target d.args).runT p w #[]).1=r at h
  repeat' first
   |exact h
   |exact WM.trans h (wq ..)
   |exact WM.trans h (wo ..)
   |split
theorem LN (p:Program) (main:Bool) (fr:Frame) (cs:List Frame) (dy:Option Dying) (w:World):WM w (gW (unwind p main fr cs dy w)):=by
 unfold unwind;split
 ·simp only[nE];split;·rename_i h;exact iT h
  ·rename_i h;exact hY h
 ·exact wP ..
 ·split;·exact WM.refl w
  ·split;·exact WM.refl w
   ·split;·exact WM.refl w
    ·split
     ·split;·exact WM.refl w
      ·split;·rename_i h;exact ef h
       ·rename_i h;exact jg h
       ·rename_i h;exact jg h
     ·split;·exact pZ ..
      ·exact WM.refl w
  ·split;·exact p5 ..
   ·simp only[nE];split;·rename_i h;exact WM.trans (iT h) (p5 ..)
    ·rename_i h;exact hY h
    ·rename_i h;exact hY h
theorem Qw (p:Program) (fr:Frame) (cs:List Frame) (dy:Option Dying) (g:Nat) (w:World):WM w (gW (early p fr cs dy g w)):=by
 unfold early;simp only[]
 repeat' first
  |exact WM.refl w
  |exact⟨rfl,acV _⟩
  |exact ef (by assumption)
  |exact jg (by assumption)
  |(refine WM.trans (ef (by assumption)) ?_;exact⟨rfl,acV _⟩)
  |split
theorem y7 (p:Program) (b:Bool) (fr:Frame) (cs:List Frame) (dy:Option Dying) (s:Sem Next) (w:World):WM w (gW (stepG.apply p b fr cs dy s w)):=by
 unfold stepG.apply;simp only[];have h:WM w (rW (if b=true then s.runT p w #[]else(s.run p w,#[])).1):=by
  split;·exact qG ..
  ·exact r5 ..
 generalize (if b=true then s.runT p w #[]else(s.run p w,#[]))=q at h
 obtain⟨r,es⟩:=q;simp only[nE]at h⊢
 repeat' first
  |exact h
  |exact WM.trans h (wq ..)
  |exact WM.trans h (wo ..)
  |exact WM.trans h (Qw ..)
  |split
theorem S8 (p:Program) (b:Bool) (fr:Frame) (cs:List Frame) (dy:Option Dying) (w:World):WM w (gW (stepG.oper p b fr cs dy w)):=by
 unfold stepG.oper;split;·exact WM.refl w
 ·split<;>exact y7 ..
theorem S9 {α:Type} (o:Option α) (a:GStep) (f:α->GStep) (w:World) (ha:WM w (gW a)) (hf:∀x,WM w (gW (f x))):WM w (gW (o.elim a f)):=by
 cases o;·exact ha
 ·exact hf _
theorem Ta (p:Program) (main b:Bool) (fr:Frame) (cs:List Frame) (dy:Option Dying) (w:World):WM w (gW (stepG.exec p main b fr cs dy w)):=by
 unfold stepG.exec;simp only[]
 repeat' first
  |exact WM.refl w
  |exact y7 ..
  |exact S8 ..
  |exact WM.trans (iT (by assumption)) (p5 ..)
  |exact WM.trans (iT (by assumption)) (y7 ..)
  |exact iT (by assumption)
  |exact hY (by assumption)
  |exact ef (by assumption)
  |exact jg (by assumption)
  |refine S9 _ _ _ _ ?_ λ_=>?_
  |simp only[nE]
  |split
theorem Qx (p:Program) (main:Bool) (g:Goroutine) (w:World) (b:Bool):WM w (gW (stepG p main g w b)):=by
 obtain⟨fr,callers,status,dying,offers⟩:=g;simp only[stepG];split;·exact XD ..
 ·exact Ta ..
 ·exact LN ..
def SM (w:World):Stepped->Prop
 |.next m=>WM w m.world
 |.ended _ _=>True
theorem SM.of {w w':World} {s:Stepped} (h:WM w w') (k:SM w' s):SM w s:=by
 cases s;·exact WM.trans h k
 ·trivial
theorem C5 {rest:Rest} {cases:Array CommCase} {w w':World} (h:waitingAt rest cases w=some w'):WM w w':=by
 unfold waitingAt at h
 repeat' first
  |(cases h;done)
  |(cases h;exact⟨rfl,acV _⟩)
  |split at h
theorem y8 (p:Program) (rest:Rest) (gs:Array Goroutine) (i:Nat) (g:Goroutine) (cs:Array CommCase) (FQ:Bool)
 (shape:CommShape) (w:World):SM w (communicate p rest gs i g cs FQ shape w).1:=by
 unfold communicate;simp only[];split;·trivial
 ·split
  ·split
   ·split;·exact C5 (by assumption)
    ·trivial
   ·exact WM.refl w
  ·generalize hs:Sem.run p (_:Sem (Nat×CommCase×Way)) w=r;have h:WM w (rW r):=by rw[<-hs];exact r5 _ _ _
   cases r with
   |halt e w'=>trivial
   |ok a w'=>
    have h:WM w w':=h;obtain⟨k,c,way⟩:=a;simp only[]
    repeat' first
     |trivial
     |exact h
     |exact WM.trans h ⟨rfl,acV _⟩
     |(refine WM.trans h (WM.trans (ef (by assumption)) ?_);exact⟨rfl,acV _⟩)
     |(refine WM.trans h (WM.trans (jg (by assumption)) ?_);exact⟨rfl,acV _⟩)
     |split
theorem C6 (p:Program) (gs:Array Goroutine) (rest:Rest) (w:World):SM w (look p gs rest w):=by
 unfold look;simp only[];split
 ·split;·trivial
  ·split;·trivial
   ·generalize hs:Sem.run p (_:Sem (List (Nat×Deferred)×List (Nat×Deferred))) w=r;have h:WM w (rW r):=by rw[<-hs];exact r5 _ _ _
    cases r with
    |halt e w'=>cases e<;>trivial
    |ok a w'=>exact WM.trans (b:=w') h ⟨rfl,acV _⟩
 ·trivial
theorem Qy (p:Program) (m:Machine) (k:Nat):SM m.world (serve p m k):=by
 unfold serve;simp only[];split;·trivial
 ·exact⟨rfl,acV _⟩
 ·split;·trivial
  ·exact WM.refl _
theorem Qz (w:World) (c:Nat):WM w (drain w c).2:=by
 unfold drain;split<;>exact⟨rfl,acV _⟩
theorem Be (m:Machine) (k:Nat) (t:Timer) (a b:Nat):WM m.world (retime m k t a b).2.world:=by
 unfold retime;cases t.chan with
 |none=>exact WM.refl _
 |some c=>exact Qz _ _
theorem FT {m:Machine} {var:Addr} {f:Nat->Timer->Value×Machine} (hf:∀k t,WM m.world (f k t).2.world) {v:Value} {m':Machine}
 (h:timerOp.named m var f=.ok (v,m')):WM m.world m'.world:=by
 unfold timerOp.named at h;split at h
 ·rename_i k _;have e:=Except.ok.inj h;have:=hf k (m.rest.timers.getD k default);rw[e]at this;exact this
 ·cases h
theorem LO {m m':Machine} {var:Addr} (h:timerOp.opened m var=some m'):WM m.world m'.world:=by
 unfold timerOp.opened at h
 repeat' first
  |(cases h;done)
  |(cases h;exact⟨rfl,acV _⟩)
  |split at h
theorem H5 {m:Machine} {op:TimerOp} {v:Value} {m':Machine} (h:timerOp m op=.ok (v,m')):WM m.world m'.world:=by
 unfold timerOp at h;split at h
 ·split at h;·cases h;exact WM.refl _
  ·split at h
   ·split at h;·cases h
    ·cases h;exact⟨rfl,acV _⟩
   ·cases h
 ·exact FT (λk t=>Be ..) h
 ·split at h
  ·rename_i m1 hm;exact FT (λk t=>WM.trans (LO hm) (Be ..)) h
  ·cases h
 ·cases h;exact WM.refl _
theorem Tb (p:Program) (m:Machine) (i:Nat) (b:Bool):SM m.world (Go.runT p m i b).1:=by
 simp only[Go.runT];generalize m.gs.swapAt! _ _=gg;have h:=Qx p (i==0) gg.1 m.world b;generalize stepG p _ gg.1 m.world b=s at h⊢;cases s with
 |go g w es=>exact h
 |comm g cases FQ shape w es=>exact SM.of h (y8 ..)
 |spawn g child w es=>exact h
 |count g w es=>
  simp only[];split;·trivial
  ·exact h
 |timer g op w es=>
  have h:WM m.world w:=h;simp only[];split
  ·rename_i v m' hm;exact WM.trans h (H5 hm)
  ·split
   ·rename_i he;simp only[endThrow,dieOf]at he;cases he;exact h
   ·trivial
  ·trivial
  ·trivial
 |alone g on w es=>exact h
 |newcoro g c d w es=>exact WM.trans (b:=w) h ⟨rfl,acV _⟩
 |coroswitch g c exit w es=>
  have h:WM m.world w:=h;simp only[];split;·exact WM.trans h ⟨rfl,acV _⟩
  ·split
   ·rename_i he;simp only[endThrow,dieOf]at he;cases he;exact h
   ·trivial
  ·trivial
 |collect g w es=>exact SM.of h (C6 ..)
 |watch g w es=>exact h
 |ended o w es=>trivial
def MM (w:World):Move->Prop
 |.goroutine m _=>WM w m.world
 |.machine s _=>SM w s
theorem MM.of {w w':World} {s:Move} (h:WM w w') (k:MM w' s):MM w s:=by
 cases s;·exact WM.trans h k
 ·exact SM.of h k
theorem y9 (p:Program) (m:Machine):MM m.world (askOn p m):=by
 unfold askOn;simp only[];split;·trivial
 ·rename_i k world hk;have hk:=ef hk;split;·exact SM.of hk (Qy p {m with world} _)
  ·split
   ·split;·exact WM.trans hk ⟨rfl,acV _⟩
    ·split;·exact hk
     ·split<;>trivial
   ·have pick:∀m1:Machine,WM m.world m1.world->∀mv:Move,mv=(match(choose (.sched (runnable m.gs m.world.os.mono).length)).run p m1.world with
     |.halt _ w=>Move.machine (.ended (.stuck "sched" "") w)
     |.ok k world=>
      if(runnable m.gs m.world.os.mono).length<=1 then .goroutine {m1 with world} ((runnable m.gs m.world.os.mono).getD k 0)else
      match(choose (.extern "sched.slice" 65536)).run p world with
      |.halt _ w=>.machine (.ended (.stuck "sched.slice" "") w)
      |.ok n world=>.goroutine {m1 with world,rest:={m1.rest with slice:=if n=0 then none else some ((runnable m.gs m.world.os.mono).getD k 0,n)}} ((runnable m.gs m.world.os.mono).getD k 0))->MM m.world mv:=by
     intro m1 h1 mv Kv;subst Kv;split;·trivial
     ·rename_i h2;have h2:=WM.trans h1 (ef h2);split;·exact h2
      ·split;·trivial
       ·rename_i h3;exact WM.trans h2 (ef h3)
    split;·exact pick {m with world} hk _ rfl
    ·split;·trivial
     ·rename_i h2;exact pick {world:=_,gs:=m.gs,rest:=m.rest} (WM.trans hk (ef h2)) _ rfl
     ·rename_i h2;exact WM.trans hk (WM.trans (ef h2) ⟨rfl,acV _⟩)
     ·rename_i h2;exact pick (Machine.advanceTo {world:=_,gs:=m.gs,rest:=m.rest} _) (WM.trans hk (WM.trans (ef h2) ⟨rfl,acV _⟩)) _ rfl
theorem wu (p:Program) (m:Machine):MM m.world (ask p m):=by
 unfold ask;split
 ·split;·trivial
  ·rename_i h;have h:=ef h;split
   ·rename_i h2;have h3:=C6 p m.gs m.rest ‹World›;rw[h2]at h3;exact MM.of (WM.trans h h3) (y9 ..)
   ·exact SM.of h (C6 ..)
  ·rename_i h;exact MM.of (ef h) (y9 p {m with world:=_})
 ·exact y9 ..
theorem Tc (p:Program) (m:Machine):MM m.world (move p m):=by
 unfold move;split
 ·split;·exact WM.refl _
  ·trivial
 ·split
  ·split;·exact WM.refl _
   ·exact wu p {m with rest:=_}
  ·exact wu ..
theorem Td (p:Program) (m:Machine):SM m.world (step p m):=by
 unfold step stepT;have h:=Tc p m;split
 ·rename_i he;rw[he]at h;exact SM.of h (Tb ..)
 ·rename_i he;rw[he]at h;exact h
theorem FU {P:Program} {m m':Machine} (h:Steps P m m'):WM m.world m'.world:=by
 obtain⟨n,hn⟩:=h;induction n generalizing m with
 |zero=>simp only[runN,Stepped.next.injEq]at hn;subst hn;exact WM.refl _
 |succ n ih=>
  simp only[runN]at hn;have h:=Td P m;cases hs:step P m with
  |next m1=>rw[hs]at hn h;exact WM.trans h (ih hn)
  |ended o w=>rw[hs]at hn;cases hn
theorem QA {P:Program} {f:FuncId} {args:Array Value} {w:World} {R:Ending->World->Prop} (h:Calls P f args w R) (hR:∀e w',R e w'->e≠.outgrown):
 Calls P f args w λe w'=>R e w'/\WM w w':=λcs=>by
 obtain⟨e,w',fr,hr,hc,hf,hl⟩:=h cs;refine⟨e,w',fr,⟨hr,?_⟩,hc,hf,hl⟩;cases e with
 |returned v=>exact FU hc
 |panicked c=>exact FU hc
 |outgrown=>exact absurd rfl (hR _ _ hr)
end Go.Jq
namespace Go.Proofs
open Go.Shelf
def Tryz.Ae:Go.Shelf.Ren:=⟨λ|6=>160|15=>228|14=>227|28=>288|29=>289|20=>280|21=>281|22=>282|23=>283|24=>284|25=>285|26=>286|27=>287|46=>318|47=>319|48=>320|49=>321|50=>322|57=>331|n=>n,λ|22=>45|24=>102|25=>249|3=>3|39=>306|0=>0|53=>348|55=>143|4=>4|46=>342|45=>341|50=>241|5=>5|9=>9|66=>363|70=>367|76=>375|77=>250|n=>n,λ|n=>n⟩
theorem Tryz.Bg:Go.Proofs.SlLaysF0.n6 Tryz.prog Tryz.Ae:={
 mixed:=by kernel_rfl
 f6:=⟨Tryz.f160.name,by decide,Tryz.func160.trans (congrArg some (by kernel_rfl))⟩
 f14:=⟨Tryz.f227.name,by decide,Tryz.func227.trans (congrArg some (by kernel_rfl))⟩
 f15:=Tryz.func228.trans (congrArg some (by kernel_rfl))
 f20:=⟨Tryz.f280.name,by decide,Tryz.func280.trans (congrArg some (by kernel_rfl))⟩
 f21:=⟨Tryz.f281.name,by decide,Tryz.func281.trans (congrArg some (by kernel_rfl))⟩
 f22:=⟨Tryz.f282.name,by decide,Tryz.func282.trans (congrArg some (by kernel_rfl))⟩
 f23:=⟨Tryz.f283.name,by decide,Tryz.func283.trans (congrArg some (by kernel_rfl))⟩
 f24:=⟨Tryz.f284.name,by decide,Tryz.func284.trans (congrArg some (by kernel_rfl))⟩
 f25:=⟨Tryz.f285.name,by decide,Tryz.func285.trans (congrArg some (by kernel_rfl))⟩
 f26:=⟨Tryz.f286.name,by decide,Tryz.func286.trans (congrArg some (by kernel_rfl))⟩
 f27:=⟨Tryz.f287.name,by decide,Tryz.func287.trans (congrArg some (by kernel_rfl))⟩
 f28:=Tryz.func288.trans (congrArg some (by kernel_rfl))
 f29:=Tryz.func289.trans (congrArg some (by kernel_rfl))
 f46:=⟨Tryz.f318.name,by decide,Tryz.func318.trans (congrArg some (by kernel_rfl))⟩
 f47:=Tryz.func319.trans (congrArg some (by kernel_rfl))
 f48:=Tryz.func320.trans (congrArg some (by kernel_rfl))
 f49:=⟨Tryz.f321.name,by decide,Tryz.func321.trans (congrArg some (by kernel_rfl))⟩
 f50:=⟨Tryz.f322.name,by decide,Tryz.func322.trans (congrArg some (by kernel_rfl))⟩
 f57:=⟨Tryz.f331.name,by decide,Tryz.func331.trans (congrArg some (by kernel_rfl))⟩
 t0:=Tryz.underlying0
 a0:=Tryz.isAgg0
 z0:=Tryz.sizeOf0
 v0:=Tryz.zeroValue0
 t3:=Tryz.underlying3
 a3:=Tryz.isAgg3
 z3:=Tryz.sizeOf3
 v3:=Tryz.zeroValue3
 t4:=Tryz.underlying4
 a4:=Tryz.isAgg4
 z4:=Tryz.sizeOf4
 v4:=Tryz.zeroValue4
 t5:=Tryz.underlying5
 a5:=Tryz.isAgg5
 z5:=Tryz.sizeOf5
 v5:=Tryz.zeroValue5
 t9:=Tryz.underlying9
 a9:=Tryz.isAgg9
 z9:=Tryz.sizeOf9
 v9:=Tryz.zeroValue9
 t22:=Tryz.underlying45
 a22:=Tryz.isAgg45
 z22:=Tryz.sizeOf45
 v22:=Tryz.zeroValue45
 t25:=Tryz.underlying249
 a25:=Tryz.isAgg249
 z25:=Tryz.sizeOf249
 v25:=Tryz.zeroValue249
 t39:=Tryz.underlying306
 a39:=Tryz.isAgg306
 z39:=Tryz.sizeOf306
 v39:=Tryz.zeroValue306
 t45:=Tryz.underlying341
 a45:=Tryz.isAgg341
 z45:=Tryz.sizeOf341
 v45:=Tryz.zeroValue341
 t46:=Tryz.underlying342
 a46:=Tryz.isAgg342
 z46:=Tryz.sizeOf342
 v46:=Tryz.zeroValue342
 t50:=Tryz.underlying241
 a50:=Tryz.isAgg241
 z50:=Tryz.sizeOf241
 v50:=Tryz.zeroValue241
 t53:=Tryz.underlying348
 a53:=Tryz.isAgg348
 z53:=Tryz.sizeOf348
 v53:=Tryz.zeroValue348
 t55:=Tryz.underlying143
 a55:=Tryz.isAgg143
 z55:=Tryz.sizeOf143
 v55:=Tryz.zeroValue143
 t66:=Tryz.underlying363
 a66:=Tryz.isAgg363
 z66:=Tryz.sizeOf363
 v66:=Tryz.zeroValue363
 t70:=Tryz.underlying367
 a70:=Tryz.isAgg367
 z70:=Tryz.sizeOf367
 v70:=Tryz.zeroValue367
 t76:=Tryz.underlying375
 a76:=Tryz.isAgg375
 z76:=Tryz.sizeOf375
 v76:=Tryz.zeroValue375
 t77:=Tryz.underlying250
 a77:=Tryz.isAgg250
 z77:=Tryz.sizeOf250
 v77:=Tryz.zeroValue250}
end Go.Proofs
namespace Go.Proofs.YtjfdjkageiemkaaGreatDoor
open Go.Proofs.Tryz
open Go.Proofs.Tryz renaming prog → aM
section
open Go Go.Jq
theorem oD (f:List Int):∀(n j:Nat),cd f f j n=0
 |0,_=>rfl
 |n+1,j=>by
  have h:jD (f.getD j 0) (f.getD j 0)=0:=by simp[jD]
  rw[cd,if_pos h,oD f n]
theorem LP (a b:Int):jD b a=-jD a b:=by
 unfold jD
 repeat' split
 all_goals omega
theorem oE (f g:List Int):∀(n j:Nat),cd g f j n=-cd f g j n
 |0,_=>rfl
 |n+1,j=>by
  rw[cd,cd,oE f g n,LP]
  repeat' split
  all_goals omega
theorem Te (a b c:Int) (h1:jD a b<=0) (h2:jD b c<=0):jD a c<=0/\(jD a c=0->jD a b=0/\jD b c=0)/\(jD a b=0->jD b c=0->jD a c=0):=by
 unfold jD at*
 repeat' split at h1
 all_goals repeat' split at h2
 all_goals(refine⟨?_,?_,?_⟩<;>(repeat' split)<;>omega)
theorem lZ (f g h:List Int):∀(n j:Nat),cd f g j n<=0->cd g h j n<=0->cd f h j n<=0/\(cd f h j n=0->cd f g j n=0/\cd g h j n=0)
 |0,_,_,_=>⟨Int.le_refl _,λ_=>⟨rfl,rfl⟩⟩
 |n+1,j,h1,h2=>by
  have ih:=lZ f g h n (j+1);rw[cd]at h1 h2⊢;rw[cd,cd];generalize f.getD j 0=a at*;generalize g.getD j 0=b at*;generalize h.getD j 0=c at*;have t:=Te a b c;by_cases k1:jD a b=0
  ·rw[if_pos k1]at h1;by_cases k2:jD b c=0
   ·rw[if_pos k2]at h2;have k3:=(t (by omega) (by omega)).2.2 k1 k2;rw[if_pos k1,if_pos k2,if_pos k3];exact ih h1 h2
   ·rw[if_neg k2]at h2;have k3:=t (by omega) h2;have k4:¬jD a c=0:=λk=>k2 (k3.2.1 k).2;rw[if_neg k4];exact⟨k3.1,λk=>absurd k k4⟩
  ·rw[if_neg k1]at h1;have DA:jD b c<=0:=by
    by_cases k2:jD b c=0;·omega
    ·rw[if_neg k2]at h2;exact h2
   have k3:=t h1 DA;have k4:¬jD a c=0:=λk=>k1 (k3.2.1 k).1;rw[if_neg k4];exact⟨k3.1,λk=>absurd k k4⟩
theorem za (f g:List Int):∀(n j:Nat),cd f g j n=0->∀i,i<n->f.getD (j+i) 0=g.getD (j+i) 0
 |0,_,_,i,hi=>absurd hi (Nat.not_lt_zero i)
 |n+1,j,h,i,hi=>by
  rw[cd]at h;by_cases k:jD (f.getD j 0) (g.getD j 0)=0
  ·rw[if_pos k]at h;cases i with
   |zero=>
    unfold jD at k
    repeat' split at k
    all_goals simp only[Nat.add_zero]at*
    all_goals omega
   |succ i=>
    have:=za f g n (j+1) h i (by omega);rw[show j+(i+1)=j+1+i by omega];exact this
  ·rw[if_neg k]at h;exact absurd h k
theorem LQ (f:List Int):qT f f=0:=oD f 20 0
theorem Bh (f g:List Int):qT g f=-qT f g:=oE f g 20 0
theorem JN {f g:List Int} (hf:f.length=20) (hg:g.length=20) (h:qT f g=0):f=g:=by
 have:=za f g 20 0 h;apply List.ext_getElem (by omega);intro i h1 h2;have:=this i (by omega);simp only[ac2,adl]at this;rw[ac6 h1,ac6 h2]at this;exact this
abbrev tC:={f:List Int//f.length=20}
instance:Inhabited tC:=⟨⟨ada 20 0,rfl⟩⟩
def C7 (x y:tC):Int:=qT x.1 y.1
def kF (x:tC):List Value:=x.1.map (Value.int .i64)
theorem Tf (x y:tC):(ltOf C7) x y=decide (cd x.1 y.1 0 20<0):=rfl
theorem C8 (x y:tC):cd y.1 x.1 0 20=-cd x.1 y.1 0 20:=oE _ _ _ _
theorem aaC:Sort.SWO (ltOf C7)where
 irrefl x:=by rw[Tf,oD];rfl
 trans x y z h1 h2:=by
  rw[Tf,decide_eq_true_eq]at h1 h2⊢;have t:=lZ x.1 y.1 z.1 20 0 (by omega) (by omega);by_cases h:cd x.1 z.1 0 20=0;·have:=(t.2 h).1;omega
  ·omega
 ntrans x y z h1 h2:=by
  rw[Tf,decide_eq_false_iff_not]at h1 h2⊢;have e1:=C8 x y;have e2:=C8 y z;have e3:=C8 x z;have t:=lZ z.1 y.1 x.1 20 0 (by omega) (by omega);omega
theorem aaD (x y:tC) (h1:(ltOf C7) x y=false) (h2:(ltOf C7) y x=false):x=y:=by
 rw[Tf,decide_eq_false_iff_not]at h1 h2;have e:=C8 x y;exact Subtype.ext (JN x.2 y.2 (by unfold qT;omega))
def Yu (f g:List Int):Bool:=!decide (qT g f<0)
def jE (l:List (List Int)):List (List Int):=l.mergeSort Yu
theorem oF (l:List (List Int)):(jE l).Perm l:=List.mergeSort_perm _ _
theorem Bi (l:List (List Int)):(jE l).length=l.length:=(oF l).length_eq
theorem FV {l:List (List Int)} (h:∀f∈l,f.length=20):∀f∈jE l,f.length=20:=λf hf=>h f ((oF l).mem_iff.1 hf)
theorem LR (l:List tC):(l.mergeSort λx y=>!(ltOf C7) y x).map adD=jE (l.map adD):=
 List.map_mergeSort λa _ b _=>rfl
theorem ly {c:Ctx} {w:World}:∀(ns:List Int) (vs:List Value),aU c w ((ns.map (DV.int .i64)).map AV.d) vs↔vs=ns.map (Value.int .i64)
 | [],vs=>by simp[aU]
 |n::ns,vs=>by
  simp only[ade,aU,Rel,du];constructor
  ·rintro⟨v,mb,rfl,rfl,h⟩;rw[(ly ns mb).1 h]
  ·rintro rfl;exact⟨_,_,rfl,rfl,(ly ns _).2 rfl⟩
theorem FW (l:List (List Int)):cm l=(l.flatten).map (DV.int .i64):=by
 unfold cm bR;induction l with
 |nil=>rfl
 |cons a l ih=>simp[ih]
theorem zb {α β:Type} {enc:α->List β} {k:Nat} (hk:∀a,(enc a).length=k) (KM:0<k):∀(l:List α) (t:Nat),t<l.length*k->(l.flatMap enc)[t]?=(l[t/k]?).bind λa=>(enc a)[t%k]?
 | [],t,h=>by simp at h
 |a::l,t,h=>by
  rw[adr];by_cases ht:t<k;·rw[List.getElem?_append_left (by rw[hk];exact ht),Nat.div_eq_of_lt ht,Nat.mod_eq_of_lt ht];rfl
  ·obtain⟨u,rfl⟩:∃u,t=k+u:=⟨t-k,by omega⟩;rw[List.getElem?_append_right (by rw[hk];omega),hk,Nat.add_sub_cancel_left,Nat.add_div_left _ KM,Nat.add_mod_left,List.getElem?_cons_succ];exact zb hk KM l u (by simp only[ads,Nat.add_mul,Nat.one_mul]at h;omega)
theorem FX {α:Type} [Inhabited α] {enc:α->List Value} {k:Nat} (hk:∀a,(enc a).length=k) (KM:0<k) (d:Array α):Sort.flatK enc k d=(d.toList.flatMap enc).toArray:=by
 have hl:∀l:List α,(l.flatMap enc).length=l.length*k:=by
  intro l;induction l with
  |nil=>simp
  |cons a l ih=>simp[ih,hk,Nat.add_mul,Nat.add_comm]
 apply Array.ext;·simp[hl]
 ·intro t h1 h2;have ht:t<d.size*k:=by simpa using h1
  have h3:=zb hk KM d.toList t (by simpa using ht);have hd:t/k<d.size:=Nat.div_lt_of_lt_mul (by rw[Nat.mul_comm];exact ht);have hm:t%k<k:=Nat.mod_lt _ KM;have h4:=Sort.get_flatK enc k d t ht;rw[getElem!_pos (Sort.flatK enc k d) t h1]at h4;rw[h4];have h5:(d.toList.flatMap enc)[t]?=some ((d.toList.flatMap enc).toArray[t]):=by simp
  rw[h5,Array.getElem?_toList,Array.getElem?_eq_getElem hd]at h3;simp only[Option.bind_some]at h3;rw[getElem!_pos d _ hd,getElem!_def,<-h3]
theorem LS {w:World} {mP:Nat} {arr:Array Value} {T:TypeId} {f:Nat×Nat} {F F':Array Value} {rest:List Value} (h:w.heap[mP]?=some (.cells arr T f))
 (ha:arr.toList=F.toList++rest) (hs:F'.size=F.size):
 (Sort.putRow id w mP 0 F').heap[mP]?=some (.cells (F'.toList++rest).toArray T f):=by
 have e:Sort.putCells id 0 F' arr=(F'.toList++rest).toArray:=by
  have gU:arr.size=F.size+rest.length:=by rw[<-Array.length_toList,ha];simp
  apply Array.ext;·simp[Sort.putCells,gU,hs]
  ·intro i h1 h2;simp only[Sort.putCells,Array.getElem_mapIdx,Nat.zero_le,true_and,ac2,Nat.sub_zero,id];by_cases hi:i<F'.size
   ·rw[if_pos hi,getElem!_pos F' i hi];simp[List.getElem_append_left,hi]
   ·rw[if_neg hi];have h6:i<arr.size:=by simpa[Sort.putCells]using h1
    have h7:arr[i]=arr.toList[i]'(by simpa using h6):=by simp
    rw[h7];simp only[ha,List.getElem_toArray];rw[List.getElem_append_right (by simpa[<-hs]using Nat.le_of_not_lt hi),List.getElem_append_right (by simpa using Nat.le_of_not_lt hi)];simp[hs]
 unfold Sort.putRow Sort.mapBlock;simp only[Array.getElem?_modify,if_pos,h,ady,Sort.onCells,e]
theorem QB {w:World} {mP k:Nat} {F':Array Value} (hk:k≠mP):(Sort.putRow id w mP 0 F').heap[k]?=w.heap[k]?:=by
 unfold Sort.putRow Sort.mapBlock;simp only[Array.getElem?_modify];rw[if_neg (Ne.symm hk)]
theorem C9 (w:World) (os:Array Obj) (k:Nat) (hk:k<w.heap.size):(Sort.grow w os).heap[k]?=w.heap[k]?:=by
 unfold Sort.grow;simp only[];rw[Array.getElem?_append_left hk]
theorem grown_of {W w':World} (h1:w'.os=W.os) (h2:w'.tape=W.tape) (h3:w'.output=W.output) (h4:W.heap.size<=w'.heap.size) (h5:∀k,k<W.heap.size->w'.heap[k]?=W.heap[k]?) (h6:W.drawn<=w'.drawn):
 ∃q os',w'=Sort.grow (W.drewN q) os':=by
 refine⟨w'.drawn-W.drawn,w'.heap.extract W.heap.size w'.heap.size,?_⟩;obtain⟨hp,tp,dr,os,out⟩:=w';simp only at h1 h2 h3 h4 h5 h6⊢;subst h1 h2 h3;have hh:hp=W.heap++hp.extract W.heap.size hp.size:=by
  apply Array.ext_getElem?;intro k;by_cases hk:k<W.heap.size;·rw[Array.getElem?_append_left hk,h5 k hk]
  ·rw[Array.getElem?_append_right (by omega),Array.getElem?_extract];by_cases S0:k<hp.size;·rw[if_pos (by omega)];congr 1;omega
   ·rw[if_neg (by omega)];exact Array.getElem?_eq_none (by omega)
 have hd:W.drawn+(dr-W.drawn)=dr:=by omega
 unfold Sort.grow World.drewN;simp only[hd];rw[<-hh]
theorem H6 {w:Wk} {f:Fm} (h:w.stack.getLast?=some f) (hn:¬dO (dB f.back f.sleep)<0):
 kV w=if w.aO<w.aS+1+(cj f.sleep).length then .PK else .on (et (ie {w with aS:=w.aS+1+(cj f.sleep).length,stack:=w.stack.dropLast++[{f with sleep:=ed f.sleep (dO (dB f.back f.sleep))}],steps:=w.steps++[(cB f.v (dO (dB f.back f.sleep))).2.1]}) (cB f.v (dO (dB f.back f.sleep))).1 (fW f (cB f.v (dO (dB f.back f.sleep))).2.1 w.m)):=by
 unfold kV;rw[h];simp only;rw[if_neg hn]
def ft (l:List (List Int)):List (List Int):=cc (jE l)
theorem qH {l:List (List Int)} {x:List Int}:x∈ft l↔x∈l:=by
 unfold ft;rw[CY,(oF l).mem_iff]
theorem Bj (l:List (List Int)):(ft l).length<=l.length:=by
 unfold ft;have:=CX (jE l);rw[Bi]at this;exact this
theorem FY {l:List (List Int)} (h:∀f∈l,f.length=20):∀f∈ft l,f.length=20:=λf hf=>h f (qH.1 hf)
def dj (p:Prog) (m:Int) (runs:List (List Int)):List (List Int):=runs.map λr=>(iQ p m r).getD il
def fM (p:Prog) (m:Int) (had:List (List Int)) (row:List Int):Bool:=match iQ p m row with
 |some x=>!decide (x∈had)
 |none=>false
def kP (p:Prog) (m:Int) (f:Option Found) (aO:Int):Int×Option (List Int):=
 match f,explore p 1 aO with
 |some f,some g=>match f.runs.find? (fM p m (ft (dj p 1 g.runs)))with
  |some row=>(2,some row)
  |none=>(1,none)
 |_,_=>(0,none)
structure Rep where
 done:Bool
 QC:List (List Int)
 verdict:Int
 H7:Int
 witness:Option (List Int)
 runs:Nat
 blocked:Int
def wQ:Rep:=⟨false,[],0,0,none,0,0⟩
def QD (p:Prog) (kind:Int) (rows:List (List Atom)) (F:List (List Int)):Nat:=F.countP λf=>j1 p.aE p.threads.length kind rows f
def l0 (p:Prog) (kind:Int) (rows:List (List Atom)) (F:List (List Int)):Int:=
 if kind=1 then if 0<QD p kind rows F then 1 else 2 else if kind=2 then if F.length-QD p kind rows F=0 then 1 else 2 else 0
theorem FZ (p:Prog) (kind:Int) (rows:List (List Atom)) (d:Ad):nD p.aE p.threads.length kind rows d=l0 p kind rows (d.map adD):=by
 have:QD p kind rows (d.map adD)=iE p.aE p.threads.length kind rows d:=by
  unfold QD iE;rw[List.countP_map];rfl
 unfold nD l0;rw[this,acY]
def tD (p:Prog) (kind:Int) (rows:List (List Atom)) (m aO:Int):Rep:=
 match explore p m aO with
 |none=>wQ
 |some f=>
  let s:=kP p m (some f) aO
  if s.1=0 then wQ else
   let F:=ft (dj p m f.runs)
   ⟨true,F,l0 p kind rows F,s.1,s.2,f.runs.length,f.blocked⟩
theorem zc (d:List tC):d.flatMap kF=((d.map adD).flatten).map (Value.int .i64):=by
 induction d with
 |nil=>rfl
 |cons a d ih=>simp[ih,kF]
theorem LU {c:Ctx} {w:World} {mP off size:Nat} (hM:MR c [] w) (gx:¬c.dm mP):CmpLays aM 161 #[] kF 20 C7 mP off size w:=by
 intro m os dk KJ x y;have kp:=C3 x.2 y.2;generalize hW:sortWorldK kF 20 w mP off m dk os=W;have gU:w.heap.size<=W.heap.size:=by rw[<-hW];exact size_sortWorldK_c kF 20 w mP off m dk os
 have pD:∀k,k<w.heap.size->k≠mP->W.heap[k]?=w.heap[k]?:=by
  intro k hk hb;rw[<-hW];unfold sortWorldK Sort.putRowK;rw[C9 _ _ _ (by unfold Sort.putRow Sort.mapBlock Sort.ahead;simpa using hk)];unfold Sort.putRow Sort.mapBlock;simp only[Array.getElem?_modify];rw[if_neg (Ne.symm hb)];rfl
 have hMW:MR ⟨λ_=>.free,c.dm⟩ [] W:=
  ⟨λid cells hi=>by simp[ai]at hi,λid j3 b hi=>by simp[ai]at hi,λb hb=>Nat.lt_of_lt_of_le (hM.dm b hb) gU,
   hM.lC (c':=⟨λ_=>.free,c.dm⟩) (λ_ h=>h) λb hb=>pD b (hM.dm b hb) λe=>gx (e▸hb)⟩
 have hr:aU ⟨λ_=>.free,c.dm⟩ W [.agg ((bR x.1).map .d),.agg ((bR y.1).map .d)] [.agg (kF x).toArray,.agg (kF y).toArray]:=by
  simp only[aU,Rel];exact⟨_,_,rfl,⟨_,rfl,(ly _ _).2 rfl⟩,_,_,rfl,⟨_,rfl,(ly _ _).2 rfl⟩,rfl⟩
 have h:=kp _ W _ hr hMW λ_ _=>rfl;refine(QA h (λe w' ⟨v,r,m',c',he,_⟩=>by rw[he];exact λh=>by cases h)).mono ?_;rintro e w' ⟨⟨v,r,m',c',rfl,⟨rfl,rfl⟩,hv,-,kH,-⟩,hwm⟩;simp only[Rel,du]at hv;subst hv;refine⟨rfl,grown_of kH.os kH.tape kH.output kH.size (λk hk=>kH.cI k hk ?_) hwm.2⟩;rintro⟨id,h1,h2⟩;simp[ai]at h1
theorem zd {l:List (List Int)} (jf:∀f∈l,f.length=20) (hn:l.length<4611686018427387904):
 bT aM 160 [.sl 0 20 0 l.length,.fn 161 []] [(0,(cm l).map .d)] λr m'=>r=.cu []/\m'=[(0,(cm (jE l)).map .d)]:=by
 intro c w vs hr hM fG;simp only[aU,Rel]at hr;obtain⟨v1,vs1,rfl,h1,v2,vs2,rfl,⟨us,rfl,rfl⟩,rfl⟩:=hr;have hmb:∀ds IH:List AV,aw [(0,ds)]=aw [(0,IH)]:=λ_ _=>rfl;rcases h1 with⟨h0,-,Ix,a,rfl⟩|⟨b,cap,n,hb,rfl,hle,GR,gU⟩
 ·have hl:=adH Ix;subst hl;refine(AnyF.slices_SortFunc_none Tryz.Bg a 0 _ w).mono ?_;rintro e w' ⟨rfl,rfl⟩;refine⟨_,.cu [],_,c,rfl,⟨rfl,rfl⟩,⟨[],rfl,by simp[aU]⟩,?_,Step.refl _ _ _,?_,?_,?_⟩;·simpa[jE,cm]using hM
  ·intro b hb;left;simpa[jE,cm]using hb
  ·intro id hid h;exact⟨by simpa[jE,cm]using h,rfl⟩
  ·intro id hid;exact fG id (Nat.le_trans (Nat.le_max_left _ _) hid)
 ·obtain⟨d,hd⟩:∃d:List tC,d.map adD=l:=⟨l.pmap (λf h=>⟨f,h⟩) jf,by simp[List.map_pmap]⟩;subst hd;rcases hM.own 0 _ rfl with⟨h0,_⟩|⟨b',arr,T,f,fu,gx,rp,hnf,vs,rest,ha,nH⟩|⟨b',es,kv,fu,_⟩;·rw[hb]at h0;cases h0
  ·rw[hb]at fu;cases fu;rw[FW]at nH;have xF:=(ly _ _).1 nH;have hF:Sort.flatK kF 20 d.toArray=vs.toArray:=by
    rw[FX (λa=>by simp[kF,a.2]) (by decide),xF,<-zc]
   have wL:b<w.heap.size:=(Array.getElem?_eq_some_iff.1 rp).1;have hH:Sort.HoldsK kF 20 w b 0 d.toArray:=by
    unfold Sort.HoldsK;rw[hF];intro j hj;have wC:j<vs.length:=by simpa using hj
    have hja:arr[j]?=vs[j]?:=by rw[<-Array.getElem?_toList,ha,List.getElem?_append_left wC]
    refine⟨?_,?_⟩
    ·simp only[World.cell?,rp,ac2,adb,ac5,if_false,hja];rw[getElem!_pos vs.toArray j hj];simp[wC]
    ·simp only[World.frozen?,rp,ac2];have hjs:j<arr.size:=by rw[<-Array.length_toList,ha];simp;omega
     rcases hnf with h|h;·simp;omega
     ·simp;omega
   have Wp:MR c [] w:=⟨λid cells hi=>by simp[ai]at hi,λid j3 b hi=>by simp[ai]at hi,hM.dm,hM.wX⟩;have eg:∀args w,(callFunc 161 args).run aM w=.ok (.enter 161 args) w:=λargs w=>jv (by kernel_rfl) w;have hs:=AnyQ.slices_SortFunc_total Tryz.Bg 20 (λw=>Tryz.isAgg102 w) (λw=>Tryz.sizeOf102 w) kF (λa=>by simp[kF,a.2])
    (λx v hv=>by simp only[kF,List.mem_map]at hv;obtain⟨n,_,rfl⟩:=hv;rfl) C7 aaC 161 #[] b 0 cap d.toArray w eg (LU Wp gx) hH wL (by simpa using hn) aaD
   simp only[List.size_toArray,List.append_nil]at hs;rw[acY];apply hs.mono;rintro e w' ⟨rfl,n,os,rfl⟩;have Wm:Sort.flatK kF 20 (d.mergeSort λx y=>!(ltOf C7) y x).toArray=(((jE (d.map adD)).flatten).map (Value.int .i64)).toArray:=by
    rw[FX (λa=>by simp[kF,a.2]) (by decide),<-LR,zc]
   generalize Q6:sortWorldK kF 20 w b 0 n (d.mergeSort λx y=>!(ltOf C7) y x).toArray os=w';have uC:((jE (d.map adD)).flatten.map (Value.int .i64)).length=vs.length:=by
    rw[xF,acY,acY];exact(oF _).flatten.length_eq
   have xE:w'.heap[b]?=some (.cells ((((jE (d.map adD)).flatten).map (Value.int .i64))++rest).toArray T f):=by
    rw[<-Q6];unfold sortWorldK Sort.putRowK;rw[Wm,C9 _ _ _ (by unfold Sort.putRow Sort.mapBlock Sort.ahead;simpa using wL)];exact LS (w:=Sort.ahead w n) (F:=vs.toArray) rp (by simpa using ha) (by simpa using uC)
   have hold:∀k,k<w.heap.size->k≠b->w'.heap[k]?=w.heap[k]?:=by
    intro k hk Sa;rw[<-Q6];unfold sortWorldK Sort.putRowK;rw[C9 _ _ _ (by unfold Sort.putRow Sort.mapBlock Sort.ahead;simpa using hk)];exact QB Sa
   have TB:w.heap.size<=w'.heap.size:=by rw[<-Q6];exact size_sortWorldK_c kF 20 w b 0 n _ os
   have mV:arr.size=(((jE (d.map adD)).flatten.map (Value.int .i64))++rest).toArray.size:=by
    rw[<-Array.length_toList,ha];simp only[adk,List.size_toArray,uC]
   have jH:∀c':Ctx,aU c' w' ((cm (jE (d.map adD))).map .d) (((jE (d.map adD)).flatten).map (Value.int .i64)):=λc'=>by
    rw[FW];exact(ly _ _).2 rfl
   have SX:∀id,(ai [(0,(cm (jE (d.map adD))).map AV.d)] id).isSome->id=0:=by
    intro id h;simp only[ai]at h;split at h;·rename_i e;exact e.symm
    ·simp at h
   refine⟨_,.cu [],_,c,rfl,⟨rfl,rfl⟩,⟨[],rfl,by simp[aU]⟩,?_,?_,?_,?_,?_⟩
   ·refine⟨λid cells hi=>?_,λid j3 b h1 h2 _ _=>by rw[SX id h1,SX j3 h2],λk hk=>Nat.lt_of_lt_of_le (hM.dm k hk) TB,hM.lC (λ_ h=>h) λk hk=>hold k (hM.dm k hk) λe=>gx (e▸hk)⟩;have hid:=SX id (by rw[hi];rfl);subst hid;simp only[ai,if_true,adh]at hi;subst hi;refine .inr (.inl ⟨b,_,T,f,hb,gx,xE,by rw[<-mV];exact hnf,_,rest,rfl,jH c⟩)
   ·refine⟨by rw[<-Q6];rfl,by rw[<-Q6];rfl,by rw[<-Q6];rfl,TB,λk hk uB=>hold k hk λe=>uB ⟨0,rfl,by rw[e];exact gT.gl hb⟩,?_,λ_ h=>h,λ_ h=>.inl h⟩;intro k nn hk;by_cases Sa:k=b
    ·subst Sa;unfold dc at hk⊢;simp only[rp]at hk;simp only[xE];rw[<-hk,mV]
    ·unfold dc at hk⊢;rw[hold k (by
      by_cases bd:k<w.heap.size;·exact bd
      ·rw[Array.getElem?_eq_none (by omega)]at hk;cases hk) Sa]
     exact hk
   ·rintro k ⟨id,h1,h2⟩;rw[SX id h1]at h2;exact .inl ⟨0,rfl,h2⟩
   ·intro id hid h;rw[SX id h];exact⟨rfl,rfl⟩
   ·intro id hid;exact fG id (Nat.le_trans (Nat.le_max_left _ _) hid)
  ·rw[hb]at fu;cases fu
structure Tg (w:Wk):Prop where
 steps:(w.steps.length:Int)<=w.aS
 runs:(w.runs.length:Int)<=w.aS+1
 rows:∀r∈w.runs,(r.length:Int)<=w.aS
 pb:w.aS<=w.aO
theorem r6 (w:Wk) (v:Vm) (s:Nat):(et w v s).steps=w.steps/\(et w v s).aS=w.aS/\(et w v s).aO=w.aO/\((et w v s).runs=w.runs\/(et w v s).runs=w.runs++[w.steps.map (·.pick)]):=by
 unfold et;dsimp only;split;·exact⟨rfl,rfl,rfl,.inr rfl⟩
 ·split;·exact⟨rfl,rfl,rfl,.inl rfl⟩
  ·exact⟨rfl,rfl,rfl,.inl rfl⟩
theorem Bk {w:Wk} {v:Vm} {s:Nat} (h1:(w.steps.length:Int)<=w.aS) (h2:(w.runs.length:Int)<=w.aS) (h3:∀r∈w.runs,(r.length:Int)<=w.aS) (h4:w.aS<=w.aO):Tg (et w v s):=by
 obtain⟨e1,e2,e3,e4⟩:=r6 w v s;refine⟨by rw[e1,e2];exact h1,?_,?_,by rw[e2,e3];exact h4⟩
 ·rw[e2];rcases e4 with e|e;·rw[e];omega
  ·rw[e];simp;omega
 ·rw[e2];rcases e4 with e|e;·rw[e];exact h3
  ·rw[e];intro r hr;rcases List.mem_append.1 hr with h|h;·exact h3 r h
   ·rw[List.mem_singleton.1 h];simpa using h1
theorem Da:∀(n:Nat) {w w':Wk},Tg w->rJ n w=some w'->Tg w'/\w'.aO=w.aO
 |0,w,w',hi,h=>by simp[rJ]at h
 |n+1,w,w',hi,h=>by
  cases hl:w.stack.getLast? with
  |none=>
   have t1:kV w=.done w:=by unfold kV;rw[hl]
   rw[FA n t1]at h;cases h;exact⟨hi,rfl⟩
  |some f=>
   by_cases hn:dO (dB f.back f.sleep)<0
   ·have t1:kV w=.on (rI w):=by unfold kV;rw[hl];simp only;rw[if_pos hn]
    rw[CP n t1]at h;refine Da n (w:=rI w) ⟨?_,hi.runs,hi.rows,hi.pb⟩ h;have:=hi.steps;show((w.steps.dropLast).length:Int)<=w.aS;rw[List.length_dropLast];omega
   ·have t1:=H6 hl hn;by_cases hm:w.aO<w.aS+1+((cj f.sleep).length:Int)
    ·rw[if_pos hm]at t1;rw[FB n t1]at h;cases h
    ·rw[if_neg hm]at t1;rw[CP n t1]at h;have key:=Da n (Bk (w:=ie {w with aS:=w.aS+1+((cj f.sleep).length:Int),stack:=w.stack.dropLast++[{f with sleep:=ed f.sleep (dO (dB f.back f.sleep))}],steps:=w.steps++[(cB f.v (dO (dB f.back f.sleep))).2.1]}) ?_ ?_ ?_ ?_) h;·exact⟨key.1,key.2.trans (r6 _ _ _).2.2.1⟩
     ·show(((w.steps++[_]).length:Nat):Int)<=w.aS+1+_;have:=hi.steps;rw[adk];simp only[List.length_singleton];omega
     ·show(w.runs.length:Int)<=w.aS+1+_;have:=hi.runs;omega
     ·intro r hr;have:=hi.rows r hr;show(r.length:Int)<=w.aS+1+_;omega
     ·show w.aS+1+_<=w.aO;omega
theorem j6 {p:Prog} {m b:Int} {f:Found} (h:explore p m b=some f):f.runs.length<=2000001/\(∀r∈f.runs,r.length<=2000000):=by
 unfold explore at h;rw[adf]at h;obtain⟨w,hw,rfl⟩:=h;have h0:Tg (VH p m b):=Bk (by simp) (by simp) (by simp) (by simp only;omega);obtain⟨hi,hb⟩:=Da _ h0 hw;have sa:w.aO<=2000000:=by
  rw[hb];show(et _ _ _).aO<=_;rw[(r6 _ _ _).2.2.1];simp only;omega
 have h1:=hi.runs;have h2:=hi.pb;refine⟨by show w.runs.length<=2000001;omega,λr hr=>?_⟩;have:=hi.rows r hr;omega
theorem Db (o:Option (List Int)):y0 o=.cu [.agg (cY (o.getD il)),.d (.bool o.isSome)]:=by cases o<;>rfl
theorem LV {p:Prog} {m:Int} {aS f:List Int} (h:iQ p m aS=some f):f.length=20:=by
 unfold iQ at h;simp only at h;split at h;·cases h
 ·cases h;exact u4 (CW (p:=p) aS (jJ p m) 0 (xp p m) rfl).1
theorem Dc (p:Prog) (m:Int) (r:List Int):((iQ p m r).getD il).length=20:=by
 cases h:iQ p m r with
 |none=>rfl
 |some f=>exact LV h
theorem p6 (p:Prog) (m:Int) (runs:List (List Int)):∀f∈dj p m runs,f.length=20:=by
 intro f hf;obtain⟨r,_,rfl⟩:=List.mem_map.1 hf;exact Dc p m r
theorem nF (p:Prog) (m:Int) (runs:List (List Int)):(dj p m runs).length=runs.length:=by simp[dj]
theorem ze {p:Prog} {m:Int} {runs:List (List Int)} {i:Nat} (hi:i<runs.length):dj p m (runs.take (i+1))=dj p m (runs.take i)++[(iQ p m runs[i]).getD il]:=by
 unfold dj;rw[adG,ac6 hi,adC];rfl
theorem Dd {r:List Int} (h:r.length<=1000000000):fJ r (CN r):=by
 refine⟨by rw[acY];omega,.inr ?_⟩;unfold CN;rw[acY]
 congr 1
 simp
theorem zf {runs:List (List Int)} {i:Nat} (hi:i<runs.length):∃rest,(cC runs).drop i=CN runs[i]::rest:=by
 unfold cC;rw[<-List.map_drop,List.drop_eq_getElem_cons hi];exact⟨_,rfl⟩
theorem oH (l:List (List Int)) (f:List Int):cn (l++[f])=cn l++cY f:=by rw[qF,gP];simp[cn,cm]
theorem p7 {d:Ad} {X:DV} (hX:dM o3 d X) (hb:d.length<=100000000000):
 Pure aM 99 [.d X] (.d (.sl (ft (d.map adD)).length (cm (ft (d.map adD))))):=
 C2 (λl h=>FV h) Bi (λh hn=>zd h hn) hX hb
def tE (m:Int) (pc:List DV) (X:DV) (n:Nat) (es:List (List Int)) (i:Nat):St:=
 ⟨[(1,aq m),(3,.bj pc),(9,.sl 0 20 0 i),(22,.d X),(23,aq n),(24,aq i)],[(0,cn es)],1⟩
def j7 (p:Prog) (m:Int):Option Found->AV
 |none=>.cu [.d .cE,.d (.bool false)]
 |some f=>.cu [.d (.sl (ft (dj p m f.runs)).length (cm (ft (dj p m f.runs)))),.d (.bool true)]
theorem oI (x:List Int) (hx:x.length=20):putAt ((bR il).map AV.d) 0 (cY x)=cY x:=gZ (by rw[eu hx];rfl)
theorem F0 {p:Prog} {I T:DV} (hI:fJ p.init I) (hT:cP Ins.cells p.threads T) (h:zA p) {m:Int} (um:1<=m) (uo:m<=3) {runs:List (List Int)} (nH:runs.length<=2000001) (uq:∀r∈runs,r.length<=2000000) {Q:Exit->St->Prop}
 (hQ:Q (.exit 0) (tE m [aR p.aE,I,T] (.sl runs.length (cC runs)) runs.length (dj p m runs) runs.length)):
 fN aM (aw []) 42 (.loop Hi) (tE m [aR p.aE,I,T] (.sl runs.length (cC runs)) runs.length (dj p m (runs.take 0)) 0) Q:=by
 have VP:(cC runs).length=runs.length:=nC ..;refine bM (λi=>tE m [aR p.aE,I,T] (.sl runs.length (cC runs)) runs.length (dj p m (runs.take i)) i) runs.length ?_;intro i hi;unfold Hi;by_cases bd:i<runs.length
 ·have aQ:(i:Int)<runs.length:=by omega
  have hw:=c8 (i:=i) (by omega);obtain⟨rest,bU⟩:=zf bd;have hr:=uq _ (adt bd);have kp:=lX hI hT h um uo (Dd (r:=runs[i]) (by omega)) (by omega);rw[Db]at kp;have b0:=ze (p:=p) (m:=m) bd;have hx:=Dc p m runs[i];have nO:(dj p m (runs.take i)).length=i:=by rw[nF,List.length_take];omega
  have jf:=p6 p m (runs.take i);generalize runs[i]=row at bU kp b0 hx;generalize (iQ p m row).getD il=x at kp b0 hx;generalize (iQ p m row).isSome=b at kp;generalize dj p m (runs.take i)=es at b0 nO jf;have hec:(cn es).length=i*20:=by rw[dQ jf,nO]
  have ya:=eu hx;have ep:=pY x;have QE:=oI x hx;have XQ:((bR il).map AV.d).length=20:=rfl;have qL:(bR il).length=20:=rfl;have LH:=ln (f:=il) (n:=1) (by decide);have QF:(i+1)*160<=140737488351232:=by omega
  have vM:aP (some 20) (cY x)=some (.agg (cY x)):=by rw[ej,ya,if_pos (acV _),ac8 (by omega)]
  have F1:(cY x).take 20=cY x:=ac8 (by omega);unfold tE;refine J λK hK=>?_;simp only[go_sem,aQ,decide_true];apply hK;refine aa λK1 a8=>?_;refine aN ?_;apply au;apply a8;refine aa λK1 a8=>?_;apply aA;refine J λK hK=>?_;simp only[go_sem,acX,aQ,bd,acW,bU,VP,Nat.mul_one];refine hK _ (J λK hK=>?_);simp only[go_sem,aP];refine aY (kp) ?_;simp only[go_sem,nx,jB,LH,XQ,qL,ya,ep,QE,ac2,acV];apply hK;refine af rfl ?_;simp only[go_sem,vM,F1,nx,jB,acY,qL,ya,ep,QE,ac2,acV,hec,QF];apply a8;refine af rfl ?_;simp only[go_sem,hw]
  exact⟨bd,(aH.cN [(3,0)] ⟨by simp[bm,ah,AV.aC,aj,ag,tE,b0,oH,cg,pX],by simp[aL,aI,ai,an,aj,AV.aC,ag,ae,-acU,tE,b0,oH,cg,pX],rfl,rfl⟩)⟩
 ·have dh:i=runs.length:=by omega
  subst dh;have aQ:¬(runs.length:Int)<runs.length:=by omega
  rw[ac8 (acV _)];unfold tE;refine J λK hK=>?_;simp only[go_sem,aQ,decide_false];apply hK;refine aa λK1 a8=>?_;refine aK ?_;refine ax (S':=tE m [aR p.aE,I,T] (.sl runs.length (cC runs)) runs.length (dj p m runs) runs.length) (aH.cN [(0,0)] ⟨by simp[bm,ah,AV.aC,aj,ag,tE,cg],by simp[aL,aI,ai,an,aj,AV.aC,ag,ae,-acU,tE,cg],rfl,rfl⟩) ?_;exact aZ hQ
theorem F2 {p:Prog} {I T:DV} (hI:fJ p.init I) (hT:cP Ins.cells p.threads T) (h:zA p) {m:Int} (um:1<=m) (uo:m<=3) (aO:Int):
 Pure aM 76 [.agg [.d (aR p.aE),.d I,.d T],aq m,aq aO] (j7 p m (explore p m aO)):=by
 have ke:=oB hI hT h um uo aO;have P0:=λf (h:explore p m aO=some f)=>j6 h;generalize explore p m aO=res at ke P0;refine ay func76 Si ntmps76 results76 rfl ?_;unfold Z4;refine J λK hK=>?_;simp only[go_sem];apply hK;refine ax (aH.jn (S':=⟨[(1,aq m),(2,aq aO),(3,.bj [aR p.aE,I,T]),(6,.d .cE),(7,.d (.bool false))],[],0⟩) [] [(0,[aR p.aE,I,T])] ⟨by simp[fO,ah,AV.cv,dn,bI,ag],by simp[gd,aI,bI,ai,an,aB,dn,AV.cv,ag,cF,ba,-acU],rfl,rfl,by simp[bD,bI,ai,an,aB,dn,AV.cv,cF,ba,-acU]⟩) ?_;cases res with
 |none=>
  simp only[ik,ade,adu]at ke;refine J λK hK=>?_;simp only[go_sem,aP];refine aY (ke) ?_;simp only[go_sem];apply hK;refine aa λK1 a8=>?_;refine J λK hK=>?_;simp only[go_sem];apply hK;refine aN ?_;refine J λK hK=>?_;simp only[go_sem];apply hK;apply ak;exact⟨.cu [.d .cE,.d (.bool false)],by simp[bB,aV,bK,ah,ai,an,aB,j7],[],[],rfl,rfl,by simp[aL,aI,ai,an,aB,aj,AV.aC,ag,ae,-acU,j7],by simp[AV.aC,aj,ag,j7]⟩
 |some f=>
  obtain⟨nH,uq⟩:=P0 f rfl;simp only[ik,ade,adu]at ke;have VP:(cC f.runs).length=f.runs.length:=nC ..;refine J λK hK=>?_;simp only[go_sem,aP];refine aY (ke) ?_;simp only[go_sem];apply hK;refine aa λK1 a8=>?_;refine J λK hK=>?_;simp only[go_sem];apply hK;refine aK ?_;apply au;refine a8 _ (J λK hK=>?_);simp only[go_sem];apply hK;refine aa λKE fK=>?_;refine J λK hK=>?_;simp only[go_sem];apply hK;apply aA;refine ax (aH.nil 9 20 rfl rfl) ?_
  refine ax (S':=tE m [aR p.aE,I,T] (.sl f.runs.length (cC f.runs)) f.runs.length [] 0) (aH.cN [(1,0)] ⟨by simp[bm,ah,AV.aC,aj,ag,tE,cn,cm],by simp[aL,aI,ai,an,aj,AV.aC,ag,ae,-acU,tE,cn,cm],rfl,rfl⟩) ?_;have key:=F0 hI hT h um uo nH uq (Q:=Exit.gC 0 (Exit.iy KE (mZ aM #[.tmp 6,.tmp 7] (aw []) λr m'=>r=j7 p m (some f)/\m'=[]))) ?_
  ·exact key
  show KE _;apply fK;have jf:=p6 p m f.runs;have nO:=nF p m f.runs;obtain⟨d,hd,hdX⟩:=C1 jf (by omega);have ks:=p7 hdX (by have:=congrArg List.length hd;simp at this;omega);rw[hd]at ks;have vP:(cm (dj p m f.runs)).take (f.runs.length*20)=cm (dj p m f.runs):=ac8 (by have:=dQ jf;unfold cn at this;rw[acY]at this;omega);rw[nO]at ks;unfold j7;simp only;generalize dj p m f.runs=es at*;unfold tE cn
  refine ax (aH.jn (S':=⟨[(9,.d (.sl f.runs.length (cm es)))],[],0⟩) [] [(0,cm es)] ⟨by simp[fO,ah,AV.cv,dn,bI,ag,vP],by simp[gd,aI,bI,ai,an,aB,dn,AV.cv,ag,cF,ba,-acU,vP],rfl,rfl,by simp[bD,bI,ai,an,aB,dn,AV.cv,cF,ba,-acU,vP]⟩) ?_;refine J λK hK=>?_;simp only[go_sem];refine aY (ks) ?_;simp only[go_sem];apply hK;apply ak;exact⟨.cu [.d (.sl (ft es).length (cm (ft es))),.d (.bool true)],by simp[bB,aV,bK,ah,ai,an,aB],[],[],rfl,rfl,by simp[aL,aI,ai,an,aB,aj,AV.aC,ag,ae,-acU],by simp[AV.aC,aj,ag]⟩
def XE (f g:List Int):Prop:=qT f g<0
theorem xq {f g:List Int}:Yu f g=true↔qT f g<=0:=by
 unfold Yu;rw[Bool.not_eq_true',decide_eq_false_iff_not,Bh f g];omega
theorem De (l:List (List Int)):(jE l).Pairwise λa b=>Yu a b=true:=by
 refine List.pairwise_mergeSort (λa b c h1 h2=>?_) (λa b=>?_) l
 ·rw[xq]at*;exact(lZ a b c 20 0 h1 h2).1
 ·rw[Bool.or_eq_true,xq,xq,Bh a b];omega
theorem Bl:∀(r:List (List Int)) (p:List Int),p.length=20->(∀f∈r,f.length=20)->(∀f∈r,Yu p f=true)->(r.Pairwise λa b=>Yu a b=true)->(p::gO p r).Pairwise XE
 | [],p,_,_,_,_=>List.pairwise_singleton _ _
 |b::r,p,hp,jf,hle,hs=>by
  have hb:=jf b adw;obtain⟨s1,s2⟩:=List.pairwise_cons.1 hs;have ih:=Bl r b hb (λf hf=>jf f (adx _ hf)) s1 s2;have hpb:=hle b adw;by_cases h:b=p
  ·subst h;rw[gO,if_pos rfl];exact ih
  ·rw[gO,if_neg h];refine List.pairwise_cons.2 ⟨λc hc=>?_,ih⟩;have bd:qT p b<0:=by
    rw[xq]at hpb;by_cases h0:qT p b=0;·exact absurd (JN hp hb h0).symm h
    ·omega
   rcases List.mem_cons.1 hc with rfl|hc;·exact bd
   ·have hbc:=(List.pairwise_cons.1 ih).1 c hc;have t:=lZ p b c 20 0 (by unfold qT at bd;omega) (by unfold XE qT at hbc;omega);unfold XE qT at*;by_cases h0:cd p c 0 20=0;·have:=(t.2 h0).1;omega
    ·omega
theorem H8 {l:List (List Int)} (jf:∀f∈l,f.length=20):(ft l).Pairwise XE:=by
 unfold ft;have hs:=De l;have h:=FV jf;cases hl:jE l with
 |nil=>exact List.Pairwise.nil
 |cons a r=>
  rw[hl]at hs h;obtain⟨s1,s2⟩:=List.pairwise_cons.1 hs;exact Bl r a (h a adw) (λf hf=>h f (adx _ hf)) s1 s2
theorem QG {F:List (List Int)} (h:F.Pairwise XE) {i:Nat} (hi:i<F.length):F[i]∉F.take i:=by
 intro hm;obtain⟨j,hj,he⟩:=List.getElem_of_mem hm;rw[List.length_take]at hj;rw[List.getElem_take]at he;have:=List.pairwise_iff_getElem.1 h j i (by omega) hi (by omega);rw[he]at this;unfold XE at this;rw[LQ]at this;omega
def mK:List Nat:=[0,0,0,0,0,0,0,0,0,0,0,0,0,0,0,0,0,0,0,0]
def sg (l:List (List Int)):List AV:=l.flatMap λk=>[.agg (cY k),aq 1]
theorem qI (l:List (List Int)):(sg l).length=2*l.length:=by
 induction l with
 |nil=>rfl
 |cons a l ih=>unfold sg at*;rw[adr,adk,ih];simp;omega
theorem QH (l:List (List Int)) (x:List Int):sg (l++[x])=sg l++[.agg (cY x),aq 1]:=by simp[sg]
theorem j8 (π:Nat->Option Nat) (l:List (List Int)):aj π (sg l)=sg l:=by
 induction l with
 |nil=>rfl
 |cons a l ih=>unfold sg at*;rw[adr,ae,ih];simp[aj,AV.aC,pX]
theorem H9:∀{l:List (List Int)} {x:List Int} (_:∀f∈l,f.length=20) (_:x.length=20),x∉l->iu mK (cY x) (sg l)=some none
 | [],x,_,_,_=>rfl
 |a::l,x,h,hx,hn=>by
  have ha:=h a adw;have l6:¬x=a:=λe=>hn (e▸adw);have ih:=H9 (λf hf=>h f (adx _ hf)) hx (λhm=>hn (adx _ hm));show iu mK (cY x) (.agg (cY a)::aq 1::sg l)=_;rw[iu,show b7 mK (cY x) (cY a)=some (decide (x=a)) from y3 hx ha,decide_eq_false l6,ih];rfl
theorem JO:∀{l:List (List Int)} {x:List Int} (_:∀f∈l,f.length=20) (_:x.length=20),x∈l->∃j,iu mK (cY x) (sg l)=some (some j)/\(sg l)[2*j+1]?=some (aq 1)
 | [],x,_,_,hm=>by cases hm
 |a::l,x,h,hx,hm=>by
  have ha:=h a adw;by_cases he:x=a
  ·refine⟨0,?_,rfl⟩;show iu mK (cY x) (.agg (cY a)::aq 1::sg l)=_;rw[iu,show b7 mK (cY x) (cY a)=some (decide (x=a)) from y3 hx ha,decide_eq_true he]
  ·rcases List.mem_cons.1 hm with e|hm;·exact absurd e he
   ·obtain⟨j,h1,h2⟩:=JO (λf hf=>h f (adx _ hf)) hx hm;refine⟨j+1,?_,?_⟩
    ·show iu mK (cY x) (.agg (cY a)::aq 1::sg l)=_;rw[iu,show b7 mK (cY x) (cY a)=some (decide (x=a)) from y3 hx ha,decide_eq_false he,h1];rfl
    ·show(AV.agg (cY a)::aq 1::sg l)[2*(j+1)+1]?=_;rw[show 2*(j+1)+1=(2*j+1)+1+1 by omega,List.getElem?_cons_succ,List.getElem?_cons_succ];exact h2
theorem JP {l:List (List Int)} {x:List Int} (h:∀f∈l,f.length=20) (hx:x.length=20) (hn:x∉l):sn mK (aq 0) (cY x) (sg l)=some (aq 0,false):=by
 unfold sn;rw[if_pos (by rw[eu hx];rfl),H9 h hx hn]
theorem QI {l:List (List Int)} {x:List Int} (h:∀f∈l,f.length=20) (hx:x.length=20) (hn:x∈l):sn mK (aq 0) (cY x) (sg l)=some (aq 1,true):=by
 obtain⟨j,h1,h2⟩:=JO h hx hn;unfold sn;rw[if_pos (by rw[eu hx];rfl),h1];simp only[h2,ady]
theorem QJ {l:List (List Int)} {x:List Int} (h:∀f∈l,f.length=20) (hx:x.length=20) (hn:x∉l):xB mK (aq 0) (cY x) (sg l)=some (aq 0,l.length,sg l++[.agg (cY x),aq 0]):=by
 unfold xB;rw[if_pos (by rw[eu hx];rfl),H9 h hx hn];simp only[qI,Nat.mul_div_cancel_left _ (show 0<2 by decide)]
theorem JQ:∀{l:List (List Int)} {x:List Int} (_:∀f∈l,f.length=20) (_:x.length=20),x∉l->iu mK (cY x) (sg l++[.agg (cY x),aq 0])=some (some l.length)
 | [],x,_,hx,_=>by
   show iu mK (cY x) [.agg (cY x),aq 0]=_;rw[iu,show b7 mK (cY x) (cY x)=some (decide (x=x)) from y3 hx hx,decide_eq_true rfl];rfl
 |a::l,x,h,hx,hn=>by
  have ha:=h a adw;have l6:¬x=a:=λe=>hn (e▸adw);have ih:=JQ (λf hf=>h f (adx _ hf)) hx (λhm=>hn (adx _ hm));show iu mK (cY x) (.agg (cY a)::aq 1::(sg l++[.agg (cY x),aq 0]))=_;rw[iu,show b7 mK (cY x) (cY a)=some (decide (x=a)) from y3 hx ha,decide_eq_false l6,ih];rfl
theorem QK {l:List (List Int)} {x:List Int} (h:∀f∈l,f.length=20) (hx:x.length=20) (hn:x∉l):sn mK (aq 0) (cY x) (sg l++[.agg (cY x),aq 0])=some (aq 0,true):=by
 unfold sn;rw[if_pos (by rw[eu hx];rfl),JQ h hx hn];simp only;rw[List.getElem?_append_right (by rw[qI];omega),qI,Nat.add_sub_cancel_left];rfl
theorem LW (l:List (List Int)) (x:List Int):(sg l++[AV.agg (cY x),aq 0]).set (2*l.length+1) (aq 1)=sg (l++[x]):=by
 rw[QH,List.set_append_right _ _ (by rw[qI];omega),qI,Nat.add_sub_cancel_left];rfl
end
end Go.Proofs.YtjfdjkageiemkaaGreatDoor
namespace Go.Jq
open Go
def stepG (P:Program) (o:bA) (S:St) (K:St->Prop):Prop:=
 match o.guard with
 |none=>ju P o S K
 |some (g,want)=>match ah S.t g with
  |.d (.bool b)=>if b=want then ju P o S K else K ⟨cK S.t o.dst (.cu []),S.m,S.n⟩
  |.cu _=>K ⟨cK S.t o.dst (.cu []),S.m,S.n⟩
  |_=>False
def mL (ms:List Nat) (L:Nat):List Nat:=(ac7 ms.length).filter λi=>!L.testBit i&&(ms.getD i 0&&&L==ms.getD i 0)
def j2 (P:Program) (al:List bA) (ms:List Nat) (K:St->Prop):Nat->Nat->St->Prop
 |0,L,S=>mL ms L=[]/\K S
 |f+1,L,S=>(mL ms L=[]->K S)/\∀i∈mL ms L,match al[i]?with
  |some ao=>stepG P ao S (j2 P al ms K f (L|||2^i))
  |none=>False
theorem F3 (i:Nat):∀(l:List Edge) (s:Nat),(s.testBit i=true\/∃e∈l,Region.binds .any e=true/\e.on=i)->(l.foldl (λs e=>if Region.binds .any e then s|||2^e.on else s) s).testBit i=true
 | [],s,h=>by
   rcases h with h|⟨e,he,_⟩;·exact h
   ·cases he
 |e::l,s,h=>by
  simp only[adB];refine F3 i l _ ?_;rcases h with h|⟨e',Md,h1,h2⟩
  ·left;split;·rw[Nat.testBit_or,h];rfl
   ·exact h
  ·rcases List.mem_cons.1 Md with rfl|Md
   ·left;rw[if_pos h1,Nat.testBit_or,h2,Nat.testBit_two_pow_self,Bool.or_true]
   ·exact .inr ⟨e',Md,h1,h2⟩
theorem Ia (m L:Nat):(m&&&L==m)=true↔∀b,m.testBit b=true->L.testBit b=true:=by
 rw[beq_iff_eq];constructor
 ·intro h b hb;rw[<-h,Nat.testBit_and,adn]at hb;exact hb.2
 ·intro h;apply Nat.eq_of_testBit_eq;intro b;rw[Nat.testBit_and];cases hb:m.testBit b with
  |false=>rfl
  |true=>rw[h b hb];rfl
section
variable{P:Program} {k:Nat} {ops:Array Oper}
theorem ve {listed:Array Bool} {L:Nat} (gU:listed.size=ops.size) (hL:∀i,L.testBit i=listed.getD i false) (i:Nat):i∈mL (eR ops) L↔i∈Region.ready .any ops listed:=by
 rw[mem_ready];unfold mL;rw[List.mem_filter,List.mem_range,adn,Bool.not_eq_true',Ia];have hlen:(eR ops).length=ops.size:=by simp[eR]
 rw[hlen];constructor
 ·rintro⟨h1,h2,h3⟩;have hi:i<listed.size:=by omega
  refine⟨?_,ops[i],by simp[h1],λe he hb=>?_⟩
  ·have:=hL i;rw[h2]at this;simp[hi]at this⊢;exact this
  ·rw[<-hL];refine h3 _ ?_;have:(eR ops).getD i 0=(ops[i]).after.toList.foldl (λs e=>if Region.binds .any e then s|||2^e.on else s) 0:=by
    simp[eR,h1]
   rw[this];exact F3 _ _ _ (.inr ⟨e,by simpa using he,hb,rfl⟩)
 ·rintro⟨h1,o,ho,h3⟩;have hi:i<ops.size:=(Array.getElem?_eq_some_iff.1 ho).1;have gb:i<listed.size:=by omega
  refine⟨hi,?_,λb hb=>?_⟩
  ·rw[hL];simp[gb]at h1⊢;exact h1
  ·have:(eR ops).getD i 0=o.after.toList.foldl (λs e=>if Region.binds .any e then s|||2^e.on else s) 0:=by
    have e:ops[i]=o:=(Array.getElem?_eq_some_iff.1 ho).2;simp[eR,hi,e]
   rw[this]at hb;rcases uF b _ _ hb with h|⟨e,he,h4,h5⟩;·simp at h
   ·rw[hL,<-h5];exact h3 e (by simpa using he) h4
theorem LX {listed:Array Bool} {L:Nat} (gU:listed.size=ops.size) (hL:∀i,L.testBit i=listed.getD i false):Region.ready .any ops listed=[]->mL (eR ops) L=[]:=by
 intro h;rw[List.eq_nil_iff_forall_not_mem];intro i hi;rw[ve gU hL,h]at hi;cases hi
theorem tF {E:Env} {al:List bA} {Q:Exit->Act->World->Prop} {K:St->Prop} (hc:ib P ops k ops.toList=some al) (hK:∀S' a' w',K S'->jS E k S' a' w'->Q .normal a' w'):
 ∀(fuel L:Nat) (listed:Array Bool) (S:St) (a:Act) (w:World),listed.size=ops.size->(∀i,L.testBit i=listed.getD i false)->E.n<=S.n->jS E k S a w->j2 P al (eR ops) K fuel L S->
  wpAny P .any ops Q fuel listed a w
 |0,L,listed,S,a,w,gU,hL,_,nV,h=>⟨by
  rw[List.eq_nil_iff_forall_not_mem];intro i hi;rw[<-ve gU hL,h.1]at hi;exact absurd hi (List.not_mem_nil),hK _ _ _ h.2 nV⟩
 |fuel+1,L,listed,S,a,w,gU,hL,hn,nV,h=>by
  refine⟨λh0=>hK _ _ _ (h.1 (LX gU hL h0)) nV,λi hi=>?_⟩;have h1:=h.2 i ((ve gU hL i).2 hi);obtain⟨_,o,ho,_⟩:=mem_ready.1 hi;have o5:∃ao,al[i]?=some ao/\oN P ops k o=some ao:=by
   have key:∀(l:List Oper) (al:List bA),ib P ops k l=some al->∀(i:Nat) (o:Oper),l[i]?=some o->∃ao,al[i]?=some ao/\oN P ops k o=some ao:=by
    intro l;induction l with
    |nil=>intro al _ i o ho;simp at ho
    |cons x l ih=>
     intro al hc i o ho;simp only[ib]at hc;split at hc
     ·rename_i ao r' e1 e2;cases hc;cases i with
      |zero=>simp at ho;subst ho;exact⟨ao,rfl,e1⟩
      |succ i=>exact ih r' e2 i o (by simpa using ho)
     ·cases hc
   exact key _ _ hc i o (by rw[Array.getElem?_toList];exact ho)
  obtain⟨ao,xa,o5⟩:=o5;rw[xa]at h1;simp only at h1;have uC:(listed.setIfInBounds i true).size=ops.size:=by simp[gU]
  have gb:i<listed.size:=by rw[gU];exact(Array.getElem?_eq_some_iff.1 ho).1
  have hL':∀j,(L|||2^i).testBit j=(listed.setIfInBounds i true).getD j false:=by
   intro j;rw[Nat.testBit_or,Nat.testBit_two_pow];by_cases Re:i=j
   ·subst Re;simp[gb]
   ·rw[getD_set_ne false Re,<-hL j];simp[Re]
  have next:∀S' a' w',j2 P al (eR ops) K fuel (L|||2^i) S'->jS E k S' a' w'->S.n<=S'.n->wpAny P .any ops Q fuel (listed.setIfInBounds i true) a' w':=
   λS' a' w' hs w8 hle=>tF hc hK fuel _ _ S' a' w' uC hL' (Nat.le_trans hn hle) w8 hs
  obtain⟨hg,hd,KJ⟩:=ku o5;unfold wpOp;simp only[ho];unfold stepG at h1;split at h1
  ·rename_i YI;rw[YI]at hg;rw[if_pos (xQ hg _)];exact .inl (w9 o5 hn next nV h1)
  ·rename_i g want Wo;rw[Wo]at hg;split at h1
   ·rename_i b hb;obtain⟨c,ic,hp⟩:=id nV;have hw:=sH hg ic.fr hb;split at h1
    ·rename_i BJ;rw[hw,if_pos (by simpa using BJ)];exact .inl (w9 o5 hn next nV h1)
    ·rename_i BJ;rw[hw,if_neg (by simpa using BJ)];refine next ⟨cK S.t ao.dst (.cu []),S.m,S.n⟩ _ _ h1 ?_ (acV _)
     rw[hd];exact na ic hp hn KJ (.inl (nc _ _)) ic.mr (Step.refl _ _ _) (λ_ h=>.inl h) (λ_ _=>rfl) (λ_ _ h=>h) ic.free rfl
   ·rename_i cs hb;obtain⟨c,ic,hp⟩:=nV;have hw:=Ay hg ic.fr hb;rw[hw,if_neg (by simp)];refine next ⟨cK S.t ao.dst (.cu []),S.m,S.n⟩ _ _ h1 ?_ (acV _)
    rw[hd];exact na ic hp hn KJ (.inl (nc _ _)) ic.mr (Step.refl _ _ _) (λ_ h=>.inl h) (λ_ _=>rfl) (λ_ _ h=>h) ic.free rfl
   ·exact h1.elim
theorem zg {n0:Nat} {S:St} {Q:Exit->St->Prop} {id:Nat} {al:List bA} (hm:P.follows .mixedOrders=true) (hc:ib P ops k ops.toList=some al) (hn:n0<=S.n)
 (h:j2 P al (eR ops) (λS'=>Q .normal S') (eR ops).length 0 S):w7 P n0 k (.region id ops true) S Q:=by
 intro E hE a w nV;refine wp_region_any hm ?_;have vJ:jS E k S a {w with drawn:=w.drawn+1}:=AE nV rfl rfl rfl rfl;have hlen:(eR ops).length=ops.size:=by simp[eR]
 rw[hlen]at h;refine tF hc (K:=λS'=>Q .normal S') (λS' a' w' h1 h2=>⟨S',h1,h2⟩) ops.size 0 _ S a _ (by simp) (λi=>?_) (hE▸hn) vJ h;rw[Nat.zero_testBit,Array.getD_eq_getD_getElem?];by_cases hi:i<ops.size;·simp[hi]
 ·rw[Array.getElem?_eq_none (by simpa using Nat.le_of_not_lt hi)];rfl
theorem zh {n0:Nat} {S:St} {Q:Exit->St->Prop} {al:List bA} {ms:List Nat} (hm:P.follows .mixedOrders=true) (hn:decide (n0<=S.n)=true) (h:j2 P al ms (λS'=>Q .normal S') ms.length 0 S):
 fN P n0 k (.region true al ms) S Q:=by
 intro code hc;cases code with
 |region id ops draw=>
  simp only[ct]at hc;split at hc
  ·rename_i al' qi;split at hc
   ·rename_i hd;split at hc
    ·cases hc;subst hd;exact zg hm qi (of_decide_eq_true hn) h
    ·cases hc
   ·cases hc
  ·cases hc
 |cond c a b=>simp only[ct]at hc;repeat' split at hc
              all_goals cases hc
 |seq a b=>simp only[ct]at hc;repeat' split at hc
           all_goals cases hc
 |_=>simp[ct]at hc
theorem wv {al:List bA} {ms:List Nat} {K:St->Prop} {f L:Nat} {S:St} (l:List Nat) (hl:mL ms L=l) (l6:l≠ []) (h:∀i∈l,match al[i]?with
 |some ao=>stepG P ao S (j2 P al ms K f (L|||2^i))
 |none=>False):j2 P al ms K (f+1) L S:=by
 subst hl;exact⟨λh0=>absurd h0 l6,h⟩
theorem F4 {al:List bA} {ms:List Nat} {K:St->Prop} {f L:Nat} {S:St} (hl:mL ms L=[]) (h:K S):j2 P al ms K f L S:=by
 cases f with
 |zero=>exact⟨hl,h⟩
 |succ f=>exact⟨λ_=>h,λi hi=>by rw[hl]at hi;cases hi⟩
theorem vg {o:bA} {S:St} {K:St->Prop} (h:cz P [o] S K):stepG P o S K:=by
 unfold stepG;simp only[cz]at h;exact h
theorem Ib {al:List bA} {ms:List Nat} {K:St->Prop} {f L i:Nat} {S:St} {ao:bA} (hl:mL ms L=[i]) (ha:al[i]?=some ao) (h:cz P [ao] S (j2 P al ms K f (L|||2^i))):j2 P al ms K (f+1) L S:=by
 refine wv [i] hl (by simp) ?_;intro j hj;simp only[List.mem_cons,List.not_mem_nil,or_false]at hj;subst hj;rw[ha];exact vg h
theorem Ic {al:List bA} {ms:List Nat} {K:St->Prop} {f L i j:Nat} {S:St} {ao bo:bA} (hl:mL ms L=[i,j]) (ha:al[i]?=some ao) (hb:al[j]?=some bo)
 (h:cz P [ao] S (j2 P al ms K f (L|||2^i))) (h':cz P [bo] S (j2 P al ms K f (L|||2^j))):j2 P al ms K (f+1) L S:=by
 refine wv [i,j] hl (by simp) ?_;intro k hk;simp only[List.mem_cons,List.not_mem_nil,or_false]at hk;rcases hk with rfl|rfl;·rw[ha];exact vg h
 ·rw[hb];exact vg h'
end
end Go.Jq
namespace Go.Proofs.YtjfdjkageiemkaaGreatDoor
open Go.Proofs.Tryz
open Go.Proofs.Tryz renaming prog → aM
section
open Go Go.Jq
def mM:Option (List Int)->DV
 |none=>.cE
 |some r=>if r=[]then .cE else CN r
def JR (m:Int) (pc fc:List DV) (X:DV) (n:Nat) (l:List (List Int)) (i:Nat):St:=
 ⟨[(1,aq m),(4,.bj pc),(6,.bj fc),(12,.oZ 0),(33,.d X),(34,aq n),(35,aq i)],[(0,.cu []::sg l)],1⟩
theorem LY {F:List (List Int)} (jf:∀f∈F,f.length=20) (hr:F.Pairwise XE) (hn:F.length<=1000000000) (m:Int) (pc fc:List DV) {Q:Exit->St->Prop}
 (hQ:Q (.exit 0) (JR m pc fc (.sl F.length (cm F)) F.length F F.length)):
 fN aM (aw []) 70 (.loop Hf) (JR m pc fc (.sl F.length (cm F)) F.length (F.take 0) 0) Q:=by
 refine bM (λi=>JR m pc fc (.sl F.length (cm F)) F.length (F.take i) i) F.length ?_;intro i hi;unfold Hf;have qZ:(cm F).length=F.length*20:=by have:=dQ jf;unfold cn at this;rwa[acY]at this
 by_cases bd:i<F.length
 ·have aQ:(i:Int)<F.length:=by omega
  have hw:=c8 (i:=i) (by omega);have vM:=lY jf bd;unfold cn at vM;rw[<-List.map_drop]at vM;have xE:=QG hr bd;have hx:=jf _ (adt bd);have b0:F.take (i+1)=F.take i++[F[i]]:=by rw[adG,ac6 bd];rfl
  have F1:∀f∈F.take i,f.length=20:=λf hf=>jf f (List.mem_of_mem_take hf);have Yt:(F.take i).length=i:=by rw[List.length_take];omega
  generalize F[i]=x at vM xE hx b0;generalize F.take i=l at xE b0 F1 Yt;have q1:=JP F1 hx xE;have q2:=QJ F1 hx xE;have q3:=LW l x;unfold mK at q1 q2;rw[Yt]at q2 q3;have MN:(sg l).length=2*i:=by rw[qI,Yt]
  have ya:=eu hx;have ep:=pY x;have QE:=oI x hx;have qL:(bR il).length=20:=rfl;have LH:=ln (f:=il) (n:=1) (by decide);have Mo:aP (some 20) (cY x)=some (.agg (cY x)):=by rw[ej,ya,if_pos (acV _),ac8 (by omega)]
  have acs:i*20<F.length*20:=by omega
  have h21:2*i+1<(sg l++[AV.agg (cY x),aq 0]).length:=by rw[adk,MN];simp
  have q5:ac9.wrap (0+1)=1:=by decide
  unfold JR;refine J λK hK=>?_;simp only[go_sem,aQ,decide_true];apply hK;refine aa λK1 a8=>?_;refine aN ?_;apply au;apply a8;refine aa λK1 a8=>?_;apply aA;refine J λK hK=>?_;simp only[go_sem,acX,aQ,bd,acW,qZ,acs,vM,nx,jB,LH,acY,qL,ya,ep,QE,ac2,acV];apply hK;have q4:=QK F1 hx xE;unfold mK at q4;refine zh rfl rfl ?_
  repeat' (first
   |(refine Ic rfl rfl rfl ?_ ?_<;>simp only[go_sem,Mo,q1,q2,q4,acX,acW,h21,q5,q3])
   |(refine Ib rfl rfl ?_;simp only[go_sem,Mo,q1,q2,q4,acX,acW,h21,q5,q3]))
  all_goals refine F4 rfl ?_
  all_goals(apply a8;clear a8;refine af rfl ?_)
  all_goals simp only[go_sem,hw]
  all_goals exact⟨bd,(aH.cN [(0,0)] ⟨by simp[bm,ah,AV.aC,aj,ag,JR,b0,j8],by simp[aL,aI,ai,an,aj,AV.aC,ag,ae,JR,b0,j8,-acU],rfl,rfl⟩)⟩
 ·have dh:i=F.length:=by omega
  subst dh;have aQ:¬(F.length:Int)<F.length:=by omega
  rw[ac8 (acV _)];unfold JR;refine J λK hK=>?_;simp only[go_sem,aQ,decide_false];apply hK;refine aa λK1 a8=>?_;refine aK ?_;refine ax (S':=JR m pc fc (.sl F.length (cm F)) F.length F F.length) (aH.cN [(0,0)] ⟨by simp[bm,ah,AV.aC,aj,ag,JR,j8],by simp[aL,aI,ai,an,aj,AV.aC,ag,ae,-acU,JR,j8],rfl,rfl⟩) ?_;exact aZ hQ
def QL (m:Int) (pc:List DV) (X:DV) (n:Nat) (F:List (List Int)) (i:Nat):St:=
 ⟨[(1,aq m),(4,.bj pc),(12,.oZ 0),(47,.d X),(48,aq n),(49,aq i)],[(0,.cu []::sg F)],1⟩
theorem Ie {p:Prog} {I T:DV} (hI:fJ p.init I) (hT:cP Ins.cells p.threads T) (h:zA p) {m:Int} (um:1<=m) (uo:m<=3) {runs:List (List Int)} (nH:runs.length<=2000001) (uq:∀r∈runs,r.length<=2000000)
 {F:List (List Int)} (jf:∀f∈F,f.length=20) {R:AV} (hR:R=(match runs.find? (fM p m F)with
  |some row=>.cu [aq 2,.d (mM (some row))]
  |none=>.cu [aq 1,.d .cE])) {KE:St->Prop}
 (fK:∀S',fN aM (aw []) 70 (.seq (.region false [oM 8 (.mv (.c (aq 1))),oM 9 (.mv (.c (.d .cE)))] []) .ret) S' (mZ aM #[.tmp 8,.tmp 9] (aw []) λr m'=>r=R/\m'=[])->KE S'):
 fN aM (aw []) 70 (.loop Hg) (QL m [aR p.aE,I,T] (.sl runs.length (cC runs)) runs.length F 0) (Exit.gC 2 (Exit.iy KE (mZ aM #[.tmp 8,.tmp 9] (aw []) λr m'=>r=R/\m'=[]))):=by
 have VP:(cC runs).length=runs.length:=nC ..;refine fy (ι:={i:Nat//i<=runs.length/\∀r∈runs.take i,fM p m F r=false}) (λi=>QL m [aR p.aE,I,T] (.sl runs.length (cC runs)) runs.length F i.1) (λi=>runs.length-i.1) ⟨0,Nat.zero_le _,λr hr=>by simp at hr⟩ ?_;rintro⟨i,hi,uB⟩;dsimp only;unfold Hg;by_cases bd:i<runs.length
 ·have aQ:(i:Int)<runs.length:=by omega
  have hw:=c8 (i:=i) (by omega);obtain⟨rest,bU⟩:=zf bd;have hr:=uq _ (adt bd);have kp:=lX hI hT h um uo (Dd (r:=runs[i]) (by omega)) (by omega);rw[Db]at kp;have hx:=Dc p m runs[i];have b0:fM p m F runs[i]=false->∀r∈runs.take (i+1),fM p m F r=false:=λe r hr=>by
   rw[adG,ac6 bd]at hr;rcases List.mem_append.1 hr with h1|h1;·exact uB r h1
   ·simp at h1;rw[h1];exact e
  have JS:fM p m F runs[i]=true->runs.find? (fM p m F)=some runs[i]:=λe=>by
   rw[List.find?_eq_some_iff_getElem];refine⟨e,i,bd,rfl,λj hj=>?_⟩;have:=uB runs[j] (List.mem_take_iff_getElem.2 ⟨j,by omega,rfl⟩);rw[this];rfl
  have l6:fM p m F runs[i]=(match iQ p m runs[i]with
   |some x=>!decide (x∈F)
   |none=>false):=rfl
  rw[l6]at b0 JS;generalize runs[i]=row at bU kp hx hr b0 JS;generalize iQ p m row=o at kp hx b0 JS;have ya:=eu hx;have ep:=pY (o.getD il);have QE:=oI _ hx;have qL:(bR il).length=20:=rfl;have LH:=ln (f:=il) (n:=1) (by decide);have Mo:aP (some 20) (cY (o.getD il))=some (.agg (cY (o.getD il))):=by rw[ej,ya,if_pos (acV _),ac8 (by omega)]
  unfold QL;refine J λK hK=>?_;simp only[go_sem,aQ,decide_true];apply hK;refine aa λK1 a8=>?_;refine aN ?_;apply au;apply a8;refine aa λK1 a8=>?_;apply aA;refine J λK hK=>?_;simp only[go_sem,acX,aQ,bd,acW,bU,VP,Nat.mul_one];apply hK;cases o with
  |none=>
   simp only[Option.getD_none,adb]at*;refine J λK hK=>?_;simp only[go_sem,aP];refine aY (kp) ?_;simp only[go_sem,nx,jB,LH,acY,qL,ya,ep,QE,ac2,acV];refine hK _ (J λK hK=>?_);simp only[go_sem];apply hK;refine aK ?_;apply au;simp only[go_sem];apply a8;refine af rfl ?_;simp only[go_sem,hw];refine⟨⟨i+1,bd,b0 trivial⟩,by simp only;omega,?_⟩;exact aH.cN [(0,0)] ⟨by simp[bm,ah,AV.aC,aj,ag,QL,j8],by simp[aL,aI,ai,an,aB,aj,AV.aC,ag,ae,-acU,QL,j8],rfl,rfl⟩
  |some x=>
   simp only[adE,adj]at*;by_cases hm:x∈F
   ·have q1:=QI jf hx hm;unfold mK at q1;refine J λK hK=>?_;simp only[go_sem,aP];refine aY (kp) ?_;simp only[go_sem,nx,jB,LH,acY,qL,ya,ep,QE,ac2,acV];refine hK _ (J λK hK=>?_);simp only[go_sem,Mo,q1];apply hK;refine aK ?_;apply au;simp only[go_sem];apply a8;refine af rfl ?_;simp only[go_sem,hw];refine⟨⟨i+1,bd,b0 (by rw[decide_eq_true hm];rfl)⟩,by simp only;omega,?_⟩;exact aH.cN [(0,0)] ⟨by simp[bm,ah,AV.aC,aj,ag,QL,j8],by simp[aL,aI,ai,an,aB,aj,AV.aC,ag,ae,-acU,QL,j8],rfl,rfl⟩
   ·have q1:=JP jf hx hm;unfold mK at q1;rw[JS (by rw[decide_eq_false hm];rfl)]at hR;simp only at hR;subst hR;refine J λK hK=>?_;simp only[go_sem,aP];refine aY (kp) ?_;simp only[go_sem,nx,jB,LH,acY,qL,ya,ep,QE,ac2,acV];refine hK _ (J λK hK=>?_);simp only[go_sem,Mo,q1];apply hK;refine aN ?_;unfold CN;have h8:row.length*8<=140737488351232:=by omega
    cases row with
    |nil=>
     refine J λK hK=>?_;simp only[go_sem,adz,adu,Nat.zero_mul,Nat.zero_le];apply hK;apply ak;exact⟨.cu [aq 2,.d .cE],by simp[bB,aV,bK,ah,ai,an,aB,mM],[],[],rfl,rfl,by simp[aL,aI,ai,an,aB,aj,AV.aC,ag,ae,-acU,mM],by simp[AV.aC,aj,ag,mM]⟩
    |cons a r=>
     have JI:((a::r).map λi=>DV.int .i64 i).length=(a::r).length:=acY ..;have Dz:mM (some (a::r))=.sl (a::r).length ((a::r).map λi=>DV.int .i64 i):=rfl;have hz:¬(a::r).length=0:=by simp
     rw[Dz];have vP:((a::r).map λi=>DV.int .i64 i).take (a::r).length=(a::r).map λi=>DV.int .i64 i:=ac8 (by rw[JI];exact acV _);generalize ((a::r).map λi=>DV.int .i64 i)=ds at JI vP;generalize (a::r).length=k at JI vP h8 hz;refine J λK hK=>?_;simp only[go_sem,JI,Nat.mul_one,h8,hz];apply hK;refine ax (aH.jn (S':=⟨[(8,aq 2),(9,.d (.sl k ds))],[],0⟩) [] [(2,ds)] ⟨by simp[fO,ah,AV.cv,dn,bI,ag,vP],by simp[gd,aI,bI,ai,an,aB,dn,AV.cv,ag,cF,ba,-acU,vP],rfl,rfl,by simp[bD,bI,ai,an,aB,dn,AV.cv,cF,ba,-acU,vP]⟩) ?_;apply ak
     exact⟨.cu [aq 2,.d (.sl k ds)],by simp[bB,aV,bK,ah,ai,an,aB],[],[],rfl,rfl,by simp[aL,aI,ai,an,aB,aj,AV.aC,ag,ae,-acU],by simp[AV.aC,aj,ag]⟩
 ·have dh:i=runs.length:=by omega
  subst dh;have aQ:¬(runs.length:Int)<runs.length:=by omega
  rw[ac8 (acV _)]at uB;have YF:runs.find? (fM p m F)=none:=List.find?_eq_none.2 λr hr=>by rw[uB r hr];exact Bool.false_ne_true
  rw[YF]at hR;simp only at hR;subst hR;unfold QL;refine J λK hK=>?_;simp only[go_sem,aQ,decide_false];apply hK;refine aa λK1 a8=>?_;refine aK ?_;apply aZ;show KE _;refine fK _ (J λK hK=>?_);simp only[go_sem];apply hK;apply ak;exact⟨.cu [aq 1,.d .cE],by simp[bB,aV,bK,ah,ai,an,aB],[],[],rfl,rfl,by simp[aL,aI,ai,an,aB,aj,AV.aC,ag,ae,-acU],by simp[AV.aC,aj,ag]⟩
def mN (s:Int×Option (List Int)):AV:=.cu [aq s.1,.d (mM s.2)]
theorem zi {p:Prog} {I T:DV} (hI:fJ p.init I) (hT:cP Ins.cells p.threads T) (h:zA p) {m:Int} (um:1<=m) (uo:m<=3) {res:Option Found} (P0:∀f,res=some f->f.runs.length<=2000001/\∀r∈f.runs,r.length<=2000000) (aO:Int):
 Pure aM 38 [.agg [.d (aR p.aE),.d I,.d T],aq m,.agg ((ik res).map .d),aq aO] (mN (kP p m res aO)):=by
 have kf:=F2 hI hT h (m:=1) (by omega) (by omega) aO;have hsg:=λf (h:explore p 1 aO=some f)=>j6 h;unfold kP;generalize explore p 1 aO=g at kf hsg;cases res with
 |none=>
  have hR:mN (match(none:Option Found),g with
   |some f,some g=>match f.runs.find? (fM p m (ft (dj p 1 g.runs)))with
    |some row=>(2,some row)
    |none=>(1,none)
   |_,_=>(0,none))=.cu [aq 0,.d .cE]:=rfl
  rw[hR];refine ay func38 Ca ntmps38 results38 rfl ?_;unfold Sd;simp only[ik,ade,adu];refine J λK hK=>?_;simp only[go_sem];apply hK;refine ax (aH.jn (S':=⟨[(1,aq m),(3,aq aO),(4,.bj [aR p.aE,I,T]),(6,.bj [.cE,.int .i64 0,.int .i64 0,.bool false]),(8,aq 0),(9,.d .cE)],[],0⟩) [] [(0,[aR p.aE,I,T]),(1,[.cE,.int .i64 0,.int .i64 0,.bool false])] ⟨by simp[fO,ah,AV.cv,dn,bI,ag],by simp[gd,aI,bI,ai,an,aB,dn,AV.cv,ag,cF,ba,-acU],rfl,rfl,by simp[bD,bI,ai,an,aB,dn,AV.cv,cF,ba,-acU]⟩) ?_;cases g with
  |none=>
   unfold j7 at kf;refine J λK hK=>?_;simp only[go_sem,aP];refine aY (kf) ?_;simp only[go_sem];apply hK;refine aa λK1 a8=>?_;refine J λK hK=>?_;simp only[go_sem];apply hK;refine aN ?_;refine J λK hK=>?_;simp only[go_sem];apply hK;apply ak;exact⟨.cu [aq 0,.d .cE],by simp[bB,aV,bK,ah,ai,an,aB],[],[],rfl,rfl,by simp[aL,aI,ai,an,aB,aj,AV.aC,ag,ae,-acU],by simp[AV.aC,aj,ag]⟩
  |some g=>
   unfold j7 at kf;refine J λK hK=>?_;simp only[go_sem,aP];refine aY (kf) ?_;simp only[go_sem];apply hK;refine aa λK1 a8=>?_;refine J λK hK=>?_;simp only[go_sem];apply hK;refine aN ?_;refine J λK hK=>?_;simp only[go_sem];apply hK;apply ak;exact⟨.cu [aq 0,.d .cE],by simp[bB,aV,bK,ah,ai,an,aB],[],[],rfl,rfl,by simp[aL,aI,ai,an,aB,aj,AV.aC,ag,ae,-acU],by simp[AV.aC,aj,ag]⟩
 |some f=>
  obtain⟨nH,uq⟩:=P0 f rfl;cases g with
  |none=>
   have hR:mN (0,none)=.cu [aq 0,.d .cE]:=rfl;simp only[hR];unfold j7 at kf;refine ay func38 Ca ntmps38 results38 rfl ?_;unfold Sd;simp only[ik,ade,adu];refine J λK hK=>?_;simp only[go_sem];apply hK
   refine ax (aH.jn (S':=⟨[(1,aq m),(3,aq aO),(4,.bj [aR p.aE,I,T]),(6,.bj [.sl f.runs.length (cC f.runs),.int .i64 f.blocked,.int .i64 f.aS,.bool true]),(8,aq 0),(9,.d .cE)],[],0⟩) [] [(0,[aR p.aE,I,T]),(1,[.sl f.runs.length (cC f.runs),.int .i64 f.blocked,.int .i64 f.aS,.bool true])] ⟨by simp[fO,ah,AV.cv,dn,bI,ag],by simp[gd,aI,bI,ai,an,aB,dn,AV.cv,ag,cF,ba,-acU],rfl,rfl,by simp[bD,bI,ai,an,aB,dn,AV.cv,cF,ba,-acU]⟩) ?_;refine J λK hK=>?_;simp only[go_sem,aP];refine aY (kf) ?_;simp only[go_sem];apply hK;refine aa λK1 a8=>?_;refine J λK hK=>?_;simp only[go_sem];apply hK;refine aN ?_
   refine J λK hK=>?_;simp only[go_sem];apply hK;apply ak;exact⟨.cu [aq 0,.d .cE],by simp[bB,aV,bK,ah,ai,an,aB],[],[],rfl,rfl,by simp[aL,aI,ai,an,aB,aj,AV.aC,ag,ae,-acU],by simp[AV.aC,aj,ag]⟩
  |some g=>
   obtain⟨Xy,hgr⟩:=hsg g rfl;have jf:=p6 p 1 g.runs;have Th:=FY jf;have hFr:=H8 jf;have hFl:=Bj (dj p 1 g.runs);rw[nF]at hFl;simp only;have hR:∀R,R=mN (match f.runs.find? (fM p m (ft (dj p 1 g.runs)))with
    |some row=>(2,some row)
    |none=>(1,none))->R=(match f.runs.find? (fM p m (ft (dj p 1 g.runs)))with
    |some row=>.cu [aq 2,.d (mM (some row))]
    |none=>.cu [.d (.int .i64 1),.d .cE]):=λR e=>by
    rw[e];cases f.runs.find? (fM p m (ft (dj p 1 g.runs)))<;>rfl
   have hR:=hR _ rfl;generalize mN (match f.runs.find? (fM p m (ft (dj p 1 g.runs)))with
    |some row=>(2,some row)
    |none=>(1,none))=R at hR⊢
   unfold j7 at kf;simp only at kf;generalize ft (dj p 1 g.runs)=F at*;refine ay func38 Ca ntmps38 results38 rfl ?_;unfold Sd;simp only[ik,ade,adu];refine J λK hK=>?_;simp only[go_sem];apply hK
   refine ax (aH.jn (S':=⟨[(1,aq m),(3,aq aO),(4,.bj [aR p.aE,I,T]),(6,.bj [.sl f.runs.length (cC f.runs),.int .i64 f.blocked,.int .i64 f.aS,.bool true]),(8,aq 0),(9,.d .cE)],[],0⟩) [] [(0,[aR p.aE,I,T]),(1,[.sl f.runs.length (cC f.runs),.int .i64 f.blocked,.int .i64 f.aS,.bool true])] ⟨by simp[fO,ah,AV.cv,dn,bI,ag],by simp[gd,aI,bI,ai,an,aB,dn,AV.cv,ag,cF,ba,-acU],rfl,rfl,by simp[bD,bI,ai,an,aB,dn,AV.cv,cF,ba,-acU]⟩) ?_;refine J λK hK=>?_;simp only[go_sem,aP];refine aY (kf) ?_;simp only[go_sem];apply hK;refine aa λK1 a8=>?_;refine J λK hK=>?_;simp only[go_sem];apply hK;refine aK ?_;apply au
   refine a8 _ (J λK hK=>?_);simp only[go_sem];apply hK;refine aa λKE fK=>?_;refine J λK hK=>?_;simp only[go_sem];apply hK;apply aA;refine ax (S':=JR m [aR p.aE,I,T] [.sl f.runs.length (cC f.runs),.int .i64 f.blocked,.int .i64 f.aS,.bool true] (.sl F.length (cm F)) F.length (F.take 0) 0) (aH.cN [(0,0)] ⟨by simp[bm,ah,AV.aC,aj,ag,JR,sg],by simp[aL,aI,ai,an,aj,AV.aC,ag,ae,-acU,JR,sg],rfl,rfl⟩) ?_;refine LY Th hFr (by omega) m _ _ ?_;show KE _;apply fK;refine aa λKE fK=>?_;unfold JR;refine J λK hK=>?_;simp only[go_sem];apply hK;apply aA
   refine ax (S':=QL m [aR p.aE,I,T] (.sl f.runs.length (cC f.runs)) f.runs.length F 0) (aH.cN [(0,0)] ⟨by simp[bm,ah,AV.aC,aj,ag,QL,j8],by simp[aL,aI,ai,an,aj,AV.aC,ag,ae,-acU,QL,j8],rfl,rfl⟩) ?_;exact Ie hI hT h um uo nH uq Th hR fK
def V5 (aE:List UInt8) (c:Int) (i:Nat):St:=⟨[(0,.d (aR aE)),(1,.d (.int .u8 c)),(7,aq aE.length),(8,aq i)],[],0⟩
theorem wx {aE:List UInt8} (hb:aE.length<=1000) (c:Int):Pure aM 157 [.d (aR aE),.d (.int .u8 c)] (aq (place aE c)):=by
 have wL:ir (.d (aR aE))=some aE.length:=rfl;refine ay func157 OD ntmps157 results157 rfl ?_;unfold UI;refine J λK hK=>?_;simp only[go_sem];apply hK;refine aa λKE fK=>?_;refine J λK hK=>?_;simp only[go_sem,wL];apply hK;apply aA;refine ax (S':=V5 aE c 0) (aH.cN [] ⟨by simp[bm,ah,AV.aC,aj,ag,V5],by simp[aL,aI,ai,an,aj,AV.aC,ag,ae,-acU,V5],rfl,rfl⟩) ?_;refine fy (ι:={i:Nat//i<=aE.length/\∀j (h:j<aE.length),j<i->(aE[j].toNat:Int)≠c}) (λi=>V5 aE c i.1) (λi=>aE.length-i.1) ⟨0,Nat.zero_le _,λj _ h=>absurd h (by omega)⟩ ?_;rintro⟨i,hi,l6⟩;dsimp only;unfold I6;by_cases bd:i<aE.length
 ·have aQ:(i:Int)<aE.length:=by omega
  have hw:=c8 (i:=i) (by omega);obtain⟨rest,bU⟩:=Nv aE i bd;unfold V5;refine J λK hK=>?_;simp only[go_sem,aQ,decide_true];apply hK;refine aa λK1 a8=>?_;refine aN ?_;apply au;apply a8;refine aa λK1 a8=>?_;apply aA;refine J λK hK=>?_;simp only[go_sem];apply hK;by_cases hc:c=(aE[i].toNat:Int)
  ·have hp:=EN bd hc.symm l6;refine J λK hK=>?_;simp only[go_sem,aR,acX,aQ,bd,acW,bU,acY,eq_true hc,decide_true];apply hK;refine aN ?_;refine J λK hK=>?_;simp only[go_sem];apply hK;apply ak;exact⟨aq (i:Nat),by simp[bB,aV,bK,ah,ai,an,aB,hp],[],[],rfl,rfl,by simp[aL,aI,ai,an,aB,aj,AV.aC,ag,ae,-acU,hp],by simp[AV.aC,aj,ag,hp]⟩
  ·refine J λK hK=>?_;simp only[go_sem,aR,acX,aQ,bd,acW,bU,acY,eq_false hc,decide_false];apply hK;refine aK ?_;apply au;simp only[go_sem];apply a8;refine af rfl ?_;simp only[go_sem,hw];refine⟨⟨i+1,bd,λj hj h1=>?_⟩,by simp only;omega,?_⟩
   ·by_cases h2:j<i;·exact l6 j hj h2
    ·have:j=i:=by omega
     subst this;exact λh=>hc h.symm
   ·exact aH.cN [] ⟨by simp[bm,ah,AV.aC,aj,ag,V5,aR],by simp[aL,aI,ai,an,aB,aj,AV.aC,ag,ae,-acU,V5,aR],rfl,rfl⟩
 ·have dh:i=aE.length:=by omega
  subst dh;have aQ:¬(aE.length:Int)<aE.length:=by omega
  have hp:=PI (aE:=aE) (x:=c) λj h=>l6 j h h;unfold V5;refine J λK hK=>?_;simp only[go_sem,aQ,decide_false];apply hK;refine aa λK1 a8=>?_;refine aK ?_;apply aZ;show KE _;refine fK _ (J λK hK=>?_);simp only[go_sem];apply hK;apply ak;exact⟨aq (-1),by simp[bB,aV,bK,ah,ai,an,aB,hp],[],[],rfl,rfl,by simp[aL,aI,ai,an,aB,aj,AV.aC,ag,ae,-acU,hp],by simp[AV.aC,aj,ag,hp]⟩
theorem Af {aE:List UInt8} (hb:aE.length<=1000) {x:Int} (TO:0<=x) (hx:x<256) (n:Nat) (cs:List DV):
 bT aM 156 [aq x,.ptr 0 0] [(0,[.d (aR aE),.sl 1 1 0 n,.d .cE]),(1,cs.map .d)] λr m'=>r=aq (place aE x)/\m'=[(0,[.d (aR aE),.sl 1 1 0 n,.d .cE]),(1,cs.map .d)]:=by
 have hw:IntKind.u8.wrap x=x:=by
  simp only[IntKind.wrap,IntKind.signed,IntKind.bits];simp;omega
 have ki:=wx hb x;refine ay func156 EH ntmps156 results156 rfl ?_;unfold OC;refine J λK hK=>?_;simp only[go_sem];refine hK _ (J λK hK=>?_);simp only[go_sem,hw];refine aY (ki) ?_;simp only[go_sem];apply hK;apply ak;exact⟨aq (place aE x),by simp[bB,aV,bK,ah,ai,an,aB],[(0,0),(1,1)],[(0,[.d (aR aE),.sl 1 1 0 n,.d .cE]),(1,cs.map .d)],rfl,rfl,by simp[aL,aI,ai,an,aB,aj,AV.aC,ag,ae,-acU],by simp[AV.aC,aj,ag]⟩
theorem Ag {aE:List UInt8} (hb:aE.length<=1000) {x:Int} (TO:0<=x) (hx:x<256) (Iv:DV) (n:Nat) (cs:List DV):
 bT aM 156 [aq x,.ptr 0 0] [(0,[.d (aR aE),.d Iv,.sl 1 1 0 n]),(1,cs.map .d)] λr m'=>r=aq (place aE x)/\m'=[(0,[.d (aR aE),.d Iv,.sl 1 1 0 n]),(1,cs.map .d)]:=by
 have hw:IntKind.u8.wrap x=x:=by
  simp only[IntKind.wrap,IntKind.signed,IntKind.bits];simp;omega
 have ki:=wx hb x;refine ay func156 EH ntmps156 results156 rfl ?_;unfold OC;refine J λK hK=>?_;simp only[go_sem];refine hK _ (J λK hK=>?_);simp only[go_sem,hw];refine aY (ki) ?_;simp only[go_sem];apply hK;apply ak;exact⟨aq (place aE x),by simp[bB,aV,bK,ah,ai,an,aB],[(0,0),(1,1)],[(0,[.d (aR aE),.d Iv,.sl 1 1 0 n]),(1,cs.map .d)],rfl,rfl,by simp[aL,aI,ai,an,aB,aj,AV.aC,ag,ae,-acU],by simp[AV.aC,aj,ag]⟩
def kW (aE:List UInt8) (vs:List Int) (x:Init):List Int:=vs.set (place aE x.loc).toNat x.value
def nG (aE:List UInt8) (vs:List Int) (l:List Init) (i:Nat):List Int:=(l.take i).foldl (kW aE) vs
theorem Ig (aE:List UInt8) (vs:List Int) {l:List Init} {i:Nat} (hi:i<l.length):nG aE vs l (i+1)=kW aE (nG aE vs l i) l[i]:=by
 unfold nG;rw[adG,ac6 hi,List.foldl_append];rfl
theorem mw (aE:List UInt8):∀(l:List Init) (vs:List Int),(l.foldl (kW aE) vs).length=vs.length
 | [],_=>rfl
 |a::l,vs=>by rw[adB,mw];simp[kW]
theorem Ti (vs:List Int) (i:Nat) (x:Int):((lp vs).map AV.d).set i (aq x)=(lp (vs.set i x)).map AV.d:=by
 unfold lp;rw[List.map_set,List.map_set]
def JT (aE:List UInt8) (tc:List DV) (X:DV) (n:Nat) (vs:List Int) (i:Nat):St:=
 ⟨[(1,.bj tc),(2,.ptr 0 0),(5,.ptr 1 0),(6,.fn 156 [.ptr 1 0]),(29,.d X),(30,aq n),(31,aq i)],
  [(0,[.d .cE,.d .cE,.d .cE]),(1,[.d (aR aE),.sl 2 1 0 aE.length,.d .cE]),(2,(lp vs).map .d)],3⟩
theorem F5 {aE:List UInt8} (hb:aE.length<=26) {l:List Init} {X:DV} (hX:dM Init.cells l X) (tc:List DV) (hl:∀x∈l,0<=x.loc/\x.loc<256/\0<=place aE x.loc/\place aE x.loc<aE.length) {vs:List Int} (hv:vs.length=aE.length) {Q:Exit->St->Prop}
 (hQ:Q (.exit 0) (JT aE tc X l.length (l.foldl (kW aE) vs) l.length)):
 fN aM (aw []) 91 (.loop Hj) (JT aE tc X l.length (nG aE vs l 0) 0) Q:=by
 have fw:=hX.1;refine bM (λi=>JT aE tc X l.length (nG aE vs l i) i) l.length ?_;intro i hi;unfold Hj;have wc:(nG aE vs l i).length=aE.length:=by unfold nG;rw[mw,hv]
 by_cases bd:i<l.length
 ·have aQ:(i:Int)<l.length:=by omega
  have hw:=c8 (i:=i) (by omega);obtain⟨cs,rest,iq,bU,b9⟩:=hX.at (w:=2) (λ_=>rfl) (by decide) i bd;have b0:=Ig aE vs bd;have hx:=hl _ (adt bd);generalize l[i]=x at bU b0 hx;generalize nG aE vs l i=u at wc b0;obtain⟨q0,q1,q2,q3⟩:=hx;have kp:=Af (aE:=aE) (by omega) q0 q1 aE.length (lp u);unfold kW at b0;obtain⟨k,hk⟩:∃k:Nat,place aE x.loc=k:=⟨(place aE x.loc).toNat,by omega⟩;rw[hk]at kp q2 q3 b0;rw[acW]at b0;have Ku:(k:Int)<aE.length:=q3;have S0:k<aE.length:=by omega
  have Xp:(lp u).length=aE.length:=by simp[lp,wc]
  have hk3:k+1<=aE.length:=by omega
  have gy:=Ti u k x.value;unfold JT;refine J λK hK=>?_;simp only[go_sem,aQ,decide_true];apply hK;refine aa λK1 a8=>?_;refine aN ?_;apply au;apply a8;refine aa λK1 a8=>?_;apply aA;refine J λK hK=>?_;simp only[go_sem,iq,acX,aQ,bd,acW,b9,bU,Init.cells];apply hK;refine az rfl rfl ?_;simp only[go_sem];refine⟨rfl,?_⟩
  refine BU [(0,1),(1,2)] [aq x.loc,.ptr 0 0] [(0,[.d (aR aE),.sl 1 1 0 aE.length,.d .cE]),(1,(lp u).map .d)] (nb:=1000) (kp) (by simp[bC]) (by first|(simp[aj,AV.aC,ag];done)|simp[aj,AV.aC,ag,acX,Ku,S0,acW,ac2,Nat.mul_one,acY,Xp,hk3,gy]) (by first|(simp[bF,bE,ag];done)|simp[bF,bE,ag,acX,Ku,S0,acW,ac2,Nat.mul_one,acY,Xp,hk3,gy]) (by simp[handed,ag,ai,an,aB,aj,AV.aC,bF,bE,cT,acX,Ku,S0,acW,ac2,Nat.mul_one,acY,Xp,hk3,gy]) rfl (λ_=>rfl) ?_;simp only[go_sem,dX,ade,adu,bn,bL,bN,ai,an,aB,bX,ag,aj,bG,AV.aC,adj,adb,adg,adi,adm,ac5,acX,Ku,S0,acW,ac2,Nat.mul_one,acY,Xp,hk3,gy];refine⟨rfl,?_⟩;apply a8
  refine af rfl ?_;simp only[go_sem,hw];exact⟨bd,(aH.cN [(0,0),(1,1),(2,2)] ⟨by simp[bm,ah,AV.aC,aj,ag,JT,iq,<-b0],by simp[aL,aI,ai,an,aj,AV.aC,ag,ae,-acU,JT,iq,<-b0],rfl,rfl⟩)⟩
 ·have dh:i=l.length:=by omega
  subst dh;have aQ:¬(l.length:Int)<l.length:=by omega
  have acu:nG aE vs l l.length=l.foldl (kW aE) vs:=by unfold nG;rw[ac8 (acV _)]
  rw[acu];unfold JT;refine J λK hK=>?_;simp only[go_sem,aQ,decide_false];apply hK;refine aa λK1 a8=>?_;refine aK ?_;refine ax (S':=JT aE tc X l.length (l.foldl (kW aE) vs) l.length) (aH.cN [(0,0),(1,1),(2,2)] ⟨by simp[bm,ah,AV.aC,aj,ag,JT],by simp[aL,aI,ai,an,aj,AV.aC,ag,ae,-acU,JT],rfl,rfl⟩) ?_;exact aZ hQ
def QM (x:Ins) (v:Int):Ins:={x with loc:=v}
def ew (aE:List UInt8) (x:Ins):Ins:=if x.kind=1\/x.kind=2\/x.kind=4 then QM x (place aE x.loc)else x
def Bm (aE:List UInt8) (tc:List DV) (Iv:DV) (T:DV) (n:Nat) (ds:List DV) (i:Nat) (ls:List Ins) (k:Nat):St:=
 ⟨[(1,.bj tc),(2,.ptr 0 0),(5,.ptr 1 0),(6,.fn 156 [.ptr 1 0]),(46,.d T),(47,aq n),(48,aq i),(10,.sl 3 9 0 ls.length),(54,.sl 3 9 0 ls.length),(55,aq ls.length),(56,aq k)],
  [(0,[.d .cE,.d .cE,.d .cE]),(1,[.d (aR aE),.d Iv,.sl 2 1 0 i]),(2,ds.map .d),(3,(ls.flatMap Ins.cells).map .d)],4⟩
theorem Bn (l:List Ins):(l.flatMap Ins.cells).length=l.length*9:=by
 induction l with
 |nil=>rfl
 |cons a l ih=>rw[adr,adk,ih,ads];show 9+_=_;omega
theorem zj:∀(l:List Ins) (k:Nat),(l.flatMap Ins.cells).drop (k*9)=(l.drop k).flatMap Ins.cells
 |l,0=>by simp
 | [],k+1=>by simp
 |a::l,k+1=>by
  rw[adr,show(k+1)*9=(Ins.cells a).length+k*9 by show _=9+k*9;omega,List.drop_append,List.drop_eq_nil_of_le (by omega),adF,Nat.add_sub_cancel_left,List.drop_succ_cons];exact zj l k
theorem QN {l:List Ins} {k:Nat} (hk:k<l.length):∃rest,((l.flatMap Ins.cells).map AV.d).drop (k*9)=(Ins.cells l[k]).map AV.d++rest:=by
 rw[<-List.map_drop,zj,List.drop_eq_getElem_cons hk,adr,adC];exact⟨_,rfl⟩
theorem LZ {l:List Ins} {k:Nat} (hk:k<l.length) (v:Int):((l.flatMap Ins.cells).map AV.d).set (k*9+2) (aq v)=((l.set k (QM l[k] v)).flatMap Ins.cells).map AV.d:=by
 induction l generalizing k with
 |nil=>simp at hk
 |cons a l ih=>
  cases k with
  |zero=>rfl
  |succ k=>
   have VQ:k<l.length:=by simpa using hk
   simp only[List.getElem_cons_succ];rw[List.set_cons_succ,adr,adr,adC,adC,List.set_append_right _ _ (by simp[Ins.cells];omega)]
   congr 1
   rw[<-ih VQ]
   congr 1
   simp[Ins.cells];omega
def jF (aE:List UInt8) (l:List Ins) (k:Nat):List Ins:=(l.take k).map (ew aE)++l.drop k
theorem Bo (aE:List UInt8) (l:List Ins) (k:Nat):(jF aE l k).length=l.length:=by unfold jF;simp;omega
theorem zk (aE:List UInt8) {l:List Ins} {k:Nat} (hk:k<l.length):(jF aE l k)[k]'(by rw[Bo];exact hk)=l[k]:=by
 unfold jF;rw[List.getElem_append_right (by simp;omega)];simp[Nat.min_eq_left (Nat.le_of_lt hk)]
theorem Ih (aE:List UInt8) {l:List Ins} {k:Nat} (hk:k<l.length):jF aE l (k+1)=(jF aE l k).set k (ew aE l[k]):=by
 unfold jF;rw[adG,ac6 hk,adC,List.drop_eq_getElem_cons hk,List.set_append_right _ _ (by simp;omega)];simp only[acY,List.length_take,Nat.min_eq_left (Nat.le_of_lt hk),Nat.sub_self,List.set_cons_zero,Option.toList_some,ade,adu,List.append_assoc,List.singleton_append]
theorem L0 {aE:List UInt8} (hb:aE.length<=26) {l:List Ins} (fw:l.length<=1000000) (tc:List DV) (Iv T:DV) (n i:Nat) {ds:List DV} (DB:ds.length=i)
 (hl:∀x∈l,x.kind=1\/x.kind=2\/x.kind=4->0<=x.loc/\x.loc<256) {Q:Exit->St->Prop}
 (hQ:Q (.exit 4) (Bm aE tc Iv T n ds i (l.map (ew aE)) l.length)):
 fN aM (aw []) 91 (.loop Hk) (Bm aE tc Iv T n ds i (jF aE l 0) 0) Q:=by
 refine bM (λk=>Bm aE tc Iv T n ds i (jF aE l k) k) l.length ?_;intro k hk;unfold Hk;have wc:=Bo aE l k;by_cases bd:k<l.length
 ·have aQ:(k:Int)<l.length:=by omega
  have hw:=c8 (i:=k) (by omega);have b0:=Ih aE bd;obtain⟨rest,Sb⟩:=QN (l:=jF aE l k) (k:=k) (by rw[wc];exact bd);have gy:=LZ (l:=jF aE l k) (k:=k) (by rw[wc];exact bd);rw[zk aE bd]at Sb;rw[zk aE bd]at gy;have Mo:=hl _ (adt bd);have V6:ew aE l[k]=l[k]->(jF aE l k).set k (ew aE l[k])=jF aE l k:=λe=>by
   rw[e];conv=>lhs;rw[<-zk aE bd]
   exact List.set_getElem_self _
  generalize l[k]=x at Sb b0 gy Mo V6;generalize jF aE l k=u at*;have Mp:((u.flatMap Ins.cells).map AV.d).length=l.length*9:=by rw[acY,Bn,wc]
  have Mq:k*9+2+1<=l.length*9:=by omega
  have kp:=λh=>Ag (aE:=aE) (by omega) (x:=x.loc) (Mo h).1 (Mo h).2 Iv i ds;unfold Bm;rw[wc];refine J λK hK=>?_;simp only[go_sem,aQ,decide_true];apply hK;refine aa λK1 a8=>?_;refine aN ?_;apply au;apply a8;refine aa λK1 a8=>?_;apply aA;refine J λK hK=>?_;simp only[go_sem,acX,aQ,acW,ac2,Sb,Ins.cells];apply hK;by_cases h1:x.kind=1
  ·refine J λK hK=>?_;simp only[go_sem,eq_true h1,decide_true];apply hK;refine aN ?_;refine af rfl ?_;simp only[go_sem];refine⟨rfl,?_⟩;refine bt [(0,1),(1,2)] [aq x.loc,.ptr 0 0] [(0,[.d (aR aE),.d Iv,.sl 1 1 0 i]),(1,ds.map .d)] (nb:=1000) (kp (.inl h1)) (by simp[bC]) (by first|(simp[aj,AV.aC,ag];done)|simp[aj,AV.aC,ag,acX,aQ,acW,ac2,Mp,Mq,gy]) (by first|(simp[bF,bE,ag];done)|simp[bF,bE,ag,acX,aQ,acW,ac2,Mp,Mq,gy]) (by simp[handed,ag,ai,an,aB,aj,AV.aC,bF,bE,acX,aQ,acW,ac2,Mp,Mq,gy]) rfl ?_;rintro r0 m' ⟨rfl,rfl⟩
   simp only[go_sem,bn,bL,bN,ai,an,aB,bX,ag,aj,bG,AV.aC,adj,adb,adg,adi,adm,ac5,acX,aQ,acW,ac2,Mp,Mq,gy];apply a8;refine af rfl ?_;simp only[go_sem,hw];exact⟨bd,(aH.cN [(0,0),(1,1),(2,2),(3,3)] ⟨by simp[bm,ah,AV.aC,aj,ag,Bm,b0,ew,h1,true_or,if_true,List.length_set,wc],by simp[aL,aI,ai,an,aj,AV.aC,ag,ae,-acU,Bm,b0,ew,h1,true_or,if_true,List.length_set,wc],rfl,rfl⟩)⟩
  ·by_cases h2:x.kind=2
   ·refine J λK hK=>?_;simp only[go_sem,eq_false h1,eq_true h2,decide_true,decide_false];apply hK;refine aN ?_;refine af rfl ?_;simp only[go_sem];refine⟨rfl,?_⟩;refine bt [(0,1),(1,2)] [aq x.loc,.ptr 0 0] [(0,[.d (aR aE),.d Iv,.sl 1 1 0 i]),(1,ds.map .d)] (nb:=1000) (kp (.inr (.inl h2))) (by simp[bC]) (by first|(simp[aj,AV.aC,ag];done)|simp[aj,AV.aC,ag,acX,aQ,acW,ac2,Mp,Mq,gy]) (by first|(simp[bF,bE,ag];done)|simp[bF,bE,ag,acX,aQ,acW,ac2,Mp,Mq,gy]) (by simp[handed,ag,ai,an,aB,aj,AV.aC,bF,bE,acX,aQ,acW,ac2,Mp,Mq,gy]) rfl ?_;rintro r0 m' ⟨rfl,rfl⟩
    simp only[go_sem,bn,bL,bN,ai,an,aB,bX,ag,aj,bG,AV.aC,adj,adb,adg,adi,adm,ac5,acX,aQ,acW,ac2,Mp,Mq,gy];apply a8;refine af rfl ?_;simp only[go_sem,hw];exact⟨bd,(aH.cN [(0,0),(1,1),(2,2),(3,3)] ⟨by simp[bm,ah,AV.aC,aj,ag,Bm,b0,ew,h2,true_or,or_true,if_true,List.length_set,wc],by simp[aL,aI,ai,an,aj,AV.aC,ag,ae,-acU,Bm,b0,ew,h2,true_or,or_true,if_true,List.length_set,wc],rfl,rfl⟩)⟩
   ·by_cases h4:x.kind=4
    ·refine J λK hK=>?_;simp only[go_sem,eq_false h1,eq_false h2,eq_true h4,decide_true,decide_false];apply hK;refine aN ?_;refine af rfl ?_;simp only[go_sem];refine⟨rfl,?_⟩;refine bt [(0,1),(1,2)] [aq x.loc,.ptr 0 0] [(0,[.d (aR aE),.d Iv,.sl 1 1 0 i]),(1,ds.map .d)] (nb:=1000) (kp (.inr (.inr h4))) (by simp[bC]) (by first|(simp[aj,AV.aC,ag];done)|simp[aj,AV.aC,ag,acX,aQ,acW,ac2,Mp,Mq,gy]) (by first|(simp[bF,bE,ag];done)|simp[bF,bE,ag,acX,aQ,acW,ac2,Mp,Mq,gy]) (by simp[handed,ag,ai,an,aB,aj,AV.aC,bF,bE,acX,aQ,acW,ac2,Mp,Mq,gy]) rfl ?_;rintro r0 m' ⟨rfl,rfl⟩
     simp only[go_sem,bn,bL,bN,ai,an,aB,bX,ag,aj,bG,AV.aC,adj,adb,adg,adi,adm,ac5,acX,aQ,acW,ac2,Mp,Mq,gy];apply a8;refine af rfl ?_;simp only[go_sem,hw];exact⟨bd,(aH.cN [(0,0),(1,1),(2,2),(3,3)] ⟨by simp[bm,ah,AV.aC,aj,ag,Bm,b0,ew,h4,true_or,or_true,if_true,List.length_set,wc],by simp[aL,aI,ai,an,aj,AV.aC,ag,ae,-acU,Bm,b0,ew,h4,true_or,or_true,if_true,List.length_set,wc],rfl,rfl⟩)⟩
    ·refine J λK hK=>?_;simp only[go_sem,eq_false h1,eq_false h2,eq_false h4,decide_true,decide_false];apply hK;refine aK ?_;have e:ew aE x=x:=by unfold ew;rw[if_neg (by rintro(h|h|h)<;>contradiction)]
     rw[V6 e]at b0;apply au;simp only[go_sem];apply a8;refine af rfl ?_;simp only[go_sem,hw];exact⟨bd,(aH.cN [(0,0),(1,1),(2,2),(3,3)] ⟨by simp[bm,ah,AV.aC,aj,ag,Bm,b0,wc],by simp[aL,aI,ai,an,aj,AV.aC,ag,ae,-acU,Bm,b0,wc],rfl,rfl⟩)⟩
 ·have dh:k=l.length:=by omega
  subst dh;have aQ:¬(l.length:Int)<l.length:=by omega
  have e:jF aE l l.length=l.map (ew aE):=by unfold jF;simp
  rw[e];unfold Bm;rw[acY];refine J λK hK=>?_;simp only[go_sem,aQ,decide_false];apply hK;refine aa λK1 a8=>?_;refine aK ?_;refine ax (S':=Bm aE tc Iv T n ds i (l.map (ew aE)) l.length) (aH.cN [(0,0),(1,1),(2,2),(3,3)] ⟨by simp[bm,ah,AV.aC,aj,ag,Bm],by simp[aL,aI,ai,an,aj,AV.aC,ag,ae,-acU,Bm],rfl,rfl⟩) ?_;exact aZ hQ
theorem Ii (l:List Ins):(l.flatMap Ins.cells).take (l.length*9)=l.flatMap Ins.cells:=ac8 (by rw[Bn];exact acV _)
def Mr (aE:List UInt8) (tc:List DV) (Iv T:DV) (n:Nat) (ds:List DV) (i:Nat):St:=
 ⟨[(1,.bj tc),(2,.ptr 0 0),(5,.ptr 1 0),(6,.fn 156 [.ptr 1 0]),(46,.d T),(47,aq n),(48,aq i)],
  [(0,[.d .cE,.d .cE,.d .cE]),(1,[.d (aR aE),.d Iv,.sl 2 1 0 i]),(2,ds.map .d)],3⟩
theorem Ah {aE:List UInt8} (hb:aE.length<=26) {ls:List (List Ins)} {T:DV} (hT:cP Ins.cells ls T) (hn:ls.length<=1000000) (fw:∀l∈ls,l.length<=1000000) (tc:List DV) (Iv:DV)
 (hl:∀l∈ls,∀x∈l,x.kind=1\/x.kind=2\/x.kind=4->0<=x.loc/\x.loc<256) {Q:Exit->St->Prop}
 (hQ:Q (.exit 2) (Mr aE tc Iv T ls.length (lq (ls.map λl=>l.map (ew aE))) ls.length)):
 fN aM (aw []) 91 (.loop Hl) (Mr aE tc Iv T ls.length (lq ((ls.map λl=>l.map (ew aE)).take 0)) 0) Q:=by
 refine bM (λi=>Mr aE tc Iv T ls.length (lq ((ls.map λl=>l.map (ew aE)).take i)) i) ls.length ?_;intro i hi;unfold Hl;by_cases bd:i<ls.length
 ·have aQ:(i:Int)<ls.length:=by omega
  have hw:=c8 (i:=i) (by omega);obtain⟨cs,d,rest,iq,bU,b9,hD⟩:=hT.at i bd;have Mo:=hl _ (adt bd);have hbx:=fw _ (adt bd);have b0:=FG (l:=ls.map λl=>l.map (ew aE)) (i:=i) (by simpa using bd);rw[adl,List.getElem?_map,ac6 bd]at b0;simp only[ady,adE]at b0;generalize ls[i]=l at hD Mo hbx b0;have zz:(lq ((ls.map λl=>l.map (ew aE)).take i)).length=i:=by rw[qE];simp;omega
  generalize lq ((ls.map λl=>l.map (ew aE)).take i)=ds at b0 zz;have kc:=je (P:=aM) (de:=9) (bytes:=72) (el:=82) func158 EI ntmps158 rfl results158 (hD.Yl lg) (by omega);have acv:(i+1)*24<=140737488351232:=by omega
  unfold Mr;refine J λK hK=>?_;simp only[go_sem,aQ,decide_true];apply hK;refine aa λK1 a8=>?_;refine aN ?_;apply au;apply a8;refine aa λK1 a8=>?_;apply aA;refine J λK hK=>?_;simp only[go_sem,iq,acX,aQ,bd,acW,b9,bU,Nat.mul_one];refine hK _ (J λK hK=>?_);simp only[go_sem];refine bt [] [.d d] [] (nb:=1000) (kc) (by simp[bC]) (by first|(simp[aj,AV.aC,ag];done)|simp[aj,AV.aC,ag,aw,adp,adq,ado]) (by first|(simp[bF,bE,ag];done)|simp[bF,bE,ag,aw,adp,adq,ado]) (by simp[handed,ag,ai,an,aB,aj,AV.aC,bF,bE,aw,adp,adq,ado]) rfl ?_;rintro r0 m' ⟨rfl,rfl⟩
  simp only[go_sem,bn,bL,bN,ai,an,aB,bX,ag,aj,bG,AV.aC,adj,adb,adg,adi,adm,ac5,aw,adp,adq,ado];apply hK;refine aa λK2 fx=>?_;refine J λK hK=>?_;simp only[go_sem];apply hK;apply aA;have e0:jF aE l 0=l:=by simp[jF]
  refine ax (S':=Bm aE tc Iv T ls.length ds i (jF aE l 0) 0) (aH.cN [(0,0),(1,1),(2,2),(3,3)] ⟨by simp[bm,ah,AV.aC,aj,ag,Bm,iq,e0],by simp[aL,aI,ai,an,aj,AV.aC,ag,ae,-acU,Bm,iq,e0],rfl,rfl⟩) ?_;refine L0 hb hbx tc Iv T ls.length i zz Mo ?_;show K2 _;apply fx;have JI:(l.map (ew aE)).length=l.length:=acY ..;generalize l.map (ew aE)=l' at b0 JI;unfold Bm;rw[JI];refine af rfl ?_;simp only[go_sem,zz,acv,acY];apply a8;refine af rfl ?_;simp only[go_sem,hw];refine⟨bd,?_⟩;have vP:=Ii l';rw[JI]at vP;have hid:Qn l'=.sl l.length (l'.flatMap Ins.cells):=by unfold Qn;rw[JI]
  rw[hid]at b0;exact aH.jn [(0,0),(1,1),(5,2)] [(3,l'.flatMap Ins.cells)] ⟨by simp[fO,ah,AV.cv,dn,bI,ag],by simp[gd,aI,bI,ai,an,aB,dn,AV.cv,cF,ba,vP,b0,ag,-acU],rfl,rfl,by simp[bD,bI,ai,an,aB,dn,AV.cv,cF,-acU]⟩
 ·have dh:i=ls.length:=by omega
  subst dh;have aQ:¬(ls.length:Int)<ls.length:=by omega
  rw[ac8 (by simp)];unfold Mr;refine J λK hK=>?_;simp only[go_sem,aQ,decide_false];apply hK;refine aa λK1 a8=>?_;refine aK ?_;refine ax (S':=Mr aE tc Iv T ls.length (lq (ls.map λl=>l.map (ew aE))) ls.length) (aH.cN [(0,0),(1,1),(2,2)] ⟨by simp[bm,ah,AV.aC,aj,ag,Mr],by simp[aL,aI,ai,an,aj,AV.aC,ag,ae,-acU,Mr],rfl,rfl⟩) ?_;exact aZ hQ
theorem Ai {l:List Ins} {X:DV} (hX:dM Ins.cells l X):Pure aM 180 [.d X] (.d (.bool (!jA l))):=by
 refine ay func180 NS ntmps180 results180 rfl ?_;unfold Ua;refine J λK hK=>?_;simp-implicitDefEqProofs only[go_sem];refine hK _ (J λK hK=>?_);simp-implicitDefEqProofs only[go_sem];refine aF (yh hX) rfl rfl ?_;simp-implicitDefEqProofs only[go_sem];apply hK;apply ak;simp only[go_sem];refine aD _ rfl rfl ⟨?_,rfl⟩;rfl
def Df (n:Nat) (a:Atom):Bool:=!decide (a.eA=-1)&&decide ((n:Int)<=a.eA)
theorem QO {t:Test} {cs:List DV} (hT:mE t cs) (a:Atom):Pure aM 183 [.agg (a.cells.map .d),.bj cs] (.d (.bool (Df t.threads.length a))):=by
 obtain⟨I,T,A,rfl,hI,zQ,hA⟩:=hT;have Of:=zQ.len;refine ay func183 NU ntmps183 results183 rfl ?_;unfold Uc;refine J λK hK=>?_;simp-implicitDefEqProofs only[go_sem,Atom.cells];apply hK;by_cases h:a.eA=-1
 ·refine J λK hK=>?_;simp-implicitDefEqProofs only[go_sem,h];apply hK;apply ak;simp only[go_sem];refine aD _ rfl rfl ⟨?_,rfl⟩;simp[ah,Df,h]
 ·refine J λK hK=>?_;simp-implicitDefEqProofs only[go_sem,h,Of];apply hK;apply ak;simp only[go_sem];refine aD _ rfl rfl ⟨?_,rfl⟩;simp[ah,Df,h]
def gQ (t:Test):Int:=
 if okB t=false then 1 else if rD t=true then 8 else if uK t.inits=true then 9 else if t.threads.any (λl=>!jA l)=true then 10
 else if t.rows.any (λl=>l.any (Df t.threads.length))=true then 10 else 0
def V7 (cs:List DV) (A:DV) (n j:Nat):St:=⟨[(24,aq j),(22,.d A),(23,aq n),(1,.bj cs),(2,aq 0)],[],0⟩
theorem L1 {t:Test} (h:okB t=true):∀x∈t.inits,97<=x.loc/\x.loc<=122:=by
 intro x hx;simp only[okB,adn,Bool.not_eq_true',nk,List.any_eq_false,Bool.not_eq_true]at h;have:=h.1.1.2 x hx;exact(eM x.loc).1 (by simpa using this)
theorem Ij {t:Test} {cs:List DV} (hT:mE t cs) (hn:t.name.length<=9223372036854775807) (fw:t.threads.length<=1000000):Pure aM 105 [.agg (cs.map .d)] (aq (gQ t)):=by
 have WT:=hT;obtain⟨I,T,A,rfl,hI,zQ,hA⟩:=hT;have Yk:=hA.len;have hAb:=hA.iW;refine ay func105 NC ntmps105 results105 rfl ?_;unfold TV;refine J λK hK=>?_;simp-implicitDefEqProofs only[go_sem];apply hK;refine ax (S':=⟨[(1,.bj [.str t.name,I,T,.int .i64 t.kind,A]),(2,aq 0)],[],0⟩) (aH.jn [] [(0,[.str t.name,I,T,.int .i64 t.kind,A])] ⟨?_,?_,rfl,rfl,?_⟩) ?_;·simp[fO,ah,AV.cv,dn,bI,ag]
 ·simp[gd,aI,bI,ai,dn,AV.cv]
 ·simp[bD,ai,dn,AV.cv]
 refine aa λK1 a8=>?_;apply aA;refine J λK hK=>?_;simp-implicitDefEqProofs only[go_sem];refine aF (R6 WT hn) rfl rfl ?_;simp-implicitDefEqProofs only[go_sem];apply hK;cases h1:okB t
 ·refine aN ?_;refine J λK hK=>?_;simp-implicitDefEqProofs only[go_sem];apply hK;apply ak;simp only[go_sem];refine aD _ rfl rfl ⟨?_,rfl⟩;simp[ah,gQ,h1]
 refine aK ?_;refine J λK hK=>?_;simp-implicitDefEqProofs only[go_sem];refine aF (Og WT fw) rfl rfl ?_;simp-implicitDefEqProofs only[go_sem];apply hK;cases h2:rD t
 case true=>
  refine aN ?_;refine J λK hK=>?_;simp-implicitDefEqProofs only[go_sem];apply hK;apply ak;simp only[go_sem];refine aD _ rfl rfl ⟨?_,rfl⟩;simp[ah,gQ,h1,h2]
 refine aK ?_;refine J λK hK=>?_;simp-implicitDefEqProofs only[go_sem];refine aF (He hI (L1 h1)) rfl rfl ?_;simp-implicitDefEqProofs only[go_sem];apply hK;cases h3:uK t.inits
 case true=>
  refine aN ?_;refine J λK hK=>?_;simp-implicitDefEqProofs only[go_sem];apply hK;apply ak;simp only[go_sem];refine aD _ rfl rfl ⟨?_,rfl⟩;simp[ah,gQ,h1,h2,h3]
 refine aK ?_;refine J λK hK=>?_;simp-implicitDefEqProofs only[go_sem];refine aF (yd rfl rfl zQ (λl=>!jA l) λl _ d hd=>Ai hd) rfl rfl ?_;simp-implicitDefEqProofs only[go_sem];apply hK;cases h4:t.threads.any (λl=>!jA l)
 case true=>
  refine aN ?_;refine J λK hK=>?_;simp-implicitDefEqProofs only[go_sem];apply hK;apply ak;simp only[go_sem];refine aD _ rfl rfl ⟨?_,rfl⟩;simp[ah,gQ,h1,h2,h3,h4]
 refine aK ?_;apply au;simp-implicitDefEqProofs only[go_sem];apply a8;refine aa λK1 a8=>?_;refine aa λK2 fx=>?_;refine af rfl ?_;simp-implicitDefEqProofs only[go_sem,Yk];apply fx;apply aA;refine ax (S':=V7 [.str t.name,I,T,.int .i64 t.kind,A] A t.rows.length 0) (aH.cN [] ⟨by simp[bm,ah,AV.aC,aj,ag,V7],by simp[aL,aI,ai,an,aj,AV.aC,ag,ae,-acU,V7],rfl,rfl⟩) ?_;refine jW (λj=>V7 [.str t.name,I,T,.int .i64 t.kind,A] A t.rows.length j) (λj=>∀l∈t.rows.take j,l.any (Df t.threads.length)=false) t.rows.length (by simp) ?_;intro j hj hp;unfold IK;by_cases bd:j<t.rows.length
 ·have aQ:(j:Int)<t.rows.length:=by omega
  obtain⟨R8,d,rest,qq,WR,WS,hd⟩:=hA.at j bd;have hw:=c8 (i:=j) (by omega);unfold V7;refine J λK hK=>?_;simp-implicitDefEqProofs only[go_sem,aQ];apply hK;refine aa λK2 fx=>?_;refine aN ?_;apply au;apply fx;refine aa λK2 fx=>?_;apply aA;refine J λK hK=>?_;simp-implicitDefEqProofs only[go_sem,qq,aQ,acX,acW,Nat.mul_one,WS,WR];refine hK _ (J λK hK=>?_);simp-implicitDefEqProofs only[go_sem];rw[<-qq];refine aF (Ex (caps:=[.bj [.str t.name,I,T,.int .i64 t.kind,A]]) rfl rfl hd (Df t.threads.length) λa _=>QO WT a) rfl rfl ?_;simp-implicitDefEqProofs only[go_sem];apply hK
  cases h5:t.rows[j].any (Df t.threads.length)
  ·refine aK ?_;apply au;simp-implicitDefEqProofs only[go_sem];apply fx;refine af rfl ?_;simp-implicitDefEqProofs only[go_sem,hw];refine⟨bd,?_,aH.cN [] ⟨by simp[V7,bm,ah,AV.aC,ag],by simp[V7,aL],rfl,rfl⟩⟩;intro l hl;rw[adG,ac6 bd,List.mem_append]at hl;rcases hl with hl|hl;·exact hp l hl
   ·simp only[Option.toList_some,List.mem_singleton]at hl;subst hl;exact h5
  ·refine aN ?_;refine J λK hK=>?_;simp-implicitDefEqProofs only[go_sem];apply hK;apply ak;simp only[go_sem];refine aD _ rfl rfl ⟨?_,rfl⟩;have:t.rows.any (λl=>l.any (Df t.threads.length))=true:=List.any_eq_true.2 ⟨_,adt bd,h5⟩;simp[ah,gQ,h1,h2,h3,h4,this]
 ·have aQ:¬(j:Int)<t.rows.length:=by omega
  have dh:j=t.rows.length:=by omega
  subst dh;rw[ac8 (acV _)]at hp;unfold V7;refine J λK hK=>?_;simp-implicitDefEqProofs only[go_sem,aQ];apply hK;refine aa λK2 fx=>?_;refine aK ?_;apply aZ;simp-implicitDefEqProofs only[go_sem];refine a8 _ (J λK hK=>?_);simp-implicitDefEqProofs only[go_sem];apply hK;apply ak;simp only[go_sem];refine aD _ rfl rfl ⟨?_,rfl⟩;have:t.rows.any (λl=>l.any (Df t.threads.length))=false:=by
   rw[List.any_eq_false];intro l hl;rw[hp l hl];decide
  simp[ah,gQ,h1,h2,h3,h4,this]
def dE (t:Test):Prog:=⟨df t,t.inits.foldl (kW (df t)) (ada (df t).length 0),t.threads.map λl=>l.map (ew (df t))⟩
structure Ik (t:Test):Prop where
 aE:(df t).length<=26
 inits:∀x∈t.inits,0<=x.loc/\x.loc<256/\0<=place (df t) x.loc/\place (df t) x.loc<(df t).length
 threads:t.threads.length<=1000000
 len:∀l∈t.threads,l.length<=1000000
 ins:∀l∈t.threads,∀x∈l,x.kind=1\/x.kind=2\/x.kind=4->0<=x.loc/\x.loc<256
theorem acw (n:Nat):((ac7 n).map λi=>[aq 0].getD (i%1) .any)=(lp (ada n 0)).map AV.d:=by
 unfold lp;rw[List.map_replicate,List.map_replicate,List.eq_replicate_iff];refine⟨by simp,λb hb=>?_⟩;obtain⟨i,_,rfl⟩:=List.mem_map.1 hb;rw[Nat.mod_one];rfl
theorem Dg {t:Test} {cs:List DV} (hT:mE t cs) (hn:t.name.length<=9223372036854775807) (fw:t.threads.length<=1000000) (hc:gQ t=0) (ho:Ik t):
 Pure aM 98 [.agg (cs.map .d)] (.cu [.agg [.d (aR (dE t).aE),.d (.sl (dE t).init.length (lp (dE t).init)),.d (.sl (dE t).threads.length (lq (dE t).threads))],aq 0]):=by
 have kc:=Ij hT hn fw;have kl:=rf hT;rw[hc]at kc;obtain⟨aaE,dh,Gx,hlen,acx⟩:=ho;have F6:(dE t).aE=df t:=rfl;have aaF:(dE t).init=t.inits.foldl (kW (df t)) (ada (df t).length 0):=rfl;have XF:(dE t).threads=t.threads.map λl=>l.map (ew (df t)):=rfl;rw[F6,aaF,XF];generalize df t=aE at*;obtain⟨I,T,A,rfl,hI,zQ,hA⟩:=hT;have XG:o4 aM 39=some (some 3):=by kernel_rfl
 simp only[ade,adu]at kc kl;have hll:ir (.d (aR aE))=some aE.length:=rfl;have Xp:=hI.len;have zT:(aE.length:Int)<=9223372036854775807:=by omega
 have hby:8*(aE.length:Int)<=140737488351232:=by omega
 refine ay func98 Sm ntmps98 results98 rfl ?_;unfold Z8;refine J λK hK=>?_;simp only[go_sem];apply hK;refine aa λK1 a8=>?_;refine J λK hK=>?_;simp only[go_sem,aP];refine aY (kc) ?_;simp only[go_sem];refine hK _ (J λK hK=>?_);simp only[go_sem,decide_true,Bool.not_true];apply hK;refine aK ?_;apply au;refine a8 _ (J λK hK=>?_);simp only[go_sem,aP];refine aY (kl) ?_;simp only[go_sem];refine hK _ (J λK hK=>?_);simp only[go_sem,hll,acX,acW,Int.le_refl,zT,hby];apply hK;rw[acw];have Of:=zQ.len;refine J λK hK=>?_;simp only[go_sem];apply hK
 refine ax (aH.jn (S':=⟨[(1,.bj [.str t.name,I,T,.int .i64 t.kind,A]),(2,.ptr 0 0),(5,.ptr 1 0),(6,.fn 156 [.ptr 1 0])],[(0,[.d .cE,.d .cE,.d .cE]),(1,[.d (aR aE),.sl 2 1 0 aE.length,.d .cE]),(2,(lp (ada aE.length 0)).map .d)],3⟩) [(1,0),(2,1),(3,2)] [(0,[.str t.name,I,T,.int .i64 t.kind,A])] ⟨by simp[fO,ah,AV.cv,dn,bI,ag],by simp[gd,aI,bI,ai,an,aB,dn,AV.cv,ag,cF,ba,-acU],rfl,rfl,by simp[bD,bI,ai,an,aB,dn,AV.cv,cF,ba,-acU]⟩) ?_;refine aa λKE fK=>?_;refine J λK hK=>?_;simp only[go_sem,Xp];apply hK;apply aA
 refine ax (S':=JT aE [.str t.name,I,T,.int .i64 t.kind,A] I t.inits.length (nG aE (ada aE.length 0) t.inits 0) 0) (aH.cN [(0,0),(1,1),(2,2)] ⟨by simp[bm,ah,AV.aC,aj,ag,JT,nG],by simp[aL,aI,ai,an,aj,AV.aC,ag,ae,-acU,JT,nG],rfl,rfl⟩) ?_;refine F5 aaE hI _ dh (by simp) ?_;show KE _;apply fK;have r9:(t.inits.foldl (kW aE) (ada aE.length 0)).length=aE.length:=by rw[mw];simp
 generalize t.inits.foldl (kW aE) (ada aE.length 0)=vs at r9;have vP:=JL vs;have XH:(lp vs).take aE.length=lp vs:=by rw[<-r9];exact vP
 refine aa λK2 fx=>?_;unfold JT;refine J λK hK=>?_;simp only[go_sem,Of];apply hK;apply aA;refine ax (aH.jn (S':=⟨[(1,.bj [.str t.name,I,T,.int .i64 t.kind,A]),(2,.ptr 0 0),(5,.ptr 1 0),(6,.fn 156 [.ptr 1 0]),(46,.d T),(47,aq t.threads.length),(48,aq 0)],[(0,[.d .cE,.d .cE,.d .cE]),(1,[.d (aR aE),.d (.sl vs.length (lp vs)),.d .cE])],2⟩) [(0,0),(1,1)] [(2,lp vs)] ⟨by simp[fO,ah,AV.cv,dn,bI,ag,XH,r9],by simp[gd,aI,bI,ai,an,aB,dn,AV.cv,ag,cF,ba,-acU,XH,r9],rfl,rfl,by simp[bD,bI,ai,an,aB,dn,AV.cv,cF,ba,-acU,XH,r9]⟩) ?_;refine ax (aH.qo 1 2 1 rfl rfl rfl rfl) ?_
 refine ax (S':=Mr aE [.str t.name,I,T,.int .i64 t.kind,A] (.sl vs.length (lp vs)) T t.threads.length (lq ((t.threads.map λl=>l.map (ew aE)).take 0)) 0) (aH.cN [(0,0),(1,1),(2,2)] ⟨by simp[bm,ah,AV.aC,aj,ag,Mr,lq],by simp[aL,aI,ai,an,aj,AV.aC,ag,ae,-acU,Mr,lq],rfl,rfl⟩) ?_;refine Ah aaE zQ Gx hlen _ _ acx ?_;show K2 _;apply fx;have zz:(lq (t.threads.map λl=>l.map (ew aE))).length=t.threads.length:=by rw[qE,acY]
 have Tj:(lq (t.threads.map λl=>l.map (ew aE))).take t.threads.length=lq (t.threads.map λl=>l.map (ew aE)):=ac8 (by omega);rw[acY];generalize lq (t.threads.map λl=>l.map (ew aE))=ds at zz Tj;unfold Mr;refine ax (aH.jn (S':=⟨[(2,.ptr 0 0),(5,.ptr 1 0)],[(0,[.d .cE,.d .cE,.d .cE]),(1,[.d (aR aE),.d (.sl vs.length (lp vs)),.d (.sl t.threads.length ds)])],2⟩) [(0,0),(1,1)] [(2,ds)] ⟨by simp[fO,ah,AV.cv,dn,bI,ag,Tj],by simp[gd,aI,bI,ai,an,aB,dn,AV.cv,ag,cF,ba,-acU,Tj],rfl,rfl,by simp[bD,bI,ai,an,aB,dn,AV.cv,cF,ba,-acU,Tj]⟩) ?_;refine J λK hK=>?_;simp only[go_sem,aP];apply hK;apply ak
 exact⟨.cu [.agg [.d (aR aE),.d (.sl vs.length (lp vs)),.d (.sl t.threads.length ds)],aq 0],by simp[bB,aV,bK,ah,ai,an,aB,XG,aP],[],[],rfl,rfl,by simp[aL,aI,ai,an,aB,aj,AV.aC,ag,ae,-acU,XG,aP],by simp[AV.aC,aj,ag,XG,aP]⟩
def zl (code at_:Int):List DV:=[.int .i64 code,.int .i64 at_,.bool false,.cE,.cE,.cE,.cE,.int .i64 0,.int .i64 0,.cE,.int .i64 0,.int .i64 0]
def oY (r:Rep):DV:=if r.done then .sl r.QC.length (cm r.QC)else .cE
def qU (p:Prog) (r:Rep):List DV:=[.int .i64 0,.int .i64 0,.bool r.done,aR p.aE,.sl p.init.length (lp p.init),.sl p.threads.length (lq p.threads),oY r,.int .i64 r.verdict,.int .i64 r.H7,mM r.witness,.int .i64 r.runs,.int .i64 r.blocked]
def z12:List AV:=(zl 0 0).map .d
def JU (m:Int) (tc pc fc:List DV) (s1:Int) (W:DV) (R:List AV) (X:DV) (n:Nat) (es:List (List Int)) (i:Nat):St:=
 ⟨[(1,aq m),(3,.bj tc),(6,.ptr 0 0),(7,.bj pc),(9,.ptr 1 0),(10,.bj fc),(11,aq s1),(12,.d W),(13,.sl 2 20 0 i),(54,.d X),(55,aq n),(56,aq i)],[(0,z12),(1,R),(2,cn es)],3⟩
theorem L2 {p:Prog} {I T:DV} (hI:fJ p.init I) (hT:cP Ins.cells p.threads T) (h:zA p) {m:Int} (um:1<=m) (uo:m<=3) {runs:List (List Int)} (nH:runs.length<=2000001) (uq:∀r∈runs,r.length<=2000000) (tc fc:List DV) (s1:Int) (W:DV) {Rd:List DV} {Q:Exit->St->Prop}
 (hQ:Q (.exit 1) (JU m tc [aR p.aE,I,T] fc s1 W (Rd.map .d) (.sl runs.length (cC runs)) runs.length (dj p m runs) runs.length)):
 fN aM (aw []) 95 (.loop Hh) (JU m tc [aR p.aE,I,T] fc s1 W (Rd.map .d) (.sl runs.length (cC runs)) runs.length (dj p m (runs.take 0)) 0) Q:=by
 have VP:(cC runs).length=runs.length:=nC ..;refine bM (λi=>JU m tc [aR p.aE,I,T] fc s1 W (Rd.map .d) (.sl runs.length (cC runs)) runs.length (dj p m (runs.take i)) i) runs.length ?_;intro i hi;unfold Hh;have Tk:∀π,aj π z12=z12:=λπ=>bG ..;by_cases bd:i<runs.length
 ·have aQ:(i:Int)<runs.length:=by omega
  have hw:=c8 (i:=i) (by omega);obtain⟨rest,bU⟩:=zf bd;have hr:=uq _ (adt bd);have kp:=lX hI hT h um uo (Dd (r:=runs[i]) (by omega)) (by omega);rw[Db]at kp;have b0:=ze (p:=p) (m:=m) bd;have hx:=Dc p m runs[i];have nO:(dj p m (runs.take i)).length=i:=by rw[nF,List.length_take];omega
  have jf:=p6 p m (runs.take i);generalize runs[i]=row at bU kp b0 hx;generalize (iQ p m row).getD il=x at kp b0 hx;generalize (iQ p m row).isSome=b at kp;generalize dj p m (runs.take i)=es at b0 nO jf;have hec:(cn es).length=i*20:=by rw[dQ jf,nO]
  have ya:=eu hx;have ep:=pY x;have QE:=oI x hx;have qL:(bR il).length=20:=rfl;have LH:=ln (f:=il) (n:=3) (by decide);have QF:(i+1)*160<=140737488351232:=by omega
  have vM:aP (some 20) (cY x)=some (.agg (cY x)):=by rw[ej,ya,if_pos (acV _),ac8 (by omega)]
  have F1:(cY x).take 20=cY x:=ac8 (by omega);unfold JU;refine J λK hK=>?_;simp only[go_sem,aQ,decide_true];apply hK;refine aa λK1 a8=>?_;refine aN ?_;apply au;apply a8;refine aa λK1 a8=>?_;apply aA;refine J λK hK=>?_;simp only[go_sem,acX,aQ,bd,acW,bU,VP,Nat.mul_one];refine hK _ (J λK hK=>?_);simp only[go_sem,aP];refine aY (kp) ?_;simp only[go_sem,nx,jB,LH,acY,qL,ya,ep,QE,ac2,acV];apply hK;refine af rfl ?_;simp only[go_sem,vM,F1,nx,jB,acY,qL,ya,ep,QE,ac2,acV,hec,QF];apply a8;refine af rfl ?_;simp only[go_sem,hw]
  exact⟨bd,(aH.cN [(0,0),(1,1),(5,2)] ⟨by simp[bm,ah,AV.aC,aj,ag,JU,b0,oH,cg,pX,Tk],by simp[aL,aI,ai,an,aj,AV.aC,ag,ae,-acU,JU,b0,oH,cg,pX,Tk],rfl,rfl⟩)⟩
 ·have dh:i=runs.length:=by omega
  subst dh;have aQ:¬(runs.length:Int)<runs.length:=by omega
  rw[ac8 (acV _)];unfold JU;refine J λK hK=>?_;simp only[go_sem,aQ,decide_false];apply hK;refine aa λK1 a8=>?_;refine aK ?_;refine ax (S':=JU m tc [aR p.aE,I,T] fc s1 W (Rd.map .d) (.sl runs.length (cC runs)) runs.length (dj p m runs) runs.length) (aH.cN [(0,0),(1,1),(2,2)] ⟨by simp[bm,ah,AV.aC,aj,ag,JU,cg,Tk],by simp[aL,aI,ai,an,aj,AV.aC,ag,ae,-acU,JU,cg,Tk],rfl,rfl⟩) ?_;exact aZ hQ
theorem Bp {p:Prog} (h:zA p):fJ p.init (.sl p.init.length (lp p.init))/\cP Ins.cells p.threads (.sl p.threads.length (lq p.threads)):=by
 refine⟨⟨?_,.inr ?_⟩,yZ h⟩
 ·rw[acY];have:=h.ini;have:=h.lc;omega
 ·rw[CT,acY]
theorem Tl {t:Test} {cs:List DV} (hT:mE t cs) (hn:t.name.length<=9223372036854775807) (fw:t.threads.length<=1000000) {m:Int} (aO:Int) (hc:gQ t=0) (ho:Ik t) (hP:zA (dE t)) (um:1<=m) (uo:m<=3):
 Pure aM 43 [.agg (cs.map .d),aq m,aq aO] (.agg ((qU (dE t) (tD (dE t) t.kind t.rows m aO)).map .d)):=by
 have kc:=Dg hT hn fw hc ho;obtain⟨hI,zQ⟩:=Bp hP;have ke:=oB hI zQ hP um uo aO;have P0:=λf (h:explore (dE t) m aO=some f)=>j6 h;have ks:=zi hI zQ hP um uo P0 aO;obtain⟨I,T,A,rfl,hI',acS,hA⟩:=hT;have Dh:o4 aM 65=some (some 12):=by kernel_rfl
 generalize dE t=p at*;have aaG:tD p t.kind t.rows m aO=(match explore p m aO with
  |none=>wQ
  |some f=>if(kP p m (some f) aO).1=0 then wQ else⟨true,ft (dj p m f.runs),l0 p t.kind t.rows (ft (dj p m f.runs)),(kP p m (some f) aO).1,(kP p m (some f) aO).2,f.runs.length,f.blocked⟩):=rfl
 rw[aaG];clear aaG;generalize explore p m aO=res at*;have m1:¬m<1:=by omega
 have m3:¬3<m:=by omega
 simp only[ade,adu]at kc;cases res with
 |none=>
  have Gp:kP p m none aO=(0,none):=rfl;rw[Gp]at ks;simp only[mN,ik,ade,adu,mM]at ks ke;refine ay func43 Cb ntmps43 results43 rfl ?_;unfold Sg;refine J λK hK=>?_;simp only[go_sem];refine hK _ (J λK hK=>?_);simp only[go_sem,aP];refine aY (kc) ?_;simp only[go_sem];apply hK;refine aa λKE fK=>?_;apply aA;refine J λK hK=>?_;simp only[go_sem,decide_true,Bool.not_true];apply hK;refine aK ?_;refine J λK hK=>?_;simp only[go_sem,eq_false m1,eq_false m3,decide_false];apply hK;refine aK ?_;apply au;show KE _;refine fK _ (J λK hK=>?_);simp only[go_sem,aP];refine hK _ (J λK hK=>?_);simp only[go_sem,aP]
  refine aY (ke) ?_;simp only[go_sem];refine hK _ (J λK hK=>?_);simp only[go_sem,aP];refine aY (ks) ?_;simp only[go_sem];apply hK;refine aa λK1 a8=>?_;refine J λK hK=>?_;simp only[go_sem];apply hK;refine aN ?_;refine J λK hK=>?_;simp only[go_sem,aP];apply hK;apply ak;exact⟨.agg ((qU p wQ).map .d),by simp[bB,aV,bK,ah,ai,an,aB,Dh,aP,qU,wQ,oY,mM],[],[],rfl,rfl,by simp[aL,aI,ai,an,aB,aj,AV.aC,ag,ae,-acU,Dh,aP,qU,wQ,oY,mM],by simp[AV.aC,aj,ag,Dh,aP,qU,wQ,oY,mM]⟩
 |some f=>
  obtain⟨nH,uq⟩:=P0 f rfl;simp only;generalize kP p m (some f) aO=s at ks⊢;obtain⟨s1,s2⟩:=s;simp only[mN,ik,ade,adu]at ks ke⊢;by_cases hs:s1=0
  ·subst hs;rw[if_pos rfl];refine ay func43 Cb ntmps43 results43 rfl ?_;unfold Sg;refine J λK hK=>?_;simp only[go_sem];refine hK _ (J λK hK=>?_);simp only[go_sem,aP];refine aY (kc) ?_;simp only[go_sem];apply hK;refine aa λKE fK=>?_;apply aA;refine J λK hK=>?_;simp only[go_sem,decide_true,Bool.not_true];apply hK;refine aK ?_;refine J λK hK=>?_;simp only[go_sem,eq_false m1,eq_false m3,decide_false];apply hK;refine aK ?_;apply au;show KE _;refine fK _ (J λK hK=>?_);simp only[go_sem,aP];refine hK _ (J λK hK=>?_);simp only[go_sem,aP];refine aY (ke) ?_;simp only[go_sem];refine hK _ (J λK hK=>?_)
   simp only[go_sem,aP];refine aY (ks) ?_;simp only[go_sem];apply hK;refine aa λK1 a8=>?_;refine J λK hK=>?_;simp only[go_sem];apply hK;refine aN ?_;refine J λK hK=>?_;simp only[go_sem,aP];apply hK;apply ak;exact⟨.agg ((qU p wQ).map .d),by simp[bB,aV,bK,ah,ai,an,aB,Dh,aP,qU,wQ,oY,mM],[],[],rfl,rfl,by simp[aL,aI,ai,an,aB,aj,AV.aC,ag,ae,-acU,Dh,aP,qU,wQ,oY,mM],by simp[AV.aC,aj,ag,Dh,aP,qU,wQ,oY,mM]⟩
  ·rw[if_neg hs];refine ay func43 Cb ntmps43 results43 rfl ?_;unfold Sg;refine J λK hK=>?_;simp only[go_sem];refine hK _ (J λK hK=>?_);simp only[go_sem,aP];refine aY (kc) ?_;simp only[go_sem];apply hK;refine aa λKE fK=>?_;apply aA;refine J λK hK=>?_;simp only[go_sem,decide_true,Bool.not_true];apply hK;refine aK ?_;refine J λK hK=>?_;simp only[go_sem,eq_false m1,eq_false m3,decide_false];apply hK;refine aK ?_;apply au;show KE _;refine fK _ (J λK hK=>?_);simp only[go_sem,aP];refine hK _ (J λK hK=>?_);simp only[go_sem,aP];refine aY (ke) ?_;simp only[go_sem];refine hK _ (J λK hK=>?_)
   simp only[go_sem,aP];refine aY (ks) ?_;simp only[go_sem];apply hK;refine aa λK1 a8=>?_;refine J λK hK=>?_;simp only[go_sem,eq_false hs,decide_false];apply hK;refine aK ?_;apply au;refine a8 _ (J λK hK=>?_);simp only[go_sem];apply hK;refine aa λKE fK=>?_;refine J λK hK=>?_;simp only[go_sem];apply hK;apply aA;have jf:=p6 p m f.runs;have nO:=nF p m f.runs
   refine ax (aH.jn (S':=⟨[(1,aq m),(3,.bj [.str t.name,I,T,.int .i64 t.kind,A]),(6,.ptr 0 0),(7,.bj [aR p.aE,.sl p.init.length (lp p.init),.sl p.threads.length (lq p.threads)]),(9,.ptr 1 0),(10,.bj [.sl f.runs.length (cC f.runs),.int .i64 f.blocked,.int .i64 f.aS,.bool true]),(11,aq s1),(12,.d (mM s2)),(13,.d .cE),(54,.d (.sl f.runs.length (cC f.runs))),(55,aq f.runs.length),(56,aq (0:Nat))],[(0,z12),(1,([.int .i64 0,.int .i64 0,.bool false,aR p.aE,.sl p.init.length (lp p.init),.sl p.threads.length (lq p.threads),.cE,.int .i64 0,.int .i64 0,.cE,.int .i64 0,.int .i64 0]:List DV).map .d)],2⟩) [(1,0),(3,1)] [(0,[.str t.name,I,T,.int .i64 t.kind,A]),(2,[aR p.aE,.sl p.init.length (lp p.init),.sl p.threads.length (lq p.threads)]),(4,[.sl f.runs.length (cC f.runs),.int .i64 f.blocked,.int .i64 f.aS,.bool true])] ⟨by simp[fO,ah,AV.cv,dn,bI,ag,z12,zl],by simp[gd,aI,bI,ai,an,aB,dn,AV.cv,ag,cF,ba,-acU,z12,zl],rfl,rfl,by simp[bD,bI,ai,an,aB,dn,AV.cv,cF,ba,-acU,z12,zl]⟩) ?_
   refine ax (aH.nil 13 20 rfl rfl) ?_
   refine ax (S':=JU m [.str t.name,I,T,.int .i64 t.kind,A] [aR p.aE,.sl p.init.length (lp p.init),.sl p.threads.length (lq p.threads)] [.sl f.runs.length (cC f.runs),.int .i64 f.blocked,.int .i64 f.aS,.bool true] s1 (mM s2) (([.int .i64 0,.int .i64 0,.bool false,aR p.aE,.sl p.init.length (lp p.init),.sl p.threads.length (lq p.threads),.cE,.int .i64 0,.int .i64 0,.cE,.int .i64 0,.int .i64 0]:List DV).map .d) (.sl f.runs.length (cC f.runs)) f.runs.length (dj p m (f.runs.take 0)) 0) (aH.cN [(0,0),(1,1),(2,2)] ⟨by simp[bm,ah,AV.aC,aj,ag,JU,z12,zl,dj,cn,cm],by simp[aL,aI,ai,an,aj,AV.aC,ag,ae,-acU,JU,z12,zl,dj,cn,cm],rfl,rfl⟩) ?_
   refine L2 hI zQ hP um uo nH uq _ _ s1 _ ?_;show KE _;apply fK;obtain⟨d,hd,hdX⟩:=C1 jf (by omega);have ksr:=p7 hdX (by have:=congrArg List.length hd;simp at this;omega);rw[hd]at ksr;have vP:(cm (dj p m f.runs)).take (f.runs.length*20)=cm (dj p m f.runs):=ac8 (by have:=dQ jf;unfold cn at this;rw[acY]at this;omega);rw[nO]at ksr;have Th:=FY jf;have hFl:=Bj (dj p m f.runs);obtain⟨d2,hd2,acy⟩:=C1 Th (by omega);have kv:=C0 (L:=aR p.aE) (I:=.sl p.init.length (lp p.init)) (T:=.sl p.threads.length (lq p.threads)) (aE:=p.aE) (nt:=p.threads.length) (.inr rfl) rfl hA t.kind acy;rw[FZ,hd2]at kv
   generalize ft (dj p m f.runs)=F at*;generalize dj p m f.runs=es at*;unfold JU cn z12;simp only[zl,ade,adu]
   refine ax (aH.jn (S':=⟨[(1,aq m),(3,.bj [.str t.name,I,T,.int .i64 t.kind,A]),(6,.ptr 0 0),(7,.bj [aR p.aE,.sl p.init.length (lp p.init),.sl p.threads.length (lq p.threads)]),(9,.ptr 1 0),(10,.bj [.sl f.runs.length (cC f.runs),.int .i64 f.blocked,.int .i64 f.aS,.bool true]),(11,aq s1),(12,.d (mM s2)),(13,.d (.sl f.runs.length (cm es)))],[(0,[aq 0,aq 0,.d (.bool false),.d .cE,.d .cE,.d .cE,.d .cE,aq 0,aq 0,.d .cE,aq 0,aq 0]),(1,[aq 0,aq 0,.d (.bool false),.d (aR p.aE),.d (.sl p.init.length (lp p.init)),.d (.sl p.threads.length (lq p.threads)),.d .cE,aq 0,aq 0,.d .cE,aq 0,aq 0])],2⟩) [(0,0),(1,1)] [(2,cm es)] ⟨by simp[fO,ah,AV.cv,dn,bI,ag,vP],by simp[gd,aI,bI,ai,an,aB,dn,AV.cv,ag,cF,ba,-acU,vP],rfl,rfl,by simp[bD,bI,ai,an,aB,dn,AV.cv,cF,ba,-acU,vP]⟩) ?_
   refine J λK hK=>?_;simp only[go_sem];refine aY (ksr) ?_;simp only[go_sem];refine hK _ (J λK hK=>?_);simp only[go_sem,aP];refine aY (kv) ?_;simp only[go_sem];refine hK _ (J λK hK=>?_);simp only[go_sem];apply hK;refine aa λK hK=>az rfl rfl ?_;simp only[go_sem];refine⟨rfl,hK _ ?_⟩;refine J λK hK=>?_;simp only[go_sem,aP];apply hK;apply ak;exact⟨.agg ((qU p ⟨true,F,l0 p t.kind t.rows F,s1,s2,f.runs.length,f.blocked⟩).map .d),by simp[bB,aV,bK,ah,ai,an,aB,Dh,aP,qU,oY],[],[],rfl,rfl,by simp[aL,aI,ai,an,aB,aj,AV.aC,ag,ae,-acU,Dh,aP,qU,oY],by simp[AV.aC,aj,ag,Dh,aP,qU,oY]⟩
def hZ (t:Test):List Int:=t.inits.map (·.loc)++((t.threads.flatten).map (·.loc)++(t.rows.flatten).map (·.loc))
theorem l3 {α β:Type} (f:β->α->β):∀(ls:List (List α)) (b:β),ls.foldl (λb l=>l.foldl f b) b=ls.flatten.foldl f b
 | [],_=>rfl
 |l::ls,b=>by rw[adB,l3 f ls,List.flatten_cons,List.foldl_append]
theorem foldl_map' {α β γ:Type} (f:β->γ->β) (g:α->γ):∀(l:List α) (b:β),l.foldl (λb x=>f b (g x)) b=(l.map g).foldl f b
 | [],_=>rfl
 |a::l,b=>by rw[adB,foldl_map' f g l,ade,adB]
theorem QP (t:Test):pF t=(hZ t).foldl bV 0:=by
 unfold pF hZ;rw[l3 (λs (x:Atom)=>bV s x.loc),l3 (λs (x:Ins)=>bV s x.loc),foldl_map' bV Atom.loc,foldl_map' bV Ins.loc,foldl_map' bV Init.loc,List.foldl_append,List.foldl_append]
theorem tG (i:Nat):∀(l:List Int) (s:Nat),(l.foldl bV s).testBit i=(s.testBit i||l.any λx=>dA x&&decide ((x-97).toNat=i))
 | [],s=>by simp
 |a::l,s=>by
  rw[adB,tG i l,List.any_cons,<-Bool.or_assoc]
  congr 1
  unfold bV;split;·rename_i h;rw[vO,h,Bool.true_and]
  ·rename_i h;have:dA a=false:=by simpa using h
   simp[this]
theorem Il (t:Test) (i:Nat):(pF t).testBit i=true↔∃x∈hZ t,dA x=true/\(x-97).toNat=i:=by
 rw[QP,tG];simp
theorem F7 (t:Test):pG t=(hZ t).foldl mark qt:=by
 unfold pG hZ;rw[l3 (λs (x:Atom)=>mark s x.loc),l3 (λs (x:Ins)=>mark s x.loc),foldl_map' mark Atom.loc,foldl_map' mark Ins.loc,foldl_map' mark Init.loc,List.foldl_append,List.foldl_append]
theorem Bq (c:Nat) (hc:c<256):∀(l:List Int) (th:List Bool),th.length=256->(l.foldl mark th).getD c false=(th.getD c false||l.any λx=>decide (wJ x=c))
 | [],th,_=>by simp
 |a::l,th,h=>by
  rw[adB,Bq c hc l _ (by simp[mark,h]),List.any_cons,<-Bool.or_assoc]
  congr 1
  unfold mark;rw[adl,List.getElem?_set,adl];by_cases h1:wJ a=c
  ·rw[if_pos h1,if_pos (by omega)];simp[h1]
  ·rw[if_neg h1];simp[h1]
theorem zm (t:Test) (c:Nat) (hc:c<256):(pG t).getD c false=true↔∃x∈hZ t,wJ x=c:=by
 rw[F7,Bq c hc _ _ EC];have:qt.getD c false=false:=by
  unfold qt;rw[adl,List.getElem?_replicate];split<;>rfl
 rw[this,Bool.false_or];simp
theorem p8 {x:Int} (h:dA x=true\/x=0):(wJ x:Int)=x:=by
 have hx:0<=x/\x<=122:=by
  rcases h with h|h;·have:=(eM x).1 h;omega
  ·omega
 obtain⟨n,rfl⟩:=Int.eq_ofNat_of_zero_le hx.1;have e:bits .and .i64 (n:Int) 255=((n%256:Nat):Int):=by
  have e:bits .and .i64 (n:Int) 255=ac9.wrap (((BitVec.ofInt 64 (n:Int))&&&(BitVec.ofInt 64 255)).toNat:Nat):=rfl;have h1:(BitVec.ofInt 64 255).toNat=2^8-1:=rfl;rw[e,BitVec.toNat_and,h1,eC (by omega),Nat.and_two_pow_sub_one_eq_mod,wrap_i64 (by omega) (by omega)]
 unfold wJ;rw[e];omega
theorem vh {t:Test} (h:∀x∈hZ t,dA x=true\/x=0):df t=dz t:=by
 unfold df dz fB lets
 congr 1
 refine List.filter_congr λc hc=>?_;have acT:=List.mem_range.1 hc;rw[Bool.eq_iff_iff,Il,zm t _ (by omega)];constructor
 ·rintro⟨x,hx,h1,h2⟩;have:=p8 (.inl h1);have h3:=(eM x).1 h1;exact⟨x,hx,by omega⟩
 ·rintro⟨x,hx,h1⟩;have h2:=p8 (h x hx);have h3:dA x=true:=(eM x).2 (by omega);exact⟨x,hx,h3,by omega⟩
theorem p9 {t:Test} (h:gQ t=0):okB t=true/\rD t=false/\∀l∈t.threads,jA l=true:=by
 unfold gQ at h;by_cases h1:okB t=false;·rw[if_pos h1]at h;cases h
 rw[if_neg h1]at h;by_cases h2:rD t=true;·rw[if_pos h2]at h;cases h
 rw[if_neg h2]at h;by_cases h3:uK t.inits=true;·rw[if_pos h3]at h;cases h
 rw[if_neg h3]at h;by_cases h4:t.threads.any (λl=>!jA l)=true;·rw[if_pos h4]at h;cases h
 refine⟨by simpa using h1,by simpa using h2,λl hl=>?_⟩;simp only[List.any_eq_true,not_exists,not_and,Bool.not_eq_true',Bool.not_eq_false]at h4;exact h4 l hl
theorem F8 (aE:List UInt8) (x:Ins):(mH aE x).kind=x.kind/\(mH aE x).n=x.n:=by
 unfold mH;split<;>exact⟨rfl,rfl⟩
theorem L3 (aE:List UInt8) (l:List Ins):jA (l.map (mH aE))=jA l:=by
 unfold jA;rw[acY]
 congr 2
 funext i
 unfold hJ;rw[List.getElem?_map,acY];cases l[i]?with
 |none=>rfl
 |some x=>
  obtain⟨h1,h2⟩:=F8 aE x;simp only[ady,h1,h2]
theorem zn {aE:List UInt8} {x:Int} (h:∃b∈aE,(b.toNat:Int)=x):0<=place aE x/\place aE x<aE.length:=by
 unfold place;cases hf:aE.findIdx? (λb=>decide ((b.toNat:Int)=x))with
 |none=>
  rw[List.findIdx?_eq_none_iff]at hf;obtain⟨b,hb,hx⟩:=h;have:=hf b hb;simp[hx]at this
 |some i=>
  rw[List.findIdx?_eq_some_iff_getElem]at hf;obtain⟨hi,_⟩:=hf;simp only;omega
theorem L4 {t:Test} {x:Ins} (h:da x=true) (hm:dA x.loc=true->0<=place (dz t) x.loc/\place (dz t) x.loc<(dz t).length) (p:Prog) (hp:p.aE=dz t):dC (oA p) (mH (dz t) x)=true:=by
 unfold da at h;have h0:dA 0=false:=by decide
 unfold mH;by_cases hz:x.loc=0
 ·rw[if_pos hz];unfold dC;rw[hz]at h
  repeat' split at h
  all_goals simp_all [gH]
 ·rw[if_neg hz];unfold dC oA;rw[hp];simp only
  repeat' split at h
  all_goals simp_all [gH]
theorem vi {t:Test} (h:okB t=true):∀x∈hZ t,dA x=true\/x=0:=by
 simp only[okB,adn,Bool.not_eq_true']at h;obtain⟨⟨⟨_,h1⟩,h2⟩,h3⟩:=h;intro x hx;simp only[hZ,List.mem_append,List.mem_map,List.mem_flatten]at hx;rcases hx with⟨i,hi,rfl⟩|⟨i,⟨l,hl,hi⟩,rfl⟩|⟨a,⟨l,hl,ha⟩,rfl⟩
 ·unfold nk at h1;rw[List.any_eq_false]at h1;exact .inl (by simpa using h1 i hi)
 ·rw[List.any_eq_false]at h2;have h4:=h2 l hl;unfold gI at h4;rw[Bool.not_eq_true,List.any_eq_false]at h4;have h5:da i=true:=by simpa using h4 i hi
  unfold da at h5;split at h5;·exact .inl (by simp only[adn]at h5;exact h5.1.1)
  ·split at h5;·exact .inl (by simp only[adn]at h5;exact h5.1.1)
   ·split at h5;·exact .inr (by simp only[gH,adn,decide_eq_true_eq]at h5;exact h5.2.2.1)
    ·split at h5;·exact .inl (by simp only[adn]at h5;exact h5.1.1.1.1)
     ·split at h5;·exact .inr (by simp only[gH,adn,decide_eq_true_eq]at h5;exact h5.2.2.2.1)
      ·split at h5;·exact .inr (by simp only[gH,adn,decide_eq_true_eq]at h5;exact h5.2.2.2.1)
       ·cases h5
 ·unfold lh at h3;split at h3
  ·simp only[decide_eq_true_eq]at h3;have:t.rows=[]:=adH h3;rw[this]at hl;cases hl
  ·simp only[adn,Bool.not_eq_true']at h3;have h4:=List.any_eq_false.1 h3.2 l hl;unfold ob at h4;simp only[Bool.not_eq_true,Bool.or_eq_false_iff]at h4;have h5:iG a=true:=by simpa using List.any_eq_false.1 h4.2 a ha
   unfold iG at h5;split at h5;·exact .inl (by simp only[adn]at h5;exact h5.2)
   ·exact .inr (by simp only[adn,decide_eq_true_eq]at h5;exact h5.1.2)
theorem oJ {i:Nat} (h:i<26):(letter i).toNat=97+i:=by
 unfold letter;simp only[UInt8.toNat_ofNat'];omega
theorem F9 {th:List Bool} {b:UInt8}:b∈lets th 26↔∃i,i<26/\th.getD (97+i) false=true/\b=letter i:=by
 unfold lets;simp only[List.mem_map,List.mem_filter,List.mem_range];constructor;·rintro⟨i,⟨h1,h2⟩,rfl⟩;exact⟨i,h1,h2,rfl⟩
 ·rintro⟨i,h1,h2,rfl⟩;exact⟨i,⟨h1,h2⟩,rfl⟩
theorem wy (th:List Bool):(lets th 26).Pairwise λa b=>a.toNat<b.toNat:=by
 unfold lets;rw[List.pairwise_map];refine List.Pairwise.imp_of_mem (λ{a b} ha hb hab=>?_) (List.Pairwise.filter _ (List.pairwise_lt_range (n:=26)));have h1:=List.mem_range.1 (List.mem_filter.1 ha).1;have h2:=List.mem_range.1 (List.mem_filter.1 hb).1;rw[oJ h1,oJ h2];omega
theorem Di {t:Test} {x:Int} (hx:x∈hZ t) (hl:dA x=true):∃b∈dz t,(b.toNat:Int)=x:=by
 have h1:=(eM x).1 hl;have h2:=p8 (.inl hl);refine⟨letter (x-97).toNat,F9.2 ⟨(x-97).toNat,by omega,?_,rfl⟩,?_⟩
 ·rw[zm t _ (by omega)];exact⟨x,hx,by omega⟩
 ·rw[oJ (by omega)];omega
theorem Br:∀(l:List (List Ins)) (s:Nat),l.foldl (λs x=>s+x.length) s=s+(l.map List.length).sum
 | [],s=>by simp
 |a::l,s=>by rw[adB,Br l,ade,List.sum_cons];omega
theorem Tm {t:Test} (h:gQ t=0):zA (sV t):=by
 obtain⟨b8,fw,hj⟩:=p9 h;have F6:=vi b8;have kQ:=vh F6;have XF:∀l∈t.threads,∀x∈l,da x=true:=by
  intro l hl x hx;simp only[okB,adn,Bool.not_eq_true']at b8;have h2:=b8.1.2;rw[List.any_eq_false]at h2;have h4:=h2 l hl;unfold gI at h4;rw[Bool.not_eq_true,List.any_eq_false]at h4;simpa using h4 x hx
 unfold rD at fw;simp only[Bool.or_eq_false_iff,decide_eq_false_iff_not,List.any_eq_false,decide_eq_true_eq]at fw;obtain⟨b1,b2,b3,b4,b5,_⟩:=fw;rw[kQ]at b5;have gU:od t.threads=(t.threads.map List.length).sum:=by unfold od;rw[Br];omega
 rw[gU]at b4;refine⟨?_,?_,?_,?_,?_,?_,?_,?_,?_,?_⟩
 ·show 1<=(t.threads.map _).length;rw[acY];omega
 ·show(t.threads.map _).length<=4;rw[acY];omega
 ·show(dz t).length<=4;omega
 ·show((dz t).map _).length=(dz t).length;rw[acY]
 ·show((t.threads.map _).map List.length).sum<=24;rw[acU,show(List.length∘λl:List Ins=>l.map (mH (dz t)))=List.length by funext l;simp];omega
 ·intro c hc;obtain⟨i,hi,_,rfl⟩:=F9.1 hc;rw[oJ hi,eM];omega
 ·intro i h0 hi;have hp:=List.pairwise_iff_getElem.1 (wy (pG t)) (i-1) i (by show i-1<(dz t).length;have:(sV t).aE=dz t:=rfl;rw[this]at hi;omega) hi (by omega);show((dz t).getD (i-1) 0).toNat<((dz t).getD i 0).toNat;have gb:i<(dz t).length:=hi;rw[adl,ac6 (by omega),adl,ac6 gb];exact hp
 ·intro l hl;obtain⟨l',zx,rfl⟩:=List.mem_map.1 hl;rw[acY];have:=b1 l' zx;omega
 ·intro l hl;obtain⟨l',zx,rfl⟩:=List.mem_map.1 hl;rw[L3];exact hj l' zx
 ·intro l hl x hx;obtain⟨l',zx,rfl⟩:=List.mem_map.1 hl;obtain⟨x',hx',rfl⟩:=List.mem_map.1 hx;refine L4 (XF l' zx x' hx') (λDx=>zn (Di ?_ Dx)) (sV t) rfl;unfold hZ;refine List.mem_append.2 (.inr (List.mem_append.2 (.inl ?_)));exact List.mem_map.2 ⟨x',List.mem_flatten.2 ⟨l',zx,hx'⟩,rfl⟩
theorem JV {t:Test} (b8:okB t=true):∀l∈t.threads,∀x∈l,da x=true:=by
 intro l hl x hx;simp only[okB,adn,Bool.not_eq_true']at b8;have h2:=b8.1.2;rw[List.any_eq_false]at h2;have h4:=h2 l hl;unfold gI at h4;rw[Bool.not_eq_true,List.any_eq_false]at h4;simpa using h4 x hx
theorem zo {t:Test} (b8:okB t=true):∀x∈t.inits,dA x.loc=true:=by
 intro x hx;simp only[okB,adn,Bool.not_eq_true']at b8;have h1:=b8.1.1.2;unfold nk at h1;rw[List.any_eq_false]at h1;simpa using h1 x hx
theorem zp {x:Ins} (h:da x=true):(x.kind=1\/x.kind=2\/x.kind=4->dA x.loc=true)/\(¬(x.kind=1\/x.kind=2\/x.kind=4)->x.loc=0):=by
 unfold da at h
 repeat' split at h
 all_goals simp[gH]at h
 all_goals first
  |exact⟨λ_=>by simp[h],λhn=>absurd (by omega) hn⟩
  |exact⟨λhk=>by omega,λ_=>by omega⟩
  |(refine⟨λhk=>?_,λhn=>?_⟩<;>simp_all<;>omega)
theorem L5 {aE:List UInt8} {x:Ins} (h:da x=true):ew aE x=mH aE x:=by
 obtain⟨h1,h2⟩:=zp h;unfold ew mH;by_cases hk:x.kind=1\/x.kind=2\/x.kind=4
 ·have h3:=(eM _).1 (h1 hk);rw[if_pos hk,if_neg (by omega)];rfl
 ·rw[if_neg hk,if_pos (h2 hk)]
theorem L6 {aE:List UInt8} (hs:aE.Pairwise λa b=>a.toNat<b.toNat) {x:Int} {i:Nat} (hi:i<aE.length):(place aE x).toNat=i/\0<=place aE x↔(aE[i].toNat:Int)=x:=by
 constructor
 ·rintro⟨h1,h2⟩;unfold place at h1 h2;cases hf:aE.findIdx? (λb=>decide ((b.toNat:Int)=x))with
  |none=>rw[hf]at h2;simp at h2
  |some j=>
   rw[hf]at h1;simp only[acW]at h1;subst h1;obtain⟨_,h3,_⟩:=List.findIdx?_eq_some_iff_getElem.1 hf;simpa using h3
 ·intro h;have:=EN hi h λj hj sc he=>by
   have hp:=List.pairwise_iff_getElem.1 hs j i hj hi sc;omega
  rw[this];exact⟨by simp,by omega⟩
theorem Ga {aE:List UInt8} (hs:aE.Pairwise λa b=>a.toNat<b.toNat) {i:Nat} (hi:i<aE.length):∀(l:List Init) (vs:List Int) (hv:vs.length=aE.length),(∀x∈l,0<=place aE x.loc)->
 (l.foldl (kW aE) vs).getD i 0=l.foldl (λv x=>if x.loc=(aE[i].toNat:Int)then x.value else v) (vs.getD i 0)
 | [],vs,hv,_=>rfl
 |x::l,vs,hv,h=>by
  have ih:=Ga hs hi l (kW aE vs x) (by simp[kW,hv]) λy hy=>h y (adx _ hy);rw[adB,adB,ih]
  congr 1
  have hp:=L6 hs (x:=x.loc) hi;have h0:=h x adw;unfold kW;by_cases he:x.loc=(aE[i].toNat:Int)
  ·rw[if_pos he];have:=(hp.2 he.symm).1;rw[this,adl,List.getElem?_set_self (by omega)];rfl
  ·rw[if_neg he,adl,List.getElem?_set_ne (λe=>he (hp.1 ⟨e,h0⟩).symm),adl]
theorem QQ {t:Test} (h:gQ t=0):dE t=sV t:=by
 obtain⟨b8,fw,hj⟩:=p9 h;have F6:=vi b8;have kQ:=vh F6;have Xf:(dz t).Pairwise λa b=>a.toNat<b.toNat:=wy _;have rv:∀x∈t.inits,0<=place (dz t) x.loc:=λx hx=>(zn (Di (by
  unfold hZ;exact List.mem_append.2 (.inl (List.mem_map.2 ⟨x,hx,rfl⟩))) (zo b8 x hx))).1
 unfold dE sV;rw[kQ]
 congr 1
 ·apply List.ext_getElem;·rw[mw];simp
  ·intro i h1 h2;have hi:i<(dz t).length:=by simpa using h2
   have:=Ga Xf hi t.inits (ada (dz t).length 0) (by simp) rv;rw[adl,ac6 h1]at this;simp only[adE]at this;rw[this,List.getElem_map];unfold Js
   congr 1
   rw[adl,List.getElem?_replicate];split<;>rfl
 ·refine List.map_congr_left λl hl=>List.map_congr_left λx hx=>L5 (JV b8 l hl x hx)
theorem Tn {t:Test} (h:gQ t=0):Ik t:=by
 obtain⟨b8,fw,hj⟩:=p9 h;have kQ:=vh (vi b8);unfold rD at fw;simp only[Bool.or_eq_false_iff,decide_eq_false_iff_not,List.any_eq_false,decide_eq_true_eq]at fw;obtain⟨b1,b2,b3,b4,b5,_⟩:=fw;refine⟨by omega,λx hx=>?_,by omega,λl hl=>?_,λl hl x hx hk=>?_⟩
 ·have h1:=zo b8 x hx;have h2:=(eM _).1 h1;rw[kQ];have h3:=zn (Di (t:=t) (x:=x.loc) (by
   unfold hZ;exact List.mem_append.2 (.inl (List.mem_map.2 ⟨x,hx,rfl⟩))) h1)
  exact⟨by omega,by omega,h3⟩
 ·have:=b1 l hl;omega
 ·have h2:=(eM _).1 ((zp (JV b8 l hl x hx)).1 hk);omega
theorem zq {t:Test} (h:gQ t=0):zA (dE t):=by rw[QQ h];exact Tm h
def liN (v:Int):wK:=⟨-1,v⟩
def liO:wK:=⟨0,0⟩
def kM (l v:Int):Ins:=⟨1,0,l,liN v,0,liO,0⟩
def kN (r l:Int):Ins:=⟨2,r,l,liO,0,liO,0⟩
def adM:Ins:=⟨3,0,0,liO,0,liO,0⟩
def adK (r l a b:Int):Ins:=⟨4,r,l,liN a,0,liN b,0⟩
def kO (t r v:Int):Atom:=⟨t,r,0,v⟩
def liM (l v:Int):Atom:=⟨-1,0,l,v⟩
def liT (n:List UInt8) (a:List Atom) (th:List (List Ins)):Test:=⟨n,[],th,1,[a]⟩
def Tp:List Test:=[
 liT [115,98] [kO 0 0 0,kO 1 0 0] [[kM 120 1,kN 0 121],[kM 121 1,kN 0 120]],
 liT [115,98,102] [kO 0 0 0,kO 1 0 0] [[kM 120 1,adM,kN 0 121],[kM 121 1,adM,kN 0 120]],
 liT [109,112] [kO 1 0 1,kO 1 1 0] [[kM 120 1,kM 121 1],[kN 0 121,kN 1 120]],
 liT [109,112,102] [kO 1 0 1,kO 1 1 0] [[kM 120 1,adM,kM 121 1],[kN 0 121,kN 1 120]],
 liT [108,98] [kO 0 0 1,kO 1 0 1] [[kN 0 120,kM 121 1],[kN 0 121,kM 120 1]],
 liT [119,114,99] [kO 1 0 1,kO 2 0 1,kO 2 1 0] [[kM 120 1],[kN 0 120,kM 121 1],[kN 0 121,kN 1 120]],
 liT [105,114,105,119] [kO 2 0 1,kO 2 1 0,kO 3 0 1,kO 3 1 0] [[kM 120 1],[kM 121 1],[kN 0 120,kN 1 121],[kN 0 121,kN 1 120]],
 liT [99,111,119] [liM 120 1] [[kM 120 1,kM 120 2]],
 liT [116,119,111] [liM 120 1,liM 121 1] [[kM 120 1,kM 121 2],[kM 121 1,kM 120 2]],
 liT [114] [kO 1 0 0,liM 121 2] [[kM 120 1,kM 121 1],[kM 121 2,kN 0 120]],
 liT [115] [kO 1 0 1,liM 120 2] [[kM 120 2,kM 121 1],[kN 0 121,kM 120 1]],
 liT [110,54] [kO 0 0 1,kO 0 1 0,liM 120 1] [[kM 120 1,kN 0 120,kN 1 121],[kM 121 1,kM 120 2]],
 liT [99,97,115] [kO 0 0 0,kO 1 0 0] [[adK 0 120 0 1],[adK 0 120 0 2]],
 liT [115,98,99] [kO 0 0 0,kO 1 0 0] [[kM 120 1,adK 1 122 0 0,kN 0 121],[kM 121 1,adK 1 122 0 0,kN 0 120]]]
def gR (k:Nat):Test:=Tp.getD k ⟨[],[],[],0,[]⟩
def adJ {α:Type} (enc:α->List DV) (l:List α):DV:=.sl l.length (l.flatMap enc)
def Tq (t:Test):List DV:=[.str t.name,.cE,.sl t.threads.length (t.threads.map (adJ Ins.cells)),.int .i64 t.kind,.sl t.rows.length (t.rows.map (adJ Atom.cells))]
theorem adL {α:Type} (enc:α->List DV) {l:List α} (h:l.length<=1000):dM enc l (adJ enc l):=⟨by omega,.inr rfl⟩
theorem adI {α:Type} (enc:α->List DV):∀{ls:List (List α)},(∀l∈ls,l.length<=1000)->re enc ls (ls.map (adJ enc))
 | [],_=>trivial
 |l::ls,h=>⟨adL enc (h l adw),adI enc λl' h'=>h l' (adx _ h')⟩
theorem Gb:∀l:List DV,l.flatMap (λd=>[d])=l
 | []=>rfl
 |x::l=>by rw[adr,Gb l];rfl
def JX (t:Test):Bool:=t.inits.isEmpty&&decide (t.threads.length<=4)&&t.threads.all (λl=>decide (l.length<=1000))&&decide (t.rows.length<=1000)&&t.rows.all (λl=>decide (l.length<=1000))&&decide (t.name.length<=100)
theorem Tr {t:Test} (h:JX t=true):mE t (Tq t):=by
 simp only[JX,adn,decide_eq_true_eq,List.all_eq_true,List.isEmpty_iff]at h;obtain⟨⟨⟨⟨⟨h1,h2⟩,h3⟩,h4⟩,h5⟩,_⟩:=h;have s2:∀{α:Type} (enc:α->List DV) {ls:List (List α)},ls.length<=1000->(∀l∈ls,l.length<=1000)->cP enc ls (.sl ls.length (ls.map (adJ enc))):=λenc ls h hl=>
  ⟨ls.map (adJ enc),⟨by rw[acY];omega,.inr (by rw[acY,Gb])⟩,adI enc hl⟩
 exact⟨_,_,_,rfl,⟨by rw[h1];simp,.inl ⟨rfl,h1⟩⟩,s2 _ (by omega) h3,s2 _ h4 h5⟩
end
end Go.Proofs.YtjfdjkageiemkaaGreatDoor
namespace Go.Jq
open Go
theorem zr {π:Nat->Option Nat} (BM:∀i j,π i=some j->i=j) {i:Nat} (h:(π i).isSome=true):π i=some i:=by
 obtain⟨j,hj⟩:=adv.1 h;rw[hj,BM i j hj]
mutual
theorem JY {π:Nat->Option Nat} (BM:∀i j,π i=some j->i=j):∀(x:AV),bE π x=true->x.aC π=x
 |.d x,_=>rfl
 |.ptr id off,h=>by simp only[bE]at h;simp only[AV.aC,zr BM h]
 |.r8 id T,h=>by simp only[bE]at h;simp only[AV.aC,zr BM h]
 |.bj cs,_=>rfl
 |.sl id e o l,h=>by simp only[bE]at h;simp only[AV.aC,zr BM h]
 |.uh id T l,h=>by simp only[bE]at h;simp only[AV.aC,zr BM h]
 |.fn f caps,h=>by simp only[bE]at h;simp only[AV.aC,l5 BM caps h]
 |.agg cs,h=>by simp only[bE]at h;simp only[AV.aC,l5 BM cs h]
 |.cu cs,h=>by simp only[bE]at h;simp only[AV.aC,l5 BM cs h]
 |.oZ id,h=>by simp only[bE]at h;simp only[AV.aC,zr BM h]
 |.ui _,_=>rfl
 |.any,_=>rfl
theorem l5 {π:Nat->Option Nat} (BM:∀i j,π i=some j->i=j):∀(l:List AV),bF π l=true->aj π l=l
 | [],_=>rfl
 |x::l,h=>by
  simp only[bF,adn]at h;simp only[aj,JY BM x h.1,l5 BM l h.2]
end
def sj (l:List Nat):Ren:=l.map λi=>(i,i)
theorem xt:∀{l:List Nat} {i j:Nat},ag (sj l) i=some j->i=j
 | [],_,_,h=>by cases h
 |k::l,i,j,h=>by
  simp only[sj,ade,ag]at h;split at h;·rename_i e;cases h;exact e.symm
  ·exact xt h
theorem Dj:∀{l:List Nat} {i:Nat},i∈l->ag (sj l) i=some i/\aI (sj l) i=some i
 | [],_,h=>by cases h
 |k::l,i,h=>by
  simp only[sj,ade,ag,aI];by_cases e:k=i;·rw[if_pos e,if_pos e,e];exact⟨rfl,rfl⟩
  ·rw[if_neg e,if_neg e];refine Dj ?_;rcases List.mem_cons.1 h with h|h;·exact absurd h.symm e
   ·exact h
theorem QR (n:Nat) (l:List Nat):jt n (sj l)=true:=by
 unfold jt sj;rw[List.all_eq_true];intro p hp;obtain⟨i,_,rfl⟩:=List.mem_map.1 hp;simp
def eE (m:Mem):List Nat->Mem
 | []=>[]
 |i::r=>match ai m i with
  |some cs=>(i,cs)::eE m r
  |none=>eE m r
theorem lz {m:Mem}:∀{l:List Nat} {p:Nat×List AV},p∈eE m l->p.1∈l/\ai m p.1=some p.2
 | [],_,h=>by cases h
 |i::r,p,h=>by
  simp only[eE]at h;split at h
  ·rename_i cs b9;rcases List.mem_cons.1 h with rfl|h;·exact⟨adw,b9⟩
   ·exact⟨adx _ (lz h).1,(lz h).2⟩
  ·exact⟨adx _ (lz h).1,(lz h).2⟩
theorem JZ {π:Ren} {m:Mem}:∀{m':Mem},(∀p∈m',aI π p.1=some p.1/\ai m p.1=some p.2/\aj (ag π) p.2=p.2)->aL π m m'
 | [],_=>trivial
 |(j,cs)::r,h=>by
  obtain⟨h1,h2,h3⟩:=h _ adw;simp only[aL];refine⟨?_,JZ λp hp=>h p (adx _ hp)⟩;simp only at h1 h2 h3;rw[h1,];simp only;rw[h2];exact h3
theorem Bs {ρ:Ren} {m:Mem}:∀{m':Mem},(∀p∈m',ag ρ p.1=some p.1/\ai m p.1=some (aj (ag ρ) p.2)/\bF (ag ρ) p.2=true)->handed ρ m m'
 | [],_=>trivial
 |(j,cs)::r,h=>by
  obtain⟨h1,h2,h3⟩:=h _ adw;simp only[handed];refine⟨?_,Bs λp hp=>h p (adx _ hp)⟩;simp only at h1 h2 h3;rw[h1];exact⟨h2,h3⟩
def J0 (ids:List Nat) (m:Mem):Bool:=m.all λp=>bF (ag (sj ids)) p.2
theorem Im {P:Program} {f:Nat} {fn:Func} {code:Code} {args:List AV} {m mS:Mem} {v:AV} (ids:List Nat) (hf:P.funcs[f]?=some fn) (hb:fn.body=some code) (hn:args.length<=fn.ntmps)
 (b8:bC (Nat.max (aw m) (aw (eE mS ids))) (sj ids)=true) (hv:bE (ag (sj ids)) v=true) (ph:J0 ids (eE mS ids)=true)
 (h:w7 P (aw m) fn.ntmps code ⟨IA 0 args,m,aw m⟩ λe S=>(e=.normal\/e=.ret)/\bB P fn.results S=some v/\S.m=mS):
 bT P f args m λr m'=>r=v/\m'=eE mS ids:=by
 refine q9 hf hb hn (DX h ?_);rintro e S ⟨he,hr,rfl⟩;have key:∃u,bB P fn.results S=some u/\∃π m',bC (Nat.max (aw m) (aw m')) π=true/\jt (aw m) π=true/\aL π S.m m'/\(u.aC (ag π)=v/\m'=eE S.m ids):=by
  refine⟨v,hr,sj ids,_,b8,QR _ _,JZ λp hp=>?_,JY (λi j=>xt) v hv,rfl⟩;obtain⟨h1,h2⟩:=lz hp;exact⟨(Dj h1).2,h2,l5 (λi j=>xt) _ (List.all_eq_true.1 ph p hp)⟩
 rcases he with rfl|rfl;·exact key
 ·exact key
mutual
def eqD:DV->DV->Bool
 |.int k a,.int l b=>decide (k=l)&&decide (a=b)
 |.bool a,.bool b=>a==b
 |.str a,.str b=>decide (a=b)
 |.cE,.cE=>true
 |.lA,.lA=>true
 |.Mb,.Mb=>true
 |.XN,.XN=>true
 |.sl n a,.sl k b=>decide (n=k)&&L7 a b
 |_,_=>false
def L7:List DV->List DV->Bool
 | [],[]=>true
 |x::a,y::b=>eqD x y&&L7 a b
 |_,_=>false
end
mutual
theorem QS:∀{x y:DV},eqD x y=true->x=y:=by
 intro x y h;cases x<;>cases y<;>simp only[eqD,adn,decide_eq_true_eq,beq_iff_eq,ac5]at h<;>first
  |rfl
  |(obtain⟨rfl,rfl⟩:=h;rfl)
  |(obtain⟨rfl,h2⟩:=h;rw[xu h2])
  |(subst h;rfl)
theorem xu:∀{x y:List DV},L7 x y=true->x=y:=by
 intro x y h;cases x<;>cases y<;>simp only[L7,adn,ac5]at h<;>first
  |rfl
  |(obtain⟨h1,h2⟩:=h;rw[QS h1,xu h2])
end
mutual
def eqA:AV->AV->Bool
 |.d x,.d y=>eqD x y
 |.ptr i o,.ptr j p=>decide (i=j)&&decide (o=p)
 |.r8 i o,.r8 j p=>decide (i=j)&&decide (o=p)
 |.bj a,.bj b=>L7 a b
 |.sl i e o l,.sl j f p k=>decide (i=j)&&(decide (e=f)&&(decide (o=p)&&decide (l=k)))
 |.uh i e l,.uh j f k=>decide (i=j)&&(decide (e=f)&&decide (l=k))
 |.fn f a,.fn g b=>decide (f=g)&&Gc a b
 |.agg a,.agg b=>Gc a b
 |.cu a,.cu b=>Gc a b
 |.oZ i,.oZ j=>decide (i=j)
 |.ui a,.ui b=>a==b
 |.any,.any=>true
 |_,_=>false
def Gc:List AV->List AV->Bool
 | [],[]=>true
 |x::a,y::b=>eqA x y&&Gc a b
 |_,_=>false
end
mutual
theorem Io:∀{x y:AV},eqA x y=true->x=y:=by
 intro x y h;cases x<;>cases y<;>simp only[eqA,adn,decide_eq_true_eq,beq_iff_eq,ac5]at h<;>first
  |rfl
  |rw[QS h]
  |rw[xu h]
  |rw[tH h]
  |(obtain⟨rfl,h2⟩:=h;rw[tH h2])
  |(obtain⟨rfl,rfl⟩:=h;rfl)
  |(obtain⟨rfl,rfl,rfl⟩:=h;rfl)
  |(obtain⟨rfl,rfl,rfl,rfl⟩:=h;rfl)
  |(subst h;rfl)
theorem tH:∀{x y:List AV},Gc x y=true->x=y:=by
 intro x y h;cases x<;>cases y<;>simp only[Gc,adn,ac5]at h<;>first
  |rfl
  |(obtain⟨h1,h2⟩:=h;rw[Io h1,tH h2])
end
def eqM:Mem->Mem->Bool
 | [],[]=>true
 |(i,a)::r,(j,b)::s=>decide (i=j)&&(Gc a b&&eqM r s)
 |_,_=>false
theorem QT:∀{x y:Mem},eqM x y=true->x=y
 | [],[],_=>rfl
 |(i,a)::r,(j,b)::s,h=>by
  simp only[eqM,adn,decide_eq_true_eq]at h;rw[h.1,tH h.2.1,QT h.2.2]
 | [],_::_,h=>by cases h
 |_::_,[],h=>by cases h
abbrev jM:=Nat->List AV->Mem->Option (AV×Mem)
def mO (P:Program) (C:jM):Prop:=∀f args m v m',C f args m=some (v,m')->bT P f args m λr m1=>r=v/\m1=m'
mutual
def qV:AV->List Nat
 |.ptr i _=>[i]
 |.r8 i _=>[i]
 |.sl i _ _ _=>[i]
 |.uh i _ _=>[i]
 |.oZ i=>[i]
 |.fn _ l=>wR l
 |.agg l=>wR l
 |.cu l=>wR l
 |_=>[]
def wR:List AV->List Nat
 | []=>[]
 |x::l=>match qV x with
  | []=>wR l
  |is=>is++wR l
end
def aaH (i:Nat):List Nat->Bool
 | []=>false
 |j::r=>if i=j then true else aaH i r
def zt (m:Mem):Nat->List Nat->List Nat->List Nat
 |0,_,seen=>seen
 |_+1,[],seen=>seen
 |u+1,i::r,seen=>match aaH i seen with
  |true=>zt m u r seen
  |false=>match ai m i with
   |some cs=>zt m u (wR cs++r) (i::seen)
   |none=>zt m u r seen
def V8 (m m0:Mem) (n:Nat) (ids:List Nat):Option (AV×Mem)->Option (AV×Mem×Nat×fH)
 |some (v,m1)=>if bE (λ_=>none) v&&eqM m0 m1 then some (v,m,n+Nat.max (aw m0) (aw m0),⟨[],(sj ids).map (·.2)⟩)
  else some (v.aC (bX (sj ids) m0 m1 n),bn (sj ids) m0 m1 n m,n+Nat.max (aw m0) (aw m1),⟨dX (sj ids) m1 n,(sj ids).map (·.2)⟩)
 |none=>none
def Dk (C:jM) (f:Nat) (args:List AV) (m:Mem) (n:Nat) (ids:List Nat):Option (AV×Mem×Nat×fH):=
 if bC (aw m) (sj ids)&&(bF (ag (sj ids)) args&&(J0 ids (eE m ids)&&(sj ids).all λp=>(ai (eE m ids) p.1).isSome))then
  V8 m (eE m ids) n ids (C f args (eE m ids))else none
def Bt (C:jM) (f:Nat) (args:List AV) (m:Mem) (n:Nat):Option (AV×Mem×Nat×fH):=
 match wR args with
 | []=>Dk C f args m n []
 |is=>Dk C f args m n (zt m 1000000 is [])
theorem Gd {P:Program} {f:Nat} {cU:List AV} {m0 m:Mem} {r0:AV} {n nb:Nat} {ρ:Ren} (hA:bT P f cU m0 λr m'=>r=r0/\m'=m0) (b8:bC nb ρ=true) (dh:bF (ag ρ) cU=true)
 (hh:handed ρ m m0) (ji:∀j id,ag ρ j=some id->(ai m0 j).isSome) (Az:∀π,r0.aC π=r0):
 oR P f (aj (ag ρ) cU) m n (n<=·) λr m1 n1=>r=r0/\m1=m/\n1=n+Nat.max (aw m0) (aw m0):=by
 have kQ:=sM (n:=n) b8 hh ji;have hR:=nf (n:=n) hA ρ b8 dh hh ji (F:=(n<=·)) (λ_ _ _ _ h _=>h);intro c w vs hr hM fG;refine(hR c w vs hr hM fG).mono ?_;rintro e w' ⟨v,r,m2,n',c',rfl,⟨r1,m3,⟨hr1,uo⟩,rfl,rfl,rfl⟩,iL,sb,hs,ho,eI,Gq,Q8⟩;subst hr1;subst uo;rw[Az]at iL;exact⟨v,r1,m,_,c',rfl,⟨rfl,rfl,rfl⟩,iL,sb.qn λid=>(kQ id).symm,hs,(λb ⟨id,h1,h2⟩=>ho b ⟨id,(congrArg Option.isSome (kQ id)).trans h1,h2⟩),eI,(λid _ h=>h),Q8⟩
theorem Bu {P:Program} {C:jM} (hC:mO P C) {f:Nat} {args:List AV} {m m':Mem} {n n':Nat} {v:AV} {F:fH} {ids:List Nat} (h:Dk C f args m n ids=some (v,m',n',F)):
 (oR P f args m n (n<=·) λr m1 n1=>r=v/\m1=m'/\n1=n')/\∀K:AV->Mem->Nat->fH->Prop,K v m' n' F->ra P f args m n K:=by
 unfold Dk at h;split at h
 ·rename_i hc;simp only[adn]at hc;obtain⟨b8,dh,Gp,hd⟩:=hc;have hid:∀i j,ag (sj ids) i=some j->i=j:=λi j=>xt;have ha:args=aj (ag (sj ids)) args:=(l5 hid _ dh).symm;have hh:handed (sj ids) m (eE m ids):=Bs λp hp=>by
   obtain⟨h1,h2⟩:=lz hp;have h3:=List.all_eq_true.1 Gp p hp;exact⟨(Dj h1).1,by rw[l5 hid _ h3];exact h2,h3⟩
  have ji:∀j id,ag (sj ids) j=some id->(ai (eE m ids) j).isSome:=λj id hj=>List.all_eq_true.1 hd _ (ix hj);generalize eE m ids=m0 at*;unfold V8 at h;split at h
  ·rename_i v0 m1 aaI;have hA:=hC _ _ _ _ _ aaI;split at h
   ·rename_i hq;simp only[adn]at hq;cases h;have e:=QT hq.2;subst e;have Az:∀π,v.aC π=v:=λπ=>lM _ hq.1;refine⟨?_,λK hK=>.inr ⟨sj ids,_,args,v,_,b8,ha,dh,hh,ji,hA,Az,hK⟩⟩;have:=Gd (n:=n) hA b8 dh hh ji Az;rwa[<-ha]at this
   ·cases h;refine⟨?_,λK hK=>.inl ⟨sj ids,_,args,_,_,_,b8,ha,dh,hh,ji,hA,hK⟩⟩;have:=nf (n:=n) hA (sj ids) b8 dh hh ji (F:=(n<=·)) (λ_ _ _ _ h _=>h);rw[<-ha]at this;refine this.mono ?_;rintro r m2 n2 ⟨r0,m3,⟨rfl,rfl⟩,rfl,rfl,rfl⟩;exact⟨rfl,rfl,rfl⟩
  ·cases h
 ·cases h
theorem Ge {P:Program} {C:jM} (hC:mO P C) {f:Nat} {args:List AV} {m m':Mem} {n n':Nat} {v:AV} {F:fH} (h:Bt C f args m n=some (v,m',n',F)):
 (oR P f args m n (n<=·) λr m1 n1=>r=v/\m1=m'/\n1=n')/\∀K:AV->Mem->Nat->fH->Prop,K v m' n' F->ra P f args m n K:=by
 unfold Bt at h;split at h;·exact Bu hC h
 ·exact Bu hC h
def Bv (dst:Option Nat) (t:Fr):Option (AV×Mem×Nat×fH)->Option (St×fH)
 |some (v,m,n,F)=>some (⟨cK t dst v,m,n⟩,F)
 |none=>none
def Ip (d:Bool) (o:bA) (S:St):Option (St×fH):=match aW o.op S.t S.m S.n with
 |some (v,e)=>match d with
  |false=>some (⟨cK S.t o.dst v,e.mem S.m S.n,e.next S.n⟩,⟨[],[]⟩)
  |true=>some (⟨cK S.t o.dst v,e.mem S.m S.n,S.n+1⟩,⟨mC S.n e,cV S.t o.op⟩)
 |none=>none
def wz (P:Program) (C:jM) (d:Bool) (o:bA) (S:St):Option (St×fH):=
 match o.op with
 |.bW f args=>Bv o.dst S.t (Bt C f (args.map (ev S.t)) S.m S.n)
 |.fb x args=>match ev S.t x with
  |.fn f caps=>match jo P f with
   |true=>Bv o.dst S.t (Bt C f (args.map (ev S.t)++caps) S.m S.n)
   |false=>none
  |_=>none
 |_=>Ip d o S
theorem Gf {P:Program} {C:jM} (hC:mO P C) {o:bA} {S S':St} {F:fH} {K:St->Prop} (h:wz P C false o S=some (S',F)) (hK:K S'):ju P o S K:=by
 have tk:∀{f:Nat} {args:List AV},Bv o.dst S.t (Bt C f args S.m S.n)=some (S',F)->∃R,oR P f args S.m S.n (S.n<=·) R/\∀r m n,R r m n->K ⟨cK S.t o.dst r,m,n⟩:=by
  intro f args h;unfold Bv at h;split at h
  ·rename_i v m n F' hc;cases h;exact⟨_,(Ge hC hc).1,λr m n hr=>by obtain⟨rfl,rfl,rfl⟩:=hr;exact hK⟩
  ·cases h
 unfold wz at h;unfold ju;split at h
 ·rename_i f args ho;rw[ho];exact tk h
 ·rename_i x args ho;rw[ho];simp only;split at h
  ·rename_i f caps hx;rw[hx];split at h
   ·rename_i hg;exact⟨hg,tk h⟩
   ·cases h
  ·cases h
 ·rename_i h1 h2;unfold Ip at h;split at h
  ·rename_i v e he;cases h;split;·rename_i f args ho;exact absurd ho (h1 _ _)
   ·rename_i x args ho;exact absurd ho (h2 _ _)
   ·rw[he];exact hK
  ·cases h
theorem Bw {P:Program} {C:jM} (hC:mO P C) {o:bA} {S S':St} {F:fH} {K:St->fH->Prop} (h:wz P C true o S=some (S',F)) (hK:K S' F):rb P o.dst o.op S K:=by
 have tk:∀{f:Nat} {args:List AV},Bv o.dst S.t (Bt C f args S.m S.n)=some (S',F)->ra P f args S.m S.n λv m n F=>K ⟨cK S.t o.dst v,m,n⟩ F:=by
  intro f args h;unfold Bv at h;split at h
  ·rename_i v m n F' hc;cases h;exact(Ge hC hc).2 _ hK
  ·cases h
 unfold wz at h;unfold rb;split at h
 ·rename_i f args ho;rw[ho];exact tk h
 ·rename_i x args ho;rw[ho];simp only;split at h
  ·rename_i f caps hx;rw[hx];split at h
   ·rename_i hg;exact⟨hg,tk h⟩
   ·cases h
  ·cases h
 ·rename_i h1 h2;unfold Ip at h;split at h
  ·rename_i v e he;cases h;split;·rename_i f args ho;exact absurd ho (h1 _ _)
   ·rename_i x args ho;exact absurd ho (h2 _ _)
   ·rw[he];exact hK
  ·cases h
def Iq (P:Program) (C:jM):List bA->St->Option St
 | [],S=>some S
 |o::r,S=>match o.guard with
  |none=>match wz P C false o S with
   |some (S',_)=>Iq P C r S'
   |none=>none
  |some (g,want)=>match ah S.t g with
   |.d (.bool b)=>if b=want then(match wz P C false o S with
    |some (S',_)=>Iq P C r S'
    |none=>none)else Iq P C r ⟨cK S.t o.dst (.cu []),S.m,S.n⟩
   |.cu _=>Iq P C r ⟨cK S.t o.dst (.cu []),S.m,S.n⟩
   |_=>none
theorem tI {P:Program} {C:jM} (hC:mO P C):∀{al:List bA} {S S':St} {K:St->Prop},Iq P C al S=some S'->K S'->cz P al S K
 | [],S,S',K,h,hK=>by cases h;exact hK
 |o::r,S,S',K,h,hK=>by
  simp only[Iq]at h;simp only[cz];split at h
  ·rename_i hg;rw[hg];split at h
   ·rename_i S1 _ hs;exact Gf hC hs (tI hC h hK)
   ·cases h
  ·rename_i g want hg;rw[hg];simp only;split at h
   ·rename_i b hb;rw[hb];simp only;split at h
    ·rename_i BJ;rw[if_pos BJ];split at h
     ·rename_i S1 _ hs;exact Gf hC hs (tI hC h hK)
     ·cases h
    ·rename_i BJ;rw[if_neg BJ];exact tI hC h hK
   ·rename_i cs hb;rw[hb];exact tI hC h hK
   ·cases h
def wA (P:Program) (C:jM):List bA->List fH->List Nat->St->Option St
 | [],acc,ms,S=>if gY [] acc.reverse (mB [] ms)=true then some S else none
 |o::r,acc,ms,S=>match o.guard with
  |none=>match wz P C true o S with
   |some (S',f)=>wA P C r (f::acc) ms S'
   |none=>none
  |some (g,want)=>match ah S.t g with
   |.d (.bool b)=>if b=want then(match wz P C true o S with
    |some (S',f)=>wA P C r (f::acc) ms S'
    |none=>none)else wA P C r (⟨[],[]⟩::acc) ms ⟨cK S.t o.dst (.cu []),S.m,S.n+1⟩
   |.cu _=>wA P C r (⟨[],[]⟩::acc) ms ⟨cK S.t o.dst (.cu []),S.m,S.n+1⟩
   |_=>none
theorem qa {P:Program} {C:jM} (hC:mO P C):∀{al:List bA} {acc:List fH} {ms:List Nat} {S S':St} {K:St->Prop},wA P C al acc ms S=some S'->K S'->eW P al acc ms S K
 | [],acc,ms,S,S',K,h,hK=>by
   simp only[wA]at h;split at h;·cases h;exact⟨by assumption,hK⟩
   ·cases h
 |o::r,acc,ms,S,S',K,h,hK=>by
  simp only[wA]at h;simp only[eW];split at h
  ·rename_i hg;rw[hg];split at h
   ·rename_i S1 f hs;exact Bw hC hs (qa hC h hK)
   ·cases h
  ·rename_i g want hg;rw[hg];simp only;split at h
   ·rename_i b hb;rw[hb];simp only;split at h
    ·rename_i BJ;rw[if_pos BJ];split at h
     ·rename_i S1 f hs;exact Bw hC hs (qa hC h hK)
     ·cases h
    ·rename_i BJ;rw[if_neg BJ];exact qa hC h hK
   ·rename_i cs hb;rw[hb];exact qa hC h hK
   ·cases h
def J1 (body:St->Option (Exit×St)):Nat->St->Option (Exit×St)
 |0,_=>none
 |u+1,S=>match body S with
  |some (.normal,S')=>J1 body u S'
  |r=>r
def inX (id:Nat):Option (Exit×St)->Option (Exit×St)
 |some (.exit i,S)=>if i=id then some (.normal,S)else some (.exit i,S)
 |r=>r
def iF (P:Program) (C:jM) (n0 u:Nat):aG->St->Option (Exit×St)
 |.skip,S=>some (.normal,S)
 |.region draw al ms,S=>if n0<=S.n then(if draw=true then(wA P C al [] ms S).map λS'=>(.normal,S')else(Iq P C al S).map λS'=>(.normal,S'))else none
 |.seq a b,S=>match iF P C n0 u a S with
  |some (.normal,S')=>iF P C n0 u b S'
  |r=>r
 |.cond c a b,S=>match ev S.t c with
  |.d (.bool true)=>iF P C n0 u a S
  |.d (.bool false)=>iF P C n0 u b S
  |_=>none
 |.block id b,S=>inX id (iF P C n0 u b S)
 |.loop b,S=>J1 (iF P C n0 u b) u S
 |.exit id,S=>some (.exit id,S)
 |.ret,S=>some (.ret,S)
theorem gS {P:Program} {C:jM} (hm:P.follows .mixedOrders=true) (hC:mO P C) {n0 u k:Nat}:∀{c:aG} {S S':St} {e:Exit} {Q:Exit->St->Prop},iF P C n0 u c S=some (e,S')->Q e S'->fN P n0 k c S Q
 |.skip,S,S',e,Q,h,hQ=>by simp only[iF]at h;cases h;exact au hQ
 |.region draw al ms,S,S',e,Q,h,hQ=>by
  simp only[iF]at h;split at h
  ·rename_i hn;split at h
   ·rename_i hd;subst hd;rw[adf]at h;obtain⟨S1,h1,h2⟩:=h;cases h2;exact az hm (decide_eq_true hn) (qa hC h1 hQ)
   ·rename_i hd;have hd:draw=false:=by simpa using hd
    subst hd;rw[adf]at h;obtain⟨S1,h1,h2⟩:=h;cases h2;exact af (decide_eq_true hn) (tI hC h1 hQ)
  ·cases h
 |.seq a b,S,S',e,Q,h,hQ=>by
  simp only[iF]at h;refine aa λK hK=>?_;split at h
  ·rename_i S1 h1;exact gS hm hC h1 (hK _ (gS hm hC h hQ))
  ·rename_i l6;refine gS hm hC h ?_;cases e with
   |normal=>exact absurd h (l6 _)
   |_=>exact hQ
 |.cond c a b,S,S',e,Q,h,hQ=>by
  simp only[iF]at h;split at h
  ·rename_i hc;exact bP true hc (λ_=>gS hm hC h hQ) (λh=>nomatch h)
  ·rename_i hc;exact bP false hc (λh=>nomatch h) (λ_=>gS hm hC h hQ)
  ·cases h
 |.block id b,S,S',e,Q,h,hQ=>by
  simp only[iF]at h;refine aA ?_;unfold inX at h;split at h
  ·rename_i i S1 h1;refine gS hm hC h1 ?_;simp only[Exit.gC];split at h;·rename_i hi;cases h;rw[if_pos hi];exact hQ
   ·rename_i hi;cases h;rw[if_neg hi];exact hQ
  ·rename_i l6;refine gS hm hC h ?_;cases e with
   |exit i=>exact absurd h (l6 _ _)
   |_=>exact hQ
 |.loop b,S,S',e,Q,h,hQ=>by
  simp only[iF]at h;refine fy (ι:={p:Nat×St//J1 (iF P C n0 u b) p.1 p.2=some (e,S')}) (λp=>p.1.2) (λp=>p.1.1) ⟨(u,S),h⟩ ?_;rintro⟨⟨v,S1⟩,h1⟩;cases v with
  |zero=>cases h1
  |succ v=>
   simp only[J1]at h1;split at h1
   ·rename_i S2 h2;exact gS hm hC h2 ⟨⟨(v,S2),h1⟩,Nat.lt_succ_self v,aH.refl _⟩
   ·rename_i l6;refine gS hm hC h1 ?_;cases e with
    |normal=>exact absurd h1 (l6 _)
    |_=>exact hQ
 |.exit id,S,S',e,Q,h,hQ=>by simp only[iF]at h;cases h;exact aZ hQ
 |.ret,S,S',e,Q,h,hQ=>by simp only[iF]at h;cases h;exact ak hQ
def aaJ (mS:Mem) (n0:Nat) (v:AV) (ids:List Nat):Option (AV×Mem):=
 if bC (Nat.max n0 (aw (eE mS ids))) (sj ids)&&(bE (ag (sj ids)) v&&J0 ids (eE mS ids))then some (v,eE mS ids)else none
def Ts (P:Program) (rs:Array ResultVar) (m:Mem) (S:St):Option (AV×Mem):=
 match bB P rs S with
 |some v=>match qV v++m.map (·.1)with
  | []=>some (v,[])
  |is=>aaJ S.m (aw m) v (zt S.m 1000000 is [])
 |none=>none
def aaK (P:Program) (rs:Array ResultVar) (m:Mem):Option (Exit×St)->Option (AV×Mem)
 |some (.normal,S)=>Ts P rs m S
 |some (.ret,S)=>Ts P rs m S
 |_=>none
abbrev Dl:=Nat->List AV->Option AV
def wB (P:Program) (T:Dl):Prop:=∀f args v,T f args=some v->Pure P f args v
def orX (T:Dl) (C:jM):jM:=λf args m=>match m with
 | []=>match T f args with
   |some v=>some (v,[])
   |none=>C f args []
 |m=>C f args m
theorem XK {P:Program} {T:Dl} {C:jM} (hT:wB P T) (hC:mO P C):mO P (orX T C):=by
 intro f args m v m' h;unfold orX at h;split at h
 ·split at h
  ·rename_i v1 h1;cases h;exact hT _ _ _ h1
  ·exact hC _ _ _ _ _ h
 ·exact hC _ _ _ _ _ h
def Ir (P:Program) (T:Dl):Nat->jM
 |0=>λ_ _ _=>none
 |u+1=>orX T λf args m=>match P.funcs[f]?with
  |none=>none
  |some fn=>match fn.body.bind (ct P fn.ntmps)with
   |none=>none
   |some c=>if args.length<=fn.ntmps then aaK P fn.results m (iF P (Ir P T u) (aw m) 1000000 c ⟨IA 0 args,m,aw m⟩)else none
theorem Tt:∀{v:AV},qV v=[]->bE (λ_=>none) v=true:=by
 intro v
 suffices h:(∀v:AV,qV v=[]->bE (λ_=>none) v=true)/\∀l:List AV,wR l=[]->bF (λ_=>none) l=true from h.1 v
 refine⟨λv=>?_,λl=>?_⟩
 ·exact AV.rec (motive_1:=λv=>qV v=[]->bE (λ_=>none) v=true) (motive_2:=λl=>wR l=[]->bF (λ_=>none) l=true)
   (λ_ _=>rfl) (λ_ _ h=>by simp[qV]at h) (λ_ _ h=>by simp[qV]at h) (λ_ _=>rfl) (λ_ _ _ _ h=>by simp[qV]at h) (λ_ _ _ h=>by simp[qV]at h)
   (λ_ _ ih h=>ih h) (λ_ ih h=>ih h) (λ_ ih h=>ih h) (λ_ h=>by simp[qV]at h) (λ_ _=>rfl) (λ_=>rfl)
   (λ_=>rfl) (λx l ih1 ih2 h=>by
    simp only[wR]at h;split at h;·rename_i hx;simp only[bF,ih1 hx,ih2 h,adg]
    ·rename_i hx;exact absurd (List.append_eq_nil_iff.1 h).1 hx) v
 ·exact AV.rec_1 (motive_1:=λv=>qV v=[]->bE (λ_=>none) v=true) (motive_2:=λl=>wR l=[]->bF (λ_=>none) l=true)
   (λ_ _=>rfl) (λ_ _ h=>by simp[qV]at h) (λ_ _ h=>by simp[qV]at h) (λ_ _=>rfl) (λ_ _ _ _ h=>by simp[qV]at h) (λ_ _ _ h=>by simp[qV]at h)
   (λ_ _ ih h=>ih h) (λ_ ih h=>ih h) (λ_ ih h=>ih h) (λ_ h=>by simp[qV]at h) (λ_ _=>rfl) (λ_=>rfl)
   (λ_=>rfl) (λx l ih1 ih2 h=>by
    simp only[wR]at h;split at h;·rename_i hx;simp only[bF,ih1 hx,ih2 h,adg]
    ·rename_i hx;exact absurd (List.append_eq_nil_iff.1 h).1 hx) l
theorem Dm {P:Program} {T:Dl} (hm:P.follows .mixedOrders=true) (hT:wB P T):∀u,mO P (Ir P T u)
 |0=>λ_ _ _ _ _ h=>by cases h
 |u+1=>by
  refine XK hT ?_;intro f args m v m' h;simp only at h;split at h;·cases h
  ·rename_i fn hf;split at h;·cases h
   ·rename_i c hc;split at h
    ·rename_i hl;rw[Option.bind_eq_some_iff]at hc;obtain⟨code,hb,nV⟩:=hc;have key:∀e S,(e=.normal\/e=.ret)->iF P (Ir P T u) (aw m) 1000000 c ⟨IA 0 args,m,aw m⟩=some (e,S)->Ts P fn.results m S=some (v,m')->bT P f args m λr m1=>r=v/\m1=m':=by
      intro e S he hx nP;have fin:∀ids,bB P fn.results S=some v->m'=eE S.m ids->bC (Nat.max (aw m) (aw (eE S.m ids))) (sj ids)=true->bE (ag (sj ids)) v=true->J0 ids (eE S.m ids)=true->bT P f args m λr m1=>r=v/\m1=m':=by
       rintro ids h1 rfl h2 h3 h4;exact Im ids hf hb hl h2 h3 h4 (gS hm (Dm hm hT u) hx ⟨he,h1,rfl⟩ code nV)
      unfold Ts at nP;split at nP
      ·rename_i v1 Kd;split at nP
       ·rename_i acz;cases nP;exact fin [] Kd rfl rfl (Tt (List.append_eq_nil_iff.1 acz).1) rfl
       ·unfold aaJ at nP;split at nP
        ·rename_i Tu;cases nP;simp only[adn]at Tu;exact fin _ Kd rfl Tu.1 Tu.2.1 Tu.2.2
        ·cases nP
      ·cases nP
     unfold aaK at h;split at h;·rename_i S hx;exact key _ S (.inl rfl) hx h
     ·rename_i S hx;exact key _ S (.inr rfl) hx h
     ·cases h
    ·cases h
def dvL:List AV->Option (List DV)
 | []=>some []
 |.d x::r=>match dvL r with
  |some l=>some (x::l)
  |none=>none
 |_::_=>none
theorem QU:∀{l:List AV} {ds:List DV},dvL l=some ds->l=ds.map .d
 | [],ds,h=>by cases h;rfl
 |.d x::r,ds,h=>by
  simp only[dvL]at h;split at h
  ·rename_i l h1;cases h;rw[QU h1];rfl
  ·cases h
 |.ptr ..::_,_,h=>by cases h
 |.r8 ..::_,_,h=>by cases h
 |.bj ..::_,_,h=>by cases h
 |.sl ..::_,_,h=>by cases h
 |.uh ..::_,_,h=>by cases h
 |.fn ..::_,_,h=>by cases h
 |.agg ..::_,_,h=>by cases h
 |.cu ..::_,_,h=>by cases h
 |.oZ ..::_,_,h=>by cases h
 |.ui ..::_,_,h=>by cases h
 |.any::_,_,h=>by cases h
def Tv (m:Mem) (Z0:Zs):Zs->Bool
 | []=>true
 |(id,ds)::r=>(match ai m id with
  |some cs=>match dvL (dn (λ_=>none) (bI Z0) cs)with
   |some IH=>L7 IH ds
   |none=>false
  |none=>false)&&Tv m Z0 r
theorem J2 {m:Mem} {Z0:Zs}:∀{Z:Zs},Tv m Z0 Z=true->bD m Z0 Z
 | [],_=>trivial
 |(id,ds)::r,h=>by
  simp only[Tv,adn]at h;simp only[bD];refine⟨?_,J2 h.2⟩;have h1:=h.1;split at h1
  ·rename_i cs b9;rw[b9];split at h1
   ·rename_i IH hd;rw[<-xu h1];exact QU hd
   ·cases h1
  ·cases h1
def zsX (Z:Zs):Mem->Zs
 | []=>[]
 |(id,cs)::r=>match dvL (dn (λ_=>none) (bI Z) cs)with
  |some ds=>(id,ds)::zsX Z r
  |none=>zsX Z r
def zsN:Nat->Mem->Zs
 |0,_=>[]
 |k+1,m=>zsX (zsN k m) m
def aaL (m:Mem) (v v0:AV) (Z:Zs):Bool:=Tv m Z Z&&eqA (v0.cv (λ_=>none) (bI Z)) v
def Gg (P:Program) (T:Dl) (u z f:Nat) (args:List AV) (v:AV):Bool:=
 match Ir P T u f args []with
 |some (v0,m)=>aaL m v v0 (zsN z m)
 |none=>false
theorem Aj {P:Program} {f:Nat} {args:List AV} {v0 v:AV} {m':Mem} (Z:Zs) (h:bT P f args [] λr m1=>r=v0/\m1=m') (hz:bD m' Z Z) (hv:v0.cv (λ_=>none) (bI Z)=v):Pure P f args v:=by
 intro c w vs hr hM fG;refine(h c w vs hr hM fG).mono ?_;rintro e w' ⟨u,r,m1,c1,rfl,⟨rfl,rfl⟩,jH,TF,hs,rz,_,_⟩;have Rf:∀id,(bI Z id).isSome->(ai m1 id).isSome:=λid h=>by
  obtain⟨ds,DB⟩:=adv.1 h;obtain⟨cs,b9,_⟩:=nZ hz id ds DB;rw[b9];rfl
 refine⟨u,v,[],c1.jn [] Z,rfl,⟨rfl,rfl⟩,?_,⟨(λ_ _ h=>nomatch h),(λ_ _ _ h=>nomatch h),λb hb=>?_,TF.lC (λ_ h=>.inl h) λ_ _=>rfl⟩,
  ⟨hs.os,hs.tape,hs.output,hs.size,hs.cI,hs.rows,λb hb=>.inl (hs.dm b hb),λb hb=>?_⟩,(λb ⟨_,h,_⟩=>nomatch h),(λ_ h=>nomatch h),λ_ _=>rfl⟩
 ·have:=G3 (π:=[]) (nb:=0) rfl TF hz _ _ jH;rw[<-hv];exact this
 ·rcases hb with h1|⟨id,h1,h2⟩;·exact TF.dm b h1
  ·exact TF.iK ⟨id,Rf id h1,gT.gl h2⟩
 ·rcases hb with h1|⟨id,h1,h2⟩;·exact hs.sk b h1
  ·exact .inr (rz b ⟨id,Rf id h1,gT.gl h2⟩)
theorem pure_run {P:Program} {T:Dl} {f:Nat} {args:List AV} {v:AV} (u z:Nat) (hm:P.follows .mixedOrders=true) (hT:wB P T) (h:Gg P T u z f args v=true):Pure P f args v:=by
 unfold Gg at h;split at h
 ·rename_i v0 m hf;simp only[aaL,adn]at h;exact Aj _ (Dm hm hT u _ _ _ _ _ hf) (J2 h.1) (Io h.2)
 ·cases h
abbrev r7:=Nat×List AV×AV
def zu:List r7->Dl
 | [],_,_=>none
 |e::r,f,args=>if e.1=f then(match Gc e.2.1 args with
  |true=>some e.2.2
  |false=>zu r f args)else zu r f args
theorem my {P:Program}:∀{L:List r7},(∀e∈L,Pure P e.1 e.2.1 e.2.2)->wB P (zu L)
 | [],_=>λ_ _ _ h=>by cases h
 |e::r,hL=>λf args v h=>by
  have ih:=my (L:=r) (λe he=>hL e (adx _ he)) f args v;simp only[zu]at h;split at h
  ·rename_i hf;split at h
   ·rename_i he;cases h;have:=hL e adw;rwa[tH he,hf]at this
   ·exact ih h
  ·exact ih h
def J3 (P:Program) (rs:Array ResultVar) (v:AV) (S:St):Bool:=match bB P rs S with
 |some u=>eqA u v
 |none=>false
def QV (P:Program) (rs:Array ResultVar) (v:AV):Option (Exit×St)->Bool
 |some (.normal,S)=>J3 P rs v S
 |some (.ret,S)=>J3 P rs v S
 |_=>false
theorem Tw {P:Program} {T:Dl} {n0 k:Nat} {c:aG} {S:St} {rs:Array ResultVar} {v:AV} (u u2:Nat) (hm:P.follows .mixedOrders=true) (hT:wB P T) (hv:bE (λ_=>none) v=true)
 (h:QV P rs v (iF P (Ir P T u) n0 u2 c S)=true):fN P n0 k c S (mZ P rs n0 λr m'=>r=v/\m'=[]):=by
 have key:∀e S',(e=.normal\/e=.ret)->iF P (Ir P T u) n0 u2 c S=some (e,S')->J3 P rs v S'=true->fN P n0 k c S (mZ P rs n0 λr m'=>r=v/\m'=[]):=by
  intro e S' he hx nP;unfold J3 at nP;split at nP
  ·rename_i u1 hu;have e1:=Io nP;subst e1;refine gS hm (Dm hm hT u) hx ?_;have:∃w,bB P rs S'=some w/\∃π m',bC (Nat.max n0 (aw m')) π=true/\jt n0 π=true/\aL π S'.m m'/\(w.aC (ag π)=u1/\m'=[]):=
    ⟨u1,hu,[],[],rfl,rfl,trivial,lM _ hv,rfl⟩
   rcases he with rfl|rfl;·exact this
   ·exact this
  ·cases nP
 unfold QV at h;split at h;·rename_i S' hx;exact key _ S' (.inl rfl) hx h
 ·rename_i S' hx;exact key _ S' (.inr rfl) hx h
 ·cases h
def QW:aG->aG
 |.seq _ b=>b
 |c=>c
end Go.Jq
namespace Go.Proofs.YtjfdjkageiemkaaGreatDoor
open Go.Proofs.Tryz
open Go.Proofs.Tryz renaming prog → aM
section
open Go Go.Jq
theorem oK:aM.follows .mixedOrders=true:=by kernel_rfl
theorem fam {p:Nat->Bool} (h:(ac7 14).all p=true) {k:Nat} (hk:k<14):p k=true:=List.all_eq_true.1 h k (List.mem_range.2 hk)
def nmV (k:Nat):List AV:=[.d (.str (gR k).name)]
def Ms (k:Nat):AV:=.agg ((Tq (gR k)).map .d)
def aaM:AV:=.d (.sl 14 (Tp.flatMap Tq))
def XL:AV:=.d (.bool true)
def pgD (p:Prog):List DV:=[aR p.aE,.sl p.init.length (lp p.init),.sl p.threads.length (lq p.threads)]
def pgV (k:Nat):AV:=.agg ((pgD (dE (gR k))).map .d)
theorem noE {P:Program}:∀e∈([]:List r7),Pure P e.1 e.2.1 e.2.2:=λ_ h=>nomatch h
theorem aaN {P:Program} {f:Nat} {a:List AV} {v:AV} (h:Pure P f a v):∀e∈ [((f,a,v):r7)],Pure P e.1 e.2.1 e.2.2:=λe he=>by
 rw[List.mem_singleton]at he;subst he;exact h
theorem J4 {P:Program} {f:Nat} {a:List AV} {v:AV} {L:List r7} (h:Pure P f a v) (hl:∀e∈L,Pure P e.1 e.2.1 e.2.2):∀e∈((f,a,v):r7)::L,Pure P e.1 e.2.1 e.2.2:=λe he=>by
 rcases List.mem_cons.1 he with rfl|he;·exact h
 ·exact hl e he
theorem QX {P:Program} {L M:List r7} (h:∀e∈L,Pure P e.1 e.2.1 e.2.2) (hl:∀e∈M,Pure P e.1 e.2.1 e.2.2):∀e∈L++M,Pure P e.1 e.2.1 e.2.2:=λe he=>by
 rcases List.mem_append.1 he with he|he;·exact h e he
 ·exact hl e he
theorem L8 {P:Program} {g:Nat->r7} (h:∀k,k<14->Pure P (g k).1 (g k).2.1 (g k).2.2):∀e∈(ac7 14).map g,Pure P e.1 e.2.1 e.2.2:=λe he=>by
 obtain⟨k,hk,rfl⟩:=List.mem_map.1 he;exact h k (List.mem_range.1 hk)
theorem Gh:Pure aM 24 [] aaM:=pure_run 10 4 oK (my noE) (by kernel_rfl)
def aaO:List r7:=[(24,[],aaM)]
theorem Dn:wB aM (zu aaO):=my (aaN Gh)
theorem Gi:((ac7 14).all λk=>Gg aM (zu aaO) 10 4 8 (nmV k) (.cu [Ms k,XL]))=true:=by kernel_rfl
theorem tJ {k:Nat} (hk:k<14):Pure aM 8 (nmV k) (.cu [Ms k,XL]):=pure_run 10 4 oK Dn (fam Gi hk)
theorem Dp:Pure aM 8 [.d (.str [122,122])] (.cu [.agg [.d (.str []),.d .cE,.d .cE,aq 0,.d .cE],.d (.bool false)]):=pure_run 10 4 oK Dn (by kernel_rfl)
theorem Ak:Pure aM 20 [] (.d (.sl 14 (Tp.map λt=>.str t.name))):=pure_run 10 4 oK Dn (by kernel_rfl)
def zw:AV:=.d (.sl 14 (Tp.map λt=>.str t.name))
def aaP:List (List UInt8):=[[48,49,49],[48,48,48],[48,48,49],[48,48,48],[48,48,48],[48,48,48],[48,48,48],[48,48,48],[48,48,49],[48,49,49],[48,48,49],[48,49,49],[48,48,48],[48,48,48]]
def Gj:AV:=.d (.sl 14 (aaP.map .str))
theorem Is:Pure aM 7 [] (.cu [zw,Gj]):=pure_run 10 4 oK (my noE) (by kernel_rfl)
theorem L9:((ac7 14).all λk=>JX (gR k)&&gQ (gR k)==0)=true:=by kernel_rfl
theorem QY {k:Nat} (hk:k<14):mE (gR k) (Tq (gR k))/\gQ (gR k)=0/\JX (gR k)=true:=by
 have:=fam L9 hk;simp only[adn,beq_iff_eq]at this;exact⟨Tr this.1,this.2,this.1⟩
def Dq (p:Prog) (m:Int) (f:Option Found) (aO:Int):Int×Option (List Int):=
 match f,explore p 1 aO with
 |some f,some g=>match f.runs.find? (fM p m (dj p 1 g.runs))with
  |some row=>(2,some row)
  |none=>(1,none)
 |_,_=>(0,none)
theorem Gk (p:Prog) (m:Int) (l:List (List Int)) (row:List Int):fM p m (ft l) row=fM p m l row:=by
 unfold fM;split;·rw[decide_eq_decide.2 qH]
 ·rfl
theorem Bx (p:Prog) (m:Int) (f:Option Found) (aO:Int):kP p m f aO=Dq p m f aO:=by
 unfold kP Dq;have h:∀l,fM p m (ft l)=fM p m l:=λl=>funext λrow=>Gk p m l row;generalize explore p 1 aO=g;cases f<;>cases g<;>first|rfl|(simp only[h];done)|(simp only[h];generalize List.find? _ _=o;cases o<;>rfl)
theorem Dr (p:Prog) (rows:List (List Atom)) (l:List (List Int)):l0 p 1 rows (ft l)=if l.any (λf=>j1 p.aE p.threads.length 1 rows f)then 1 else 2:=by
 unfold l0 QD;have:(0<(ft l).countP λf=>j1 p.aE p.threads.length 1 rows f)↔l.any (λf=>j1 p.aE p.threads.length 1 rows f)=true:=by
  rw[List.countP_pos_iff,List.any_eq_true];constructor;·rintro⟨f,h1,h2⟩;exact⟨f,qH.1 h1,h2⟩
  ·rintro⟨f,h1,h2⟩;exact⟨f,qH.2 h1,h2⟩
 rw[if_pos rfl];by_cases h:l.any (λf=>j1 p.aE p.threads.length 1 rows f)=true;·rw[if_pos (this.2 h),if_pos h]
 ·rw[if_neg (λe=>h (this.1 e)),if_neg h]
def J5:Rep:=tD (dE (gR 0)) 1 (gR 0).rows 2 1000000
def sbQ:Bool:=match explore (dE (gR 0)) 2 1000000 with
 |some f=>!decide ((Dq (dE (gR 0)) 2 (some f) 1000000).1=0)&&(dj (dE (gR 0)) 2 f.runs).any (λx=>j1 (dE (gR 0)).aE (dE (gR 0)).threads.length 1 (gR 0).rows x)
 |none=>false
theorem QZ:sbQ=true:=by unfold sbQ;kernel_rfl
theorem Q0:J5.done=true/\J5.verdict=1:=by
 have h:=QZ;unfold sbQ at h;unfold J5 tD;cases he:explore (dE (gR 0)) 2 1000000 with
 |none=>rw[he]at h;cases h
 |some f=>
  rw[he]at h;simp only[adn,Bool.not_eq_true',decide_eq_false_iff_not]at h;simp only;rw[if_neg (by rw[Bx];exact h.1)];exact⟨rfl,by rw[Dr];exact if_pos h.2⟩
def sbV:AV:=.agg ([.int .i64 0,.int .i64 0,.bool true,aR (dE (gR 0)).aE,.sl (dE (gR 0)).init.length (lp (dE (gR 0)).init),.sl (dE (gR 0)).threads.length (lq (dE (gR 0)).threads),oY J5,.int .i64 1,.int .i64 J5.H7,mM J5.witness,.int .i64 J5.runs,.int .i64 J5.blocked].map .d)
theorem Tx:Pure aM 43 [Ms 0,aq 2,aq 1000000] sbV:=by
 obtain⟨h1,h2,h3⟩:=QY (k:=0) (by omega);have:=Tl h1 (by decide) (by decide) 1000000 h2 (Tn h2) (zq h2) (m:=2) (by omega) (by omega);have e:qU (dE (gR 0)) (tD (dE (gR 0)) (gR 0).kind (gR 0).rows 2 1000000)=[.int .i64 0,.int .i64 0,.bool true,aR (dE (gR 0)).aE,.sl (dE (gR 0)).init.length (lp (dE (gR 0)).init),.sl (dE (gR 0)).threads.length (lq (dE (gR 0)).threads),oY J5,.int .i64 1,.int .i64 J5.H7,mM J5.witness,.int .i64 J5.runs,.int .i64 J5.blocked]:=by
  show qU (dE (gR 0)) J5=_;unfold qU;rw[Q0.1,Q0.2]
 rw[e]at this;exact this
def awE:List r7:=[(8,nmV 0,.cu [Ms 0,XL]),(8,[.d (.str [122,122])],.cu [.agg [.d (.str []),.d .cE,.d .cE,aq 0,.d .cE],.d (.bool false)]),(20,[],zw),(43,[Ms 0,aq 2,aq 1000000],sbV)]
theorem XM:wB aM (zu awE):=my (J4 (tJ (by omega)) (J4 Dp (J4 Ak (aaN Tx))))
theorem Dt:Pure aM 12 [] XL:=pure_run 10 4 oK XM (by kernel_rfl)
theorem Al {p:Prog} {I T:DV} (hI:fJ p.init I) (hT:cP Ins.cells p.threads T) (h:zA p) {m:Int} (um:1<=m) (uo:m<=3) (aO:Int):
 Pure aM 16 [.agg [.d (aR p.aE),.d I,.d T],aq m,aq aO] (mN (kP p m (explore p m aO) aO)):=by
 have ke:=oB hI hT h um uo aO;have P0:=λf (h:explore p m aO=some f)=>j6 h;have ks:=zi hI hT h um uo P0 aO;generalize explore p m aO=res at*;have qZ:bF (λ_=>none) ((ik res).map .d)=true:=cT _ _;generalize kP p m res aO=s at*;obtain⟨s1,s2⟩:=s;unfold mN at*;refine ay func16 Sc ntmps16 results16 rfl ?_;unfold Z2;refine J λK hK=>?_;simp-implicitDefEqProofs only[go_sem];apply hK;refine aa λK hK=>az rfl rfl ?_;simp-implicitDefEqProofs only[go_sem,aP];refine ea ke ?_;simp-implicitDefEqProofs only[go_sem];refine ea ks ?_;simp-implicitDefEqProofs only[go_sem];refine⟨rfl,hK _ ?_⟩;apply ak
 exact⟨.cu [aq s1,.d (mM s2)],by simp[bB,aV,bK,ah,ai,an,aB],[],[],rfl,rfl,by simp[aL,aI,ai,an,aB,aj,AV.aC,ag,ae,-acU],by simp[AV.aC,aj,ag]⟩
def acA (k:Nat) (m:Int):AV:=mN (Dq (dE (gR k)) m (explore (dE (gR k)) m 2000000) 2000000)
def Ma (k:Nat) (m:Int):r7:=(16,[pgV k,aq m,aq 2000000],acA k m)
theorem Du {k:Nat} (hk:k<14) {m:Int} (h1:1<=m) (h3:m<=3):Pure aM (Ma k m).1 (Ma k m).2.1 (Ma k m).2.2:=by
 obtain⟨_,h2,_⟩:=QY hk;obtain⟨hI,zQ⟩:=Bp (zq h2);have:=Al hI zQ (zq h2) h1 h3 2000000;rw[Bx]at this;exact this
theorem Dv:((ac7 14).all λk=>Gg aM (zu []) 20 4 9 [Ms k] (aq 0))=true:=by kernel_rfl
theorem Am {k:Nat} (hk:k<14):Pure aM 9 [Ms k] (aq 0):=pure_run 20 4 oK (my noE) (fam Dv hk)
theorem Gl:((ac7 14).all λk=>Gg aM (zu []) 20 4 10 [Ms k] (pgV k))=true:=by kernel_rfl
theorem Dw {k:Nat} (hk:k<14):Pure aM 10 [Ms k] (pgV k):=pure_run 20 4 oK (my noE) (fam Gl hk)
def aaQ:List r7:=(12,[],XL)::((ac7 14).map (λk=>((8,nmV k,.cu [Ms k,XL]):r7))++((ac7 14).map (λk=>((9,[Ms k],aq 0):r7))++
 ((ac7 14).map (λk=>((10,[Ms k],pgV k):r7))++((ac7 14).map (λk=>Ma k 1)++((ac7 14).map (λk=>Ma k 2)++(ac7 14).map λk=>Ma k 3)))))
theorem Ty:wB aM (zu aaQ):=my (J4 Dt (QX (L8 λ_ hk=>tJ hk) (QX (L8 λ_ hk=>Am hk) (QX (L8 λ_ hk=>Dw hk)
 (QX (L8 λ_ hk=>Du hk (by decide) (by decide)) (QX (L8 λ_ hk=>Du hk (by decide) (by decide)) (L8 λ_ hk=>Du hk (by decide) (by decide))))))))
def Tz (j m:Nat):St:=⟨[(0,aq (j:Int)),(1,aq (m:Int)),(4,.d (.bool false)),(5,zw),(6,Gj)],[],0⟩
theorem TA:((ac7 14).all λj=>(ac7 3).all λm=>QV aM #[.tmp 4] XL (iF aM (Ir aM (zu aaQ) 20) 0 1000 (QW (QW (QW ac4))) (Tz j (m+1))))=true:=by kernel_rfl
theorem tK {k0 m0:Int} (_:ZW k0) (_:ZW m0):Pure aM 4 [aq k0,aq m0] (.d (.bool true)):=by
 have hk:=IF k0;have hm:=IF m0;have S0:=IG k0;have hm2:=IG m0;generalize wJ k0=q at*;generalize wJ m0=r at*;have hmw:ac9.wrap (((r%3:Nat):Int)+1)=((r%3+1:Nat):Int):=by rw[wrap_i64 (by omega) (by omega)];rfl
 have htm:((r:Int).tmod 3)=((r%3:Nat):Int):=rfl;have vP:((q:Int).tmod 14)=((q%14:Nat):Int):=rfl;have WW:ir zw=some 14:=rfl;have dh:bE (λ_=>none) zw=true:=rfl;have MP:bE (λ_=>none) Gj=true:=rfl;have hrn:zw.aC (λ_=>none)=zw:=lM _ dh;have GR:Gj.aC (λ_=>none)=Gj:=lM _ MP;have ck:=List.all_eq_true.1 (fam TA (k:=q%14) (by omega)) (r%3) (List.mem_range.2 (by omega));generalize q%14=j at*;generalize r%3=m at*;refine ay func4 WX ntmps4 results4 rfl ?_;unfold ac4;refine J λK hK=>?_;simp-implicitDefEqProofs only[go_sem];refine hK _ (J λK hK=>?_);simp-implicitDefEqProofs only[go_sem]
 refine aF Is rfl rfl ?_;simp-implicitDefEqProofs only[go_sem];refine hK _ (J λK hK=>?_);simp-implicitDefEqProofs only[go_sem,hk,hm,htm,vP,hmw,WW];apply hK;refine ax (S':=Tz j (m+1)) (aH.cN [] ⟨by simp[bm,ah,AV.aC,aj,ag,Tz,hrn,GR],by simp[aL,aI,ai,an,aj,AV.aC,ag,ae,-acU,Tz,hrn,GR],rfl,rfl⟩) ?_;exact Tw 20 1000 oK Ty rfl ck
end
section
open Go Go.ChangeAt Go.ChangeShapes Go.Jq Go.RowKit Go.WideShapes
theorem own:ownKnob aM.godebug=none:=by kernel_rfl
theorem laidOut:laidOutB aM=true:=by kernel_rfl
def Ek:List (String×DataW Unit):= [("math/bits.deBruijn64tab",Rows.laid_math_bits_deBruijn64tab)]
theorem Ny (os:Os) (args:Array Value):laidMetH aM Ek ((World.doorLaid aM 400 os).forCall (λ_ _=>0) ⟨#[],args,[]⟩).memory:=
 laidMetH_of_parts3 (fuel:=8) (laidMet_of_run' 8 (by kernel_rfl) (by kernel_rfl)) (by kernel_rfl) (by kernel_rfl)
set_option maxRecDepth 100000 in
theorem El {W:World} (h:laidMetH aM Ek W):∀g Φ,J7 g=some Φ->∃cs T f,W.heap[g]?=some (.cells cs T f)/\Φ cs:=by
 rw[MakeChecks.laidMetH_plain _ _ _ (by kernel_rfl)]at h;obtain⟨ps,⟨g1,t1,cs1,f1,p1,q1,BX,ht1,Kd,hd1,_,_⟩,_,_⟩:=h;have gD: aM.globalNamed "math/bits.deBruijn64tab"=some 0:=by kernel_rfl
 obtain rfl:=Option.some.inj (gD.symm.trans BX);have tyd:(aM.globals[0]?).map (·.type)=some 321:=by kernel_rfl
 obtain rfl:=Option.some.inj (tyd.symm.trans ht1);have ab1:=Lib.cells_of_tab (n:=64) (e:=5) (k:=.u8) (zs:=[0,1,56,2,57,49,28,3,61,58,42,50,38,29,17,4,62,47,59,36,45,43,51,22,53,39,33,30,24,18,12,5,63,55,48,27,60,41,37,16,46,35,44,21,52,32,23,11,54,26,40,15,34,20,31,10,25,14,19,9,13,8,7,6]) (by kernel_rfl) (by kernel_rfl) (by kernel_rfl) (by kernel_rfl) hd1;unfold World.var? at Kd;rw[gD]at Kd;simp only[Option.bind_some]at Kd;have row:∀{b:Nat} {cs:Array Value},(match W.heap[b]?with|some (Obj.cells cs _ _)=>some cs|_=>none)=some cs->∃T f,W.heap[b]?=some (.cells cs T f):=by
  intro b cs h;split at h
  ·rename_i c T f hc;obtain rfl:=Option.some.inj h;exact⟨T,f,hc⟩
  ·cases h
 obtain⟨T1,f1',r1⟩:=row Kd;intro g Φ hg;simp only[J7]at hg;split at hg
 ·rename_i h0;subst h0;refine⟨_,_,_,r1,?_⟩;obtain rfl:=Option.some.inj hg;show cs1=_;apply Array.ext';rw[ab1];rfl
 ·cases hg
end
end Go.Proofs.YtjfdjkageiemkaaGreatDoor
