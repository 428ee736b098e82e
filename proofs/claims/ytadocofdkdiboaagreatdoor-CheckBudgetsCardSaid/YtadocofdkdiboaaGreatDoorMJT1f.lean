/- What the statement's proof leans on, part 6: the layer, the walks, the plain laws. Names and blanks are short to keep the claim within its limit of bytes. -/
import Derived.Test.YtadocofdkdiboaaGreatDoorMJT1e
import Derived.Test.YtadocofdkdiboaaGreatDoorMJT1c
import Derived.Lib.IndexLaws
import Derived.Lib.ItoaMem
import Derived.Test.YtadocofdkdiboaaGreatDoorMJT1d
set_option linter.unusedSimpArgs false
set_option linter.unusedVariables false
set_option maxRecDepth 100000
open List renaming map_map → alh, length_map → alk, length_append → aln, length_cons → alu, getElem?_eq_getElem → alw, take_of_length_le → alx, map_cons → alz, length_nil → alB, getD_eq_getElem?_getD → alC, map_nil → alL, flatMap_cons → alO, getElem_mem → alR, mem_cons_self → alU, mem_cons → alW, mem_cons_of_mem → alY, map_append → al1, any_eq_false → al3, eq_nil_of_length_eq_zero → amb
open Nat renaming le_refl → ali, zero_add → alo, mul_one → alV, zero_le → alZ
open Int renaming toNat_natCast → alj, natCast_nonneg → alm
open Go.IntKind renaming i64 → alv
open Bool renaming and_eq_true → alE, and_self → alF, not_true → alT, not_false → al7
open Option renaming isSome_none → alD, isSome_some → alH, map_some → alX
open Option.some renaming inj → al9
open Subtype renaming val → al4
open Prod.mk renaming injEq → ama
namespace Go.Proofs.YtadocofdkdiboaaGreatDoor
open Go.Proofs.Tryz
open Go.Proofs.Tryz renaming prog → aK
section
open Go Go.Jq
theorem YX (l:List UInt8) (c:UInt8):Pure aK 272 [.d (.str l),.d (.int .u8 c.toNat)] (au (Lib.indexByte l c)):=by
 refine mL λcx w vs hr hM=>?_;simp only[bg,Rel,dS]at hr;obtain⟨v1,vs1,rfl,rfl,v2,vs2,rfl,rfl,rfl⟩:=hr;refine(Tryz.strings_IndexByte ⟨l.toArray⟩ c.toNat w).mono ?_;rintro e w' ⟨rfl,rfl⟩;refine⟨_,rfl,rfl,rfl,rfl,ali _,λ_ _=>rfl,?_⟩;simp[Rel,dS]
theorem Qw (l:List UInt8) (c:UInt8):0<=Lib.indexByte l c↔c∈l:=by
 have hg:=Lib.indexByte_ge l c;constructor
 ·intro h;obtain⟨o,ho⟩:∃o:Nat,Lib.indexByte l c=o:=⟨(Lib.indexByte l c).toNat,by omega⟩;exact List.mem_of_getElem? (Lib.indexByte_some ho).1
 ·intro h;obtain⟨k,hk,e⟩:=List.getElem_of_mem h;rcases Int.lt_or_le (Lib.indexByte l c) 0 with h1|h1
  ·have:Lib.indexByte l c=-1:=by omega
   exact absurd (by rw[alw hk,e]) (Lib.indexByte_none this k)
  ·exact h1
def plain:List UInt8:=[123,125,59,58,43,45,42,38,124,94]
theorem YY (c:UInt8):c∈afX↔c∈plain\/c=60\/c=61:=by
 simp only[afX,plain,alW,List.not_mem_nil,or_false];constructor;·rintro(h|h|h|h|h|h|h|h|h|h|h|h)<;>simp[h]
 ·rintro((h|h|h|h|h|h|h|h|h|h)|h|h)<;>simp[h]
def sgQ (s:List UInt8) (a rd:Nat) (r:AV) (m':Mem):Prop:=
 r=.d (.str ((s.drop a).take (ed (s.drop a))))/\∃eE,(rd<=eE/\a+1<=eE/\eE<=s.length/\(ed (s.drop a)≠0->a+ed (s.drop a)<=eE/\eE<=max rd (a+ed (s.drop a)+1)))/\m'=[(0,aU s a eE 0 0)]
set_option maxHeartbeats 16000000 in
theorem OH {s:List UInt8} (hs:s.length<=140737488351232) {a rd:Nat} (ha:a<s.length) (hr:a<=rd/\rd<=s.length):
 bB aK 222 [.ptr 0 0] [(0,aU s a rd 0 0)] (sgQ s a rd):=by
 have hd:=mT ha;have qC:alv.wrap ((a:Int)+1)=((a+1:Nat):Int):=by rw[wrap_i64 (by omega) (by omega)];rfl
 have Wf:=OD (rd:=rd) ha;refine ay func222 Vt ntmps222 results222 rfl ?_;unfold acQ;refine J λK hK=>?_;simp-implicitDefEqProofs only[go_sem];refine hK _ (J λK hK=>?_);simp-implicitDefEqProofs only[go_sem,aU];refine gP hs a rd 0 0 a rfl ?_;generalize hc:s.getD a 0=c at hd;rw[Wf];generalize jX:max rd (a+1)=uV;simp-implicitDefEqProofs only[go_sem,aU,ak];apply hK;refine aa λK1 aT=>?_;refine J λK hK=>?_;simp-implicitDefEqProofs only[go_sem];apply hK;apply ax;refine aa λK2 eX=>?_;by_cases E4:(c.toNat:Int)=60
 ·have GL:=vR (k:=60) E4;refine J λK hK=>?_;simp-implicitDefEqProofs only[go_sem,E4];apply hK;refine aM ?_;apply ar;apply eX;refine aM ?_;refine J λK hK=>?_;simp-implicitDefEqProofs only[go_sem,qC];refine gP hs a uV 0 0 (a+1) rfl ?_;obtain⟨mF,hr2,q1,q2,q3,q4⟩:∃mF,BR s uV (a+1)=mF/\uV<=mF/\mF<=s.length/\mF<=max rd (a+2)/\(a+1<s.length->a+2<=mF):=⟨_,rfl,by unfold BR;split<;>omega⟩;rw[hr2];generalize Al:s.getD (a+1) 0=d;simp-implicitDefEqProofs only[go_sem,aU,ak];apply hK;by_cases BS:(d.toNat:Int)=60
  ·have Hd:=vR (k:=60) BS;have du:a+1<s.length:=by
    rcases Nat.lt_or_ge (a+1) s.length with h|h;·exact h
    ·rw[alC,List.getElem?_eq_none (by omega)]at Al;rw[<-Al]at Hd;cases Hd
   have G5:=mT du;rw[Al,Hd]at G5;have tr:ed (s.drop a)=2:=by rw[hd,G5,GL];rfl
   have wC:alv.wrap ((a:Int)+2)=((a+2:Nat):Int):=by rw[wrap_i64 (by omega) (by omega)];rfl
   have b0:(0:Int)<=(a:Int):=alm _;have b1:(0:Int)<=((a+2:Nat):Int):=alm _;have b2:a<=a+2:=by omega
   have b3:a+2<=s.length:=by omega
   have iw:(s.take (a+2)).drop a=(s.drop a).take 2:=by rw[List.drop_take];congr 1;omega
   refine J λK hK=>?_;simp-implicitDefEqProofs only[go_sem,E4,BS];apply hK;refine aa λK3 wc=>?_;apply ax;refine J λK hK=>?_;simp-implicitDefEqProofs only[go_sem];apply hK;refine aM ?_;refine aa λK hK=>az rfl rfl ?_;simp-implicitDefEqProofs only[go_sem,wC,b0,b1,b2,b3,alj,iw];refine⟨rfl,hK _ ?_⟩;apply an;simp only[go_sem];refine bO (.d (.str ((s.drop a).take (ed (s.drop a))))) [(0,0)] [(0,aU s a mF 0 0)] ?_ rfl rfl ?_ ⟨rfl,mF,⟨by omega,by omega,by omega,λ_=>by rw[tr];omega⟩,rfl⟩;·simp[bj,aP,bt,ah,tr]
   ·simp[aL,aF,ai,ak,aj,AV.aA,aU]
  ·have Rk:=xU (k:=60) BS;have tr:ed (s.drop a)=1:=by
    rw[hd,GL,ed,if_neg,if_pos (by decide)];have hh:¬s[a+1]?=some 60:=by
     intro h;apply Rk;rw[<-Al,alC,h];rfl
    simp[hh]
   refine J λK hK=>?_;simp-implicitDefEqProofs only[go_sem,E4,BS];apply hK;refine aa λK3 wc=>?_;apply ax;refine J λK hK=>?_;simp-implicitDefEqProofs only[go_sem];apply hK;refine aH ?_;refine J λK hK=>?_;simp-implicitDefEqProofs only[go_sem,E4];apply hK;refine aH ?_;apply ar;refine wc _ (J λK hK=>?_);simp-implicitDefEqProofs only[go_sem,E4];apply hK;apply an;simp only[go_sem];refine bO (.d (.str ((s.drop a).take (ed (s.drop a))))) [(0,0)] [(0,aU s a mF 0 0)] ?_ rfl rfl ?_ ⟨rfl,mF,⟨by omega,by omega,by omega,λ_=>by rw[tr];omega⟩,rfl⟩
   ·rw[tr,hd,GL];simp[bj,aP,bt,ah];rfl
   ·simp[aL,aF,ai,ak,aj,AV.aA,aU]
 by_cases Mp:(c.toNat:Int)=62
 ·have GL:=vR (k:=62) Mp;refine J λK hK=>?_;simp-implicitDefEqProofs only[go_sem,E4];apply hK;refine aH ?_;refine J λK hK=>?_;simp-implicitDefEqProofs only[go_sem,Mp];apply hK;refine aM ?_;apply ar;apply eX;refine aM ?_;refine J λK hK=>?_;simp-implicitDefEqProofs only[go_sem,qC];refine gP hs a uV 0 0 (a+1) rfl ?_;obtain⟨mF,hr2,q1,q2,q3,q4⟩:∃mF,BR s uV (a+1)=mF/\uV<=mF/\mF<=s.length/\mF<=max rd (a+2)/\(a+1<s.length->a+2<=mF):=⟨_,rfl,by unfold BR;split<;>omega⟩;rw[hr2];generalize Al:s.getD (a+1) 0=d;simp-implicitDefEqProofs only[go_sem,aU,ak];apply hK;by_cases BS:(d.toNat:Int)=62
  ·have Hd:=vR (k:=62) BS;have du:a+1<s.length:=by
    rcases Nat.lt_or_ge (a+1) s.length with h|h;·exact h
    ·rw[alC,List.getElem?_eq_none (by omega)]at Al;rw[<-Al]at Hd;cases Hd
   have G5:=mT du;rw[Al,Hd]at G5;have tr:ed (s.drop a)=2:=by rw[hd,G5,GL];rfl
   have wC:alv.wrap ((a:Int)+2)=((a+2:Nat):Int):=by rw[wrap_i64 (by omega) (by omega)];rfl
   have b0:(0:Int)<=(a:Int):=alm _;have b1:(0:Int)<=((a+2:Nat):Int):=alm _;have b2:a<=a+2:=by omega
   have b3:a+2<=s.length:=by omega
   have iw:(s.take (a+2)).drop a=(s.drop a).take 2:=by rw[List.drop_take];congr 1;omega
   refine J λK hK=>?_;simp-implicitDefEqProofs only[go_sem,E4,Mp,BS];apply hK;refine aa λK3 wc=>?_;apply ax;refine J λK hK=>?_;simp-implicitDefEqProofs only[go_sem];apply hK;refine aM ?_;refine aa λK hK=>az rfl rfl ?_;simp-implicitDefEqProofs only[go_sem,wC,b0,b1,b2,b3,alj,iw];refine⟨rfl,hK _ ?_⟩;apply an;simp only[go_sem];refine bO (.d (.str ((s.drop a).take (ed (s.drop a))))) [(0,0)] [(0,aU s a mF 0 0)] ?_ rfl rfl ?_ ⟨rfl,mF,⟨by omega,by omega,by omega,λ_=>by rw[tr];omega⟩,rfl⟩;·simp[bj,aP,bt,ah,tr]
   ·simp[aL,aF,ai,ak,aj,AV.aA,aU]
  ·have Rk:=xU (k:=62) BS;have tr:ed (s.drop a)=0:=by
    rw[hd,GL,ed,if_neg,if_neg (by decide)];have hh:¬s[a+1]?=some 62:=by
     intro h;apply Rk;rw[<-Al,alC,h];rfl
    simp[hh]
   refine J λK hK=>?_;simp-implicitDefEqProofs only[go_sem,E4,Mp,BS];apply hK;refine aa λK3 wc=>?_;apply ax;refine J λK hK=>?_;simp-implicitDefEqProofs only[go_sem];apply hK;refine aH ?_;refine J λK hK=>?_;simp-implicitDefEqProofs only[go_sem,E4,Mp];apply hK;refine aM ?_;refine J λK hK=>?_;simp-implicitDefEqProofs only[go_sem];apply hK;apply an;simp only[go_sem];refine bO (.d (.str ((s.drop a).take (ed (s.drop a))))) [(0,0)] [(0,aU s a mF 0 0)] ?_ rfl rfl ?_ ⟨rfl,mF,⟨by omega,by omega,by omega,λh=>absurd tr h⟩,rfl⟩
   ·rw[tr];simp[bj,aP,bt,ah]
   ·simp[aL,aF,ai,ak,aj,AV.aA,aU]
 by_cases TP:(c.toNat:Int)=61
 ·have GL:=vR (k:=61) TP;refine J λK hK=>?_;simp-implicitDefEqProofs only[go_sem,E4];apply hK;refine aH ?_;refine J λK hK=>?_;simp-implicitDefEqProofs only[go_sem,Mp];apply hK;refine aH ?_;refine J λK hK=>?_;simp-implicitDefEqProofs only[go_sem,TP];apply hK;refine aM ?_;apply ar;apply eX;refine aM ?_;refine J λK hK=>?_;simp-implicitDefEqProofs only[go_sem,qC];refine gP hs a uV 0 0 (a+1) rfl ?_;obtain⟨mF,hr2,q1,q2,q3,q4⟩:∃mF,BR s uV (a+1)=mF/\uV<=mF/\mF<=s.length/\mF<=max rd (a+2)/\(a+1<s.length->a+2<=mF):=⟨_,rfl,by unfold BR;split<;>omega⟩;rw[hr2];generalize Al:s.getD (a+1) 0=d
  simp-implicitDefEqProofs only[go_sem,aU,ak];apply hK;by_cases BS:(d.toNat:Int)=61
  ·have Hd:=vR (k:=61) BS;have du:a+1<s.length:=by
    rcases Nat.lt_or_ge (a+1) s.length with h|h;·exact h
    ·rw[alC,List.getElem?_eq_none (by omega)]at Al;rw[<-Al]at Hd;cases Hd
   have G5:=mT du;rw[Al,Hd]at G5;have tr:ed (s.drop a)=2:=by rw[hd,G5,GL];rfl
   have wC:alv.wrap ((a:Int)+2)=((a+2:Nat):Int):=by rw[wrap_i64 (by omega) (by omega)];rfl
   have b0:(0:Int)<=(a:Int):=alm _;have b1:(0:Int)<=((a+2:Nat):Int):=alm _;have b2:a<=a+2:=by omega
   have b3:a+2<=s.length:=by omega
   have iw:(s.take (a+2)).drop a=(s.drop a).take 2:=by rw[List.drop_take];congr 1;omega
   refine J λK hK=>?_;simp-implicitDefEqProofs only[go_sem,E4,Mp,TP,BS];apply hK;refine aa λK3 wc=>?_;apply ax;refine J λK hK=>?_;simp-implicitDefEqProofs only[go_sem];apply hK;refine aM ?_;refine aa λK hK=>az rfl rfl ?_;simp-implicitDefEqProofs only[go_sem,wC,b0,b1,b2,b3,alj,iw];refine⟨rfl,hK _ ?_⟩;apply an;simp only[go_sem];refine bO (.d (.str ((s.drop a).take (ed (s.drop a))))) [(0,0)] [(0,aU s a mF 0 0)] ?_ rfl rfl ?_ ⟨rfl,mF,⟨by omega,by omega,by omega,λ_=>by rw[tr];omega⟩,rfl⟩;·simp[bj,aP,bt,ah,tr]
   ·simp[aL,aF,ai,ak,aj,AV.aA,aU]
  ·have Rk:=xU (k:=61) BS;have tr:ed (s.drop a)=1:=by
    rw[hd,GL,ed,if_neg,if_pos (by decide)];have hh:¬s[a+1]?=some 61:=by
     intro h;apply Rk;rw[<-Al,alC,h];rfl
    simp[hh]
   refine J λK hK=>?_;simp-implicitDefEqProofs only[go_sem,E4,Mp,TP,BS];apply hK;refine aa λK3 wc=>?_;apply ax;refine J λK hK=>?_;simp-implicitDefEqProofs only[go_sem];apply hK;refine aH ?_;refine J λK hK=>?_;simp-implicitDefEqProofs only[go_sem,E4,Mp,TP];apply hK;refine aH ?_;apply ar;refine wc _ (J λK hK=>?_);simp-implicitDefEqProofs only[go_sem,E4,Mp,TP];apply hK;apply an;simp only[go_sem];refine bO (.d (.str ((s.drop a).take (ed (s.drop a))))) [(0,0)] [(0,aU s a mF 0 0)] ?_ rfl rfl ?_ ⟨rfl,mF,⟨by omega,by omega,by omega,λ_=>by rw[tr];omega⟩,rfl⟩
   ·rw[tr,hd,GL];simp[bj,aP,bt,ah];rfl
   ·simp[aL,aF,ai,ak,aj,AV.aA,aU]
 by_cases h33:(c.toNat:Int)=33
 ·have GL:=vR (k:=33) h33;refine J λK hK=>?_;simp-implicitDefEqProofs only[go_sem,E4];apply hK;refine aH ?_;refine J λK hK=>?_;simp-implicitDefEqProofs only[go_sem,Mp];apply hK;refine aH ?_;refine J λK hK=>?_;simp-implicitDefEqProofs only[go_sem,TP];apply hK;refine aH ?_;refine ag rfl ?_;simp-implicitDefEqProofs only[go_sem,h33];apply eX;refine aM ?_;refine J λK hK=>?_;simp-implicitDefEqProofs only[go_sem,qC];refine gP hs a uV 0 0 (a+1) rfl ?_;obtain⟨mF,hr2,q1,q2,q3,q4⟩:∃mF,BR s uV (a+1)=mF/\uV<=mF/\mF<=s.length/\mF<=max rd (a+2)/\(a+1<s.length->a+2<=mF):=⟨_,rfl,by unfold BR;split<;>omega⟩
  rw[hr2];generalize Al:s.getD (a+1) 0=d;simp-implicitDefEqProofs only[go_sem,aU,ak];apply hK;by_cases BS:(d.toNat:Int)=61
  ·have Hd:=vR (k:=61) BS;have du:a+1<s.length:=by
    rcases Nat.lt_or_ge (a+1) s.length with h|h;·exact h
    ·rw[alC,List.getElem?_eq_none (by omega)]at Al;rw[<-Al]at Hd;cases Hd
   have G5:=mT du;rw[Al,Hd]at G5;have tr:ed (s.drop a)=2:=by rw[hd,G5,GL];rfl
   have wC:alv.wrap ((a:Int)+2)=((a+2:Nat):Int):=by rw[wrap_i64 (by omega) (by omega)];rfl
   have b0:(0:Int)<=(a:Int):=alm _;have b1:(0:Int)<=((a+2:Nat):Int):=alm _;have b2:a<=a+2:=by omega
   have b3:a+2<=s.length:=by omega
   have iw:(s.take (a+2)).drop a=(s.drop a).take 2:=by rw[List.drop_take];congr 1;omega
   refine J λK hK=>?_;simp-implicitDefEqProofs only[go_sem,E4,Mp,TP,h33,BS];apply hK;refine aa λK3 wc=>?_;apply ax;refine J λK hK=>?_;simp-implicitDefEqProofs only[go_sem];apply hK;refine aM ?_;refine aa λK hK=>az rfl rfl ?_;simp-implicitDefEqProofs only[go_sem,wC,b0,b1,b2,b3,alj,iw];refine⟨rfl,hK _ ?_⟩;apply an;simp only[go_sem];refine bO (.d (.str ((s.drop a).take (ed (s.drop a))))) [(0,0)] [(0,aU s a mF 0 0)] ?_ rfl rfl ?_ ⟨rfl,mF,⟨by omega,by omega,by omega,λ_=>by rw[tr];omega⟩,rfl⟩;·simp[bj,aP,bt,ah,tr]
   ·simp[aL,aF,ai,ak,aj,AV.aA,aU]
  ·have Rk:=xU (k:=61) BS;have tr:ed (s.drop a)=0:=by
    rw[hd,GL,ed,if_neg,if_neg (by decide)];have hh:¬s[a+1]?=some 61:=by
     intro h;apply Rk;rw[<-Al,alC,h];rfl
    simp[hh]
   refine J λK hK=>?_;simp-implicitDefEqProofs only[go_sem,E4,Mp,TP,h33,BS];apply hK;refine aa λK3 wc=>?_;apply ax;refine J λK hK=>?_;simp-implicitDefEqProofs only[go_sem];apply hK;refine aH ?_;refine J λK hK=>?_;simp-implicitDefEqProofs only[go_sem,E4,Mp,TP,h33];apply hK;refine aM ?_;refine J λK hK=>?_;simp-implicitDefEqProofs only[go_sem];apply hK;apply an;simp only[go_sem];refine bO (.d (.str ((s.drop a).take (ed (s.drop a))))) [(0,0)] [(0,aU s a mF 0 0)] ?_ rfl rfl ?_ ⟨rfl,mF,⟨by omega,by omega,by omega,λh=>absurd tr h⟩,rfl⟩
   ·rw[tr];simp[bj,aP,bt,ah]
   ·simp[aL,aF,ai,ak,aj,AV.aA,aU]
 refine J λK hK=>?_;simp-implicitDefEqProofs only[go_sem,E4];apply hK;refine aH ?_;refine J λK hK=>?_;simp-implicitDefEqProofs only[go_sem,Mp];apply hK;refine aH ?_;refine J λK hK=>?_;simp-implicitDefEqProofs only[go_sem,TP];apply hK;refine aH ?_;refine ag rfl ?_;simp-implicitDefEqProofs only[go_sem,h33];apply eX;refine aH ?_;apply ar;apply aT;have n60:=xU (k:=60) E4;have n62:=xU (k:=62) Mp;have n61:=xU (k:=61) TP;have n33:=xU (k:=33) h33;have tr:ed (s.drop a)=if c∈plain then 1 else 0:=by
  rw[hd,ed,if_neg (by simp[n60,n62,n61,n33])];simp[YY,n60,n61]
 have ki:=YX plain c;refine aa λK1 aT=>?_;by_cases hm:c∈plain
 ·rw[if_pos hm]at tr;have h0:¬(c.toNat:Int)=0:=by
   intro h;have:=vR (k:=0) h;rw[this]at hm;revert hm;decide
  have hi:=(Qw plain c).2 hm;generalize Lib.indexByte plain c=ix at ki hi;unfold plain at ki;refine J λK hK=>?_;simp-implicitDefEqProofs only[go_sem,h0]
  repeat' (first
   |(refine cn (λhb=>?_) (λhb=>?_)<;>simp-implicitDefEqProofs only[go_sem,hb,h0,hi])
   |(refine b7 (λhb=>?_) (λhb=>?_)<;>simp-implicitDefEqProofs only[go_sem,hb,h0,hi])
   |(refine aI (ki) rfl rfl ?_;simp-implicitDefEqProofs only[go_sem,h0,hi])
   |(refine bD (ki) rfl rfl ?_;simp-implicitDefEqProofs only[go_sem,h0,hi])
   |(rw[if_pos (by(try simp only[aln,alu,alB,alk]);omega)];simp-implicitDefEqProofs only[go_sem,h0,hi]))
  apply hK;refine aM ?_;have akH:∀k∈plain,(Utf8.encode (k.toNat:Int)).data.toList=[k]:=by decide
  refine J λK hK=>?_;simp-implicitDefEqProofs only[go_sem];apply hK;apply an;simp only[go_sem];refine bO (.d (.str ((s.drop a).take (ed (s.drop a))))) [(0,0)] [(0,aU s a uV 0 0)] ?_ rfl rfl ?_ ⟨rfl,uV,⟨by omega,by omega,by omega,λ_=>by rw[tr];omega⟩,rfl⟩
  ·rw[tr,hd];simp[bj,aP,bt,ah,akH c hm]
  ·simp[aL,aF,ai,ak,aj,AV.aA,aU]
 ·rw[if_neg hm]at tr;have hi:¬0<=Lib.indexByte plain c:=λh=>hm ((Qw plain c).1 h);by_cases h0:(c.toNat:Int)=0
  ·refine J λK hK=>?_;simp-implicitDefEqProofs only[go_sem,h0];apply hK;refine aH ?_;apply ar;refine aT _ (J λK hK=>?_);simp-implicitDefEqProofs only[go_sem];apply hK;apply an;simp only[go_sem];refine bO (.d (.str ((s.drop a).take (ed (s.drop a))))) [(0,0)] [(0,aU s a uV 0 0)] ?_ rfl rfl ?_ ⟨rfl,uV,⟨by omega,by omega,by omega,λh=>absurd tr h⟩,rfl⟩
   ·rw[tr];simp[bj,aP,bt,ah]
   ·simp[aL,aF,ai,ak,aj,AV.aA,aU]
  ·generalize Lib.indexByte plain c=ix at ki hi;unfold plain at ki;refine J λK hK=>?_;simp-implicitDefEqProofs only[go_sem,h0]
   repeat' (first
    |(refine cn (λhb=>?_) (λhb=>?_)<;>simp-implicitDefEqProofs only[go_sem,hb,h0,hi])
    |(refine b7 (λhb=>?_) (λhb=>?_)<;>simp-implicitDefEqProofs only[go_sem,hb,h0,hi])
    |(refine aI (ki) rfl rfl ?_;simp-implicitDefEqProofs only[go_sem,h0,hi])
    |(refine bD (ki) rfl rfl ?_;simp-implicitDefEqProofs only[go_sem,h0,hi])
    |(rw[if_pos (by(try simp only[aln,alu,alB,alk]);omega)];simp-implicitDefEqProofs only[go_sem,h0,hi]))
   apply hK;refine aH ?_;apply ar;refine aT _ (J λK hK=>?_);simp-implicitDefEqProofs only[go_sem];apply hK;apply an;simp only[go_sem];refine bO (.d (.str ((s.drop a).take (ed (s.drop a))))) [(0,0)] [(0,aU s a uV 0 0)] ?_ rfl rfl ?_ ⟨rfl,uV,⟨by omega,by omega,by omega,λh=>absurd tr h⟩,rfl⟩
   ·rw[tr];simp[bj,aP,bt,ah]
   ·simp[aL,aF,ai,ak,aj,AV.aA,aU]
theorem S2 {a:Nat} {l:List UInt8} (h:(fY a l).2.2≠0):(jS,(fY a l).2.1,(fY a l).2.2)=fY a l:=by
 cases l with
 |nil=>exact absurd rfl h
 |cons c r=>
  rw[fY]at h⊢;split at h;·exact absurd rfl h
  ·rename_i h1;rw[if_neg h1];split at h
   ·rename_i h2;rw[if_pos h2];split at h;·exact absurd rfl h
    ·rename_i h3;rw[if_neg h3]
   ·rename_i h2;rw[if_neg h2];split at h
    ·rename_i h3;rw[if_pos h3]
    ·exact absurd rfl h
theorem OJ (s:List UInt8) (a rd:Nat) (e:Int):bB aK 221 [.ptr 0 0,au e] [(0,aU s a rd 0 0)] λr m'=>r=.cC [.agg [au 0,.d (.str []),au 0],.agg [au e,au a]]/\m'=[(0,aU s a rd e a)]:=by
 have h34:mV aK 39=some (some 3):=by kernel_rfl
 have S3:mV aK 35=some (some 2):=by kernel_rfl
 refine ay func221 Vs ntmps221 results221 rfl ?_;unfold acP;refine J λK hK=>?_;simp only[go_sem];refine hK _ (J λK hK=>?_);simp only[go_sem,aU];apply hK;refine aa λK hK=>az rfl rfl ?_;simp only[go_sem];refine⟨rfl,hK _ ?_⟩;apply an;simp only[go_sem];refine bO (.cC [.agg [au 0,.d (.str []),au 0],.agg [au e,au a]]) [(0,0)] [(0,aU s a rd e a)] ?_ rfl rfl ?_ ⟨rfl,rfl⟩;·simp[bj,aP,bt,ah,ai,ak,aN,h34,S3]
 ·simp[aL,aF,ai,ak,aj,AV.aA,aU]
theorem Ea (s:List UInt8) (a rd:Nat) (e:Int) {j:Nat} {dst:Option Nat} {r:List bC} {K:St->Prop} {t:Fr} {m:Mem} {n:Nat} (hm:ai m j=some (aU s a rd 0 0))
 (hk:bN aK r ⟨cG t dst (.cC [.agg [au 0,.d (.str []),au 0],.agg [au e,au a]]),ak m j (aU s a rd e a),n+1⟩ K):ej aK 221 [.ptr j 0,au e] dst r K t m n:=by
 refine ll (rest:=[au e]) (Q:=λr c'=>r=.cC [.agg [au 0,.d (.str []),au 0],.agg [au e,au a]]/\c'=aU s a rd e a) ((OJ s a rd e).mono λr m' h=>⟨_,h.2,h.1,rfl⟩) rfl rfl ?_ hm ?_;·rintro _ _ ⟨rfl,rfl⟩;exact⟨rfl,rfl⟩
 ·rintro _ _ ⟨rfl,rfl⟩;exact hk
theorem OK {s:List UInt8} (hs:s.length<=140737488351232) {a rd:Nat} (ha:a<s.length) (hr:a<=rd/\rd<=s.length) {j:Nat} {dst:Option Nat} {r:List bC} {K:St->Prop} {t:Fr} {m:Mem} {n:Nat} (hm:ai m j=some (aU s a rd 0 0))
 (hk:∀eE,(rd<=eE/\a+1<=eE/\eE<=s.length/\(ed (s.drop a)≠0->a+ed (s.drop a)<=eE/\eE<=max rd (a+ed (s.drop a)+1)))->
  bN aK r ⟨cG t dst (.d (.str ((s.drop a).take (ed (s.drop a))))),ak m j (aU s a eE 0 0),n+1⟩ K):ej aK 222 [.ptr j 0] dst r K t m n:=by
 refine ll (rest:=[]) (Q:=λr c'=>sgQ s a rd r [(0,c')]) ((OH hs ha hr).mono λr m' h=>?_) rfl rfl ?_ hm ?_
 ·obtain⟨h1,eE,h2,h3⟩:=h;exact⟨_,h3,h1,eE,h2,rfl⟩
 ·rintro _ c' ⟨rfl,eE,_,h⟩;have:c'=aU s a eE 0 0:=by simpa using h
  subst this;exact⟨rfl,rfl⟩
 ·rintro _ c' ⟨rfl,eE,h1,h⟩;have:c'=aU s a eE 0 0:=by simpa using h
  subst this;exact hk eE h1
theorem Iq {c:UInt8} (h:nq c=true):o4 c=false:=by
 simp only[nq,alE,decide_eq_true_eq]at h;have:¬97<=c.toNat:=by omega
 simp[o4,this]
theorem LL (c:UInt8):kK c=2↔o4 c=true:=by
 unfold kK;cases h:o4 c with
 |true=>simp[(SS h).1]
 |false=>cases lk c<;>cases nq c<;>decide
theorem xV (c:UInt8):kK c=3↔nq c=true:=by
 unfold kK;cases h:nq c with
 |true=>simp[(SU h).1,Iq h]
 |false=>cases lk c<;>cases o4 c<;>decide
def YZ (s:List UInt8) (a:Nat):AV:=.cC [.agg ((b8 s a).1.cells.map .d),.agg [au ((b8 s a).2.2),au (nu s a)]]
theorem afY (s:List UInt8) (a:Nat):cd (λ_=>none) (YZ s a)=true:=rfl
theorem Ir {s:List UInt8} {a:Nat} {t:Tok} {e:Nat} (h:b8 s a=(t,e,0)):YZ s a=.cC [.agg [au t.kd,.d (.str t.tx),au t.pl],.agg [au 0,au 0]]:=by
 simp[YZ,nu,h,Tok.cells]
theorem BT {s:List UInt8} {a:Nat} {e:Nat} {c:Int} (hc:c≠0) (h:b8 s a=(jS,e,c)):YZ s a=.cC [.agg [au 0,.d (.str []),au 0],.agg [au c,au (dv s a)]]:=by
 simp[YZ,nu,h,hc,Tok.cells,jS]
def nxQ (s:List UInt8) (a rd:Nat) (r:AV) (c':List AV):Prop:=
 r=YZ s a/\∃eE,(rd<=eE/\eE<=s.length/\(b8 s a).2.1<=eE/\((b8 s a).2.2=0->eE<=max rd ((b8 s a).2.1+1)))/\c'=aU s (b8 s a).2.1 eE (b8 s a).2.2 (nu s a)
def fnS (s:List UInt8) (p q rd:Nat) (k:Int):St:=⟨[(6,au q),(0,.ptr 0 0),(5,.ptr 3 0),(2,.ptr 1 0),(3,.ptr 2 0)],[(0,aU s p rd 0 0),(1,[au 0,.d (.str []),au 0]),(2,[au 0,au 0]),(3,[au k,.d (.str []),au p])],4⟩
def TQ (s:List UInt8) (p rd:Nat) (c:UInt8) (b:Bool):St:=⟨[(78,.d (.bool b)),(6,au p),(4,.d (.int .u8 c.toNat)),(0,.ptr 0 0),(5,.ptr 3 0),(2,.ptr 1 0),(3,.ptr 2 0)],[(0,aU s p rd 0 0),(1,[au 0,.d (.str []),au 0]),(2,[au 0,au 0]),(3,[au 0,.d (.str []),au p])],4⟩
set_option maxHeartbeats 16000000 in
theorem OL {s:List UInt8} (hs:s.length<=140737488351232) {a rd:Nat} (ha:a<=s.length) (hr:a<=rd/\rd<=s.length):
 bB aK 146 [.ptr 0 0] [(0,aU s a rd 0 0)] λr m'=>∃c',m'=[(0,c')]/\nxQ s a rd r c':=by
 have h34:mV aK 39=some (some 3):=by kernel_rfl
 have S3:mV aK 35=some (some 2):=by kernel_rfl
 have alb:=D3 ha;have alc:=D4 s a;have wg:b8 s a=fY (dv s a) (s.drop (dv s a)):=rfl;refine ay func146 U6 ntmps146 results146 rfl ?_;unfold acw;refine J λK hK=>?_;simp only[go_sem];apply hK;refine aa λK1 aT=>?_;refine J λK hK=>?_;simp only[go_sem,aU];apply hK;refine aH ?_;apply ar;refine aT _ (J λK hK=>?_);simp only[go_sem];refine OG hs ha hr rfl ?_;intro uV akI;unfold nJ at akI;generalize hp:dv s a=p at*;simp only[go_sem,aU,ak];apply hK;refine aa λK1 aT=>?_;refine J λK hK=>?_;simp only[go_sem];refine uj s p uV 0 0 p rfl ?_;by_cases bn:p<s.length
 ·simp only[go_sem,bn,decide_true,aU,ak];apply hK;refine aH ?_;apply ar;refine aT _ (J λK hK=>?_);simp only[go_sem];refine gP hs p uV 0 0 p rfl ?_;have hd:=mT bn;rw[OD bn];generalize hcd:s.getD p 0=c at hd;obtain⟨mF,hr2,b1,b2,b3,b4⟩:∃mF,max uV (p+1)=mF/\rd<=mF/\p+1<=mF/\mF<=s.length/\mF<=max rd (p+1):=⟨_,rfl,by omega⟩;rw[hr2];rw[hd]at wg;simp only[go_sem,aU,ak];refine hK _ (J λK hK=>?_);simp only[go_sem];refine hK _ (J λK hK=>?_);simp only[go_sem];apply hK;refine aa λK1 aT=>?_;apply ax
  have fin:∀(k:Int) (q eE:Nat) (S:St),b8 s a=(⟨k,(s.drop p).take (q-p),p⟩,q,0)->p<=q->q<=s.length->(rd<=eE/\eE<=s.length/\q<=eE/\eE<=max rd (q+1))->aB (aE [(0,aU s a rd 0 0)]) 142 S (fnS s p q eE k)->K1 S:=by
   intro k q eE S hn Qa NP hb hS;apply aT;refine aw hS ?_;have iw:(s.take q).drop p=(s.drop p).take (q-p):=by rw[List.drop_take]
   have i0:(0:Int)<=(p:Int):=alm _;have i1:(0:Int)<=(q:Int):=alm _;unfold fnS aU;refine aa λK hK=>az rfl rfl ?_;simp only[go_sem,i0,i1,Qa,NP,alj,iw];refine⟨rfl,hK _ ?_⟩;refine J λK hK=>?_;simp only[go_sem];apply hK;apply an;simp only[go_sem];refine bO (YZ s a) [(0,0)] [(0,aU s q eE 0 0)] ?_ rfl rfl ?_ ⟨_,rfl,rfl,eE,⟨by omega,by omega,by rw[hn];exact hb.2.2.1,λ_=>by rw[hn];exact hb.2.2.2⟩,by unfold nu;rw[hn];rfl⟩
   ·rw[Ir hn];simp[bj,aP,bt,ah,ai,ak,aN,h34,S3]
   ·simp[aL,aF,ai,ak,aj,AV.aA,aU]
  have kc:=uk c;have dJ:∀q,q=iM (s.drop (p+1))->p+(1+q)<=s.length:=λq h=>by
   have:=xP (s.drop (p+1));rw[List.length_drop]at this;omega
  have pq:∀q,(s.drop p).take (p+(1+q)-p)=c::(s.drop (p+1)).take q:=λq=>by
   rw[hd,show p+(1+q)-p=q+1 by omega,List.take_succ_cons]
  by_cases Y0:o4 c=true
  ·have TJ:=(LL c).2 Y0;have akJ:Ik c=true:=by unfold Ik;rw[Y0];rfl
   have pC:iM (s.drop p)=1+iM (s.drop (p+1)):=by rw[hd,iM,if_pos akJ]
   rw[fY,if_pos Y0]at wg;refine J λK hK=>?_;simp only[go_sem];refine aI kc rfl rfl ?_;simp only[go_sem,TJ];apply hK;refine aM ?_;refine ag rfl ?_;simp only[go_sem];refine Ge hs (by omega) ⟨by omega,b3⟩ rfl ?_;intro eE vT;rw[pC]at vT⊢;unfold nJ at vT;have hq:=dJ _ rfl;have htq:=pq (iM (s.drop (p+1)));rw[<-htq]at wg;have hq0:p+1<=p+(1+iM (s.drop (p+1))):=by omega
   generalize p+(1+iM (s.drop (p+1)))=q at wg vT hq hq0⊢;simp only[go_sem,aU,ak];refine fin 1 q eE _ wg (by omega) hq (by omega) ?_;exact aB.cj [(0,0),(1,1),(2,2),(6,3)] ⟨by simp[aV,ah,AV.aA,aj,af,fnS],by simp[aL,aF,ai,ak,aj,AV.aA,fnS,aU],rfl,rfl⟩
  ·have TJ:¬kK c=2:=λh=>Y0 ((LL c).1 h);rw[fY,if_neg Y0]at wg;refine J λK hK=>?_;simp only[go_sem];refine aI kc rfl rfl ?_;simp only[go_sem,TJ];apply hK;refine aH ?_;have hH:((s.drop (p+1)).head?.map nq).getD false=nq (s.getD (p+1) 0):=by
    rcases Nat.lt_or_ge (p+1) s.length with h|h;·rw[mT h];rfl
    ·rw[List.drop_eq_nil_of_le h,alC,List.getElem?_eq_none h];rfl
   have qC:alv.wrap ((p:Int)+1)=((p+1:Nat):Int):=by rw[wrap_i64 (by omega) (by omega)];rfl
   rw[hH]at wg;refine J λK hK=>?_;simp only[go_sem];have yes:(nq c=true\/(c=45/\nq (s.getD (p+1) 0)=true))->∀(E5:Nat) (S:St),(rd<=E5/\p+1<=E5/\E5<=s.length/\E5<=max rd (p+2))->aB (aE [(0,aU s a rd 0 0)]) 142 S (TQ s p E5 c true)->K S:=by
    intro hdg E5 S hb hS;rw[if_pos hdg]at wg;apply hK;refine aw hS ?_;unfold TQ aU;refine aM ?_;refine J λK hK=>?_;simp only[go_sem,qC];refine Ge hs (by omega) ⟨by omega,hb.2.2.1⟩ rfl ?_;intro eE vT;unfold nJ at vT;have hq:=dJ _ rfl;have htq:=pq (iM (s.drop (p+1)));have hq0:p+1<=p+(1+iM (s.drop (p+1))):=by omega
    have hql:(c::(s.drop (p+1)).take (iM (s.drop (p+1)))).length<=281474976710656:=by
     rw[alu,List.length_take,List.length_drop];omega
    have kp:=rI hql;rw[<-htq]at wg kp;rw[show p+1+iM (s.drop (p+1))=p+(1+iM (s.drop (p+1))) by omega]at vT⊢;generalize p+(1+iM (s.drop (p+1)))=q at wg vT hq hq0 kp⊢;simp only[go_sem,aU,ak];apply hK;have iw:(s.take q).drop p=(s.drop p).take (q-p):=by rw[List.drop_take]
    have i0:(0:Int)<=(p:Int):=alm _;have i1:(0:Int)<=(q:Int):=alm _;have i2:p<=q:=by omega
    generalize hw:(s.drop p).take (q-p)=w at*;generalize eu w=pr at*;obtain⟨pn,pb⟩:=pr;refine aa λK hK=>az rfl rfl ?_;simp only[go_sem,i0,i1,i2,hq,alj,iw];refine bD kp rfl rfl ?_;simp only[go_sem];refine⟨rfl,hK _ ?_⟩;cases pb with
    |true=>
     rw[if_pos rfl]at wg;refine J λK hK=>?_;simp only[go_sem];apply hK;refine aH ?_;apply ar;simp only[go_sem];refine fin 2 q eE _ (by rw[wg,hw]) (by omega) hq (by omega) ?_;exact aB.cj [(0,0),(1,1),(2,2),(3,3)] ⟨by simp[aV,ah,AV.aA,aj,af,fnS],by simp[aL,aF,ai,ak,aj,AV.aA,fnS,aU],rfl,rfl⟩
    |false=>
     rw[if_neg (by exact Bool.false_ne_true)]at wg;refine J λK hK=>?_;simp only[go_sem];apply hK;refine aM ?_;refine J λK hK=>?_;simp only[go_sem];refine Ea s p eE 5 rfl ?_;simp only[go_sem,aU,ak];apply hK;apply an;simp only[go_sem];refine bO (YZ s a) [(0,0)] [(0,aU s p eE 5 p)] ?_ rfl rfl ?_ ⟨_,rfl,rfl,eE,⟨by omega,by omega,by rw[wg];simp only;omega,λh=>by rw[wg]at h;cases h⟩,by unfold nu;rw[wg,hp];rfl⟩
     ·rw[BT (by decide) wg,hp];simp[bj,aP,bt,ah,ai,ak,aN,h34,S3]
     ·simp[aL,aF,ai,ak,aj,AV.aA,aU]
   have no:¬(nq c=true\/(c=45/\nq (s.getD (p+1) 0)=true))->∀(E5:Nat) (S:St),(rd<=E5/\p+1<=E5/\E5<=s.length/\E5<=max rd (p+2))->aB (aE [(0,aU s a rd 0 0)]) 142 S (TQ s p E5 c false)->K S:=by
    intro hdg E5 S hb hS;rw[if_neg hdg]at wg;apply hK;refine aw hS ?_;unfold TQ aU;refine aH ?_;refine J λK hK=>?_;simp only[go_sem];refine OK hs bn ⟨by omega,hb.2.2.1⟩ rfl ?_;intro eE vT;have iw:=D5 (s.drop p);have hlw:((s.drop p).take (ed (s.drop p))).length=ed (s.drop p):=by rw[List.length_take];omega
    rw[List.length_drop]at iw;rw[<-hd]at wg;generalize hk:ed (s.drop p)=k at*;simp only[go_sem,aU,ak];apply hK;refine aa λK3 wc=>?_;by_cases GF:k=0
    ·subst GF;rw[if_pos rfl]at wg;refine J λK hK=>?_;simp only[go_sem,List.take_zero];apply hK;refine aM ?_;refine J λK hK=>?_;simp only[go_sem];refine Ea s p eE 4 rfl ?_;simp only[go_sem,aU,ak];apply hK;apply an;simp only[go_sem];refine bO (YZ s a) [(0,0)] [(0,aU s p eE 4 p)] ?_ rfl rfl ?_ ⟨_,rfl,rfl,eE,⟨by omega,by omega,by rw[wg];simp only;omega,λh=>by rw[wg]at h;cases h⟩,by unfold nu;rw[wg,hp];rfl⟩
     ·rw[BT (by decide) wg,hp];simp[bj,aP,bt,ah,ai,ak,aN,h34,S3]
     ·simp[aL,aF,ai,ak,aj,AV.aA,aU]
    ·rw[if_neg GF]at wg;have pe:¬(s.drop p).take k=[]:=λh=>by rw[h]at hlw;simp at hlw;omega
     have iq:=vT.2.2.2 GF;have hwk:alv.wrap ((p:Int)+(k:Int))=((p+k:Nat):Int):=by rw[wrap_i64 (by omega) (by omega)];rfl
     have hqk:p+k-p=k:=by omega
     have ald:p+1<=p+k:=by omega
     have akK:p+k<=s.length:=by omega
     generalize hw:(s.drop p).take k=w at*;refine J λK hK=>?_;simp only[go_sem,pe];apply hK;refine aH ?_;apply ar;apply wc;refine az rfl rfl ?_;simp only[go_sem,hlw,hwk];refine⟨rfl,fin 3 (p+k) eE _ (by rw[wg,hqk,hw]) (by omega) akK (by omega) ?_⟩;exact aB.cj [(0,0),(1,1),(2,2),(3,3)] ⟨by simp[aV,ah,AV.aA,aj,af,fnS],by simp[aL,aF,ai,ak,aj,AV.aA,fnS,aU],rfl,rfl⟩
   by_cases Y1:nq c=true
   ·have hk3:=(xV c).2 Y1;refine aI kc rfl rfl ?_;simp only[go_sem,hk3];refine yes (.inl Y1) mF _ (by omega) ?_;exact aB.cj [(0,0),(1,1),(2,2),(6,3)] ⟨by simp[aV,ah,AV.aA,aj,af,TQ],by simp[aL,aF,ai,ak,aj,AV.aA,TQ,aU],rfl,rfl⟩
   ·have hk3:¬kK c=3:=λh=>Y1 ((xV c).1 h);refine aI kc rfl rfl ?_;by_cases h45:(c.toNat:Int)=45
    ·have Y2:=vR (k:=45) h45;simp only[go_sem,hk3,h45,qC];refine gP hs p mF 0 0 (p+1) rfl ?_;obtain⟨E5,hr3,q1,q2,q3⟩:∃E5,BR s mF (p+1)=E5/\mF<=E5/\E5<=s.length/\E5<=max rd (p+2):=⟨_,rfl,by unfold BR;split<;>omega⟩;rw[hr3];generalize Al:s.getD (p+1) 0=d at*;have kd:=uk d;simp only[go_sem,aU,ak];refine aI kd rfl rfl ?_;by_cases BS:nq d=true
     ·have hk4:=(xV d).2 BS;simp only[go_sem,hk4];refine yes (.inr ⟨Y2,BS⟩) E5 _ (by omega) ?_;exact aB.cj [(0,0),(1,1),(2,2),(6,3)] ⟨by simp[aV,ah,AV.aA,aj,af,TQ,Y2],by simp[aL,aF,ai,ak,aj,AV.aA,TQ,aU],rfl,rfl⟩
     ·have hk4:¬kK d=3:=λh=>BS ((xV d).1 h);simp only[go_sem,hk4];refine no (by rintro(h|⟨_,h⟩);exact Y1 h;exact BS h) E5 _ (by omega) ?_;exact aB.cj [(0,0),(1,1),(2,2),(6,3)] ⟨by simp[aV,ah,AV.aA,aj,af,TQ,Y2],by simp[aL,aF,ai,ak,aj,AV.aA,TQ,aU],rfl,rfl⟩
    ·have Y2:=xU (k:=45) h45;simp only[go_sem,hk3,h45];refine no (by rintro(h|⟨h,_⟩);exact Y1 h;exact Y2 h) mF _ (by omega) ?_;exact aB.cj [(0,0),(1,1),(2,2),(6,3)] ⟨by simp[aV,ah,AV.aA,aj,af,TQ],by simp[aL,aF,ai,ak,aj,AV.aA,TQ,aU],rfl,rfl⟩
 ·have he:p=s.length:=by omega
  have hn:b8 s a=(⟨4,[],p⟩,p,0):=by rw[wg,he,List.drop_length];rfl
  simp only[go_sem,bn,decide_false,aU,ak];apply hK;refine aM ?_;refine J λK hK=>?_;simp only[go_sem];apply hK;apply an;simp only[go_sem];refine bO (YZ s a) [(0,0)] [(0,aU s p uV 0 0)] ?_ rfl rfl ?_ ⟨_,rfl,rfl,uV,⟨by omega,by omega,by rw[hn];simp only;omega,λ_=>by rw[hn];simp only;omega⟩,by unfold nu;rw[hn];rfl⟩
  ·rw[Ir hn];simp[bj,aP,bt,ah,ai,ak,aN,h34,S3]
  ·simp[aL,aF,ai,ak,aj,AV.aA,aU]
theorem Eb {s:List UInt8} (hs:s.length<=140737488351232) {a rd:Nat} (ha:a<=s.length) (hr:a<=rd/\rd<=s.length) {j:Nat} {dst:Option Nat} {r:List bC} {K:St->Prop} {t:Fr} {m:Mem} {n:Nat} (hm:ai m j=some (aU s a rd 0 0))
 (hk:∀eE,(rd<=eE/\eE<=s.length/\(b8 s a).2.1<=eE/\((b8 s a).2.2=0->eE<=max rd ((b8 s a).2.1+1)))->
  bN aK r ⟨cG t dst (YZ s a),ak m j (aU s (b8 s a).2.1 eE (b8 s a).2.2 (nu s a)),n+1⟩ K):ej aK 146 [.ptr j 0] dst r K t m n:=by
 refine ll (rest:=[]) (Q:=nxQ s a rd) (OL hs ha hr) rfl rfl ?_ hm ?_;·rintro _ _ ⟨rfl,eE,_,rfl⟩;exact⟨afY s a,rfl⟩
 ·rintro _ _ ⟨rfl,eE,h,rfl⟩;exact hk eE h
theorem S4 (s:List UInt8):bB aK 101 [.d (.str s)] [] λr m'=>r=.ptr 0 0/\m'=[(0,aU s 0 0 0 0)]:=by
 refine ay func101 UW ntmps101 results101 rfl ?_;unfold acm;refine J λK hK=>?_;simp-implicitDefEqProofs only[go_sem];refine hK _ (J λK hK=>?_);simp-implicitDefEqProofs only[go_sem];apply hK;apply an;simp only[go_sem];refine bO (.ptr 0 0) [(0,0)] [(0,aU s 0 0 0 0)] ?_ rfl rfl ?_ ⟨rfl,rfl⟩;·simp[bj,aP,bt,ah]
 ·simp[aL,aF,ai,ak,aj,AV.aA,aU]
theorem S5 (s:List UInt8) {dst:Option Nat} {r:List bC} {K:St->Prop} {t:Fr} {m:Mem} {n:Nat}
 (hk:bN aK r ⟨cG t dst (.ptr n 0),ak m n (aU s 0 0 0 0),n+1⟩ K):ej aK 101 [.d (.str s)] dst r K t m n:=by
 refine bA [] [.d (.str s)] [] (nb:=0) (S4 s) rfl rfl rfl trivial rfl ?_;rintro r0 m' ⟨rfl,rfl⟩;have e1:bx [] [] [(0,aU s 0 0 0 0)] n m=ak m n (aU s 0 0 0 0):=by
  simp[bx,bR,bU,ai,fM _ (abR s 0 0 0 0)]
 rw[e1];exact hk
def xW (s:List UInt8):AV:=if 4000<s.length then .agg [au 2,au 4000]else .agg [au 0,au 0]
theorem S6 (s:List UInt8):Pure aK 100 [.d (.str s)] (xW s):=by
 have S3:mV aK 35=some (some 2):=by kernel_rfl
 refine ay func100 UU ntmps100 results100 rfl ?_;unfold ack;refine J λK hK=>?_;simp-implicitDefEqProofs only[go_sem];apply hK;refine aa λK1 aT=>?_;by_cases hl:4000<s.length
 ·have uv:(4000:Int)<s.length:=by omega
  refine J λK hK=>?_;simp-implicitDefEqProofs only[go_sem,uv];apply hK;refine aM ?_;refine J λK hK=>?_;simp-implicitDefEqProofs only[go_sem];apply hK;apply an;simp-implicitDefEqProofs only[go_sem];refine aD (xW s) ?_ (by unfold xW;rw[if_pos hl];rfl) ⟨rfl,rfl⟩;unfold xW;rw[if_pos hl];simp[bj,aP,bt,ah,ai,ak,aN,S3]
 ·have uv:¬(4000:Int)<s.length:=by omega
  refine J λK hK=>?_;simp-implicitDefEqProofs only[go_sem,uv];apply hK;refine aH ?_;apply ar;refine aT _ (J λK hK=>?_);simp-implicitDefEqProofs only[go_sem];apply hK;apply an;simp-implicitDefEqProofs only[go_sem];refine aD (xW s) ?_ (by unfold xW;rw[if_neg hl];rfl) ⟨rfl,rfl⟩;unfold xW;rw[if_neg hl];simp[bj,aP,bt,ah,ai,ak,aN,S3]
structure eM where
 tok:Tok
 code:Int
 lI:Nat
 la:Nat
 rd:Nat
 lc:Int
 le:Nat
def aS (q:eM):List AV:=[.ptr 1 0,au q.tok.kd,.d (.str q.tok.tx),au q.tok.pl,au q.code,au q.lI]
def aZ (s:List UInt8) (q:eM):List AV:=aU s q.la q.rd q.lc q.le
def PS (s:List UInt8):PR Nat->eM->Prop
 |.ok a,q=>a<=s.length/\(b8 s a).2.2=0/\q.tok=o5 s a/\q.code=0/\q.lI=0/\q.la=(b8 s a).2.1/\q.la<=q.rd/\q.rd<=s.length/\q.lc=0/\q.le=0
 |.error e,q=>q.code=e.1/\e.1≠0/\q.lI=e.2/\(q.tok.kd=1->q.tok.tx≠ [])/\q.tok.tx.length<=s.length
def PQ {α:Type} (s:List UInt8):PR (α×Nat)->α->eM->Prop
 |.ok (y,b),x,q=>y=x/\PS s (.ok b) q
 |.error e,_,q=>PS s (.error e) q
def dM {β:Type} (σ:PR Nat) (f:Nat->PR β):PR β:=match σ with
 |.ok a=>f a
 |.error e=>.error e
def l7 {α:Type} (τ:PR (α×Nat)):PR Nat:=match τ with
 |.ok p=>.ok p.2
 |.error e=>.error e
theorem PQ.ps {α:Type} {s:List UInt8} {τ:PR (α×Nat)} {x:α} {q:eM} (h:PQ s τ x q):PS s (l7 τ) q:=by
 cases τ with
 |ok p=>exact h.2
 |error e=>exact h
theorem PQ.bind {α β:Type} {s:List UInt8} {σ:PR Nat} {t:PT α} {f:α->PT β} {x:α} {y:β} {q q':eM} (h:PQ s (dM σ (t.run s)) x q) (h':PQ s (dM (l7 (dM σ (t.run s))) ((f x).run s)) y q'):
 PQ s (dM σ ((t.bind f).run s)) y q':=by
 cases σ with
 |error e=>exact h'
 |ok a=>
  simp only[dM]at h h'⊢;rw[PT.run_bind];cases ht:t.run s a with
  |error e=>rw[ht]at h';exact h'
  |ok p=>
   obtain⟨x',b⟩:=p;rw[ht]at h h';obtain⟨rfl,_⟩:=h;exact h'
theorem PQ.ret {α:Type} {s:List UInt8} {σ:PR Nat} {x:α} {q:eM} (h:PS s σ q):PQ s (dM σ ((PT.ret x).run s)) x q:=by
 cases σ with
 |error e=>exact h
 |ok a=>exact⟨rfl,h⟩
theorem PQ.cur {α:Type} {s:List UInt8} {σ:PR Nat} {k:Int->List UInt8->PT α} {y:α} {q q':eM} (h:PS s σ q) (h':PQ s (dM σ ((k q.tok.kd q.tok.tx).run s)) y q'):PQ s (dM σ ((PT.cur k).run s)) y q':=by
 cases σ with
 |error e=>exact h'
 |ok a=>
  obtain⟨_,_,ht,_⟩:=h;rw[ht]at h';exact h'
theorem PQ.lI {α:Type} {s:List UInt8} {σ:PR Nat} {k:PT α} {y:α} {q':eM} (h':PQ s (dM (dM σ (oT s)) (k.run s)) y q'):PQ s (dM σ ((PT.lI k).run s)) y q':=by
 cases σ with
 |error e=>exact h'
 |ok a=>
  simp only[dM]at h'⊢;simp only[PT.run];cases he:oT s a with
  |error e=>rw[he]at h';exact h'
  |ok b=>rw[he]at h';exact h'
def fu (q:eM) (c:Int):eM:=if q.code=0 then{q with code:=c,lI:=q.tok.pl}else q
theorem OM (a:Nat) (l:List UInt8) (h:(fY a l).1.kd=1):(fY a l).1.tx≠ []:=by
 cases l with
 |nil=>simp[fY]at h
 |cons c r=>
  rw[fY]at h⊢;split;·simp
  ·rename_i hc;rw[if_neg hc]at h;split
   ·rename_i hd;rw[if_pos hd]at h;split;·simp
    ·rename_i hp;rw[if_neg hp]at h;simp[jS]at h
   ·rename_i hd;rw[if_neg hd]at h;split
    ·rename_i hs;rw[if_pos hs]at h;simp[jS]at h
    ·rename_i hs;rw[if_neg hs]at h;simp at h
theorem Y3 {s:List UInt8} {a:Nat} (ha:a<=s.length) (h:(b8 s a).2.2=0):((o5 s a).kd=1->(o5 s a).tx≠ [])/\(o5 s a).tx.length<=s.length:=by
 have he:b8 s a=(o5 s a,(b8 s a).2.1,0):=by unfold o5;rw[<-h]
 obtain⟨p1,p2,p3,p4,p5,p6,p7⟩:=SV ha he;exact⟨λh1=>OM _ _ h1,by omega⟩
theorem PS.pos {s:List UInt8} {σ:PR Nat} {q:eM} (h:PS s σ q):(q.tok.kd=1->q.tok.tx≠ [])/\q.tok.tx.length<=s.length:=by
 cases σ with
 |error e=>exact⟨h.2.2.2.1,h.2.2.2.2⟩
 |ok a=>
  obtain⟨h1,h2,h3,_⟩:=h;rw[h3];exact Y3 h1 h2
theorem PS.fail {s:List UInt8} {σ:PR Nat} {q:eM} (h:PS s σ q) {c:Int} (hc:c≠0) {α:Type}:PS s (l7 (dM σ ((PT.bad c:PT α).run s))) (fu q c):=by
 have hp:=h.pos;cases σ with
 |error e=>
  obtain⟨h1,h2,h3,h4,h5⟩:=h;have:fu q c=q:=by unfold fu;rw[if_neg (by rw[h1];exact h2)]
  rw[this];exact⟨h1,h2,h3,h4,h5⟩
 |ok a=>
  obtain⟨h1,h2,h3,h4,h5⟩:=h;have:fu q c={q with code:=c,lI:=q.tok.pl}:=by unfold fu;rw[if_pos h4]
  rw[this];exact⟨rfl,hc,by simp only[h3],hp.1,hp.2⟩
theorem PQ.bad {α:Type} {s:List UInt8} {σ:PR Nat} {q:eM} (h:PS s σ q) {c:Int} (hc:c≠0) (y:α):PQ s (dM σ ((PT.bad c:PT α).run s)) y (fu q c):=by
 have:=h.fail hc (α:=α);cases σ with
 |error e=>exact this
 |ok a=>exact this
def oZ (q:eM) (x:List UInt8):Bool:=decide (q.code=0)&&TO q.tok.kd q.tok.tx x
theorem PS.code {s:List UInt8} {a:Nat} {q:eM} (h:PS s (.ok a) q):q.code=0:=h.2.2.2.1
theorem PS.LM {s:List UInt8} {e:PE} {q:eM} (h:PS s (.error e) q):q.code≠0:=by rw[h.1];exact h.2.1
theorem PQ.il {α:Type} {s:List UInt8} {σ:PR Nat} {q q':eM} {x:List UInt8} {yes no:PT α} {y:α} (h:PS s σ q) (hb:oZ q x=true) (h':PQ s (dM (dM σ (oT s)) (yes.run s)) y q'):PQ s (dM σ ((iN x yes no).run s)) y q':=by
 unfold oZ at hb;simp only[alE]at hb;refine PQ.cur h ?_;rw[if_pos hb.2];exact PQ.lI h'
theorem PQ.fg {α:Type} {s:List UInt8} {σ:PR Nat} {q q':eM} {x:List UInt8} {yes no:PT α} {y:α} (h:PS s σ q) (hb:oZ q x=false) (h':PQ s (dM σ (no.run s)) y q'):PQ s (dM σ ((iN x yes no).run s)) y q':=by
 cases σ with
 |error e=>exact h'
 |ok a=>
  refine PQ.cur h ?_;have hk:TO q.tok.kd q.tok.tx x=false:=by simpa[oZ,h.code]using hb
  rw[if_neg (by rw[hk];decide)];exact h'
theorem xX (π:Nat->Option Nat) (h:π 1=some 1) (q:eM):aj π (aS q)=aS q:=by simp[aS,aj,AV.aA,h]
theorem xY (π:Nat->Option Nat) (s:List UInt8) (q:eM):aj π (aZ s q)=aZ s q:=by simp[aZ,aU,aj,AV.aA]
theorem ey {P:Program} {f:Nat} {rest:List AV} {s:List UInt8} {q:eM} {Q:AV->eM->Prop}
 (h:bB P f (.ptr 0 0::rest) [(0,aS q),(1,aZ s q)] λr m'=>∃q',m'=[(0,aS q'),(1,aZ s q')]/\Q r q')
 (hr:bZ (λ_=>none) rest=true) (hQ:∀r q',Q r q'->cd (λ_=>none) r=true)
 {dst:Option Nat} {ops:List bC} {K:St->Prop} {t:Fr} {m:Mem} {n:Nat} (oc:ai m 0=some (aS q)) (jX:ai m 1=some (aZ s q))
 (hk:∀r q',Q r q'->bN P ops ⟨cG t dst r,ak (ak m 0 (aS q')) 1 (aZ s q'),n+2⟩ K):ej P f (.ptr 0 0::rest) dst ops K t m n:=by
 have e0:af [(0,0),(1,1)] 1=some 1:=rfl;have i0:bZ (af [(0,0),(1,1)]) (aS q)=true:=rfl;have i1:bZ (af [(0,0),(1,1)]) (aZ s q)=true:=rfl;refine bA [(0,0),(1,1)] (.ptr 0 0::rest) [(0,aS q),(1,aZ s q)] (nb:=2) h rfl (by simp[aj,AV.aA,af,fM _ hr]) ?_ ?_ rfl ?_
 ·simp only[bZ,cd,alE];exact⟨rfl,kx (λ_ h=>by cases h) _ hr⟩
 ·refine⟨?_,?_,trivial⟩
  ·show ai m 0=some (aj (af [(0,0),(1,1)]) (aS q))/\_;exact⟨by rw[oc,xX _ e0],i0⟩
  ·show ai m 1=some (aj (af [(0,0),(1,1)]) (aZ s q))/\_;exact⟨by rw[jX,xY],i1⟩
 ·rintro r0 m' ⟨q',rfl,hq⟩;have e1:bx [(0,0),(1,1)] [(0,aS q),(1,aZ s q)] [(0,aS q'),(1,aZ s q')] n m=ak (ak m 0 (aS q')) 1 (aZ s q'):=by
   have hp:cf [(0,0),(1,1)] [(0,aS q),(1,aZ s q)] [(0,aS q'),(1,aZ s q')] n 1=some 1:=rfl;simp only[bx,bR,bU,ai,if_true,alH];rw[xX _ hp,xY];rfl
  rw[e1,qd _ (hQ _ _ hq)];exact hk _ _ hq
theorem Ec {s:List UInt8} {a:Nat} (h:(b8 s a).2.2≠0):b8 s a=(jS,(b8 s a).2.1,(b8 s a).2.2):=by
 have:=S2 (a:=dv s a) (l:=s.drop (dv s a)) h;unfold b8;rw[<-this]
set_option maxHeartbeats 4000000 in
theorem LN {s:List UInt8} (hs:s.length<=140737488351232) {σ:PR Nat} {q:eM} (h:PS s σ q):
 bB aK 102 [.ptr 0 0] [(0,aS q),(1,aZ s q)] λr m'=>∃q',m'=[(0,aS q'),(1,aZ s q')]/\(r=.cC []/\PS s (dM σ (oT s)) q'):=by
 cases σ with
 |error e=>
  have hc:=h.LM;refine ay func102 CG ntmps102 results102 rfl ?_;unfold Po;refine J λK hK=>?_;simp-implicitDefEqProofs only[go_sem,aS,hc];apply hK;refine aH ?_;apply ar;refine⟨.cC [],rfl,[(0,0),(1,1)],[(0,aS q),(1,aZ s q)],rfl,rfl,?_,⟨q,rfl,rfl,h⟩⟩;simp[aL,aF,ai,ak,aj,AV.aA,aS,aZ,aU,af]
 |ok a=>
  obtain⟨h1,h2,h3,h4,h5,h6,h7,h8,h9,ng⟩:=h;obtain⟨tok,code,lI,la,rd,lc,le⟩:=q;simp only at h3 h4 h5 h6 h7 h8 h9 ng;subst h4 h9 ng;have hle:=(nv h1).2.1;rw[<-h6]at hle;have hg:dM (.ok a) (oT s)=Eo s la:=by unfold dM oT;rw[h6]
  refine ay func102 CG ntmps102 results102 rfl ?_;unfold Po;refine J λK hK=>?_;simp-implicitDefEqProofs only[go_sem,aS];apply hK;refine aM ?_;refine ag rfl ?_;simp-implicitDefEqProofs only[go_sem];refine Eb hs hle ⟨h7,h8⟩ rfl ?_;intro eE vT;by_cases h0:(b8 s la).2.2=0
  ·have he:b8 s la=((b8 s la).1,(b8 s la).2.1,0):=by rw[<-h0]
   have TE:nu s la=0:=by unfold nu;rw[if_pos h0]
   have hgo:Eo s la=.ok la:=by unfold Eo;rw[if_pos h0]
   rw[Ir he,TE,h0];have wv:=(nv hle).2.1;simp-implicitDefEqProofs only[go_sem,ak,aZ,aU];refine⟨.cC [],rfl,[(0,0),(1,1)],[(0,aS ⟨(b8 s la).1,0,0,(b8 s la).2.1,eE,0,0⟩),(1,aZ s ⟨(b8 s la).1,0,0,(b8 s la).2.1,eE,0,0⟩)],rfl,rfl,?_,⟨_,rfl,rfl,?_⟩⟩;·simp[aL,aF,ai,ak,aj,AV.aA,aS,aZ,aU,af]
   ·rw[hg,hgo];exact⟨hle,h0,rfl,rfl,rfl,rfl,vT.2.2.1,vT.2.1,rfl,rfl⟩
  ·have LO:=Ec h0;have hgo:Eo s la=.error ((b8 s la).2.2,dv s la):=by unfold Eo;rw[if_neg h0]
   have TE:nu s la=dv s la:=by unfold nu;rw[if_neg h0]
   rw[BT h0 LO,TE];simp-implicitDefEqProofs only[go_sem,ak,aZ,aU];refine⟨.cC [],rfl,[(0,0),(1,1)],[(0,aS ⟨jS,(b8 s la).2.2,dv s la,(b8 s la).2.1,eE,(b8 s la).2.2,dv s la⟩),(1,aZ s ⟨jS,(b8 s la).2.2,dv s la,(b8 s la).2.1,eE,(b8 s la).2.2,dv s la⟩)],rfl,rfl,?_,⟨_,rfl,rfl,?_⟩⟩;·simp[aL,aF,ai,ak,aj,AV.aA,aS,aZ,aU,af,jS]
   ·rw[hg,hgo];exact⟨rfl,h0,rfl,(λh=>by cases h),alZ _⟩
theorem lD {s:List UInt8} (hs:s.length<=140737488351232) {σ:PR Nat} {q:eM} (h:PS s σ q) {dst:Option Nat} {ops:List bC} {K:St->Prop} {t:Fr} {m:Mem} {n:Nat} (oc:ai m 0=some (aS q)) (jX:ai m 1=some (aZ s q))
 (hk:∀q',PS s (dM σ (oT s)) q'->bN aK ops ⟨cG t dst (.cC []),ak (ak m 0 (aS q')) 1 (aZ s q'),n+2⟩ K):ej aK 102 [.ptr 0 0] dst ops K t m n:=by
 refine ey (rest:=[]) (Q:=λr q'=>r=.cC []/\PS s (dM σ (oT s)) q') (LN hs h) rfl ?_ oc jX ?_;·rintro _ _ ⟨rfl,_⟩;rfl
 ·rintro _ q' ⟨rfl,h⟩;exact hk q' h
theorem S7 (s:List UInt8) (q:eM):bB aK 109 [.ptr 0 0] [(0,aS q),(1,aZ s q)] λr m'=>∃q',m'=[(0,aS q'),(1,aZ s q')]/\(r=.d (.bool (decide (q.code=0)))/\q'=q):=by
 refine ay func109 VY ntmps109 results109 rfl ?_;unfold ada;refine J λK hK=>?_;simp-implicitDefEqProofs only[go_sem];refine hK _ (J λK hK=>?_);simp-implicitDefEqProofs only[go_sem,aS];apply hK;apply an;simp only[go_sem];refine bO (.d (.bool (decide (q.code=0)))) [(0,0),(1,1)] [(0,aS q),(1,aZ s q)] ?_ rfl rfl ?_ ⟨q,rfl,rfl,rfl⟩;·simp[bj,aP,bt,ah]
 ·simp[aL,aF,ai,ak,aj,AV.aA,aS,aZ,aU,af]
theorem iT (s:List UInt8) (q:eM) {dst:Option Nat} {ops:List bC} {K:St->Prop} {t:Fr} {m:Mem} {n:Nat} (oc:ai m 0=some (aS q)) (jX:ai m 1=some (aZ s q))
 (hk:bN aK ops ⟨cG t dst (.d (.bool (decide (q.code=0)))),ak (ak m 0 (aS q)) 1 (aZ s q),n+2⟩ K):ej aK 109 [.ptr 0 0] dst ops K t m n:=by
 refine ey (rest:=[]) (Q:=λr q'=>r=.d (.bool (decide (q.code=0)))/\q'=q) (S7 s q) rfl ?_ oc jX ?_;·rintro _ _ ⟨rfl,_⟩;rfl
 ·rintro _ q' ⟨rfl,rfl⟩;exact hk
theorem LP (s:List UInt8) (q:eM) (c:Int):bB aK 110 [.ptr 0 0,au c] [(0,aS q),(1,aZ s q)] λr m'=>∃q',m'=[(0,aS q'),(1,aZ s q')]/\(r=.cC []/\q'=fu q c):=by
 by_cases h:q.code=0
 ·have hf:fu q c={q with code:=c,lI:=q.tok.pl}:=by unfold fu;rw[if_pos h]
  rw[hf];refine ay func110 JU ntmps110 results110 rfl ?_;unfold VZ;refine J λK hK=>?_;simp-implicitDefEqProofs only[go_sem,aS,h];apply hK;refine aM ?_;refine ag rfl ?_;simp-implicitDefEqProofs only[go_sem];refine⟨.cC [],rfl,[(0,0),(1,1)],[(0,aS {q with code:=c,lI:=q.tok.pl}),(1,aZ s {q with code:=c,lI:=q.tok.pl})],rfl,rfl,?_,⟨_,rfl,rfl,rfl⟩⟩;simp[aL,aF,ai,ak,aj,AV.aA,aS,aZ,aU,af]
 ·have hf:fu q c=q:=by unfold fu;rw[if_neg h]
  rw[hf];refine ay func110 JU ntmps110 results110 rfl ?_;unfold VZ;refine J λK hK=>?_;simp-implicitDefEqProofs only[go_sem,aS,h];apply hK;refine aH ?_;apply ar;refine⟨.cC [],rfl,[(0,0),(1,1)],[(0,aS q),(1,aZ s q)],rfl,rfl,?_,⟨_,rfl,rfl,rfl⟩⟩;simp[aL,aF,ai,ak,aj,AV.aA,aS,aZ,aU,af]
theorem gI (s:List UInt8) (q:eM) (c:Int) {dst:Option Nat} {ops:List bC} {K:St->Prop} {t:Fr} {m:Mem} {n:Nat} (oc:ai m 0=some (aS q)) (jX:ai m 1=some (aZ s q))
 (hk:bN aK ops ⟨cG t dst (.cC []),ak (ak m 0 (aS (fu q c))) 1 (aZ s (fu q c)),n+2⟩ K):ej aK 110 [.ptr 0 0,au c] dst ops K t m n:=by
 refine ey (rest:=[au c]) (Q:=λr q'=>r=.cC []/\q'=fu q c) (LP s q c) rfl ?_ oc jX ?_;·rintro _ _ ⟨rfl,_⟩;rfl
 ·rintro _ q' ⟨rfl,rfl⟩;exact hk
set_option maxHeartbeats 4000000 in
theorem S8 (s:List UInt8) (q:eM) (x:List UInt8):bB aK 147 [.ptr 0 0,.d (.str x)] [(0,aS q),(1,aZ s q)] λr m'=>∃q',m'=[(0,aS q'),(1,aZ s q')]/\(r=.d (.bool (oZ q x))/\q'=q):=by
 refine ay func147 V0 ntmps147 results147 rfl ?_;unfold adb;refine J λK hK=>?_;simp-implicitDefEqProofs only[go_sem];apply hK;have fin:∀(t:Fr) (n:Nat),ah t 4=.d (.bool (oZ q x))->nC aK #[.tmp 4] (aE [(0,aS q),(1,aZ s q)]) (λr m'=>∃q',m'=[(0,aS q'),(1,aZ s q')]/\(r=.d (.bool (oZ q x))/\q'=q)) .ret ⟨t,[(0,aS q),(1,aZ s q)],n⟩:=by
  intro t n ht;refine bO (.d (.bool (oZ q x))) [(0,0),(1,1)] [(0,aS q),(1,aZ s q)] ?_ rfl rfl ?_ ⟨q,rfl,rfl,rfl⟩;·simp[bj,aP,bt,ht]
  ·simp[aL,aF,ai,ak,aj,AV.aA,aS,aZ,aU,af]
 refine J λK hK=>?_;simp-implicitDefEqProofs only[go_sem];refine iT s q rfl rfl ?_;by_cases h0:q.code=0
 ·by_cases h3:q.tok.kd=3
  ·simp-implicitDefEqProofs only[go_sem,ak,eq_true h0,eq_true h3,aS,decide_true];apply hK;apply an;simp-implicitDefEqProofs only[go_sem];exact fin _ _ (by simp[ah,oZ,TO,h0,h3])
  ·by_cases h1:q.tok.kd=1
   ·simp-implicitDefEqProofs only[go_sem,ak,eq_true h0,eq_true h1,eq_false h3,aS,decide_true];apply hK;apply an;simp-implicitDefEqProofs only[go_sem];exact fin _ _ (by simp[ah,oZ,TO,h0,h1])
   ·simp-implicitDefEqProofs only[go_sem,ak,eq_true h0,eq_false h1,eq_false h3,aS,decide_true];apply hK;apply an;simp-implicitDefEqProofs only[go_sem];exact fin _ _ (by simp[ah,oZ,TO,h0,h1,h3])
 ·simp-implicitDefEqProofs only[go_sem,ak,eq_false h0,aS,decide_false];apply hK;apply an;simp-implicitDefEqProofs only[go_sem];exact fin _ _ (by simp[ah,oZ,h0])
theorem S9 (s:List UInt8) (q:eM) (x:List UInt8) {dst:Option Nat} {ops:List bC} {K:St->Prop} {t:Fr} {m:Mem} {n:Nat} (oc:ai m 0=some (aS q)) (jX:ai m 1=some (aZ s q))
 (hk:bN aK ops ⟨cG t dst (.d (.bool (oZ q x))),ak (ak m 0 (aS q)) 1 (aZ s q),n+2⟩ K):ej aK 147 [.ptr 0 0,.d (.str x)] dst ops K t m n:=by
 refine ey (rest:=[.d (.str x)]) (Q:=λr q'=>r=.d (.bool (oZ q x))/\q'=q) (S8 s q x) rfl ?_ oc jX ?_;·rintro _ _ ⟨rfl,_⟩;rfl
 ·rintro _ q' ⟨rfl,rfl⟩;exact hk
def tkQ (s:List UInt8) (σ:PR Nat) (q:eM) (x:List UInt8) (r:AV) (q':eM):Prop:=
 r=.d (.bool (oZ q x))/\(oZ q x=true->PS s (dM σ (oT s)) q')/\(oZ q x=false->q'=q)
theorem LQ {s:List UInt8} (hs:s.length<=140737488351232) {σ:PR Nat} {q:eM} (h:PS s σ q) (x:List UInt8):
 bB aK 105 [.ptr 0 0,.d (.str x)] [(0,aS q),(1,aZ s q)] λr m'=>∃q',m'=[(0,aS q'),(1,aZ s q')]/\tkQ s σ q x r q':=by
 refine ay func105 VU ntmps105 results105 rfl ?_;unfold ac5;refine J λK hK=>?_;simp-implicitDefEqProofs only[go_sem];apply hK;refine aa λK1 aT=>?_;refine J λK hK=>?_;simp-implicitDefEqProofs only[go_sem];refine S9 s q x rfl rfl ?_;cases hb:oZ q x with
 |false=>
  simp-implicitDefEqProofs only[go_sem,ak];apply hK;refine aM ?_;refine J λK hK=>?_;simp-implicitDefEqProofs only[go_sem];apply hK;apply an;simp only[go_sem];refine bO (.d (.bool false)) [(0,0),(1,1)] [(0,aS q),(1,aZ s q)] ?_ rfl rfl ?_ ⟨q,rfl,by rw[hb];rfl,(λh=>by rw[hb]at h;cases h),λ_=>rfl⟩;·simp[bj,aP,bt,ah]
  ·simp[aL,aF,ai,ak,aj,AV.aA,aS,aZ,aU,af]
 |true=>
  simp-implicitDefEqProofs only[go_sem,ak];apply hK;refine aH ?_;apply ar;refine aT _ (J λK hK=>?_);simp-implicitDefEqProofs only[go_sem];refine lD hs h rfl rfl ?_;intro q' Bg;simp-implicitDefEqProofs only[go_sem,ak];refine hK _ (J λK hK=>?_);simp-implicitDefEqProofs only[go_sem];apply hK;apply an;simp only[go_sem];refine bO (.d (.bool true)) [(0,0),(1,1)] [(0,aS q'),(1,aZ s q')] ?_ rfl rfl ?_ ⟨q',rfl,by rw[hb];rfl,λ_=>Bg,(λh=>by rw[hb]at h;cases h)⟩;·simp[bj,aP,bt,ah]
  ·simp[aL,aF,ai,ak,aj,AV.aA,aS,aZ,aU,af]
theorem dW {s:List UInt8} (hs:s.length<=140737488351232) {σ:PR Nat} {q:eM} (h:PS s σ q) (x:List UInt8) {dst:Option Nat} {ops:List bC} {K:St->Prop} {t:Fr} {m:Mem} {n:Nat} (oc:ai m 0=some (aS q)) (jX:ai m 1=some (aZ s q))
 (hk:∀q',(oZ q x=true->PS s (dM σ (oT s)) q')->(oZ q x=false->q'=q)->bN aK ops ⟨cG t dst (.d (.bool (oZ q x))),ak (ak m 0 (aS q')) 1 (aZ s q'),n+2⟩ K):ej aK 105 [.ptr 0 0,.d (.str x)] dst ops K t m n:=by
 refine ey (rest:=[.d (.str x)]) (LQ hs h x) rfl ?_ oc jX ?_;·rintro _ _ ⟨rfl,_⟩;rfl
 ·rintro _ q' ⟨rfl,h1,h2⟩;exact hk q' h1 h2
theorem LR {s:List UInt8} (hs:s.length<=140737488351232) {σ:PR Nat} {q:eM} (h:PS s σ q) (x:List UInt8):
 bB aK 103 [.ptr 0 0,.d (.str x)] [(0,aS q),(1,aZ s q)] λr m'=>∃q',m'=[(0,aS q'),(1,aZ s q')]/\(r=.cC []/\PQ s (dM σ ((gj x).run s)) () q'):=by
 refine ay func103 VS ntmps103 results103 rfl ?_;unfold ac2;refine J λK hK=>?_;simp-implicitDefEqProofs only[go_sem];refine dW hs h x rfl rfl ?_;intro q' hy hn;cases hb:oZ q x with
 |false=>
  have hq:=hn hb;subst hq;simp-implicitDefEqProofs only[go_sem,ak];apply hK;refine aM ?_;refine ag rfl ?_;simp-implicitDefEqProofs only[go_sem];refine gI s q' 6 rfl rfl ?_;simp-implicitDefEqProofs only[go_sem,ak];refine⟨.cC [],rfl,[(0,0),(1,1)],[(0,aS (fu q' 6)),(1,aZ s (fu q' 6))],rfl,rfl,?_,⟨_,rfl,rfl,?_⟩⟩;·simp[aL,aF,ai,ak,aj,AV.aA,aS,aZ,aU,af]
  ·exact PQ.fg (x:=x) (yes:=.ret ()) h hb (PQ.bad h (by decide) ())
 |true=>
  have hq:=hy hb;simp-implicitDefEqProofs only[go_sem,ak];apply hK;refine aH ?_;apply ar;refine⟨.cC [],rfl,[(0,0),(1,1)],[(0,aS q'),(1,aZ s q')],rfl,rfl,?_,⟨_,rfl,rfl,?_⟩⟩;·simp[aL,aF,ai,ak,aj,AV.aA,aS,aZ,aU,af]
  ·exact PQ.il (x:=x) (no:=.bad 6) h hb (PQ.ret hq)
theorem dX {s:List UInt8} (hs:s.length<=140737488351232) {σ:PR Nat} {q:eM} (h:PS s σ q) (x:List UInt8) {dst:Option Nat} {ops:List bC} {K:St->Prop} {t:Fr} {m:Mem} {n:Nat} (oc:ai m 0=some (aS q)) (jX:ai m 1=some (aZ s q))
 (hk:∀q',PQ s (dM σ ((gj x).run s)) () q'->bN aK ops ⟨cG t dst (.cC []),ak (ak m 0 (aS q')) 1 (aZ s q'),n+2⟩ K):ej aK 103 [.ptr 0 0,.d (.str x)] dst ops K t m n:=by
 refine ey (rest:=[.d (.str x)]) (Q:=λr q'=>r=.cC []/\PQ s (dM σ ((gj x).run s)) () q') (LR hs h x) rfl ?_ oc jX ?_;·rintro _ _ ⟨rfl,_⟩;rfl
 ·rintro _ q' ⟨rfl,h⟩;exact hk q' h
theorem vU {q:eM} {c:Int} (hc:c≠0):(fu q c).code≠0:=by
 unfold fu;split;·exact hc
 ·assumption
set_option maxHeartbeats 4000000 in
theorem LS {s:List UInt8} (hs:s.length<=140737488351232) {σ:PR Nat} {q:eM} (h:PS s σ q):
 bB aK 104 [.ptr 0 0] [(0,aS q),(1,aZ s q)] λr m'=>∃q',m'=[(0,aS q'),(1,aZ s q')]/\∃x,r=.d (.str x)/\PQ s (dM σ (D7.run s)) x q':=by
 refine ay func104 VT ntmps104 results104 rfl ?_;unfold ac3;refine J λK hK=>?_;simp only[go_sem];refine hK _ (J λK hK=>?_);simp only[go_sem,aS];apply hK;refine aa λK1 aT=>?_;by_cases h1:q.tok.kd=1
 ·refine J λK hK=>?_;simp only[go_sem,eq_true h1];apply hK;refine aH ?_;apply ar;refine aT _ (J λK hK=>?_);simp only[go_sem];refine lD hs h rfl rfl ?_;intro q' Bg;simp only[go_sem,ak];refine hK _ (J λK hK=>?_);simp only[go_sem];apply hK;apply an;simp only[go_sem];refine bO (.d (.str q.tok.tx)) [(0,0),(1,1)] [(0,aS q'),(1,aZ s q')] ?_ rfl rfl ?_ ⟨q',rfl,q.tok.tx,rfl,?_⟩;·simp[bj,aP,bt,ah]
  ·simp[aL,aF,ai,ak,aj,AV.aA,aS,aZ,aU,af]
  ·refine PQ.cur h ?_;rw[if_pos h1];exact PQ.lI (PQ.ret Bg)
 ·refine J λK hK=>?_;simp only[go_sem,eq_false h1];apply hK;refine aM ?_;refine J λK hK=>?_;simp only[go_sem];refine gI s q 6 rfl rfl ?_;simp only[go_sem,ak];refine hK _ (J λK hK=>?_);simp only[go_sem];apply hK;apply an;simp only[go_sem];refine bO (.d (.str [])) [(0,0),(1,1)] [(0,aS (fu q 6)),(1,aZ s (fu q 6))] ?_ rfl rfl ?_ ⟨_,rfl,[],rfl,?_⟩;·simp[bj,aP,bt,ah]
  ·simp[aL,aF,ai,ak,aj,AV.aA,aS,aZ,aU,af]
  ·refine PQ.cur h ?_;rw[if_neg h1];exact PQ.bad h (by decide) []
theorem LU {s:List UInt8} (hs:s.length<=140737488351232) {σ:PR Nat} {q:eM} (h:PS s σ q) {dst:Option Nat} {ops:List bC} {K:St->Prop} {t:Fr} {m:Mem} {n:Nat} (oc:ai m 0=some (aS q)) (jX:ai m 1=some (aZ s q))
 (hk:∀x q',PQ s (dM σ (D7.run s)) x q'->bN aK ops ⟨cG t dst (.d (.str x)),ak (ak m 0 (aS q')) 1 (aZ s q'),n+2⟩ K):ej aK 104 [.ptr 0 0] dst ops K t m n:=by
 refine ey (rest:=[]) (Q:=λr q'=>∃x,r=.d (.str x)/\PQ s (dM σ (D7.run s)) x q') (LS hs h) rfl ?_ oc jX ?_;·rintro _ _ ⟨_,rfl,_⟩;rfl
 ·rintro _ q' ⟨x,rfl,h⟩;exact hk x q' h
set_option maxHeartbeats 4000000 in
theorem ON {s:List UInt8} (hs:s.length<=140737488351232) {σ:PR Nat} {q:eM} (h:PS s σ q):
 bB aK 150 [.ptr 0 0] [(0,aS q),(1,aZ s q)] λr m'=>∃q',m'=[(0,aS q'),(1,aZ s q')]/\∃x,r=au x/\PQ s (dM σ (zD.run s)) x q':=by
 have hp:=h.pos;have kp:=rI (s:=q.tok.tx) (by omega);refine ay func150 V3 ntmps150 results150 rfl ?_;unfold adg;refine J λK hK=>?_;simp only[go_sem];apply hK;refine aa λK1 aT=>?_;by_cases h1:q.tok.kd=2
 ·refine J λK hK=>?_;simp only[go_sem,aS,eq_true h1];apply hK;refine aH ?_;apply ar;apply aT;refine aa λK1 aT=>?_;refine J λK hK=>?_;simp only[go_sem];refine iT s q rfl rfl ?_;cases σ with
  |error e=>
   have hc:=h.LM;simp only[go_sem,ak,hc];apply hK;refine aM ?_;refine J λK hK=>?_;simp only[go_sem];apply hK;apply an;simp only[go_sem];refine bO (au 0) [(0,0),(1,1)] [(0,aS q),(1,aZ s q)] ?_ rfl rfl ?_ ⟨q,rfl,0,rfl,h⟩;·simp[bj,aP,bt,ah]
   ·simp[aL,aF,ai,ak,aj,AV.aA,aS,aZ,aU,af]
  |ok a=>
   have hc:=h.code;simp only[go_sem,ak,hc];apply hK;refine aH ?_;apply ar;refine aT _ (J λK hK=>?_);simp only[go_sem,aS]
   repeat' (first
    |(refine cn (λhb=>?_) (λhb=>?_)<;>simp only[go_sem,hb])
    |(refine b7 (λhb=>?_) (λhb=>?_)<;>simp only[go_sem,hb])
    |(refine aI (kp) rfl rfl ?_;simp only[go_sem])
    |(refine bD (kp) rfl rfl ?_;simp only[go_sem])
    |(rw[if_pos (by(try simp only[aln,alu,alB,alk]);omega)];simp only[go_sem]))
   refine hK _ (J λK hK=>?_);simp only[go_sem];refine lD hs h rfl rfl ?_;intro q' Bg;simp only[go_sem,ak];refine hK _ (J λK hK=>?_);simp only[go_sem];apply hK;apply an;simp only[go_sem];refine bO (au ((eu q.tok.tx).1)) [(0,0),(1,1)] [(0,aS q'),(1,aZ s q')] ?_ rfl rfl ?_ ⟨q',rfl,_,rfl,?_⟩;·simp[bj,aP,bt,ah]
   ·simp[aL,aF,ai,ak,aj,AV.aA,aS,aZ,aU,af]
   ·refine PQ.cur h ?_;rw[if_pos h1];exact PQ.lI (PQ.ret Bg)
 ·refine J λK hK=>?_;simp only[go_sem,aS,eq_false h1];apply hK;refine aM ?_;refine ag rfl ?_;simp only[go_sem];refine gI s q 6 rfl rfl ?_;have hc:(fu q 6).code≠0:=vU (by decide);simp only[go_sem,ak];apply aT;refine aa λK1 aT=>?_;refine J λK hK=>?_;simp only[go_sem];refine iT s (fu q 6) rfl rfl ?_;simp only[go_sem,ak,hc];apply hK;refine aM ?_;refine J λK hK=>?_;simp only[go_sem];apply hK;apply an;simp only[go_sem];refine bO (au 0) [(0,0),(1,1)] [(0,aS (fu q 6)),(1,aZ s (fu q 6))] ?_ rfl rfl ?_ ⟨_,rfl,0,rfl,?_⟩;·simp[bj,aP,bt,ah]
  ·simp[aL,aF,ai,ak,aj,AV.aA,aS,aZ,aU,af]
  ·refine PQ.cur h ?_;rw[if_neg h1];exact PQ.bad h (by decide) 0
theorem rK {s:List UInt8} (hs:s.length<=140737488351232) {σ:PR Nat} {q:eM} (h:PS s σ q) {dst:Option Nat} {ops:List bC} {K:St->Prop} {t:Fr} {m:Mem} {n:Nat} (oc:ai m 0=some (aS q)) (jX:ai m 1=some (aZ s q))
 (hk:∀x q',PQ s (dM σ (zD.run s)) x q'->bN aK ops ⟨cG t dst (au x),ak (ak m 0 (aS q')) 1 (aZ s q'),n+2⟩ K):ej aK 150 [.ptr 0 0] dst ops K t m n:=by
 refine ey (rest:=[]) (Q:=λr q'=>∃x,r=au x/\PQ s (dM σ (zD.run s)) x q') (ON hs h) rfl ?_ oc jX ?_;·rintro _ _ ⟨_,rfl,_⟩;rfl
 ·rintro _ q' ⟨x,rfl,h⟩;exact hk x q' h
set_option maxHeartbeats 4000000 in
theorem xZ {s:List UInt8} (hs:s.length<=140737488351232) {σ:PR Nat} {q:eM} (h:PS s σ q) {g:Nat} (hg:lK aK g=true) {f:List UInt8->Option Int} {v:List UInt8->Int} (hv:∀x n,f x=some n->v x=n)
 (hp:∀x:List UInt8,x≠ []->Pure aK g [.d (.str x)] (.cC [au (v x),.d (.bool (f x).isSome)])):
 bB aK 148 [.ptr 0 0,.fn g []] [(0,aS q),(1,aZ s q)] λr m'=>∃q',m'=[(0,aS q'),(1,aZ s q')]/\∃x,r=au x/\PQ s (dM σ ((jb f).run s)) x q':=by
 have afa:=h.pos;refine ay func148 V1 ntmps148 results148 rfl ?_;unfold ade;refine J λK hK=>?_;simp only[go_sem];apply hK;refine aa λK1 aT=>?_;by_cases h1:q.tok.kd=1
 ·have kp:=hp q.tok.tx (afa.1 h1);refine J λK hK=>?_;simp only[go_sem,aS,eq_true h1];apply hK;refine aH ?_;apply ar;refine aT _ (J λK hK=>?_);simp only[go_sem];refine⟨hg,?_⟩;refine aI kp rfl rfl ?_;simp only[go_sem];apply hK;refine aa λK1 aT=>?_;cases hf:f q.tok.tx with
  |none=>
   refine J λK hK=>?_;simp only[go_sem,alD];apply hK;refine aM ?_;refine J λK hK=>?_;simp only[go_sem];refine gI s q 7 rfl rfl ?_;simp only[go_sem,ak];refine hK _ (J λK hK=>?_);simp only[go_sem];apply hK;apply an;simp only[go_sem];refine bO (au 0) [(0,0),(1,1)] [(0,aS (fu q 7)),(1,aZ s (fu q 7))] ?_ rfl rfl ?_ ⟨_,rfl,0,rfl,?_⟩;·simp[bj,aP,bt,ah]
   ·simp[aL,aF,ai,ak,aj,AV.aA,aS,aZ,aU,af]
   ·refine PQ.cur h ?_;rw[if_pos h1,hf];exact PQ.bad h (by decide) 0
  |some n=>
   have hvn:=hv _ _ hf;refine J λK hK=>?_;simp only[go_sem,alH];apply hK;refine aH ?_;apply ar;refine aT _ (J λK hK=>?_);simp only[go_sem];refine lD hs h rfl rfl ?_;intro q' Bg;simp only[go_sem,ak];refine hK _ (J λK hK=>?_);simp only[go_sem];apply hK;apply an;simp only[go_sem];refine bO (au n) [(0,0),(1,1)] [(0,aS q'),(1,aZ s q')] ?_ rfl rfl ?_ ⟨q',rfl,n,rfl,?_⟩;·simp[bj,aP,bt,ah,hvn]
   ·simp[aL,aF,ai,ak,aj,AV.aA,aS,aZ,aU,af]
   ·refine PQ.cur h ?_;rw[if_pos h1,hf];exact PQ.lI (PQ.ret Bg)
 ·refine J λK hK=>?_;simp only[go_sem,aS,eq_false h1];apply hK;refine aM ?_;refine J λK hK=>?_;simp only[go_sem];refine gI s q 6 rfl rfl ?_;simp only[go_sem,ak];refine hK _ (J λK hK=>?_);simp only[go_sem];apply hK;apply an;simp only[go_sem];refine bO (au 0) [(0,0),(1,1)] [(0,aS (fu q 6)),(1,aZ s (fu q 6))] ?_ rfl rfl ?_ ⟨_,rfl,0,rfl,?_⟩;·simp[bj,aP,bt,ah]
  ·simp[aL,aF,ai,ak,aj,AV.aA,aS,aZ,aU,af]
  ·refine PQ.cur h ?_;rw[if_neg h1];exact PQ.bad h (by decide) 0
theorem LV {x:List UInt8} (hx:x≠ []):Pure aK 149 [.d (.str x)] (.cC [au ((x.getD 0 0).toNat:Int),.d (.bool (vQ x).isSome)]):=by
 have hl:0<x.length:=List.length_pos_iff.2 hx;have uv:(0:Int)<x.length:=by omega
 have hb:((x.getD 0 0).toNat:Int)<256:=by have:=(x.getD 0 0).toNat_lt;omega
 have hw:alv.wrap ((x.getD 0 0).toNat:Int)=((x.getD 0 0).toNat:Int):=wrap_i64 (by omega) (by omega);refine ay func149 V2 ntmps149 results149 rfl ?_;unfold adf;refine J λK hK=>?_;simp only[go_sem];refine hK _ (J λK hK=>?_);simp only[go_sem,uv,hw];apply hK;apply an;simp only[go_sem];refine aD (.cC [au ((x.getD 0 0).toNat:Int),.d (.bool (vQ x).isSome)]) ?_ rfl ⟨rfl,rfl⟩;by_cases h1:x.length=1
 ·have:(x.length:Int)=1:=by omega
  simp[bj,aP,bt,ah,vQ,h1]
 ·have:¬(x.length:Int)=1:=by omega
  simp[bj,aP,bt,ah,vQ,h1,this]
theorem mG {s:List UInt8} (hs:s.length<=140737488351232) {σ:PR Nat} {q:eM} (h:PS s σ q) {dst:Option Nat} {ops:List bC} {K:St->Prop} {t:Fr} {m:Mem} {n:Nat} (oc:ai m 0=some (aS q)) (jX:ai m 1=some (aZ s q))
 (hk:∀x q',PQ s (dM σ ((jb vQ).run s)) x q'->bN aK ops ⟨cG t dst (au x),ak (ak m 0 (aS q')) 1 (aZ s q'),n+2⟩ K):ej aK 148 [.ptr 0 0,.fn 149 []] dst ops K t m n:=by
 refine ey (rest:=[.fn 149 []]) (Q:=λr q'=>∃x,r=au x/\PQ s (dM σ ((jb vQ).run s)) x q') (xZ hs h (f:=vQ) (v:=λx=>((x.getD 0 0).toNat:Int)) (by kernel_rfl) (λx n hn=>by
  unfold vQ at hn;split at hn;·exact al9 hn
  ·cases hn) (λx hx=>LV hx)) rfl ?_ oc jX ?_
 ·rintro _ _ ⟨_,rfl,_⟩;rfl
 ·rintro _ q' ⟨x,rfl,h⟩;exact hk x q' h
set_option maxHeartbeats 4000000 in
theorem LW (x:List UInt8):Pure aK 224 [.d (.str x)] (.cC [au ((pJ x).getD 0),.d (.bool (pJ x).isSome)]):=by
 have key:∀(c k:UInt8),((c.toNat:Int)=(k.toNat:Int))↔c=k:=λc k=>⟨vR,λh=>by rw[h]⟩;refine ay func224 V7 ntmps224 results224 rfl ?_;unfold adk;refine J λK hK=>?_;simp only[go_sem];apply hK;refine aa λK1 aT=>?_;by_cases h2:x.length=2
 ·have Ba:(x.length:Int)=2:=by omega
  have i0:(0:Int)<x.length:=by omega
  have i1:(1:Int)<x.length:=by omega
  by_cases hr:((x.getD 0 0).toNat:Int)=114
  ·by_cases hlo:((x.getD 1 0).toNat:Int)<48
   ·have hn:pJ x=none:=by unfold pJ;rw[if_neg (by omega)]
    refine J λK hK=>?_;simp only[go_sem,Ba,i0,i1,hr,hlo];apply hK;refine aM ?_;refine J λK hK=>?_;simp only[go_sem];apply hK;apply an;simp only[go_sem];refine aD _ rfl rfl ⟨?_,rfl⟩;simp[ah,hn]
   ·by_cases hhi:(51:Int)<(x.getD 1 0).toNat
    ·have hn:pJ x=none:=by unfold pJ;rw[if_neg (by omega)]
     refine J λK hK=>?_;simp only[go_sem,Ba,i0,i1,hr,hlo,hhi];apply hK;refine aM ?_;refine J λK hK=>?_;simp only[go_sem];apply hK;apply an;simp only[go_sem];refine aD _ rfl rfl ⟨?_,rfl⟩;simp[ah,hn]
    ·have hn:pJ x=some (((x.getD 1 0).toNat-48:Nat):Int):=by
      unfold pJ;rw[if_pos ⟨h2,vR (k:=114) hr,by omega,by omega⟩]
     have hand:alv.wrap (bits .and .u8 ((x.getD 1 0).toNat:Int) 3)=(((x.getD 1 0).toNat-48:Nat):Int):=by
      have h4:x.getD 1 0=48\/x.getD 1 0=49\/x.getD 1 0=50\/x.getD 1 0=51:=by
       have k1:=key (x.getD 1 0) 48;have k2:=key (x.getD 1 0) 49;have k3:=key (x.getD 1 0) 50;have k4:=key (x.getD 1 0) 51;simp only[UInt8.reduceToNat,Int.cast_ofNat_Int]at k1 k2 k3 k4;rw[<-k1,<-k2,<-k3,<-k4];omega
      rcases h4 with h|h|h|h<;>rw[h]<;>decide
     refine J λK hK=>?_;simp only[go_sem,Ba,i0,i1,hr,hlo,hhi];apply hK;refine aH ?_;apply ar;refine aT _ (J λK hK=>?_);simp only[go_sem,i1,hand];apply hK;apply an;simp only[go_sem];refine aD _ rfl rfl ⟨?_,rfl⟩;simp[ah,hn]
  ·have hn:pJ x=none:=by unfold pJ;rw[if_neg (λh=>hr (by rw[h.2.1];rfl))]
   refine J λK hK=>?_;simp only[go_sem,Ba,i0,i1,hr];apply hK;refine aM ?_;refine J λK hK=>?_;simp only[go_sem];apply hK;apply an;simp only[go_sem];refine aD _ rfl rfl ⟨?_,rfl⟩;simp[ah,hn]
 ·have Ba:¬(x.length:Int)=2:=by omega
  have hn:pJ x=none:=by unfold pJ;rw[if_neg (λh=>h2 h.1)]
  refine J λK hK=>?_;simp only[go_sem,Ba];apply hK;refine aM ?_;refine J λK hK=>?_;simp only[go_sem];apply hK;apply an;simp only[go_sem];refine aD _ rfl rfl ⟨?_,rfl⟩;simp[ah,hn]
theorem vV {s:List UInt8} (hs:s.length<=140737488351232) {σ:PR Nat} {q:eM} (h:PS s σ q) {dst:Option Nat} {ops:List bC} {K:St->Prop} {t:Fr} {m:Mem} {n:Nat} (oc:ai m 0=some (aS q)) (jX:ai m 1=some (aZ s q))
 (hk:∀x q',PQ s (dM σ ((jb pJ).run s)) x q'->bN aK ops ⟨cG t dst (au x),ak (ak m 0 (aS q')) 1 (aZ s q'),n+2⟩ K):ej aK 148 [.ptr 0 0,.fn 224 []] dst ops K t m n:=by
 refine ey (rest:=[.fn 224 []]) (Q:=λr q'=>∃x,r=au x/\PQ s (dM σ ((jb pJ).run s)) x q') (xZ hs h (f:=pJ) (v:=λx=>(pJ x).getD 0) (by kernel_rfl) (λx n hn=>by rw[hn];rfl) (λx _=>LW x)) rfl ?_ oc jX ?_;·rintro _ _ ⟨_,rfl,_⟩;rfl
 ·rintro _ q' ⟨x,rfl,h⟩;exact hk x q' h
set_option maxHeartbeats 4000000 in
theorem OO {s:List UInt8} (hs:s.length<=140737488351232) {σ:PR Nat} {q:eM} (h:PS s σ q):
 bB aK 223 [.ptr 0 0] [(0,aS q),(1,aZ s q)] λr m'=>∃q',m'=[(0,aS q'),(1,aZ s q')]/\∃x:nf,r=.agg (x.cells.map .d)/\PQ s (dM σ (rJ.run s)) x q':=by
 have h84:mV aK 70=some (some 2):=by kernel_rfl
 refine ay func223 V6 ntmps223 results223 rfl ?_;unfold adj;refine J λK hK=>?_;simp only[go_sem];apply hK;refine aa λK1 aT=>?_;have no:∀(S:St),(q.code=0->q.tok.kd≠2)->aB 2 19 S ⟨[(0,.ptr 0 0),(2,.ptr 2 0)],[(0,aS q),(1,aZ s q),(2,[au 0,au 0])],3⟩->K1 S:=by
  intro S hn hS;apply aT;refine aw hS ?_;refine J λK hK=>?_;simp only[go_sem];refine vV hs h rfl rfl ?_;intro x q' Bg;simp only[go_sem,ak];apply hK;apply an;simp only[go_sem];refine bO (.agg (nf.cells ⟨x,0⟩|>.map .d)) [(0,0),(1,1)] [(0,aS q'),(1,aZ s q')] ?_ rfl rfl ?_ ⟨q',rfl,⟨x,0⟩,rfl,?_⟩;·simp[bj,aP,bt,ah,ai,ak,aN,h84,nf.cells]
  ·simp[aL,aF,ai,ak,aj,AV.aA,aS,aZ,aU,af]
  ·cases σ with
   |error e=>exact Bg
   |ok a=>
    refine PQ.cur h ?_;rw[if_neg (hn h.code)];exact PQ.bind Bg (PQ.ret Bg.ps)
 refine J λK hK=>?_;simp only[go_sem];refine iT s q rfl rfl ?_;by_cases hc:q.code=0
 ·by_cases h2:q.tok.kd=2
  ·simp only[go_sem,ak,eq_true hc,eq_true h2,aS,decide_true];apply hK;refine aM ?_;refine J λK hK=>?_;simp only[go_sem];refine rK (q:=q) hs h rfl rfl ?_;intro x q' Bg;simp only[go_sem,ak];apply hK;apply an;simp only[go_sem];refine bO (.agg (nf.cells ⟨-1,x⟩|>.map .d)) [(0,0),(1,1)] [(0,aS q'),(1,aZ s q')] ?_ rfl rfl ?_ ⟨q',rfl,⟨-1,x⟩,rfl,?_⟩;·simp[bj,aP,bt,ah,ai,ak,aN,h84,nf.cells]
   ·simp[aL,aF,ai,ak,aj,AV.aA,aS,aZ,aU,af]
   ·refine PQ.cur h ?_;rw[if_pos h2];exact PQ.bind Bg (PQ.ret Bg.ps)
  ·simp only[go_sem,ak,eq_true hc,eq_false h2,aS,decide_true];apply hK;refine aH ?_;apply ar;refine no _ (λ_=>h2) ?_;exact aB.cj [(0,0),(1,1),(2,2)] ⟨by simp[aV,ah,AV.aA,aj,af],by simp[aL,aF,ai,ak,aj,AV.aA,aS,aZ,aU,af],rfl,rfl⟩
 ·simp only[go_sem,ak,eq_false hc,aS,decide_false];apply hK;refine aH ?_;apply ar;refine no _ (λh0=>absurd h0 hc) ?_;exact aB.cj [(0,0),(1,1),(2,2)] ⟨by simp[aV,ah,AV.aA,aj,af],by simp[aL,aF,ai,ak,aj,AV.aA,aS,aZ,aU,af],rfl,rfl⟩
theorem abT (x:nf):cd (λ_=>none) (.agg (x.cells.map .d))=true:=rfl
theorem ln {s:List UInt8} (hs:s.length<=140737488351232) {σ:PR Nat} {q:eM} (h:PS s σ q) {dst:Option Nat} {ops:List bC} {K:St->Prop} {t:Fr} {m:Mem} {n:Nat} (oc:ai m 0=some (aS q)) (jX:ai m 1=some (aZ s q))
 (hk:∀(x:nf) q',PQ s (dM σ (rJ.run s)) x q'->bN aK ops ⟨cG t dst (.agg [au x.ez,au x.value]),ak (ak m 0 (aS q')) 1 (aZ s q'),n+2⟩ K):ej aK 223 [.ptr 0 0] dst ops K t m n:=by
 refine ey (rest:=[]) (Q:=λr q'=>∃x:nf,r=.agg (x.cells.map .d)/\PQ s (dM σ (rJ.run s)) x q') (OO hs h) rfl ?_ oc jX ?_;·rintro _ _ ⟨x,rfl,_⟩;exact abT x
 ·rintro _ q' ⟨x,rfl,h⟩;exact hk x q' h
theorem PQ.Y4 {α γ:Type} {s:List UInt8} {τ:PR Nat} {c:Int} {f:Nat->PR (γ×Nat)} {y:γ} {q':eM} (h:PQ s (dM (l7 (dM τ ((PT.bad c:PT α).run s))) f) y q'):PQ s (dM τ ((PT.bad c:PT γ).run s)) y q':=by
 cases τ with
 |error e=>exact h
 |ok a=>exact h
def jN (x:Ins):List AV:=x.cells.map .d
set_option maxHeartbeats 16000000 in
theorem Is {s:List UInt8} (hs:s.length<=140737488351232) {σ:PR Nat} {q:eM} (h:PS s σ q) (rg:Int):
 bB aK 225 [.ptr 0 0,.ptr 2 0] [(0,aS q),(1,aZ s q),(2,jN ⟨0,rg,0,⟨0,0⟩,0,⟨0,0⟩,0⟩)] λr m'=>∃q' x',m'=[(0,aS q'),(1,aZ s q'),(2,jN x')]/\(r=.cC []/\PQ s (dM σ ((tz rg).run s)) x' q'):=by
 refine ay func225 V8 ntmps225 results225 rfl ?_;unfold adl;apply ax;have fin:∀(e:Exit) (t:Fr) (n:Nat) (q':eM) (x':Ins),(e=.ret\/e=.normal)->PQ s (dM σ ((tz rg).run s)) x' q'->
  nC aK #[] 3 (λr m'=>∃q' x',m'=[(0,aS q'),(1,aZ s q'),(2,jN x')]/\(r=.cC []/\PQ s (dM σ ((tz rg).run s)) x' q')) e ⟨t,[(0,aS q'),(1,aZ s q'),(2,jN x')],n⟩:=by
  intro e t n q' x' he hq;rcases he with rfl|rfl
  ·refine⟨.cC [],rfl,[(0,0),(1,1),(2,2)],[(0,aS q'),(1,aZ s q'),(2,jN x')],rfl,rfl,?_,⟨q',x',rfl,rfl,hq⟩⟩;simp[aL,aF,ai,ak,aj,AV.aA,aS,aZ,aU,af,jN,Ins.cells]
  ·refine⟨.cC [],rfl,[(0,0),(1,1),(2,2)],[(0,aS q'),(1,aZ s q'),(2,jN x')],rfl,rfl,?_,⟨q',x',rfl,rfl,hq⟩⟩;simp[aL,aF,ai,ak,aj,AV.aA,aS,aZ,aU,af,jN,Ins.cells]
 refine J λK hK=>?_;simp only[go_sem];refine dW hs h [108,111,97,100] rfl rfl ?_;intro q1 hy hn;cases jR:oZ q [108,111,97,100]with
 |true=>
  have h1:=hy jR;simp only[go_sem,ak];apply hK;refine aM ?_;refine ag rfl ?_;simp only[go_sem];refine mG hs h1 rfl rfl ?_;intro l q2 h2;simp only[go_sem,ak,jN,Ins.cells];refine fin .normal _ _ q2 ⟨2,rg,l,⟨0,0⟩,0,⟨0,0⟩,0⟩ (.inr rfl) ?_;exact PQ.il h jR (PQ.bind h2 (PQ.ret h2.ps))
 |false=>
  have h1:=hn jR;subst h1;simp only[go_sem,ak];apply hK;refine aH ?_;refine J λK hK=>?_;simp only[go_sem];refine dW hs h [99,97,115] rfl rfl ?_;intro q2 hy hn;cases iq:oZ q1 [99,97,115]with
  |true=>
   have h2:=hy iq;simp only[go_sem,ak];apply hK;refine aM ?_;refine J λK hK=>?_;simp only[go_sem];refine mG hs h2 rfl rfl ?_;intro l q3 h3;simp only[go_sem,ak,jN,Ins.cells];refine hK _ (J λK hK=>?_);simp only[go_sem];refine ln hs h3.ps rfl rfl ?_;intro x q4 h4;simp only[go_sem,ak];apply hK;refine ag rfl ?_;simp only[go_sem];refine ln hs h4.ps rfl rfl ?_;intro y q5 h5;simp only[go_sem,ak];refine fin .normal _ _ q5 ⟨4,rg,l,x,0,y,0⟩ (.inr rfl) ?_;exact PQ.fg h jR (PQ.il h iq (PQ.bind h3 (PQ.bind h4 (PQ.bind h5 (PQ.ret h5.ps)))))
  |false=>
   have h2:=hn iq;subst h2;simp only[go_sem,ak];apply hK;refine aH ?_;refine J λK hK=>?_;simp only[go_sem];refine ln hs h rfl rfl ?_;intro x q3 h3;simp only[go_sem,ak,jN,Ins.cells];apply hK;have stop:(q3.code=0->q3.tok.kd=3->(opW q3.tok.tx).2=false)->PQ s (dM σ ((tz rg).run s)) ⟨5,rg,0,x,0,⟨-1,0⟩,0⟩ q3:=by
    intro wD;refine PQ.fg h jR (PQ.fg h iq (PQ.bind h3 ?_));have h3':=h3.ps;generalize l7 (dM σ (rJ.run s))=τ at h3'⊢;cases τ with
    |error e=>exact h3'
    |ok a=>
     refine PQ.cur h3' ?_;rw[if_neg (λhc=>by rw[wD h3'.code hc.1]at hc;cases hc.2)];exact PQ.ret h3'
   refine aa λK1 aT=>?_;refine J λK hK=>?_;simp only[go_sem];refine iT s q3 rfl rfl ?_;by_cases hc:q3.code=0
   ·by_cases hk:q3.tok.kd=3
    ·simp only[go_sem,ak,eq_true hc,eq_true hk,aS,decide_true];apply hK;refine aH ?_;apply ar;apply aT;have hl:=h3.ps.pos.2;have kop:=abQ q3.tok.tx;refine J λK hK=>?_;simp only[go_sem]
     repeat' (first
      |(refine cn (λhb=>?_) (λhb=>?_)<;>simp only[go_sem,hb])
      |(refine b7 (λhb=>?_) (λhb=>?_)<;>simp only[go_sem,hb])
      |(refine aI (kop) rfl rfl ?_;simp only[go_sem])
      |(refine bD (kop) rfl rfl ?_;simp only[go_sem])
      |(rw[if_pos (by(try simp only[aln,alu,alB,alk]);omega)];simp only[go_sem]))
     refine hK _ (J λK hK=>?_);simp only[go_sem];apply hK;cases ho:(opW q3.tok.tx).2 with
     |false=>
      refine aH ?_ (by simp[ev,ah,ho]);apply ar;refine fin .normal _ _ q3 ⟨5,rg,0,x,0,⟨-1,0⟩,0⟩ (.inr rfl) (stop λ_ _=>ho)
     |true=>
      refine aM ?_ (by simp[ev,ah,ho]);refine J λK hK=>?_;simp only[go_sem];refine lD (q:=q3) hs h3.ps rfl rfl ?_;intro q4 h4;simp only[go_sem,ak];apply hK;refine ag rfl ?_;simp only[go_sem];refine ln hs h4 rfl rfl ?_;intro z q5 h5;simp only[go_sem,ak];refine fin .normal _ _ q5 ⟨5,rg,0,x,(opW q3.tok.tx).1,z,0⟩ (.inr rfl) ?_;refine PQ.fg h jR (PQ.fg h iq (PQ.bind h3 ?_));refine PQ.cur h3.ps ?_;rw[if_pos ⟨hk,ho⟩];exact PQ.lI (PQ.bind h5 (PQ.ret h5.ps))
    ·simp only[go_sem,ak,eq_true hc,eq_false hk,aS,decide_true];apply hK;refine aM ?_;apply an;simp only[go_sem];exact fin .ret _ _ q3 ⟨5,rg,0,x,0,⟨-1,0⟩,0⟩ (.inl rfl) (stop λ_ h=>absurd h hk)
   ·simp only[go_sem,ak,eq_false hc,aS,decide_false];apply hK;refine aM ?_;apply an;simp only[go_sem];exact fin .ret _ _ q3 ⟨5,rg,0,x,0,⟨-1,0⟩,0⟩ (.inl rfl) (stop λh=>absurd h hc)
theorem LX (π:Nat->Option Nat) (x:Ins):aj π (jN x)=jN x:=bQ _ _
theorem abU (π:Nat->Option Nat) (x:Ins):bZ π (jN x)=true:=rfl
theorem It {s:List UInt8} (hs:s.length<=140737488351232) {σ:PR Nat} {q:eM} (h:PS s σ q) (rg:Int) {j:Nat} (hj:2<=j) {dst:Option Nat} {ops:List bC} {K:St->Prop} {t:Fr} {m:Mem} {n:Nat} (oc:ai m 0=some (aS q)) (jX:ai m 1=some (aZ s q)) (hm2:ai m j=some (jN ⟨0,rg,0,⟨0,0⟩,0,⟨0,0⟩,0⟩))
 (hk:∀x' q',PQ s (dM σ ((tz rg).run s)) x' q'->bN aK ops ⟨cG t dst (.cC []),ak (ak (ak m 0 (aS q')) 1 (aZ s q')) j (jN x'),n+3⟩ K):ej aK 225 [.ptr 0 0,.ptr j 0] dst ops K t m n:=by
 have e0:af [(0,0),(1,1),(2,j)] 1=some 1:=rfl;have ht:∀x,af [(0,0),(1,1),(2,j)] x=if 0=x then some 0 else if 1=x then some 1 else if 2=x then some j else none:=λx=>rfl
 refine bA [(0,0),(1,1),(2,j)] [.ptr 0 0,.ptr 2 0] [(0,aS q),(1,aZ s q),(2,jN ⟨0,rg,0,⟨0,0⟩,0,⟨0,0⟩,0⟩)] (nb:=j+1) (Is hs h rg) ?_ (by simp[aj,AV.aA,af]) rfl ?_ rfl ?_;·simp[bX];omega
 ·refine⟨?_,?_,?_,trivial⟩
  ·show ai m 0=some (aj (af _) (aS q))/\_;exact⟨by rw[oc,xX _ e0],rfl⟩
  ·show ai m 1=some (aj (af _) (aZ s q))/\_;exact⟨by rw[jX,xY],rfl⟩
  ·show ai m j=some (aj (af _) (jN _))/\_;exact⟨by rw[hm2,LX],rfl⟩
 ·rintro r0 m' ⟨q',x',rfl,rfl,hq⟩;have e1:bx [(0,0),(1,1),(2,j)] [(0,aS q),(1,aZ s q),(2,jN ⟨0,rg,0,⟨0,0⟩,0,⟨0,0⟩,0⟩)] [(0,aS q'),(1,aZ s q'),(2,jN x')] n m=ak (ak (ak m 0 (aS q')) 1 (aZ s q')) j (jN x'):=by
   show ak (ak (ak m 0 (aj (cf [(0,0),(1,1),(2,j)] _ _ n) (aS q'))) 1 (aj (cf [(0,0),(1,1),(2,j)] _ _ n) (aZ s q'))) j (aj (cf [(0,0),(1,1),(2,j)] _ _ n) (jN x'))=_;have hp:cf [(0,0),(1,1),(2,j)] [(0,aS q),(1,aZ s q),(2,jN ⟨0,rg,0,⟨0,0⟩,0,⟨0,0⟩,0⟩)] [(0,aS q'),(1,aZ s q'),(2,jN x')] n 1=some 1:=rfl;rw[xX _ hp,xY,LX]
  rw[e1];exact hk x' q' hq
set_option maxHeartbeats 32000000 in
theorem OP {s:List UInt8} (hs:s.length<=140737488351232) {σ:PR Nat} {q:eM} (h:PS s σ q):
 bB aK 151 [.ptr 0 0] [(0,aS q),(1,aZ s q)] λr m'=>∃q',m'=[(0,aS q'),(1,aZ s q')]/\∃x:Ins,r=.agg (jN x)/\PQ s (dM σ (Io.run s)) x q':=by
 have qU:mV aK 72=some (some 9):=by kernel_rfl
 refine ay func151 V4 ntmps151 results151 rfl ?_;unfold adh;refine J λK hK=>?_;simp only[go_sem];refine hK _ (J λK hK=>?_);simp only[go_sem];apply hK;refine aa λK0 Yh=>?_;apply ax;have fin:∀(t:Fr) (n:Nat) (q':eM) (x':Ins),ah t 2=.ptr 2 0->ah t 3=.ptr 3 0->PQ s (dM σ (Io.run s)) x' q'->2<=n->K0 ⟨t,[(0,aS q'),(1,aZ s q'),(2,[au 0,au 0,au 0,au 0,au 0,au 0,au 0,au 0,au 0]),(3,jN x')],n⟩:=by
  intro t n q' x' h2 h3 hq hn;apply Yh;refine aa λK hK=>ag (decide_eq_true hn) ?_;simp only[go_sem,h2,h3,jN,Ins.cells];apply hK;apply an;simp only[go_sem];refine bO (.agg (jN x')) [(0,0),(1,1)] [(0,aS q'),(1,aZ s q')] ?_ rfl rfl ?_ ⟨q',rfl,x',rfl,hq⟩;·simp[bj,aP,bt,ah,ai,ak,aN,qU,h2,jN,Ins.cells]
  ·simp[aL,aF,ai,ak,aj,AV.aA,aS,aZ,aU,af]
 refine J λK hK=>?_;simp only[go_sem];refine dW hs h OA rfl rfl ?_;intro q1 hy hn;cases jR:oZ q OA with
 |true=>
  have h1:=hy jR;simp only[go_sem,ak];apply hK;refine aM ?_;refine J λK hK=>?_;simp only[go_sem];refine mG hs h1 rfl rfl ?_;intro l q2 h2;simp only[go_sem,ak];apply hK;refine ag rfl ?_;simp only[go_sem];refine ln hs h2.ps rfl rfl ?_;intro x q3 h3;simp only[go_sem,ak];refine fin _ _ q3 ⟨1,0,l,x,0,⟨0,0⟩,0⟩ rfl rfl ?_ (by omega);exact PQ.il h jR (PQ.bind h2 (PQ.bind h3 (PQ.ret h3.ps)))
 |false=>
  have h1:=hn jR;subst h1;simp only[go_sem,ak];apply hK;refine aH ?_;refine J λK hK=>?_;simp only[go_sem];refine dW hs h OB rfl rfl ?_;intro q2 hy hn;cases iq:oZ q1 OB with
  |true=>
   have h2:=hy iq;simp only[go_sem,ak];apply hK;refine aM ?_;refine ag rfl ?_;simp only[go_sem];refine fin _ _ q2 ⟨3,0,0,⟨0,0⟩,0,⟨0,0⟩,0⟩ rfl rfl ?_ (by omega);exact PQ.fg h jR (PQ.il h iq (PQ.ret h2))
  |false=>
   have h2:=hn iq;subst h2;simp only[go_sem,ak];apply hK;refine aH ?_;refine J λK hK=>?_;simp only[go_sem];refine dW hs h YQ rfl rfl ?_;intro q3 hy hn;cases y2:oZ q2 YQ with
   |false=>
    have h3:=hn y2;subst h3;simp only[go_sem,ak];apply hK;refine aH ?_;refine J λK hK=>?_;simp only[go_sem];refine vV hs h rfl rfl ?_;intro rg q4 h4;simp only[go_sem,ak];refine hK _ (J λK hK=>?_);simp only[go_sem];refine dX hs h4.ps [61] rfl rfl ?_;intro q5 h5;simp only[go_sem,ak];apply hK;refine ag rfl ?_;simp only[go_sem];refine It hs h5.ps rg (j:=3) (by decide) rfl rfl rfl ?_;intro x q6 h6;simp only[go_sem,ak];refine fin _ _ q6 x rfl rfl ?_ (by omega);exact PQ.fg h jR (PQ.fg h iq (PQ.fg h y2 (PQ.bind h4 (PQ.bind h5 h6))))
   |true=>
    have h3:=hy y2;have kp:=rI (s:=q3.tok.tx) (by have:=h3.pos.2;omega);simp only[go_sem,ak];apply hK;refine aM ?_;refine J λK hK=>?_;simp only[go_sem];apply hK;refine aa λK1 aT=>?_;refine J λK hK=>?_;simp only[go_sem,aS]
    repeat' (first
     |(refine cn (λhb=>?_) (λhb=>?_)<;>simp only[go_sem,hb])
     |(refine b7 (λhb=>?_) (λhb=>?_)<;>simp only[go_sem,hb])
     |(refine aI (kp) rfl rfl ?_;simp only[go_sem])
     |(refine bD (kp) rfl rfl ?_;simp only[go_sem])
     |(rw[if_pos (by(try simp only[aln,alu,alB,alk]);omega)];simp only[go_sem]))
    apply hK;generalize hpn:(eu q3.tok.tx).1=pn;generalize (eu q3.tok.tx).2=pb;have rest:∀(t:Fr) (n:Nat) (q4:eM) (σ':PR Nat),PS s σ' q4->ah t 0=.ptr 0 0->ah t 2=.ptr 2 0->ah t 3=.ptr 3 0->2<=n->
     (∀x' q',PQ s (dM σ' ((zD.bind λn=>(gj wIf).bind λ_=>rJ.bind λx=>(gj [61,61]).bind λ_=>rJ.bind λy=>PT.ret (⟨6,0,0,x,0,y,n⟩:Ins)).run s)) x' q'->PQ s (dM σ (Io.run s)) x' q')->
     K1 ⟨t,[(0,aS q4),(1,aZ s q4),(2,[au 0,au 0,au 0,au 0,au 0,au 0,au 0,au 0,au 0]),(3,jN ⟨6,0,0,⟨0,0⟩,0,⟨0,0⟩,0⟩)],n⟩:=by
     intro t n q4 σ' h4 g0 g2 g3 TY aiQ;apply aT;refine aa λK hK=>ag (decide_eq_true TY) ?_;simp only[go_sem,g0,g3,jN,Ins.cells];refine rK hs h4 rfl rfl ?_;intro N q5 h5;simp only[go_sem,ak,g0,g3];apply hK;refine aa λK hK=>ag (decide_eq_true (Nat.le_add_left 2 _)) ?_;simp only[go_sem,g0,g3];refine dX hs h5.ps wIf rfl rfl ?_;intro q6 h6;simp only[go_sem,ak,g0,g3];apply hK;refine aa λK hK=>ag (decide_eq_true (Nat.le_add_left 2 _)) ?_;simp only[go_sem,g0,g3];refine ln hs h6.ps rfl rfl ?_;intro x q7 h7;simp only[go_sem,ak,g0,g3];apply hK;refine aa λK hK=>ag (decide_eq_true (Nat.le_add_left 2 _)) ?_
     simp only[go_sem,g0,g3];refine dX hs h7.ps [61,61] rfl rfl ?_;intro q8 h8;simp only[go_sem,ak,g0,g3];apply hK;refine ag (decide_eq_true (Nat.le_add_left 2 _)) ?_;simp only[go_sem,g0,g3];refine ln hs h8.ps rfl rfl ?_;intro y q9 h9;simp only[go_sem,ak,g0,g3];refine fin _ _ q9 ⟨6,0,0,x,0,y,N⟩ (by simp[ah,g2]) (by simp[ah,g3]) ?_ (by omega);refine aiQ _ _ ?_;exact PQ.bind h5 (PQ.bind h6 (PQ.bind h7 (PQ.bind h8 (PQ.bind h9 (PQ.ret h9.ps)))))
    have up:∀{x':Ins} {q':eM},PQ s (dM (dM σ (oT s)) ((PT.cur λd y=>if d=2/\(eu y).1<0 then .bad 6 else
     zD.bind λn=>(gj wIf).bind λ_=>rJ.bind λx=>(gj [61,61]).bind λ_=>rJ.bind λy=>PT.ret (⟨6,0,0,x,0,y,n⟩:Ins)).run s)) x' q'->PQ s (dM σ (Io.run s)) x' q':=
     λhq=>PQ.fg h jR (PQ.fg h iq (PQ.il h y2 hq))
    by_cases hk:q3.tok.kd=2
    ·by_cases w4:pn<0
     ·refine J λK hK=>?_;simp only[go_sem,aS,eq_true hk,eq_true w4,decide_true];apply hK;refine aM ?_;refine ag rfl ?_;simp only[go_sem];refine gI s q3 6 rfl rfl ?_;simp only[go_sem,ak];refine rest _ _ (fu q3 6) _ (h3.fail (by decide) (α:=Ins)) rfl rfl rfl (by omega) ?_;intro x' q' hq;refine up (PQ.cur h3 ?_);rw[if_pos ⟨hk,by rw[hpn];exact w4⟩];exact PQ.Y4 hq
     ·refine J λK hK=>?_;simp only[go_sem,aS,eq_true hk,eq_false w4,decide_true];apply hK;refine aH ?_;apply ar;refine rest _ _ q3 _ h3 rfl rfl rfl (by omega) ?_;intro x' q' hq;refine up (PQ.cur h3 ?_);rw[if_neg (λhh=>w4 (by rw[<-hpn];exact hh.2))];exact hq
    ·refine J λK hK=>?_;simp only[go_sem,aS,eq_false hk,decide_false];apply hK;refine aH ?_;apply ar;refine rest _ _ q3 _ h3 rfl rfl rfl (by omega) ?_;intro x' q' hq;refine up (PQ.cur h3 ?_);rw[if_neg (λhh=>hk hh.1)];exact hq
theorem OQ {s:List UInt8} (hs:s.length<=140737488351232) {σ:PR Nat} {q:eM} (h:PS s σ q) {dst:Option Nat} {ops:List bC} {K:St->Prop} {t:Fr} {m:Mem} {n:Nat} (oc:ai m 0=some (aS q)) (jX:ai m 1=some (aZ s q))
 (hk:∀(x:Ins) q',PQ s (dM σ (Io.run s)) x q'->bN aK ops ⟨cG t dst (.agg (jN x)),ak (ak m 0 (aS q')) 1 (aZ s q'),n+2⟩ K):ej aK 151 [.ptr 0 0] dst ops K t m n:=by
 refine ey (rest:=[]) (Q:=λr q'=>∃x:Ins,r=.agg (jN x)/\PQ s (dM σ (Io.run s)) x q') (OP hs h) rfl ?_ oc jX ?_;·rintro _ _ ⟨x,rfl,_⟩;exact abU _ x
 ·rintro _ q' ⟨x,rfl,h⟩;exact hk x q' h
theorem PQ.Gf {α β:Type} {s:List UInt8} {σ:PR Nat} {t:PT α} {f:α->PT β} {y:β} {q':eM} (h:PS s (l7 (dM σ (t.run s))) q') (he:q'.code≠0):PQ s (dM σ ((t.bind f).run s)) y q':=by
 cases σ with
 |error e=>exact h
 |ok a=>
  simp only[dM]at h⊢;rw[PT.run_bind];cases ht:t.run s a with
  |error e=>rw[ht]at h;exact h
  |ok p=>
   rw[ht]at h;exact absurd h.code he
def Qx (x:Atom):List AV:=x.cells.map .d
theorem afZ (π:Nat->Option Nat) (x:Atom):bZ π (Qx x)=true:=rfl
set_option maxHeartbeats 32000000 in
theorem LY {s:List UInt8} (hs:s.length<=140737488351232) {σ:PR Nat} {q:eM} (h:PS s σ q):
 bB aK 152 [.ptr 0 0] [(0,aS q),(1,aZ s q)] λr m'=>∃q',m'=[(0,aS q'),(1,aZ s q')]/\∃x:Atom,r=.agg (Qx x)/\PQ s (dM σ (jF.run s)) x q':=by
 have qU:mV aK 77=some (some 4):=by kernel_rfl
 have kp:=rI (s:=q.tok.tx) (by have:=h.pos.2;omega);refine ay func152 V5 ntmps152 results152 rfl ?_;unfold adi;refine J λK hK=>?_;simp only[go_sem];refine hK _ (J λK hK=>?_);simp only[go_sem];apply hK;refine aa λK0 Yh=>?_;have fin:∀(t:Fr) (n:Nat) (q1:eM) (x1:Atom),ah t 0=.ptr 0 0->ah t 2=.ptr 2 0->ah t 3=.ptr 3 0->PQ s (dM σ (SX.run s)) x1 q1->2<=n->K0 ⟨t,[(0,aS q1),(1,aZ s q1),(2,[au 0,au 0,au 0,au 0]),(3,Qx x1)],n⟩:=by
  intro t n q1 x1 g0 g2 g3 hq hn;apply Yh;refine aa λK hK=>ag (decide_eq_true hn) ?_;simp only[go_sem,g0,g2,g3,Qx,Atom.cells];refine dX hs hq.ps [61] rfl rfl ?_;intro q2 h2;simp only[go_sem,ak,g0,g2,g3];apply hK;refine aa λK hK=>ag (decide_eq_true (Nat.le_add_left 2 _)) ?_;simp only[go_sem,g0,g2,g3];refine rK hs h2.ps rfl rfl ?_;intro N q3 h3;simp only[go_sem,ak,g0,g2,g3];apply hK;refine aa λK hK=>ag (decide_eq_true (Nat.le_add_left 2 _)) ?_;simp only[go_sem,g0,g2,g3];apply hK;apply an;simp only[go_sem]
  refine bO (.agg (Qx {x1 with value:=N})) [(0,0),(1,1)] [(0,aS q3),(1,aZ s q3)] ?_ rfl rfl ?_ ⟨q3,rfl,{x1 with value:=N},rfl,?_⟩;·simp[bj,aP,bt,ah,ai,ak,aN,qU,g2,Qx,Atom.cells]
  ·simp[aL,aF,ai,ak,aj,AV.aA,aS,aZ,aU,af]
  ·exact PQ.bind hq (PQ.bind h2 (PQ.bind h3 (PQ.ret h3.ps)))
 refine J λK hK=>?_;simp only[go_sem];refine iT s q rfl rfl ?_;by_cases hc:q.code=0
 ·by_cases h2:q.tok.kd=2
  ·simp only[go_sem,ak,eq_true hc,eq_true h2,aS,decide_true];apply hK;refine aM ?_;refine J λK hK=>?_;simp only[go_sem]
   repeat' (first
    |(refine cn (λhb=>?_) (λhb=>?_)<;>simp only[go_sem,hb])
    |(refine b7 (λhb=>?_) (λhb=>?_)<;>simp only[go_sem,hb])
    |(refine aI (kp) rfl rfl ?_;simp only[go_sem])
    |(refine bD (kp) rfl rfl ?_;simp only[go_sem])
    |(rw[if_pos (by(try simp only[aln,alu,alB,alk]);omega)];simp only[go_sem]))
   apply hK;generalize hpn:(eu q.tok.tx).1=pn at*;generalize (eu q.tok.tx).2=pb at*;by_cases LO:pn<0\/9<pn
   ·have aey:PQ s (dM σ (SX.run s)) ⟨0,0,0,0⟩ (fu q 7):=by
     refine PQ.cur h ?_;rw[if_pos h2,hpn,if_pos LO];exact PQ.bad h (by decide) _
    by_cases n1:pn<0
    ·refine aa λK1 aT=>?_;refine J λK hK=>?_;simp only[go_sem,eq_true n1,decide_true,decide_false];apply hK;refine aM ?_;refine J λK hK=>?_;simp only[go_sem];refine gI s q 7 rfl rfl ?_;simp only[go_sem,ak];refine hK _ (J λK hK=>?_);simp only[go_sem];apply hK;apply an;simp only[go_sem];refine bO (.agg (Qx ⟨0,0,0,0⟩)) [(0,0),(1,1)] [(0,aS (fu q 7)),(1,aZ s (fu q 7))] ?_ rfl rfl ?_ ⟨_,rfl,⟨0,0,0,0⟩,rfl,?_⟩;·simp[bj,aP,bt,ah,ai,ak,aN,qU,Qx,Atom.cells]
     ·simp[aL,aF,ai,ak,aj,AV.aA,aS,aZ,aU,af]
     ·exact PQ.Gf aey.ps (vU (by decide))
    ·have n2:9<pn:=by omega
     refine aa λK1 aT=>?_;refine J λK hK=>?_;simp only[go_sem,eq_false n1,eq_true n2,decide_true,decide_false];apply hK;refine aM ?_;refine J λK hK=>?_;simp only[go_sem];refine gI s q 7 rfl rfl ?_;simp only[go_sem,ak];refine hK _ (J λK hK=>?_);simp only[go_sem];apply hK;apply an;simp only[go_sem];refine bO (.agg (Qx ⟨0,0,0,0⟩)) [(0,0),(1,1)] [(0,aS (fu q 7)),(1,aZ s (fu q 7))] ?_ rfl rfl ?_ ⟨_,rfl,⟨0,0,0,0⟩,rfl,?_⟩;·simp[bj,aP,bt,ah,ai,ak,aN,qU,Qx,Atom.cells]
     ·simp[aL,aF,ai,ak,aj,AV.aA,aS,aZ,aU,af]
     ·exact PQ.Gf aey.ps (vU (by decide))
   ·have n1:¬pn<0:=λh=>LO (.inl h);have n2:¬9<pn:=λh=>LO (.inr h);refine aa λK1 aT=>?_;refine J λK hK=>?_;simp only[go_sem,eq_false n1,eq_false n2,decide_false];apply hK;refine aH ?_;apply ar;refine aT _ (J λK hK=>?_);simp only[go_sem];refine hK _ (J λK hK=>?_);simp only[go_sem];refine lD (q:=q) hs h rfl rfl ?_;intro q2 NP;simp only[go_sem,ak];refine hK _ (J λK hK=>?_);simp only[go_sem];refine dX hs NP [58] rfl rfl ?_;intro q3 h3;simp only[go_sem,ak];apply hK;refine ag rfl ?_;simp only[go_sem];refine vV hs h3.ps rfl rfl ?_;intro rg q4 h4;simp only[go_sem,ak]
    refine fin _ _ q4 ⟨pn,rg,0,0⟩ rfl rfl rfl ?_ (by omega);refine PQ.cur h ?_;rw[if_pos h2,hpn,if_neg LO];exact PQ.lI (PQ.bind h3 (PQ.bind h4 (PQ.ret h4.ps)))
  ·simp only[go_sem,ak,eq_true hc,eq_false h2,aS,decide_true];apply hK;refine aH ?_;refine ag rfl ?_;simp only[go_sem];refine mG (q:=q) hs h rfl rfl ?_;intro l q2 NP;simp only[go_sem,ak];refine fin _ _ q2 ⟨-1,0,l,0⟩ rfl rfl rfl ?_ (by omega);refine PQ.cur h ?_;rw[if_neg h2];exact PQ.bind NP (PQ.ret NP.ps)
 ·simp only[go_sem,ak,eq_false hc,aS,decide_false];apply hK;refine aH ?_;refine ag rfl ?_;simp only[go_sem];refine mG (q:=q) hs h rfl rfl ?_;intro l q2 NP;simp only[go_sem,ak];refine fin _ _ q2 ⟨-1,0,l,0⟩ rfl rfl rfl ?_ (by omega);cases σ with
  |ok a=>exact absurd h.code hc
  |error e=>exact NP
theorem A0 {s:List UInt8} (hs:s.length<=140737488351232) {σ:PR Nat} {q:eM} (h:PS s σ q) {dst:Option Nat} {ops:List bC} {K:St->Prop} {t:Fr} {m:Mem} {n:Nat} (oc:ai m 0=some (aS q)) (jX:ai m 1=some (aZ s q))
 (hk:∀(x:Atom) q',PQ s (dM σ (jF.run s)) x q'->bN aK ops ⟨cG t dst (.agg (Qx x)),ak (ak m 0 (aS q')) 1 (aZ s q'),n+2⟩ K):ej aK 152 [.ptr 0 0] dst ops K t m n:=by
 refine ey (rest:=[]) (Q:=λr q'=>∃x:Atom,r=.agg (Qx x)/\PQ s (dM σ (jF.run s)) x q') (LY hs h) rfl ?_ oc jX ?_;·rintro _ _ ⟨x,rfl,_⟩;exact afZ _ x
 ·rintro _ q' ⟨x,rfl,h⟩;exact hk x q' h
def PT.Prog {α:Type} (t:PT α):Prop:=∀(s:List UInt8) (a:Nat) (x:α) (b:Nat),a<=s.length->(b8 s a).2.2=0->t.run s a=.ok (x,b)->a<b
theorem Ed {α:Type} {s:List UInt8} {k:PT α} {a b:Nat} {x:α} (ha:a<=s.length) (h0:(b8 s a).2.2=0) (h4:(o5 s a).kd≠4) (h:(PT.lI k).run s a=.ok (x,b)):a<b:=by
 simp only[PT.run]at h;split at h
 ·rename_i e he;obtain⟨rfl,_⟩:=ui he;have h1:=nv ha;have h2:=h1.2.2 h0 h4;have h3:=k.mE h1.2.1 h;omega
 ·cases h
theorem qy {α β:Type} {t:PT α} {f:α->PT β} (h:t.Prog):(t.bind f).Prog:=by
 intro s a y b ha h0 hr;rw[PT.run_bind]at hr;cases ht:t.run s a with
 |error e=>rw[ht]at hr;cases hr
 |ok p=>
  obtain⟨x,c⟩:=p;rw[ht]at hr;have h1:=h s a x c ha h0 ht;have h2:=t.mE ha ht;have h3:=(f x).mE h2.2 hr;omega
theorem Y5 {d:Int} {y x:List UInt8} (h:TO d y x=true):d≠4:=by
 rintro rfl;simp[TO]at h
theorem zF {α:Type} {x:List UInt8} {yes no:PT α} (h:no.Prog):(iN x yes no).Prog:=by
 intro s a y b ha h0 hr;unfold iN at hr;simp only[PT.run]at hr;by_cases hk:TO (o5 s a).kd (o5 s a).tx x=true
 ·rw[if_pos hk]at hr;exact Ed ha h0 (Y5 hk) hr
 ·rw[if_neg hk]at hr;exact h s a y b ha h0 hr
theorem vW (f:List UInt8->Option Int):(jb f).Prog:=by
 intro s a y b ha h0 hr;unfold jb at hr;simp only[PT.run]at hr;by_cases hk:(o5 s a).kd=1
 ·rw[if_pos hk]at hr;cases hf:f (o5 s a).tx with
  |none=>rw[hf]at hr;cases hr
  |some n=>rw[hf]at hr;exact Ed ha h0 (by rw[hk];decide) hr
 ·rw[if_neg hk]at hr;cases hr
theorem Ta:AY.Prog:=qy (vW _)
theorem Tb:xR.Prog:=qy (zF (zF (zF (qy (vW _)))))
theorem Tc:jF.Prog:=by
 apply qy;intro s a y b ha h0 hr;unfold SX at hr;simp only[PT.run]at hr;by_cases hk:(o5 s a).kd=2
 ·rw[if_pos hk]at hr;split at hr;·cases hr
  ·exact Ed ha h0 (by rw[hk];decide) hr
 ·rw[if_neg hk]at hr;exact qy (vW _) s a y b ha h0 hr
def BU {α:Type} (enc:α->List DV) (l:List α):DV:=.sl l.length (l.flatMap enc)
structure MI {α:Type} (s:List UInt8) (one:PT α) (j4:PR Nat) (f0:Nat) (acc:List α) (q:eM) (σ:PR Nat) (f:Nat):Prop where
 ps:PS s σ q
 to:∀l qf,PQ s (dM σ ((pB one f).run s)) l qf->PQ s (dM j4 ((pB one f0).run s)) (acc++l) qf
 fuel:∀a,σ=.ok a->s.length-a<f
 len:acc.length+f<=f0\/(∃e,σ=.error e)/\acc.length<=f0
theorem Iu {β:Type} {σ:PR Nat} {f:Nat->PR β} {r:β} (h:dM σ f=.ok r):∃a,σ=.ok a/\f a=.ok r:=by
 cases σ with
 |error e=>cases h
 |ok a=>exact⟨a,rfl,h⟩
theorem x5 {α:Type} {τ:PR (α×Nat)} {b:Nat} (h:l7 τ=.ok b):∃x,τ=.ok (x,b):=by
 cases τ with
 |error e=>cases h
 |ok p=>exact⟨p.1,by cases h;rfl⟩
theorem MI.next {α:Type} {s:List UInt8} {one:PT α} (hp:one.Prog) {j4:PR Nat} {f0:Nat} {acc:List α} {q:eM} {a f:Nat} (h:MI s one j4 f0 acc q (.ok a) f) (hb:oZ q [125]=false) {x:α} {q':eM} (hq:PQ s (one.run s a) x q'):
 ∃f',f=f'+1/\MI s one j4 f0 (acc++[x]) q' (l7 (one.run s a)) f':=by
 have hf:=h.fuel a rfl;obtain⟨f',rfl⟩:∃f',f=f'+1:=⟨f-1,by omega⟩;refine⟨f',rfl,⟨hq.ps,λl qf hl=>?_,λb gi=>?_,?_⟩⟩
 ·have:PQ s (dM (.ok a) ((pB one (f'+1)).run s)) (x::l) qf:=by
   refine PQ.fg h.ps hb ?_;refine PQ.bind (σ:=.ok a) hq (PQ.bind hl ?_);exact PQ.ret hl.ps
  have:=h.to _ _ this;simpa using this
 ·obtain⟨y,hy⟩:=x5 gi;have h1:=hp s a y b h.ps.1 h.ps.2.1 hy;have h2:=one.mE h.ps.1 hy;omega
 ·rcases h.len with hl|⟨⟨e,he⟩,_⟩
  ·left;simp only[aln,alu,alB];omega
  ·cases he
theorem MI.done {α:Type} {s:List UInt8} {one:PT α} {j4:PR Nat} {f0:Nat} {acc:List α} {q:eM} {a f:Nat} (h:MI s one j4 f0 acc q (.ok a) f) (hb:oZ q [125]=true) {q':eM} (hq:PS s (oT s a) q'):
 PQ s (dM j4 ((pB one f0).run s)) acc q':=by
 have hf:=h.fuel a rfl;obtain⟨f',rfl⟩:∃f',f=f'+1:=⟨f-1,by omega⟩;have:PQ s (dM (.ok a) ((pB one (f'+1)).run s)) [] q':=PQ.il h.ps hb (PQ.ret hq);have:=h.to _ _ this;simpa using this
theorem MI.err {α:Type} {s:List UInt8} {one:PT α} {j4:PR Nat} {f0:Nat} {acc:List α} {q:eM} {e:PE} {f:Nat} (h:MI s one j4 f0 acc q (.error e) f):PQ s (dM j4 ((pB one f0).run s)) acc q:=by
 have:=h.to [] q h.ps;simpa using this
theorem MI.start {α:Type} {s:List UInt8} {one:PT α} {σ:PR Nat} {q:eM} (hs:s.length<=4000) (h:PS s σ q):MI s one σ bV [] q σ bV:=
 ⟨h,λl qf hl=>hl,λa _=>by unfold bV;omega,.inl (by simp)⟩
theorem MI.short {α:Type} {s:List UInt8} {one:PT α} {j4 σ:PR Nat} {acc:List α} {q:eM} {f:Nat} (h:MI s one j4 bV acc q σ f):acc.length<=4001:=by
 rcases h.len with h|h;·unfold bV at h;omega
 ·exact h.2
def Mq (s:List UInt8) (acc:List Ins) (q:eM):St:=⟨[(3,.sl 2 9 0 acc.length),(0,.ptr 0 0)],[(0,aS q),(1,aZ s q),(2,(acc.flatMap Ins.cells).map .d)],3⟩
theorem LZ (l:List Ins):(l.flatMap Ins.cells).length=l.length*9:=by
 induction l with
 |nil=>rfl
 |cons x l ih=>simp only[alO,aln,kM,alu,ih];omega
set_option maxHeartbeats 16000000 in
theorem Y6 {s:List UInt8} (hs:s.length<=4000) {j4:PR Nat} {q0:eM} (h0:PS s j4 q0) {Q:Exit->St->Prop}
 (hQ:∀acc q',acc.length<=4001->PQ s (dM j4 ((pB xR bV).run s)) acc q'->Q (.exit 0) (Mq s acc q')):
 fP aK 2 21 (.loop G8) (Mq s [] q0) Q:=by
 have ny:s.length<=140737488351232:=by omega
 refine ef (ι:={p:List Ins×eM×PR Nat×Nat//MI s xR j4 bV p.1 p.2.1 p.2.2.1 p.2.2.2}) (λp=>Mq s p.1.1 p.1.2.1) (λp=>if p.1.2.1.code=0 then p.1.2.2.2+1 else 0) ⟨([],q0,j4,bV),MI.start hs h0⟩ ?_;rintro⟨⟨acc,q,σ,f⟩,hI⟩;simp only at hI⊢;unfold G8 Mq;have pK:=hI.short;have r5:((acc.flatMap Ins.cells).map AV.d).length=acc.length*9:=by rw[alk,LZ]
 have jR:(acc.length+1)*72<=140737488351232:=by omega
 refine aa λK1 aT=>?_;refine J λK hK=>?_;simp only[go_sem];refine iT s q rfl rfl ?_;by_cases hc:q.code=0
 ·obtain⟨a,rfl⟩:∃a,σ=.ok a:=by
   cases σ with
   |ok a=>exact⟨a,rfl⟩
   |error e=>exact absurd hc hI.ps.LM
  simp only[go_sem,ak,eq_true hc,decide_true];refine dW ny hI.ps [125] rfl rfl ?_;intro q1 hy hn;cases hb:oZ q [125]with
  |true=>
   simp only[go_sem,ak];apply hK;refine aH ?_;refine aw (S':=Mq s acc q1) (aB.cj [(0,0),(1,1),(2,2)] ⟨by simp[aV,ah,AV.aA,aj,af,Mq,aS,aZ,aU],by simp[aL,aF,ai,ak,aj,AV.aA,af,ae,-alh,Mq,aS,aZ,aU],rfl,rfl⟩) ?_;exact aW (hQ acc q1 pK (hI.done hb (hy hb)))
  |false=>
   have Qa:=hn hb;subst Qa;simp only[go_sem,ak];apply hK;refine aM ?_;apply ar;apply aT;apply ax;refine J λK hK=>?_;simp only[go_sem];refine OQ (q:=q1) ny hI.ps rfl rfl ?_;intro x q2 h2;simp only[go_sem,ak,jN,Ins.cells,r5,jR,aln,alk,alu,alB];apply hK;refine ag rfl ?_;simp only[go_sem];refine dX ny h2.ps [59] rfl rfl ?_;intro q3 h3;simp only[go_sem,ak];obtain⟨f',rfl,hN⟩:=hI.next Tb hb (PQ.bind (σ:=.ok a) h2 (PQ.bind h3 (PQ.ret h3.ps)));refine⟨⟨(acc++[x],q3,_,f'),hN⟩,?_,?_⟩
   ·simp only[hc,if_true];split<;>omega
   ·exact aB.cj [(0,0),(1,1),(10,2)] ⟨by simp[Mq,aV,ah,AV.aA,aj,af],by simp[Mq,aL,aF,ai,ak,aj,AV.aA,af,ae,-alh,aS,aZ,aU,Ins.cells],rfl,rfl⟩
 ·obtain⟨e,rfl⟩:∃e,σ=.error e:=by
   cases σ with
   |ok a=>exact absurd hI.ps.code hc
   |error e=>exact⟨e,rfl⟩
  simp only[go_sem,ak,eq_false hc,decide_false];apply hK;refine aH ?_;refine aw (S':=Mq s acc q) (aB.cj [(0,0),(1,1),(2,2)] ⟨by simp[aV,ah,AV.aA,aj,af,Mq,aS,aZ,aU],by simp[aL,aF,ai,ak,aj,AV.aA,af,ae,-alh,Mq,aS,aZ,aU],rfl,rfl⟩) ?_;exact aW (hQ acc q pK hI.err)
theorem Y7 (l:List Ins):(l.flatMap Ins.cells).take (l.length*9)=l.flatMap Ins.cells:=alx (by rw[LZ];exact ali _)
set_option maxHeartbeats 16000000 in
theorem E6 {s:List UInt8} (hs:s.length<=4000) {σ:PR Nat} {q:eM} (h:PS s σ q):
 bB aK 107 [.ptr 0 0] [(0,aS q),(1,aZ s q)] λr m'=>∃q',m'=[(0,aS q'),(1,aZ s q')]/\∃l:List Ins,l.length<=4001/\r=.d (BU Ins.cells l)/\PQ s (dM σ (n9.run s)) l q':=by
 have ny:s.length<=140737488351232:=by omega
 refine ay func107 VW ntmps107 results107 rfl ?_;unfold ac7;refine J λK hK=>?_;simp only[go_sem];refine hK _ (J λK hK=>?_);simp only[go_sem];refine hK _ (J λK hK=>?_);simp only[go_sem];refine dX ny h [123] rfl rfl ?_;intro q1 h1;simp only[go_sem,ak];apply hK;refine aa λK1 aT=>?_;apply ax;refine aw (S':=⟨[(3,.d .ct),(0,.ptr 0 0)],[(0,aS q1),(1,aZ s q1)],2⟩) (aB.cj [(0,0),(1,1)] ⟨by simp[aV,ah,AV.aA,aj,af,aS,aZ,aU],by simp[aL,aF,ai,ak,aj,AV.aA,af,ae,-alh,aS,aZ,aU],rfl,rfl⟩) ?_;refine aw (aB.nil 3 9 rfl rfl) ?_
 refine aw (S':=Mq s [] q1) (aB.cj [(0,0),(1,1),(2,2)] ⟨by simp[aV,ah,AV.aA,aj,af,Mq,aS,aZ,aU],by simp[aL,aF,ai,ak,aj,AV.aA,af,ae,-alh,Mq,aS,aZ,aU],rfl,rfl⟩) ?_;refine Y6 hs h1.ps ?_;intro acc q2 hlen h2;unfold Mq;simp only[go_sem];refine aT _ (J λK hK=>?_);simp only[go_sem];apply hK;have pq:=Y7 acc;generalize yH:acc.flatMap Ins.cells=ds at pq;refine aw (aB.jl (S':=⟨[(2,.d (.sl acc.length ds)),(0,.ptr 0 0)],[(0,aS q2),(1,aZ s q2)],2⟩) [(0,0),(1,1)] [(2,ds)] ⟨?_,?_,rfl,rfl,?_⟩) ?_;·simp[fb,ah,AV.cv,db,bI,af,pq]
 ·simp[fx,aF,bI,ai,db,AV.cv,aS,aZ,aU,af]
 ·simp[bG,ai,cD]
 apply an;simp only[go_sem];refine bO (.d (BU Ins.cells acc)) [(0,0),(1,1)] [(0,aS q2),(1,aZ s q2)] ?_ rfl rfl ?_ ⟨q2,rfl,acc,hlen,rfl,PQ.bind h1 h2⟩;·simp[bj,aP,bt,ah,BU,yH]
 ·simp[aL,aF,ai,ak,aj,AV.aA,aS,aZ,aU,af]
def Mr (s:List UInt8) (acc:List Init) (q:eM):St:=⟨[(3,.sl 2 2 0 acc.length),(0,.ptr 0 0)],[(0,aS q),(1,aZ s q),(2,(acc.flatMap Init.cells).map .d)],3⟩
theorem Gg (l:List Init):(l.flatMap Init.cells).length=l.length*2:=by
 induction l with
 |nil=>rfl
 |cons x l ih=>simp only[alO,aln,wW,alu,ih];omega
theorem Td (l:List Init):(l.flatMap Init.cells).take (l.length*2)=l.flatMap Init.cells:=alx (by rw[Gg];exact ali _)
set_option maxHeartbeats 16000000 in
theorem Y8 {s:List UInt8} (hs:s.length<=4000) {j4:PR Nat} {q0:eM} (h0:PS s j4 q0) {Q:Exit->St->Prop}
 (hQ:∀acc q',acc.length<=4001->PQ s (dM j4 ((pB AY bV).run s)) acc q'->Q (.exit 0) (Mr s acc q')):
 fP aK 2 29 (.loop G7) (Mr s [] q0) Q:=by
 have ny:s.length<=140737488351232:=by omega
 refine ef (ι:={p:List Init×eM×PR Nat×Nat//MI s AY j4 bV p.1 p.2.1 p.2.2.1 p.2.2.2}) (λp=>Mr s p.1.1 p.1.2.1) (λp=>if p.1.2.1.code=0 then p.1.2.2.2+1 else 0) ⟨([],q0,j4,bV),MI.start hs h0⟩ ?_;rintro⟨⟨acc,q,σ,f⟩,hI⟩;simp only at hI⊢;unfold G7 Mr;have pK:=hI.short;have r5:((acc.flatMap Init.cells).map AV.d).length=acc.length*2:=by rw[alk,Gg]
 have jR:(acc.length+1)*16<=140737488351232:=by omega
 refine aa λK1 aT=>?_;refine J λK hK=>?_;simp only[go_sem];refine iT s q rfl rfl ?_;by_cases hc:q.code=0
 ·obtain⟨a,rfl⟩:∃a,σ=.ok a:=by
   cases σ with
   |ok a=>exact⟨a,rfl⟩
   |error e=>exact absurd hc hI.ps.LM
  simp only[go_sem,ak,eq_true hc,decide_true];refine dW ny hI.ps [125] rfl rfl ?_;intro q1 hy hn;cases hb:oZ q [125]with
  |true=>
   simp only[go_sem,ak];apply hK;refine aH ?_;refine aw (S':=Mr s acc q1) (aB.cj [(0,0),(1,1),(2,2)] ⟨by simp[aV,ah,AV.aA,aj,af,Mr,aS,aZ,aU],by simp[aL,aF,ai,ak,aj,AV.aA,af,ae,-alh,Mr,aS,aZ,aU],rfl,rfl⟩) ?_;exact aW (hQ acc q1 pK (hI.done hb (hy hb)))
  |false=>
   have Qa:=hn hb;subst Qa;simp only[go_sem,ak];apply hK;refine aM ?_;apply ar;apply aT;apply ax;refine J λK hK=>?_;simp only[go_sem];refine mG (q:=q1) ny hI.ps rfl rfl ?_;intro l q2 h2;simp only[go_sem,ak];refine hK _ (J λK hK=>?_);simp only[go_sem];refine dX ny h2.ps [61] rfl rfl ?_;intro q3 h3;simp only[go_sem,ak];refine hK _ (J λK hK=>?_);simp only[go_sem];refine rK ny h3.ps rfl rfl ?_;intro v q4 h4;simp only[go_sem,ak];refine hK _ (J λK hK=>?_);simp only[go_sem];refine dX ny h4.ps [59] rfl rfl ?_;intro q5 h5;simp only[go_sem,ak];apply hK;refine ag rfl ?_
   simp only[go_sem,r5,jR,aln,alk,alu,alB];obtain⟨f',rfl,hN⟩:=hI.next Ta hb (PQ.bind (σ:=.ok a) h2 (PQ.bind h3 (PQ.bind h4 (PQ.bind h5 (PQ.ret h5.ps)))));refine⟨⟨(acc++[⟨l,v⟩],q5,_,f'),hN⟩,?_,?_⟩
   ·simp only[hc,if_true];split<;>omega
   ·exact aB.cj [(0,0),(1,1),(17,2)] ⟨by simp[Mr,aV,ah,AV.aA,aj,af],by simp[Mr,aL,aF,ai,ak,aj,AV.aA,af,ae,-alh,aS,aZ,aU,Init.cells],rfl,rfl⟩
 ·obtain⟨e,rfl⟩:∃e,σ=.error e:=by
   cases σ with
   |ok a=>exact absurd hI.ps.code hc
   |error e=>exact⟨e,rfl⟩
  simp only[go_sem,ak,eq_false hc,decide_false];apply hK;refine aH ?_;refine aw (S':=Mr s acc q) (aB.cj [(0,0),(1,1),(2,2)] ⟨by simp[aV,ah,AV.aA,aj,af,Mr,aS,aZ,aU],by simp[aL,aF,ai,ak,aj,AV.aA,af,ae,-alh,Mr,aS,aZ,aU],rfl,rfl⟩) ?_;exact aW (hQ acc q pK hI.err)
set_option maxHeartbeats 16000000 in
theorem L0 {s:List UInt8} (hs:s.length<=4000) {σ:PR Nat} {q:eM} (h:PS s σ q):
 bB aK 106 [.ptr 0 0] [(0,aS q),(1,aZ s q)] λr m'=>∃q',m'=[(0,aS q'),(1,aZ s q')]/\∃l:List Init,l.length<=4001/\r=.d (BU Init.cells l)/\PQ s (dM σ (tA.run s)) l q':=by
 have ny:s.length<=140737488351232:=by omega
 refine ay func106 VV ntmps106 results106 rfl ?_;unfold ac6;refine J λK hK=>?_;simp only[go_sem];refine hK _ (J λK hK=>?_);simp only[go_sem];refine hK _ (J λK hK=>?_);simp only[go_sem];refine dX ny h [123] rfl rfl ?_;intro q1 h1;simp only[go_sem,ak];apply hK;refine aa λK1 aT=>?_;apply ax;refine aw (S':=⟨[(3,.d .ct),(0,.ptr 0 0)],[(0,aS q1),(1,aZ s q1)],2⟩) (aB.cj [(0,0),(1,1)] ⟨by simp[aV,ah,AV.aA,aj,af,aS,aZ,aU],by simp[aL,aF,ai,ak,aj,AV.aA,af,ae,-alh,aS,aZ,aU],rfl,rfl⟩) ?_;refine aw (aB.nil 3 2 rfl rfl) ?_
 refine aw (S':=Mr s [] q1) (aB.cj [(0,0),(1,1),(2,2)] ⟨by simp[aV,ah,AV.aA,aj,af,Mr,aS,aZ,aU],by simp[aL,aF,ai,ak,aj,AV.aA,af,ae,-alh,Mr,aS,aZ,aU],rfl,rfl⟩) ?_;refine Y8 hs h1.ps ?_;intro acc q2 hlen h2;unfold Mr;simp only[go_sem];refine aT _ (J λK hK=>?_);simp only[go_sem];apply hK;have pq:=Td acc;generalize yH:acc.flatMap Init.cells=ds at pq;refine aw (aB.jl (S':=⟨[(2,.d (.sl acc.length ds)),(0,.ptr 0 0)],[(0,aS q2),(1,aZ s q2)],2⟩) [(0,0),(1,1)] [(2,ds)] ⟨?_,?_,rfl,rfl,?_⟩) ?_;·simp[fb,ah,AV.cv,db,bI,af,pq]
 ·simp[fx,aF,bI,ai,db,AV.cv,aS,aZ,aU,af]
 ·simp[bG,ai,cD]
 apply an;simp only[go_sem];refine bO (.d (BU Init.cells acc)) [(0,0),(1,1)] [(0,aS q2),(1,aZ s q2)] ?_ rfl rfl ?_ ⟨q2,rfl,acc,hlen,rfl,PQ.bind h1 h2⟩;·simp[bj,aP,bt,ah,BU,yH]
 ·simp[aL,aF,ai,ak,aj,AV.aA,aS,aZ,aU,af]
theorem E7 {s:List UInt8} (hs:s.length<=4000) {σ:PR Nat} {q:eM} (h:PS s σ q) {dst:Option Nat} {ops:List bC} {K:St->Prop} {t:Fr} {m:Mem} {n:Nat} (oc:ai m 0=some (aS q)) (jX:ai m 1=some (aZ s q))
 (hk:∀(l:List Ins) q',l.length<=4001->PQ s (dM σ (n9.run s)) l q'->bN aK ops ⟨cG t dst (.d (BU Ins.cells l)),ak (ak m 0 (aS q')) 1 (aZ s q'),n+2⟩ K):ej aK 107 [.ptr 0 0] dst ops K t m n:=by
 refine ey (rest:=[]) (Q:=λr q'=>∃l:List Ins,l.length<=4001/\r=.d (BU Ins.cells l)/\PQ s (dM σ (n9.run s)) l q') (E6 hs h) rfl ?_ oc jX ?_;·rintro _ _ ⟨_,_,rfl,_⟩;rfl
 ·rintro _ q' ⟨l,h1,rfl,h⟩;exact hk l q' h1 h
theorem L1 {s:List UInt8} (hs:s.length<=4000) {σ:PR Nat} {q:eM} (h:PS s σ q) {dst:Option Nat} {ops:List bC} {K:St->Prop} {t:Fr} {m:Mem} {n:Nat} (oc:ai m 0=some (aS q)) (jX:ai m 1=some (aZ s q))
 (hk:∀(l:List Init) q',l.length<=4001->PQ s (dM σ (tA.run s)) l q'->bN aK ops ⟨cG t dst (.d (BU Init.cells l)),ak (ak m 0 (aS q')) 1 (aZ s q'),n+2⟩ K):ej aK 106 [.ptr 0 0] dst ops K t m n:=by
 refine ey (rest:=[]) (Q:=λr q'=>∃l:List Init,l.length<=4001/\r=.d (BU Init.cells l)/\PQ s (dM σ (tA.run s)) l q') (L0 hs h) rfl ?_ oc jX ?_;·rintro _ _ ⟨_,_,rfl,_⟩;rfl
 ·rintro _ q' ⟨l,h1,rfl,h⟩;exact hk l q' h1 h
theorem Gh (l:List Atom):(l.flatMap Atom.cells).length=l.length*4:=by
 induction l with
 |nil=>rfl
 |cons x l ih=>simp only[alO,aln,Cz,alu,ih];omega
theorem Te (l:List Atom):(l.flatMap Atom.cells).take (l.length*4)=l.flatMap Atom.cells:=alx (by rw[Gh];exact ali _)
structure RI (s:List UInt8) (j4:PR Nat) (f0:Nat) (acc:List Atom) (q:eM) (σ:PR Nat) (f:Nat):Prop where
 ps:PS s σ q
 to:∀l qf,PQ s (dM σ ((uC f).run s)) l qf->PQ s (dM j4 ((uC f0).run s)) (acc++l) qf
 fuel:∀a,σ=.ok a->s.length-a<f
 len:acc.length+f<=f0\/(∃e,σ=.error e)/\acc.length<=f0
theorem Ee {s:List UInt8} {σ:PR Nat} {q:eM} {x:List UInt8} (h:PS s σ q) (hb:oZ q x=true):∃a,σ=.ok a/\(o5 s a).kd≠4:=by
 cases σ with
 |error e=>
  exfalso;unfold oZ at hb;simp only[alE,decide_eq_true_eq]at hb;exact h.LM hb.1
 |ok a=>
  refine⟨a,rfl,?_⟩;unfold oZ at hb;simp only[alE,decide_eq_true_eq]at hb;rw[<-h.2.2.1];exact Y5 hb.2
theorem Iw {s:List UInt8} {a b:Nat} (ha:a<=s.length) (h0:(b8 s a).2.2=0) (h4:(o5 s a).kd≠4) (h:oT s a=.ok b):a<b/\b<=s.length:=by
 obtain⟨rfl,_⟩:=ui h;have h1:=nv ha;exact⟨h1.2.2 h0 h4,h1.2.1⟩
theorem RI.next {s:List UInt8} {j4:PR Nat} {f0:Nat} {acc:List Atom} {q:eM} {σ:PR Nat} {f:Nat} (h:RI s j4 f0 acc q σ f) (hb:oZ q [38]=true) {x:Atom} {q':eM} (hq:PQ s (dM (dM σ (oT s)) (jF.run s)) x q'):
 ∃f',f=f'+1/\RI s j4 f0 (acc++[x]) q' (l7 (dM (dM σ (oT s)) (jF.run s))) f':=by
 obtain⟨a,rfl,h4⟩:=Ee h.ps hb;have hf:=h.fuel a rfl;obtain⟨f',rfl⟩:∃f',f=f'+1:=⟨f-1,by omega⟩;refine⟨f',rfl,⟨hq.ps,λl qf hl=>?_,λb gi=>?_,?_⟩⟩
 ·have:PQ s (dM (.ok a) ((uC (f'+1)).run s)) (x::l) qf:=PQ.il h.ps hb (PQ.bind hq (PQ.bind hl (PQ.ret hl.ps)));have:=h.to _ _ this;simpa using this
 ·obtain⟨y,hy⟩:=x5 gi;obtain⟨c,hc,Tu⟩:=Iu hy;have h1:=Iw h.ps.1 h.ps.2.1 h4 hc;have h2:=jF.mE h1.2 Tu;omega
 ·rcases h.len with hl|⟨⟨e,he⟩,_⟩
  ·left;simp only[aln,alu,alB];omega
  ·cases he
theorem RI.done {s:List UInt8} {j4:PR Nat} {f0:Nat} {acc:List Atom} {q:eM} {σ:PR Nat} {f:Nat} (h:RI s j4 f0 acc q σ f) (hb:oZ q [38]=false):PQ s (dM j4 ((uC f0).run s)) acc q:=by
 have:PQ s (dM σ ((uC f).run s)) [] q:=by
  cases σ with
  |error e=>exact h.ps
  |ok a=>
   have hf:=h.fuel a rfl;obtain⟨f',rfl⟩:∃f',f=f'+1:=⟨f-1,by omega⟩;exact PQ.fg h.ps hb (PQ.ret h.ps)
 have:=h.to _ _ this;simpa using this
theorem RI.start {s:List UInt8} {σ:PR Nat} {q:eM} (hs:s.length<=4000) (h:PS s σ q):RI s σ bV [] q σ bV:=
 ⟨h,λl qf hl=>hl,λa _=>by unfold bV;omega,.inl (by simp)⟩
theorem RI.short {s:List UInt8} {j4 σ:PR Nat} {acc:List Atom} {q:eM} {f:Nat} (h:RI s j4 bV acc q σ f):acc.length<=4001:=by
 rcases h.len with h|h;·unfold bV at h;omega
 ·exact h.2
def jG (gJ:List (List Atom)):List DV:=gJ.map (BU Atom.cells)
def Y9 (s:List UInt8) (kind:Int) (gJ:List (List Atom)) (row:List Atom) (q:eM):St:=
 ⟨[(6,.sl 5 4 0 row.length),(4,.ptr 2 0),(5,.ptr 3 0),(0,.ptr 0 0)],[(0,aS q),(1,aZ s q),(2,[au 0,.d .ct]),(3,[au kind,.sl 4 1 0 gJ.length]),(4,(jG gJ).map .d),(5,(row.flatMap Atom.cells).map .d)],6⟩
set_option maxHeartbeats 16000000 in
theorem Tf {s:List UInt8} (hs:s.length<=4000) {kind:Int} {gJ:List (List Atom)} {x0:Atom} {j4:PR Nat} {q0:eM} (h0:PS s j4 q0) {Q:Exit->St->Prop}
 (hQ:∀acc q',acc.length<=4001->PQ s (dM j4 ((uC bV).run s)) acc q'->Q (.exit 2) (Y9 s kind gJ (x0::acc) q')):
 fP aK 2 31 (.loop G9) (Y9 s kind gJ [x0] q0) Q:=by
 have ny:s.length<=140737488351232:=by omega
 refine ef (ι:={p:List Atom×eM×PR Nat×Nat//RI s j4 bV p.1 p.2.1 p.2.2.1 p.2.2.2}) (λp=>Y9 s kind gJ (x0::p.1.1) p.1.2.1) (λp=>if p.1.2.1.code=0 then p.1.2.2.2+1 else 0) ⟨([],q0,j4,bV),RI.start hs h0⟩ ?_;rintro⟨⟨acc,q,σ,f⟩,hI⟩;simp only at hI⊢;unfold G9 Y9;have pK:=hI.short;have r5:(((x0::acc).flatMap Atom.cells).map AV.d).length=(acc.length+1)*4:=by rw[alk,Gh,alu]
 have hll:(x0::acc).length=acc.length+1:=alu;have jR:(acc.length+1+1)*32<=140737488351232:=by omega
 generalize pQ:(x0::acc).flatMap Atom.cells=row at*;generalize cq:(jG gJ).map AV.d=cs;have iW:∀π,aj π cs=cs:=λπ=>by rw[<-cq];exact bQ _ _
 refine aa λK1 aT=>?_;refine J λK hK=>?_;simp only[go_sem];refine dW ny hI.ps [38] rfl rfl ?_;intro q1 hy hn;cases hb:oZ q [38]with
 |false=>
  have Qa:=hn hb;subst Qa;simp only[go_sem,ak];apply hK;refine aH ?_;refine aw (S':=Y9 s kind gJ (x0::acc) q1) (aB.cj [(0,0),(1,1),(2,2),(3,3),(4,4),(5,5)] ⟨by simp[Y9,aV,ah,AV.aA,aj,af],?_,rfl,rfl⟩) ?_
  ·rw[<-pQ,<-cq];simp[Y9,aL,aF,ai,ak,aj,AV.aA,af,ae,-alh,aS,aZ,aU]
  exact aW (hQ acc q1 pK (hI.done hb))
 |true=>
  have h1:=hy hb;simp only[go_sem,ak];apply hK;refine aM ?_;apply ar;apply aT;apply ax;refine ag rfl ?_;simp only[go_sem];refine A0 ny h1 rfl rfl ?_;intro x q2 h2;simp only[go_sem,ak,Qx,Atom.cells,r5,jR,aln,alk,alu,alB];obtain⟨f',rfl,hN⟩:=hI.next hb h2;have aiR:(x0::(acc++[x])).flatMap Atom.cells=row++Atom.cells x:=by rw[<-pQ];simp
  have hc:q.code=0:=by
   obtain⟨a,ha,_⟩:=Ee hI.ps hb;have:=hI.ps;rw[ha]at this;exact this.code
  refine⟨⟨(acc++[x],q2,_,f'),hN⟩,?_,?_⟩
  ·simp only[hc,if_true];split<;>omega
  ·refine aB.cj [(0,0),(1,1),(2,2),(3,3),(4,4),(11,5)] ⟨by simp[aV,ah,AV.aA,aj,af],?_,rfl,rfl⟩;simp only[aiR];simp[aL,aF,ai,ak,aj,AV.aA,af,ae,-alh,aS,aZ,aU,iW,Atom.cells]
structure OI (s:List UInt8) (j4:PR Nat) (f0:Nat) (acc:List (List Atom)) (q:eM) (σ:PR Nat) (f:Nat):Prop where
 ps:PS s σ q
 to:∀l qf,PQ s (dM σ ((xS f).run s)) l qf->PQ s (dM j4 ((xS f0).run s)) (acc++l) qf
 fuel:∀a,σ=.ok a->s.length-a<f
 len:acc.length+f<=f0\/(∃e,σ=.error e)/\acc.length<=f0
 rows:∀l∈acc,l.length<=4002
theorem OI.start {s:List UInt8} {σ:PR Nat} {q:eM} (hs:s.length<=4000) (h:PS s σ q):OI s σ bV [] q σ bV:=
 ⟨h,λl qf hl=>hl,λa _=>by unfold bV;omega,.inl (by simp),λl hl=>by cases hl⟩
theorem OI.short {s:List UInt8} {j4 σ:PR Nat} {acc:List (List Atom)} {q:eM} {f:Nat} (h:OI s j4 bV acc q σ f):acc.length<=4001:=by
 rcases h.len with h|h;·unfold bV at h;omega
 ·exact h.2
theorem OI.next {s:List UInt8} {j4:PR Nat} {f0:Nat} {acc:List (List Atom)} {q:eM} {σ:PR Nat} {f:Nat} (h:OI s j4 f0 acc q σ f) {x:Atom} {l:List Atom} {q1 q2 q3:eM} (h1:PQ s (dM σ (jF.run s)) x q1)
 (h2:PQ s (dM (l7 (dM σ (jF.run s))) ((uC bV).run s)) l q2) (hl:l.length<=4001) (hb:oZ q2 [124]=true) (h3:PS s (dM (l7 (dM (l7 (dM σ (jF.run s))) ((uC bV).run s))) (oT s)) q3):
 ∃f',f=f'+1/\OI s j4 f0 (acc++[x::l]) q3 (dM (l7 (dM (l7 (dM σ (jF.run s))) ((uC bV).run s))) (oT s)) f'/\q.code=0:=by
 obtain⟨c,hc,h4⟩:=Ee h2.ps hb;obtain⟨l',uv⟩:=x5 hc;obtain⟨b,gi,pQ⟩:=Iu uv;obtain⟨x',hx'⟩:=x5 gi;obtain⟨a,rfl,Mm⟩:=Iu hx';have hf:=h.fuel a rfl;obtain⟨f',rfl⟩:∃f',f=f'+1:=⟨f-1,by omega⟩;have p1:=Tc s a x' b h.ps.1 h.ps.2.1 Mm;have p2:=jF.mE h.ps.1 Mm;have p3:=(uC bV).mE p2.2 pQ;refine⟨f',rfl,⟨h3,λr qf hr=>?_,λd hd=>?_,?_,λl0 El=>?_⟩,h.ps.code⟩
 ·have:PQ s (dM (.ok a) ((xS (f'+1)).run s)) ((x::l)::r) qf:=PQ.bind h1 (PQ.bind h2 (PQ.il h2.ps hb (PQ.bind hr (PQ.ret hr.ps))));have:=h.to _ _ this;simpa using this
 ·rw[hc]at hd;have hps:=h2.ps;rw[hc]at hps;have:=Iw hps.1 hps.2.1 h4 hd;omega
 ·rcases h.len with hl|⟨⟨e,he⟩,_⟩
  ·left;simp only[aln,alu,alB];omega
  ·cases he
 ·rcases List.mem_append.1 El with h'|h';·exact h.rows l0 h'
  ·simp only[alW,List.not_mem_nil,or_false]at h';subst h';simp only[alu];omega
theorem OI.done {s:List UInt8} {j4:PR Nat} {f0:Nat} {acc:List (List Atom)} {q:eM} {σ:PR Nat} {f:Nat} (h:OI s j4 f0 acc q σ f) {x:Atom} {l:List Atom} {q1 q2:eM} (h1:PQ s (dM σ (jF.run s)) x q1)
 (h2:PQ s (dM (l7 (dM σ (jF.run s))) ((uC bV).run s)) l q2) (hb:oZ q2 [124]=false):PQ s (dM j4 ((xS f0).run s)) (acc++[x::l]) q2:=by
 refine h.to _ _ ?_;cases σ with
 |error e=>exact h2.ps
 |ok a=>
  have hf:=h.fuel a rfl;obtain⟨f',rfl⟩:∃f',f=f'+1:=⟨f-1,by omega⟩;exact PQ.bind h1 (PQ.bind h2 (PQ.fg h2.ps hb (PQ.ret h2.ps)))
def ocS (s:List UInt8) (kind:Int) (gJ:List (List Atom)) (q:eM):St:=
 ⟨[(4,.ptr 2 0),(5,.ptr 3 0),(0,.ptr 0 0)],[(0,aS q),(1,aZ s q),(2,[au 0,.d .ct]),(3,[au kind,.sl 4 1 0 gJ.length]),(4,(jG gJ).map .d)],5⟩
theorem Gi (gJ:List (List Atom)):(jG gJ).length=gJ.length:=by simp[jG]
theorem OR (gJ:List (List Atom)) (l:List Atom):jG (gJ++[l])=jG gJ++[BU Atom.cells l]:=by simp[jG]
def uW (rows:List (List Atom)):DV:=.sl rows.length (jG rows)
set_option maxHeartbeats 32000000 in
theorem Tg {s:List UInt8} (hs:s.length<=4000) {kind:Int} {j4:PR Nat} {q0:eM} (h0:PS s j4 q0) {Q:Exit->St->Prop}
 (hR:∀(rows:List (List Atom)) q',rows.length<=4002->(∀l∈rows,l.length<=4002)->PQ s (dM j4 ((Ip kind).run s)) (kind,rows) q'->
  Q .ret ⟨[(4,.ptr 2 0)],[(0,aS q'),(1,aZ s q'),(2,[au kind,.d (uW rows)])],3⟩):
 fP aK 2 31 (.loop Ha) (ocS s kind [] q0) Q:=by
 have ny:s.length<=140737488351232:=by omega
 refine ef (ι:={p:List (List Atom)×eM×PR Nat×Nat//OI s j4 bV p.1 p.2.1 p.2.2.1 p.2.2.2}) (λp=>ocS s kind p.1.1 p.1.2.1) (λp=>if p.1.2.1.code=0 then p.1.2.2.2+1 else 0) ⟨([],q0,j4,bV),OI.start hs h0⟩ ?_;rintro⟨⟨gJ,q,σ,f⟩,hI⟩;simp only at hI⊢;unfold Ha ocS;have pK:=hI.short;apply ax;refine J λK hK=>?_;simp only[go_sem];refine A0 ny hI.ps rfl rfl ?_;intro x q1 h1;simp only[go_sem,ak,Qx,Atom.cells];apply hK;refine aa λK1 aT=>?_;apply ax;have iW:∀π,aj π ((jG gJ).map AV.d)=(jG gJ).map .d:=λπ=>bQ _ _;have v8:((jG gJ).map AV.d).length=gJ.length:=by rw[alk,Gi]
 have jR:(gJ.length+1)*24<=140737488351232:=by omega
 refine aw (S':=Y9 s kind gJ [x] q1) (aB.cj [(0,0),(1,1),(2,2),(3,3),(4,4),(7,5)] ⟨by simp[Y9,aV,ah,AV.aA,aj,af],?_,rfl,rfl⟩) ?_;·simp[Y9,aL,aF,ai,ak,aj,AV.aA,af,ae,-alh,aS,aZ,aU,Atom.cells]
 refine Tf hs h1.ps ?_;intro acc q2 hlen h2;unfold Y9;simp only[go_sem];apply aT;have pq:=Te (x::acc);have hll:(x::acc).length=acc.length+1:=alu;have hsn:=OR gJ (x::acc);have hsd:BU Atom.cells (x::acc)=.sl (acc.length+1) ((x::acc).flatMap Atom.cells):=by simp only[BU,hll]
 rw[hll]at pq;generalize yH:(x::acc).flatMap Atom.cells=ds at pq hsd;refine aw (aB.jl (S':=⟨[(6,.d (.sl (acc.length+1) ds)),(4,.ptr 2 0),(5,.ptr 3 0),(0,.ptr 0 0)],[(0,aS q2),(1,aZ s q2),(2,[au 0,.d .ct]),(3,[au kind,.sl 4 1 0 gJ.length]),(4,(jG gJ).map .d)],5⟩) [(0,0),(1,1),(2,2),(3,3),(4,4)] [(5,ds)] ⟨?_,?_,rfl,rfl,?_⟩) ?_;·simp[fb,ah,AV.cv,db,bI,af,pq]
 ·simp[fx,aF,bI,ai,db,AV.cv,aS,aZ,aU,af,cD,-alh]
 ·simp[bG,ai,cD]
 generalize cq:(jG gJ).map AV.d=cs at*;refine J λK hK=>?_;simp only[go_sem,v8,jR,aln,alk,alu,alB];refine hK _ (J λK hK=>?_);simp only[go_sem];refine dW ny h2.ps [124] rfl rfl ?_;intro q3 hy hn;cases hb:oZ q2 [124]with
 |true=>
  have h3:=hy hb;obtain⟨f',rfl,hN,hc⟩:=hI.next h1 h2 hlen hb h3;simp only[go_sem,ak];apply hK;refine aH ?_;apply ar;simp only[go_sem];refine⟨⟨(gJ++[x::acc],q3,_,f'),hN⟩,?_,?_⟩
  ·simp only[hc,if_true];split<;>omega
  ·refine aB.cj [(0,0),(1,1),(2,2),(3,3),(6,4)] ⟨by simp[aV,ah,AV.aA,aj,af],?_,rfl,rfl⟩;simp only[hsn,al1,cq];simp[aL,aF,ai,ak,aj,AV.aA,af,ae,-alh,aS,aZ,aU,iW,hsd]
 |false=>
  have hq:=hn hb;subst hq;have h4:=hI.done h1 h2 hb;simp only[go_sem,ak];apply hK;refine aM ?_;refine J λK hK=>?_;simp only[go_sem];refine dX ny h4.ps [59] rfl rfl ?_;intro q4 h5;simp only[go_sem,ak];refine hK _ (J λK hK=>?_);simp only[go_sem];apply hK;have pC:(jG (gJ++[x::acc])).length=gJ.length+1:=by rw[Gi];simp
  have hrt:(jG (gJ++[x::acc])).take (gJ.length+1)=jG (gJ++[x::acc]):=alx (by omega);have Em:uW (gJ++[x::acc])=.sl (gJ.length+1) (jG (gJ++[x::acc])):=by simp[uW]
  have aez:=hR (gJ++[x::acc]) q4 (by simp;omega) (λl hl=>by
   rcases List.mem_append.1 hl with h'|h';·exact hI.rows l h'
   ·simp only[alW,List.not_mem_nil,or_false]at h';subst h';simp only[alu];omega) (PQ.bind h4 (PQ.bind h5 (PQ.ret h5.ps)))
  rw[Em]at aez;refine aw (S':=⟨[(4,.ptr 2 0)],[(0,aS q4),(1,aZ s q4),(2,[au kind,.sl 4 1 0 (gJ.length+1)]),(4,(jG (gJ++[x::acc])).map .d)],5⟩) (aB.cj [(0,0),(1,1),(2,2),(6,4)] ⟨by simp[aV,ah,AV.aA,aj,af],?_,rfl,rfl⟩) ?_
  ·rw[hsn,al1,cq];simp[aL,aF,ai,ak,aj,AV.aA,af,ae,-alh,aS,aZ,aU,iW,hsd]
  generalize jG (gJ++[x::acc])=rs at*;refine aw (aB.jl (S':=⟨[(4,.ptr 2 0)],[(0,aS q4),(1,aZ s q4),(2,[au kind,.d (.sl (gJ.length+1) rs)])],3⟩) [(0,0),(1,1),(2,2)] [(4,rs)] ⟨?_,?_,rfl,rfl,?_⟩) ?_;·simp[fb,ah,AV.cv,db,bI,af]
  ·simp[fx,aF,bI,ai,db,AV.cv,aS,aZ,aU,af,hrt]
  ·simp[bG,ai,cD]
  apply an;simp only[go_sem];exact aez
set_option maxHeartbeats 16000000 in
theorem L2 {s:List UInt8} (hs:s.length<=4000) {σ:PR Nat} {q:eM} (h:PS s σ q) (kind:Int):
 bB aK 108 [.ptr 0 0,au kind] [(0,aS q),(1,aZ s q)] λr m'=>∃q',m'=[(0,aS q'),(1,aZ s q')]/\∃rows:List (List Atom),(rows.length<=4002/\∀l∈rows,l.length<=4002)/\r=.agg [au kind,.d (uW rows)]/\PQ s (dM σ ((Ip kind).run s)) (kind,rows) q':=by
 have qU:mV aK 28=some (some 2):=by kernel_rfl
 refine ay func108 VX ntmps108 results108 rfl ?_;unfold ac9;refine J λK hK=>?_;simp only[go_sem];refine hK _ (J λK hK=>?_);simp only[go_sem];apply hK;apply ax;refine aw (S':=⟨[(4,.ptr 2 0),(5,.ptr 3 0),(0,.ptr 0 0)],[(0,aS q),(1,aZ s q),(2,[au 0,.d .ct]),(3,[au kind,.d .ct])],4⟩) (aB.cj [(0,0),(1,1),(2,2),(3,3)] ⟨by simp[aV,ah,AV.aA,aj,af,aS,aZ,aU],by simp[aL,aF,ai,ak,aj,AV.aA,af,ae,-alh,aS,aZ,aU],rfl,rfl⟩) ?_;refine aw (aB.lS 3 1 1 rfl rfl rfl rfl) ?_
 refine aw (S':=ocS s kind [] q) (aB.cj [(0,0),(1,1),(2,2),(3,3),(4,4)] ⟨by simp[aV,ah,AV.aA,aj,af,ocS,aS,aZ,aU,jG],by simp[aL,aF,ai,ak,aj,AV.aA,af,ae,-alh,ocS,aS,aZ,aU,jG],rfl,rfl⟩) ?_;refine Tg hs h ?_;intro rows q' h1 h2 h3;simp only[go_sem];refine bO (.agg [au kind,.d (uW rows)]) [(0,0),(1,1)] [(0,aS q'),(1,aZ s q')] ?_ rfl rfl ?_ ⟨q',rfl,rows,⟨h1,h2⟩,rfl,h3⟩;·simp[bj,aP,bt,ah,ai,ak,aN,qU]
 ·simp[aL,aF,ai,ak,aj,AV.aA,aS,aZ,aU,af]
structure RSt where
 pos:Nat
 tok:Tok
 to:Nat
 code:Int
 lI:Nat
def z9:List AV:=[au 0,au 0,au 0,au 0,au 0,au 0,au 0,au 0,au 0]
def z4:List AV:=[au 0,au 0,au 0,au 0]
section
variable{s:List UInt8} {r:RSt} (hc:¬r.code=0)
include hc
end
structure TI (s:List UInt8) (j4:PR Nat) (f0:Nat) (acc:List (List Ins)) (q:eM) (σ:PR Nat) (f:Nat):Prop where
 ps:PS s σ q
 to:∀l qf,PQ s (dM σ ((gH f).run s)) l qf->PQ s (dM j4 ((gH f0).run s)) (acc++l) qf
 fuel:∀a,σ=.ok a->s.length-a<f
 len:acc.length+f<=f0\/(∃e,σ=.error e)/\acc.length<=f0
 rows:∀l∈acc,l.length<=4001
theorem TI.next {s:List UInt8} {j4:PR Nat} {f0:Nat} {acc:List (List Ins)} {q:eM} {σ:PR Nat} {f:Nat} (h:TI s j4 f0 acc q σ f) (hb:oZ q xQ=true) {x:List Ins} (hx:x.length<=4001) {q':eM} (hq:PQ s (dM (dM σ (oT s)) (n9.run s)) x q'):
 ∃f',f=f'+1/\TI s j4 f0 (acc++[x]) q' (l7 (dM (dM σ (oT s)) (n9.run s))) f':=by
 obtain⟨a,rfl,h4⟩:=Ee h.ps hb;have hf:=h.fuel a rfl;obtain⟨f',rfl⟩:∃f',f=f'+1:=⟨f-1,by omega⟩;refine⟨f',rfl,⟨hq.ps,λl qf hl=>?_,λb gi=>?_,?_,λl hl=>?_⟩⟩
 ·have:PQ s (dM (.ok a) ((gH (f'+1)).run s)) (x::l) qf:=PQ.il h.ps hb (PQ.bind hq (PQ.bind hl (PQ.ret hl.ps)));have:=h.to _ _ this;simpa using this
 ·obtain⟨y,hy⟩:=x5 gi;obtain⟨c,hc,Tu⟩:=Iu hy;have h1:=Iw h.ps.1 h.ps.2.1 h4 hc;have h2:=n9.mE h1.2 Tu;omega
 ·rcases h.len with hl|⟨⟨e,he⟩,_⟩
  ·left;simp only[aln,alu,alB];omega
  ·cases he
 ·rcases List.mem_append.1 hl with h'|h';·exact h.rows l h'
  ·simp only[alW,List.not_mem_nil,or_false]at h';subst h';exact hx
theorem TI.done {s:List UInt8} {j4:PR Nat} {f0:Nat} {acc:List (List Ins)} {q:eM} {σ:PR Nat} {f:Nat} (h:TI s j4 f0 acc q σ f) (hb:oZ q xQ=false):PQ s (dM j4 ((gH f0).run s)) acc q:=by
 have:PQ s (dM σ ((gH f).run s)) [] q:=by
  cases σ with
  |error e=>exact h.ps
  |ok a=>
   have hf:=h.fuel a rfl;obtain⟨f',rfl⟩:∃f',f=f'+1:=⟨f-1,by omega⟩;exact PQ.fg h.ps hb (PQ.ret h.ps)
 have:=h.to _ _ this;simpa using this
theorem TI.start {s:List UInt8} {σ:PR Nat} {q:eM} (hs:s.length<=4000) (h:PS s σ q):TI s σ bV [] q σ bV:=
 ⟨h,λl qf hl=>hl,λa _=>by unfold bV;omega,.inl (by simp),λl hl=>by cases hl⟩
theorem TI.short {s:List UInt8} {j4 σ:PR Nat} {acc:List (List Ins)} {q:eM} {f:Nat} (h:TI s j4 bV acc q σ f):acc.length<=4001:=by
 rcases h.len with h|h;·unfold bV at h;omega
 ·exact h.2
def tB (ts:List (List Ins)):List DV:=ts.map (BU Ins.cells)
theorem L3 (ts:List (List Ins)):(tB ts).length=ts.length:=by simp[tB]
theorem Th (ts:List (List Ins)) (l:List Ins):tB (ts++[l])=tB ts++[BU Ins.cells l]:=by simp[tB]
def af0 (ts:List (List Ins)):DV:=.sl ts.length (tB ts)
def Ti (s:List UInt8) (nm:List UInt8) (I:DV) (ts:List (List Ins)) (q:eM):St:=
 ⟨[(5,.ptr 0 0),(6,.ptr 2 0),(2,.ptr 4 0),(3,.ptr 5 0)],[(0,aS q),(1,aZ s q),(2,[.d (.str nm),.d I,.sl 3 1 0 ts.length,au 0,.d (.sl 0 [])]),(3,(tB ts).map .d),(4,[.d (.str []),.d .ct,.d .ct,au 0,.d .ct]),(5,[au 0,au 0])],6⟩
set_option maxHeartbeats 32000000 in
theorem Za {s:List UInt8} (hs:s.length<=4000) {nm:List UInt8} {I:DV} {j4:PR Nat} {q0:eM} (h0:PS s j4 q0) {Q:Exit->St->Prop}
 (hQ:∀acc q',acc.length<=4001->(∀l∈acc,l.length<=4001)->PQ s (dM j4 ((gH bV).run s)) acc q'->Q (.exit 0) (Ti s nm I acc q')):
 fP aK (aE []) 77 (.loop Nb) (Ti s nm I [] q0) Q:=by
 have ny:s.length<=140737488351232:=by omega
 refine ef (ι:={p:List (List Ins)×eM×PR Nat×Nat//TI s j4 bV p.1 p.2.1 p.2.2.1 p.2.2.2}) (λp=>Ti s nm I p.1.1 p.1.2.1) (λp=>if p.1.2.1.code=0 then p.1.2.2.2+1 else 0) ⟨([],q0,j4,bV),TI.start hs h0⟩ ?_;rintro⟨⟨acc,q,σ,f⟩,hI⟩;simp only at hI⊢;unfold Nb Ti;have pK:=hI.short;have v8:((tB acc).map AV.d).length=acc.length:=by rw[alk,L3]
 have iW:∀π,aj π ((tB acc).map AV.d)=(tB acc).map .d:=λπ=>bQ _ _;have jR:(acc.length+1)*24<=140737488351232:=by omega
 generalize cq:(tB acc).map AV.d=cs at*;refine aa λK1 aT=>?_;refine J λK hK=>?_;simp only[go_sem];refine dW ny hI.ps xQ rfl rfl ?_;intro q1 hy hn;cases hb:oZ q xQ with
 |false=>
  have Qa:=hn hb;subst Qa;simp only[go_sem,ak];apply hK;refine aH ?_;refine aw (S':=Ti s nm I acc q1) (aB.cj [(0,0),(1,1),(2,2),(3,3),(4,4),(5,5)] ⟨by simp[Ti,aV,ah,AV.aA,aj,af],?_,rfl,rfl⟩) ?_;·simp[Ti,aL,aF,ai,ak,aj,AV.aA,af,ae,-alh,aS,aZ,aU,cq,iW]
  exact aW (hQ acc q1 pK hI.rows (hI.done hb))
 |true=>
  have h1:=hy hb;have hc:q.code=0:=by
   obtain⟨a,ha,_⟩:=Ee hI.ps hb;have:=hI.ps;rw[ha]at this;exact this.code
  simp only[go_sem,ak];apply hK;refine aM ?_;apply ar;apply aT;apply ax;refine tq rfl rfl ?_
  repeat' (first
   |(refine DO rfl rfl rfl ?_ ?_<;>simp only[go_sem,Nat.reduceEqDiff,Nat.reduceAdd,Nat.reduceLeDiff,Nat.reduceMul,Nat.reduceSub,Int.reduceLE,Int.reduceLT,Int.reduceEq,Int.reduceToNat,Int.reducePow,Int.reduceNeg,ak,v8,jR,aln,alk,alu,alB])
   |(refine DN rfl rfl ?_;simp only[go_sem,Nat.reduceEqDiff,Nat.reduceAdd,Nat.reduceLeDiff,Nat.reduceMul,Nat.reduceSub,Int.reduceLE,Int.reduceLT,Int.reduceEq,Int.reduceToNat,Int.reducePow,Int.reduceNeg,ak,v8,jR,aln,alk,alu,alB])
   |(refine E7 hs h1 rfl rfl ?_;intro l q2 hl h2;simp only[go_sem,Nat.reduceEqDiff,Nat.reduceAdd,Nat.reduceLeDiff,Nat.reduceMul,Nat.reduceSub,Int.reduceLE,Int.reduceLT,Int.reduceEq,Int.reduceToNat,Int.reducePow,Int.reduceNeg,ak,v8,jR,aln,alk,alu,alB]))
  all_goals refine AU rfl ?_
  all_goals
   obtain⟨f',rfl,hN⟩:=hI.next hb hl h2;have hsn:=Th acc l;refine⟨⟨(acc++[l],q2,_,f'),hN⟩,?_,?_⟩
   ·simp only[hc,if_true];split<;>omega
   ·refine aB.cj [(0,0),(1,1),(2,2),(11,3),(4,4),(5,5)] ⟨by simp[aV,ah,AV.aA,aj,af],?_,rfl,rfl⟩;simp only[hsn,al1,cq];simp[aL,aF,ai,ak,aj,AV.aA,af,ae,-alh,aS,aZ,aU,iW]
theorem A1 {s:List UInt8} (hs:s.length<=4000) {σ:PR Nat} {q:eM} (h:PS s σ q) (kind:Int) {dst:Option Nat} {ops:List bC} {K:St->Prop} {t:Fr} {m:Mem} {n:Nat} (oc:ai m 0=some (aS q)) (jX:ai m 1=some (aZ s q))
 (hk:∀(rows:List (List Atom)) q',(rows.length<=4002/\∀l∈rows,l.length<=4002)->PQ s (dM σ ((Ip kind).run s)) (kind,rows) q'->bN aK ops ⟨cG t dst (.agg [au kind,.d (uW rows)]),ak (ak m 0 (aS q')) 1 (aZ s q'),n+2⟩ K):ej aK 108 [.ptr 0 0,au kind] dst ops K t m n:=by
 refine ey (rest:=[au kind]) (Q:=λr q'=>∃rows:List (List Atom),(rows.length<=4002/\∀l∈rows,l.length<=4002)/\r=.agg [au kind,.d (uW rows)]/\PQ s (dM σ ((Ip kind).run s)) (kind,rows) q') (L2 hs h kind) rfl ?_ oc jX ?_;·rintro _ _ ⟨_,_,rfl,_⟩;rfl
 ·rintro _ q' ⟨l,h1,rfl,h⟩;exact hk l q' h1 h
theorem Ix {s:List UInt8} (hs:s.length<=140737488351232):
 bB aK 102 [.ptr 0 0] [(0,aS ⟨jS,0,0,0,0,0,0⟩),(1,aZ s ⟨jS,0,0,0,0,0,0⟩)] λr m'=>∃q',m'=[(0,aS q'),(1,aZ s q')]/\(r=.cC []/\PS s (Eo s 0) q'):=by
 refine ay func102 CG ntmps102 results102 rfl ?_;unfold Po;refine J λK hK=>?_;simp only[go_sem,aS];apply hK;refine aM ?_;refine ag rfl ?_;simp only[go_sem];refine Eb hs (alZ _) ⟨ali _,alZ _⟩ rfl ?_;intro eE vT;by_cases h0:(b8 s 0).2.2=0
 ·have he:b8 s 0=((b8 s 0).1,(b8 s 0).2.1,0):=by rw[<-h0]
  have TE:nu s 0=0:=by unfold nu;rw[if_pos h0]
  have hgo:Eo s 0=.ok 0:=by unfold Eo;rw[if_pos h0]
  rw[Ir he,TE,h0];simp only[go_sem,ak,aZ,aU];refine⟨.cC [],rfl,[(0,0),(1,1)],[(0,aS ⟨(b8 s 0).1,0,0,(b8 s 0).2.1,eE,0,0⟩),(1,aZ s ⟨(b8 s 0).1,0,0,(b8 s 0).2.1,eE,0,0⟩)],rfl,rfl,?_,⟨_,rfl,rfl,?_⟩⟩;·simp[aL,aF,ai,ak,aj,AV.aA,aS,aZ,aU,af]
  ·rw[hgo];exact⟨alZ _,h0,rfl,rfl,rfl,rfl,vT.2.2.1,vT.2.1,rfl,rfl⟩
 ·have LO:=Ec h0;have hgo:Eo s 0=.error ((b8 s 0).2.2,dv s 0):=by unfold Eo;rw[if_neg h0]
  have TE:nu s 0=dv s 0:=by unfold nu;rw[if_neg h0]
  rw[BT h0 LO,TE];simp only[go_sem,ak,aZ,aU];refine⟨.cC [],rfl,[(0,0),(1,1)],[(0,aS ⟨jS,(b8 s 0).2.2,dv s 0,(b8 s 0).2.1,eE,(b8 s 0).2.2,dv s 0⟩),(1,aZ s ⟨jS,(b8 s 0).2.2,dv s 0,(b8 s 0).2.1,eE,(b8 s 0).2.2,dv s 0⟩)],rfl,rfl,?_,⟨_,rfl,rfl,?_⟩⟩;·simp[aL,aF,ai,ak,aj,AV.aA,aS,aZ,aU,af,jS]
  ·rw[hgo];exact⟨rfl,h0,rfl,(λh=>by cases h),alZ _⟩
theorem Iy {s:List UInt8} (hs:s.length<=140737488351232) {dst:Option Nat} {ops:List bC} {K:St->Prop} {t:Fr} {m:Mem} {n:Nat} (oc:ai m 0=some (aS ⟨jS,0,0,0,0,0,0⟩)) (jX:ai m 1=some (aZ s ⟨jS,0,0,0,0,0,0⟩))
 (hk:∀q',PS s (Eo s 0) q'->bN aK ops ⟨cG t dst (.cC []),ak (ak m 0 (aS q')) 1 (aZ s q'),n+2⟩ K):ej aK 102 [.ptr 0 0] dst ops K t m n:=by
 refine ey (rest:=[]) (Q:=λr q'=>r=.cC []/\PS s (Eo s 0) q') (Ix hs) rfl ?_ oc jX ?_;·rintro _ _ ⟨rfl,_⟩;rfl
 ·rintro _ q' ⟨rfl,h⟩;exact hk q' h
theorem Zb {s:List UInt8} (h:s.length<=4000):l6 s=match dM (Eo s 0) (D8.run s)with
 |.ok (t,_)=>.ok t
 |.error e=>.error e:=by
 unfold l6;rw[if_neg (by omega)];cases Eo s 0<;>rfl
def l8 (t:Test):List DV:=[.str t.name,BU Init.cells t.inits,af0 t.threads,.int .i64 t.kind,uW t.rows]
def eG:List DV:=[.str [],.ct,.ct,.int .i64 0,.ct]
def oU:PR Test->AV
 |.ok t=>.cC [.agg ((l8 t).map .d),.agg [au 0,au 0]]
 |.error e=>.cC [.agg (eG.map .d),.agg [au e.1,au e.2]]
theorem PQ.fin {α:Type} {s:List UInt8} {τ:PR (α×Nat)} {x:α} {q:eM} (h:PQ s τ x q):(q.code=0/\∃b,τ=.ok (x,b))\/(∃e,τ=.error e/\q.code=e.1/\e.1≠0/\q.lI=e.2):=by
 cases τ with
 |ok p=>
  obtain⟨y,b⟩:=p;obtain⟨rfl,h⟩:=h;exact .inl ⟨h.code,b,rfl⟩
 |error e=>exact .inr ⟨e,rfl,h.1,h.2.1,h.2.2.1⟩
def Ms (s:List UInt8) (t:Test) (q:eM):St:=
 ⟨[(5,.ptr 0 0),(6,.ptr 2 0),(2,.ptr 4 0),(3,.ptr 5 0)],[(0,aS q),(1,aZ s q),(2,(l8 t).map .d),(4,eG.map .d),(5,[au 0,au 0])],6⟩
set_option maxHeartbeats 32000000 in
theorem L4 {s:List UInt8} (hs:s.length<=maxLen):Pure aK 62 [.d (.str s)] (oU (l6 s)):=by
 have h54:mV aK 30=some (some 5):=by kernel_rfl
 have S3:mV aK 35=some (some 2):=by kernel_rfl
 have kl:=S6 s;have du:∀r,(oU r).aA (λ_=>none)=oU r:=by
  intro r;cases r<;>simp[oU,AV.aA,aj,l8,eG]
 refine ay func62 aaG ntmps62 results62 rfl ?_;unfold ahW;refine J λK hK=>?_;simp only[go_sem];apply hK;refine aa λK1 aT=>?_;by_cases hl:4000<s.length
 ·unfold xW at kl;rw[if_pos hl]at kl;refine J λK hK=>?_;simp only[go_sem]
  repeat' (first
   |(refine cn (λhb=>?_) (λhb=>?_)<;>simp only[go_sem,hb])
   |(refine b7 (λhb=>?_) (λhb=>?_)<;>simp only[go_sem,hb])
   |(refine aI (kl) rfl rfl ?_;simp only[go_sem])
   |(refine bD (kl) rfl rfl ?_;simp only[go_sem])
   |(rw[if_pos (by(try simp only[aln,alu,alB,alk]);omega)];simp only[go_sem]))
  refine hK _ (J λK hK=>?_);simp only[go_sem];apply hK;refine aM ?_;refine aa λK hK=>az rfl rfl ?_;simp only[go_sem];refine⟨rfl,hK _ ?_⟩;apply an;simp only[go_sem];refine aD (oU (l6 s)) ?_ (du _) ⟨rfl,rfl⟩;have:l6 s=.error (2,4000):=by unfold l6;rw[if_pos hl]
  rw[this];simp[bj,aP,bt,ah,ai,ak,aN,h54,S3,oU,eG]
 have hs4:s.length<=4000:=by omega
 have ny:s.length<=140737488351232:=by omega
 unfold xW at kl;rw[if_neg hl]at kl;refine J λK hK=>?_;simp only[go_sem]
 repeat' (first
  |(refine cn (λhb=>?_) (λhb=>?_)<;>simp only[go_sem,hb])
  |(refine b7 (λhb=>?_) (λhb=>?_)<;>simp only[go_sem,hb])
  |(refine aI (kl) rfl rfl ?_;simp only[go_sem])
  |(refine bD (kl) rfl rfl ?_;simp only[go_sem])
  |(rw[if_pos (by(try simp only[aln,alu,alB,alk]);omega)];simp only[go_sem]))
 refine hK _ (J λK hK=>?_);simp only[go_sem];apply hK;refine aH ?_;apply ar;refine aT _ (J λK hK=>?_);simp only[go_sem];refine S5 s ?_;simp only[go_sem,ak];apply hK;refine aw (S':=⟨[(5,.ptr 0 0),(2,.ptr 2 0),(3,.ptr 3 0)],[(0,aS ⟨jS,0,0,0,0,0,0⟩),(1,aZ s ⟨jS,0,0,0,0,0,0⟩),(2,eG.map .d),(3,[au 0,au 0])],4⟩) (aB.cj [(4,0),(3,1),(0,2),(1,3)] ⟨by simp[aV,ah,AV.aA,aj,af,aS,aZ,aU,jS,eG],by simp[aL,aF,ai,ak,aj,AV.aA,af,ae,-alh,aS,aZ,aU,jS,eG],rfl,rfl⟩) ?_;refine J λK hK=>?_;simp only[go_sem];refine Iy ny rfl rfl ?_;intro q1 h1;simp only[go_sem,ak];refine hK _ (J λK hK=>?_);simp only[go_sem];apply hK
 refine aw (S':=⟨[(5,.ptr 0 0),(6,.ptr 2 0),(2,.ptr 4 0),(3,.ptr 5 0)],[(0,aS q1),(1,aZ s q1),(2,eG.map .d),(4,eG.map .d),(5,[au 0,au 0])],6⟩) (aB.cj [(0,0),(1,1),(6,2),(2,4),(3,5)] ⟨by simp[aV,ah,AV.aA,aj,af,aS,aZ,aU,eG],by simp[aL,aF,ai,ak,aj,AV.aA,af,ae,-alh,aS,aZ,aU,eG],rfl,rfl⟩) ?_;refine aw (aB.lS 2 1 2 rfl rfl rfl rfl) ?_;refine aw (aB.lS 2 4 1 rfl rfl rfl rfl) ?_;refine aw (aB.lS 2 2 1 rfl rfl rfl rfl) ?_
 refine aw (aB.jl (S':=⟨[(5,.ptr 0 0),(6,.ptr 2 0),(2,.ptr 4 0),(3,.ptr 5 0)],[(0,aS q1),(1,aZ s q1),(2,[.d (.str []),.d (.sl 0 []),.sl 3 1 0 0,au 0,.d (.sl 0 [])]),(3,[]),(4,eG.map .d),(5,[au 0,au 0])],6⟩) [(0,0),(1,1),(2,2),(8,3),(4,4),(5,5)] [(6,[]),(7,[])] ⟨?_,?_,rfl,rfl,?_⟩) ?_;·simp[fb,ah,AV.cv,db,bI,af]
 ·simp[fx,aF,bI,ai,ak,db,AV.cv,aS,aZ,aU,af,eG]
 ·simp[bG,ai,ak,db]
 refine J λK hK=>?_;simp only[go_sem];refine dX ny h1 YR rfl rfl ?_;intro q2 h2;simp only[go_sem,ak];refine hK _ (J λK hK=>?_);simp only[go_sem];refine LU ny h2.ps rfl rfl ?_;intro nm q3 h3;simp only[go_sem,ak];refine hK _ (J λK hK=>?_);simp only[go_sem];refine dX ny h3.ps [123] rfl rfl ?_;intro q4 h4;simp only[go_sem,ak];apply hK;generalize aiS:l7 (dM (l7 (dM (l7 (dM (Eo s 0) ((gj YR).run s))) (D7.run s))) ((gj [123]).run s))=σ4;have Zc:=h4.ps;rw[aiS]at Zc;refine aa λK1 aT=>?_
 have aiT:∀(S:St) (l:List Init) (q:eM),aB (aE []) 77 S (Ti s nm (BU Init.cells l) [] q)->PQ s (dM σ4 ((iN D6 tA (.ret [])).run s)) l q->K1 S:=by
  intro S inits q5 hS h5;apply aT;refine aw hS ?_;refine aa λK2 eX=>?_;apply ax;refine Za hs4 h5.ps ?_;intro ts q6 hl6 ale h6;unfold Ti;simp only[go_sem];apply eX;have Bh:(tB ts).length=ts.length:=L3 ts;have pq:(tB ts).take ts.length=tB ts:=alx (by omega);refine aw (aB.jl (S':=⟨[(5,.ptr 0 0),(6,.ptr 2 0),(2,.ptr 4 0),(3,.ptr 5 0)],[(0,aS q6),(1,aZ s q6),(2,[.d (.str nm),.d (BU Init.cells inits),.d (af0 ts),au 0,.d (.sl 0 [])]),(4,eG.map .d),(5,[au 0,au 0])],6⟩) [(0,0),(1,1),(2,2),(4,4),(5,5)] [(3,tB ts)] ⟨?_,?_,rfl,rfl,?_⟩) ?_;·simp[fb,ah,AV.cv,db,bI,af]
  ·simp[fx,aF,bI,ai,ak,db,AV.cv,aS,aZ,aU,af,eG,af0,pq]
  ·simp[bG,ai,ak,cD]
  refine aa λK2 eX=>?_;apply ax;have af1:∀(S:St) (c:Int×List (List Atom)) (q:eM),aB (aE []) 77 S (Ms s ⟨nm,inits,ts,c.1,c.2⟩ q)->PQ s (dM (l7 (dM (l7 (dM σ4 ((iN D6 tA (.ret [])).run s))) ((gH bV).run s))) (LH.run s)) c q->K2 S:=by
   intro S c q7 hS h7;apply eX;refine aw hS ?_;unfold Ms;refine J λK hK=>?_;simp only[go_sem];refine dX ny h7.ps [125] rfl rfl ?_;intro q8 h8;simp only[go_sem,ak];apply hK;refine aa λK3 wc=>?_;have af2:∀(S:St) (q:eM),aB (aE []) 77 S (Ms s ⟨nm,inits,ts,c.1,c.2⟩ q)->PQ s (dM (l7 (dM (l7 (dM (l7 (dM (l7 (dM σ4 ((iN D6 tA (.ret [])).run s))) ((gH bV).run s))) (LH.run s))) ((gj [125]).run s))) ((PT.cur λd _=>if d=4 then .ret (⟨nm,inits,ts,c.1,c.2⟩:Test)else .bad 6).run s)) ⟨nm,inits,ts,c.1,c.2⟩ q->K3 S:=by
    intro S q9 hS h9;apply wc;refine aw hS ?_;subst aiS;have sw:PQ s (dM (Eo s 0) (D8.run s)) ⟨nm,inits,ts,c.1,c.2⟩ q9:=PQ.bind h2 (PQ.bind h3 (PQ.bind h4 (PQ.bind h5 (PQ.bind h6 (PQ.bind h7 (PQ.bind h8 h9))))));unfold Ms;refine aa λK4 P5=>?_;refine J λK hK=>?_;simp only[go_sem];refine iT s q9 rfl rfl ?_;have heq:=Zb hs4;rcases sw.fin with⟨hc,b,hb⟩|⟨e,he,hc,pe,Mm⟩
    ·rw[hb]at heq;simp only at heq;simp only[go_sem,ak,eq_true hc,decide_true];apply hK;refine aH ?_;apply ar;refine P5 _ (J λK hK=>?_);simp only[go_sem,l8];apply hK;apply an;simp only[go_sem];refine aD (oU (l6 s)) ?_ (du _) ⟨rfl,rfl⟩;rw[heq];simp[bj,aP,bt,ah,ai,ak,aN,h54,S3,oU,l8,eG]
    ·rw[he]at heq;simp only at heq;have hc0:¬q9.code=0:=by rw[hc];exact pe
     simp only[go_sem,ak,eq_false hc0,decide_false];apply hK;refine aM ?_;refine aa λK hK=>az rfl rfl ?_;simp only[go_sem,aS];refine⟨rfl,hK _ ?_⟩;apply an;simp only[go_sem];refine aD (oU (l6 s)) ?_ (du _) ⟨rfl,rfl⟩;rw[heq];simp[bj,aP,bt,ah,ai,ak,aN,h54,S3,oU,eG,hc,Mm]
   refine J λK hK=>?_;simp only[go_sem];refine iT s q8 rfl rfl ?_;by_cases hc:q8.code=0
   ·by_cases h4:q8.tok.kd=4
    ·simp only[go_sem,ak,eq_true hc,eq_true h4,aS,decide_true];apply hK;refine aH ?_;apply ar;refine af2 _ q8 (aB.cj [(0,0),(1,1),(2,2),(4,4),(5,5)] ⟨by simp[Ms,aV,ah,AV.aA,aj,af],by simp[Ms,aL,aF,ai,ak,aj,AV.aA,af,aS,aZ,aU,l8,eG],rfl,rfl⟩) ?_;refine PQ.cur h8.ps ?_;rw[if_pos h4];exact PQ.ret h8.ps
    ·simp only[go_sem,ak,eq_true hc,eq_false h4,aS,decide_true];apply hK;refine aM ?_;refine ag rfl ?_;simp only[go_sem];refine gI s q8 6 rfl rfl ?_;simp only[go_sem,ak];refine af2 _ (fu q8 6) (aB.cj [(0,0),(1,1),(2,2),(4,4),(5,5)] ⟨by simp[Ms,aV,ah,AV.aA,aj,af],by simp[Ms,aL,aF,ai,ak,aj,AV.aA,af,aS,aZ,aU,l8,eG],rfl,rfl⟩) ?_;refine PQ.cur h8.ps ?_;rw[if_neg h4];exact PQ.bad h8.ps (by decide) _
   ·simp only[go_sem,ak,eq_false hc,aS,decide_false];apply hK;refine aH ?_;apply ar;refine af2 _ q8 (aB.cj [(0,0),(1,1),(2,2),(4,4),(5,5)] ⟨by simp[Ms,aV,ah,AV.aA,aj,af],by simp[Ms,aL,aF,ai,ak,aj,AV.aA,af,aS,aZ,aU,l8,eG],rfl,rfl⟩) ?_;have hp8:=h8.ps;generalize l7 (dM (l7 (dM (l7 (dM (l7 (dM σ4 ((iN D6 tA (.ret [])).run s))) ((gH bV).run s))) (LH.run s))) ((gj [125]).run s))=σ8 at hp8⊢;cases σ8 with
    |ok a=>exact absurd hp8.code hc
    |error e=>exact hp8
  refine J λK hK=>?_;simp only[go_sem];refine dW ny h6.ps Il rfl rfl ?_;intro q7 hy hn;cases hb:oZ q6 Il with
  |true=>
   have h7:=hy hb;simp only[go_sem,ak];apply hK;refine aM ?_;refine ag rfl ?_;simp only[go_sem];refine A1 hs4 h7 1 rfl rfl ?_;intro rows q8 hr h8;simp only[go_sem,ak];refine af1 _ (1,rows) q8 (aB.cj [(0,0),(1,1),(2,2),(4,4),(5,5)] ⟨by simp[Ms,aV,ah,AV.aA,aj,af],by simp[Ms,aL,aF,ai,ak,aj,AV.aA,af,aS,aZ,aU,l8,eG,uW],rfl,rfl⟩) ?_;exact PQ.il h6.ps hb h8
  |false=>
   have h7:=hn hb;subst h7;simp only[go_sem,ak];apply hK;refine aH ?_;refine J λK hK=>?_;simp only[go_sem];refine dW ny h6.ps Im rfl rfl ?_;intro q8 hy hn;cases iq:oZ q7 Im with
   |true=>
    have h8:=hy iq;simp only[go_sem,ak];apply hK;refine aM ?_;refine ag rfl ?_;simp only[go_sem];refine A1 hs4 h8 2 rfl rfl ?_;intro rows q9 hr h9;simp only[go_sem,ak];refine af1 _ (2,rows) q9 (aB.cj [(0,0),(1,1),(2,2),(4,4),(5,5)] ⟨by simp[Ms,aV,ah,AV.aA,aj,af],by simp[Ms,aL,aF,ai,ak,aj,AV.aA,af,aS,aZ,aU,l8,eG],rfl,rfl⟩) ?_;exact PQ.fg h6.ps hb (PQ.il h6.ps iq h9)
   |false=>
    have h8:=hn iq;subst h8;simp only[go_sem,ak];apply hK;refine aH ?_;apply ar;refine af1 _ (0,[]) q8 (aB.cj [(0,0),(1,1),(2,2),(4,4),(5,5)] ⟨by simp[Ms,aV,ah,AV.aA,aj,af],by simp[Ms,aL,aF,ai,ak,aj,AV.aA,af,aS,aZ,aU,l8,eG,uW,jG],rfl,rfl⟩) ?_;exact PQ.fg h6.ps hb (PQ.fg h6.ps iq (PQ.ret h6.ps))
 refine J λK hK=>?_;simp only[go_sem];refine dW ny Zc D6 rfl rfl ?_;intro q5 hy hn;cases hb:oZ q4 D6 with
 |true=>
  have h5:=hy hb;simp only[go_sem,ak];apply hK;refine aM ?_;refine ag rfl ?_;simp only[go_sem];refine L1 hs4 h5 rfl rfl ?_;intro l q6 hl h6;simp only[go_sem,ak];refine aiT _ l q6 (aB.cj [(0,0),(1,1),(2,2),(3,3),(4,4),(5,5)] ⟨by simp[Ti,aV,ah,AV.aA,aj,af],by simp[Ti,tB,aL,aF,ai,ak,aj,AV.aA,af,aS,aZ,aU,l8,eG],rfl,rfl⟩) ?_;exact PQ.il Zc hb h6
 |false=>
  have h5:=hn hb;subst h5;simp only[go_sem,ak];apply hK;refine aH ?_;apply ar;refine aiT _ [] q5 (aB.cj [(0,0),(1,1),(2,2),(3,3),(4,4),(5,5)] ⟨by simp[Ti,aV,ah,AV.aA,aj,af],by simp[Ti,BU,tB,aL,aF,ai,ak,aj,AV.aA,af,aS,aZ,aU,l8,eG],rfl,rfl⟩) ?_;exact PQ.fg Zc hb (PQ.ret Zc)
def PT.ob {α:Type} (t:PT α) (P:α->Prop):Prop:=∀(s:List UInt8) (a:Nat) (x:α) (b:Nat),t.run s a=.ok (x,b)->P x
theorem dE {α β:Type} {t:PT α} {f:α->PT β} {P:α->Prop} {Q:β->Prop} (h:t.ob P) (h':∀x,P x->(f x).ob Q):(t.bind f).ob Q:=by
 intro s a y b hr;rw[PT.run_bind]at hr;cases ht:t.run s a with
 |error e=>rw[ht]at hr;cases hr
 |ok p=>
  obtain⟨x,c⟩:=p;rw[ht]at hr;exact h' x (h s a x c ht) s c y b hr
theorem iU {α:Type} (t:PT α):t.ob λ_=>True:=λ_ _ _ _ _=>trivial
theorem im {α:Type} {x:α} {P:α->Prop} (h:P x):(PT.ret x).ob P:=by
 intro s a y b hr;simp only[PT.run,Except.ok.injEq,ama]at hr;rw[<-hr.1];exact h
theorem qz {α:Type} {c:Int} {P:α->Prop}:(PT.bad c:PT α).ob P:=by
 intro s a y b hr;cases hr
theorem Zd {α:Type} {k:PT α} {P:α->Prop} (h:k.ob P):(PT.lI k).ob P:=by
 intro s a y b hr;simp only[PT.run]at hr;split at hr;·exact h _ _ _ _ hr
 ·cases hr
theorem L5 {α:Type} {k:Int->List UInt8->PT α} {P:α->Prop} (h:∀d x,(k d x).ob P):(PT.cur k).ob P:=λs a y b hr=>h _ _ s a y b hr
theorem mH {α:Type} {x:List UInt8} {yes no:PT α} {P:α->Prop} (h:yes.ob P) (h':no.ob P):(iN x yes no).ob P:=by
 refine L5 λd y=>?_;split;·exact Zd h
 ·exact h'
theorem zG {α:Type} {one:PT α} {P:α->Prop} (h:one.ob P):∀f,(pB one f).ob λl=>l.length<f/\∀x∈l,P x
 |0=>qz
 |f+1=>mH (im ⟨by simp,by simp⟩) (dE h λx hx=>dE (zG h f) λl hl=>im ⟨by simp;exact hl.1,λy hy=>by
   rcases alW.1 hy with rfl|hy;·exact hx
   ·exact hl.2 y hy⟩)
theorem x6 {P:Ins->Prop} (h:xR.ob P):∀f,(gH f).ob λl=>l.length<f/\∀t∈l,t.length<bV/\∀x∈t,P x
 |0=>qz
 |f+1=>mH (dE (dE (iU _) λ_ _=>zG h bV) λx hx=>dE (x6 h f) λl hl=>im ⟨by simp;exact hl.1,λy hy=>by
   rcases alW.1 hy with rfl|hy;·exact hx
   ·exact hl.2 y hy⟩) (im ⟨by simp,by simp⟩)
theorem L6 {P:Atom->Prop} (h:jF.ob P):∀f,(uC f).ob λl=>l.length<f/\∀x∈l,P x
 |0=>qz
 |f+1=>mH (dE h λx hx=>dE (L6 h f) λl hl=>im ⟨by simp;exact hl.1,λy hy=>by
   rcases alW.1 hy with rfl|hy;·exact hx
   ·exact hl.2 y hy⟩) (im ⟨by simp,by simp⟩)
theorem Gj {P:Atom->Prop} (h:jF.ob P):∀f,(xS f).ob λl=>(l.length<=f/\l≠ [])/\∀t∈l,(t.length<=bV/\t≠ [])/\∀x∈t,P x
 |0=>qz
 |f+1=>dE h λx hx=>dE (L6 h bV) λl hl=>by
   have pN:((x::l).length<=bV/\(x::l)≠ [])/\∀y∈x::l,P y:=⟨⟨by simp only[alu];omega,by simp⟩,λy hy=>by
    rcases alW.1 hy with rfl|hy;·exact hx
    ·exact hl.2 y hy⟩
   exact mH (dE (Gj h f) λr hr=>im ⟨⟨by simp only[alu];omega,by simp⟩,λy hy=>by
    rcases alW.1 hy with rfl|hy;·exact pN
    ·exact hr.2 y hy⟩) (im ⟨⟨by simp,by simp⟩,λy hy=>by
     simp only[alW,List.not_mem_nil,or_false]at hy;subst hy;exact pN⟩)
structure abV (t:Test):Prop where
 inits:t.inits.length<bV
 threads:t.threads.length<bV
 ins:∀l∈t.threads,l.length<bV
 rows:t.rows.length<=bV
 atoms:∀l∈t.rows,l.length<=bV
theorem Ze:D8.ob abV:=by
 refine dE (iU _) λ_ _=>dE (iU _) λn _=>dE (iU _) λ_ _=>?_;refine dE (P:=λl=>l.length<bV) (mH (dE (iU _) λ_ _=>λs a x b h=>(zG (iU AY) bV s a x b h).1) (im (by decide))) λi hi=>?_;refine dE (x6 (iU _) bV) λth Bh=>?_;refine dE (P:=λc=>c.2.length<=bV/\∀l∈c.2,l.length<=bV) ?_ λc hc=>dE (iU _) λ_ _=>L5 λd y=>?_
 ·have ask:∀k,(Ip k).ob λc=>c.2.length<=bV/\∀l∈c.2,l.length<=bV:=λk=>dE (Gj (iU _) bV) λr hr=>dE (iU _) λ_ _=>im ⟨hr.1.1,λl hl=>(hr.2 l hl).1.1⟩;exact mH (ask 1) (mH (ask 2) (im ⟨by simp,by simp⟩))
 ·split;·exact im ⟨hi,Bh.1,λl hl=>(Bh.2 l hl).1,hc.1,hc.2⟩
  ·exact qz
def rL (r:PR Test):List DV:=match r with
 |.ok t=>l8 t
 |.error _=>eG
def x7 (r:PR Test):Int:=match r with
 |.ok _=>0
 |.error e=>e.1
def pAt (r:PR Test):Nat:=match r with
 |.ok _=>0
 |.error e=>e.2
theorem Tj (r:PR Test):oU r=.cC [.agg ((rL r).map .d),.agg [au (x7 r),au (pAt r)]]:=by
 cases r<;>rfl
theorem Zf {α:Type} (enc:α->List DV) {l:List α} (h:l.length<=bV):dU enc l (BU enc l):=⟨by unfold bV at h;omega,.inr rfl⟩
theorem Qy {α:Type} (enc:α->List DV):∀{ls:List (List α)},(∀l∈ls,l.length<=bV)->nM enc ls (ls.map (BU enc))
 | [],_=>trivial
 |l::ls,h=>⟨Zf enc (h l alU),Qy enc λl' h'=>h l' (alY _ h')⟩
theorem Qz {α:Type} (enc:α->List DV) {ls:List (List α)} (h:ls.length<=bV) (h':∀l∈ls,l.length<=bV):cQ enc ls (.sl ls.length (ls.map (BU enc))):=by
 refine⟨ls.map (BU enc),⟨by simp;unfold bV at h;omega,.inr ?_⟩,Qy enc h'⟩;have e:∀l:List DV,l.flatMap (λd=>[d])=l:=by
  intro l;induction l with
  |nil=>rfl
  |cons x l ih=>simp[ih]
 rw[e,alk]
theorem abV.Zg {t:Test} (h:abV t):lU t (l8 t):=
 ⟨_,_,_,rfl,Zf _ (Nat.le_of_lt h.inits),Qz _ (Nat.le_of_lt h.threads) λl hl=>Nat.le_of_lt (h.ins l hl),Qz _ h.rows h.atoms⟩
theorem L7 {s:List UInt8} (hs:s.length<=maxLen):Pure aK 62 [.d (.str s)] (.cC [.agg ((rL (l6 s)).map .d),.agg [au (x7 (l6 s)),au (pAt (l6 s))]]):=by
 rw[<-Tj];exact L4 hs
end
end Go.Proofs.YtadocofdkdiboaaGreatDoor
namespace Go.Proofs.YtadocofdkdiboaaGreatDoor
open Go Go.Jq
abbrev KT:=Int×List UInt8
namespace PT
variable{α β:Type}
def runK:PT α->List KT->Option (α×List KT)
 |.ret x,l=>some (x,l)
 |.bad _,_=>none
 |.cur k,l=>match l with
  | []=>none
  |d::r=>(k d.1 d.2).runK (d::r)
 |.lI k,l=>match l with
  |_::u::r=>k.runK (u::r)
  |_=>none
end PT
theorem fg {α:Type} {w:List UInt8} (yes no:PT α) (u:KT) (r:List KT) (h:u.2≠w):(iN w yes no).runK (u::r)=no.runK (u::r):=by
 simp[iN,PT.runK,TO,h]
end Go.Proofs.YtadocofdkdiboaaGreatDoor
namespace Go.Proofs.YtadocofdkdiboaaGreatDoor
open Go.Proofs.Tryz
open Go.Proofs.Tryz renaming prog → aK
section
open Go Go.Jq
theorem qA (ls:List Int) (aC most:Nat):∀(n a mem:Nat) (ts:List (List Ins)),(dq ls aC most n a mem ts).2.length=ts.length+n
 |0,a,mem,ts=>rfl
 |n+1,a,mem,ts=>by
  simp only[dq];rw[qA,aln,List.length_singleton];omega
theorem Gk (ls:List Int) (most:Nat):(small ls most).threads.length=iD ls:=by
 simp only[small,tS];rw[qA];simp
theorem Gl (ls:List Int):iD ls<=3:=by unfold iD;omega
structure aiU (t:Test):Prop where
 ok:okB t=true
 inits:∀x∈t.inits,pj x.value
 ins:∀l∈t.threads,∀x∈l,ahT x
 atoms:∀l∈t.rows,∀a∈l,ahU a
def PT.eQ {α:Type} (t:PT α) (P:α->Prop):Prop:=∀(s:List UInt8) (a:Nat) (x:α) (b:Nat),s.length<=4000->t.run s a=.ok (x,b)->P x
def L8 (y:List UInt8):Prop:=(∃c r,y=c::r/\o4 c=true/\r.all Ik=true)/\y.length<=4000
theorem Gm:∀r:List UInt8,(r.take (iM r)).all Ik=true
 | []=>rfl
 |c::r=>by
  simp only[iM];split
  ·rename_i h;rw[Nat.add_comm,List.take_succ_cons,List.all_cons,h,Gm r];rfl
  ·rfl
theorem Zh {s:List UInt8} {a:Nat} (hs:s.length<=4000) (h:(o5 s a).kd=1):L8 (o5 s a).tx:=by
 unfold o5 b8 at h⊢;have hl:(s.drop (dv s a)).length<=4000:=by rw[List.length_drop];omega
 generalize s.drop (dv s a)=l at h hl⊢;cases l with
 |nil=>simp only[fY]at h;cases h
 |cons c r=>
  simp only[fY]at h⊢;split at h
  ·rename_i hc;rw[if_pos hc];refine⟨⟨c,_,rfl,hc,Gm r⟩,?_⟩;have:=xP r;simp only[alu,List.length_take]at hl⊢;omega
  ·split at h
   ·split at h;·cases h
    ·cases h
   ·split at h;·cases h
    ·cases h
theorem L8.word {y:List UInt8} (h:L8 y):mN y=true:=by
 obtain⟨⟨c,r,rfl,hc,hr⟩,_⟩:=h;rw[CA];·simp
 ·intro i hi;cases i with
  |zero=>
   simp only[o4,alE,decide_eq_true_eq]at hc;simp only[List.getD_cons_zero,jx,Bool.or_eq_true,alE,decide_eq_true_eq];exact .inl hc
  |succ i=>
   have gK:i<r.length:=by simpa using hi
   have e:(c::r).getD (i+1) 0=r[i]:=by simp[gK]
   have:=List.all_eq_true.1 hr r[i] (alR gK);rw[e];simp only[Ik,o4,nq,Bool.or_eq_true,alE,decide_eq_true_eq]at this;simp only[jx,Bool.or_eq_true,alE,decide_eq_true_eq];rcases this with h1|h1;·exact .inl h1
   ·exact .inr ⟨⟨by omega,h1.1⟩,h1.2⟩
theorem bu {α β:Type} {t:PT α} {f:α->PT β} {P:α->Prop} {Q:β->Prop} (h:t.eQ P) (h':∀x,P x->(f x).eQ Q):(t.bind f).eQ Q:=by
 intro s a y b hs hr;rw[PT.run_bind]at hr;cases ht:t.run s a with
 |error e=>rw[ht]at hr;cases hr
 |ok p=>
  obtain⟨x,c⟩:=p;rw[ht]at hr;exact h' x (h s a x c hs ht) s c y b hs hr
theorem L9 {α:Type} {t:PT α} {P:α->Prop} (h:t.ob P):t.eQ P:=λs a x b _ hr=>h s a x b hr
theorem eH {α:Type} (t:PT α):t.eQ λ_=>True:=λ_ _ _ _ _ _=>trivial
theorem cz {α:Type} {x:α} {P:α->Prop} (h:P x):(PT.ret x).eQ P:=L9 (im h)
theorem gv {α:Type} {c:Int} {P:α->Prop}:(PT.bad c:PT α).eQ P:=L9 qz
theorem mI {α:Type} {k:PT α} {P:α->Prop} (h:k.eQ P):(PT.lI k).eQ P:=by
 intro s a x b hs hr;simp only[PT.run]at hr;split at hr;·exact h _ _ _ _ hs hr
 ·cases hr
theorem jO {α:Type} {k:Int->List UInt8->PT α} {P:α->Prop} (h:∀d y,(d=1->L8 y)->(k d y).eQ P):(PT.cur k).eQ P:=
 λs a x b hs hr=>h _ _ (λhd=>Zh hs hd) s a x b hs hr
theorem fD {α:Type} {x:List UInt8} {yes no:PT α} {P:α->Prop} (h:yes.eQ P) (h':no.eQ P):(iN x yes no).eQ P:=by
 refine jO λd y _=>?_;split;·exact mI h
 ·exact h'
theorem vX {α:Type} {one:PT α} {P:α->Prop} (h:one.eQ P):∀f,(pB one f).eQ λl=>∀x∈l,P x
 |0=>gv
 |f+1=>fD (cz (by simp)) (bu h λx hx=>bu (vX h f) λl hl=>cz (λy hy=>by
   rcases alW.1 hy with rfl|hy;·exact hx
   ·exact hl y hy))
theorem uX {P:Ins->Prop} (h:xR.eQ P):∀f,(gH f).eQ λl=>∀t∈l,∀x∈t,P x
 |0=>gv
 |f+1=>fD (bu (bu (eH _) λ_ _=>vX h bV) λx hx=>bu (uX h f) λl hl=>cz (λy hy=>by
   rcases alW.1 hy with rfl|hy;·exact hx
   ·exact hl y hy)) (cz (by simp))
theorem Gn {P:Atom->Prop} (h:jF.eQ P):∀f,(uC f).eQ λl=>∀x∈l,P x
 |0=>gv
 |f+1=>fD (bu h λx hx=>bu (Gn h f) λl hl=>cz (λy hy=>by
   rcases alW.1 hy with rfl|hy;·exact hx
   ·exact hl y hy)) (cz (by simp))
theorem Ef {P:Atom->Prop} (h:jF.eQ P):∀f,(xS f).eQ λl=>l≠ []/\∀t∈l,t≠ []/\∀x∈t,P x
 |0=>gv
 |f+1=>bu h λx hx=>bu (Gn h bV) λl hl=>by
   have pN:x::l≠ []/\∀y∈x::l,P y:=⟨by simp,λy hy=>by
    rcases alW.1 hy with rfl|hy;·exact hx
    ·exact hl y hy⟩
   exact fD (bu (Ef h f) λr hr=>cz ⟨by simp,λy hy=>by
    rcases alW.1 hy with rfl|hy;·exact pN
    ·exact hr.2 y hy⟩) (cz ⟨by simp,λy hy=>by
     simp only[alW,List.not_mem_nil,or_false]at hy;subst hy;exact pN⟩)
theorem OS:D7.eQ L8:=jO λd y hy=>by
 split;·rename_i h;exact mI (cz (hy h))
 ·exact gv
theorem zH:zD.eQ pj:=jO λd y _=>by
 split;·exact mI (cz (D1 y))
 ·exact gv
theorem qB:(jb vQ).eQ λn=>dp n=true:=jO λd y hy=>by
 split
 ·rename_i hd;obtain⟨⟨c,r,rfl,hc,_⟩,_⟩:=hy hd;split
  ·rename_i n hn;refine mI (cz ?_);unfold vQ at hn;split at hn
   ·have e:=al9 hn;simp only[List.getD_cons_zero]at e;simp only[o4,alE,decide_eq_true_eq]at hc;simp only[dp,alE,decide_eq_true_eq];omega
   ·cases hn
  ·exact gv
 ·exact gv
theorem zJ:(jb pJ).eQ λn=>dQ n=true:=jO λd y _=>by
 split
 ·split
  ·rename_i n hn;refine mI (cz ?_);unfold pJ at hn;split at hn
   ·rename_i hh;have e:=al9 hn;simp only[dQ,alE,decide_eq_true_eq];omega
   ·cases hn
  ·exact gv
 ·exact gv
def Iz (o:nf):Prop:=eo o=true/\pj o.ez/\pj o.value
theorem um {n:Int} (h:dQ n=true):pj n:=by
 simp only[dQ,alE,decide_eq_true_eq]at h;unfold pj;omega
theorem jT:pj 0:=by unfold pj;omega
theorem OT:pj (-1):=by unfold pj;omega
theorem mJ:rJ.eQ Iz:=jO λd y _=>by
 split;·exact bu zH λn hn=>cz ⟨by simp[eo],OT,hn⟩
 ·exact bu zJ λn hn=>cz ⟨by simp[eo,hn],um hn,jT⟩
def E8 (x:Ins):Prop:=cB x=true/\ahT x
theorem x8 (s:List UInt8):∀(f i:Nat),i+f<=12->0<=(iJ s i f).1/\(iJ s i f).1<=11
 |0,i,_=>by simp[iJ]
 |f+1,i,h=>by
  have ih:=x8 s f (i+1) (by omega);unfold iJ
  repeat' split
  all_goals first
   |exact ih
   |(simp only;omega)
theorem Eg (s:List UInt8):∀(f i:Nat),(iJ s i f).2=true->0<(iJ s i f).1
 |0,i,h=>by simp[iJ]at h
 |f+1,i,h=>by
  by_cases hh:0<i/\mu.getD i []=s
  ·rw[iJ,if_pos hh];show(0:Int)<(i:Int);omega
  ·rw[iJ,if_neg hh]at h⊢;exact Eg s f (i+1) h
theorem OU {l:Int} {x:nf} (hl:dp l=true) (hx:Iz x):E8 ⟨1,0,l,x,0,⟨0,0⟩,0⟩:=by
 refine⟨?_,jT,hx.2.1,hx.2.2,jT,jT,jT⟩;simp[cB,hl,hx.1,fl]
theorem Tk {r l:Int} (hr:dQ r=true) (hl:dp l=true):E8 ⟨2,r,l,⟨0,0⟩,0,⟨0,0⟩,0⟩:=by
 refine⟨?_,um hr,jT,jT,jT,jT,jT⟩;simp[cB,hl,hr,fl]
theorem Zi {r l:Int} {x y:nf} (hr:dQ r=true) (hl:dp l=true) (hx:Iz x) (hy:Iz y):E8 ⟨4,r,l,x,0,y,0⟩:=by
 refine⟨?_,um hr,hx.2.1,hx.2.2,hy.2.1,hy.2.2,jT⟩;simp[cB,hl,hr,hx.1,hy.1,fl]
theorem Zj {r op:Int} {x y:nf} (hr:dQ r=true) (hx:Iz x) (hy:Iz y) (h0:0<op) (h1:op<=11):E8 ⟨5,r,0,x,op,y,0⟩:=by
 refine⟨?_,um hr,hx.2.1,hx.2.2,hy.2.1,hy.2.2,jT⟩;have h2:0<=op:=by omega
 simp[cB,hr,hx.1,hy.1,fl,h0,h1,h2]
theorem Zk {r:Int} {x:nf} (hr:dQ r=true) (hx:Iz x):E8 ⟨5,r,0,x,0,⟨-1,0⟩,0⟩:=by
 refine⟨?_,um hr,hx.2.1,hx.2.2,OT,jT,jT⟩;have h1:eo ⟨-1,0⟩=true:=by decide
 simp[cB,hr,hx.1,fl,h1]
theorem Tl {n:Int} {x y:nf} (hn:0<=n) (hi:pj n) (hx:Iz x) (hy:Iz y):E8 ⟨6,0,0,x,0,y,n⟩:=by
 refine⟨?_,jT,hx.2.1,hx.2.2,hy.2.1,hy.2.2,hi⟩;simp[cB,hn,hx.1,hy.1,fl]
theorem Ma {r:Int} (hr:dQ r=true):(tz r).eQ E8:=by
 refine fD (bu qB λl hl=>cz (Tk hr hl)) ?_;refine fD (bu qB λl hl=>bu mJ λx hx=>bu mJ λy hy=>cz (Zi hr hl hx hy)) ?_;refine bu mJ λx hx=>jO λd y _=>?_;split
 ·rename_i h;refine mI (bu mJ λz hz=>cz (Zj hr hx hz ?_ ?_));·exact Eg y 12 0 h.2
  ·exact(x8 y 12 0 (by omega)).2
 ·exact cz (Zk hr hx)
theorem Tm:Io.eQ E8:=by
 refine fD (bu qB λl hl=>bu mJ λx hx=>cz (OU hl hx)) ?_;refine fD (cz ⟨by decide,jT,jT,jT,jT,jT,jT⟩) ?_;refine fD ?_ (bu zJ λr hr=>bu (eH _) λ_ _=>Ma hr);intro s a x b hs dJ;rw[PT.run]at dJ;split at dJ;·cases dJ
 ·rename_i hd;rw[PT.run_bind]at dJ;cases hn:zD.run s a with
  |error e=>rw[hn]at dJ;cases dJ
  |ok p=>
   obtain⟨n,c⟩:=p;rw[hn]at dJ;have ZK:0<=n/\pj n:=by
    unfold zD at hn;rw[PT.run]at hn;split at hn
    ·rename_i h2;rw[PT.run]at hn;split at hn
     ·simp only[PT.run,Except.ok.injEq,ama]at hn;rw[<-hn.1];refine⟨?_,D1 _⟩;rcases Int.lt_or_le (eu (o5 s a).tx).1 0 with h|h;·exact absurd ⟨h2,h⟩ hd
      ·exact h
     ·cases hn
    ·cases hn
   have key:((gj wIf).bind λ_=>rJ.bind λx=>(gj [61,61]).bind λ_=>rJ.bind λy=>(PT.ret (⟨6,0,0,x,0,y,n⟩:Ins))).eQ E8:=
    bu (eH _) λ_ _=>bu mJ λx hx=>bu (eH _) λ_ _=>bu mJ λy hy=>cz (Tl ZK.1 ZK.2 hx hy)
   exact key s c x b hs dJ
theorem OV:xR.eQ E8:=bu Tm λx hx=>bu (eH _) λ_ _=>cz hx
def QA (a:Atom):Prop:=gy a=true/\ahU a
theorem Tn:SX.eQ λx=>∀n,pj n->QA {x with value:=n}:=jO λd y _=>by
 split
 ·split;·exact gv
  ·rename_i hr;refine mI (bu (eH _) λ_ _=>bu zJ λr aiV=>cz λn hn=>?_);have h0:0<=(eu y).1/\(eu y).1<=9:=by omega
   generalize (eu y).1=m at h0;have hm:¬m=-1:=by omega
   refine⟨?_,by unfold pj;simp only;omega,um aiV,hn⟩;simp[gy,hm,h0.1,h0.2,aiV]
 ·refine bu qB λl hl=>cz λn hn=>⟨?_,OT,jT,hn⟩;simp[gy,hl]
theorem OW:jF.eQ QA:=bu Tn λx hx=>bu (eH _) λ_ _=>bu zH λn hn=>cz (hx n hn)
def aeA (x:Init):Prop:=dp x.loc=true/\pj x.value
theorem OX:AY.eQ aeA:=bu qB λl hl=>bu (eH _) λ_ _=>bu zH λn hn=>bu (eH _) λ_ _=>cz ⟨hl,hn⟩
structure QB (t:Test):Prop where
 val:aiU t
 name:t.name.length<=4000
 lens:abV t
theorem OY:D8.eQ QB:=by
 refine λs a t b hs hr=>?_;have hl:=Ze s a t b hr;have key:D8.eQ λt=>aiU t/\t.name.length<=4000:=by
  refine bu (eH _) λ_ _=>bu OS λn hn=>bu (eH _) λ_ _=>?_;refine bu (P:=λl=>∀x∈l,aeA x) (fD (bu (eH _) λ_ _=>vX OX bV) (cz (by simp))) λi hi=>?_;refine bu (uX OV bV) λth Bh=>?_;refine bu (P:=λc=>jd c.1 c.2=true/\∀l∈c.2,∀x∈l,QA x) ?_ λc hc=>bu (eH _) λ_ _=>jO λd y _=>?_
  ·have ask:∀k,k=1\/k=2->(Ip k).eQ λc=>jd c.1 c.2=true/\∀l∈c.2,∀x∈l,QA x:=λk hk=>bu (Ef OW bV) λr hr=>bu (eH _) λ_ _=>cz (by
    refine⟨?_,λl hl=>(hr.2 l hl).2⟩;have GF:¬k=0:=by omega
    have hb:r.any lV=false:=by
     rw[al3];intro l hl;obtain⟨h1,h2⟩:=hr.2 l hl;unfold lV;simp only[Bool.or_eq_true,decide_eq_true_eq,List.any_eq_true,not_or,not_exists,not_and];exact⟨λh=>h1 (amb h),λa ha=>by simp[(h2 a ha).1]⟩
    have hp:0<r.length:=List.length_pos_iff.2 hr.1;simp only[jd,if_neg GF,hb,al7,Bool.and_true,alE,Bool.or_eq_true,decide_eq_true_eq];exact⟨hk,hp⟩)
   exact fD (ask 1 (.inl rfl)) (fD (ask 2 (.inr rfl)) (cz ⟨by decide,by simp⟩))
  ·split
   ·refine cz ⟨⟨?_,λx hx=>(hi x hx).2,λl hl x hx=>(Bh l hl x hx).2,λl hl a ha=>(hc.2 l hl a ha).2⟩,hn.2⟩;have h1:ky i=false:=by
     unfold ky;rw[al3];intro x hx;simp[(hi x hx).1]
    have h2:th.any fC=false:=by
     rw[al3];intro l hl;unfold fC;simp only[List.any_eq_true,not_exists,not_and];intro x hx;simp[(Bh l hl x hx).1]
    simp only[okB,hn.word,h1,h2,hc.1];rfl
   ·exact gv
 obtain⟨h1,h2⟩:=key s a t b hs hr;exact⟨h1,h2,hl⟩
theorem x9 {s:List UInt8} {t:Test} (ht:l6 s=.ok t):QB t:=by
 unfold l6 at ht;split at ht;·cases ht
 ·rename_i hs;split at ht
  ·rename_i a _;split at ht
   ·rename_i t' b hb;cases ht;exact OY s a t b (by omega) hb
   ·cases ht
  ·cases ht
def PT.Zl {α:Type} (t:PT α):Prop:=∀(s:List UInt8) (a:Nat) (x:α) (b:Nat),a<=s.length->(b8 s a).2.2=0->t.run s a=.ok (x,b)->a<b
theorem PT.zK {α:Type} {s:List UInt8} (t:PT α):∀{a:Nat} {x:α} {b:Nat},(b8 s a).2.2=0->t.run s a=.ok (x,b)->(b8 s b).2.2=0:=by
 induction t with
 |ret x=>intro a y b h0 h;simp only[run,Except.ok.injEq,ama]at h;obtain⟨_,rfl⟩:=h;exact h0
 |bad c=>intro a y b h0 h;cases h
 |cur k ih=>intro a y b h0 h;exact ih _ _ h0 h
 |lI k ih=>
  intro a y b h0 h;simp only[run]at h;split at h
  ·rename_i b' hb;exact ih (ui hb).2 h
  ·cases h
theorem QC {α β:Type} {t:PT α} {f:α->PT β} (h:t.Zl):(t.bind f).Zl:=by
 intro s a y b ha h0 hr;rw[PT.run_bind]at hr;cases ht:t.run s a with
 |error e=>rw[ht]at hr;cases hr
 |ok p=>
  obtain⟨x,c⟩:=p;rw[ht]at hr;have h1:=h s a x c ha h0 ht;have h2:=t.mE ha ht;have h3:=(f x).mE h2.2 hr;omega
theorem Zm {α β:Type} {t:PT α} {f:α->PT β} (h:∀x,(f x).Zl):(t.bind f).Zl:=by
 intro s a y b ha h0 hr;rw[PT.run_bind]at hr;cases ht:t.run s a with
 |error e=>rw[ht]at hr;cases hr
 |ok p=>
  obtain⟨x,c⟩:=p;rw[ht]at hr;have h2:=t.mE ha ht;have h1:=h x s c y b h2.2 (t.zK h0 ht) hr;omega
theorem ya (x:List UInt8):(gj x).Zl:=by
 intro s a y b ha h0 hr;unfold gj at hr;rw[PT.run]at hr;split at hr
 ·rename_i hk;have h4:(b8 s a).1.kd≠4:=by
   unfold TO o5 at hk;simp only[alE,Bool.or_eq_true,decide_eq_true_eq]at hk;omega
  have h1:=(nv ha).2.2 h0 h4;simp only[PT.run]at hr;split at hr
  ·rename_i c hc;simp only[Except.ok.injEq,ama]at hr;have:=(ui hc).1;omega
  ·cases hr
 ·cases hr
def PT.se {α:Type} (t:PT α) (f:Nat):Prop:=∀(s:List UInt8) (a:Nat) (e:PE),a<=s.length->s.length-a<f->(b8 s a).2.2=0->t.run s a=.error e->e.1≠0
theorem eC {α:Type} {x:α} {f:Nat}:(PT.ret x).se f:=λ_ _ _ _ _ _ h=>by cases h
theorem tC {α:Type} {c:Int} {f:Nat} (hc:c≠0):(PT.bad c:PT α).se f:=λs a e _ _ _ h=>by
 simp only[PT.run,Except.error.injEq]at h;rw[<-h];exact hc
theorem pL {α:Type} {k:Int->List UInt8->PT α} {f:Nat} (h:∀d y,(k d y).se f):(PT.cur k).se f:=λs a e ha hf h0 hr=>h _ _ s a e ha hf h0 hr
theorem vY {α:Type} {k:PT α} {f:Nat} (h:k.se f):(PT.lI k).se f:=by
 intro s a e ha hf h0 hr;simp only[PT.run]at hr;have h1:=nv ha;split at hr
 ·rename_i b hb;obtain⟨rfl,h2⟩:=ui hb;exact h s _ e h1.2.1 (by omega) h2 hr
 ·rename_i e' he;obtain⟨c,p⟩:=e';cases hr;unfold oT at he;exact(Qv he).2.1
theorem cp {α β:Type} {t:PT α} {g:α->PT β} {f:Nat} (h:t.se f) (h':∀x,(g x).se f):(t.bind g).se f:=by
 intro s a e ha hf h0 hr;rw[PT.run_bind]at hr;cases ht:t.run s a with
 |error e'=>
  rw[ht]at hr;cases hr;exact h s a _ ha hf h0 ht
 |ok p=>
  obtain⟨x,c⟩:=p;rw[ht]at hr;have h2:=t.mE ha ht;exact h' x s c e h2.2 (by omega) (t.zK h0 ht) hr
theorem yb {α β:Type} {t:PT α} {g:α->PT β} {f:Nat} (h:t.se (f+1)) (hA:t.Zl) (h':∀x,(g x).se f):(t.bind g).se (f+1):=by
 intro s a e ha hf h0 hr;rw[PT.run_bind]at hr;cases ht:t.run s a with
 |error e'=>
  rw[ht]at hr;cases hr;exact h s a _ ha hf h0 ht
 |ok p=>
  obtain⟨x,c⟩:=p;rw[ht]at hr;have h2:=t.mE ha ht;have h3:=hA s a x c ha h0 ht;exact h' x s c e h2.2 (by omega) (t.zK h0 ht) hr
theorem kP {α:Type} {x:List UInt8} {yes no:PT α} {f:Nat} (h:yes.se f) (h':no.se f):(iN x yes no).se f:=by
 refine pL λd y=>?_;split;·exact vY h
 ·exact h'
theorem ji (x:List UInt8) (f:Nat):(gj x).se f:=pL λd y=>by
 split;·exact vY eC
 ·exact tC (by decide)
theorem abW (f:Nat):D7.se f:=pL λd y=>by
 split;·exact vY eC
 ·exact tC (by decide)
theorem IA (f:Nat):zD.se f:=pL λd y=>by
 split;·exact vY eC
 ·exact tC (by decide)
theorem nw (g:List UInt8->Option Int) (f:Nat):(jb g).se f:=pL λd y=>by
 split
 ·split;·exact vY eC
  ·exact tC (by decide)
 ·exact tC (by decide)
theorem vZ (f:Nat):rJ.se f:=pL λd y=>by
 split;·exact cp (IA f) λ_=>eC
 ·exact cp (nw _ f) λ_=>eC
theorem Zn (r:Int) (f:Nat):(tz r).se f:=by
 refine kP (cp (nw _ f) λ_=>eC) (kP (cp (nw _ f) λ_=>cp (vZ f) λ_=>cp (vZ f) λ_=>eC) ?_);refine cp (vZ f) λx=>pL λd y=>?_;split;·exact vY (cp (vZ f) λ_=>eC)
 ·exact eC
theorem af3 (f:Nat):Io.se f:=by
 refine kP (cp (nw _ f) λ_=>cp (vZ f) λ_=>eC) (kP eC (kP ?_ (cp (nw _ f) λ_=>cp (ji _ f) λ_=>Zn _ f)));refine pL λd y=>?_;split;·exact tC (by decide)
 ·exact cp (IA f) λ_=>cp (ji _ f) λ_=>cp (vZ f) λ_=>cp (ji _ f) λ_=>cp (vZ f) λ_=>eC
theorem abX (f:Nat):xR.se f:=cp (af3 f) λ_=>cp (ji _ f) λ_=>eC
theorem Zo:xR.Zl:=Zm λ_=>QC (ya _)
theorem abY (f:Nat):AY.se f:=cp (nw _ f) λ_=>cp (ji _ f) λ_=>cp (IA f) λ_=>cp (ji _ f) λ_=>eC
theorem Zp:AY.Zl:=Zm λ_=>QC (ya _)
theorem af4 (f:Nat):SX.se f:=pL λd y=>by
 split
 ·split;·exact tC (by decide)
  ·exact vY (cp (ji _ f) λ_=>cp (nw _ f) λ_=>eC)
 ·exact cp (nw _ f) λ_=>eC
theorem QD (f:Nat):jF.se f:=cp (af4 f) λ_=>cp (ji _ f) λ_=>cp (IA f) λ_=>eC
theorem Mb:jF.Zl:=Zm λ_=>QC (ya _)
theorem IB {α:Type} {one:PT α} (hA:one.Zl) (h:∀f,one.se f):∀f,(pB one f).se f
 |0=>λ_ _ _ _ hf=>by omega
 |f+1=>kP eC (yb (h _) hA λ_=>cp (IB hA h f) λ_=>eC)
theorem QE {α:Type} {t:PT α} {f g:Nat} (h:t.se g) (hfg:f<=g):t.se f:=λs a e ha hf h0 hr=>h s a e ha (by omega) h0 hr
theorem To {f:Nat} (hf:f<=bV):n9.se f:=cp (ji _ f) λ_=>QE (IB Zo abX bV) hf
theorem OZ:n9.Zl:=QC (ya _)
theorem Eh:∀f,f<=bV->(gH f).se f
 |0,_=>λ_ _ _ _ hf=>by omega
 |f+1,hf=>kP (yb (To hf) OZ λ_=>cp (Eh f (by omega)) λ_=>eC) eC
theorem Zq:∀f,(uC f).se f
 |0=>λ_ _ _ _ hf=>by omega
 |f+1=>kP (yb (QD _) Mb λ_=>cp (Zq f) λ_=>eC) eC
theorem QF:∀f,f<=bV->(xS f).se f
 |0,_=>λ_ _ _ _ hf=>by omega
 |f+1,hf=>yb (QD _) Mb λ_=>cp (QE (Zq bV) (by omega)) λ_=>kP (cp (QF f (by omega)) λ_=>eC) eC
theorem abZ:LH.se bV:=
 have ask:∀k,(Ip k).se bV:=λk=>cp (QF bV (ali _)) λ_=>cp (ji _ _) λ_=>eC
 kP (ask 1) (kP (ask 2) eC)
theorem ab0:D8.se bV:=by
 refine cp (ji _ _) λ_=>cp (abW _) λ_=>cp (ji _ _) λ_=>cp (kP (cp (ji _ _) λ_=>IB Zp abY bV) eC) λ_=>?_;refine cp (Eh bV (ali _)) λ_=>cp abZ λ_=>cp (ji _ _) λ_=>pL λd y=>?_;split;·exact eC
 ·exact tC (by decide)
theorem A2 {s:List UInt8} {c:Int} {p:Nat} (h:l6 s=.error (c,p)):c≠0:=by
 unfold l6 at h;split at h;·cases h;decide
 ·rename_i hs;split at h
  ·rename_i a ha;obtain⟨rfl,h0⟩:=YS ha;split at h;·cases h
   ·rename_i e he;cases h;exact ab0 s 0 _ (alZ _) (by unfold bV;omega) h0 he
  ·rename_i e he;cases h;exact(Qv he).2.1
def nP (s:List UInt8):PR Test:=match l6 s with
 |.ok t=>if dB t=0 then .ok t else .error (dB t,0)
 |.error e=>.error e
theorem Ei {s:List UInt8} {t:Test} (h:l6 s=.ok t):Pure aK 63 [.agg ((l8 t).map .d)] (au (dB t)):=by
 have hp:=x9 h;have ht:=hp.lens.threads;have hn:=hp.name;unfold bV at ht;exact vP hp.lens.Zg (by omega) (by omega)
set_option maxHeartbeats 4000000 in
theorem E9 {s:List UInt8} (hs:s.length<=maxLen):Pure aK 29 [.d (.str s)] (.cC [.agg ((rL (nP s)).map .d),.agg [au (x7 (nP s)),au (pAt (nP s))]]):=by
 have k1:=L7 hs;refine ay func29 aan ntmps29 results29 rfl ?_;unfold ahD;refine J λK hK=>?_;simp only[go_sem];apply hK;cases hp:l6 s with
 |error e=>
  obtain⟨c,p⟩:=e;have hc0:¬c=0:=A2 hp;have hr:nP s=.error (c,p):=by unfold nP;rw[hp]
  rw[hr];rw[hp]at k1;simp only[rL,x7,pAt,eG,alz,alL]at k1⊢;refine J λK hK=>?_;simp only[go_sem]
  repeat' (first
   |(refine cn (λhb=>?_) (λhb=>?_)<;>simp only[go_sem,hb])
   |(refine b7 (λhb=>?_) (λhb=>?_)<;>simp only[go_sem,hb])
   |(refine aI (k1) rfl rfl ?_;simp only[go_sem])
   |(refine bD (k1) rfl rfl ?_;simp only[go_sem])
   |(rw[if_pos (by(try simp only[aln,alu,alB,alk]);omega)];simp only[go_sem]))
  apply hK;refine aa λK1 aT=>?_;refine J λK hK=>?_;simp only[go_sem,eq_false hc0,decide_false,al7];apply hK;refine aM ?_;refine aa λK hK=>az rfl rfl ?_;simp only[go_sem];refine⟨rfl,hK _ ?_⟩;apply an;simp only[go_sem];refine aD _ rfl rfl ⟨?_,rfl⟩;simp[ah];exact⟨rfl,rfl⟩
 |ok t=>
  obtain⟨rr,uS⟩:∃rr,nP s=rr:=⟨_,rfl⟩;rw[uS];have k2:=Ei hp;rw[hp]at k1;simp only[rL,x7,pAt,l8,alz,alL]at k1 k2;refine J λK hK=>?_;simp only[go_sem]
  repeat' (first
   |(refine cn (λhb=>?_) (λhb=>?_)<;>simp only[go_sem,hb])
   |(refine b7 (λhb=>?_) (λhb=>?_)<;>simp only[go_sem,hb])
   |(refine aI (k1) rfl rfl ?_;simp only[go_sem])
   |(refine bD (k1) rfl rfl ?_;simp only[go_sem])
   |(rw[if_pos (by(try simp only[aln,alu,alB,alk]);omega)];simp only[go_sem]))
  apply hK;refine aa λK1 aT=>?_;refine J λK hK=>?_;simp only[go_sem];apply hK;refine aH ?_;apply ar;apply aT;refine aa λK1 aT=>?_;refine J λK hK=>?_;simp only[go_sem]
  repeat' (first
   |(refine cn (λhb=>?_) (λhb=>?_)<;>simp only[go_sem,hb])
   |(refine b7 (λhb=>?_) (λhb=>?_)<;>simp only[go_sem,hb])
   |(refine aI (k2) rfl rfl ?_;simp only[go_sem])
   |(refine bD (k2) rfl rfl ?_;simp only[go_sem])
   |(rw[if_pos (by(try simp only[aln,alu,alB,alk]);omega)];simp only[go_sem]))
  apply hK;by_cases hc:dB t=0
  ·obtain rfl:rr=.ok t:=by rw[<-uS];unfold nP;rw[hp];simp only[hc,if_true]
   refine J λK hK=>?_;simp only[go_sem,eq_true hc,decide_true,alT];apply hK;refine aH ?_;apply ar;refine aT _ (J λK hK=>?_);simp only[go_sem];apply hK;apply an;simp only[go_sem];refine aD _ rfl rfl ⟨?_,rfl⟩;simp[ah,rL,x7,pAt,l8];exact⟨rfl,rfl⟩
  ·obtain rfl:rr=.error (dB t,0):=by rw[<-uS];unfold nP;rw[hp];simp only[hc,if_false]
   refine J λK hK=>?_;simp only[go_sem,eq_false hc,decide_false,al7];apply hK;refine aM ?_;refine J λK hK=>?_;simp only[go_sem];apply hK;apply an;simp only[go_sem];refine aD _ rfl rfl ⟨?_,rfl⟩;simp[ah,rL,x7,pAt,eG];exact⟨rfl,rfl⟩
theorem A3 {t:Test} {cs:List DV} (hT:lU t cs) (hn:t.name.length<=9223372036854775807) (fk:t.threads.length<=1000000) (m aR:Int):
 Pure aK 13 [.agg (cs.map .d),au m,au aR] (.agg ((E2 t m aR).map .d)):=by
 unfold E2;by_cases hc:dB t=0
 ·rw[if_neg (by simp[hc])];by_cases hm:m<1\/3<m
  ·rw[if_pos hm];exact YJ hT hn fk aR hc (Qu hc) hm
  ·rw[if_neg hm];exact abN hT hn fk aR hc (Qu hc) (LC hc) (by omega) (by omega)
 ·rw[if_pos hc];exact YI hT hn fk m aR hc
def zL (s:List UInt8) (m aR:Int):List DV:=match nP s with
 |.ok t=>E2 t m aR
 |.error e=>eD e.1 e.2
theorem Zr {s:List UInt8} {t:Test} (h:nP s=.ok t):l6 s=.ok t/\dB t=0:=by
 unfold nP at h;split at h
 ·rename_i u hu;split at h
  ·rename_i hc;cases h;exact⟨hu,hc⟩
  ·cases h
 ·cases h
theorem Tp {s:List UInt8} {e:Int×Nat} (h:nP s=.error e):e.1≠0:=by
 unfold nP at h;split at h
 ·split at h;·cases h
  ·rename_i hc;cases h;exact hc
 ·rename_i c hc;cases h;exact A2 hc
theorem ab1 (t:Test) (m aR:Int):(E2 t m aR).length=12:=by
 unfold E2;split;·rfl
 ·split<;>rfl
theorem ye {s:List UInt8} (hs:s.length<=maxLen) (m aR:Int):Pure aK 10 [.d (.str s),au m,au aR] (.agg ((zL s m aR).map .d)):=by
 have kr:=E9 hs;have lj:mV aK 46=some (some 12):=by kernel_rfl
 unfold zL;cases hr:nP s with
 |error e=>
  have hc:=Tp hr;obtain⟨c,a⟩:=e;have kf:=zz c a;rw[hr]at kr;simp only[rL,x7,pAt,eG,alz,alL,eD]at kr kf hc;refine ay func10 Pr ntmps10 results10 rfl ?_;unfold afh;refine J λK hK=>?_;simp only[go_sem];refine hK _ (J λK hK=>?_);simp only[go_sem];refine a8 (kr) ?_;simp only[go_sem];apply hK;refine aa λK1 aT=>?_;refine J λK hK=>?_;simp only[go_sem,eq_false hc,decide_false,al7];apply hK;refine aM ?_;refine J λK hK=>?_;simp only[go_sem];refine a8 (kf) ?_;simp only[go_sem];apply hK;apply an
  exact⟨.agg ((eD c a).map .d),by simp[bj,aP,bt,ah,ai,ak,aG,lj,aN,eD],[],[],rfl,rfl,by simp[aL,aF,ai,ak,aG,aj,AV.aA,af,ae,-alh,lj,aN,eD],by simp[AV.aA,aj,af,lj,aN,eD]⟩
 |ok t=>
  obtain⟨hp,hc⟩:=Zr hr;have af5:=x9 hp;have Bh:=af5.lens.threads;unfold bV at Bh;have kt:=A3 af5.lens.Zg (by have:=af5.name;omega) (by omega) m aR;have qD:=ab1 t m aR;rw[hr]at kr;simp only[rL,x7,pAt,l8,alz,alL]at kr kt;show Pure aK 10 [.d (.str s),au m,au aR] (.agg ((E2 t m aR).map .d));generalize E2 t m aR=R at*;have af6:(R.map AV.d).length=12:=by rw[alk,qD]
  have fw:(R.map AV.d).all mf=true:=eR _;have SB:∀z:List AV,z.length=12->putAt z 0 (R.map .d)=R.map .d:=λz hz=>iP (by rw[af6,hz]);have hlR:aN (some 12) (R.map AV.d)=some (.agg (R.map .d)):=by rw[ep,af6,if_pos (ali _),alx (by omega)]
  refine ay func10 Pr ntmps10 results10 rfl ?_;unfold afh;refine J λK hK=>?_;simp only[go_sem];refine hK _ (J λK hK=>?_);simp only[go_sem];refine a8 (kr) ?_;simp only[go_sem];apply hK;refine aa λK1 aT=>?_;refine J λK hK=>?_;simp only[go_sem,decide_true,alT];apply hK;refine aH ?_;apply ar;refine aT _ (J λK hK=>?_);simp only[go_sem,aN];refine a8 (kt) ?_;simp only[go_sem,af6,fw,alo,alu,alB,ali];rw[SB _ rfl];apply hK;apply an;exact⟨.agg (R.map .d),by simp[bj,aP,bt,ah,ai,ak,aG,lj,hlR],[],[],rfl,rfl,by simp[aL,aF,ai,ak,aG,aj,AV.aA,af,ae,-alh,lj,hlR],by simp[AV.aA,aj,af,lj,hlR]⟩
def af7 (c a:Int):List UInt8:=[101,114,114,111,114,32]++Lib.itoa c++[32,97,116,32]++Lib.itoa a++[10]
def Tq:List UInt8:=[105,110,99,111,109,112,108,101,116,101,10]
theorem Mc {c a:Int} (hc:pj c) (ha:pj a) (h0:c≠0):Pure aK 15 [.agg ((eD c a).map .d)] (.d (.str (af7 c a))):=by
 have k1:=Fx hc;have k2:=Fx ha;have l1:=JG hc;have l2:=JG ha;unfold af7 eD;generalize Lib.itoa c=s1 at*;generalize Lib.itoa a=s2 at*;have b1:6+s1.length<=9223372036854775807:=by omega
 have b2:6+s1.length+4<=9223372036854775807:=by omega
 have b3:6+s1.length+4+s2.length<=9223372036854775807:=by omega
 have b4:6+s1.length+4+s2.length+1<=9223372036854775807:=by omega
 refine ay func15 Ps ntmps15 results15 rfl ?_;unfold afj;simp only[alz,alL];refine J λK hK=>?_;simp only[go_sem];apply hK;refine aa λKE fV=>?_;apply ax;refine J λK hK=>?_;simp only[go_sem,eq_false h0,decide_false,al7];apply hK;refine aM ?_;refine aa λK hK=>az rfl rfl ?_;simp only[go_sem]
 repeat' (first
  |(refine cn (λhb=>?_) (λhb=>?_)<;>simp only[go_sem,hb,aln,alu,alB,alo,b1,b2,b3,b4])
  |(refine b7 (λhb=>?_) (λhb=>?_)<;>simp only[go_sem,hb,aln,alu,alB,alo,b1,b2,b3,b4])
  |(refine aI (k1) rfl rfl ?_;simp only[go_sem,aln,alu,alB,alo,b1,b2,b3,b4])
  |(refine bD (k1) rfl rfl ?_;simp only[go_sem,aln,alu,alB,alo,b1,b2,b3,b4])
  |(refine aI (k2) rfl rfl ?_;simp only[go_sem,aln,alu,alB,alo,b1,b2,b3,b4])
  |(refine bD (k2) rfl rfl ?_;simp only[go_sem,aln,alu,alB,alo,b1,b2,b3,b4])
  |(rw[if_pos (by(try simp only[aln,alu,alB,alk]);omega)];simp only[go_sem,aln,alu,alB,alo,b1,b2,b3,b4]))
 refine⟨rfl,hK _ ?_⟩;apply an;exact⟨.d (.str ([101,114,114,111,114,32]++s1++[32,97,116,32]++s2++[10])),by simp[bj,aP,bt,ah,ai,ak,aG],[],[],rfl,rfl,by simp[aL,aF,ai,ak,aG,aj,AV.aA,af,ae,-alh],by simp[AV.aA,aj,af]⟩
theorem O0 (p:Prog):Pure aK 15 [.agg ((o3 p sd).map .d)] (.d (.str Tq)):=by
 unfold o3 sd nO oQ;refine ay func15 Ps ntmps15 results15 rfl ?_;unfold afj;simp only[alz,alL];refine J λK hK=>?_;simp only[go_sem];apply hK;refine aa λKE fV=>?_;apply ax;refine J λK hK=>?_;simp only[go_sem,decide_true,alT];apply hK;refine aH ?_;refine J λK hK=>?_;simp only[go_sem];apply hK;refine aM ?_;refine J λK hK=>?_;simp only[go_sem];apply hK;apply an;exact⟨.d (.str Tq),by simp[bj,aP,bt,ah,ai,ak,aG,Tq],[],[],rfl,rfl,by simp[aL,aF,ai,ak,aG,aj,AV.aA,af,ae,-alh,Tq],by simp[AV.aA,aj,af,Tq]⟩
def IC:List UInt8:=[116,101,115,116,32,97,32,123,32,116,104,114,101,97,100,32,123,32,115,116,111,114,101,32,120,32,49,32,59,32,125,32,101,120,105,115,116,115,32,120,32,61,32,49,32,59,32,125]
def v7:Test:=⟨[97],[],[[⟨1,0,120,⟨-1,1⟩,0,⟨0,0⟩,0⟩]],1,[[⟨-1,0,120,1⟩]]⟩
def Ej:List Int:=[0,0,0,0,0,0,0,0,0,0,0,0,0,0,0,0,1,0,0,0]
theorem ab2:nP IC=.ok v7:=by kernel_rfl
theorem ab3:gG v7=awP:=by kernel_rfl
theorem Zt:dB v7=0:=by kernel_rfl
theorem ab4:dT awP 1 [[0]]=[Ej]:=by kernel_rfl
theorem af8:j3 awP 1 [Ej] [0]=false:=by kernel_rfl
theorem O1:qv awP 1 v7.rows [Ej]=1:=by kernel_rfl
theorem ab5:ik [Ej]=[Ej]:=by simp[ik,lC,cE,ja]
theorem Tr:eL awP v7.kind v7.rows 1 1000=⟨true,[Ej],1,1,none,1,0⟩:=by
 have hk:v7.kind=1:=rfl;unfold eL lh;rw[Ot];simp only;rw[ab4,ab5];simp only[List.find?_cons,af8,List.find?_nil];rw[if_neg (by decide),hk,O1];rfl
theorem Zu:nP []=.error (6,0):=by kernel_rfl
theorem ID:Pure aK 12 [] (.d (.bool true)):=by
 have k1:=ye (s:=IC) (by decide) 1 1000;have k2:=ye (s:=[]) (by decide) 1 9;have k3:=Mc (c:=6) (a:=0) ⟨by decide,by decide⟩ ⟨by decide,by decide⟩ (by decide);have e1:zL IC 1 1000=o3 awP ⟨true,[Ej],1,1,none,1,0⟩:=by
  unfold zL;rw[ab2];simp only;unfold E2;rw[if_neg (by rw[Zt];decide),if_neg (by decide),ab3,Tr]
 have e2:zL [] 1 9=eD 6 0:=by unfold zL;rw[Zu];rfl
 have e3:af7 6 0=[101,114,114,111,114,32,54,32,97,116,32,48,10]:=by kernel_rfl
 rw[e1]at k1;rw[e2]at k2;rw[e3]at k3;simp only[o3,eD,alz,alL,IC,nO,oQ,if_true]at k1 k2 k3;refine ay func12 aaH ntmps12 results12 rfl ?_;unfold ahY;refine J λK hK=>?_;simp only[go_sem];refine hK _ (J λK hK=>?_);simp only[go_sem];refine a8 (k1) ?_;simp only[go_sem];refine hK _ (J λK hK=>?_);simp only[go_sem];refine a8 (k2) ?_;simp only[go_sem];refine a8 (k3) ?_;simp only[go_sem,aN,decide_true,jV,alu,alB];apply hK;apply an;exact⟨.d (.bool true),by simp[bj,aP,bt,ah,ai,ak,aG],[],[],rfl,rfl,by simp[aL,aF,ai,ak,aG,aj,AV.aA,af,ae,-alh],by simp[AV.aA,aj,af]⟩
theorem Gp {f:{f:List Int//f.length=20}} {rest:List DV}:aN (some 20) ((mc f++rest).map AV.d)=some (.agg (dA f.1)):=by
 have h:(mc f).length=20:=by simp[mc,cc,f.2]
 rw[ep,if_pos (by simp[h]),al1,List.take_append_of_le_length (by simp[h]),alx (by simp[h])];rfl
def sfS (X Y:DV) (i:Nat):St:=⟨[(0,.d X),(1,.d Y),(5,au i)],[],0⟩
theorem Bn {F:zu} {X Y:DV} (hX:dU mc F X) (hY:dU mc F Y):Pure aK 38 [.d X,.d Y] (.d (.bool true)):=by
 have hb:=hX.1;have pN:=hX.len;have hyl:=hY.len;refine ay func38 aaO ntmps38 results38 rfl ?_;unfold ah4;refine J λK hK=>?_;simp only[go_sem];apply hK;refine aa λK1 aT=>?_;refine J λK hK=>?_;simp only[go_sem,pN,hyl,decide_true,alT];apply hK;refine aH ?_;apply ar;apply aT;refine aa λKE fV=>?_;refine J λK hK=>?_;simp only[go_sem];apply hK;apply ax;refine aw (S':=sfS X Y 0) (aB.cj [] ⟨by simp[aV,ah,AV.aA,aj,af,sfS],by simp[aL,aF,ai,ak,aj,AV.aA,af,ae,-alh,sfS],rfl,rfl⟩) ?_;refine ef (ι:={i:Nat//i<=F.length}) (λi=>sfS X Y i.1) (λi=>F.length-i.1) ⟨0,alZ _⟩ ?_;rintro⟨i,hi⟩;dsimp only;unfold Wh
 refine aa λK1 aT=>?_;by_cases bn:i<F.length
 ·have aQ:(i:Int)<F.length:=by omega
  have hw:=cY (i:=i) (by omega);obtain⟨cs,rest,gL,bT,cq⟩:=hX.at (w:=20) (λf=>by simp[mc,cc,f.2]) (by decide) i bn;obtain⟨Cy,s4,IE,j1,zm⟩:=hY.at (w:=20) (λf=>by simp[mc,cc,f.2]) (by decide) i bn;have Mg:=Gp (f:=F[i]) (rest:=rest);have Br:=Gp (f:=F[i]) (rest:=s4);have q:=AM F[i].2 F[i].2;generalize F[i]=f at bT j1 Mg Br q;unfold sfS;refine J λK hK=>?_;simp only[go_sem,pN,aQ,decide_true];apply hK;refine aM ?_;apply ar;apply aT;refine aa λK1 aT=>?_;apply ax;refine aa λK hK=>az rfl rfl ?_;simp only[go_sem,gL,IE,alm,aQ,bn,alj,cq,zm,bT,j1,Mg,Br,q,decide_true];refine⟨rfl,hK _ ?_⟩;refine aH ?_;apply ar
  simp only[go_sem];apply aT;refine ag rfl ?_;simp only[go_sem,hw];refine⟨⟨i+1,bn⟩,by simp only;omega,?_⟩;exact aB.cj [] ⟨by simp[aV,ah,AV.aA,aj,af,sfS,gL,IE],by simp[aL,aF,ai,ak,aG,aj,AV.aA,af,ae,-alh,sfS,gL,IE],rfl,rfl⟩
 ·have du:i=F.length:=by omega
  subst du;have aQ:¬(F.length:Int)<F.length:=by omega
  unfold sfS;refine J λK hK=>?_;simp only[go_sem,pN,aQ,decide_false];apply hK;refine aH ?_;apply aW;show KE _;refine fV _ (J λK hK=>?_);simp only[go_sem];apply hK;apply an;exact⟨.d (.bool true),by simp[bj,aP,bt,ah,ai,ak,aG],[],[],rfl,rfl,by simp[aL,aF,ai,ak,aG,aj,AV.aA,af,ae,-alh],by simp[AV.aA,aj,af]⟩
def QG (A B:List DV) (i:Nat):St:=⟨[(2,.bw A),(3,.bw B),(5,au i)],[],0⟩
def QH (A B:List DV) (i:Nat):St:=⟨[(2,.bw A),(3,.bw B),(6,au i)],[],0⟩
def QI (A B:List DV) (i j:Nat):St:=⟨[(2,.bw A),(3,.bw B),(6,au i),(7,au j)],[],0⟩
theorem akL (x:Ins):cw [0,0,0,0,0,0,0,0,0] (x.cells.map .d) (x.cells.map .d)=some true:=by
 simp[Ins.cells,cw,qG]
theorem Gq {x:Ins} {rest:List DV}:aN (some 9) ((x.cells++rest).map AV.d)=some (.agg (x.cells.map .d)):=by
 rw[ep,if_pos (by simp[Ins.cells])];rfl
section
variable{aC:List UInt8} {init:List Int} {Ep:List (List Ins)} {L I T L' I' T':DV} (hL:mP L aC) (hI:de init I) (hT:cQ Ins.cells Ep T) (hL':mP L' aC) (hI':de init I') (S0:cQ Ins.cells Ep T')
include hI hI'
theorem Md {Q:Exit->St->Prop} (hQ:Q (.exit 0) (QG [L,I,T] [L',I',T'] init.length)):
 fP aK (aE []) 98 (.loop Nl) (QG [L,I,T] [L',I',T'] 0) Q:=by
 have hb:=(ig hI).2;have pN:=(ig hI).1;refine bS (λi=>QG [L,I,T] [L',I',T'] i) init.length ?_;intro i hi;unfold Nl;refine aa λK1 aT=>?_;by_cases bn:i<init.length
 ·have aQ:(i:Int)<init.length:=by omega
  have hw:=cY (i:=i) (by omega);obtain⟨cs,rest,gL,bT,cq⟩:=ints_at hI i bn;obtain⟨Cy,s4,IE,j1,zm⟩:=ints_at hI' i bn;unfold QG;refine J λK hK=>?_;simp only[go_sem,pN,aQ,decide_true];apply hK;refine aM ?_;apply ar;apply aT;refine aa λK1 aT=>?_;apply ax;refine aa λK hK=>az rfl rfl ?_;simp only[go_sem,gL,IE,alm,aQ,bn,alj,cq,zm,bT,j1,alV,decide_true,alT];refine⟨rfl,hK _ ?_⟩;refine aH ?_;apply ar;simp only[go_sem];apply aT;refine ag rfl ?_;simp only[go_sem,hw];exact⟨bn,(aB.cj [] ⟨by simp[aV,ah,AV.aA,aj,af,QG,gL,IE],by simp[aL,aF,ai,ak,aj,AV.aA,af,ae,-alh,QG,gL,IE],rfl,rfl⟩)⟩
 ·have du:i=init.length:=by omega
  subst du;have aQ:¬(init.length:Int)<init.length:=by omega
  unfold QG;refine J λK hK=>?_;simp only[go_sem,pN,aQ,decide_false];apply hK;refine aH ?_;refine aw (S':=QG [L,I,T] [L',I',T'] init.length) (aB.cj [] ⟨by simp[aV,ah,AV.aA,aj,af,QG],by simp[aL,aF,ai,ak,aj,AV.aA,af,ae,-alh,QG],rfl,rfl⟩) ?_;exact aW hQ
end
theorem Ts {l:List Ins} {d d2:DV} (hD:dU Ins.cells l d) (hD2:dU Ins.cells l d2) {n:Nat} {cs rest Cy s4:List DV} {L I L' I':DV} {i:Nat} (hi:i<n) (cq:i<cs.length) (zm:i<Cy.length) (bT:cs.drop i=d::rest) (j1:Cy.drop i=d2::s4) {Q:Exit->St->Prop}
 (hQ:Q (.exit 4) (QI [L,I,.sl n cs] [L',I',.sl n Cy] i l.length)):
 fP aK (aE []) 98 (.loop Nn) (QI [L,I,.sl n cs] [L',I',.sl n Cy] i 0) Q:=by
 have hb:=hD.1;have pN:=hD.len;have gK:(i:Int)<n:=by omega
 refine bS (λj=>QI [L,I,.sl n cs] [L',I',.sl n Cy] i j) l.length ?_;intro j hj;unfold Nn;refine aa λK1 aT=>?_;by_cases bn:j<l.length
 ·have aQ:(j:Int)<l.length:=by omega
  have hw:=cY (i:=j) (by omega);obtain⟨xs,xr,gL,xd,xc⟩:=hD.at (w:=9) kM (by decide) j bn;obtain⟨ys,yr,IE,yd,yc⟩:=hD2.at (w:=9) kM (by decide) j bn;have Mg:=Gq (x:=l[j]) (rest:=xr);have Br:=Gq (x:=l[j]) (rest:=yr);have q:=akL l[j];generalize l[j]=x at xd yd Mg Br q;unfold QI;refine J λK hK=>?_;simp only[go_sem,alm,gK,hi,alj,cq,bT,alV,pN,aQ,decide_true];apply hK;refine aM ?_;apply ar;apply aT;refine aa λK1 aT=>?_;apply ax;refine aa λK hK=>az rfl rfl ?_;simp only[go_sem,alm,gK,hi,alj,cq,bT,zm,j1,alV,gL,IE,aQ,bn,xc,xd,yc,yd,Mg,Br,q,decide_true];refine⟨rfl,hK _ ?_⟩;refine aH ?_;apply ar
  simp only[go_sem];apply aT;refine ag rfl ?_;simp only[go_sem,hw];exact⟨bn,(aB.cj [] ⟨by simp[aV,ah,AV.aA,aj,af,QI],by simp[aL,aF,ai,ak,aj,AV.aA,af,ae,-alh,QI],rfl,rfl⟩)⟩
 ·have du:j=l.length:=by omega
  subst du;have aQ:¬(l.length:Int)<l.length:=by omega
  unfold QI;refine J λK hK=>?_;simp only[go_sem,alm,gK,hi,alj,cq,bT,alV,pN,aQ,decide_false];apply hK;refine aH ?_;refine aw (S':=QI [L,I,.sl n cs] [L',I',.sl n Cy] i l.length) (aB.cj [] ⟨by simp[aV,ah,AV.aA,aj,af,QI],by simp[aL,aF,ai,ak,aj,AV.aA,af,ae,-alh,QI],rfl,rfl⟩) ?_;exact aW hQ
theorem Fa {Ep:List (List Ins)} {L I T L' I' T':DV} (hT:cQ Ins.cells Ep T) (S0:cQ Ins.cells Ep T') {Q:Exit->St->Prop} (hQ:Q (.exit 2) (QH [L,I,T] [L',I',T'] Ep.length)):
 fP aK (aE []) 98 (.loop Np) (QH [L,I,T] [L',I',T'] 0) Q:=by
 have hb:=hT.j6;have pN:=hT.len;refine bS (λi=>QH [L,I,T] [L',I',T'] i) Ep.length ?_;intro i hi;unfold Np;refine aa λK1 aT=>?_;by_cases bn:i<Ep.length
 ·have aQ:(i:Int)<Ep.length:=by omega
  have hw:=cY (i:=i) (by omega);obtain⟨cs,d,rest,gL,bT,cq,hD⟩:=hT.at i bn;obtain⟨Cy,d2,s4,IE,j1,zm,hD2⟩:=S0.at i bn;have uK:=hD.len;have aiW:=hD2.len;generalize Ep[i]=l at hD hD2 uK aiW;unfold QH;refine J λK hK=>?_;simp only[go_sem,pN,aQ,decide_true];apply hK;refine aM ?_;apply ar;apply aT;refine aa λK1 aT=>?_;apply ax;refine aa λK2 eX=>?_;refine aa λK hK=>az rfl rfl ?_;simp only[go_sem,gL,IE,alm,aQ,bn,alj,cq,zm,bT,j1,alV,uK,aiW,decide_true,alT];refine⟨rfl,hK _ ?_⟩;refine aH ?_;apply ar;apply eX;refine aa λK2 eX=>?_;refine ag rfl ?_;simp only[go_sem];apply eX;apply ax
  refine aw (S':=QI [L,I,.sl Ep.length cs] [L',I',.sl Ep.length Cy] i 0) (aB.cj [] ⟨by simp[aV,ah,AV.aA,aj,af,QI,gL,IE],by simp[aL,aF,ai,ak,aj,AV.aA,af,ae,-alh,QI,gL,IE],rfl,rfl⟩) ?_;refine Ts hD hD2 bn cq zm bT j1 ?_;show K1 _;apply aT;unfold QI;refine ag rfl ?_;simp only[go_sem,hw];exact⟨bn,(aB.cj [] ⟨by simp[aV,ah,AV.aA,aj,af,QH,gL,IE],by simp[aL,aF,ai,ak,aj,AV.aA,af,ae,-alh,QH,gL,IE],rfl,rfl⟩)⟩
 ·have du:i=Ep.length:=by omega
  subst du;have aQ:¬(Ep.length:Int)<Ep.length:=by omega
  unfold QH;refine J λK hK=>?_;simp only[go_sem,pN,aQ,decide_false];apply hK;refine aH ?_;refine aw (S':=QH [L,I,T] [L',I',T'] Ep.length) (aB.cj [] ⟨by simp[aV,ah,AV.aA,aj,af,QH],by simp[aL,aF,ai,ak,aj,AV.aA,af,ae,-alh,QH],rfl,rfl⟩) ?_;exact aW hQ
theorem IF (aC:List UInt8):gX ((aC.map λb=>DV.int .u8 b.toNat).map AV.d)=some aC:=by
 induction aC with
 |nil=>rfl
 |cons a l ih=>
  simp only[alz,gX,ih,alX];simp
theorem O2 {aC:List UInt8} {init:List Int} {Ep:List (List Ins)} {L I T L' I' T':DV} (hL:mP L aC) (hI:de init I) (hT:cQ Ins.cells Ep T) (hL':mP L' aC) (hI':de init I') (S0:cQ Ins.cells Ep T'):
 Pure aK 18 [.agg [.d L,.d I,.d T],.agg [.d L',.d I',.d T']] (.d (.bool true)):=by
 have po:=(ig hI).1;have ab6:=(ig hI').1;have Pq:=hT.len;have ab7:=S0.len;have hcb:=IF aC;have Mo:(aC.map λb=>DV.int .u8 b.toNat).length=aC.length:=alk ..;refine ay func18 aaJ ntmps18 results18 rfl ?_;unfold ah0;refine J λK hK=>?_;simp only[go_sem];apply hK;refine aw (aB.jl (S':=⟨[(2,.bw [L,I,T]),(3,.bw [L',I',T'])],[],0⟩) [] [(0,[L,I,T]),(1,[L',I',T'])] ⟨by simp[fb,ah,AV.cv,db,bI,af],by simp[fx,aF,bI,ai,ak,aG,db,AV.cv,af,cD,bh,-alh],rfl,rfl,by simp[bG,bI,ai,ak,aG,db,AV.cv,cD,bh,-alh]⟩) ?_;refine aa λK1 aT=>?_
 have fin:∀S,aB (aE []) 98 S ⟨[(2,.bw [L,I,T]),(3,.bw [L',I',T']),(32,.d (.bool false))],[],0⟩->fP aK (aE []) 98 (.cond (.t 32) (.seq (.region false [oM 4 (.mv (.c (.d (.bool false))))] []) .ret) .skip) S (Exit.jQ K1 (nC aK #[.tmp 4] (aE []) λr m'=>r=.d (.bool true)/\m'=[])):=by
  intro S hS;refine aw hS ?_;refine aH ?_;apply ar;apply aT;refine aa λKE fV=>?_;refine J λK hK=>?_;simp only[go_sem];apply hK;apply ax;refine aw (S':=QG [L,I,T] [L',I',T'] 0) (aB.cj [] ⟨by simp[aV,ah,AV.aA,aj,af,QG],by simp[aL,aF,ai,ak,aj,AV.aA,af,ae,-alh,QG],rfl,rfl⟩) ?_;refine Md hI hI' ?_;show KE _;apply fV;unfold QG;refine aa λKE fV=>?_;refine J λK hK=>?_;simp only[go_sem];apply hK;apply ax;refine aw (S':=QH [L,I,T] [L',I',T'] 0) (aB.cj [] ⟨by simp[aV,ah,AV.aA,aj,af,QH],by simp[aL,aF,ai,ak,aj,AV.aA,af,ae,-alh,QH],rfl,rfl⟩) ?_;refine Fa hT S0 ?_;show KE _;apply fV;unfold QH
  refine J λK hK=>?_;simp only[go_sem];apply hK;apply an;exact⟨.d (.bool true),by simp[bj,aP,bt,ah,ai,ak,aG],[],[],rfl,rfl,by simp[aL,aF,ai,ak,aG,aj,AV.aA,af,ae,-alh],by simp[AV.aA,aj,af]⟩
 rcases hL with⟨rfl,h0⟩|rfl<;>rcases hL' with⟨rfl,h1⟩|rfl
 ·refine J λK hK=>?_;simp only[go_sem,gX,po,ab6,Pq,ab7,decide_true,alT];apply hK;refine fin _ (aB.cj [] ⟨by simp[aV,ah,AV.aA,aj,af],by simp[aL],rfl,rfl⟩)
 ·subst h0;refine J λK hK=>?_;simp only[go_sem,aX,gX,alB,alL,po,ab6,Pq,ab7,decide_true,alT];apply hK;refine fin _ (aB.cj [] ⟨by simp[aV,ah,AV.aA,aj,af,aX],by simp[aL],rfl,rfl⟩)
 ·subst h1;refine J λK hK=>?_;simp only[go_sem,aX,gX,alB,alL,po,ab6,Pq,ab7,decide_true,alT];apply hK;refine fin _ (aB.cj [] ⟨by simp[aV,ah,AV.aA,aj,af,aX],by simp[aL],rfl,rfl⟩)
 ·refine J λK hK=>?_;simp only[go_sem,aX,Mo,hcb,alV,po,ab6,Pq,ab7,decide_true,alT];apply hK;refine fin _ (aB.cj [] ⟨by simp[aV,ah,AV.aA,aj,af,aX],by simp[aL],rfl,rfl⟩)
def seS (A B:List DV) (i:Nat):St:=⟨[(2,.bw A),(3,.bw B),(5,au i)],[],0⟩
theorem Me {c a v r n b:Int} {dn:Bool} {aC:List UInt8} {init:List Int} {Ep:List (List Ins)} {L I T L' I' T':DV} (hL:mP L aC) (hI:de init I) (hT:cQ Ins.cells Ep T) (hL':mP L' aC) (hI':de init I') (S0:cQ Ins.cells Ep T')
 {F:zu} {X Y:DV} (hX:dU mc F X) (hY:dU mc F Y) {w:List Int} {W W':DV} (hW:de w W) (hW':de w W'):
 Pure aK 14 [.agg [au c,au a,.d (.bool dn),.d L,.d I,.d T,.d X,au v,au r,.d W,au n,au b],
  .agg [au c,au a,.d (.bool dn),.d L',.d I',.d T',.d Y,au v,au r,.d W',au n,au b]] (.d (.bool true)):=by
 have kf:=Bn hX hY;have k6:=O2 hL hI hT hL' hI' S0;have hwl:=(ig hW).1;have aiX:=(ig hW').1;have hwb:=(ig hW).2;refine ay func14 aaI ntmps14 results14 rfl ?_;unfold ahZ;refine J λK hK=>?_;simp only[go_sem];apply hK
 refine aw (aB.jl (S':=⟨[(2,.bw [.int .i64 c,.int .i64 a,.bool dn,L,I,T,X,.int .i64 v,.int .i64 r,W,.int .i64 n,.int .i64 b]),(3,.bw [.int .i64 c,.int .i64 a,.bool dn,L',I',T',Y,.int .i64 v,.int .i64 r,W',.int .i64 n,.int .i64 b])],[],0⟩) [] [(0,[.int .i64 c,.int .i64 a,.bool dn,L,I,T,X,.int .i64 v,.int .i64 r,W,.int .i64 n,.int .i64 b]),(1,[.int .i64 c,.int .i64 a,.bool dn,L',I',T',Y,.int .i64 v,.int .i64 r,W',.int .i64 n,.int .i64 b])] ⟨by simp[fb,ah,AV.cv,db,bI,af],by simp[fx,aF,bI,ai,ak,aG,db,AV.cv,af,cD,bh,-alh],rfl,rfl,by simp[bG,bI,ai,ak,aG,db,AV.cv,cD,bh,-alh]⟩) ?_;refine aa λK1 aT=>?_
 refine J λK hK=>?_;simp only[go_sem,aN,decide_true,alT,beq_self_eq_true,alF,bne_self_eq_false];refine a8 (kf) ?_;simp only[go_sem,aN,hwl,aiX,decide_true,alT];refine a8 (k6) ?_;simp only[go_sem,aN,hwl,aiX,decide_true,alT];apply hK;refine aH ?_;apply ar;apply aT;refine aa λKE fV=>?_;refine J λK hK=>?_;simp only[go_sem];apply hK;apply ax;generalize hA: [DV.int .i64 c,.int .i64 a,.bool dn,L,I,T,X,.int .i64 v,.int .i64 r,W,.int .i64 n,.int .i64 b]=A;generalize hB: [DV.int .i64 c,.int .i64 a,.bool dn,L',I',T',Y,.int .i64 v,.int .i64 r,W',.int .i64 n,.int .i64 b]=B
 refine aw (S':=seS A B 0) (aB.cj [] ⟨by simp[aV,ah,AV.aA,aj,af,seS],by simp[aL,aF,ai,ak,aj,AV.aA,af,ae,-alh,seS],rfl,rfl⟩) ?_;refine ef (ι:={i:Nat//i<=w.length}) (λi=>seS A B i.1) (λi=>w.length-i.1) ⟨0,alZ _⟩ ?_;rintro⟨i,hi⟩;dsimp only;unfold Wg;refine aa λK1 aT=>?_;by_cases bn:i<w.length
 ·have aQ:(i:Int)<w.length:=by omega
  have hw:=cY (i:=i) (by omega);obtain⟨cs,rest,gL,bT,cq⟩:=ints_at hW i bn;obtain⟨Cy,s4,IE,j1,zm⟩:=ints_at hW' i bn;subst hA hB;unfold seS;refine J λK hK=>?_;simp only[go_sem,aN,hwl,aQ,decide_true];apply hK;refine aM ?_;apply ar;apply aT;refine aa λK1 aT=>?_;apply ax;refine aa λK hK=>az rfl rfl ?_;simp only[go_sem,aN,gL,IE,alm,aQ,bn,alj,cq,zm,bT,j1,alV,decide_true,alT];refine⟨rfl,hK _ ?_⟩;refine aH ?_;apply ar;simp only[go_sem];apply aT;refine ag rfl ?_;simp only[go_sem,hw];refine⟨⟨i+1,bn⟩,by simp only;omega,?_⟩
  exact aB.cj [] ⟨by simp[aV,ah,AV.aA,aj,af,seS,gL,IE],by simp[aL,aF,ai,ak,aG,aj,AV.aA,af,ae,-alh,seS,gL,IE],rfl,rfl⟩
 ·have du:i=w.length:=by omega
  subst du;have aQ:¬(w.length:Int)<w.length:=by omega
  subst hA hB;unfold seS;refine J λK hK=>?_;simp only[go_sem,aN,hwl,aQ,decide_false];apply hK;refine aH ?_;apply aW;show KE _;refine fV _ (J λK hK=>?_);simp only[go_sem];apply hK;apply an;exact⟨.d (.bool true),by simp[bj,aP,bt,ah,ai,ak,aG],[],[],rfl,rfl,by simp[aL,aF,ai,ak,aG,aj,AV.aA,af,ae,-alh],by simp[AV.aA,aj,af]⟩
theorem A4 (ls:List Int) (most:Nat):dB (small ls most)=0:=by
 have hg:=DS ls most;have hn:(small ls most).threads.length=iD ls:=Gk ls most;have h3:=Gl ls;have h2:2<=iD ls:=by unfold iD;omega
 rw[hg.check (by omega),if_neg (by omega),if_neg];have:(small ls most).rows=ic (ve ls most):=rfl;rw[this,hn];generalize iD ls=n at h2;generalize ve ls most=x;unfold ic;split;·simp[DR];omega
 ·simp
theorem zM (x:Int) (m:Nat) (hm:m<9223372036854775808):∃q:Nat,bits .and .i64 x m=(q:Int)/\q<=m:=by
 obtain⟨h1,h2⟩:=VL x m hm;exact⟨(bits .and .i64 x m).toNat,by omega,by omega⟩
structure QJ (r:Rep):Prop where
 akM:∀f∈r.DG,f.length=20
 len:r.DG.length<=2000001
 wit:∀w,r.witness=some w->w.length<=2000000
theorem QK:QJ sd:=⟨(λf hf=>by cases hf),(by decide),(λw h=>by cases h)⟩
theorem O3 {p:Prog} {m:Int} {f:Found} {b:Int} {w:List Int} (h:(lh p m (some f) b).2=some w):w∈f.runs:=by
 unfold lh at h;cases hg:explore p 1 b with
 |none=>rw[hg]at h;cases h
 |some g=>
  rw[hg]at h;simp only at h;cases hf:f.runs.find? (j3 p m (ik (dT p 1 g.runs)))with
  |none=>rw[hf]at h;cases h
  |some row=>
   rw[hf]at h;cases h;exact List.mem_of_find?_eq_some hf
theorem O4 (p:Prog) (kind:Int) (rows:List (List Atom)) (m b:Int):QJ (eL p kind rows m b):=by
 unfold eL;cases he:explore p m b with
 |none=>exact QK
 |some f=>
  obtain⟨h1,h2⟩:=mQ he;simp only;split;·exact QK
  ·refine⟨DF (qw p m f.runs),?_,λw hw=>?_⟩
   ·have:=zw (dT p m f.runs);rw[oh]at this;simp only;omega
   ·exact h2 _ (O3 hw)
theorem QL {w:Option (List Int)} (h:∀r,w=some r->r.length<=2000000):de (w.getD []) (oQ w):=by
 cases w with
 |none=>exact⟨by simp,.inl ⟨rfl,rfl⟩⟩
 |some r=>
  have:=h r rfl;show de r (if r=[]then .ct else EP r);by_cases hr:r=[]
  ·subst hr;rw[if_pos rfl];exact⟨by simp,.inl ⟨rfl,rfl⟩⟩
  ·rw[if_neg hr];exact BP (by omega)
theorem Zv {r:Rep} (h:QJ r):∃d:zu,dU mc d (nO r)/\d.map al4=if r.done then r.DG else []:=by
 unfold nO;cases hd:r.done;·exact⟨[],⟨by simp,.inl ⟨rfl,rfl⟩⟩,rfl⟩
 ·have:=h.len;obtain⟨d,h1,h2⟩:=BO h.akM (by omega);exact⟨d,h2,h1⟩
theorem Zw {p:Prog} (hP:En p) {r:Rep} (hr:QJ r):Pure aK 14 [.agg ((o3 p r).map .d),.agg ((o3 p r).map .d)] (.d (.bool true)):=by
 obtain⟨hI,hT⟩:=Ga hP;obtain⟨d,hd,_⟩:=Zv hr;exact Me (.inr rfl) hI hT (.inr rfl) hI hT hd hd (QL hr.wit) (QL hr.wit)
theorem Tt (ls:List Int) (most:Nat) {m:Int} (h1:1<=m) (h3:m<=3) (b:Int):
 E2 (small ls most) m b=o3 (gG (small ls most)) (eL (gG (small ls most)) (small ls most).kind (small ls most).rows m b):=by
 unfold E2;rw[if_neg (by rw[A4];decide),if_neg (by omega)]
def QM:aJ:=Ij 7 ac4
def cbS (tc:List DV) (m lo hi:Int):St:=⟨[(1,au m),(2,au lo),(3,au hi),(9,.bw tc)],[],0⟩
set_option maxHeartbeats 8000000 in
theorem yf {ls:List Int} {X:DV} (hX:de ls X) {m0 a0 b0:Int} (_:pj m0) (_:pj a0) (_:pj b0):Pure aK 4 [.d X,au m0,au a0,au b0] (.d (.bool true)):=by
 have haw:=ID;have hc0:=A4 ls 5;have hP:=LC hc0;obtain⟨q,hq,NP⟩:=zM m0 255 (by omega);obtain⟨qa,hqa,alf⟩:=zM a0 65535 (by omega);obtain⟨qb,hqb,alg⟩:=zM b0 65535 (by omega);have Bg:bits .and .i64 m0 255=(q:Int):=hq;have akN:bits .and .i64 a0 65535=(qa:Int):=hqa;have akO:bits .and .i64 b0 65535=(qb:Int):=hqb;have hmw:alv.wrap (((q%3:Nat):Int)+1)=((q%3+1:Nat):Int):=by rw[wrap_i64 (by omega) (by omega)];rfl
 have jX:(1:Int)<=((q%3+1:Nat):Int):=by omega
 have Ai:((q%3+1:Nat):Int)<=3:=by omega
 have htm:((q:Int).tmod 3)=((q%3:Nat):Int):=rfl;have I6:=λb=>Tt ls 5 jX Ai b;generalize hM:((q%3+1:Nat):Int)=M at hmw jX Ai I6;refine ay func4 afg ntmps4 results4 rfl ?_;unfold ac4;refine J λK hK=>?_;simp-implicitDefEqProofs only[go_sem];refine hK _ (J λK hK=>?_);simp-implicitDefEqProofs only[go_sem];refine Jt (JW hX (most:=5) (by omega)) rfl (λv ⟨cs,h,_⟩=>by subst h;exact sM cs) ?_;rintro v ⟨cs,rfl,hT⟩;have kt:=λb=>A3 hT (by show [116].length<=_;decide) (by have:=Gk ls 5;have:=Gl ls;omega) M b;simp only[I6]at kt;obtain⟨I,T,A,rfl,hI,CE,hA⟩:=hT
 have R7:=λ{a b:Int} (h:a<=b) (hd:(eL (gG (small ls 5)) (small ls 5).kind (small ls 5).rows M a).done=true)=>DH h hd;have w4:eL (gG (small ls 5)) (small ls 5).kind (small ls 5).rows M (-1)=eL (gG (small ls 5)) (small ls 5).kind (small ls 5).rows M 0:=Lm _ _ _ _;have aai:=λ{b:Int} (hd:(eL (gG (small ls 5)) (small ls 5).kind (small ls 5).rows M b).done=false)=>Ln hd;have akP:=λb=>O4 (gG (small ls 5)) (small ls 5).kind (small ls 5).rows M b;generalize hR:eL (gG (small ls 5)) (small ls 5).kind (small ls 5).rows M=R at*;have nK:=λb=>Zw hP (akP b);have htx:=O0 (gG (small ls 5))
 generalize gG (small ls 5)=p at*;generalize (small ls 5).name=nm at*;generalize (small ls 5).kind=kd at*;clear I6;simp-implicitDefEqProofs only[go_sem];refine hK _ (J λK hK=>?_);simp-implicitDefEqProofs only[go_sem,Bg,htm,hmw];refine hK _ (J λK hK=>?_);simp-implicitDefEqProofs only[go_sem,akN,akO];apply hK;refine aw (aB.jl (S':=⟨[(1,au M),(2,au qa),(3,au qb),(9,.bw [.str nm,I,T,.int .i64 kd,A])],[],0⟩) [] [(0,[.str nm,I,T,.int .i64 kd,A])] ⟨by simp[fb,ah,AV.cv,db,bI,af],by simp[fx,aF,bI,ai,ak,aG,db,AV.cv,af,cD,bh,-alh],rfl,rfl,by simp[bG,bI,ai,ak,aG,db,AV.cv,cD,bh,-alh]⟩) ?_
 refine aa λK1 aT=>?_;have main:∀(lo hi:Int),lo<=hi->∀S,aB (aE []) 87 S (cbS [.str nm,I,T,.int .i64 kd,A] M lo hi)->K1 S:=by
  intro lo hi hlh S hS;apply aT;refine aw hS ?_;have ka:=kt lo;have kb:=kt hi;have ksm:=nK lo;have hbd:=R7 hlh;have hrn:=aai (b:=lo);have kz:=kt (-1);have k0:=kt 0;have ksz:=nK 0;have hzn:=aai (b:=0);rw[w4]at kz;generalize R lo=rl at ka ksm hbd hrn;generalize R hi=rh at kb hbd;generalize R 0=rz at kz k0 ksz hzn;simp only[o3,alz,alL]at ka kb ksm kz k0 ksz htx;have tail:∀(S:St) (K2:St->Prop),(∀S',fP aK (aE []) 87 QM S' (nC aK #[.tmp 8] (aE []) λr m'=>r=.d (.bool true)/\m'=[])->K2 S')->
   aB (aE []) 87 S ⟨[(1,au M),(9,.bw [.str nm,I,T,.int .i64 kd,A])],[],0⟩->K2 S:=by
   intro S K2 eX hS;apply eX;refine aw hS ?_;unfold QM ac4;simp only[Ij];cases hd:rz.done
   ·have hz0:=hzn hd;subst hz0;simp only[sd,nO,oQ]at kz k0 htx;refine J λK hK=>?_;simp-implicitDefEqProofs only[go_sem,aN];refine a8 (kz) ?_;simp-implicitDefEqProofs only[go_sem];apply hK;refine aa λK hK=>az rfl rfl ?_;simp-implicitDefEqProofs only[go_sem,aN,decide_true,jV];refine dw (htx) ?_;simp-implicitDefEqProofs only[go_sem,decide_true,Tq];refine dw (haw) ?_;simp-implicitDefEqProofs only[go_sem];refine⟨rfl,hK _ ?_⟩;apply an;exact⟨.d (.bool true),by simp[bj,aP,bt,ah,ai,ak,aG],[],[],rfl,rfl,by simp[aL,aF,ai,ak,aG,aj,AV.aA,af,ae,-alh],by simp[AV.aA,aj,af]⟩
   ·rw[hd]at kz k0 ksz;refine J λK hK=>?_;simp-implicitDefEqProofs only[go_sem,aN];refine a8 (kz) ?_;simp-implicitDefEqProofs only[go_sem];apply hK;refine aa λK hK=>az rfl rfl ?_;simp-implicitDefEqProofs only[go_sem,aN,decide_true,alT];refine dw (k0) ?_;simp-implicitDefEqProofs only[go_sem,aN];refine dw (ksz) ?_;simp-implicitDefEqProofs only[go_sem,aN];refine dw (haw) ?_;simp-implicitDefEqProofs only[go_sem];refine⟨rfl,hK _ ?_⟩;apply an;exact⟨.d (.bool true),by simp[bj,aP,bt,ah,ai,ak,aG],[],[],rfl,rfl,by simp[aL,aF,ai,ak,aG,aj,AV.aA,af,ae,-alh],by simp[AV.aA,aj,af]⟩
  unfold cbS;cases hd:rl.done
  ·have h0:=hrn hd;subst h0;simp only[sd,nO,oQ]at ka ksm;refine aa λK hK=>az rfl rfl ?_;simp-implicitDefEqProofs only[go_sem,aN];refine dw (ka) ?_;simp-implicitDefEqProofs only[go_sem,aN];refine dw (kb) ?_;simp-implicitDefEqProofs only[go_sem];refine⟨rfl,hK _ ?_⟩;refine aa λK2 eX=>?_;refine J λK hK=>?_;simp-implicitDefEqProofs only[go_sem,aN,decide_true,alF,bne_self_eq_false];apply hK;refine aH ?_;apply ar;refine tail _ K2 eX ?_;exact aB.cj [] ⟨by simp[aV,ah,AV.aA,aj,af],by simp[aL,aF,ai,ak,aG,aj,AV.aA,af,ae,-alh],rfl,rfl⟩
  ·have h0:=hbd hd;subst h0;rw[hd]at ka kb ksm;refine aa λK hK=>az rfl rfl ?_;simp-implicitDefEqProofs only[go_sem,aN];refine dw (ka) ?_;simp-implicitDefEqProofs only[go_sem,aN];refine dw (kb) ?_;simp-implicitDefEqProofs only[go_sem];refine⟨rfl,hK _ ?_⟩;refine aa λK2 eX=>?_;refine J λK hK=>?_;simp-implicitDefEqProofs only[go_sem,aN,decide_true,alF,bne_self_eq_false];refine a8 (ksm) ?_;simp-implicitDefEqProofs only[go_sem];apply hK;refine aH ?_;apply ar;refine tail _ K2 eX ?_;exact aB.cj [] ⟨by simp[aV,ah,AV.aA,aj,af],by simp[aL,aF,ai,ak,aG,aj,AV.aA,af,ae,-alh],rfl,rfl⟩
 by_cases hgt:(qb:Int)<qa
 ·refine J λK hK=>?_;simp-implicitDefEqProofs only[go_sem,eq_true hgt,decide_true];apply hK;refine aM ?_;refine ag rfl ?_;simp-implicitDefEqProofs only[go_sem];refine main qb qa (by omega) _ ?_;exact aB.cj [] ⟨by simp[aV,ah,AV.aA,aj,af,cbS],by simp[aL,aF,ai,ak,aG,aj,AV.aA,af,ae,-alh,cbS],rfl,rfl⟩
 ·refine J λK hK=>?_;simp-implicitDefEqProofs only[go_sem,eq_false hgt,decide_false];apply hK;refine aH ?_;apply ar;refine main qa qb (by omega) _ ?_;exact aB.cj [] ⟨by simp[aV,ah,AV.aA,aj,af,cbS],by simp[aL,aF,ai,ak,aG,aj,AV.aA,af,ae,-alh,cbS],rfl,rfl⟩
end
end Go.Proofs.YtadocofdkdiboaaGreatDoor
