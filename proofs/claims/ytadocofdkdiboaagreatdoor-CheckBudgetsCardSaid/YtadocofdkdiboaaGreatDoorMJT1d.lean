/- What the statement's proof leans on, part 4: the layer, the walks, the plain laws. Names and blanks are short to keep the claim within its limit of bytes. -/
import Derived.Test.YtadocofdkdiboaaGreatDoorMJT1c
import Derived.SizedLaws
import Derived.Test.YtadocofdkdiboaaGreatDoorMJT1b
import Derived.Lib.Strings
import Derived.Lib.Walk
import Derived.Lib.BytesEntry
set_option linter.unusedSimpArgs false
set_option linter.unusedVariables false
set_option maxRecDepth 100000
open List renaming map_map → alh, length_map → alk, length_append → aln, drop_zero → als, length_cons → alu, getElem?_eq_getElem → alw, take_of_length_le → alx, map_cons → alz, replicate → alA, length_nil → alB, getD_eq_getElem?_getD → alC, range → alI, map_nil → alL, flatMap_cons → alO, foldr_cons → alP, foldr_nil → alQ, getElem_mem → alR, mem_cons_self → alU, mem_cons_of_mem → alY, map_append → al1, foldl_cons → al2, nil_append → al8, eq_nil_of_length_eq_zero → amb
open Nat renaming le_refl → ali, zero_add → alo, max_def → alN, mul_one → alV, zero_le → alZ
open Int renaming toNat_natCast → alj, natCast_nonneg → alm
open Go.IntKind renaming i64 → alv, u64 → al0
open Bool renaming false_eq_true → aly, and_eq_true → alE, and_self → alF, false_and → alK, and_false → alM, not_true → alT, not_false → al7
open Option renaming isSome_none → alD, isSome_some → alH, isSome_iff_exists → alS, map_some → alX, getD_some → al6
open Option.some renaming injEq → alJ
open Prod.mk renaming injEq → ama
namespace Go.Proofs.YtadocofdkdiboaaGreatDoor
open Go.Proofs.Tryz
open Go.Proofs.Tryz renaming prog → aK
section
open Go Go.Jq
theorem xg (i:Int):o2 i<18446744073709551616:=by
 unfold o2;split
 ·have h:(2:Nat)^i.toNat<=2^63:=Nat.pow_le_pow_right (by omega) (by omega);have:(2:Nat)^63<18446744073709551616:=by decide
  omega
 ·omega
theorem jA {s:Nat} (hs:s<18446744073709551616) (i:Int):fq s i<18446744073709551616:=Nat.or_lt_two_pow (n:=64) hs (xg i)
theorem y7 {a:Nat} (ha:a<18446744073709551616) (b:Nat):dO a b<18446744073709551616:=J3 (n:=64) ha
theorem J7 {s:Nat} (hs:s<18446744073709551616) (i:Int):w9 s i<18446744073709551616:=y7 hs _
theorem BB {a:Nat} (ha:a<18446744073709551616) (b:Nat):a&&&b<18446744073709551616:=Nat.lt_of_le_of_lt Nat.and_le_left ha
theorem afq {a b:Nat} (ha:a<18446744073709551616) (hb:b<18446744073709551616):a|||b<18446744073709551616:=Nat.or_lt_two_pow (n:=64) ha hb
theorem CM (i:Int):Pure aK 186 [au i] (dF (o2 i)):=by
 refine ay func186 WZ ntmps186 results186 rfl ?_;unfold adP;refine aa λK hK=>ag rfl ?_;simp only[go_sem,↓reduceIte];refine hK _ ?_;clear hK;refine aa λK hK=>?_;by_cases h0:i<0
 ·refine aa λK hK=>ag rfl ?_;simp only[go_sem,↓reduceIte,eq_true h0,decide_true];refine hK _ ?_;clear hK;refine cm true (by simp[ev,ah]) (λ_=>?_) (λh=>nomatch h);refine aa λK hK=>ag rfl ?_;simp only[go_sem,↓reduceIte];refine hK _ ?_;clear hK;refine an ?_;simp only[go_sem];refine aD _ rfl rfl ⟨?_,rfl⟩;have:¬0<=i:=by omega
  simp[ah,o2,this]
 ·by_cases h1:64<=i
  ·refine aa λK hK=>ag rfl ?_;simp only[go_sem,↓reduceIte,eq_false h0,eq_true h1,decide_true,decide_false];refine hK _ ?_;clear hK;refine cm true (by simp[ev,ah]) (λ_=>?_) (λh=>nomatch h);refine aa λK hK=>ag rfl ?_;simp only[go_sem,↓reduceIte];refine hK _ ?_;clear hK;refine an ?_;simp only[go_sem];refine aD _ rfl rfl ⟨?_,rfl⟩;have:¬i<64:=by omega
   simp[ah,o2,this]
  ·have hw:al0.wrap i=i:=wrap_u64 (by omega) (by omega);have h2:¬i<0:=h0;have O8:al0.wrap (1*2^(if i.toNat<=64 then i.toNat else 64))=((2^i.toNat:Nat):Int):=by
    have hm:(if i.toNat<=64 then i.toNat else 64)=i.toNat:=if_pos (by omega);have hp:(2:Nat)^i.toNat<=2^63:=Nat.pow_le_pow_right (by omega) (by omega);have h63:(2:Nat)^63=9223372036854775808:=by decide
    rw[hm,Int.one_mul];have:((2:Int)^i.toNat)=((2^i.toNat:Nat):Int):=by simp
    rw[this];generalize 2^i.toNat=q at hp;exact wrap_u64 (by omega) (by omega)
   refine aa λK hK=>ag rfl ?_;simp only[go_sem,↓reduceIte,eq_false h0,eq_false h1,decide_true,decide_false];refine hK _ ?_;clear hK;refine cm false (by simp[ev,ah]) (λh=>nomatch h) (λ_=>?_);refine ar ?_;refine hK _ ?_;clear hK;have hb:al0.bits=64:=rfl;refine aa λK hK=>ag rfl ?_;simp only[go_sem,↓reduceIte,hw,eq_false h2,hb,O8];refine hK _ ?_;clear hK;refine an ?_;simp only[go_sem];refine aD _ rfl rfl ⟨?_,rfl⟩;have h3:0<=i/\i<64:=by omega
   simp[ah,o2,h3,O8]
theorem iQ {s:Nat} (hs:s<18446744073709551616) (i:Int):Pure aK 133 [dF s,au i] (dF (fq s i)):=by
 have k:=CM i;refine ay func133 WB ntmps133 results133 rfl ?_;unfold adx;refine J λK hK=>?_;simp only[go_sem];refine hK _ (J λK hK=>?_);simp only[go_sem]
 repeat' (first
  |(refine cn (λhb=>?_) (λhb=>?_)<;>simp only[go_sem,hb])
  |(refine b7 (λhb=>?_) (λhb=>?_)<;>simp only[go_sem,hb])
  |(refine aI (k) rfl rfl ?_;simp only[go_sem])
  |(refine bD (k) rfl rfl ?_;simp only[go_sem])
  |(rw[if_pos (by(try simp only[aln,alu,alB,alk]);omega)];simp only[go_sem]))
 simp only[go_sem,GN hs (xg i)];apply hK;apply an;simp only[go_sem];refine aD _ rfl rfl ⟨?_,rfl⟩;simp[ah,fq]
theorem Hl {s:Nat} (hs:s<18446744073709551616) (i:Int):Pure aK 185 [dF s,au i] (dF (w9 s i)):=by
 have k:=CM i;refine ay func185 WY ntmps185 results185 rfl ?_;unfold adO;refine J λK hK=>?_;simp only[go_sem];refine hK _ (J λK hK=>?_);simp only[go_sem]
 repeat' (first
  |(refine cn (λhb=>?_) (λhb=>?_)<;>simp only[go_sem,hb])
  |(refine b7 (λhb=>?_) (λhb=>?_)<;>simp only[go_sem,hb])
  |(refine aI (k) rfl rfl ?_;simp only[go_sem])
  |(refine bD (k) rfl rfl ?_;simp only[go_sem])
  |(rw[if_pos (by(try simp only[aln,alu,alB,alk]);omega)];simp only[go_sem]))
 simp only[go_sem,ra hs (xg i)];apply hK;apply an;simp only[go_sem];refine aD _ rfl rfl ⟨?_,rfl⟩;simp[ah,w9]
theorem xh {s:Nat} (hs:s<18446744073709551616) (i:Int):Pure aK 179 [dF s,au i] (.d (.bool (rb s i))):=by
 have k:=CM i;refine ay func179 WS ntmps179 results179 rfl ?_;unfold adI;refine J λK hK=>?_;simp only[go_sem];refine hK _ (J λK hK=>?_);simp only[go_sem]
 repeat' (first
  |(refine cn (λhb=>?_) (λhb=>?_)<;>simp only[go_sem,hb])
  |(refine b7 (λhb=>?_) (λhb=>?_)<;>simp only[go_sem,hb])
  |(refine aI (k) rfl rfl ?_;simp only[go_sem])
  |(refine bD (k) rfl rfl ?_;simp only[go_sem])
  |(rw[if_pos (by(try simp only[aln,alu,alB,alk]);omega)];simp only[go_sem]))
 simp only[go_sem,pt hs (xg i)];apply hK;apply an;simp only[go_sem];refine aD _ rfl rfl ⟨?_,rfl⟩;simp[ah,rb]
theorem vn {s:Nat} (h0:s≠0) (hs:s<18446744073709551616):ea s=(Hk 64 s:Nat):=by
 unfold ea;rw[vg h0 hs]
theorem mB {s:Nat} (hs:s<18446744073709551616):Pure aK 128 [dF s] (au (ea s)):=by
 refine ay func128 Ww ntmps128 results128 rfl ?_;unfold ads;refine aa λK hK=>ag rfl ?_;simp only[go_sem,↓reduceIte];refine hK _ ?_;clear hK;refine aa λK hK=>?_;by_cases h0:s=0
 ·subst h0;refine aa λK hK=>ag rfl ?_;simp only[go_sem,↓reduceIte];refine hK _ ?_;clear hK;refine cm true (by simp[ev,ah]) (λ_=>?_) (λh=>nomatch h);refine aa λK hK=>ag rfl ?_;simp only[go_sem,↓reduceIte];refine hK _ ?_;clear hK;refine an ?_;simp only[go_sem];refine aD _ rfl rfl ⟨?_,rfl⟩;simp[ah,ea,vh]
 ·have RG:¬(s:Int)=0:=by omega
  refine aa λK hK=>ag rfl ?_;simp only[go_sem,↓reduceIte,RG,decide_false];refine hK _ ?_;clear hK;refine cm false (by simp[ev,ah]) (λh=>nomatch h) (λ_=>?_);refine ar ?_;refine hK _ ?_;clear hK;refine aa λK hK=>ag rfl ?_;simp only[go_sem,↓reduceIte];refine aI (aa1 h0 hs) rfl rfl ?_;simp only[go_sem,↓reduceIte];refine hK _ ?_;clear hK;refine an ?_;simp only[go_sem];refine aD _ rfl rfl ⟨?_,rfl⟩;simp[ah,vn h0 hs]
def TB (l:List Int):Nat:=l.foldl fq 0
theorem afr (l:List Int):TB l<18446744073709551616:=by
 unfold TB;have:∀(l:List Int) (s:Nat),s<18446744073709551616->l.foldl fq s<18446744073709551616:=by
  intro l;induction l with
  |nil=>intro s h;exact h
  |cons x l ih=>intro s h;exact ih _ (jA h x)
 exact this l 0 (by omega)
theorem ints_at {l:List Int} {X:DV} (h:de l X) (i:Nat) (hi:i<l.length):∃cs rest,X=.sl l.length cs/\cs.drop i=.int .i64 l[i]::rest/\i<cs.length:=by
 obtain⟨cs,rest,h1,h2,h3⟩:=dU.at (enc:=λd:DV=>[d]) (w:=1) (λ_=>rfl) (by omega) (h:dU _ _ _) i (by simpa using hi);simp only[List.getElem_map,List.singleton_append,alk,alV]at h1 h2 h3;exact⟨cs,rest,h1,h2,h3⟩
theorem ig {l:List Int} {X:DV} (h:de l X):jV (.d X)=some l.length/\l.length<=9223372036854775807:=by
 have h1:=dU.len h;have h2:=h.1;simp only[alk]at h1 h2;exact⟨h1,h2⟩
theorem aa4 {l:List Int} {X:DV} (hX:de l X):Pure aK 176 [.d X] (dF (TB l)):=by
 obtain⟨hlen,fk⟩:=ig hX;refine ay func176 WQ ntmps176 results176 rfl ?_;unfold adH;refine J λK hK=>?_;simp only[go_sem];refine hK _ (J λK hK=>?_);simp only[go_sem];apply hK;refine aa λKE fV=>?_;refine J λK hK=>?_;simp only[go_sem,hlen];apply hK;apply ax;refine aw (S':=⟨[(8,au (0:Nat)),(6,.d X),(7,au l.length),(3,dF (TB (l.take 0)))],[],0⟩) (aB.cj [] ⟨by simp[aV,ah,AV.aA,aj,af,TB],by simp[aL,aF,ai,ak,aj,AV.aA,af,ae,-alh,TB],rfl,rfl⟩) ?_;refine bS (λi=>⟨[(8,au (i:Nat)),(6,.d X),(7,au l.length),(3,dF (TB (l.take i)))],[],0⟩) l.length ?_;intro i hi;unfold PK;by_cases bn:i<l.length
 ·have aQ:(i:Int)<l.length:=by omega
  obtain⟨cs,rest,gL,bT,cq⟩:=ints_at hX i bn;have hw:=cY (i:=i) (by omega);have cy:TB (l.take (i+1))=fq (TB (l.take i)) l[i]:=jv _ _ _ _ bn;have pD:=afr (l.take i);generalize TB (l.take i)=s at cy pD;have k:=iQ pD l[i];refine J λK hK=>?_;simp only[go_sem,aQ];apply hK;refine aa λK1 aT=>?_;refine aM ?_;apply ar;apply aT;refine aa λK1 aT=>?_;apply ax;refine J λK hK=>?_;simp only[go_sem,gL,aQ,alm,alj,cq,bT];apply hK;refine ag rfl ?_;simp only[go_sem];refine aI k rfl rfl ?_;simp only[go_sem];apply aT;refine ag rfl ?_;simp only[go_sem,hw]
  exact⟨bn,(aB.cj [] ⟨by simp[aV,ah,AV.aA,aj,af,gL,cy],by simp[aL,aF,ai,ak,aj,AV.aA,af,ae,-alh,gL,cy],rfl,rfl⟩)⟩
 ·have du:i=l.length:=by omega
  subst du;have aQ:¬(l.length:Int)<l.length:=by omega
  refine J λK hK=>?_;simp only[go_sem,aQ];apply hK;refine aa λK1 aT=>?_;refine aH ?_;apply aW;show KE _;refine fV _ (J λK hK=>?_);simp only[go_sem,List.take_length];apply hK;apply an;simp only[go_sem];refine aD _ rfl rfl ⟨?_,rfl⟩;simp[ah]
def kF (l:List Nat):DV:=.sl l.length (l.map λ(j:Nat)=>.int .i64 j)
theorem ri:∀(f i s:Nat),(fp f i s).length<=f
 |0,_,_=>ali _
 |f+1,i,s=>by
  unfold fp;split;·simp
  ·split;·have:=ri f (i+1) (s/2);simp;omega
   ·have:=ri f (i+1) (s/2);omega
theorem tX (s:Nat):(cH s).length<=64:=ri 64 0 s
def slS (s:Nat) (acc:List DV):St:=⟨[(0,dF s),(3,.sl 0 1 0 acc.length)],[(0,acc.map .d)],1⟩
theorem J8 {s:Nat} (h0:s≠0):s&&&(s-1)<s:=Nat.lt_of_le_of_lt Nat.and_le_right (by omega)
theorem FD {s:Nat} (hs:s<18446744073709551616):Pure aK 182 [dF s] (.d (kF (cH s))):=by
 refine ay func182 WV ntmps182 results182 rfl ?_;unfold adL;refine J λK hK=>?_;simp only[go_sem];refine hK _ (J λK hK=>?_);simp only[go_sem];apply hK;refine aa λKE fV=>?_;apply ax;refine aw (aB.nil 3 1 rfl rfl) ?_;refine aw (S':=slS s (([]:List Nat).map λ(j:Nat)=>.int .i64 j)) (aB.cj [(0,0)] ⟨by simp[aV,ah,AV.aA,aj,af,slS],by simp[aL,aF,ai,ak,aj,AV.aA,af,ae,-alh,slS],rfl,rfl⟩) ?_;refine ef (ι:={p:Nat×List Nat//p.1<18446744073709551616/\p.2++cH p.1=cH s}) (λp=>slS p.1.1 (p.1.2.map λ(j:Nat)=>.int .i64 j)) (λp=>p.1.1) ⟨(s,[]),hs,rfl⟩ ?_;rintro⟨⟨x,acc⟩,hx,XJ⟩;simp only at hx XJ
 have tK:acc.length<=64:=by
  have:=tX s;rw[<-XJ,aln]at this;omega
 unfold PL slS;refine aa λK1 aT=>?_;by_cases h0:x=0
 ·subst h0;rw[vh,List.append_nil]at XJ;subst XJ;refine J λK hK=>?_;simp only[go_sem];apply hK;refine aH ?_;apply aW;show KE _;refine fV _ (J λK hK=>?_);simp only[go_sem];apply hK;refine aw (aB.jl (S':=⟨[(2,.d (kF (cH s)))],[],0⟩) [] [(0,(cH s).map λ(j:Nat)=>.int .i64 j)] ⟨by simp[fb,ah,AV.cv,db,bI,af,kF,alx],by simp[fx,aF,bI,ai,ak,aG,db,AV.cv,af,cD,bh,-alh,kF,alx],rfl,rfl,by simp[bG,bI,ai,ak,aG,db,AV.cv,cD,bh,-alh,kF,alx]⟩) ?_;apply an;simp only[go_sem];refine aD _ rfl rfl ⟨?_,rfl⟩;simp[ah]
 ·have RG:¬(x:Int)=0:=by omega
  have k:=mB hx;rw[vn h0 hx]at k;have hw:al0.wrap ((x:Int)-1)=((x-1:Nat):Int):=by rw[wrap_u64 (by omega) (by omega)];omega
  have h8:(acc.length+1)*8<=140737488351232:=by omega
  have hand:=pt hx (b:=x-1) (by omega);have v8:=vg h0 hx;generalize Hk 64 x=f at k v8;refine J λK hK=>?_;simp only[go_sem,RG,decide_false,al7];apply hK;refine aM ?_;apply ar;apply aT;refine aa λK1 aT=>?_;apply ax;refine ag rfl ?_;simp only[go_sem];refine aI k rfl rfl ?_;simp only[go_sem,h8,alk,aln];apply aT;refine ag rfl ?_;simp only[go_sem,hw,hand];refine⟨⟨(x&&&(x-1),acc++[f]),BB hx _,by rw[List.append_assoc,<-XJ,v8];rfl⟩,J8 h0,?_⟩;exact aB.cj [(2,0)] ⟨by simp[aV,ah,AV.aA,aj,af],by simp[aL,aF,ai,ak,aG,aj,AV.aA,af,ae,-alh],rfl,rfl⟩
section
variable{r:Rl}
theorem bJ (h:r.ok):(r.cells.map AV.d).length=65:=by simp[Rl.cells,h.2.1]
theorem dc (h:r.ok):r.cells.length=65:=by simp[Rl.cells,h.2.1]
theorem aa5 (h:r.ok):(r.cells.map AV.d).take 65=r.cells.map AV.d:=alx (by rw[bJ h];omega)
theorem cA (h:r.ok):aN (some 65) (r.cells.map AV.d)=some (.agg (r.cells.map AV.d)):=by simp only[aN,bJ h,aa5 h];rfl
theorem J9:aN none (r.cells.map AV.d)=some (au r.n):=rfl
theorem sV (h:r.ok) {i:Nat} (hi:i<64):aN none ((r.cells.map AV.d).drop (1+i))=some (dF (r.rows.getD i 0:Nat)):=by
 have:i<r.rows.length:=by rw[h.2.1];exact hi
 simp[aN,Rl.cells,Nat.add_comm 1 i,alC,this]
theorem Hm {i x:Nat}:(r.cells.map AV.d).set (1+i) (dF x)=(Rl.mk r.n (r.rows.set i x)).cells.map AV.d:=by
 simp[Rl.cells,Nat.add_comm 1 i,List.map_set]
theorem eU (h:r.ok) (i:Nat):r.rows.getD i 0<18446744073709551616:=by
 rw[alC];by_cases hi:i<r.rows.length;·rw[alw hi];exact h.2.2 _ (alR hi)
 ·rw[List.getElem?_eq_none (by omega)];decide
theorem qj (h:r.ok) {i x:Nat} (hx:x<18446744073709551616):(Rl.mk r.n (r.rows.set i x)).ok:=by
 refine⟨h.1,by simpa using h.2.1,λs hs=>?_⟩;rcases List.mem_or_eq_of_mem_set hs with h1|h1;·exact h.2.2 s h1
 ·rw[h1];exact hx
theorem gE (n:Int):(gB n).ok:=by
 refine⟨by simp[gB];omega,by simp[gB],λs hs=>?_⟩;simp only[gB,List.mem_replicate]at hs;rw[hs.2];decide
theorem vo (h:r.ok) (a b:Int):(r.add a b).ok:=by
 unfold Rl.add;split;·exact qj h (jA (eU h _) _)
 ·exact h
theorem XK (h:r.ok) (a:Int):r.row a<18446744073709551616:=by
 unfold Rl.row;split;·exact eU h _
 ·decide
end
theorem nh: [au 0,dF 0,dF 0,dF 0,dF 0,dF 0,dF 0,dF 0,dF 0,dF 0,dF 0,dF 0,dF 0,dF 0,dF 0,dF 0,dF 0,dF 0,dF 0,dF 0,dF 0,dF 0,dF 0,dF 0,dF 0,dF 0,dF 0,dF 0,dF 0,dF 0,dF 0,dF 0,dF 0,dF 0,dF 0,dF 0,dF 0,dF 0,dF 0,dF 0,dF 0,dF 0,dF 0,dF 0,dF 0,dF 0,dF 0,dF 0,dF 0,dF 0,dF 0,dF 0,dF 0,dF 0,dF 0,dF 0,dF 0,dF 0,dF 0,dF 0,dF 0,dF 0,dF 0,dF 0,dF 0]=((gB 0).cells.map AV.d):=rfl
theorem jZ {r:Rl} {n:Nat}:sk n (r.cells.map AV.d)=r.cells.map AV.d:=rfl
theorem gm {r:Rl} (h:r.ok) {cs:List AV} (hc:cs.length=65):putAt cs 0 (r.cells.map AV.d)=r.cells.map AV.d:=iP (by rw[bJ h,hc])
theorem eK {r:Rl}:(r.cells.map AV.d).all mf=true:=eR _
theorem gF:mV aK 243=some (some 65):=by kernel_rfl
theorem xi (n:Int):Pure aK 246 [au n] (.agg ((gB n).cells.map .d)):=by
 have hm:(if(64:Int)<(if n<0 then 0 else n)then(64:Int)else(if n<0 then 0 else n))=(gB n).n:=by
  simp only[gB];split<;>split at*<;>omega
 have hc:((gB 0).cells.map AV.d).set 0 (au ((gB n).n:Int))=(gB n).cells.map AV.d:=rfl;have h0:=gE 0;have hn:=gE n;refine ay func246 Xl ntmps246 results246 rfl ?_;unfold ad9;refine J λK hK=>?_;simp only[go_sem,nh,jZ];refine hK _ (J λK hK=>?_);simp only[go_sem,hm,nh,bJ h0,ali,hc,bJ hn,eK,gm hn,alo];apply hK;apply an;refine aD (.agg ((gB n).cells.map .d)) (by simp[bj,aP,bt,ah,ai,ak,gF,cA hn]) (by simp[AV.aA,aj]) ⟨rfl,rfl⟩
theorem afs {r:Rl}:Pure aK 254 [.agg (r.cells.map .d)] (au r.n):=by
 refine ay func254 Xt ntmps254 results254 rfl ?_;unfold aeh;refine J λK hK=>?_;simp only[go_sem];refine hK _ (J λK hK=>?_);simp only[go_sem,als,J9];apply hK;apply an;simp only[go_sem];refine aD _ rfl rfl ⟨?_,rfl⟩;simp[ah]
theorem BC {r:Rl} (a:Int):Pure aK 276 [.agg (r.cells.map .d),au a] (.d (.bool (r.sR a))):=by
 refine ay func276 XB ntmps276 results276 rfl ?_;unfold aep;refine J λK hK=>?_;simp only[go_sem];apply hK;by_cases h0:0<=a
 ·refine J λK hK=>?_;simp only[go_sem,eq_true h0,decide_true,als,J9];apply hK;apply an;simp only[go_sem];refine aD _ rfl rfl ⟨?_,rfl⟩;simp[ah,Rl.sR,h0]
 ·refine J λK hK=>?_;simp only[go_sem,eq_false h0,decide_false];apply hK;apply an;simp only[go_sem];refine aD _ rfl rfl ⟨?_,rfl⟩;simp[ah,Rl.sR,h0]
theorem FE {r:Rl} (h:r.ok) (a b:Int):Pure aK 255 [.agg (r.cells.map .d),au a,au b] (.d (.bool (r.has a b))):=by
 have k1:=BC (r:=r) a;have k2:=xh (eU h a.toNat) b;have du:r.sR a=true->0<=a/\a<64:=by
  have:=h.1;simp only[Rl.sR,alE,decide_eq_true_eq];omega
 refine ay func255 Xu ntmps255 results255 rfl ?_;unfold aei;refine J λK hK=>?_;simp only[go_sem];refine hK _ (J λK hK=>?_);simp only[go_sem,als,cA h];refine a8 (k1) ?_;simp only[go_sem];cases hb:r.sR a
 ·simp only[go_sem];apply hK;apply an;simp only[go_sem];refine aD _ rfl rfl ⟨?_,rfl⟩;simp[ah,Rl.has,hb]
 ·obtain⟨h0,h1⟩:=du hb;have hg:=sV h (i:=a.toNat) (by omega);simp only[go_sem,h0,h1,hg];refine a8 (k2) ?_;simp only[go_sem];apply hK;apply an;simp only[go_sem];refine aD _ rfl rfl ⟨?_,rfl⟩;simp[ah,Rl.has,hb]
theorem CN {r:Rl} (h:r.ok) (a:Int):Pure aK 256 [.agg (r.cells.map .d),au a] (dF (r.row a)):=by
 have k1:=BC (r:=r) a;have du:r.sR a=true->0<=a/\a<64:=by
  have:=h.1;simp only[Rl.sR,alE,decide_eq_true_eq];omega
 refine ay func256 Xv ntmps256 results256 rfl ?_;unfold aej;refine J λK hK=>?_;simp only[go_sem];apply hK;refine aa λK1 aT=>?_;refine J λK hK=>?_;simp only[go_sem,als,cA h];refine a8 (k1) ?_;simp only[go_sem];apply hK;cases hb:r.sR a
 ·refine aM ?_ (by simp[ev,ah,hb]);refine J λK hK=>?_;simp only[go_sem];apply hK;apply an;simp only[go_sem];refine aD _ rfl rfl ⟨?_,rfl⟩;simp[ah,Rl.row,hb]
 ·obtain⟨h0,h1⟩:=du hb;have hg:=sV h (i:=a.toNat) (by omega);refine aH ?_ (by simp[ev,ah,hb]);apply ar;refine aT _ (J λK hK=>?_);simp only[go_sem,h0,h1,hg];apply hK;apply an;simp only[go_sem];refine aD _ rfl rfl ⟨?_,rfl⟩;simp[ah,Rl.row,hb]
theorem CO {r:Rl} (h:r.ok) (a b:Int):Pure aK 249 [.agg (r.cells.map .d),au a,au b] (.agg ((r.add a b).cells.map .d)):=by
 have k1:=BC (r:=r) a;have k2:=BC (r:=r) b;have k3:=iQ (eU h a.toNat) b;have du:r.sR a=true->0<=a/\a<64:=by
  have:=h.1;simp only[Rl.sR,alE,decide_eq_true_eq];omega
 have hl:=bJ h;have h':=vo h a b;have uv:=bJ h';have h0:=gE 0;refine ay func249 Xo ntmps249 results249 rfl ?_;unfold aec;refine J λK hK=>?_;simp only[go_sem,nh,jZ];apply hK;have tail:∀(m:List AV) (t:Fr) (n:Nat),ah t 3=.ptr 0 0->ah t 6=.ptr 1 0->m=(r.add a b).cells.map .d->fP aK (aE []) 25 (.seq (.region false [oM 24 (.load (some 65) (.t 3)),⟨none,.store 65 (.t 6) (.t 24),none⟩] []) .ret) ⟨t,[(0,m),(1,(gB 0).cells.map .d)],n⟩
  (nC aK #[.cell 6 243] (aE []) λr1 m'=>r1=.agg ((r.add a b).cells.map .d)/\m'=[]):=by
  intro m t n h3 h6 hm;subst hm;refine aa λK hK=>ag (by simp[aE]) ?_;simp only[go_sem,h3,h6,als,cA h',bJ h',eK,gm h' (bJ h0),bJ h0,alo,ali];apply hK;apply an;refine aD (.agg ((r.add a b).cells.map .d)) (by simp[bj,aP,bt,ah,ai,ak,gF,cA h',h6]) (by simp[AV.aA,aj]) ⟨rfl,rfl⟩
 refine aa λKE fV=>?_;refine J λK hK=>?_;simp only[go_sem,als,cA h];refine a8 (k1) ?_;simp only[go_sem];cases hb:r.sR a
 ·simp only[go_sem];apply hK;refine aH ?_;apply ar;refine fV _ (tail _ _ _ (by simp[ah]) (by simp[ah]) ?_);simp[Rl.add,hb]
 ·obtain⟨h1,h2⟩:=du hb;have hg:=sV h (i:=a.toNat) (by omega);simp only[go_sem,als,cA h];refine a8 (k2) ?_;simp only[go_sem];apply hK;cases iq:r.sR b
  ·refine aH ?_ (by simp[ev,ah,iq]);apply ar;refine fV _ (tail _ _ _ (by simp[ah]) (by simp[ah]) ?_);simp[Rl.add,hb,iq]
  ·refine aM ?_ (by simp[ev,ah,iq]);have bn:1+a.toNat+1<=65:=by omega
   refine ag rfl ?_;simp only[go_sem,h1,h2,hg];refine a8 (k3) ?_;simp only[go_sem,h1,h2,bJ h,bn,Hm];refine fV _ (tail _ _ _ (by simp[ah]) (by simp[ah]) ?_);simp[Rl.add,hb,iq]
def uw (r o:Rl) (ex:Fr):St:=⟨ex++[(1,.ptr 0 0),(2,.ptr 1 0),(3,.ptr 2 0)],[(0,r.cells.map .d),(1,(gB 0).cells.map .d),(2,o.cells.map .d)],3⟩
theorem aft {r o:Rl} (ho:o.ok) {x0 i n:Nat} (hx0:x0<18446744073709551616) (hi:i<64) {Q:Exit->St->Prop}
 (hQ:Q (.exit 2) (uw r ⟨o.n,(cH x0).foldl (nG i) o.rows⟩ [(4,au i),(11,au i),(10,au n)])):
 fP aK (aE []) 37 (.loop Hj) (uw r o [(5,dF x0),(4,au i),(11,au i),(10,au n)]) Q:=by
 refine ef (ι:={p:Nat×List Nat//p.1<18446744073709551616/\(Rl.mk o.n p.2).ok/\(cH p.1).foldl (nG i) p.2=(cH x0).foldl (nG i) o.rows})
  (λp=>uw r ⟨o.n,p.1.2⟩ [(5,dF p.1.1),(4,au i),(11,au i),(10,au n)]) (λp=>p.1.1) ⟨(x0,o.rows),hx0,ho,rfl⟩ ?_
 rintro⟨⟨x,rows⟩,hx,vq,hf⟩;simp only at hx vq hf;unfold Hj uw;refine aa λK1 aT=>?_;by_cases h0:x=0
 ·subst h0;rw[vh,List.foldl_nil]at hf;refine J λK hK=>?_;simp only[go_sem];apply hK;refine aH ?_;refine aw (S':=uw r ⟨o.n,(cH x0).foldl (nG i) o.rows⟩ [(4,au i),(11,au i),(10,au n)]) (aB.cj [(0,0),(1,1),(2,2)] ⟨by simp[aV,ah,AV.aA,aj,af,uw,hf],by simp[aL,aF,ai,ak,aj,AV.aA,af,ae,-alh,uw,hf],rfl,rfl⟩) ?_;apply aW;exact hQ
 ·have RG:¬(x:Int)=0:=by omega
  have k:=mB hx;rw[vn h0 hx]at k;have ail:=Nx 64 x h0 hx;have hw:al0.wrap ((x:Int)-1)=((x-1:Nat):Int):=by rw[wrap_u64 (by omega) (by omega)];omega
  have hand:=pt hx (b:=x-1) (by omega);have v8:=vg h0 hx;generalize Hk 64 x=f at k v8 ail;have aes:(f:Int)<64:=by omega
  have hg:=sV vq (i:=f) ail;have k2:=iQ (eU vq f) i;have hl:=bJ vq;have bn:1+f+1<=65:=by omega
  rw[v8,al2]at hf;have akd:(Rl.mk o.n (nG i rows f)).ok:=qj vq (jA (eU vq f) _);refine J λK hK=>?_;simp only[go_sem,RG,decide_false,al7];apply hK;refine aM ?_;apply ar;apply aT;refine aa λK1 aT=>?_;apply ax;refine ag rfl ?_;simp only[go_sem];refine a8 (k) ?_;simp only[go_sem];refine a8 (k) ?_;simp only[go_sem,alm,aes,alj,hg];refine a8 (k2) ?_;simp only[go_sem,alm,aes,alj,hl,bn,Hm];apply aT;refine ag rfl ?_;simp only[go_sem,hw,hand];refine⟨⟨(x&&&(x-1),nG i rows f),BB hx _,akd,hf⟩,J8 h0,?_⟩
  exact aB.cj [(0,0),(1,1),(2,2)] ⟨by simp[aV,ah,AV.aA,aj,af,nG],by simp[aL,aF,ai,ak,aG,aj,AV.aA,af,ae,-alh,nG],rfl,rfl⟩
theorem P3 {n i:Nat}:∀(l:List Nat) (rows:List Nat),(Rl.mk n rows).ok->(Rl.mk n (l.foldl (nG i) rows)).ok
 | [],rows,h=>h
 |f::l,rows,h=>by
  rw[al2];exact P3 l _ (qj h (jA (eU h f) _))
theorem xj {n:Nat} (hn:n<=64):(Rl.mk n (alA 64 0)).ok:=⟨hn,(gE 0).2⟩
def Nz (r:Rl) (l:List Nat) (rows:List Nat):List Nat:=l.foldl (λrows i=>(cH (r.rows.getD i 0)).foldl (nG i) rows) rows
theorem y8 {r:Rl} {n:Nat}:∀(l:List Nat) (rows:List Nat),(Rl.mk n rows).ok->(Rl.mk n (Nz r l rows)).ok
 | [],rows,h=>h
 |i::l,rows,h=>by
  unfold Nz;rw[al2];exact y8 l _ (P3 _ _ h)
theorem eI {α:Type} (f:α->Nat->α) (a:α) (i:Nat):(alI (i+1)).foldl f a=f ((alI i).foldl f a) i:=by
 rw[List.range_succ,List.foldl_append];rfl
theorem Hn {r:Rl} (h:r.ok):r.inv.ok:=y8 _ _ (xj h.1)
theorem FF {r:Rl} (h:r.ok):gB (r.n:Int)=⟨r.n,alA 64 0⟩:=by
 have:=h.1;simp[gB];omega
def An (r:Rl) (i:Nat):List Nat:=Nz r (alI i) (alA 64 0)
theorem NA (r:Rl) (i:Nat):An r (i+1)=(cH (r.rows.getD i 0)).foldl (nG i) (An r i):=eI _ _ _
theorem CP (r:Rl):An r 0=alA 64 0:=rfl
theorem xk {r:Rl} (h:r.ok):Pure aK 253 [.agg (r.cells.map .d)] (.agg (r.inv.cells.map .d)):=by
 have k1:=xi (r.n:Int);rw[FF h]at k1;have XL:=h.1;have h0:(gB 0).ok:=gE 0;have hn:(Rl.mk r.n (alA 64 0)).ok:=xj XL;have hi:=Hn h;refine ay func253 Xs ntmps253 results253 rfl ?_;unfold aeg;refine J λK hK=>?_;simp only[go_sem,nh,jZ];refine hK _ (J λK hK=>?_);simp only[go_sem,als,J9];refine a8 (k1) ?_;simp only[go_sem,nh,jZ,bJ hn,eK,gm hn (bJ h0),bJ h0,alo,ali];apply hK;refine aa λKE fV=>?_;refine J λK hK=>?_;simp only[go_sem,als,J9];apply hK;apply ax
 refine aw (S':=uw r ⟨r.n,An r 0⟩ [(11,au (0:Nat)),(10,au r.n)]) (aB.cj [(0,0),(1,1),(2,2)] ⟨by simp[aV,ah,AV.aA,aj,af,uw,CP],by simp[aL,aF,ai,ak,aj,AV.aA,af,ae,-alh,uw,CP],rfl,rfl⟩) ?_;refine bS (λi=>uw r ⟨r.n,An r i⟩ [(11,au (i:Nat)),(10,au r.n)]) r.n ?_;intro i du;have ho:(Rl.mk r.n (An r i)).ok:=y8 (r:=r) (alI i) _ hn;unfold PX uw;by_cases bn:i<r.n
 ·have aQ:(i:Int)<r.n:=by omega
  have hw:=cY (i:=i) (by omega);have EG:(i:Int)<64:=by omega
  have hg:=sV h (i:=i) (by omega);have cy:=NA r i;generalize An r i=rows at ho cy;refine J λK hK=>?_;simp only[go_sem,aQ];apply hK;refine aa λK1 aT=>?_;refine aM ?_;apply ar;apply aT;refine aa λK1 aT=>?_;apply ax;refine J λK hK=>?_;simp only[go_sem];refine hK _ (J λK hK=>?_);simp only[go_sem,alm,EG,alj,hg];apply hK;apply ax;refine aw (S':=uw r ⟨r.n,rows⟩ [(5,dF (r.rows.getD i 0:Nat)),(4,au i),(11,au i),(10,au r.n)]) (aB.cj [(0,0),(1,1),(2,2)] ⟨by simp[aV,ah,AV.aA,aj,af,uw],by simp[aL,aF,ai,ak,aj,AV.aA,af,ae,-alh,uw],rfl,rfl⟩) ?_;refine aft ho (eU h i) (by omega) ?_;simp only[go_sem];apply aT
  unfold uw;refine ag rfl ?_;simp only[go_sem,hw];exact⟨bn,(aB.cj [(0,0),(1,1),(2,2)] ⟨by simp[aV,ah,AV.aA,aj,af,cy],by simp[aL,aF,ai,ak,aj,AV.aA,af,ae,-alh,cy],rfl,rfl⟩)⟩
 ·have Ho:i=r.n:=by omega
  subst Ho;have aQ:¬(r.n:Int)<r.n:=by omega
  refine J λK hK=>?_;simp only[go_sem,aQ];apply hK;refine aa λK1 aT=>?_;refine aH ?_;apply aW;show KE _;apply fV;have he:Rl.mk r.n (An r r.n)=r.inv:=rfl;rw[he];refine J λK hK=>?_;simp only[go_sem,als,cA hi,bJ hi,eK,gm hi (bJ h0),bJ h0,alo,ali];apply hK;apply an;refine aD (.agg (r.inv.cells.map .d)) (by simp[bj,aP,bt,ah,ai,ak,gF,cA hi]) (by simp[AV.aA,aj]) ⟨rfl,rfl⟩
def kpS (r o:Rl) (ex:Fr):St:=⟨ex++[(2,.ptr 0 0),(4,.ptr 1 0),(5,.ptr 2 0)],[(0,r.cells.map .d),(1,(gB 0).cells.map .d),(2,o.cells.map .d)],3⟩
def Hp (r:Rl) (s:Nat) (l:List Nat) (rows:List Nat):List Nat:=l.foldl (re r s) rows
theorem NB {r:Rl} (h:r.ok) {s n:Nat} {rows:List Nat} (ho:(Rl.mk n rows).ok) (i:Nat):(Rl.mk n (re r s rows i)).ok:=by
 unfold re;split;·exact qj ho (BB (eU h i) _)
 ·exact ho
theorem vr {r:Rl} (h:r.ok) {s n:Nat}:∀(l:List Nat) (rows:List Nat),(Rl.mk n rows).ok->(Rl.mk n (Hp r s l rows)).ok
 | [],rows,ho=>ho
 |i::l,rows,ho=>by
  unfold Hp;rw[al2];exact vr h l _ (NB h ho i)
theorem P4 {r:Rl} (h:r.ok) (s:Nat):(r.di s).ok:=vr h _ _ (xj h.1)
def sW (r:Rl) (s i:Nat):List Nat:=Hp r s (alI i) (alA 64 0)
theorem Ka (r:Rl) (s i:Nat):sW r s (i+1)=re r s (sW r s i) i:=eI _ _ _
theorem Ao (r:Rl) (s:Nat):sW r s 0=alA 64 0:=rfl
theorem RH {r:Rl} (h:r.ok) {s:Nat} (hs:s<18446744073709551616):Pure aK 258 [.agg (r.cells.map .d),dF s] (.agg ((r.di s).cells.map .d)):=by
 have k1:=xi (r.n:Int);rw[FF h]at k1;have XL:=h.1;have h0:(gB 0).ok:=gE 0;have hn:(Rl.mk r.n (alA 64 0)).ok:=xj XL;have hi:=P4 h s;refine ay func258 Xx ntmps258 results258 rfl ?_;unfold ael;refine J λK hK=>?_;simp only[go_sem,nh,jZ];refine hK _ (J λK hK=>?_);simp only[go_sem,als,J9];refine a8 (k1) ?_;simp only[go_sem,nh,jZ,bJ hn,eK,gm hn (bJ h0),bJ h0,alo,ali];apply hK;refine aa λKE fV=>?_;refine J λK hK=>?_;simp only[go_sem,als,J9];apply hK;apply ax
 refine aw (S':=kpS r ⟨r.n,sW r s 0⟩ [(12,au (0:Nat)),(11,au r.n),(1,dF s)]) (aB.cj [(0,0),(1,1),(2,2)] ⟨by simp[aV,ah,AV.aA,aj,af,kpS,Ao],by simp[aL,aF,ai,ak,aj,AV.aA,af,ae,-alh,kpS,Ao],rfl,rfl⟩) ?_;refine bS (λi=>kpS r ⟨r.n,sW r s i⟩ [(12,au (i:Nat)),(11,au r.n),(1,dF s)]) r.n ?_;intro i du;have ho:(Rl.mk r.n (sW r s i)).ok:=vr (r:=r) h (s:=s) (alI i) _ hn;unfold PY kpS;by_cases bn:i<r.n
 ·have aQ:(i:Int)<r.n:=by omega
  have hw:=cY (i:=i) (by omega);have EG:(i:Int)<64:=by omega
  have hg:=sV h (i:=i) (by omega);have cy:=Ka r s i;generalize sW r s i=rows at ho cy;have k:=xh hs i;have hl:=bJ ho;have pD:1+i+1<=65:=by omega
  have hand:=pt (eU h i) hs;refine J λK hK=>?_;simp only[go_sem,aQ];apply hK;refine aa λK1 aT=>?_;refine aM ?_;apply ar;apply aT;refine aa λK1 aT=>?_;apply ax;refine J λK hK=>?_;simp only[go_sem];refine hK _ (J λK hK=>?_);simp only[go_sem];refine a8 (k) ?_;simp only[go_sem];apply hK;cases hb:rb s i
  ·simp only[re,hb,aly,if_false]at cy;refine aH ?_ (by simp[ev,ah,hb]);apply ar;simp only[go_sem];apply aT;refine ag rfl ?_;simp only[go_sem,hw];exact⟨bn,(aB.cj [(0,0),(1,1),(2,2)] ⟨by simp[aV,ah,AV.aA,aj,af,cy],by simp[aL,aF,ai,ak,aj,AV.aA,af,ae,-alh,cy],rfl,rfl⟩)⟩
  ·simp only[re,hb,if_true]at cy;refine aM ?_ (by simp[ev,ah,hb]);refine ag rfl ?_;simp only[go_sem,alm,EG,alj,hg,hand,hl,pD,Hm];apply aT;refine ag rfl ?_;simp only[go_sem,hw];exact⟨bn,(aB.cj [(0,0),(1,1),(2,2)] ⟨by simp[aV,ah,AV.aA,aj,af,cy],by simp[aL,aF,ai,ak,aj,AV.aA,af,ae,-alh,cy],rfl,rfl⟩)⟩
 ·have Ho:i=r.n:=by omega
  subst Ho;have aQ:¬(r.n:Int)<r.n:=by omega
  refine J λK hK=>?_;simp only[go_sem,aQ];apply hK;refine aa λK1 aT=>?_;refine aH ?_;apply aW;show KE _;apply fV;have he:Rl.mk r.n (sW r s r.n)=r.di s:=rfl;rw[he];refine J λK hK=>?_;simp only[go_sem,als,cA hi,bJ hi,eK,gm hi (bJ h0),bJ h0,alo,ali];apply hK;apply an;refine aD (.agg ((r.di s).cells.map .d)) (by simp[bj,aP,bt,ah,ai,ak,gF,cA hi]) (by simp[AV.aA,aj]) ⟨rfl,rfl⟩
def Hq (r:Rl) (ex:Fr):St:=⟨ex++[(1,.ptr 0 0),(2,.ptr 1 0)],[(0,r.cells.map .d),(1,(gB 0).cells.map .d)],2⟩
def NC (n k:Nat) (l:List Nat) (rows:List Nat):List Nat:=l.foldl (sS k) rows
def ND (n:Nat) (l:List Nat) (rows:List Nat):List Nat:=l.foldl (λrows k=>(alI n).foldl (sS k) rows) rows
theorem RJ {k n:Nat} {rows:List Nat} (ho:(Rl.mk n rows).ok) (i:Nat):(Rl.mk n (sS k rows i)).ok:=by
 unfold sS;split;·exact qj ho (afq (eU ho i) (eU ho k))
 ·exact ho
theorem y9 {k n n':Nat}:∀(l:List Nat) (rows:List Nat),(Rl.mk n rows).ok->(Rl.mk n (NC n' k l rows)).ok
 | [],rows,ho=>ho
 |i::l,rows,ho=>by
  unfold NC;rw[al2];exact y9 (n':=n') l _ (RJ ho i)
theorem za {n n':Nat}:∀(l:List Nat) (rows:List Nat),(Rl.mk n rows).ok->(Rl.mk n (ND n' l rows)).ok
 | [],rows,ho=>ho
 |i::l,rows,ho=>by
  unfold ND;rw[al2];exact za l _ (y9 (n':=n') _ _ ho)
theorem XM {r:Rl} (h:r.ok):r.clo.ok:=za _ _ h
def jB (n k:Nat) (rows:List Nat) (i:Nat):List Nat:=NC n k (alI i) rows
theorem EI (n k:Nat) (rows:List Nat) (i:Nat):jB n k rows (i+1)=sS k (jB n k rows i) i:=eI _ _ _
theorem uQ (n k:Nat) (rows:List Nat):jB n k rows 0=rows:=rfl
def Ap (n:Nat) (rows:List Nat) (i:Nat):List Nat:=ND n (alI i) rows
theorem NF (n:Nat) (rows:List Nat) (i:Nat):Ap n rows (i+1)=jB n i (Ap n rows i) n:=eI _ _ _
theorem CQ (n:Nat) (rows:List Nat):Ap n rows 0=rows:=rfl
theorem afu {r:Rl} {n:Nat} {rows:List Nat} (hn:n<=64) (vq:(Rl.mk n rows).ok) {k:Nat} (hk:k<n) {Q:Exit->St->Prop}
 (hQ:Q (.exit 2) (Hq ⟨n,jB n k rows n⟩ [(3,au k),(7,au k),(6,au n)])):
 fP aK (aE []) 35 (.loop Hi) (Hq ⟨n,jB n k rows 0⟩ [(12,au (0:Nat)),(11,au n),(3,au k),(7,au k),(6,au n)]) Q:=by
 refine bS (λi=>Hq ⟨n,jB n k rows i⟩ [(12,au (i:Nat)),(11,au n),(3,au k),(7,au k),(6,au n)]) n ?_;intro i du;have ho:(Rl.mk n (jB n k rows i)).ok:=y9 (n':=n) (k:=k) (alI i) _ vq;unfold Hi Hq;by_cases bn:i<n
 ·have aQ:(i:Int)<n:=by omega
  have hw:=cY (i:=i) (by omega);have EG:(i:Int)<64:=by omega
  have M8:(k:Int)<64:=by omega
  have cy:=EI n k rows i;generalize jB n k rows i=rs at ho cy;have hg:=sV ho (i:=i) (by omega);have hgk:=sV ho (i:=k) (by omega);have kh:=xh (eU ho i) k;have hl:=bJ ho;have pD:1+i+1<=65:=by omega
  have hor:=GN (eU ho i) (eU ho k);refine J λK hK=>?_;simp only[go_sem,aQ];apply hK;refine aa λK1 aT=>?_;refine aM ?_;apply ar;apply aT;refine aa λK1 aT=>?_;apply ax;refine J λK hK=>?_;simp only[go_sem];refine hK _ (J λK hK=>?_);simp only[go_sem,alm,EG,alj,hg];refine a8 (kh) ?_;simp only[go_sem];apply hK;cases hb:rb (rs.getD i 0) k
  ·simp only[sS,hb,aly,if_false]at cy;refine aH ?_ (by simp[ev,ah,hb]);apply ar;simp only[go_sem];apply aT;refine ag rfl ?_;simp only[go_sem,hw];exact⟨bn,(aB.cj [(0,0),(1,1)] ⟨by simp[aV,ah,AV.aA,aj,af,cy],by simp[aL,aF,ai,ak,aj,AV.aA,af,ae,-alh,cy],rfl,rfl⟩)⟩
  ·simp only[sS,hb,if_true]at cy;refine aM ?_ (by simp[ev,ah,hb]);refine az rfl rfl ?_;simp only[go_sem,alm,EG,M8,alj,hg,hgk,hor,hl,pD,Hm];refine⟨rfl,?_⟩;apply aT;refine ag rfl ?_;simp only[go_sem,hw];exact⟨bn,(aB.cj [(0,0),(1,1)] ⟨by simp[aV,ah,AV.aA,aj,af,cy],by simp[aL,aF,ai,ak,aj,AV.aA,af,ae,-alh,cy],rfl,rfl⟩)⟩
 ·have Ho:i=n:=by omega
  subst Ho;have aQ:¬(i:Int)<i:=by omega
  refine J λK hK=>?_;simp only[go_sem,aQ];apply hK;refine aa λK1 aT=>?_;refine aH ?_;refine aw (S':=Hq ⟨i,jB i k rows i⟩ [(3,au k),(7,au k),(6,au i)]) (aB.cj [(0,0),(1,1)] ⟨by simp[aV,ah,AV.aA,aj,af,Hq],by simp[aL,aF,ai,ak,aj,AV.aA,af,ae,-alh,Hq],rfl,rfl⟩) ?_;exact aW hQ
theorem Hr {r:Rl} (h:r.ok):Pure aK 252 [.agg (r.cells.map .d)] (.agg (r.clo.cells.map .d)):=by
 have XL:=h.1;have h0:(gB 0).ok:=gE 0;have hi:=XM h;refine ay func252 Xr ntmps252 results252 rfl ?_;unfold aef;refine J λK hK=>?_;simp only[go_sem,nh,jZ];apply hK;refine aa λKE fV=>?_;refine J λK hK=>?_;simp only[go_sem,als,J9];apply hK;apply ax;refine aw (S':=Hq ⟨r.n,Ap r.n r.rows 0⟩ [(7,au (0:Nat)),(6,au r.n)]) (aB.cj [(0,0),(1,1)] ⟨by simp[aV,ah,AV.aA,aj,af,Hq,CQ],by simp[aL,aF,ai,ak,aj,AV.aA,af,ae,-alh,Hq,CQ],rfl,rfl⟩) ?_;refine bS (λi=>Hq ⟨r.n,Ap r.n r.rows i⟩ [(7,au (i:Nat)),(6,au r.n)]) r.n ?_;intro i du;have ho:(Rl.mk r.n (Ap r.n r.rows i)).ok:=za (n':=r.n) (alI i) _ h;unfold PW
 by_cases bn:i<r.n
 ·have aQ:(i:Int)<r.n:=by omega
  have hw:=cY (i:=i) (by omega);have cy:=NF r.n r.rows i;generalize Ap r.n r.rows i=rows at ho cy;unfold Hq;refine J λK hK=>?_;simp only[go_sem,aQ];apply hK;refine aa λK1 aT=>?_;refine aM ?_;apply ar;apply aT;refine aa λK1 aT=>?_;apply ax;refine J λK hK=>?_;simp only[go_sem];refine hK _ (J λK hK=>?_);simp only[go_sem,als,J9];apply hK;apply ax;refine aw (S':=Hq ⟨r.n,jB r.n i rows 0⟩ [(12,au (0:Nat)),(11,au r.n),(3,au i),(7,au i),(6,au r.n)]) (aB.cj [(0,0),(1,1)] ⟨by simp[aV,ah,AV.aA,aj,af,Hq,uQ],by simp[aL,aF,ai,ak,aj,AV.aA,af,ae,-alh,Hq,uQ],rfl,rfl⟩) ?_;refine afu (r:=r) XL ho bn ?_
  simp only[go_sem];apply aT;unfold Hq;refine ag rfl ?_;simp only[go_sem,hw];exact⟨bn,(aB.cj [(0,0),(1,1)] ⟨by simp[aV,ah,AV.aA,aj,af,Hq,cy],by simp[aL,aF,ai,ak,aj,AV.aA,af,ae,-alh,Hq,cy],rfl,rfl⟩)⟩
 ·have Ho:i=r.n:=by omega
  subst Ho;have aQ:¬(r.n:Int)<r.n:=by omega
  unfold Hq;refine J λK hK=>?_;simp only[go_sem,aQ];apply hK;refine aa λK1 aT=>?_;refine aH ?_;apply aW;show KE _;apply fV;have he:Rl.mk r.n (Ap r.n r.rows r.n)=r.clo:=rfl;rw[he];refine J λK hK=>?_;simp only[go_sem,als,cA hi,bJ hi,eK,gm hi (bJ h0),bJ h0,alo,ali];apply hK;apply an;refine aD (.agg (r.clo.cells.map .d)) (by simp[bj,aP,bt,ah,ai,ak,gF,cA hi]) (by simp[AV.aA,aj]) ⟨rfl,rfl⟩
def kN.ok (l:kN):Prop:=l.lG.length=4
section
variable{l:kN}
theorem eJ (h:l.ok):(l.cells.map AV.d).length=5:=by have h':l.lG.length=4:=h;simp[kN.cells,h']
theorem pw (h:l.ok):l.cells.length=5:=by have h':l.lG.length=4:=h;simp[kN.cells,h']
theorem dG (h:l.ok):aN (some 5) (l.cells.map AV.d)=some (.agg (l.cells.map AV.d)):=by
 simp only[aN,eJ h,alx (Nat.le_of_eq (eJ h))];rfl
theorem sX:aN none (l.cells.map AV.d)=some (au l.pc):=rfl
theorem afv (h:l.ok) {i:Nat} (hi:i<4):aN none ((l.cells.map AV.d).drop (1+i))=some (au (l.lG.getD i 0)):=by
 have:i<l.lG.length:=by rw[show l.lG.length=4 from h];exact hi
 simp[aN,kN.cells,Nat.add_comm 1 i,alC,this]
theorem afw {i:Nat} {x:Int}:(l.cells.map AV.d).set (1+i) (au x)=(kN.mk l.pc (l.lG.set i x)).cells.map AV.d:=by
 simp[kN.cells,Nat.add_comm 1 i,List.map_set]
theorem CS {x:Int}:(l.cells.map AV.d).set 0 (au x)=(kN.mk x l.lG).cells.map AV.d:=rfl
theorem px:(l.cells.map AV.d).all mf=true:=eR _
theorem zb (h:l.ok) {cs:List AV} (hc:cs.length=5):putAt cs 0 (l.cells.map AV.d)=l.cells.map AV.d:=iP (by rw[eJ h,hc])
theorem Hs {n:Nat}:sk n (l.cells.map AV.d)=l.cells.map AV.d:=rfl
theorem jC:sU.ok:=rfl
theorem CT: [au 0,au 0,au 0,au 0,au 0]=sU.cells.map AV.d:=rfl
theorem zc (h:l.ok) (ez v:Int):(fS l ez v).ok:=by
 unfold fS;split;·show(l.lG.set _ _).length=4;rw[List.length_set];exact h
 ·exact h
theorem FG (ez v:Int):(fS l ez v).pc=l.pc:=by unfold fS;split<;>rfl
end
theorem iF:mV aK 183=some (some 5):=by kernel_rfl
theorem rj (o:nf) {l:kN} (h:l.ok):Pure aK 234 [.agg (o.cells.map .d),.agg (l.cells.map .d)] (au (ft o l)):=by
 refine ay func234 Xa ntmps234 results234 rfl ?_;unfold adY;refine J λK hK=>?_;simp only[go_sem,nf.cells];apply hK;refine aa λK1 aT=>?_;by_cases h0:0<=o.ez
 ·by_cases h1:o.ez<4
  ·have hg:=afv h (i:=o.ez.toNat) (by omega);refine J λK hK=>?_;simp only[go_sem,eq_true h0,eq_true h1,decide_true];apply hK;refine aM ?_;refine J λK hK=>?_;simp only[go_sem,h0,h1,hg];apply hK;apply an;simp only[go_sem];refine aD _ rfl rfl ⟨?_,rfl⟩;simp[ah,ft,h0,h1]
  ·refine J λK hK=>?_;simp only[go_sem,eq_true h0,eq_false h1,decide_true,decide_false];apply hK;refine aH ?_;apply ar;refine aT _ (J λK hK=>?_);simp only[go_sem];apply hK;apply an;simp only[go_sem];refine aD _ rfl rfl ⟨?_,rfl⟩;simp[ah,ft,h1]
 ·refine J λK hK=>?_;simp only[go_sem,eq_false h0,decide_false];apply hK;refine aH ?_;apply ar;refine aT _ (J λK hK=>?_);simp only[go_sem];apply hK;apply an;simp only[go_sem];refine aD _ rfl rfl ⟨?_,rfl⟩;simp[ah,ft,h0]
theorem xl {l:kN} (h:l.ok) (ez v:Int):bB aK 236 [.ptr 0 0,au ez,au v] [(0,l.cells.map .d)] λr m'=>r=.cC []/\m'=[(0,(fS l ez v).cells.map .d)]:=by
 have hl:=eJ h;refine ay func236 Xb ntmps236 results236 rfl ?_;unfold adZ;by_cases h0:0<=ez
 ·by_cases h1:ez<4
  ·have bn:1+ez.toNat+1<=5:=by omega
   refine J λK hK=>?_;simp only[go_sem,eq_true h0,eq_true h1,decide_true];apply hK;refine aM ?_;refine ag rfl ?_;simp only[go_sem,h0,h1,hl,bn,afw];exact⟨.cC [],by simp[bj,aP,bt,ah,ai,ak,aG,fS,h0,h1],[(0,0)],[(0,(fS l ez v).cells.map .d)],rfl,rfl,by simp[aL,aF,ai,ak,aG,aj,AV.aA,af,ae,-alh,fS,h0,h1],by simp[AV.aA,aj,af,fS,h0,h1]⟩
  ·refine J λK hK=>?_;simp only[go_sem,eq_true h0,eq_false h1,decide_true,decide_false];apply hK;refine aH ?_;apply ar;exact⟨.cC [],by simp[bj,aP,bt,ah,ai,ak,aG,fS,h1],[(0,0)],[(0,(fS l ez v).cells.map .d)],rfl,rfl,by simp[aL,aF,ai,ak,aG,aj,AV.aA,af,ae,-alh,fS,h1],by simp[AV.aA,aj,af,fS,h1]⟩
 ·refine J λK hK=>?_;simp only[go_sem,eq_false h0,decide_false];apply hK;refine aH ?_;apply ar;exact⟨.cC [],by simp[bj,aP,bt,ah,ai,ak,aG,fS,h0],[(0,0)],[(0,(fS l ez v).cells.map .d)],rfl,rfl,by simp[aL,aF,ai,ak,aG,aj,AV.aA,af,ae,-alh,fS,h0],by simp[AV.aA,aj,af,fS,h0]⟩
def xm (T:DV) (t:Int):DV:=match T with
 |.sl n ds=>if 0<=t/\t<n then ds.getD t.toNat .ct else .ct
 |_=>.ct
theorem CU {p:Prog} {T:DV} (hT:cQ Ins.cells p.threads T) (t:Int):dU Ins.cells (fT p t) (xm T t):=by
 unfold fT;by_cases h:0<=t/\t<p.threads.length
 ·obtain⟨cs,d,rest,hTe,hd,hi,hs⟩:=hT.at t.toNat (by omega);have hg:cs.getD t.toNat .ct=d:=by
   rw[alC];have:=congrArg (λl=>l[0]?) hd;simp only[List.getElem?_drop,Nat.add_zero,List.getElem?_cons_zero]at this;rw[this];rfl
  have hc:p.threads.getD t.toNat []=p.threads[t.toNat]'(by omega):=by
   rw[alC,alw];rfl
  rw[if_pos h,hTe,hc];simp only[xm];rw[if_pos h,hg];exact hs
 ·rw[if_neg h];have hz:xm T t=.ct:=by
   unfold xm;split
   ·rename_i n ds;have hlen:=hT.len;simp only[jV,alJ]at hlen;subst hlen;rw[if_neg h]
   ·rfl
  rw[hz];exact⟨by simp,.inl ⟨rfl,rfl⟩⟩
theorem sY {p:Prog} {L I T:DV} (hT:cQ Ins.cells p.threads T) (t:Int):Pure aK 175 [.agg [.d L,.d I,.d T],au t] (.d (xm T t)):=by
 have hlen:=hT.len;refine ay func175 WO ntmps175 results175 rfl ?_;unfold adG;refine J λK hK=>?_;simp only[go_sem];apply hK;refine aa λK1 aT=>?_;by_cases h0:t<0
 ·refine J λK hK=>?_;simp only[go_sem,eq_true h0,decide_true];apply hK;refine aM ?_;refine J λK hK=>?_;simp only[go_sem];apply hK;apply an;simp only[go_sem];refine aD _ rfl rfl ⟨?_,rfl⟩;have:¬0<=t:=by omega
  simp only[ah,if_true,xm];split;·rw[if_neg (by omega)]
  ·rfl
 ·by_cases h1:t<p.threads.length
  ·have Q6:¬(p.threads.length:Int)<=t:=by omega
   have h2:0<=t:=by omega
   obtain⟨cs,d,rest,hTe,hd,hi,hs⟩:=hT.at t.toNat (by omega);have hg:xm T t=d:=by
    rw[hTe];simp only[xm];rw[if_pos ⟨h2,h1⟩,alC];have:=congrArg (λl=>l[0]?) hd;simp only[List.getElem?_drop,Nat.add_zero,List.getElem?_cons_zero]at this;rw[this];rfl
   rw[hg];refine J λK hK=>?_;simp only[go_sem,eq_false h0,hlen,eq_false Q6,decide_false];apply hK;refine aH ?_;apply ar;refine aT _ (J λK hK=>?_);simp only[go_sem,hTe,h2,h1,alj,hi,hd];apply hK;apply an;simp only[go_sem];refine aD _ rfl rfl ⟨?_,rfl⟩;rw[<-hTe,hg];simp[ah]
  ·have Q6:(p.threads.length:Int)<=t:=by omega
   refine J λK hK=>?_;simp only[go_sem,eq_false h0,hlen,eq_true Q6,decide_true,decide_false];apply hK;refine aM ?_;refine J λK hK=>?_;simp only[go_sem];apply hK;apply an;simp only[go_sem];refine aD _ rfl rfl ⟨?_,rfl⟩;simp only[ah,if_true,xm];split
   ·rename_i n ds;simp only[jV,alJ]at hlen;rw[if_neg (by omega)]
   ·rfl
def nmS (X:DV) (l:kN):St:=⟨[(0,.d X),(3,.ptr 0 0),(4,.ptr 1 0)],[(0,l.cells.map .d),(1,sU.cells.map .d)],2⟩
def jD (code:List Ins) (l:kN):Option kN:=
 if 0<=l.pc/\l.pc<code.length then
  (let i:=code.getD l.pc.toNat gC
   if i.kind=5 then
    (let l':=fS l i.ez (if(gQ i.op (ft i.a l) (ft i.b l)).2 then(gQ i.op (ft i.a l) (ft i.b l)).1 else ft i.a l)
     some {l' with pc:=l.pc+1})
   else if i.kind=6 then some {l with pc:=(if ft i.a l=ft i.b l then l.pc+min (max i.n 0) code.length else l.pc)+1}
   else none)
 else none
theorem rk (code:List Ins) (f:Nat) (l:kN):nX code (f+1) l=match jD code l with
 |none=>l
 |some l'=>nX code f l':=by
 unfold jD;rw[nX];by_cases h:0<=l.pc/\l.pc<code.length
 ·rw[if_pos h,if_pos h];simp only;by_cases h5:(code.getD l.pc.toNat gC).kind=5;·rw[if_pos h5,if_pos h5]
  ·rw[if_neg h5,if_neg h5];by_cases h6:(code.getD l.pc.toNat gC).kind=6;·rw[if_pos h6,if_pos h6]
   ·rw[if_neg h6,if_neg h6]
 ·rw[if_neg h,if_neg h]
theorem Kb {code:List Ins} {l l':kN} (h:jD code l=some l'):0<=l.pc/\l.pc<code.length/\l.pc<l'.pc/\l'.pc<=l.pc+code.length+1:=by
 unfold jD at h;split at h
 ·rename_i hp;simp only at h;split at h;·cases h;simp only;omega
  ·split at h
   ·cases h;simp only;split<;>omega
   ·cases h
 ·cases h
theorem Aq {code:List Ins} {l l':kN} (hl:l.ok) (h:jD code l=some l'):l'.ok:=by
 unfold jD at h;split at h
 ·simp only at h;split at h;·cases h;exact zc hl _ _
  ·split at h;·cases h;exact hl
   ·cases h
 ·cases h
theorem CV {code:List Ins}:∀(f:Nat) (l:kN),l.ok->(nX code f l).ok
 |0,l,h=>h
 |f+1,l,h=>by
  rw[rk];split;·exact h
  ·rename_i l' hs;exact CV f l' (Aq h hs)
theorem rm {code:List Ins} {l:kN} (h:l.ok):(jL code l).ok:=CV _ _ h
theorem Ar {code:List Ins} {X:DV} (hX:dU Ins.cells code X) (fk:code.length<=1000000) {l:kN} (h:l.ok):
 Pure aK 174 [.d X,.agg (l.cells.map .d)] (.agg ((jL code l).cells.map .d)):=by
 have hlen:=hX.len;have cP:(jL code l).ok:=rm h;refine ay func174 WN ntmps174 results174 rfl ?_;unfold adF;refine J λK hK=>?_;simp only[go_sem,CT,Hs];apply hK;refine aa λKE fV=>?_;apply ax;refine aw (S':=nmS X l) (aB.cj [(0,0),(1,1)] ⟨by simp[aV,ah,AV.aA,aj,af,nmS],by simp[aL,aF,ai,ak,aj,AV.aA,af,ae,-alh,nmS],rfl,rfl⟩) ?_;refine ef (ι:={p:Nat×kN//p.2.ok/\nX code p.1 p.2=jL code l/\(p.2.pc<0\/(code.length:Int)-p.2.pc<p.1)}) (λp=>nmS X p.1.2) (λp=>p.1.1) ⟨(code.length+1,l),h,rfl,by simp only;omega⟩ ?_;rintro⟨⟨f,q⟩,hq,hf,hm⟩;simp only at hq hf hm;unfold PJ nmS;refine aa λK1 aT=>?_
 by_cases hp:0<=q.pc/\q.pc<code.length
 ·obtain⟨h0,h1⟩:=hp;obtain⟨f,rfl⟩:∃g,f=g+1:=⟨f-1,by omega⟩;rw[rk]at hf;obtain⟨cs,rest,gL,bT,cq⟩:=hX.at kM (by omega) q.pc.toNat (by omega);have hgi:code.getD q.pc.toNat gC=code[q.pc.toNat]'(by omega):=by
   rw[alC,alw];rfl
  obtain⟨i,hi⟩:∃i,i=code[q.pc.toNat]'(by omega):=⟨_,rfl⟩
  rw[<-hi]at bT hgi;have k1:=rj i.a hq;have k2:=rj i.b hq;have k3:=aa3 i.op (ft i.a q) (ft i.b q);have bn:q.pc.toNat*9<cs.length:=cq;have hw:alv.wrap (q.pc+1)=q.pc+1:=wrap_i64 (by omega) (by omega);have back:∀(Q:Exit->St->Prop),(∀S',(∃j:{p:Nat×kN//p.2.ok/\nX code p.1 p.2=jL code l/\(p.2.pc<0\/(code.length:Int)-p.2.pc<p.1)},j.1.1<f+1/\aB (aE []) 72 S' (nmS X j.1.2))->Q .normal S')->
   ∀(t:Fr) (w:Mem) (n:Nat) (q':kN),ah t 0=.d X->ah t 3=.ptr 0 0->ah t 4=.ptr 1 0->ai w 0=some (q'.cells.map .d)->ai w 1=some (sU.cells.map .d)->2<=n->
   jD code q=some {q' with pc:=alv.wrap (q'.pc+1)}->
   fP aK (aE []) 72 (.region false [oM 67 (.dI (.t 3) 0),oM 68 (.load none (.t 67)),oM 69 (.bin .add (.t 68) (.c (au 1))),oM 70 (.dI (.t 3) 0),⟨none,.store 1 (.t 70) (.t 69),none⟩] []) ⟨t,w,n⟩ Q:=by
   intro Q hQ t w n q' RG h3 h4 hw0 qC hn hs;have Bg:q'.ok:=Aq (l':={q' with pc:=alv.wrap (q'.pc+1)}) hq hs;refine ag (by simp[aE]) ?_;simp only[go_sem,h3,hw0,als,sX,eJ Bg,CS];rw[hs]at hf;have hpc:=Kb hs;refine hQ _ ⟨⟨(f,{q' with pc:=alv.wrap (q'.pc+1)}),Bg,hf,?_⟩,Nat.lt_succ_self _,?_⟩;·simp only at hpc⊢;omega
   ·refine aB.cj [(0,0),(1,1)] ⟨by simp[nmS,aV,ah,AV.aA,af,RG,h3,h4],by simp[nmS,aL,aF,bF,aj,AV.aA,af,qC],rfl,rfl⟩
  refine J λK hK=>?_;simp only[go_sem,als,sX,eq_true h0,hlen,eq_true h1,decide_true];apply hK;refine aM ?_;apply ar;apply aT;apply ax;refine J λK hK=>?_;simp only[go_sem,als,sX,gL,h0,h1,bn,bT,Ins.cells];apply hK;refine aa λK hK=>az rfl rfl ?_;simp only[go_sem,als,dG hq];refine dw (k1) ?_;simp only[go_sem,als,dG hq];refine dw (k2) ?_;simp only[go_sem];refine⟨rfl,hK _ ?_⟩;generalize hva:ft i.a q=va at k3;generalize hvb:ft i.b q=vb at k3;have EJ:jD code q=if i.kind=5 then some {(fS q i.ez (if(gQ i.op va vb).2 then(gQ i.op va vb).1 else va))with pc:=q.pc+1}
   else if i.kind=6 then some {q with pc:=(if va=vb then q.pc+min (max i.n 0) code.length else q.pc)+1}else none:=by
   unfold jD;rw[if_pos ⟨h0,h1⟩];simp only[hgi,hva,hvb]
  refine aa λK3 wc=>?_;refine J λK hK=>?_;simp only[go_sem];apply hK;apply ax;by_cases h5:i.kind=5
  ·rw[if_pos h5]at EJ;refine J λK hK=>?_;simp only[go_sem,eq_true h5,decide_true];apply hK;refine aM ?_;refine aa λK4 P5=>?_;refine J λK hK=>?_;simp only[go_sem];refine aI k3 rfl rfl ?_;simp only[go_sem];refine hK _ (J λK hK=>?_);simp only[go_sem];apply hK;have tl:∀(t:Fr) (a:Int) (n:Nat),3<=n->ah t 0=.d X->ah t 3=.ptr 0 0->ah t 4=.ptr 1 0->ah t 5=.ptr 2 0->ah t 6=au a->a=(if(gQ i.op va vb).2 then(gQ i.op va vb).1 else va)->
    K4 ⟨t,[(0,q.cells.map .d),(1,sU.cells.map .d),(2,i.cells.map .d)],n⟩:=by
    intro t a n hn e0 e3 e4 e5 e6 ha;subst ha;apply P5;refine ag (by simp[aE]) ?_;simp only[go_sem,e5,Ins.cells,e6,e3];refine bA [(0,0)] [.ptr 0 0,au i.ez,au (if(gQ i.op va vb).2 then(gQ i.op va vb).1 else va)] [(0,q.cells.map .d)] (nb:=1000) (xl hq _ _) (by simp[bX]) (by first|(simp[aj,AV.aA,af];done)|simp[aj,AV.aA,af]) (by first|(simp[bZ,cd,af];done)|simp[bZ,cd,af]) (by simp[handed,af,ai,ak,aG,aj,AV.aA,bZ,cd]) rfl ?_;rintro r0 m' ⟨rfl,rfl⟩;simp only[go_sem,bx,bR,bU,ai,ak,aG,cf,af,aj,bQ,AV.aA,alH,alD,alF,alK,alM,aly];apply wc
    refine back _ (λS' h=>h) _ _ _ (fS q i.ez (if(gQ i.op va vb).2 then(gQ i.op va vb).1 else va)) ?_ ?_ ?_ ?_ ?_ ?_ ?_<;>(try(simp[ah,ai,e0,e3,e4];done));·simp[aE];omega
    ·rw[EJ,FG,hw]
   cases hb:(gQ i.op va vb).2
   ·refine aH ?_ (by simp[ev,ah,hb]);apply ar;simp only[go_sem];refine tl _ va _ (by omega) ?_ ?_ ?_ ?_ ?_ ?_<;>simp[ah,gL,hb]
   ·refine aM ?_ (by simp[ev,ah,hb]);refine ag rfl ?_;simp only[go_sem];refine tl _ (gQ i.op va vb).1 _ (by omega) ?_ ?_ ?_ ?_ ?_ ?_<;>simp[ah,gL,hb]
  ·rw[if_neg h5]at EJ;refine J λK hK=>?_;simp only[go_sem,eq_false h5,decide_false];apply hK;refine aH ?_;by_cases h6:i.kind=6
   ·rw[if_pos h6]at EJ;refine J λK hK=>?_;simp only[go_sem,eq_true h6,decide_true];apply hK;refine aM ?_;by_cases hv:va=vb
    ·rw[if_pos hv]at EJ;have hmx:(if i.n<0 then 0 else i.n)=max i.n 0:=by omega
     have ZJ:(if(code.length:Int)<max i.n 0 then(code.length:Int)else max i.n 0)=min (max i.n 0) code.length:=by omega
     have wC:alv.wrap (q.pc+min (max i.n 0) code.length)=q.pc+min (max i.n 0) code.length:=wrap_i64 (by omega) (by omega);have hw3:alv.wrap (q.pc+min (max i.n 0) code.length+1)=q.pc+min (max i.n 0) code.length+1:=wrap_i64 (by omega) (by omega);refine J λK hK=>?_;simp only[go_sem,eq_true hv,decide_true];apply hK;refine aM ?_;refine ag rfl ?_;simp only[go_sem,als,sX,hmx,ZJ,wC,eJ hq,CS,jV];apply wc;refine back _ (λS' h=>h) _ _ _ {q with pc:=q.pc+min (max i.n 0) code.length} ?_ ?_ ?_ ?_ ?_ ?_ ?_<;>(try(simp[ah,ai,gL];done));rw[EJ,hw3]
    ·rw[if_neg hv]at EJ;refine J λK hK=>?_;simp only[go_sem,eq_false hv,decide_false];apply hK;refine aH ?_;apply ar;simp only[go_sem];apply wc;refine back _ (λS' h=>h) _ _ _ q ?_ ?_ ?_ ?_ ?_ ?_ ?_<;>(try(simp[ah,ai,gL];done));rw[EJ,hw]
   ·rw[if_neg h6]at EJ;refine J λK hK=>?_;simp only[go_sem,eq_false h6,decide_false];apply hK;refine aH ?_;have he:jL code l=q:=by rw[<-hf,EJ]
    rw[he]at cP;refine J λK hK=>?_;simp only[go_sem,als,dG cP,eJ cP,px,zb cP (eJ jC),eJ jC,alo,ali];apply hK;apply an;exact⟨.agg (q.cells.map .d),by simp[bj,aP,bt,ah,ai,ak,aG,iF,dG cP,he],[],[],rfl,rfl,by simp[aL,aF,ai,ak,aG,aj,AV.aA,af,ae,-alh,iF,dG cP,he],by simp[AV.aA,aj,af,iF,dG cP,he]⟩
 ·have nB:jD code q=none:=by unfold jD;rw[if_neg hp]
  have he:jL code l=q:=by
   rw[<-hf];cases f with
   |zero=>rfl
   |succ f=>rw[rk,nB]
  have go:∀(t:Fr) (n:Nat),ah t 0=.d X->ah t 3=.ptr 0 0->ah t 4=.ptr 1 0->KE ⟨t,[(0,q.cells.map .d),(1,sU.cells.map .d)],n+2⟩:=by
   intro t n e0 e3 e4;rw[he]at cP;apply fV;refine aa λK hK=>ag (by simp[aE]) ?_;simp only[go_sem,e3,e4,als,dG cP,eJ cP,px,zb cP (eJ jC),eJ jC,alo,ali];apply hK;apply an;exact⟨.agg (q.cells.map .d),by simp[bj,aP,bt,ah,ai,ak,aG,iF,dG cP,he,e4],[],[],rfl,rfl,by simp[aL,aF,ai,ak,aG,aj,AV.aA,af,ae,-alh,iF,dG cP,he,e4],by simp[AV.aA,aj,af,iF,dG cP,he,e4]⟩
  by_cases h0:0<=q.pc
  ·have h1:¬q.pc<code.length:=by omega
   refine J λK hK=>?_;simp only[go_sem,als,sX,eq_true h0,hlen,eq_false h1,decide_true,decide_false];apply hK;refine aH ?_;apply aW;exact go _ 0 (by simp[ah]) (by simp[ah]) (by simp[ah])
  ·refine J λK hK=>?_;simp only[go_sem,als,sX,eq_false h0,decide_false];apply hK;refine aH ?_;apply aW;exact go _ 0 (by simp[ah]) (by simp[ah]) (by simp[ah])
def vt (p:Prog):Prop:=∀l∈p.threads,l.length<=1000000
theorem xn {p:Prog} (h:vt p) (t:Int):(fT p t).length<=1000000:=by
 unfold fT;split
 ·rename_i ht;rw[alC,alw (by omega)];exact h _ (alR _)
 ·simp
section
variable{p:Prog} {L I T:DV}
theorem CW (t:Int):(nH p t).ok:=rm jC
theorem NG (hT:cQ Ins.cells p.threads T) (hs:vt p) (t:Int):Pure aK 125 [.agg [.d L,.d I,.d T],au t] (.agg ((nH p t).cells.map .d)):=by
 have k1:=sY (L:=L) (I:=I) hT t;have k2:=Ar (CU hT t) (xn hs t) jC;have cP:(nH p t).ok:=CW t;refine ay func125 Wt ntmps125 results125 rfl ?_;unfold adq;refine J λK hK=>?_;simp only[go_sem,CT,Hs];refine hK _ (J λK hK=>?_);simp only[go_sem];refine a8 (k1) ?_;simp only[go_sem,CT];refine a8 (k2) ?_;simp only[go_sem,eJ jC];have he:jL (fT p t) sU=nH p t:=rfl;rw[he];simp only[go_sem,eJ cP,pw cP,px,zb cP (eJ jC),eJ jC,alo,ali];apply hK;apply an
 exact⟨.agg ((nH p t).cells.map .d),by simp[bj,aP,bt,ah,ai,ak,aG,iF,dG cP],[],[],rfl,rfl,by simp[aL,aF,ai,ak,aG,aj,AV.aA,af,ae,-alh,iF,dG cP],by simp[AV.aA,aj,af,iF,dG cP]⟩
def et (o:Option Ins):AV:=.cC [.agg ((o.getD gC).cells.map .d),.d (.bool o.isSome)]
theorem tY (hT:cQ Ins.cells p.threads T) (t:Int) {l:kN} (h:l.ok):
 Pure aK 191 [.agg [.d L,.d I,.d T],au t,.agg (l.cells.map .d)] (et (ec p t l)):=by
 have k1:=sY (L:=L) (I:=I) hT t;have hX:=CU hT t;have hlen:=hX.len;refine ay func191 W6 ntmps191 results191 rfl ?_;unfold adU;refine J λK hK=>?_;simp only[go_sem];refine hK _ (J λK hK=>?_);simp only[go_sem];refine a8 (k1) ?_;simp only[go_sem];apply hK;refine aa λK1 aT=>?_;by_cases h0:l.pc<0
 ·have hn:ec p t l=none:=by unfold ec;rw[if_neg (by omega)]
  refine J λK hK=>?_;simp only[go_sem,als,sX,eq_true h0,decide_true];apply hK;refine aM ?_;refine J λK hK=>?_;simp only[go_sem];apply hK;apply an;exact⟨et (ec p t l),by simp[bj,aP,bt,ah,ai,ak,aG,et,hn,gC,Ins.cells,aN,show mV aK 72=some (some 9) by kernel_rfl],[],[],rfl,rfl,by simp[aL,aF,ai,ak,aG,aj,AV.aA,af,ae,-alh,et,hn,gC,Ins.cells,aN,show mV aK 72=some (some 9) by kernel_rfl],by simp[AV.aA,aj,af,et,hn,gC,Ins.cells,aN,show mV aK 72=some (some 9) by kernel_rfl]⟩
 ·by_cases h1:l.pc<(fT p t).length
  ·have Q6:¬((fT p t).length:Int)<=l.pc:=by omega
   have h2:0<=l.pc:=by omega
   obtain⟨cs,rest,gL,bT,cq⟩:=hX.at kM (by omega) l.pc.toNat (by omega);have hgi:(fT p t).getD l.pc.toNat gC=(fT p t)[l.pc.toNat]'(by omega):=by
    rw[alC,alw];rfl
   obtain⟨i,hi⟩:∃i,i=(fT p t)[l.pc.toNat]'(by omega):=⟨_,rfl⟩
   rw[<-hi]at bT hgi;have hn:ec p t l=if 1<=i.kind/\i.kind<=4 then some i else none:=by unfold ec;rw[if_pos ⟨h2,h1⟩];simp only[hgi]
   have bn:l.pc.toNat*9<cs.length:=cq;refine J λK hK=>?_;simp only[go_sem,als,sX,eq_false h0,hlen,eq_false Q6,decide_false];apply hK;refine aH ?_;apply ar;refine aT _ (J λK hK=>?_);simp only[go_sem,als,sX,gL,h2,h1,bn,bT,Ins.cells];apply hK;refine aa λK2 eX=>?_;by_cases h3:i.kind<1
   ·rw[if_neg (by omega)]at hn;refine J λK hK=>?_;simp only[go_sem,eq_true h3,decide_true];apply hK;refine aM ?_;refine J λK hK=>?_;simp only[go_sem];apply hK;apply an;exact⟨et (ec p t l),by simp[bj,aP,bt,ah,ai,ak,aG,et,hn,gC,Ins.cells,aN,show mV aK 72=some (some 9) by kernel_rfl],[],[],rfl,rfl,by simp[aL,aF,ai,ak,aG,aj,AV.aA,af,ae,-alh,et,hn,gC,Ins.cells,aN,show mV aK 72=some (some 9) by kernel_rfl],by simp[AV.aA,aj,af,et,hn,gC,Ins.cells,aN,show mV aK 72=some (some 9) by kernel_rfl]⟩
   ·by_cases h4:4<i.kind
    ·rw[if_neg (by omega)]at hn;refine J λK hK=>?_;simp only[go_sem,eq_false h3,eq_true h4,decide_true,decide_false];apply hK;refine aM ?_;refine J λK hK=>?_;simp only[go_sem];apply hK;apply an;exact⟨et (ec p t l),by simp[bj,aP,bt,ah,ai,ak,aG,et,hn,gC,Ins.cells,aN,show mV aK 72=some (some 9) by kernel_rfl],[],[],rfl,rfl,by simp[aL,aF,ai,ak,aG,aj,AV.aA,af,ae,-alh,et,hn,gC,Ins.cells,aN,show mV aK 72=some (some 9) by kernel_rfl],by simp[AV.aA,aj,af,et,hn,gC,Ins.cells,aN,show mV aK 72=some (some 9) by kernel_rfl]⟩
    ·rw[if_pos (by omega)]at hn;refine J λK hK=>?_;simp only[go_sem,eq_false h3,eq_false h4,decide_true,decide_false];apply hK;refine aH ?_;apply ar;refine eX _ (J λK hK=>?_);simp only[go_sem];apply hK;apply an;exact⟨et (ec p t l),by simp[bj,aP,bt,ah,ai,ak,aG,et,hn,gC,Ins.cells,aN,show mV aK 72=some (some 9) by kernel_rfl],[],[],rfl,rfl,by simp[aL,aF,ai,ak,aG,aj,AV.aA,af,ae,-alh,et,hn,gC,Ins.cells,aN,show mV aK 72=some (some 9) by kernel_rfl],by simp[AV.aA,aj,af,et,hn,gC,Ins.cells,aN,show mV aK 72=some (some 9) by kernel_rfl]⟩
  ·have Q6:((fT p t).length:Int)<=l.pc:=by omega
   have hn:ec p t l=none:=by unfold ec;rw[if_neg (by omega)]
   refine J λK hK=>?_;simp only[go_sem,als,sX,eq_false h0,hlen,eq_true Q6,decide_true,decide_false];apply hK;refine aM ?_;refine J λK hK=>?_;simp only[go_sem];apply hK;apply an;exact⟨et (ec p t l),by simp[bj,aP,bt,ah,ai,ak,aG,et,hn,gC,Ins.cells,aN,show mV aK 72=some (some 9) by kernel_rfl],[],[],rfl,rfl,by simp[aL,aF,ai,ak,aG,aj,AV.aA,af,ae,-alh,et,hn,gC,Ins.cells,aN,show mV aK 72=some (some 9) by kernel_rfl],by simp[AV.aA,aj,af,et,hn,gC,Ins.cells,aN,show mV aK 72=some (some 9) by kernel_rfl]⟩
theorem Kc {t:Int} {l:kN} {i:Ins} (h:ec p t l=some i):0<=l.pc/\l.pc<(fT p t).length:=by
 unfold ec at h;split at h;·assumption
 ·cases h
theorem CX {t:Int} {l:kN} (h:l.ok) (v:Int):(iY p t l v).ok:=by
 unfold iY;split;·exact h
 ·simp only;split;·exact rm (zc h _ _)
  ·exact rm h
theorem NH (hT:cQ Ins.cells p.threads T) (hs:vt p) (t:Int) {l:kN} (h:l.ok) (v:Int):
 Pure aK 241 [.agg [.d L,.d I,.d T],au t,.agg (l.cells.map .d),au v] (.agg ((iY p t l v).cells.map .d)):=by
 have k1:=tY (L:=L) (I:=I) hT t h;have k2:=sY (L:=L) (I:=I) hT t;have cP:(iY p t l v).ok:=CX h v;have O8:=xn hs t;refine ay func241 Xg ntmps241 results241 rfl ?_;unfold ad4;refine J λK hK=>?_;simp only[go_sem,CT,Hs];refine hK _ (J λK hK=>?_);simp only[go_sem,als,dG h];refine aI k1 (by simp[bZ,cd]) (by simp[et,bZ,cd]) ?_;cases hn:ec p t l with
 |none=>
  have ha:iY p t l v=l:=by unfold iY;rw[hn]
  simp only[go_sem,et,Option.getD_none,alD,gC,Ins.cells];apply hK;refine aa λK1 aT=>?_;refine J λK hK=>?_;simp only[go_sem];apply hK;refine aM ?_;rw[ha]at cP⊢;refine J λK hK=>?_;simp only[go_sem,als,dG cP,eJ cP,px,zb cP (eJ jC),eJ jC,alo,ali];apply hK;apply an;exact⟨.agg (l.cells.map .d),by simp[bj,aP,bt,ah,ai,ak,aG,iF,dG cP],[],[],rfl,rfl,by simp[aL,aF,ai,ak,aG,aj,AV.aA,af,ae,-alh,iF,dG cP],by simp[AV.aA,aj,af,iF,dG cP]⟩
 |some i=>
  have hpc:=Kc hn;have hw:alv.wrap (l.pc+1)=l.pc+1:=wrap_i64 (by omega) (by omega);have ha:iY p t l v=jL (fT p t) {(if i.kind=2\/i.kind=4 then fS l i.ez v else l)with pc:=l.pc+1}:=by unfold iY;rw[hn]
  simp only[go_sem,et,al6,alH,Ins.cells];apply hK;refine aa λK1 aT=>?_;refine J λK hK=>?_;simp only[go_sem];apply hK;refine aH ?_;apply ar;apply aT;have tail:∀(tt:Fr) (n:Nat) (q:kN),q.ok->q.pc=l.pc->ah tt 4=.ptr 0 0->ah tt 6=.ptr 1 0->ah tt 8=.ptr 2 0->ah tt 1=au t->0<=n->iY p t l v=jL (fT p t) {q with pc:=l.pc+1}->
   fP aK (aE []) 42 (.seq (.region false [oM 33 (.dI (.t 6) 0),oM 34 (.load none (.t 33)),oM 35 (.bin .add (.t 34) (.c (au 1))),oM 36 (.dI (.t 6) 0),⟨none,.store 1 (.t 36) (.t 35),none⟩] [])
    (.seq (.region true [oM 37 (.load (some 3) (.t 4)),oM 38 (.mv (.t 1)),oM 39 (.bW 175 [.t 37,.t 38]),oM 40 (.load (some 5) (.t 6)),oM 41 (.bW 174 [.t 39,.t 40]),⟨none,.store 5 (.t 8) (.t 41),none⟩] [0,0,3,0,12,31]) .ret)) ⟨tt,[(0,[.d L,.d I,.d T]),(1,q.cells.map .d),(2,sU.cells.map .d),(3,i.cells.map .d)],n⟩
    (nC aK #[.cell 8 183] (aE []) λr m'=>r=.agg ((iY p t l v).cells.map .d)/\m'=[]):=by
   intro tt n q hq hqp e4 e6 e8 e1 ZK he;have Bg:(kN.mk (l.pc+1) q.lG).ok:=hq;have k3:=Ar (CU hT t) O8 Bg;have Ty:jL (fT p t) ⟨l.pc+1,q.lG⟩=iY p t l v:=he.symm;rw[Ty]at k3;refine aa λK hK=>ag (by simp[aE]) ?_;simp only[go_sem,e6,als,sX,hqp,hw,eJ hq,pw hq,CS];apply hK;refine aa λK hK=>az rfl (by simp[aE]) ?_;simp only[go_sem,e4,e6,e8,e1,als];refine dw (k2) ?_;simp only[go_sem,dG Bg,e6,als];refine dw (k3) ?_;simp only[go_sem,e8,eJ cP,pw cP,px,zb cP (eJ jC),eJ jC,alo,ali];refine⟨rfl,hK _ ?_⟩;apply an
   exact⟨.agg ((iY p t l v).cells.map .d),by simp[bj,aP,bt,ah,ai,ak,aG,iF,dG cP,e8],[],[],rfl,rfl,by simp[aL,aF,ai,ak,aG,aj,AV.aA,af,ae,-alh,iF,dG cP,e8],by simp[AV.aA,aj,af,iF,dG cP,e8]⟩
  refine aa λK2 eX=>?_;have tl2:∀(tt:Fr) (n:Nat),ah tt 4=.ptr 0 0->ah tt 6=.ptr 1 0->ah tt 8=.ptr 2 0->ah tt 9=.ptr 3 0->ah tt 3=au v->ah tt 1=au t->(i.kind=2\/i.kind=4)->
   fP aK (aE []) 42 (.region false [oM 29 (.dI (.t 9) 1),oM 30 (.load none (.t 29)),oM 31 (.mv (.t 3)),oM 32 (.bW 236 [.t 6,.t 30,.t 31])] []) ⟨tt,[(0,[.d L,.d I,.d T]),(1,l.cells.map .d),(2,sU.cells.map .d),(3,i.cells.map .d)],n⟩ (Exit.jQ K2 (nC aK #[.cell 8 183] (aE []) λr m'=>r=.agg ((iY p t l v).cells.map .d)/\m'=[])):=by
   intro tt n e4 e6 e8 e9 e3 e1 hk;rw[if_pos hk]at ha;refine ag (by simp[aE]) ?_;simp only[go_sem,e6,e9,e3,Ins.cells];refine bA [(0,1)] [.ptr 0 0,au i.ez,au v] [(0,l.cells.map .d)] (nb:=1000) (xl h _ _) (by simp[bX]) (by first|(simp[aj,AV.aA,af];done)|simp[aj,AV.aA,af]) (by first|(simp[bZ,cd,af];done)|simp[bZ,cd,af]) (by simp[handed,af,ai,ak,aG,aj,AV.aA,bZ,cd]) rfl ?_;rintro r0 m' ⟨rfl,rfl⟩;simp only[go_sem,bx,bR,bU,ai,ak,aG,cf,af,aj,bQ,AV.aA,alH,alD,alF,alK,alM,aly];apply eX;refine tail _ _ _ (zc h i.ez v) (FG _ _) ?_ ?_ ?_ ?_ (by omega) ha<;>simp[ah,e4,e6,e8,e1]
  by_cases h2:i.kind=2
  ·refine J λK hK=>?_;simp only[go_sem,eq_true h2,decide_true];apply hK;refine aM ?_;exact tl2 _ _ rfl rfl rfl rfl rfl rfl (.inl h2)
  ·by_cases h4:i.kind=4
   ·refine J λK hK=>?_;simp only[go_sem,eq_false h2,eq_true h4,decide_true,decide_false];apply hK;refine aM ?_;exact tl2 _ _ rfl rfl rfl rfl rfl rfl (.inr h4)
   ·rw[if_neg (by omega)]at ha;refine J λK hK=>?_;simp only[go_sem,eq_false h2,eq_false h4,decide_true,decide_false];apply hK;refine aH ?_;apply ar;simp only[go_sem];apply eX;exact tail _ _ _ h rfl rfl rfl rfl rfl (by omega) ha
end
end
end Go.Proofs.YtadocofdkdiboaaGreatDoor
namespace Go.Jq
open Go
section
variable{α:Type} {enc:α->List DV} {w:Nat}
theorem lx (hw:∀a,(enc a).length=w):∀(l:List α),(l.flatMap enc).length=l.length*w
 | []=>by simp
 |a::l=>by rw[alO,aln,hw,lx hw l,alu,Nat.add_mul];omega
theorem tZ (hw:∀a,(enc a).length=w):∀(l:List α) (i:Nat),(l.flatMap enc).drop (i*w)=(l.drop i).flatMap enc
 |l,0=>by simp
 | [],i+1=>by simp
 |a::l,i+1=>by
  rw[alO,show(i+1)*w=(enc a).length+i*w by rw[hw,Nat.add_mul];omega,List.drop_append,Nat.add_sub_cancel_left,tZ hw l i,List.drop_of_length_le (by omega),al8,List.drop_succ_cons]
theorem vu (hw:∀a,(enc a).length=w):∀(l:List α) (i:Nat),(l.flatMap enc).take (i*w)=(l.take i).flatMap enc
 |l,0=>by simp
 | [],i+1=>by simp
 |a::l,i+1=>by
  rw[alO,show(i+1)*w=(enc a).length+i*w by rw[hw,Nat.add_mul];omega,List.take_append,List.take_succ_cons,alO,<-vu hw l i]
  congr 1
  ·exact alx (by omega)
  ·congr 1;omega
theorem FH {l:List α} {i:Nat} (x:α) (hi:i<l.length):l.set i x=l.take i++x::l.drop (i+1):=by
 rw[List.set_eq_take_append_cons_drop,if_pos hi]
variable{pre post:List DV} {l:List α}
theorem Kd (hw:∀a,(enc a).length=w) {i:Nat} (hi:i<l.length):(pre++(l.flatMap enc++post)).drop (pre.length+i*w)=enc l[i]++((l.drop (i+1)).flatMap enc++post):=by
 rw[List.drop_append,List.drop_of_length_le (by omega),al8,show pre.length+i*w-pre.length=i*w by omega,List.drop_append,tZ hw,List.drop_eq_getElem_cons hi,alO];have hle:i*w<=(l.flatMap enc).length:=by rw[lx hw];exact Nat.mul_le_mul_right _ (by omega)
 rw[show i*w-(l.flatMap enc).length=0 by omega,als,List.append_assoc]
theorem BD (hw:∀a,(enc a).length=w):(pre++(l.flatMap enc++post)).length=pre.length+l.length*w+post.length:=by
 rw[aln,aln,lx hw];omega
theorem aa6 (hw:∀a,(enc a).length=w) {i:Nat} (hi:i<l.length) (x:α):
 putAt ((pre++(l.flatMap enc++post)).map AV.d) (pre.length+i*w) ((enc x).map AV.d)=(pre++((l.set i x).flatMap enc++post)).map AV.d:=by
 have hle:i*w+w<=l.length*w:=by
  have:=Nat.mul_le_mul_right w (show i+1<=l.length from hi);rw[Nat.add_mul]at this;omega
 rw[oC _ _ _ (by rw[alk,alk,hw,BD hw];omega),alk,hw,<-List.map_take,<-List.map_drop,<-al1,<-al1]
 congr 1
 have h1:(pre++(l.flatMap enc++post)).take (pre.length+i*w)=pre++(l.take i).flatMap enc:=by
  rw[List.take_append,alx (by omega),show pre.length+i*w-pre.length=i*w by omega,List.take_append,vu hw,
   show i*w-(l.flatMap enc).length=0 by rw[lx hw];omega]
  simp
 have h2:(pre++(l.flatMap enc++post)).drop (pre.length+i*w+w)=(l.drop (i+1)).flatMap enc++post:=by
  rw[show pre.length+i*w+w=(pre.length+i*w)+w by omega,<-List.drop_drop,Kd hw hi,List.drop_append,hw];rw[List.drop_of_length_le (by rw[hw];omega)];simp
 rw[h1,h2,FH x hi,List.flatMap_append,alO];simp only[List.append_assoc]
end
end Go.Jq
namespace Go.Proofs.YtadocofdkdiboaaGreatDoor
open Go Go.Jq
theorem iR (e:Entry):e.cells.length=3:=rfl
def Bf.ok (b:Bf):Prop:=b.l.length<=24
def Bf.pad (b:Bf):List Entry:=b.l++alA (24-b.l.length) cK
section
variable{b:Bf}
theorem CY:b.cells=[.int .i64 b.m,.int .i64 (b.l.length:Int)]++(b.pad.flatMap Entry.cells++[]):=by simp[Bf.cells,Bf.pad]
theorem BE (h:b.ok):b.pad.length=24:=by have:b.l.length<=24:=h;simp[Bf.pad];omega
theorem gh (h:b.ok):b.cells.length=74:=by rw[CY,BD iR,BE h];rfl
theorem gN (h:b.ok):(b.cells.map AV.d).length=74:=by rw[alk,gh h]
theorem ff (h:b.ok):aN (some 74) (b.cells.map AV.d)=some (.agg (b.cells.map AV.d)):=by
 simp only[aN,gN h,alx (Nat.le_of_eq (gN h))];rfl
theorem Ke:aN none (b.cells.map AV.d)=some (au b.m):=rfl
theorem XN:aN none ((b.cells.map AV.d).drop 1)=some (au b.l.length):=rfl
theorem py:(b.cells.map AV.d).all mf=true:=eR _
theorem CZ (h:b.ok) {cs:List AV} (hc:cs.length=74):putAt cs 0 (b.cells.map AV.d)=b.cells.map AV.d:=iP (by rw[gN h,hc])
theorem NI {n:Nat}:sk n (b.cells.map AV.d)=b.cells.map AV.d:=rfl
theorem aa7 (h:b.ok) {i:Nat} (hi:i<24):b.cells.drop (2+i*3)=(b.pad.getD i cK).cells++((b.pad.drop (i+1)).flatMap Entry.cells):=by
 have hl:=BE h;have:=Kd (pre:=[.int .i64 b.m,.int .i64 (b.l.length:Int)]) (post:=[]) iR (l:=b.pad) (i:=i) (by omega);rw[CY];rw[alC,alw (by omega:i<b.pad.length),al6];simpa using this
theorem NJ (h:b.ok) {i:Nat} (hi:i<24):aN none ((b.cells.map AV.d).drop (2+i*3))=some (au ((b.pad.getD i cK).loc))
 /\aN none ((b.cells.map AV.d).drop (2+i*3+1))=some (au ((b.pad.getD i cK).value))
 /\aN none ((b.cells.map AV.d).drop (2+i*3+2))=some (au ((b.pad.getD i cK).id)):=by
 have hd:=aa7 h hi;refine⟨?_,?_,?_⟩;·rw[<-List.map_drop,hd];rfl
 ·rw[<-List.drop_drop,<-List.map_drop,hd];rfl
 ·rw[<-List.drop_drop,<-List.map_drop,hd];rfl
theorem NK (h:b.ok) {i:Nat} (hi:i<b.l.length):b.pad.getD i cK=b.l[i]:=by
 unfold Bf.pad;rw[alC,List.getElem?_append,if_pos hi,alw hi];rfl
end
theorem iG:mV Tryz.prog 190=some (some 74):=by kernel_rfl
theorem Ht (m:Int):(sa m).ok:=by simp[sa,Bf.ok]
def TC:Bf:=⟨0,[]⟩
theorem C0:TC.ok:=by simp[TC,Bf.ok]
theorem P6: [au 0,au 0,au 0,au 0,au 0,au 0,au 0,au 0,au 0,au 0,au 0,au 0,au 0,au 0,au 0,au 0,au 0,au 0,au 0,au 0,au 0,au 0,au 0,au 0,au 0,au 0,au 0,au 0,au 0,au 0,au 0,au 0,au 0,au 0,au 0,au 0,au 0,au 0,au 0,au 0,au 0,au 0,au 0,au 0,au 0,au 0,au 0,au 0,au 0,au 0,au 0,au 0,au 0,au 0,au 0,au 0,au 0,au 0,au 0,au 0,au 0,au 0,au 0,au 0,au 0,au 0,au 0,au 0,au 0,au 0,au 0,au 0,au 0,au 0]=TC.cells.map AV.d:=rfl
theorem Kf (m:Int):Pure Tryz.prog 126 [au m] (.agg ((sa m).cells.map .d)):=by
 have h0:=C0;have hn:=Ht m;refine ay Tryz.func126 Wu Tryz.ntmps126 Tryz.results126 rfl ?_;unfold adr;refine J λK hK=>?_;simp only[go_sem,P6,NI];apply hK;refine aa λK1 aT=>?_;have tail:∀(t:Fr) (n:Nat) (q:Int),ah t 0=au q->ah t 2=.ptr 0 0->(sa m)=⟨q,[]⟩->K1 ⟨t,[(0,TC.cells.map .d)],n⟩:=by
  intro t n q e0 e2 hq;have hc:(TC.cells.map AV.d).set 0 (au q)=(sa m).cells.map AV.d:=by rw[hq];rfl
  apply aT;refine aa λK hK=>ag (by simp[aE]) ?_;simp only[go_sem,e0,e2,P6,gN h0,gh h0,hc,gN hn,gh hn,py,CZ hn (gN h0),alo,ali];apply hK;apply an;exact⟨.agg ((sa m).cells.map .d),by simp[bj,aP,bt,ah,ai,ak,aG,iG,ff hn,e2],[],[],rfl,rfl,by simp[aL,aF,ai,ak,aG,aj,AV.aA,af,ae,-alh,iG,ff hn,e2],by simp[AV.aA,aj,af,iG,ff hn,e2]⟩
 by_cases h2:m=2
 ·refine J λK hK=>?_;simp only[go_sem,eq_true h2,decide_true,alT];apply hK;refine aH ?_;apply ar;simp only[go_sem];exact tail _ _ m rfl rfl (by simp[sa,h2])
 ·by_cases h3:m=3
  ·refine J λK hK=>?_;simp only[go_sem,eq_false h2,eq_true h3,decide_true,decide_false,alT,al7];apply hK;refine aH ?_;apply ar;simp only[go_sem];exact tail _ _ m rfl rfl (by simp[sa,h3])
  ·refine J λK hK=>?_;simp only[go_sem,eq_false h2,eq_false h3,decide_true,decide_false,alT,al7];apply hK;refine aM ?_;refine ag rfl ?_;simp only[go_sem];exact tail _ _ 0 rfl rfl (by simp[sa,h2,h3])
theorem C1 (b:Bf):Pure Tryz.prog 192 [.agg (b.cells.map .d)] (.d (.bool b.empty)):=by
 refine ay Tryz.func192 W7 Tryz.ntmps192 Tryz.results192 rfl ?_;unfold adV;refine J λK hK=>?_;simp only[go_sem];refine hK _ (J λK hK=>?_);simp only[go_sem,als,XN];apply hK;apply an;simp only[go_sem];refine aD _ rfl rfl ⟨?_,rfl⟩;cases hb:b.l with
 |nil=>simp[ah,Bf.empty,hb]
 |cons x r=>
  have:¬(r.length:Int)+1=0:=by omega
  simp[ah,Bf.empty,hb,this]
end Go.Proofs.YtadocofdkdiboaaGreatDoor
namespace Go.Proofs.YtadocofdkdiboaaGreatDoor
open Go.Proofs.Tryz
open Go.Proofs.Tryz renaming prog → aK
section
open Go Go.Jq
def mC (b:Bf) (loc:Int):Int:=match b.which loc with
 |none=>-1
 |some i=>i
theorem Kg {b:Bf} {loc:Int} {i:Nat} (h:b.which loc=some i):i<b.l.length:=by
 unfold Bf.which at h;rw[List.findIdx?_eq_some_iff_getElem]at h;exact h.1
theorem xo {b:Bf} (hb:b.ok) (loc:Int):Pure aK 259 [.agg (b.cells.map .d),au loc] (au (mC b loc)):=by
 have hl:b.l.length<=24:=hb;refine ay func259 Xy ntmps259 results259 rfl ?_;unfold aem;refine J λK hK=>?_;simp only[go_sem];apply hK;refine aa λKE fV=>?_;refine J λK hK=>?_;simp only[go_sem,als,XN];apply hK;apply ax;refine aw (S':=⟨[(8,au (0:Nat)),(7,au b.l.length),(2,.ptr 0 0),(1,au loc)],[(0,b.cells.map .d)],1⟩) (aB.cj [(0,0)] ⟨by simp[aV,ah,AV.aA,aj,af],by simp[aL,aF,ai,ak,aj,AV.aA,af,ae,-alh],rfl,rfl⟩) ?_
 refine kV (λi=>⟨[(8,au (i:Nat)),(7,au b.l.length),(2,.ptr 0 0),(1,au loc)],[(0,b.cells.map .d)],1⟩) (λi=>∀j (hj:j<b.l.length),j<i->(decide (b.m=2)||decide (b.l[j].loc=loc))=false) b.l.length (λj _ h=>absurd h (by omega)) ?_;intro i hi hp;unfold PZ;by_cases bn:i<b.l.length
 ·have aQ:(i:Int)<b.l.length:=by omega
  have zd:(i:Int)<24:=by omega
  have hw:=cY (i:=i) (by omega);have hg:=(NJ hb (i:=i) (by omega)).1;rw[NK hb bn]at hg;have found:(decide (b.m=2)||decide (b.l[i].loc=loc))=true->mC b loc=i:=by
   intro h;have:b.which loc=some i:=by
    unfold Bf.which;rw[List.findIdx?_eq_some_iff_getElem];exact⟨bn,h,λj hj=>by rw[hp j (by omega) hj];simp⟩
   unfold mC;rw[this]
  have next:(decide (b.m=2)||decide (b.l[i].loc=loc))=false->∀j (hj:j<b.l.length),j<i+1->(decide (b.m=2)||decide (b.l[j].loc=loc))=false:=by
   intro h j hj wb;by_cases e:j=i;·subst e;exact h
   ·exact hp j hj (by omega)
  refine J λK hK=>?_;simp only[go_sem,aQ];apply hK;refine aa λK1 aT=>?_;refine aM ?_;apply ar;apply aT;refine aa λK1 aT=>?_;apply ax;refine J λK hK=>?_;simp only[go_sem];apply hK;by_cases hm:b.m=2
  ·refine J λK hK=>?_;simp only[go_sem,als,Ke,eq_true hm,decide_true];apply hK;refine aM ?_;refine J λK hK=>?_;simp only[go_sem];apply hK;apply an;exact⟨au (i:Nat),by simp[bj,aP,bt,ah,ai,ak,aG,found (by simp[hm])],[],[],rfl,rfl,by simp[aL,aF,ai,ak,aG,aj,AV.aA,af,ae,-alh,found (by simp[hm])],by simp[AV.aA,aj,af,found (by simp[hm])]⟩
  ·by_cases he:b.l[i].loc=loc
   ·refine J λK hK=>?_;simp only[go_sem,als,Ke,eq_false hm,alm,zd,alj,hg,eq_true he,decide_true,decide_false];apply hK;refine aM ?_;refine J λK hK=>?_;simp only[go_sem];apply hK;apply an;exact⟨au (i:Nat),by simp[bj,aP,bt,ah,ai,ak,aG,found (by simp[he])],[],[],rfl,rfl,by simp[aL,aF,ai,ak,aG,aj,AV.aA,af,ae,-alh,found (by simp[he])],by simp[AV.aA,aj,af,found (by simp[he])]⟩
   ·refine J λK hK=>?_;simp only[go_sem,als,Ke,eq_false hm,alm,zd,alj,hg,eq_false he,decide_true,decide_false];apply hK;refine aH ?_;apply ar;simp only[go_sem];apply aT;refine ag rfl ?_;simp only[go_sem,hw];refine⟨bn,next (by simp[hm,he]),?_⟩;exact aB.cj [(0,0)] ⟨by simp[aV,ah,AV.aA,aj,af],by simp[aL,aF,ai,ak,aG,aj,AV.aA,af,ae,-alh],rfl,rfl⟩
 ·have du:i=b.l.length:=by omega
  have aQ:¬(i:Int)<b.l.length:=by omega
  have hz:mC b loc=-1:=by
   have:b.which loc=none:=by
    unfold Bf.which;rw[List.findIdx?_eq_none_iff];intro e he;obtain⟨j,hj,rfl⟩:=List.mem_iff_getElem.1 he;exact hp j hj (by omega)
   unfold mC;rw[this]
  refine J λK hK=>?_;simp only[go_sem,aQ];apply hK;refine aa λK1 aT=>?_;refine aH ?_;apply aW;show KE _;refine fV _ (J λK hK=>?_);simp only[go_sem];apply hK;apply an;exact⟨au (-1),by simp[bj,aP,bt,ah,ai,ak,aG,hz],[],[],rfl,rfl,by simp[aL,aF,ai,ak,aG,aj,AV.aA,af,ae,-alh,hz],by simp[AV.aA,aj,af,hz]⟩
def qk (o:Option Entry):AV:=.cC [au ((o.getD cK).loc),au ((o.getD cK).value),au ((o.getD cK).id),.d (.bool o.isSome)]
theorem As {b:Bf} (hb:b.ok) (loc:Int):Pure aK 193 [.agg (b.cells.map .d),au loc] (qk (b.fU loc)):=by
 have hl:b.l.length<=24:=hb;have k:=xo hb loc;refine ay func193 W8 ntmps193 results193 rfl ?_;unfold adW;refine J λK hK=>?_;simp only[go_sem];refine hK _ (J λK hK=>?_);simp only[go_sem,als,ff hb];refine a8 (k) ?_;simp only[go_sem];apply hK;refine aa λK1 aT=>?_;cases XO:b.which loc with
 |none=>
  have Rm:mC b loc=-1:=by unfold mC;rw[XO]
  have ho:b.fU loc=none:=by unfold Bf.fU;rw[XO];rfl
  refine J λK hK=>?_;simp only[go_sem,Rm];apply hK;refine aM ?_;refine J λK hK=>?_;simp only[go_sem];apply hK;apply an;exact⟨qk (b.fU loc),by simp[bj,aP,bt,ah,ai,ak,aG,qk,ho,cK],[],[],rfl,rfl,by simp[aL,aF,ai,ak,aG,aj,AV.aA,af,ae,-alh,qk,ho,cK],by simp[AV.aA,aj,af,qk,ho,cK]⟩
 |some i=>
  have bn:=Kg XO;have Rm:mC b loc=i:=by unfold mC;rw[XO]
  have ho:b.fU loc=some b.l[i]:=by unfold Bf.fU;rw[XO];simp[bn]
  have zd:(i:Int)<24:=by omega
  have h0:¬(i:Int)<0:=by omega
  obtain⟨g0,g1,g2⟩:=NJ hb (i:=i) (by omega);rw[NK hb bn]at g0 g1 g2;refine J λK hK=>?_;simp only[go_sem,Rm,eq_false h0,decide_false];apply hK;refine aH ?_;apply ar;apply aT;refine aa λK hK=>az rfl rfl ?_;simp only[go_sem,alm,zd,alj,g0,g1,g2];refine⟨rfl,hK _ ?_⟩;apply an;exact⟨qk (b.fU loc),by simp[bj,aP,bt,ah,ai,ak,aG,qk,ho],[],[],rfl,rfl,by simp[aL,aF,ai,ak,aG,aj,AV.aA,af,ae,-alh,qk,ho],by simp[AV.aA,aj,af,qk,ho]⟩
def pz (o:Option Entry):AV:=.cC [au ((o.getD cK).value),au ((o.getD cK).id),.d (.bool o.isSome)]
theorem C2 (l:List Entry) (e:Entry) (loc:Int):tV (l++[e]) loc=if e.loc=loc then some e else tV l loc:=by
 induction l with
 |nil=>rfl
 |cons x l ih=>
  simp only[List.cons_append,tV,ih];by_cases h:e.loc=loc;·simp[h]
  ·simp[h]
theorem Au {b:Bf} (hb:b.ok) (loc:Int):Pure aK 237 [.agg (b.cells.map .d),au loc] (pz (b.oF loc)):=by
 have hl:b.l.length<=24:=hb;have hw0:alv.wrap ((b.l.length:Int)-1)=(b.l.length:Int)-1:=wrap_i64 (by omega) (by omega);refine ay func237 Xc ntmps237 results237 rfl ?_;unfold ad0;refine J λK hK=>?_;simp only[go_sem];apply hK;refine aa λKE fV=>?_;refine J λK hK=>?_;simp only[go_sem,als,XN,hw0];apply hK;apply ax;refine aw (S':=⟨[(7,au ((b.l.length:Int)-1)),(2,.ptr 0 0),(1,au loc)],[(0,b.cells.map .d)],1⟩) (aB.cj [(0,0)] ⟨by simp[aV,ah,AV.aA,aj,af],by simp[aL,aF,ai,ak,aj,AV.aA,af,ae,-alh],rfl,rfl⟩) ?_
 refine ef (ι:={n:Nat//n<=b.l.length/\tV (b.l.take n) loc=b.oF loc}) (λn=>⟨[(7,au ((n.1:Int)-1)),(2,.ptr 0 0),(1,au loc)],[(0,b.cells.map .d)],1⟩) (λn=>n.1) ⟨b.l.length,ali _,by rw[List.take_length];rfl⟩ ?_;rintro⟨n,hn,hf⟩;simp only;unfold PV;refine aa λK1 aT=>?_;cases n with
 |zero=>
  have hz:b.oF loc=none:=by rw[<-hf];rfl
  refine J λK hK=>?_;simp only[go_sem];apply hK;refine aH ?_;apply aW;show KE _;refine fV _ (J λK hK=>?_);simp only[go_sem];apply hK;apply an;exact⟨pz (b.oF loc),by simp[bj,aP,bt,ah,ai,ak,aG,pz,hz,cK],[],[],rfl,rfl,by simp[aL,aF,ai,ak,aG,aj,AV.aA,af,ae,-alh,pz,hz,cK],by simp[AV.aA,aj,af,pz,hz,cK]⟩
 |succ i=>
  have bn:i<b.l.length:=by omega
  have zd:(i:Int)<24:=by omega
  have h0:((i+1:Nat):Int)-1=i:=by omega
  have hw:alv.wrap ((i:Int)-1)=(i:Int)-1:=wrap_i64 (by omega) (by omega);obtain⟨g0,g1,g2⟩:=NJ hb (i:=i) (by omega);rw[NK hb bn]at g0 g1 g2;rw[RF b.l i bn,C2]at hf;rw[h0];refine J λK hK=>?_;simp only[go_sem,alm,decide_true];apply hK;refine aM ?_;apply ar;apply aT;refine aa λK1 aT=>?_;apply ax;by_cases he:b.l[i].loc=loc
  ·rw[if_pos he]at hf;refine J λK hK=>?_;simp only[go_sem,alm,zd,alj,g0,eq_true he,decide_true];apply hK;refine aM ?_;refine aa λK hK=>az rfl rfl ?_;simp only[go_sem,alm,zd,alj,g0,g1,g2];refine⟨rfl,hK _ ?_⟩;apply an;exact⟨pz (b.oF loc),by simp[bj,aP,bt,ah,ai,ak,aG,pz,hf.symm],[],[],rfl,rfl,by simp[aL,aF,ai,ak,aG,aj,AV.aA,af,ae,-alh,pz,hf.symm],by simp[AV.aA,aj,af,pz,hf.symm]⟩
  ·rw[if_neg he]at hf;refine J λK hK=>?_;simp only[go_sem,alm,zd,alj,g0,eq_false he,decide_false];apply hK;refine aH ?_;apply ar;simp only[go_sem];apply aT;refine ag rfl ?_;simp only[go_sem,hw];refine⟨⟨i,by omega,hf⟩,by simp only;omega,?_⟩;exact aB.cj [(0,0)] ⟨by simp[aV,ah,AV.aA,aj,af],by simp[aL,aF,ai,ak,aG,aj,AV.aA,af,ae,-alh],rfl,rfl⟩
def j0 (m n:Int) (E:List Entry):List DV:=[.int .i64 m,.int .i64 n]++(E.flatMap Entry.cells++[])
theorem BF (b:Bf):b.cells=j0 b.m b.l.length b.pad:=CY
theorem XP {m n:Int} {E:List Entry} {i:Nat} (hi:i<E.length) (e:Entry):
 putAt ((j0 m n E).map AV.d) (2+i*3) (e.cells.map .d)=(j0 m n (E.set i e)).map AV.d:=by
 unfold j0;exact aa6 (pre:=[.int .i64 m,.int .i64 n]) iR hi e
theorem FI {m n:Int} {E:List Entry} {i:Nat} (hi:i<E.length) (e:Entry):
 ((((j0 m n E).map AV.d).set (2+i*3) (au e.loc)).set (2+i*3+1) (au e.value)).set (2+i*3+1+1) (au e.id)=(j0 m n (E.set i e)).map AV.d:=XP hi e
theorem FJ {m n n':Int} {E:List Entry}:((j0 m n E).map AV.d).set 1 (au n')=(j0 m n' E).map AV.d:=rfl
theorem sZ {m n:Int} {E:List Entry} (h:E.length=24):(j0 m n E).length=74:=by unfold j0;rw[BD iR,h];rfl
theorem Hu {m n:Int} {E:List Entry}:aN none (((j0 m n E).map AV.d).drop 1)=some (au n):=rfl
theorem NL {b:Bf} (h:b.ok) (loc v id:Int):(b.put loc v id).ok:=by
 unfold Bf.put;split;·exact h
 ·show(b.l++[_]).length<=24;simp;omega
theorem aa8 {l:List Entry} (h:l.length<24) (e:Entry):(l++alA (24-l.length) cK).set l.length e=(l++[e])++alA (24-(l.length+1)) cK:=by
 rw[List.set_append_right _ _ (ali _),Nat.sub_self,show 24-l.length=(24-(l.length+1))+1 by omega,List.replicate_succ,List.set_cons_zero];simp
theorem XQ {b:Bf} (hb:b.ok) (loc v id:Int):Pure aK 239 [.agg (b.cells.map .d),au loc,au v,au id] (.agg ((b.put loc v id).cells.map .d)):=by
 have h0:=C0;have hl:b.l.length<=24:=hb;have cP:=NL hb loc v id;refine ay func239 Xe ntmps239 results239 rfl ?_;unfold ad2;refine J λK hK=>?_;simp only[go_sem,P6,NI];apply hK;refine aa λK1 aT=>?_;have same:b.put loc v id=b->∀(t:Fr) (n:Nat),ah t 4=.ptr 0 0->ah t 8=.ptr 1 0->fP aK (aE []) 39 (.seq (.region false [oM 25 (.load (some 74) (.t 4)),⟨none,.store 74 (.t 8) (.t 25),none⟩] []) .ret) ⟨t,[(0,b.cells.map .d),(1,TC.cells.map .d)],n⟩
  (Exit.jQ K1 (nC aK #[.cell 8 190] (aE []) λr m'=>r=.agg ((b.put loc v id).cells.map .d)/\m'=[])):=by
  intro he t n e4 e8;rw[he];refine aa λK hK=>ag (by simp[aE]) ?_;simp only[go_sem,e4,e8,als,ff hb,gN hb,gh hb,py,CZ hb (gN h0),gN h0,gh h0,alo,ali];apply hK;apply an;simp only[go_sem];exact⟨.agg (b.cells.map .d),by simp[bj,aP,bt,ah,ai,ak,aG,iG,ff hb,e8],[],[],rfl,rfl,by simp[aL,aF,ai,ak,aG,aj,AV.aA,af,ae,-alh,iG,ff hb,e8],by simp[AV.aA,aj,af,iG,ff hb,e8]⟩
 by_cases hm:b.m=0
 ·refine J λK hK=>?_;simp only[go_sem,als,Ke,eq_true hm,decide_true];apply hK;refine aM ?_;exact same (by simp[Bf.put,hm]) _ _ rfl rfl
 by_cases h1:loc<0
 ·refine J λK hK=>?_;simp only[go_sem,als,Ke,eq_false hm,eq_true h1,decide_true,decide_false];apply hK;refine aM ?_;exact same (by simp[Bf.put,h1]) _ _ rfl rfl
 by_cases h4:4<=loc
 ·refine J λK hK=>?_;simp only[go_sem,als,Ke,eq_false hm,eq_false h1,eq_true h4,decide_true,decide_false];apply hK;refine aM ?_;exact same (by simp[Bf.put,h4]) _ _ rfl rfl
 by_cases zd:24<=b.l.length
 ·have afx:(24:Int)<=b.l.length:=by omega
  refine J λK hK=>?_;simp only[go_sem,als,Ke,XN,eq_false hm,eq_false h1,eq_false h4,eq_true afx,decide_true,decide_false];apply hK;refine aM ?_;exact same (by simp[Bf.put,zd]) _ _ rfl rfl
 have afx:¬(24:Int)<=b.l.length:=by omega
 have afy:(b.l.length:Int)<24:=by omega
 have u5:=BE hb;have hw:alv.wrap ((b.l.length:Int)+1)=((b.l.length+1:Nat):Int):=by rw[wrap_i64 (by omega) (by omega)];rfl
 have he:b.put loc v id={b with l:=b.l++[⟨loc,v,id⟩]}:=by unfold Bf.put;rw[if_neg (by omega)]
 have jk:b.pad.set b.l.length ⟨loc,v,id⟩=(b.put loc v id).pad:=by
  rw[he];unfold Bf.pad;rw[aa8 (by omega)];simp
 have ZL:j0 b.m (b.l.length+1:Nat) (b.pad.set b.l.length ⟨loc,v,id⟩)=(b.put loc v id).cells:=by
  rw[BF,jk,he];simp
 have Mk:=FI (m:=b.m) (n:=b.l.length) (E:=b.pad) (i:=b.l.length) (by omega) ⟨loc,v,id⟩;have XR:2+b.l.length*3+3<=74:=by omega
 have iq:=BF b;have vw:=gh hb;refine J λK hK=>?_;simp only[go_sem,als,Ke,XN,eq_false hm,eq_false h1,eq_false h4,eq_false afx,decide_true,decide_false];apply hK;refine aH ?_;apply ar;apply aT;rw[iq]at vw⊢;have aa9:((j0 b.m b.l.length b.pad).map AV.d).length=74:=by rw[alk,vw]
 refine J λK hK=>?_;simp only[go_sem,Hu,alm,afy,alj,vw,aa9,XR,Mk];refine hK _ (J λK hK=>?_);simp only[go_sem,Hu,hw,alk,sZ (show(b.pad.set b.l.length ⟨loc,v,id⟩).length=24 by rw[List.length_set];exact u5),FJ,ZL];refine hK _ (J λK hK=>?_);simp only[go_sem,als,ff cP,gN cP,gh cP,py,CZ cP (gN h0),gN h0,gh h0,alo,ali];apply hK;apply an;exact⟨.agg ((b.put loc v id).cells.map .d),by simp[bj,aP,bt,ah,ai,ak,aG,iG,ff cP],[],[],rfl,rfl,by simp[aL,aF,ai,ak,aG,aj,AV.aA,af,ae,-alh,iG,ff cP],by simp[AV.aA,aj,af,iG,ff cP]⟩
theorem RL {m n:Int} {E F:List Entry} {i:Nat} (hi:i+F.length<=E.length):
 putAt ((j0 m n E).map AV.d) (2+i*3) ((F.flatMap Entry.cells).map AV.d)=(j0 m n (E.take i++F++E.drop (i+F.length))).map AV.d:=by
 have hF:=lx iR F;have hE:(j0 m n E).length=2+E.length*3:=by unfold j0;rw[BD iR];rfl
 rw[oC _ _ _ (by rw[alk,alk,hF,hE];omega),alk,hF,<-List.map_take,<-List.map_drop,<-al1,<-al1]
 congr 1
 have h1:(j0 m n E).take (2+i*3)=[.int .i64 m,.int .i64 n]++(E.take i).flatMap Entry.cells:=by
  unfold j0;rw[List.append_nil,List.take_append,alx (by simp),show 2+i*3- [DV.int .i64 m,.int .i64 n].length=i*3 by simp,vu iR]
 have h2:(j0 m n E).drop (2+i*3+F.length*3)=(E.drop (i+F.length)).flatMap Entry.cells:=by
  unfold j0;rw[List.append_nil,List.drop_append,List.drop_of_length_le (by simp;omega),al8,show 2+i*3+F.length*3- [DV.int .i64 m,.int .i64 n].length=(i+F.length)*3 by simp;omega,tZ iR]
 rw[h1,h2];unfold j0;simp only[List.flatMap_append,List.append_nil,List.append_assoc]
theorem RM {m n:Int} {E:List Entry} (hE:E.length=24) {i:Nat} (hi:i<=24):
 (((j0 m n E).map AV.d).drop (2+i*3)).take ((24-i)*3)=((E.drop i).flatMap Entry.cells).map AV.d:=by
 rw[<-List.map_drop,<-List.map_take]
 congr 1
 unfold j0;rw[List.append_nil,List.drop_append,List.drop_of_length_le (by simp),al8,show 2+i*3- [DV.int .i64 m,.int .i64 n].length=i*3 by simp,tZ iR];exact alx (by rw[lx iR,List.length_drop,hE];exact ali _)
theorem Hv {b:Bf} (h:b.ok) (loc:Int):(b.drop loc).ok:=by
 unfold Bf.drop;split;·exact h
 ·show(b.l.eraseIdx _).length<=24;have:=List.length_eraseIdx_le b.l (by assumption);have h':b.l.length<=24:=h;omega
theorem XS {l:List Entry} (hl:l.length<=24) {i:Nat} (hi:i<l.length):
 (((l++alA (24-l.length) cK).take i++(l++alA (24-l.length) cK).drop (i+1)++(l++alA (24-l.length) cK).drop 23).set (l.length-1) cK)
   =l.eraseIdx i++alA (24-(l.eraseIdx i).length) cK:=by
 have pU:(l.eraseIdx i).length=l.length-1:=by rw[List.length_eraseIdx];simp[hi]
 apply List.ext_getElem?;intro j;rw[List.getElem?_set];have hlen:((l++alA (24-l.length) cK).take i++(l++alA (24-l.length) cK).drop (i+1)++(l++alA (24-l.length) cK).drop 23).length=24:=by simp;omega
 rw[hlen];have hEl:(l++alA (24-l.length) cK).length=24:=by simp;omega
 have hE:∀k,(l++alA (24-l.length) cK)[k]?=if k<l.length then l[k]?else if k<24 then some cK else none:=by
  intro k;rw[List.getElem?_append,List.getElem?_replicate];by_cases h1:k<l.length;·rw[if_pos h1,if_pos h1]
  ·rw[if_neg h1,if_neg h1];by_cases h2:k<24;·rw[if_pos h2,if_pos (by omega)]
   ·rw[if_neg h2,if_neg (by omega)]
 generalize hG:l++alA (24-l.length) cK=E at hE hEl;rw[List.getElem?_append (l₁:=l.eraseIdx i),pU,List.getElem?_replicate,List.getElem?_eraseIdx];by_cases h1:l.length-1=j;·rw[if_pos h1,if_pos (by omega),if_neg (by omega),if_pos (by omega)]
 ·rw[if_neg h1,List.getElem?_append,List.getElem?_append];simp only[aln,List.length_take,List.length_drop,hEl,List.getElem?_take,List.getElem?_drop];by_cases h2:j<l.length-1
  ·rw[if_pos h2,if_pos (by omega)];by_cases h3:j<i;·rw[if_pos (by omega),if_pos h3,if_pos h3,hE,if_pos (by omega)]
   ·rw[if_neg (by omega),if_neg h3,hE,if_pos (by omega)]
    congr 1;omega
  ·rw[if_neg h2];by_cases h4:j<23;·rw[if_pos (by omega),if_neg (by omega),hE,if_neg (by omega),if_pos (by omega),if_pos (by omega)]
   ·rw[if_neg (by omega),hE];by_cases h5:j<24;·rw[if_neg (by omega),if_pos (by omega),if_pos (by omega)]
    ·rw[if_neg (by omega),if_neg (by omega),if_neg (by omega)]
theorem NM (F:List Entry):((F.flatMap Entry.cells).map AV.d).all mf=true:=eR _
theorem RN {b:Bf} (hb:b.ok) (loc:Int):Pure aK 242 [.agg (b.cells.map .d),au loc] (.agg ((b.drop loc).cells.map .d)):=by
 have h0:=C0;have hl:b.l.length<=24:=hb;have cP:=Hv hb loc;have k:=xo hb loc;refine ay func242 Xh ntmps242 results242 rfl ?_;unfold ad5;refine J λK hK=>?_;simp only[go_sem,P6,NI];refine hK _ (J λK hK=>?_);simp only[go_sem,als,ff hb];refine a8 (k) ?_;simp only[go_sem];apply hK;refine aa λK1 aT=>?_;cases XO:b.which loc with
 |none=>
  have Rm:mC b loc=-1:=by unfold mC;rw[XO]
  have ho:b.drop loc=b:=by unfold Bf.drop;rw[XO]
  refine J λK hK=>?_;simp only[go_sem,Rm];apply hK;refine aM ?_;refine J λK hK=>?_;simp only[go_sem,als,ff hb,gN hb,gh hb,py,CZ hb (gN h0),gN h0,gh h0,alo,ali];apply hK;apply an;exact⟨.agg (b.cells.map .d),by simp[bj,aP,bt,ah,ai,ak,aG,iG,ff hb,ho],[],[],rfl,rfl,by simp[aL,aF,ai,ak,aG,aj,AV.aA,af,ae,-alh,iG,ff hb,ho],by simp[AV.aA,aj,af,iG,ff hb,ho]⟩
 |some i=>
  have bn:=Kg XO;have Rm:mC b loc=i:=by unfold mC;rw[XO]
  have ho:b.drop loc={b with l:=b.l.eraseIdx i}:=by unfold Bf.drop;rw[XO]
  have zd:(i:Int)<24:=by omega
  have RG:¬(i:Int)<0:=by omega
  have hw:=cY (i:=i) (by omega);have u5:=BE hb;have iq:=BF b;have vw:=gh hb;have pU:(b.l.eraseIdx i).length=b.l.length-1:=by rw[List.length_eraseIdx];simp[bn]
  refine J λK hK=>?_;simp only[go_sem,Rm,eq_false RG,decide_false];apply hK;refine aH ?_;apply ar;apply aT;rw[iq]at vw⊢;have aa9:((j0 b.m b.l.length b.pad).map AV.d).length=74:=by rw[alk,vw]
  let E1:=b.pad.take i++b.pad.drop (i+1)++b.pad.drop 23
  have hE1:E1=b.pad.take i++b.pad.drop (i+1)++b.pad.drop 23:=rfl;have aba:E1.length=24:=by rw[hE1];simp only[aln,List.length_take,List.length_drop,u5];omega
  have hcp:putAt ((j0 b.m b.l.length b.pad).map AV.d) (2+i*3) (((b.pad.drop (i+1)).flatMap Entry.cells).map AV.d)=(j0 b.m b.l.length E1).map AV.d:=by
   rw[RL (by rw[List.length_drop,u5];omega),hE1,List.length_drop,u5]
   congr 3
   congr 1
   omega
  have IG:j0 b.m (b.l.length-1:Nat) (E1.set (b.l.length-1) cK)=(b.drop loc).cells:=by
   rw[BF,ho];simp only[pU]
   congr 1
   rw[hE1];exact XS hl bn
  clear_value E1
  have Mk:=FI (m:=b.m) (n:=(b.l.length-1:Nat)) (E:=E1) (i:=b.l.length-1) (by omega) cK;have e0:cK.loc=0/\cK.value=0/\cK.id=0:=⟨rfl,rfl,rfl⟩;rw[e0.1,e0.2.1,e0.2.2]at Mk;have hwn:alv.wrap ((b.l.length:Int)-1)=((b.l.length-1:Nat):Int):=by rw[wrap_i64 (by omega) (by omega)];omega
  have afy:((b.l.length-1:Nat):Int)<24:=by omega
  have XR:2+(b.l.length-1)*3+3<=74:=by omega
  have tail:∀(t:Fr) (n:Nat),ah t 2=.ptr 0 0->ah t 4=.ptr 1 0->fP aK (aE []) 30 (.seq (.region false [oM 20 (.dI (.t 2) 1),oM 21 (.load none (.t 20)),oM 22 (.bin .sub (.t 21) (.c (au 1))),oM 23 (.dI (.t 2) 1),⟨none,.store 1 (.t 23) (.t 22),none⟩] [])
   (.seq (.region false [oM 24 (.dI (.t 2) 1),oM 25 (.load none (.t 24)),oM 26 (.build [au 0,au 0,au 0] []),oM 27 (.dI (.t 2) 2),oM 28 (.cg 3 (some 24) (.t 27) (.t 25)),⟨none,.store 3 (.t 28) (.t 26),none⟩] [])
   (.seq (.region false [oM 29 (.load (some 74) (.t 2)),⟨none,.store 74 (.t 4) (.t 29),none⟩] []) .ret))) ⟨t,[(0,(j0 b.m b.l.length E1).map .d),(1,TC.cells.map .d)],n⟩
   (nC aK #[.cell 4 190] (aE []) λr m'=>r=.agg ((b.drop loc).cells.map .d)/\m'=[]):=by
   intro t n e2 e4;have Mg:((j0 b.m b.l.length E1).map AV.d).length=74:=by rw[alk,sZ aba]
   have Br:((j0 b.m (b.l.length-1:Nat) E1).map AV.d).length=74:=by rw[alk,sZ aba]
   refine aa λK hK=>ag (by simp[aE]) ?_;simp only[go_sem,e2,Hu,hwn,Mg,sZ aba,FJ];apply hK;refine aa λK hK=>ag (by simp[aE]) ?_;simp only[go_sem,e2,Hu,alm,afy,alj,Br,sZ aba,XR,Mk,IG];apply hK;refine aa λK hK=>ag (by simp[aE]) ?_;simp only[go_sem,e2,e4,als,ff cP,gN cP,gh cP,py,CZ cP (gN h0),gN h0,gh h0,alo,ali];apply hK;apply an;exact⟨.agg ((b.drop loc).cells.map .d),by simp[bj,aP,bt,ah,ai,ak,aG,iG,ff cP,e4],[],[],rfl,rfl,by simp[aL,aF,ai,ak,aG,aj,AV.aA,af,ae,-alh,iG,ff cP,e4],by simp[AV.aA,aj,af,iG,ff cP,e4]⟩
  by_cases h23:i+1=24
  ·have hE2:(j0 b.m b.l.length E1).map AV.d=(j0 b.m b.l.length b.pad).map AV.d:=by
    rw[<-hcp,List.drop_of_length_le (by omega)];rfl
   rw[hE2]at tail;have ake:i=23:=by omega
   subst ake;refine aa λK hK=>az rfl rfl ?_;simp only[go_sem,show alv.wrap (23+1)=24 from rfl,alm,alj,vw,aa9,ne_eq,not_false_eq_true,not_true_eq_false,alk,putAt];refine⟨rfl,hK _ ?_⟩;exact tail _ _ rfl rfl
  ·have hfr:=RM (m:=b.m) (n:=b.l.length) u5 (i:=i+1) (by omega);have fw:=NM (b.pad.drop (i+1));have a1:i<=24:=by omega
   have a2:i+1<=24:=by omega
   have a3:¬i=24:=by omega
   have a4:2+(i+1)*3+(24-(i+1))*3<=74:=by omega
   have a5:24-(i+1)<=24-i:=by omega
   have a6:¬24-i=0:=by omega
   have a7:2+i*3+(24-(i+1))*3<=74:=by omega
   refine aa λK hK=>az rfl rfl ?_;simp only[go_sem,hw,alm,alj,vw,aa9,a1,a2,a3,h23,a4,a5,ne_eq,a6,not_false_eq_true,a7,hfr,fw,hcp];refine⟨rfl,hK _ ?_⟩;exact tail _ _ rfl rfl
theorem kZ:mV aK 287=some (some 6):=by kernel_rfl
theorem EK (e:qE):Pure aK 240 [.agg (e.cells.map .d)] (.d (.bool (oE e.kind))):=by
 refine ay func240 Xf ntmps240 results240 rfl ?_;unfold ad3;refine J λK hK=>?_;simp only[go_sem,qE.cells];apply hK;by_cases h2:e.kind=2
 ·refine J λK hK=>?_;simp only[go_sem,eq_true h2,decide_true];apply hK;apply an;simp only[go_sem];refine aD _ rfl rfl ⟨?_,rfl⟩;simp[ah,oE,h2]
 ·by_cases h4:e.kind=4
  ·refine J λK hK=>?_;simp only[go_sem,eq_false h2,eq_true h4,decide_true,decide_false];apply hK;apply an;simp only[go_sem];refine aD _ rfl rfl ⟨?_,rfl⟩;simp[ah,oE,h4]
  ·refine J λK hK=>?_;simp only[go_sem,eq_false h2,eq_false h4,decide_true,decide_false];apply hK;apply an;simp only[go_sem];refine aD _ rfl rfl ⟨?_,rfl⟩;simp[ah,oE,h2,h4]
def oK (e:qE×Bool):AV:=.cC [.agg (e.1.cells.map .d),.d (.bool e.2)]
theorem RO (i:Ins) {l:kN} (h:l.ok) (v:Int):Pure aK 238 [.agg (i.cells.map .d),.agg (l.cells.map .d),au v] (oK (mA i l v)):=by
 have k1:=rj i.a h;have k2:=rj i.b h;refine ay func238 Xd ntmps238 results238 rfl ?_;unfold ad1;refine J λK hK=>?_;simp only[go_sem,Ins.cells];apply hK;refine aa λK1 aT=>?_;refine J λK hK=>?_;simp only[go_sem];apply hK;apply ax;by_cases h1:i.kind=1
 ·refine J λK hK=>?_;simp only[go_sem,eq_true h1,decide_true];apply hK;refine aM ?_;refine aa λK hK=>az rfl rfl ?_;simp only[go_sem,als,dG h];refine dw (k1) ?_;simp only[go_sem];refine⟨rfl,hK _ ?_⟩;apply an;exact⟨oK (mA i l v),by simp[bj,aP,bt,ah,ai,ak,aG,kZ,oK,mA,h1,qE.cells,aN],[],[],rfl,rfl,by simp[aL,aF,ai,ak,aG,aj,AV.aA,af,ae,-alh,kZ,oK,mA,h1,qE.cells,aN],by simp[AV.aA,aj,af,kZ,oK,mA,h1,qE.cells,aN]⟩
 by_cases h2:i.kind=2
 ·refine J λK hK=>?_;simp only[go_sem,eq_false h1,decide_false];apply hK;refine aH ?_;refine J λK hK=>?_;simp only[go_sem,eq_true h2,decide_true];apply hK;refine aM ?_;refine J λK hK=>?_;simp only[go_sem];apply hK;apply an;exact⟨oK (mA i l v),by simp[bj,aP,bt,ah,ai,ak,aG,kZ,oK,mA,h2,qE.cells,aN],[],[],rfl,rfl,by simp[aL,aF,ai,ak,aG,aj,AV.aA,af,ae,-alh,kZ,oK,mA,h2,qE.cells,aN],by simp[AV.aA,aj,af,kZ,oK,mA,h2,qE.cells,aN]⟩
 by_cases h4:i.kind=4
 ·refine J λK hK=>?_;simp only[go_sem,eq_false h1,decide_false];apply hK;refine aH ?_;refine J λK hK=>?_;simp only[go_sem,eq_false h2,decide_false];apply hK;refine aH ?_;refine J λK hK=>?_;simp only[go_sem,eq_true h4,decide_true];apply hK;refine aM ?_;refine aa λK2 eX=>?_;refine J λK hK=>?_;simp only[go_sem,als,dG h];refine a8 (k1) ?_;simp only[go_sem];apply hK;by_cases hv:ft i.a l=v
  ·refine aM ?_ (by simp[ev,ah,hv]);refine aa λK hK=>az rfl rfl ?_;simp only[go_sem,als,dG h];refine dw (k2) ?_;simp only[go_sem];refine⟨rfl,hK _ ?_⟩;apply an;exact⟨oK (mA i l v),by simp[bj,aP,bt,ah,ai,ak,aG,kZ,oK,mA,h4,hv,qE.cells,aN],[],[],rfl,rfl,by simp[aL,aF,ai,ak,aG,aj,AV.aA,af,ae,-alh,kZ,oK,mA,h4,hv,qE.cells,aN],by simp[AV.aA,aj,af,kZ,oK,mA,h4,hv,qE.cells,aN]⟩
  ·refine aH ?_ (by simp[ev,ah,hv]);apply ar;refine eX _ (J λK hK=>?_);simp only[go_sem];apply hK;apply an;exact⟨oK (mA i l v),by simp[bj,aP,bt,ah,ai,ak,aG,kZ,oK,mA,h4,hv,qE.cells,aN],[],[],rfl,rfl,by simp[aL,aF,ai,ak,aG,aj,AV.aA,af,ae,-alh,kZ,oK,mA,h4,hv,qE.cells,aN],by simp[AV.aA,aj,af,kZ,oK,mA,h4,hv,qE.cells,aN]⟩
 ·refine J λK hK=>?_;simp only[go_sem,eq_false h1,decide_false];apply hK;refine aH ?_;refine J λK hK=>?_;simp only[go_sem,eq_false h2,decide_false];apply hK;refine aH ?_;refine J λK hK=>?_;simp only[go_sem,eq_false h4,decide_false];apply hK;refine aH ?_;apply ar;simp only[go_sem];refine aT _ (J λK hK=>?_);simp only[go_sem];apply hK;apply an;exact⟨oK (mA i l v),by simp[bj,aP,bt,ah,ai,ak,aG,kZ,oK,mA,h1,h2,h4,qE.cells,aN],[],[],rfl,rfl,by simp[aL,aF,ai,ak,aG,aj,AV.aA,af,ae,-alh,kZ,oK,mA,h1,h2,h4,qE.cells,aN],by simp[AV.aA,aj,af,kZ,oK,mA,h1,h2,h4,qE.cells,aN]⟩
structure oW where
 L:DV
 I:DV
 T:DV
def i1 (x:Int):List DV:=[.int .i64 x]
theorem ua (s:bM):s.cells.length=7:=rfl
structure Vm.ok (v:Vm):Prop where
 locals:v.locals.length=4
 Kh:∀l∈v.locals,l.ok
 mem:v.mem.length=4
 src:v.src.length=4
 fe:v.fe.length=4
 Ki:∀b∈v.fe,b.ok
 ux:∀b∈v.fe,∀e∈b.l,0<=e.loc/\e.loc<4
def kO (d:oW) (v:Vm):List DV:=[d.L,d.I,d.T,.int .i64 v.m]++(v.locals.flatMap kN.cells++(v.mem.flatMap i1++(v.src.flatMap i1++(v.fe.flatMap Bf.cells++[]))))
def fN (d:oW) (v:Vm) (s:AV):List AV:=(kO d v).map AV.d++[s]
section
variable{α:Type} {enc:α->List DV} {w:Nat}
theorem iS:∀{l:List α},(∀a∈l,(enc a).length=w)->(l.flatMap enc).length=l.length*w
 | [],_=>by simp
 |a::l,h=>by rw[alO,aln,h a alU,iS λb hb=>h b (alY _ hb),alu,Nat.add_mul];omega
theorem vz:∀{l:List α} (i:Nat),(∀a∈l,(enc a).length=w)->(l.flatMap enc).drop (i*w)=(l.drop i).flatMap enc
 |l,0,_=>by simp
 | [],i+1,_=>by simp
 |a::l,i+1,h=>by
  rw[alO,show(i+1)*w=(enc a).length+i*w by rw[h a alU,Nat.add_mul];omega,List.drop_append,Nat.add_sub_cancel_left,vz i λb hb=>h b (alY _ hb),List.drop_of_length_le (by omega),al8,List.drop_succ_cons]
theorem C3:∀{l:List α} (i:Nat),(∀a∈l,(enc a).length=w)->(l.flatMap enc).take (i*w)=(l.take i).flatMap enc
 |l,0,_=>by simp
 | [],i+1,_=>by simp
 |a::l,i+1,h=>by
  rw[alO,show(i+1)*w=(enc a).length+i*w by rw[h a alU,Nat.add_mul];omega,List.take_append,List.take_succ_cons,alO,<-C3 i λb hb=>h b (alY _ hb)]
  congr 1
  ·exact alx (by omega)
  ·congr 1;omega
variable{pre post:List DV} {l:List α} {s:AV}
theorem xp (h:∀a∈l,(enc a).length=w) {i o:Nat} (hi:i<l.length) (ho:o=pre.length+i*w):
 aN (some w) (((pre++(l.flatMap enc++post)).map AV.d++[s]).drop o)=some (.agg ((enc l[i]).map .d)):=by
 subst ho;have hw:=h l[i] (alR hi);have hlen:(l.flatMap enc).length=l.length*w:=iS h;have hle:i*w+w<=l.length*w:=by
  have:=Nat.mul_le_mul_right w (show i+1<=l.length from hi);rw[Nat.add_mul]at this;omega
 have hd:(pre++(l.flatMap enc++post)).drop (pre.length+i*w)=enc l[i]++((l.drop (i+1)).flatMap enc++post):=by
  rw[List.drop_append,List.drop_of_length_le (by omega),al8,show pre.length+i*w-pre.length=i*w by omega,List.drop_append,vz i h,List.drop_eq_getElem_cons hi,alO,
   show i*w-(l.flatMap enc).length=0 by omega,als,List.append_assoc]
 rw[List.drop_append_of_le_length (by simp only[alk,aln,hlen];omega),<-List.map_drop,hd];rw[ep,if_pos (by simp only[aln,alk,hw];omega),al1,List.append_assoc,List.take_append,alk,hw,Nat.sub_self,List.take_zero,List.append_nil];rw[alx (by rw[alk,hw];exact ali _)]
theorem BG (h:∀a∈l,(enc a).length=w) {i o:Nat} (hi:i<l.length) (ho:o=pre.length+i*w) {x:α} (hx:(enc x).length=w):
 putAt ((pre++(l.flatMap enc++post)).map AV.d++[s]) o ((enc x).map .d)=(pre++((l.set i x).flatMap enc++post)).map AV.d++[s]:=by
 subst ho;have hlen:(l.flatMap enc).length=l.length*w:=iS h;have hle:i*w+w<=l.length*w:=by
  have:=Nat.mul_le_mul_right w (show i+1<=l.length from hi);rw[Nat.add_mul]at this;omega
 have El:(pre++(l.flatMap enc++post)).length=pre.length+l.length*w+post.length:=by simp only[aln,hlen];omega
 rw[oC _ _ _ (by simp only[aln,alk,hlen,hx];omega),alk,hx,
  List.take_append_of_le_length (by rw[alk,El];omega),List.drop_append_of_le_length (by rw[alk,El];omega),<-List.map_take,<-List.map_drop,<-List.append_assoc,<-al1,<-al1]
 congr 2
 have h1:(pre++(l.flatMap enc++post)).take (pre.length+i*w)=pre++(l.take i).flatMap enc:=by
  rw[List.take_append,alx (by omega),show pre.length+i*w-pre.length=i*w by omega,List.take_append,C3 i h,show i*w-(l.flatMap enc).length=0 by omega];simp
 have h2:(pre++(l.flatMap enc++post)).drop (pre.length+i*w+w)=(l.drop (i+1)).flatMap enc++post:=by
  have e:pre.length+i*w+w=pre.length+(i+1)*w:=by rw[Nat.add_mul];omega
  rw[e,List.drop_append,List.drop_of_length_le (by omega),al8,show pre.length+(i+1)*w-pre.length=(i+1)*w by omega,List.drop_append,vz (i+1) h];have:(i+1)*w-(l.flatMap enc).length=0:=by rw[Nat.add_mul];omega
  rw[this,als]
 rw[h1,h2,FH x hi,List.flatMap_append,alO];simp only[List.append_assoc]
end
section
variable{d:oW} {v:Vm} {s:AV}
theorem Aw (l:List Int):∀a∈l,(i1 a).length=1:=λ_ _=>rfl
theorem BH (h:v.ok):∀l∈v.locals,(kN.cells l).length=5:=λl hl=>pw (h.Kh l hl)
theorem Hw (h:v.ok):∀b∈v.fe,(Bf.cells b).length=74:=λb hb=>gh (h.Ki b hb)
theorem xq (h:v.ok):(kO d v).length=328:=by
 unfold kO;simp only[aln,iS (BH h),iS (Aw v.mem),iS (Aw v.src),iS (Hw h),h.locals,h.mem,h.src,h.fe,alu,alB]
theorem iZ (h:v.ok):(fN d v s).length=329:=by unfold fN;rw[aln,alk,xq h];rfl
theorem BI:kO d v=([d.L,d.I,d.T,.int .i64 v.m]++v.locals.flatMap kN.cells)++(v.mem.flatMap i1++(v.src.flatMap i1++(v.fe.flatMap Bf.cells++[]))):=by unfold kO;simp only[List.append_assoc]
theorem Hx:kO d v=([d.L,d.I,d.T,.int .i64 v.m]++v.locals.flatMap kN.cells++v.mem.flatMap i1)++(v.src.flatMap i1++(v.fe.flatMap Bf.cells++[])):=by unfold kO;simp only[List.append_assoc]
theorem Hy:kO d v=([d.L,d.I,d.T,.int .i64 v.m]++v.locals.flatMap kN.cells++v.mem.flatMap i1++v.src.flatMap i1)++(v.fe.flatMap Bf.cells++[]):=by unfold kO;simp only[List.append_assoc]
theorem xt (h:v.ok):([d.L,d.I,d.T,.int .i64 v.m]++v.locals.flatMap kN.cells).length=24:=by
 simp only[aln,iS (BH h),h.locals,alu,alB]
theorem Hz (h:v.ok):([d.L,d.I,d.T,.int .i64 v.m]++v.locals.flatMap kN.cells++v.mem.flatMap i1).length=28:=by
 rw[aln,xt h,iS (Aw v.mem),h.mem]
theorem P7 (h:v.ok):([d.L,d.I,d.T,.int .i64 v.m]++v.locals.flatMap kN.cells++v.mem.flatMap i1++v.src.flatMap i1).length=32:=by
 rw[aln,Hz h,iS (Aw v.src),h.src]
theorem BJ (h:v.ok):aN (some 3) (fN d v s)=some (.agg [.d d.L,.d d.I,.d d.T]):=by
 have hl:=iZ (d:=d) (s:=s) h;rw[ep,if_pos (by omega)];rfl
theorem akf:aN none ((fN d v s).drop 3)=some (au v.m):=rfl
theorem Kj (h:v.ok) {t:Nat} (ht:t<4):aN (some 5) ((fN d v s).drop (4+t*5))=some (.agg ((v.lc t).cells.map .d)):=by
 have hl:=h.locals;unfold fN kO Vm.lc;rw[xp (BH h) (i:=t) (o:=4+t*5) (by omega) (by simp),alC,alw (by omega:t<v.locals.length)];rfl
theorem Ax {cs:List AV} {x:AV} (h:aN (some 1) cs=some (.agg [x])):aN none cs=some x:=by
 unfold aN at h⊢;simp only at h⊢;cases cs with
 |nil=>simp at h
 |cons a r=>simp at h;simp[h]
theorem afz (h:v.ok) {i:Nat} (hi:i<4):aN none ((fN d v s).drop (24+i))=some (au (v.mem.getD i 0)):=by
 have hl:=h.mem;unfold fN;rw[BI];apply Ax;rw[xp (Aw v.mem) (i:=i) (o:=24+i) (by omega) (by rw[xt h];omega),alC,alw (by omega:i<v.mem.length)];rfl
theorem afA (h:v.ok) {i:Nat} (hi:i<4):aN none ((fN d v s).drop (28+i))=some (au (v.src.getD i 0)):=by
 have hl:=h.src;unfold fN;rw[Hx];apply Ax;rw[xp (Aw v.src) (i:=i) (o:=28+i) (by omega) (by rw[Hz h];omega),alC,alw (by omega:i<v.src.length)];rfl
theorem HA (h:v.ok) {t:Nat} (ht:t<4):aN (some 74) ((fN d v s).drop (32+t*74))=some (.agg ((v.bf t).cells.map .d)):=by
 have hl:=h.fe;unfold fN Vm.bf;rw[Hy,xp (Hw h) (i:=t) (o:=32+t*74) (by omega) (by rw[P7 h]),alC,alw (by omega:t<v.fe.length)];rfl
theorem xu (h:v.ok):aN none ((fN d v s).drop 328)=some s:=by
 unfold fN;rw[List.drop_append,List.drop_of_length_le (by rw[alk,xq h];exact ali _),alk,xq h];rfl
theorem Ay (h:v.ok) {t:Nat} (ht:t<4) {l:kN} (hl:l.ok):putAt (fN d v s) (4+t*5) (l.cells.map .d)=fN d {v with locals:=v.locals.set t l} s:=by
 have h4:=h.locals;unfold fN kO;exact BG (BH h) (by omega) (by simp) (pw hl)
theorem ze (h:v.ok) {t:Nat} (ht:t<4) {b:Bf} (hb:b.ok):putAt (fN d v s) (32+t*74) (b.cells.map .d)=fN d {v with fe:=v.fe.set t b} s:=by
 have h4:=h.fe;unfold fN;rw[Hy,Hy];exact BG (Hw h) (by omega) (by rw[P7 h]) (gh hb)
theorem zf (h:v.ok) {i:Nat} (hi:i<4) {x:Int}:(fN d v s).set (24+i) (au x)=fN d {v with mem:=v.mem.set i x} s:=by
 have h4:=h.mem;unfold fN;rw[BI,BI];exact BG (Aw v.mem) (i:=i) (x:=x) (by omega) (by rw[xt h];omega) rfl
theorem zg (h:v.ok) {i:Nat} (hi:i<4) {x:Int}:(fN d v s).set (28+i) (au x)=fN d {v with src:=v.src.set i x} s:=by
 have h4:=h.src;unfold fN;rw[Hx,Hx];exact BG (Aw v.src) (i:=i) (x:=x) (by omega) (by rw[Hz h];omega) rfl
theorem ly (h:v.ok) {s':AV}:(fN d v s).set 328 s'=fN d v s':=by
 unfold fN;rw[List.set_append_right _ _ (by rw[alk,xq h];exact ali _),alk,xq h];rfl
end
section
variable{d:oW} {v:Vm} {S:DV}
theorem zh:(kO d v++[S]).map AV.d=fN d v (.d S):=by unfold fN;rw[al1];rfl
theorem P8 (h:v.ok):aN (some 3) ((kO d v++[S]).map AV.d)=some (.agg [.d d.L,.d d.I,.d d.T]):=by rw[zh];exact BJ h
theorem NN:aN none (((kO d v++[S]).drop 3).map AV.d)=some (au v.m):=rfl
theorem C4 (h:v.ok) {t:Nat} (ht:t<4):aN (some 5) ((((kO d v++[S]).drop 4).drop (t*5)).map AV.d)=some (.agg ((v.lc t).cells.map .d)):=by
 rw[List.drop_drop,List.map_drop,zh];exact Kj h ht
theorem HB (h:v.ok) {t:Nat} (ht:t<4):aN (some 74) ((((kO d v++[S]).drop 32).drop (t*74)).map AV.d)=some (.agg ((v.bf t).cells.map .d)):=by
 rw[List.drop_drop,List.map_drop,zh];exact HA h ht
end
theorem rn {v:Vm} (h:v.ok) (t:Nat):(v.lc t).ok:=by
 unfold Vm.lc;rw[alC];by_cases ht:t<v.locals.length;·rw[alw ht];exact h.Kh _ (alR ht)
 ·rw[List.getElem?_eq_none (by omega)];exact jC
theorem vA {v:Vm} (h:v.ok) (t:Nat):(v.bf t).ok:=by
 unfold Vm.bf;rw[alC];by_cases ht:t<v.fe.length;·rw[alw ht];exact h.Ki _ (alR ht)
 ·rw[List.getElem?_eq_none (by omega)];exact C0
def jg (v:Vm) (t s j:Nat):Nat:=(alI j).foldl (rS v t) s
theorem rp (v:Vm) (t s j:Nat):jg v t s (j+1)=rS v t (jg v t s j) j:=eI _ _ _
theorem HC (v:Vm) (t s:Nat):jg v t s 0=s:=rfl
def EL (v:Vm) (j:Nat):Nat:=(alI j).foldl (P2 v) 0
theorem zi (v:Vm) (j:Nat):EL v (j+1)=P2 v (EL v j) j:=eI _ _ _
theorem ub (v:Vm):EL v 0=0:=rfl
theorem oL (v:Vm):v.enabled=EL v 4:=rfl
theorem XT {v:Vm} {t s:Nat} (hs:s<18446744073709551616) (loc:Nat):rS v t s loc<18446744073709551616:=by
 unfold rS;split;·exact jA hs _
 ·exact hs
theorem vB {v:Vm} {t s:Nat} (hs:s<18446744073709551616):∀j,jg v t s j<18446744073709551616
 |0=>hs
 |j+1=>by rw[rp];exact XT (vB hs j) j
def HD (v:Vm) (s t:Nat):Nat:=if oH v t then fq s t else s
def xv (v:Vm) (s t:Nat):Nat:=if v.m=2/\(v.bf t).empty=false then fq s (4+(t:Int))else s
theorem C5 (v:Vm) (s t:Nat):P2 v s t=jg v t (xv v (HD v s t) t) 4:=rfl
theorem BK {v:Vm} {s:Nat} (hs:s<18446744073709551616) (t:Nat):HD v s t<18446744073709551616:=by
 unfold HD;split;·exact jA hs _
 ·exact hs
theorem P9 {v:Vm} {s:Nat} (hs:s<18446744073709551616) (t:Nat):xv v s t<18446744073709551616:=by
 unfold xv;split;·exact jA hs _
 ·exact hs
theorem HE {v:Vm}:∀j,EL v j<18446744073709551616
 |0=>by rw[ub];decide
 |j+1=>by rw[zi,C5];exact vB (P9 (BK (HE j) j) j) 4
theorem C6 (v:Vm):v.enabled<18446744073709551616:=by rw[oL];exact HE 4
theorem Kk (v:Vm) (t:Nat):oH v t=((ec v.p t (v.lc t)).isSome&&(!(decide (((ec v.p t (v.lc t)).getD gC).kind=3)||decide (((ec v.p t (v.lc t)).getD gC).kind=4))||(v.bf t).empty)):=by
 unfold oH;cases ec v.p t (v.lc t)<;>rfl
def TD (D:List DV) (t j i s:Nat):St:=⟨[(75,au j),(4,au t),(13,au i),(0,.bw D),(3,dF s)],[],0⟩
theorem afB {d:oW} {v:Vm} {S:DV} (h:v.ok) {t i s:Nat} (ht:t<4) (hs:s<18446744073709551616) {Q:Exit->St->Prop} (hQ:Q (.exit 2) (TD (kO d v++[S]) t 4 i (jg v t s 4))):
 fP aK (aE []) 109 (.loop BA) (TD (kO d v++[S]) t 0 i (jg v t s 0)) Q:=by
 refine bS (λj=>TD (kO d v++[S]) t j i (jg v t s j)) 4 ?_;intro j hj;have hb:=vA h t;have iw:=vB (v:=v) (t:=t) hs j;unfold BA TD;by_cases bn:j<4
 ·have aQ:(j:Int)<4:=by omega
  have IH:(t:Int)<4:=by omega
  have hw:=cY (i:=j) (by omega);have qC:alv.wrap (4*(t:Int))=4*(t:Int):=wrap_i64 (by omega) (by omega);have wC:alv.wrap (8+4*(t:Int))=8+4*(t:Int):=wrap_i64 (by omega) (by omega);have hw3:alv.wrap (8+4*(t:Int)+j)=8+4*(t:Int)+j:=wrap_i64 (by omega) (by omega);have k1:=As hb j;have hg:=HB (d:=d) (S:=S) h ht;have cy:=rp v t s j;generalize jg v t s j=q at iw cy;have k2:=iQ iw (8+4*(t:Int)+j);refine J λK hK=>?_;simp only[go_sem,aQ];apply hK;refine aa λK1 aT=>?_;refine aM ?_;apply ar;apply aT;refine aa λK1 aT=>?_;apply ax;refine J λK hK=>?_;simp only[go_sem];refine hK _ (J λK hK=>?_)
  simp only[go_sem,alm,IH,alj,hg];refine aI k1 (by simp[bZ,cd]) (by simp[qk,bZ,cd]) ?_;simp only[go_sem,qk];apply hK;cases ho:((v.bf t).fU j).isSome
  ·have hx:rS v t q j=q:=by unfold rS;rw[if_neg (by simp[ho])]
   rw[hx]at cy;by_cases hm:v.m=3
   ·refine J λK hK=>?_;simp only[go_sem,NN,eq_true hm,decide_true];apply hK;refine aH ?_ (by simp[ev,ah,ho]);apply ar;simp only[go_sem];apply aT;refine ag rfl ?_;simp only[go_sem,hw];exact⟨bn,(aB.cj [] ⟨by simp[aV,ah,AV.aA,aj,af,cy,hw],by simp[aL,aF,ai,ak,aj,AV.aA,af,ae,-alh,cy,hw],rfl,rfl⟩)⟩
   ·refine J λK hK=>?_;simp only[go_sem,NN,eq_false hm,decide_false];apply hK;refine aH ?_ (by simp[ev,ah,ho]);apply ar;simp only[go_sem];apply aT;refine ag rfl ?_;simp only[go_sem,hw];exact⟨bn,(aB.cj [] ⟨by simp[aV,ah,AV.aA,aj,af,cy,hw],by simp[aL,aF,ai,ak,aj,AV.aA,af,ae,-alh,cy,hw],rfl,rfl⟩)⟩
  ·by_cases hm:v.m=3
   ·have hx:rS v t q j=fq q (8+4*(t:Int)+j):=by unfold rS;rw[if_pos ⟨hm,ho⟩]
    rw[hx]at cy;refine J λK hK=>?_;simp only[go_sem,NN,eq_true hm,decide_true];apply hK;refine aM ?_ (by simp[ev,ah,ho]);refine ag rfl ?_;simp only[go_sem,qC,wC,hw3];refine a8 (k2) ?_;simp only[go_sem];apply aT;refine ag rfl ?_;simp only[go_sem,hw];exact⟨bn,(aB.cj [] ⟨by simp[aV,ah,AV.aA,aj,af,cy,hw],by simp[aL,aF,ai,ak,aj,AV.aA,af,ae,-alh,cy,hw],rfl,rfl⟩)⟩
   ·have hx:rS v t q j=q:=by unfold rS;rw[if_neg (by simp[hm])]
    rw[hx]at cy;refine J λK hK=>?_;simp only[go_sem,NN,eq_false hm,decide_false];apply hK;refine aH ?_ (by simp[ev,ah,ho]);apply ar;simp only[go_sem];apply aT;refine ag rfl ?_;simp only[go_sem,hw];exact⟨bn,(aB.cj [] ⟨by simp[aV,ah,AV.aA,aj,af,cy,hw],by simp[aL,aF,ai,ak,aj,AV.aA,af,ae,-alh,cy,hw],rfl,rfl⟩)⟩
 ·have du:j=4:=by omega
  subst du;refine J λK hK=>?_;simp only[go_sem];apply hK;refine aa λK1 aT=>?_;refine aH ?_;refine aw (S':=TD (kO d v++[S]) t 4 i (jg v t s 4)) (aB.cj [] ⟨by simp[aV,ah,AV.aA,aj,af,TD],by simp[aL,aF,ai,ak,aj,AV.aA,af,ae,-alh,TD],rfl,rfl⟩) ?_;exact aW hQ
theorem HF {d:oW} {v:Vm} {S:DV} (h:v.ok) {t s:Nat} (ht:t<4) (hs:s<18446744073709551616) {mm:Mem} {fr:Fr} {n:Nat} {Q:Exit->St->Prop}
 (e0:ah fr 0=.bw (kO d v++[S])) (e4:ah fr 4=au t) (XU:ah fr 13=au t) (e3:ah fr 3=dF s)
 (cP:Q .normal (TD (kO d v++[S]) t 4 t (jg v t (xv v s t) 4))):
 fP aK (aE []) 109 (.seq (.seq (.region false [oM 56 (.mv (.t 0)),oM 57 (.jc (.t 56)),oM 58 (.dI (.t 57) 3),oM 59 (.load none (.t 58)),oM 60 (.bin .eql (.t 59) (.c (au 2))),oM 61 (.mv (.t 60)),
    oG 62 (.mv (.t 0)) 61 true,oG 63 (.mv (.t 4)) 61 true,oG 64 (.jc (.t 62)) 61 true,oG 65 (.dI (.t 64) 32) 61 true,oG 66 (.cg 74 (some 4) (.t 65) (.t 63)) 61 true,oG 67 (.load (some 74) (.t 66)) 61 true,oG 68 (.bW 192 [.t 67]) 61 true,oG 69 (.un .not (.t 68)) 61 true,oM 70 (.pick (.t 61) (.t 69) (.c (.d (.bool false))))] [])
  (.cond (.t 70) (.region false [oM 71 (.mv (.t 3)),oM 72 (.mv (.t 4)),oM 73 (.bin .add (.c (au 4)) (.t 72)),oM 74 (.bW 133 [.t 71,.t 73]),oM 3 (.mv (.t 74))] []) .skip))
  (.seq (.region false [oM 75 (.mv (.c (au 0)))] []) (.block 2 (.loop BA)))) ⟨fr,mm,n⟩ Q:=by
 have IH:(t:Int)<4:=by omega
 have hg:=HB (d:=d) (S:=S) h ht;have k1:=C1 (v.bf t);have k2:=iQ hs (4+(t:Int));have hw:alv.wrap (4+(t:Int))=4+(t:Int):=wrap_i64 (by omega) (by omega);refine aa λK1 aT=>?_;have tl:∀(f2:Fr) (q:Nat) (n:Nat),ah f2 0=.bw (kO d v++[S])->ah f2 4=au t->ah f2 13=au t->ah f2 3=dF q->q=xv v s t->K1 ⟨f2,mm,n⟩:=by
  intro f2 q n g0 g4 g13 g3 hq;subst hq;apply aT;refine aa λK hK=>ag (by simp[aE]) ?_;simp only[go_sem];apply hK;apply ax;refine aw (S':=TD (kO d v++[S]) t 0 t (jg v t (xv v s t) 0)) (aB.cj [] ⟨by simp[TD,aV,ah,AV.aA,g0,g4,g13,g3,HC],trivial,rfl,rfl⟩) ?_;exact afB h ht (P9 hs t) cP
 by_cases hm:v.m=2
 ·cases hb:(v.bf t).empty
  ·have hx:xv v s t=fq s (4+(t:Int)):=by unfold xv;rw[if_pos ⟨hm,hb⟩]
   refine aa λK hK=>ag (by simp[aE]) ?_;simp only[go_sem,e0,e4,NN,eq_true hm,decide_true,alm,IH,alj,hg];refine a8 (k1) ?_;simp only[go_sem];apply hK;refine aM ?_ (by simp[ev,ah,hb]);refine ag (by simp[aE]) ?_;simp only[go_sem,e3,e4,hw];refine a8 (k2) ?_;simp only[go_sem];refine tl _ _ _ ?_ ?_ ?_ ?_ hx.symm<;>simp[ah,e0,e4,XU]
  ·have hx:xv v s t=s:=by unfold xv;rw[if_neg (by simp[hb])]
   refine aa λK hK=>ag (by simp[aE]) ?_;simp only[go_sem,e0,e4,NN,eq_true hm,decide_true,alm,IH,alj,hg];refine a8 (k1) ?_;simp only[go_sem];apply hK;refine aH ?_ (by simp[ev,ah,hb]);apply ar;simp only[go_sem];refine tl _ _ _ ?_ ?_ ?_ ?_ hx.symm<;>simp[ah,e0,e4,XU,e3]
 ·have hx:xv v s t=s:=by unfold xv;rw[if_neg (by simp[hm])]
  refine aa λK hK=>ag (by simp[aE]) ?_;simp only[go_sem,e0,e4,NN,eq_false hm,decide_false];apply hK;refine aH ?_;apply ar;simp only[go_sem];refine tl _ _ _ ?_ ?_ ?_ ?_ hx.symm<;>simp[ah,e0,e4,XU,e3]
theorem nZ {d:oW} {v:Vm} {S:DV} (h:v.ok) (hT:cQ Ins.cells v.p.threads d.T):Pure aK 135 [.bw (kO d v++[S])] (dF v.enabled):=by
 refine ay func135 WD ntmps135 results135 rfl ?_;unfold adz;refine J λK hK=>?_;simp only[go_sem];refine hK _ (J λK hK=>?_);simp only[go_sem];apply hK;refine aa λKE fV=>?_;refine J λK hK=>?_;simp only[go_sem];apply hK;apply ax;refine aw (S':=⟨[(13,au (0:Nat)),(0,.bw (kO d v++[S])),(3,dF (EL v 0))],[],0⟩) (aB.cj [] ⟨by simp[aV,ah,AV.aA,aj,af,ub],by simp[aL,aF,ai,ak,aj,AV.aA,af,ae,-alh,ub],rfl,rfl⟩) ?_;refine bS (λi=>⟨[(13,au (i:Nat)),(0,.bw (kO d v++[S])),(3,dF (EL v i))],[],0⟩) 4 ?_;intro i hi;have iw:=HE (v:=v) i;unfold PF;by_cases bn:i<4
 ·have aQ:(i:Int)<4:=by omega
  have hw:=cY (i:=i) (by omega);have cy:=zi v i;generalize EL v i=s at iw cy;rw[C5]at cy;have k1:=tY (L:=d.L) (I:=d.I) hT i (rn h i);have k2:=C1 (v.bf i);have k3:=iQ iw i;have hg:=HB (d:=d) (S:=S) h bn;have hl:=C4 (d:=d) (S:=S) h bn;have Bh:=Kk v i;refine J λK hK=>?_;simp only[go_sem,aQ];apply hK;refine aa λK1 aT=>?_;refine aM ?_;apply ar;apply aT;refine aa λK1 aT=>?_;apply ax;refine J λK hK=>?_;simp only[go_sem];apply hK;refine aa λK hK=>az rfl rfl ?_;simp only[go_sem,als,P8 h,alm,aQ,alj,hl];refine bD k1 (by simp[bZ,cd]) (by simp[et,bZ,cd]) ?_;generalize du:(ec v.p i (v.lc i)).getD gC=ins at Bh
  generalize cI:(ec v.p i (v.lc i)).isSome=ok at Bh;simp only[go_sem,et,du,cI,Ins.cells];refine⟨rfl,hK _ ?_⟩;have fin:K1 (TD (kO d v++[S]) i 4 i (jg v i (xv v (HD v s i) i) 4)):=by
   apply aT;unfold TD;refine ag rfl ?_;simp only[go_sem,hw];exact⟨bn,(aB.cj [] ⟨by simp[aV,ah,AV.aA,aj,af,cy,hw],by simp[aL,aF,ai,ak,aj,AV.aA,af,ae,-alh,cy,hw],rfl,rfl⟩)⟩
  have Wc:∀(full:Bool) (fr:Fr) (mm:Mem) (n:Nat),ah fr 0=.bw (kO d v++[S])->ah fr 4=au i->ah fr 13=au i->ah fr 3=dF s->ah fr 6=.d (.bool ok)->ah fr 7=.d (.bool full)->
   oH v i=(ok&&(!full||(v.bf i).empty))->∀(Q:Exit->St->Prop) (c2:aJ),(∀fr mm n q,ah fr 0=.bw (kO d v++[S])->ah fr 4=au i->ah fr 13=au i->ah fr 3=dF q->q=HD v s i->fP aK (aE []) 109 c2 ⟨fr,mm,n⟩ Q)->
   fP aK (aE []) 109 (.seq (.seq (.region false [oM 39 (.mv (.t 6)),oM 40 (.mv (.t 39)),oG 41 (.mv (.t 7)) 40 true,oG 42 (.un .not (.t 41)) 40 true,oG 43 (.mv (.t 42)) 40 true,oG 44 (.mv (.t 0)) 43 false,oG 45 (.mv (.t 4)) 43 false,oG 46 (.jc (.t 44)) 43 false,oG 47 (.dI (.t 46) 32) 43 false,oG 48 (.cg 74 (some 4) (.t 47) (.t 45)) 43 false,oG 49 (.load (some 74) (.t 48)) 43 false,oG 50 (.bW 192 [.t 49]) 43 false,oG 51 (.pick (.t 43) (.c (.d (.bool true))) (.t 50)) 40 true,oM 52 (.pick (.t 40) (.t 51) (.c (.d (.bool false))))] [])
    (.cond (.t 52) (.region false [oM 53 (.mv (.t 3)),oM 54 (.mv (.t 4)),oM 55 (.bW 133 [.t 53,.t 54]),oM 3 (.mv (.t 55))] []) .skip)) c2) ⟨fr,mm,n⟩ Q:=by
   intro full fr mm n g0 g4 g13 g3 g6 g7 he Q c2 ZL;refine aa λK2 eX=>?_;have yes:oH v i=true->∀(f2:Fr) (n:Nat),ah f2 0=.bw (kO d v++[S])->ah f2 4=au i->ah f2 13=au i->ah f2 3=dF s->
    fP aK (aE []) 109 (.region false [oM 53 (.mv (.t 3)),oM 54 (.mv (.t 4)),oM 55 (.bW 133 [.t 53,.t 54]),oM 3 (.mv (.t 55))] []) ⟨f2,mm,n⟩ (Exit.jQ K2 Q):=by
    intro hy f2 n x0 x4 x13 x3;refine ag (by simp[aE]) ?_;simp only[go_sem,x3,x4];refine a8 (k3) ?_;simp only[go_sem];refine eX _ (ZL _ _ _ (fq s i) ?_ ?_ ?_ ?_ (by unfold HD;rw[if_pos hy]))<;>simp[ah,x0,x4,x13]
   have no:oH v i=false->∀(f2:Fr) (n:Nat),ah f2 0=.bw (kO d v++[S])->ah f2 4=au i->ah f2 13=au i->ah f2 3=dF s->K2 ⟨f2,mm,n⟩:=by
    intro hn f2 n x0 x4 x13 x3;exact eX _ (ZL _ _ _ s x0 x4 x13 x3 (by unfold HD;rw[hn];rfl))
   cases ok
   ·refine J λK hK=>?_;simp only[go_sem,g6];apply hK;refine aH ?_;apply ar;simp only[go_sem];refine no (by rw[he];rfl) _ _ ?_ ?_ ?_ ?_<;>simp[ah,g0,g4,g13,g3]
   ·cases full
    ·refine J λK hK=>?_;simp only[go_sem,g6,g7,al7];apply hK;refine aM ?_;refine yes (by rw[he];rfl) _ _ ?_ ?_ ?_ ?_<;>simp[ah,g0,g4,g13,g3]
    ·refine aa λK hK=>ag (by simp[aE]) ?_;simp only[go_sem,g6,g7,g0,g4,alT,alm,aQ,alj,hg];refine a8 (k2) ?_;simp only[go_sem];apply hK;cases hb:(v.bf i).empty
     ·refine aH ?_ (by simp[ev,ah,hb]);apply ar;simp only[go_sem];refine no (by rw[he,hb];rfl) _ _ ?_ ?_ ?_ ?_<;>simp[ah,g0,g4,g13,g3]
     ·refine aM ?_ (by simp[ev,ah,hb]);refine yes (by rw[he,hb];rfl) _ _ ?_ ?_ ?_ ?_<;>simp[ah,g0,g4,g13,g3]
  by_cases h3:ins.kind=3
  ·refine J λK hK=>?_;simp only[go_sem,eq_true h3,decide_true];apply hK;exact Wc true _ _ _ rfl rfl rfl rfl rfl rfl (by rw[Bh];simp[h3]) _ _ λfr mm n q g0 g4 g13 g3 hq=>by subst hq;exact HF h bn (BK iw i) g0 g4 g13 g3 fin
  ·by_cases h4:ins.kind=4
   ·refine J λK hK=>?_;simp only[go_sem,eq_false h3,eq_true h4,decide_true,decide_false];apply hK;exact Wc true _ _ _ rfl rfl rfl rfl rfl rfl (by rw[Bh];simp[h4]) _ _ λfr mm n q g0 g4 g13 g3 hq=>by subst hq;exact HF h bn (BK iw i) g0 g4 g13 g3 fin
   ·refine J λK hK=>?_;simp only[go_sem,eq_false h3,eq_false h4,decide_true,decide_false];apply hK;exact Wc false _ _ _ rfl rfl rfl rfl rfl rfl (by rw[Bh];simp[h3,h4]) _ _ λfr mm n q g0 g4 g13 g3 hq=>by subst hq;exact HF h bn (BK iw i) g0 g4 g13 g3 fin
 ·have du:i=4:=by omega
  subst du;refine J λK hK=>?_;simp only[go_sem];apply hK;refine aa λK1 aT=>?_;refine aH ?_;apply aW;show KE _;refine fV _ (J λK hK=>?_);simp only[go_sem];apply hK;apply an;exact⟨dF v.enabled,by simp[bj,aP,bt,ah,ai,ak,aG,oL],[],[],rfl,rfl,by simp[aL,aF,ai,ak,aG,aj,AV.aA,af,ae,-alh,oL],by simp[AV.aA,aj,af,oL]⟩
theorem bd {d:oW} {v:Vm} {s:AV} {π:Nat->Option Nat}:aj π (fN d v s)=fN d v (s.aA π):=by
 unfold fN;rw[ae,bQ];rfl
theorem dz {d:oW} {v:Vm} {s:AV} {π:Nat->Option Nat}:bZ π (fN d v s)=cd π s:=by
 unfold fN;rw[Cu,dL];simp[bZ]
section
variable{v:Vm}
theorem zj (h:v.ok) {t:Nat} {b:Bf} (hb:b.ok) (hl:∀e∈b.l,0<=e.loc/\e.loc<4):({v with fe:=v.fe.set t b}:Vm).ok where
 locals:=h.locals
 Kh:=h.Kh
 mem:=h.mem
 src:=h.src
 fe:=by rw[List.length_set];exact h.fe
 Ki:=λx hx=>by rcases List.mem_or_eq_of_mem_set hx with h1|h1;exact h.Ki x h1;rw[h1];exact hb
 ux:=λx hx=>by rcases List.mem_or_eq_of_mem_set hx with h1|h1;exact h.ux x h1;rw[h1];exact hl
theorem oe (h:v.ok) (i:Nat) (x:Int):({v with mem:=v.mem.set i x}:Vm).ok where
 locals:=h.locals
 Kh:=h.Kh
 mem:=by rw[List.length_set];exact h.mem
 src:=h.src
 fe:=h.fe
 Ki:=h.Ki
 ux:=h.ux
theorem FK (h:v.ok) (i:Nat) (x:Int):({v with src:=v.src.set i x}:Vm).ok where
 locals:=h.locals
 Kh:=h.Kh
 mem:=h.mem
 src:=by rw[List.length_set];exact h.src
 fe:=h.fe
 Ki:=h.Ki
 ux:=h.ux
theorem Kl (h:v.ok) (t:Nat) {l:kN} (hl:l.ok):({v with locals:=v.locals.set t l}:Vm).ok where
 locals:=by rw[List.length_set];exact h.locals
 Kh:=λx hx=>by rcases List.mem_or_eq_of_mem_set hx with h1|h1;exact h.Kh x h1;rw[h1];exact hl
 mem:=h.mem
 src:=h.src
 fe:=h.fe
 Ki:=h.Ki
 ux:=h.ux
theorem HG (h:v.ok) {t:Nat}:∀e∈(v.bf t).l,0<=e.loc/\e.loc<4:=by
 unfold Vm.bf;rw[alC];by_cases ht:t<v.fe.length;·rw[alw ht];exact h.ux _ (alR ht)
 ·rw[List.getElem?_eq_none (by omega)];intro e he;cases he
theorem Km {b:Bf} {loc:Int} (h:∀e∈b.l,0<=e.loc/\e.loc<4):∀e∈(b.drop loc).l,0<=e.loc/\e.loc<4:=by
 unfold Bf.drop;split;·exact h
 ·exact λe he=>h e (List.mem_of_mem_eraseIdx he)
theorem NO (h:v.ok) (t:Nat) (loc:Int):0<=(((v.bf t).fU loc).getD cK).loc/\(((v.bf t).fU loc).getD cK).loc<4:=by
 cases ho:(v.bf t).fU loc with
 |none=>decide
 |some e=>
  refine HG h (t:=t) e ?_;unfold Bf.fU at ho;rw[Option.bind_eq_some_iff]at ho;obtain⟨i,_,hi⟩:=ho;exact List.mem_of_getElem? hi
theorem FL (h:v.ok) (t:Nat) (loc:Int):(oI v t loc).1.ok:=
 FK (oe (zj h (Hv (vA h t) loc) (Km (HG h))) _ _) _ _
end
theorem eP:mV aK 203=some (some 7):=by kernel_rfl
theorem Az {d:oW} {v:Vm} (h:v.ok) {t:Nat} (ht:t<4) (loc:Int) (n:Nat) (C:List DV):
 bB aK 181 [.ptr 0 0,au t,au loc] [(0,fN d v (.sl 1 7 0 n)),(1,C.map .d)]
  λr m'=>r=.agg ((oI v t loc).2.cells.map .d)/\m'=[(0,fN d (oI v t loc).1 (.sl 1 7 0 n)),(1,C.map .d)]:=by
 have IH:(t:Int)<4:=by omega
 have hg:=HA (d:=d) (s:=.sl 1 7 0 n) h ht;have hb:=vA h t;have k1:=As hb loc;have k2:=RN hb loc;have hd:=Hv hb loc;obtain⟨El,hl4⟩:=NO h t loc;have h1:=zj (t:=t) h hd (Km (loc:=loc) (HG h));have r5:(oI v t loc).1={v with fe:=v.fe.set t ((v.bf t).drop loc),mem:=v.mem.set (((v.bf t).fU loc).getD cK).loc.toNat (((v.bf t).fU loc).getD cK).value,src:=v.src.set (((v.bf t).fU loc).getD cK).loc.toNat (((v.bf t).fU loc).getD cK).id}:=rfl;have ZM:(oI v t loc).2=⟨0,t,6,(((v.bf t).fU loc).getD cK).loc,0,(((v.bf t).fU loc).getD cK).value,(((v.bf t).fU loc).getD cK).id⟩:=rfl;rw[r5,ZM]
 refine ay func181 WU ntmps181 results181 rfl ?_;unfold adK;refine J λK hK=>?_;simp only[go_sem];refine hK _ (J λK hK=>?_);simp only[go_sem,alm,IH,alj,hg];refine aI k1 (by simp[bZ,cd]) (by simp[qk,bZ,cd]) ?_;generalize ((v.bf t).fU loc).isSome=so;generalize TE:((v.bf t).fU loc).getD cK=e at El hl4;obtain⟨el,ev,ei⟩:=e;simp only at El hl4;have hle:32+t*74+74<=329:=by omega
 have hsb:=ze (d:=d) (s:=.sl 1 7 0 n) h ht hd;obtain⟨q,rfl⟩:∃q:Nat,el=q:=⟨el.toNat,by omega⟩;have RP:q<4:=by omega
 have hm2:=zf (d:=d) (s:=.sl 1 7 0 n) h1 RP (x:=ev);have ZG:=zg (d:=d) (s:=.sl 1 7 0 n) (oe h1 q ev) RP (x:=ei);have ZA:=iZ (d:=d) (s:=.sl 1 7 0 n) h;have M6:=iZ (d:=d) (s:=.sl 1 7 0 n) h1;have hv3:=iZ (d:=d) (s:=.sl 1 7 0 n) (oe h1 q ev);have Qa:24+q+1<=329:=by omega
 have NP:28+q+1<=329:=by omega
 simp only[go_sem,qk,TE];apply hK;refine aa λK hK=>az rfl rfl ?_;simp only[go_sem,alm,IH,alj,hg];refine dw (k2) ?_;simp only[go_sem,alm,IH,alj,gN hd,gh hd,py,ZA,hle,hsb];refine⟨rfl,hK _ ?_⟩;refine aa λK hK=>az rfl rfl ?_;simp only[go_sem,alm,hl4,alj,M6,hv3,Qa,NP,hm2,ZG];refine⟨rfl,hK _ ?_⟩;refine J λK hK=>?_;simp only[go_sem];apply hK;apply an
 exact⟨.agg ((bM.mk 0 t 6 q 0 ev ei).cells.map .d),by simp[bj,aP,bt,ah,ai,ak,aG,eP,bM.cells,bd,aN,TE],[(0,0),(1,1)],[(0,fN d {v with fe:=v.fe.set t ((v.bf t).drop loc),mem:=v.mem.set q ev,src:=v.src.set q ei} (.sl 1 7 0 n)),(1,C.map .d)],rfl,rfl,by simp[aL,aF,ai,ak,aG,aj,AV.aA,af,ae,-alh,eP,bM.cells,bd,aN,TE],by simp[AV.aA,aj,af,eP,bM.cells,bd,aN,TE]⟩
structure xw (p:Prog):Prop where
 short:vt p
 loc:∀l∈p.threads,∀i∈l,1<=i.kind->i.kind<=4->0<=i.loc/\i.loc<4
theorem XV {p:Prog} (h:xw p) (t:Int) (l:kN):0<=((ec p t l).getD gC).loc/\((ec p t l).getD gC).loc<4:=by
 cases hn:ec p t l with
 |none=>decide
 |some i=>
  have hpc:=Kc hn;unfold ec at hn;rw[if_pos hpc]at hn;simp only at hn;split at hn
  ·rename_i hk;cases hn;have hm:(fT p t).getD l.pc.toNat gC∈fT p t:=by
    rw[alC,alw (by omega)];exact alR _
   generalize (fT p t).getD l.pc.toNat gC=i at hk hm;unfold fT at hm;split at hm
   ·rename_i ht;rw[alC,alw (by omega)]at hm;exact h.loc _ (alR _) i hm hk.1 hk.2
   ·cases hm
  ·cases hn
theorem abb {b:Bf} {loc v id:Int} (h:∀e∈b.l,0<=e.loc/\e.loc<4):∀e∈(b.put loc v id).l,0<=e.loc/\e.loc<4:=by
 unfold Bf.put;split;·exact h
 ·intro e he;simp only[List.mem_append,List.mem_singleton]at he;rcases he with he|rfl;·exact h e he
  ·simp only;omega
def iH (v:Vm) (t:Nat) (e:qE):Vm:=
 if e.kind=2/\v.m≠1 then{v with fe:=v.fe.set t ((v.bf t).put e.loc e.w v.steps.length)}
 else if oE e.kind then{v with mem:=v.mem.set e.loc.toNat e.w,src:=v.src.set e.loc.toNat v.steps.length}else v
theorem FM {v:Vm} (h:v.ok) (t:Nat) (e:qE):(iH v t e).ok:=by
 unfold iH;split;·exact zj h (NL (vA h t) _ _ _) (abb (HG h))
 ·split;·exact FK (oe h _ _) _ _
  ·exact h
theorem s3 (v:Vm) (t:Nat) (e:qE):(iH v t e).p=v.p/\(iH v t e).locals=v.locals/\(iH v t e).steps=v.steps:=by
 unfold iH;split;·exact⟨rfl,rfl,rfl⟩
 ·split<;>exact⟨rfl,rfl,rfl⟩
def xx (v:Vm) (t:Nat):Int×Int:=
 match(v.bf t).oF ((ec v.p t (v.lc t)).getD gC).loc with
  |some e=>(e.value,e.id)
  |none=>(v.mem.getD ((ec v.p t (v.lc t)).getD gC).loc.toNat 0,v.src.getD ((ec v.p t (v.lc t)).getD gC).loc.toNat 0)
def ni (v:Vm) (t:Nat):qE×Bool:=mA ((ec v.p t (v.lc t)).getD gC) (v.lc t) (xx v t).1
theorem rq (v:Vm) (t:Nat):nY v t=({iH v t (ni v t).1 with locals:=v.locals.set t (iY v.p t (v.lc t) (xx v t).1)},
 ⟨0,t,(ni v t).1.kind,(ni v t).1.loc,(ni v t).1.r,(ni v t).1.w,if(ni v t).2 then(xx v t).2 else-1⟩):=rfl
theorem NQ {v:Vm} (h:v.ok) (t:Nat):(nY v t).1.ok:=by
 rw[rq];have h1:=FM h t (ni v t).1;have h2:=Kl h1 t (CX (p:=v.p) (t:=t) (rn h t) (xx v t).1);rw[(s3 v t (ni v t).1).2.1]at h2;exact h2
section
variable{d:oW} {v:Vm} {C:List DV} {t:Nat}
def NR (d:oW) (v:Vm) (n:Nat) (C:List DV) (l:kN) (i:Ins) (e:qE):Mem:=
 [(0,fN d v (.sl 1 7 0 n)),(1,C.map .d),(2,cU.cells.map .d),(3,l.cells.map .d),(4,i.cells.map .d),(5,e.cells.map .d)]
theorem akg (h:v.ok) (hT:cQ Ins.cells v.p.threads d.T) (hs:vt v.p) (ht:t<4) {l:kN} (hl:l.ok) {n:Nat} {i:Ins} {e:qE} {val abc:Int} {fr:Fr} {nn:Nat} (hn:6<=nn)
 (e0:ah fr 0=.ptr 0 0) (e1:ah fr 1=au t) (e5:ah fr 5=.ptr 3 0) (e8:ah fr 8=au val) (XU:ah fr 13=.ptr 5 0) (e9:ah fr 9=au abc) (e4:ah fr 4=.ptr 2 0)
 {R:AV} {M:Mem} (hR:R=.agg ((bM.mk 0 t e.kind e.loc e.r e.w abc).cells.map .d)) (hM:M=[(0,fN d {v with locals:=v.locals.set t (iY v.p t l val)} (.sl 1 7 0 n)),(1,C.map .d)]):
 fP aK 2 146 (.seq (.region true [oM 122 (.mv (.t 0)),oM 123 (.mv (.t 1)),oM 124 (.mv (.t 0)),oM 125 (.jc (.t 124)),oM 126 (.dI (.t 125) 0),oM 127 (.load (some 3) (.t 126)),oM 128 (.mv (.t 1)),oM 129 (.load (some 5) (.t 5)),oM 130 (.mv (.t 8)),oM 131 (.bW 241 [.t 127,.t 128,.t 129,.t 130]),oM 132 (.jc (.t 122)),oM 133 (.dI (.t 132) 4),oM 134 (.cg 5 (some 4) (.t 133) (.t 123)),⟨none,.store 5 (.t 134) (.t 131),none⟩] [0,0,0,4,8,16,0,0,0,480,1,1024,3071,5119])
  (.seq (.region false [oM 135 (.mv (.t 1)),oM 136 (.dI (.t 13) 2),oM 137 (.load none (.t 136)),oM 138 (.dI (.t 13) 3),oM 139 (.load none (.t 138)),oM 140 (.dI (.t 13) 4),oM 141 (.load none (.t 140)),oM 142 (.dI (.t 13) 5),oM 143 (.load none (.t 142)),oM 144 (.mv (.t 9)),oM 145 (.build [au 0,au 0,au 0,au 0,au 0,au 0,au 0] [(1,1,.t 135),(2,1,.t 137),(3,1,.t 139),(4,1,.t 141),(5,1,.t 143),(6,1,.t 144)]),⟨none,.store 7 (.t 4) (.t 145),none⟩] []) .ret)) ⟨fr,NR d v n C l i e,nn⟩
  (nC aK #[.cell 4 203] 2 λr m'=>r=R/\m'=M):=by
 have IH:(t:Int)<4:=by omega
 have k:=NH (L:=d.L) (I:=d.I) hT hs t hl val;have ha:=CX (p:=v.p) (t:=t) hl val;have hle:4+t*5+5<=329:=by omega
 have iw:=Ay (d:=d) (s:=.sl 1 7 0 n) h ht ha;have hv:=iZ (d:=d) (s:=.sl 1 7 0 n) h;unfold NR;refine aa λK hK=>az rfl (decide_eq_true (by dsimp only;omega)) ?_;simp only[go_sem,e0,e1,e5,e8,als,BJ h,dG hl];refine dw (k) ?_;simp only[go_sem,e0,e1,alm,IH,alj,eJ ha,pw ha,px,hv,hle,iw];refine⟨rfl,hK _ ?_⟩;refine aa λK hK=>ag (decide_eq_true (by dsimp only;omega)) ?_;simp only[go_sem,e1,XU,e9,e4,qE.cells,bM.cells,cU];apply hK;subst hR hM;apply an
 exact⟨.agg ((bM.mk 0 t e.kind e.loc e.r e.w abc).cells.map .d),by simp[bj,aP,bt,ah,ai,ak,aG,eP,bM.cells,bd,aN,e4],[(0,0),(1,1)],[(0,fN d {v with locals:=v.locals.set t (iY v.p t l val)} (.sl 1 7 0 n)),(1,C.map .d)],rfl,rfl,by simp[aL,aF,ai,ak,aG,aj,AV.aA,af,ae,-alh,eP,bM.cells,bd,aN,e4],by simp[AV.aA,aj,af,eP,bM.cells,bd,aN,e4]⟩
theorem akh (h:v.ok) (ht:t<4) {n:Nat} (ZK:n=v.steps.length) (hnb:v.steps.length<=1000000000000) {l:kN} {i:Ins} {e:qE} (he4:0<=e.loc/\e.loc<4) {fr:Fr} {nn:Nat} (hn:6<=nn)
 (e0:ah fr 0=.ptr 0 0) (e1:ah fr 1=au t) (XU:ah fr 13=.ptr 5 0) (e15:ah fr 15=au n) {c2:aJ} {Q:Exit->St->Prop}
 (ZL:∀(f2:Fr) (n2:Nat),6<=n2->(∀s,s=0\/s=1\/s=4\/s=5\/s=8\/s=9\/s=13->ah f2 s=ah fr s)->fP aK 2 146 c2 ⟨f2,NR d (iH v t e) n C l i e,n2⟩ Q):
 fP aK 2 146 (.seq (.block 0 (.seq (.region false [oM 77 (.dI (.t 13) 2),oM 78 (.load none (.t 77)),oM 79 (.bin .eql (.t 78) (.c (au 2))),oM 80 (.mv (.t 79)),oG 81 (.mv (.t 0)) 80 true,oG 82 (.jc (.t 81)) 80 true,oG 83 (.dI (.t 82) 3) 80 true,oG 84 (.load none (.t 83)) 80 true,oG 85 (.bin .neq (.t 84) (.c (au 1))) 80 true,oM 86 (.pick (.t 80) (.t 85) (.c (.d (.bool false)))),oM 76 (.mv (.t 86))] [])
  (.cond (.t 76)
    (.region true [oM 87 (.mv (.t 0)),oM 88 (.mv (.t 1)),oM 89 (.mv (.t 0)),oM 90 (.mv (.t 1)),oM 91 (.jc (.t 89)),oM 92 (.dI (.t 91) 32),oM 93 (.cg 74 (some 4) (.t 92) (.t 90)),oM 94 (.load (some 74) (.t 93)),oM 95 (.dI (.t 13) 3),oM 96 (.load none (.t 95)),oM 97 (.dI (.t 13) 5),oM 98 (.load none (.t 97)),oM 99 (.mv (.t 15)),oM 100 (.bW 239 [.t 94,.t 96,.t 98,.t 99]),oM 101 (.jc (.t 87)),oM 102 (.dI (.t 101) 32),oM 103 (.cg 74 (some 4) (.t 102) (.t 88)),⟨none,.store 74 (.t 103) (.t 100),none⟩] [0,0,0,0,4,16,40,64,0,256,0,1024,0,6784,1,16384,49151,81919])
    (.seq (.region false [oM 105 (.load (some 6) (.t 13)),oM 106 (.bW 240 [.t 105]),oM 104 (.mv (.t 106))] [])
    (.cond (.t 104)
      (.region true [oM 107 (.mv (.t 0)),oM 108 (.dI (.t 13) 3),oM 109 (.load none (.t 108)),oM 110 (.mv (.t 0)),oM 111 (.dI (.t 13) 3),oM 112 (.load none (.t 111)),oM 113 (.dI (.t 13) 5),oM 114 (.load none (.t 113)),oM 115 (.mv (.t 15)),oM 116 (.jc (.t 107)),oM 117 (.dI (.t 116) 24),oM 118 (.cg 1 (some 4) (.t 117) (.t 109)),⟨none,.store 1 (.t 118) (.t 114),none⟩,oM 119 (.jc (.t 110)),oM 120 (.dI (.t 119) 28),oM 121 (.cg 1 (some 4) (.t 120) (.t 112)),⟨none,.store 1 (.t 121) (.t 115),none⟩] [0,0,2,0,0,16,0,64,0,1,512,1223,2247,8,8192,24575,40959])
      .skip))))) c2) ⟨fr,NR d v n C l i e,nn⟩ Q:=by
 have IH:(t:Int)<4:=by omega
 obtain⟨q,hq⟩:∃q:Nat,e.loc=q:=⟨e.loc.toNat,by omega⟩;have RP:q<4:=by omega
 have NS:(q:Int)<4:=by omega
 have hb:=vA h t;have kp:=XQ hb e.loc e.w n;have hpo:=NL hb e.loc e.w n;have kw:=EK e;have hg:=HA (d:=d) (s:=.sl 1 7 0 n) h ht;have hle:32+t*74+74<=329:=by omega
 have Qa:24+q+1<=329:=by omega
 have NP:28+q+1<=329:=by omega
 have hsb:=ze (d:=d) (s:=.sl 1 7 0 n) h ht hpo;have hv:=iZ (d:=d) (s:=.sl 1 7 0 n) h;have M6:=iZ (d:=d) (s:=.sl 1 7 0 n) (oe h q e.w);have ZI:=zf (d:=d) (s:=.sl 1 7 0 n) h RP (x:=e.w);have JI:=zg (d:=d) (s:=.sl 1 7 0 n) (oe h q e.w) RP (x:=n);have hmm:aN none ((fN d v (.sl 1 7 0 n)).drop 3)=some (au v.m):=akf;unfold NR;refine aa λKE fV=>?_;have fin:∀(f2:Fr) (n2:Nat),6<=n2->(∀s,s=0\/s=1\/s=4\/s=5\/s=8\/s=9\/s=13->ah f2 s=ah fr s)->∀M,M=NR d (iH v t e) n C l i e->KE ⟨f2,M,n2⟩:=by
  intro f2 n2 TY hs M hM;subst hM;exact fV _ (ZL f2 n2 TY hs)
 clear fV ZL;apply ax;have other:¬(e.kind=2/\v.m≠1)->∀(f2:Fr) (n2:Nat),6<=n2->(∀s,s=0\/s=1\/s=4\/s=5\/s=8\/s=9\/s=13\/s=15->ah f2 s=ah fr s)->∀Q2:Exit->St->Prop,(∀S,KE S->Q2 .normal S)->
  fP aK 2 146 (.seq (.region false [oM 105 (.load (some 6) (.t 13)),oM 106 (.bW 240 [.t 105]),oM 104 (.mv (.t 106))] [])
   (.cond (.t 104)
     (.region true [oM 107 (.mv (.t 0)),oM 108 (.dI (.t 13) 3),oM 109 (.load none (.t 108)),oM 110 (.mv (.t 0)),oM 111 (.dI (.t 13) 3),oM 112 (.load none (.t 111)),oM 113 (.dI (.t 13) 5),oM 114 (.load none (.t 113)),oM 115 (.mv (.t 15)),oM 116 (.jc (.t 107)),oM 117 (.dI (.t 116) 24),oM 118 (.cg 1 (some 4) (.t 117) (.t 109)),⟨none,.store 1 (.t 118) (.t 114),none⟩,oM 119 (.jc (.t 110)),oM 120 (.dI (.t 119) 28),oM 121 (.cg 1 (some 4) (.t 120) (.t 112)),⟨none,.store 1 (.t 121) (.t 115),none⟩] [0,0,2,0,0,16,0,64,0,1,512,1223,2247,8,8192,24575,40959])
     .skip)) ⟨f2,NR d v n C l i e,n2⟩ Q2:=by
  intro wD f2 n2 TY hs Q2 hQ2;have g0:=(hs 0 (by simp)).trans e0;have g13:=(hs 13 (by simp)).trans XU;have g15:=(hs 15 (by simp)).trans e15;unfold NR;refine aa λK hK=>ag (decide_eq_true (by dsimp only;omega)) ?_;simp only[go_sem,g13,als,qE.cells];refine a8 (kw) ?_;simp only[go_sem];apply hK;cases hw:oE e.kind
  ·refine aH ?_ (by simp[ev,ah,hw]);refine ar (hQ2 _ (fin _ _ (by omega) (λs ny=>?_) _ ?_))
   ·rw[<-hs s (by omega)];rcases ny with rfl|rfl|rfl|rfl|rfl|rfl|rfl<;>simp[ah]
   ·unfold iH NR;rw[if_neg wD,hw];rfl
  ·refine aM ?_ (by simp[ev,ah,hw]);refine az rfl (decide_eq_true (by dsimp only;omega)) ?_;simp only[go_sem,g0,g13,g15,qE.cells,hq,alm,NS,alj,hv,M6,Qa,NP,ZI,JI];refine⟨rfl,hQ2 _ (fin _ _ (by omega) (λs ny=>?_) _ ?_)⟩
   ·rw[<-hs s (by omega)];rcases ny with rfl|rfl|rfl|rfl|rfl|rfl|rfl<;>simp[ah]
   ·unfold iH NR;rw[if_neg wD,hw,if_pos rfl,hq,ZK];simp[qE.cells,hq]
 by_cases h2:e.kind=2
 ·by_cases hm:v.m=1
  ·refine aa λK hK=>ag (decide_eq_true (by dsimp only;omega)) ?_;simp only[go_sem,XU,e0,qE.cells,eq_true h2,decide_true,hmm,eq_true hm,alT];apply hK;refine aH ?_;refine other (by simp[hm]) _ _ (by omega) (λs ny=>?_) _ (λS h=>h);rcases ny with rfl|rfl|rfl|rfl|rfl|rfl|rfl|rfl<;>simp[ah]
  ·refine aa λK hK=>ag (decide_eq_true (by dsimp only;omega)) ?_;simp only[go_sem,XU,e0,qE.cells,eq_true h2,decide_true,hmm,eq_false hm,decide_false,al7];apply hK;refine aM ?_;refine az rfl (decide_eq_true (by dsimp only;omega)) ?_;simp only[go_sem,XU,e0,e1,e15,qE.cells,alm,IH,alj,hg];refine dw (kp) ?_;simp only[go_sem,alm,IH,alj,gN hpo,gh hpo,py,hv,hle,hsb];refine⟨rfl,fin _ _ (by omega) (λs ny=>?_) _ ?_⟩;·rcases ny with rfl|rfl|rfl|rfl|rfl|rfl|rfl<;>simp[ah]
   ·unfold iH NR;rw[if_pos ⟨h2,hm⟩,ZK];simp[qE.cells]
 ·refine aa λK hK=>ag (decide_eq_true (by dsimp only;omega)) ?_;simp only[go_sem,XU,qE.cells,eq_false h2,decide_false];apply hK;refine aH ?_;refine other (by simp[h2]) _ _ (by omega) (λs ny=>?_) _ (λS h=>h);rcases ny with rfl|rfl|rfl|rfl|rfl|rfl|rfl|rfl<;>simp[ah]
end
theorem XW {i:Ins} {l:kN} {v:Int} (h:0<=i.loc/\i.loc<4):0<=(mA i l v).1.loc/\(mA i l v).1.loc<4:=by
 unfold mA;split;·exact h
 ·split;·exact h
  ·split;·split<;>exact h
   ·decide
theorem XX (i:Ins):aN (some 9) (i.cells.map AV.d)=some (.agg (i.cells.map .d)):=rfl
theorem HH {d:oW} {v:Vm} (h:v.ok) (hp:xw v.p) (hT:cQ Ins.cells v.p.threads d.T) {t:Nat} (ht:t<4) (hnb:v.steps.length<=1000000000000) (C:List DV):
 bB aK 180 [.ptr 0 0,au t] [(0,fN d v (.sl 1 7 0 v.steps.length)),(1,C.map .d)]
  λr m'=>r=.agg ((nY v t).2.cells.map .d)/\m'=[(0,fN d (nY v t).1 (.sl 1 7 0 v.steps.length)),(1,C.map .d)]:=by
 have IH:(t:Int)<4:=by omega
 have hl:=Kj (d:=d) (s:=.sl 1 7 0 v.steps.length) h ht;have hb:=HA (d:=d) (s:=.sl 1 7 0 v.steps.length) h ht;have Kn:=rn h t;have kn:=tY (L:=d.L) (I:=d.I) hT t Kn;obtain⟨hq0,RP⟩:=XV hp t (v.lc t);have XY:(nY v t).1={iH v t (ni v t).1 with locals:=(iH v t (ni v t).1).locals.set t (iY (iH v t (ni v t).1).p t (v.lc t) (xx v t).1)}:=by
  rw[rq,(s3 v t (ni v t).1).1,(s3 v t (ni v t).1).2.1]
 have XZ:(nY v t).2=⟨0,t,(ni v t).1.kind,(ni v t).1.loc,(ni v t).1.r,(ni v t).1.w,if(ni v t).2 then(xx v t).2 else-1⟩:=by rw[rq]
 have hwp:=s3 v t (ni v t).1;have hwo:=FM h t (ni v t).1;have hTw:cQ Ins.cells (iH v t (ni v t).1).p.threads d.T:=by rw[hwp.1];exact hT
 have hSw:vt (iH v t (ni v t).1).p:=by rw[hwp.1];exact hp.short
 have r6:xx v t=match(v.bf t).oF ((ec v.p t (v.lc t)).getD gC).loc with
  |some e=>(e.value,e.id)
  |none=>(v.mem.getD ((ec v.p t (v.lc t)).getD gC).loc.toNat 0,v.src.getD ((ec v.p t (v.lc t)).getD gC).loc.toNat 0):=rfl
 have pa:ni v t=mA ((ec v.p t (v.lc t)).getD gC) (v.lc t) (xx v t).1:=rfl;rw[XY,XZ];generalize hvv:xx v t=vf at r6 pa XY XZ⊢;obtain⟨va,fr_⟩:=vf;have kb:=Au (vA h t) ((ec v.p t (v.lc t)).getD gC).loc;have ke:=RO ((ec v.p t (v.lc t)).getD gC) Kn va;have aim:0<=(ni v t).1.loc/\(ni v t).1.loc<4:=by rw[pa];exact XW ⟨hq0,RP⟩
 rw[<-pa]at ke;generalize ak2:ni v t=ee at ke aim hwp hwo hTw hSw XY XZ pa⊢;obtain⟨e,rd⟩:=ee;generalize hii:(ec v.p t (v.lc t)).getD gC=i at kb ke hq0 RP r6 pa;generalize hso:(ec v.p t (v.lc t)).isSome=so;obtain⟨q,hq⟩:∃q:Nat,i.loc=q:=⟨i.loc.toNat,by omega⟩;have NS:(q:Int)<4:=by omega
 have hgm:=afz (d:=d) (s:=.sl 1 7 0 v.steps.length) h (i:=q) (by omega);have hgs:=afA (d:=d) (s:=.sl 1 7 0 v.steps.length) h (i:=q) (by omega);have hpr:=BJ (d:=d) (s:=.sl 1 7 0 v.steps.length) h;have nB:=xu (d:=d) (s:=.sl 1 7 0 v.steps.length) h;refine ay func180 WT ntmps180 results180 rfl ?_;unfold adJ;have hmb:aE [(0,fN d v (AV.sl 1 7 0 v.steps.length)),(1,List.map AV.d C)]=2:=rfl;rw[hmb];refine J λK hK=>?_;simp only[go_sem];refine hK _ (J λK hK=>?_);simp only[go_sem,alm,IH,alj,hl,CT,Hs,eJ Kn,pw Kn,px,zb Kn (eJ jC),eJ jC,alo,ali];apply hK;refine aa λK hK=>az rfl rfl ?_
 simp only[go_sem,als,hpr,dG Kn];refine bD kn (by simp[bZ,cd]) (by simp[et,bZ,cd]) ?_;simp only[go_sem,et,hii,hso,Ins.cells];refine⟨rfl,hK _ ?_⟩;refine aa λK hK=>az rfl rfl ?_;simp only[go_sem,hq,alm,NS,alj,hgm,hgs];refine⟨rfl,hK _ ?_⟩
 refine aw (S':=⟨[(0,.ptr 0 0),(1,au t),(4,.ptr 2 0),(5,.ptr 3 0),(6,.ptr 4 0),(8,au (v.mem.getD q 0)),(9,au (v.src.getD q 0))],[(0,fN d v (.sl 1 7 0 v.steps.length)),(1,C.map .d),(2,cU.cells.map .d),(3,(v.lc t).cells.map .d),(4,i.cells.map .d)],5⟩) (aB.cj [(0,0),(1,1),(2,2),(3,3),(13,4)] ⟨by simp[aV,ah,AV.aA,aj,af,cU,bM.cells,sU,kN.cells,Ins.cells,hq,bd],by simp[aL,aF,ai,ak,aj,AV.aA,af,ae,-alh,cU,bM.cells,sU,kN.cells,Ins.cells,hq,bd],rfl,rfl⟩) ?_;refine aa λKA hKA=>?_
 have rest:∀(f2:Fr) (n2:Nat),ah f2 0=.ptr 0 0->ah f2 1=au t->ah f2 4=.ptr 2 0->ah f2 5=.ptr 3 0->ah f2 6=.ptr 4 0->ah f2 8=au va->ah f2 9=au fr_->
  ∀M,M=[(0,fN d v (.sl 1 7 0 v.steps.length)),(1,C.map .d),(2,cU.cells.map .d),(3,(v.lc t).cells.map .d),(4,i.cells.map .d)]->KA ⟨f2,M,n2⟩:=by
  intro f2 n2 g0 g1 g4 g5 g6 g8 g9 M hM;subst hM;apply hKA;refine aw (S':=⟨[(0,.ptr 0 0),(1,au t),(4,.ptr 2 0),(5,.ptr 3 0),(6,.ptr 4 0),(8,au va),(9,au fr_)],[(0,fN d v (.sl 1 7 0 v.steps.length)),(1,C.map .d),(2,cU.cells.map .d),(3,(v.lc t).cells.map .d),(4,i.cells.map .d)],5⟩)
   (aB.cj [(0,0),(1,1),(2,2),(3,3),(4,4)] ⟨by simp[aV,ah,AV.aA,af,g0,g1,g4,g5,g6,g8,g9],by simp[aL,aF,ai,aj,AV.aA,af,bd],rfl,rfl⟩) ?_
  refine J λK hK=>?_;simp only[go_sem,als,XX,dG Kn];refine aI ke (by simp[bZ,cd]) (by simp[oK,bZ,cd]) ?_;simp only[go_sem,oK,qE.cells];apply hK;refine aa λKB hKB=>?_;have s4:∀(f2:Fr) (n2:Nat),ah f2 0=.ptr 0 0->ah f2 1=au t->ah f2 4=.ptr 2 0->ah f2 5=.ptr 3 0->ah f2 8=au va->ah f2 9=au (if rd then fr_ else-1)->ah f2 13=.ptr 5 0->
   ∀M,M=NR d v v.steps.length C (v.lc t) i e->KB ⟨f2,M,n2⟩:=by
   intro f2 n2 g0 g1 g4 g5 g8 g9 g13 M hM;subst hM;apply hKB;unfold NR;refine aw (S':=⟨[(0,.ptr 0 0),(1,au t),(4,.ptr 2 0),(5,.ptr 3 0),(8,au va),(9,au (if rd then fr_ else-1)),(13,.ptr 5 0)],[(0,fN d v (.sl 1 7 0 v.steps.length)),(1,C.map .d),(2,cU.cells.map .d),(3,(v.lc t).cells.map .d),(4,i.cells.map .d),(5,e.cells.map .d)],6⟩)
    (aB.cj [(0,0),(1,1),(2,2),(3,3),(4,4),(5,5)] ⟨by simp[aV,ah,AV.aA,af,g0,g1,g4,g5,g8,g9,g13],by simp[aL,aF,ai,aj,AV.aA,af,bd],rfl,rfl⟩) ?_
   refine J λK hK=>?_;simp only[go_sem,nB];apply hK;refine akh h ht rfl hnb aim (by omega) rfl rfl rfl rfl ?_;intro f3 n3 hn3 Mk;refine akg hwo hTw hSw ht Kn hn3 (val:=va) (abc:=if rd then fr_ else-1) ?_ ?_ ?_ ?_ ?_ ?_ ?_ rfl rfl;·rw[Mk 0 (by simp)];rfl
   ·rw[Mk 1 (by simp)];rfl
   ·rw[Mk 5 (by simp)];rfl
   ·rw[Mk 8 (by simp)];rfl
   ·rw[Mk 13 (by simp)];rfl
   ·rw[Mk 9 (by simp)];rfl
   ·rw[Mk 4 (by simp)];rfl
  cases rd
  ·refine J λK hK=>?_;simp only[go_sem];apply hK;refine aM ?_;refine ag rfl ?_;simp only[go_sem];refine s4 _ _ rfl rfl rfl rfl rfl rfl rfl _ ?_;simp[NR,qE.cells]
  ·refine J λK hK=>?_;simp only[go_sem];apply hK;refine aH ?_;apply ar;simp only[go_sem];refine s4 _ _ rfl rfl rfl rfl rfl rfl rfl _ ?_;simp[NR,qE.cells]
 refine aa λK hK=>az rfl rfl ?_;simp only[go_sem,alm,IH,alj,hb,Ins.cells];refine bD kb (by simp[bZ,cd]) (by simp[pz,bZ,cd]) ?_;cases wg:(v.bf t).oF i.loc with
 |none=>
  rw[wg,hq]at r6;simp only[alj,ama]at r6;simp only[go_sem,pz,Option.getD_none,alD];refine⟨rfl,hK _ ?_⟩;refine J λK hK=>?_;simp only[go_sem];apply hK;refine aH ?_;apply ar;simp only[go_sem];refine rest _ _ rfl rfl rfl rfl rfl ?_ ?_ _ ?_;·simp[ah,r6.1]
  ·simp[ah,r6.2]
  ·simp[Ins.cells]
 |some w=>
  rw[wg]at r6;simp only[ama]at r6;simp only[go_sem,pz,al6,alH];refine⟨rfl,hK _ ?_⟩;refine J λK hK=>?_;simp only[go_sem];apply hK;refine aM ?_;refine ag rfl ?_;simp only[go_sem];refine rest _ _ rfl rfl rfl rfl rfl ?_ ?_ _ ?_;·simp[ah,r6.1]
  ·simp[ah,r6.2]
  ·simp[Ins.cells]
theorem X0 (s:Nat) (i:Int):rb s i=(decide (0<=i/\i<64)&&s.testBit i.toNat):=by
 unfold rb o2;by_cases h:0<=i/\i<64
 ·rw[if_pos h,decide_eq_true h,Bool.true_and];cases hb:s.testBit i.toNat
  ·have:s&&&2^i.toNat=0:=by
    apply Nat.eq_of_testBit_eq;intro j;rw[Nat.testBit_and,Nat.testBit_two_pow,Nat.zero_testBit];by_cases hj:i.toNat=j;·subst hj;rw[hb];rfl
    ·rw[decide_eq_false hj,alM]
   rw[this];rfl
  ·have:s&&&2^i.toNat≠0:=by
    intro h0;have h1:=congrArg (λx=>x.testBit i.toNat) h0;simp only[Nat.testBit_and,Nat.testBit_two_pow,Nat.zero_testBit,hb]at h1;simp at h1
   rw[decide_eq_false this];rfl
 ·rw[if_neg h,decide_eq_false h,Nat.and_zero];rfl
theorem vC {s:Nat} (hs:s<16777216) {k:Int} (h0:0<=k) (h1:k<24):fq s k<16777216:=by
 unfold fq o2;rw[if_pos ⟨h0,by omega⟩];have hp:(2:Nat)^k.toNat<2^24:=Nat.pow_lt_pow_right (by omega) (by omega);exact Nat.or_lt_two_pow (n:=24) hs hp
theorem HI (v:Vm):v.enabled<16777216:=by
 have h1:∀s t,s<16777216->t<4->∀j,j<=4->jg v t s j<16777216:=by
  intro s t hs ht j;induction j with
  |zero=>intro _;exact hs
  |succ j ih=>
   intro hj;rw[rp];unfold rS;split;·exact vC (ih (by omega)) (by omega) (by omega)
   ·exact ih (by omega)
 have h2:∀j,j<=4->EL v j<16777216:=by
  intro j;induction j with
  |zero=>intro _;rw[ub];decide
  |succ j ih=>
   intro hj;rw[zi,C5];refine h1 _ j ?_ (by omega) 4 (by omega);have h3:HD v (EL v j) j<16777216:=by
    unfold HD;split;·exact vC (ih (by omega)) (by omega) (by omega)
    ·exact ih (by omega)
   unfold xv;split;·exact vC h3 (by omega) (by omega)
   ·exact h3
 rw[oL];exact h2 4 (by omega)
theorem EM {v:Vm} {i:Int} (h:rb v.enabled i=true):0<=i/\i<24:=by
 rw[X0,alE,decide_eq_true_eq]at h;obtain⟨⟨h0,_⟩,hb⟩:=h;refine⟨h0,?_⟩;rcases Int.lt_or_le i 24 with h1|h1;·exact h1
 ·have:v.enabled<2^i.toNat:=Nat.lt_of_lt_of_le (HI v) (Nat.pow_le_pow_right (by omega:0<2) (by omega:24<=i.toNat));rw[Nat.testBit_lt_two_pow this]at hb;cases hb
def bY (l:List bM):List DV:=l.flatMap bM.cells
theorem xy (l:List bM):(bY l).length=l.length*7:=lx ua l
def kG (v:Vm) (i:Int):Vm×bM:=if i<4 then nY v i.toNat else if i<8 then oI v (i.toNat-4) 0 else oI v ((i.toNat-8)/4) (((i.toNat-8)%4:Nat):Int)
theorem ij (v:Vm) (i:Int):cR v i=if rb v.enabled i then({(kG v i).1 with steps:=v.steps++[{(kG v i).2 with pick:=i}]},{(kG v i).2 with pick:=i},true)else(v,cU,false):=rfl
theorem Ko {v:Vm} (h:v.ok) (i:Int):(kG v i).1.ok:=by
 unfold kG;split;·exact NQ h _
 ·split;·exact FL h _ _
  ·exact FL h _ _
theorem C7 {v:Vm} (h:v.ok) (i:Int):(cR v i).1.ok:=by
 rw[ij];split
 ·have:=Ko h i;exact⟨this.locals,this.Kh,this.mem,this.src,this.fe,this.Ki,this.ux⟩
 ·exact h
theorem HJ {v:Vm} (i:Int):(cR v i).1.p=v.p/\(cR v i).1.m=v.m:=by
 rw[ij];split
 ·show(kG v i).1.p=v.p/\(kG v i).1.m=v.m;unfold kG;split
  ·rw[rq];refine⟨(s3 v _ _).1,?_⟩;show(iH v _ _).m=v.m;unfold iH;split;·rfl
   ·split<;>rfl
  ·split<;>exact⟨rfl,rfl⟩
 ·exact⟨rfl,rfl⟩
def sc (d:oW) (v:Vm) (k:Nat):Mem:=[(0,fN d v (.sl k 7 0 v.steps.length)),(k,(bY v.steps).map .d)]
def uR (d:oW) (v:Vm) (i:Int):Mem:=if rb v.enabled i then sc d (cR v i).1 2 else sc d v 1
def vmL (d:oW) (v:Vm):List DV:=kO d v++[.sl v.steps.length (bY v.steps)]
theorem afC {d:oW} {v:Vm} {k:Nat} {π:Nat->Option Nat} {Z:Nat->Option (List DV)} (hz:Z k=some (bY v.steps)):
 db π Z (fN d v (.sl k 7 0 v.steps.length))=(vmL d v).map .d:=by
 unfold fN vmL;rw[bh,cD,al1]
 congr 1
 simp only[db,AV.cv,hz,als,alz,alL];rw[alx (by rw[xy];exact ali _)]
theorem C8 {d:oW} {v:Vm} (h:v.ok) (hp:xw v.p) (hT:cQ Ins.cells v.p.threads d.T) (hnb:v.steps.length<=1000000000000) (i:Int):
 bB aK 131 [.ptr 0 0,au i] (sc d v 1)
  λr m'=>r=.cC [.agg ((cR v i).2.1.cells.map .d),.d (.bool (cR v i).2.2)]/\m'=uR d v i:=by
 have ken:=nZ (d:=d) (S:=.sl v.steps.length (bY v.steps)) h hT;have aki:=xh (C6 v) i;unfold sc;refine ay func131 Wz ntmps131 results131 rfl ?_;unfold adv;have hmb:aE [(0,fN d v (AV.sl 1 7 0 v.steps.length)),(1,List.map AV.d (bY v.steps))]=2:=rfl;rw[hmb];refine J λK hK=>?_;simp only[go_sem];apply hK;refine aa λKA hKA=>?_;refine J λK hK=>?_;simp only[go_sem];refine M3 [(0,vmL d v),(1,bY v.steps)] [.bw (vmL d v)] ken ?_ ?_ (λv h=>by subst h;rfl) ?_;·simp[bG,ai,bI,afC,cD]
 ·simp[db,AV.cv,bI]
 rintro vv rfl;simp only[go_sem];refine a8 (aki) ?_;simp only[go_sem];apply hK;cases hb:rb v.enabled i
 ·have TF:uR d v i=[(0,fN d v (.sl 1 7 0 v.steps.length)),(1,(bY v.steps).map .d)]:=by unfold uR sc;rw[hb];rfl
  have hpv:cR v i=(v,cU,false):=by rw[ij,hb];rfl
  rw[TF,hpv];refine aM ?_ (by simp[ev,ah,hb]);refine J λK hK=>?_;simp only[go_sem];apply hK;apply an;exact⟨.cC [.agg (cU.cells.map .d),.d (.bool false)],by simp[bj,aP,bt,ah,ai,ak,aG,eP,cU,bM.cells,aN,bd],[(0,0),(1,1)],[(0,fN d v (.sl 1 7 0 v.steps.length)),(1,(bY v.steps).map .d)],rfl,rfl,by simp[aL,aF,ai,ak,aG,aj,AV.aA,af,ae,-alh,eP,cU,bM.cells,aN,bd],by simp[AV.aA,aj,af,eP,cU,bM.cells,aN,bd]⟩
 ·obtain⟨h0,zd⟩:=EM hb;have hso:=Ko h i;generalize JI:(kG v i).2=s0;have hpv:cR v i=({(kG v i).1 with steps:=v.steps++[{s0 with pick:=i}]},{s0 with pick:=i},true):=by rw[ij,hb,JI];rfl
  have TF:uR d v i=[(0,fN d (kG v i).1 (.sl 2 7 0 (v.steps.length+1))),(2,(bY v.steps).map .d++(bM.cells {s0 with pick:=i}).map .d)]:=by
   unfold uR sc;rw[hb,hpv];simp only[if_true,aln,alu,alB,alo]
   congr 2
   simp[bY,List.flatMap_append]
  have tail:∀(f2:Fr) (n2:Nat),4<=n2->ah f2 0=.ptr 0 0->ah f2 1=au i->ah f2 4=.ptr 2 0->ah f2 6=.ptr 3 0->∀M,M=[(0,fN d (kG v i).1 (.sl 1 7 0 v.steps.length)),(1,(bY v.steps).map .d),(2,cU.cells.map .d),(3,s0.cells.map .d)]->
   fP aK 2 47 (.seq (.region false [oM 34 (.mv (.t 1)),oM 35 (.dI (.t 6) 0),⟨none,.store 1 (.t 35) (.t 34),none⟩] [])
    (.seq (.region true [oM 36 (.mv (.t 0)),oM 37 (.mv (.t 0)),oM 38 (.jc (.t 37)),oM 39 (.dI (.t 38) 328),oM 40 (.load none (.t 39)),oM 41 (.load (some 7) (.t 6)),oM 42 (.cF 7 1 [au 0,au 0,au 0,au 0,au 0,au 0,au 0] [(0,7,.t 41)]),oM 43 (.app 7 56 203 (.t 40) (.t 42)),oM 44 (.jc (.t 36)),oM 45 (.dI (.t 44) 328),⟨none,.store 1 (.t 45) (.t 43),none⟩] [0,0,2,4,8,0,32,80,255,511,767])
    (.seq (.region false [oM 46 (.load (some 7) (.t 6)),⟨none,.store 7 (.t 4) (.t 46),none⟩,oM 5 (.mv (.c (.d (.bool true))))] []) .ret))) ⟨f2,M,n2⟩
    (nC aK #[.cell 4 203,.tmp 5] 2 λr m'=>r=.cC [.agg ((cR v i).2.1.cells.map .d),.d (.bool (cR v i).2.2)]/\m'=uR d v i):=by
   intro f2 n2 TY g0 g1 g4 g6 M hM;subst hM;rw[TF,hpv];have B6:=xu (d:=d) (s:=.sl 1 7 0 v.steps.length) hso;have wa:=iZ (d:=d) (s:=.sl 1 7 0 v.steps.length) hso;have jk:=λx=>ly (d:=d) (s:=.sl 1 7 0 v.steps.length) (s':=x) hso;have iw:=xy v.steps;have h56:(v.steps.length+1)*56<=140737488351232:=by omega
   refine aw (S':=⟨[(0,.ptr 0 0),(1,au i),(4,.ptr 2 0),(6,.ptr 3 0)],[(0,fN d (kG v i).1 (.sl 1 7 0 v.steps.length)),(1,(bY v.steps).map .d),(2,cU.cells.map .d),(3,s0.cells.map .d)],4⟩)
    (aB.cj [(0,0),(1,1),(2,2),(3,3)] ⟨by simp[aV,ah,AV.aA,af,g0,g1,g4,g6],by simp[aL,aF,ai,aj,AV.aA,af,bd],rfl,rfl⟩) ?_
   refine J λK hK=>?_;simp only[go_sem,bM.cells,cU];apply hK;refine aa λK hK=>az rfl rfl ?_;simp only[go_sem,B6,alk,iw,h56,wa,jk,aln];refine⟨rfl,hK _ ?_⟩;refine J λK hK=>?_;simp only[go_sem];apply hK;apply an;exact⟨.cC [.agg ((bM.cells {s0 with pick:=i}).map .d),.d (.bool true)],by simp[bj,aP,bt,ah,ai,ak,aG,eP,bM.cells,aN,bd],[(0,0),(11,2)],[(0,fN d (kG v i).1 (.sl 2 7 0 (v.steps.length+1))),(2,(bY v.steps).map .d++(bM.cells {s0 with pick:=i}).map .d)],rfl,rfl,by simp[aL,aF,ai,ak,aG,aj,AV.aA,af,ae,-alh,eP,bM.cells,aN,bd],by simp[AV.aA,aj,af,eP,bM.cells,aN,bd]⟩
  refine aH ?_ (by simp[ev,ah,hb]);apply ar;refine hKA _ (J λK hK=>?_);simp only[go_sem];apply hK;refine aa λKB hKB=>?_;have fin:∀(f2:Fr) (n2:Nat),4<=n2->ah f2 0=.ptr 0 0->ah f2 1=au i->ah f2 4=.ptr 2 0->ah f2 6=.ptr 3 0->∀M,M=[(0,fN d (kG v i).1 (.sl 1 7 0 v.steps.length)),(1,(bY v.steps).map .d),(2,cU.cells.map .d),(3,s0.cells.map .d)]->KB ⟨f2,M,n2⟩:=
   λf2 n2 TY g0 g1 g4 g6 M hM=>hKB _ (tail f2 n2 TY g0 g1 g4 g6 M hM)
  apply ax;by_cases h4:i<4
  ·have hsv:kG v i=nY v i.toNat:=by unfold kG;rw[if_pos h4]
   have Bh:=HH h hp hT (t:=i.toNat) (by omega) hnb (bY v.steps);rw[Int.toNat_of_nonneg h0,<-hsv,JI]at Bh;refine J λK hK=>?_;simp only[go_sem,eq_true h4,decide_true];apply hK;refine aM ?_;refine ag rfl ?_;simp only[go_sem];refine bA [(0,0),(1,1)] [.ptr 0 0,au i] [(0,fN d v (.sl 1 7 0 v.steps.length)),(1,(bY v.steps).map .d)] (nb:=1000) (Bh) (by simp[bX]) (by first|(simp[aj,AV.aA,af];done)|simp[aj,AV.aA,af,bd,dz,af,bM.cells]) (by first|(simp[bZ,cd,af];done)|simp[bZ,cd,af,bd,dz,af,bM.cells]) (by simp[handed,af,ai,ak,aG,aj,AV.aA,bZ,cd,bd,dz,af,bM.cells]) rfl ?_;rintro r0 m' ⟨rfl,rfl⟩
   simp only[go_sem,bx,bR,bU,ai,ak,aG,cf,af,aj,bQ,AV.aA,alH,alD,alF,alK,alM,aly,bd,dz,af,bM.cells];refine fin _ _ ?_ rfl rfl rfl rfl _ ?_;·simp[aE]
   ·simp[cU,bM.cells]
  ·refine J λK hK=>?_;simp only[go_sem,eq_false h4,decide_false];apply hK;refine aH ?_;by_cases h8:i<8
   ·have hsv:kG v i=oI v (i.toNat-4) 0:=by unfold kG;rw[if_neg h4,if_pos h8]
    have Bh:=Az (d:=d) h (t:=i.toNat-4) (by omega) 0 v.steps.length (bY v.steps);have hw:alv.wrap (i-4)=((i.toNat-4:Nat):Int):=by rw[wrap_i64 (by omega) (by omega)];omega
    rw[<-hsv,JI]at Bh;refine J λK hK=>?_;simp only[go_sem,eq_true h8,decide_true];apply hK;refine aM ?_;refine ag rfl ?_;simp only[go_sem,hw];refine bA [(0,0),(1,1)] [.ptr 0 0,au ((i.toNat-4:Nat):Int),au 0] [(0,fN d v (.sl 1 7 0 v.steps.length)),(1,(bY v.steps).map .d)] (nb:=1000) (Bh) (by simp[bX]) (by first|(simp[aj,AV.aA,af];done)|simp[aj,AV.aA,af,bd,dz,af,bM.cells]) (by first|(simp[bZ,cd,af];done)|simp[bZ,cd,af,bd,dz,af,bM.cells]) (by simp[handed,af,ai,ak,aG,aj,AV.aA,bZ,cd,bd,dz,af,bM.cells]) rfl ?_;rintro r0 m' ⟨rfl,rfl⟩
    simp only[go_sem,bx,bR,bU,ai,ak,aG,cf,af,aj,bQ,AV.aA,alH,alD,alF,alK,alM,aly,bd,dz,af,bM.cells];refine fin _ _ ?_ rfl rfl rfl rfl _ ?_;·simp[aE]
    ·simp[cU,bM.cells]
   ·have hsv:kG v i=oI v ((i.toNat-8)/4) (((i.toNat-8)%4:Nat):Int):=by unfold kG;rw[if_neg h4,if_neg h8]
    have Bh:=Az (d:=d) h (t:=(i.toNat-8)/4) (by omega) (((i.toNat-8)%4:Nat):Int) v.steps.length (bY v.steps);have hw:alv.wrap (i-8)=((i.toNat-8:Nat):Int):=by rw[wrap_i64 (by omega) (by omega)];omega
    have hq:((i.toNat-8:Nat):Int).tdiv 4=(((i.toNat-8)/4:Nat):Int):=UR (i.toNat-8) 4;have hr:((i.toNat-8:Nat):Int).tmod 4=(((i.toNat-8)%4:Nat):Int):=Jv (i.toNat-8) 4;have wC:alv.wrap ((((i.toNat-8)/4:Nat):Int))=(((i.toNat-8)/4:Nat):Int):=wrap_i64 (by omega) (by omega);rw[<-hsv,JI]at Bh;refine J λK hK=>?_;simp only[go_sem,eq_false h8,decide_false];apply hK;refine aH ?_;refine ag rfl ?_;simp only[go_sem,hw,hq,hr,wC]
    refine bA [(0,0),(1,1)] [.ptr 0 0,au (((i.toNat-8)/4:Nat):Int),au (((i.toNat-8)%4:Nat):Int)] [(0,fN d v (.sl 1 7 0 v.steps.length)),(1,(bY v.steps).map .d)] (nb:=1000) (Bh) (by simp[bX]) (by first|(simp[aj,AV.aA,af];done)|simp[aj,AV.aA,af,bd,dz,af,bM.cells]) (by first|(simp[bZ,cd,af];done)|simp[bZ,cd,af,bd,dz,af,bM.cells]) (by simp[handed,af,ai,ak,aG,aj,AV.aA,bZ,cd,bd,dz,af,bM.cells]) rfl ?_;rintro r0 m' ⟨rfl,rfl⟩;simp only[go_sem,bx,bR,bU,ai,ak,aG,cf,af,aj,bQ,AV.aA,alH,alD,alF,alK,alM,aly,bd,dz,af,bM.cells];refine fin _ _ ?_ rfl rfl rfl rfl _ ?_;·simp[aE]
    ·simp[cU,bM.cells]
end
end Go.Proofs.YtadocofdkdiboaaGreatDoor
namespace Go.Jq
open Go
mutual
def Sh.bytes:Sh->Nat
 |.int k=>k.bits/8
 |.bool=>1
 |.str=>16
 |.sl _=>24
def X1:List Sh->Nat
 | []=>0
 |s::ss=>s.bytes+X1 ss
end
mutual
def AA:Sh->DV->Prop
 |.int k,d=>∃n,d=.int k n/\(Lit.int k n).wf=true
 |.bool,d=>∃b,d=.bool b
 |.str,d=>∃s:List UInt8,d=.str s/\s.length<=reachBytes
 |.sl es,d=>d=.ct\/∃rows:List (List DV),d=.sl rows.length rows.flatten/\rows.length<=maxLen/\rows.length*X1 es<=reachBytes/\∀r∈rows,s5 es r
def s5:List Sh->List DV->Prop
 | [],ds=>ds=[]
 |s::ss,ds=>∃d r,ds=d::r/\AA s d/\s5 ss r
end
mutual
theorem AA.fits:∀{s:Sh} {d:DV},AA s d->Fits s d
 |.int k,d,h=>by simpa only[AA,Fits]using h
 |.bool,d,h=>by simpa only[AA,Fits]using h
 |.str,d,h=>by
  simp only[AA]at h;obtain⟨s,rfl,hs⟩:=h;simp only[Fits];exact⟨s,rfl,Nat.le_trans hs (by decide)⟩
 |.sl es,d,h=>by
  simp only[AA]at h;simp only[Fits];rcases h with h|⟨rows,h1,h2,_,h3⟩;·exact .inl h
  ·exact .inr ⟨rows,h1,h2,λr hr=>s5.fits (h3 r hr)⟩
theorem s5.fits:∀{ss:List Sh} {ds:List DV},s5 ss ds->fF ss ds
 | [],ds,h=>by simpa only[s5,fF]using h
 |s::ss,ds,h=>by
  simp only[s5]at h;obtain⟨d,r,rfl,h1,h2⟩:=h;simp only[fF];exact⟨d,r,rfl,AA.fits h1,s5.fits h2⟩
end
section
variable{H:Type} {enc:TypeId×Value->H} {P:Program} {w:World} {base:Nat} {spare:Nat->Bool} {held:Bool} {I:Nat->Prop} (hI:∀b,b<w.heap.size->I b)
end
section
variable{H:Type} {enc:TypeId×Value->H} {P:Program} {w:World} {base:Nat} {spare:Nat->Bool} {held:Bool} {t:TypeId} {v:Value} {d:DataW H} {p:List MemPlace}
end
end Go.Jq
namespace Go.Jq
open Go
def Qb (dR bytes el:Nat):aJ:=
 (.seq (.region false [oM 2 (.mv (.c (.d .ct)))] [])
 (.seq (.seq (.region false [oM 3 (.mv (.t 0)),oM 4 (.j6 (.yJ false) [(.t 3),(.c (.d .ct))])] [])
 (.cond (.t 4)
   (.seq (.region false [oM 2 (.mv (.c (.d .ct)))] [])
   .ret)
   .skip))
 (.seq (.region false [oM 5 (.cF dR 0 [] []),oM 6 (.mv (.t 0)),oM 7 (.app dR bytes el (.t 5) (.t 6)),oM 2 (.mv (.t 7))] [])
 .ret)))
structure SlC (dR:Nat) (X:DV) (n:Nat) (cs:List DV):Prop where
 it:(X=.ct/\n=0/\cs=[])\/X=.sl n cs
 len:cs.length=n*dR
theorem dU.slC {α:Type} {enc:α->List DV} {w:Nat} (hw:∀a,(enc a).length=w) {l:List α} {X:DV} (h:dU enc l X):SlC w X l.length (l.flatMap enc)where
 it:=by
  rcases h.2 with⟨h1,h2⟩|h1;·subst h2;exact .inl ⟨h1,rfl,rfl⟩
  ·exact .inr h1
 len:=by
  have:∀(l:List α),(l.flatMap enc).length=l.length*w:=by
   intro l;induction l with
   |nil=>simp
   |cons a l ih=>rw[alO,aln,hw,ih,alu,Nat.add_mul];omega
  exact this l
theorem lz {P:Program} {f kk:Nat} {fn:Func} {dR bytes el:Nat} (hf:P.funcs[f]?=some fn) (hc:fn.body.bind (cX P fn.ntmps)=some (Qb dR bytes el)) (hk:fn.ntmps=kk) (hkk:decide (1<=kk)=true) (Tx:fn.results=#[.tmp 2])
 {X:DV} {n:Nat} {cs:List DV} (h:SlC dR X n cs) (hb:n*bytes<=140737488351232):
 bB P f [.d X] [] λr m'=>r=.sl 0 dR 0 n/\m'=[(0,cs.map .d)]:=by
 refine ay hf hc hk Tx hkk ?_;unfold Qb;have aet:∀(K1:St->Prop) (t:Fr) (N:Nat),n=0->cs=[]->ah t 2=.d .ct->fP P (aE []) kk .ret ⟨t,[],N⟩ (Exit.jQ K1 (nC P #[.tmp 2] (aE []) λr m'=>r=.sl 0 dR 0 n/\m'=[(0,cs.map .d)])):=by
  intro K1 t N hn cq h2;subst hn cq;refine aw (aB.nil 2 dR (by simp[aE]) h2) ?_;refine an ?_;exact⟨.sl N dR 0 0,by simp[bj,aP,bt,ah],[(N,0)],[(0,[])],rfl,rfl,by simp[aL,aF,ai,ak,aj],by simp[AV.aA,af]⟩
 refine aa λK hK=>ag rfl ?_;simp only[go_sem];refine hK _ ?_;clear hK K;have zero:∀z:Bool,n=0->cs=[]->fP P (aE []) kk (.seq (.seq (.region false [oM 3 (.mv (.t 0)),oM 4 (.j6 (.yJ false) [(.t 3),(.c (.d .ct))])] [])
  (.cond (.t 4) (.seq (.region false [oM 2 (.mv (.c (.d .ct)))] []) .ret) .skip))
  (.seq (.region false [oM 5 (.cF dR 0 [] []),oM 6 (.mv (.t 0)),oM 7 (.app dR bytes el (.t 5) (.t 6)),oM 2 (.mv (.t 7))] []) .ret)) ⟨[(0,.Bo z),(2,.d .ct),(0,.d X)],[],0⟩ (nC P #[.tmp 2] (aE []) λr m'=>r=.sl 0 dR 0 n/\m'=[(0,cs.map .d)]):=by
  intro z hn cq;refine aa λK1 aT=>?_;refine aa λK hK=>ag rfl ?_;simp only[go_sem,↓reduceIte,Bool.bne_false];refine hK _ ?_;clear hK;cases z
  ·refine cm false (by simp[ev,ah]) (λh=>nomatch h) (λ_=>?_);refine ar ?_;refine aT _ ?_;clear aT;subst hn cq;refine aa λK hK=>ag rfl ?_;simp only[go_sem,↓reduceIte,alB,alZ];refine hK _ ?_;clear hK;refine an ?_;exact⟨.sl 0 dR 0 0,by simp[bj,aP,bt,ah],[(0,0)],[(0,[])],rfl,rfl,by simp[aL,aF,ai,ak,aj],by simp[AV.aA,af]⟩
  ·refine cm true (by simp[ev,ah]) (λ_=>?_) (λh=>nomatch h);refine aa λK hK=>ag rfl ?_;simp only[go_sem];refine hK _ ?_;clear hK;refine aet K1 _ _ hn cq ?_;rfl
 rcases h.it with⟨rfl,rfl,rfl⟩|rfl
 ·refine aa λK1 aT=>?_;refine aa λK hK=>ag rfl ?_;simp only[go_sem,↓reduceIte,al7];refine hK _ ?_;clear hK;refine cm true (by simp[ev,ah]) (λ_=>?_) (λh=>nomatch h);refine aa λK hK=>ag rfl ?_;simp only[go_sem];refine hK _ ?_;clear hK;refine aet K1 _ _ rfl rfl ?_;rfl
 ·by_cases hn:n=0
  ·subst hn;have cq:cs=[]:=amb (by have:=h.len;omega);subst cq;exact aal 0 rfl λz=>zero z rfl rfl
  ·have hl:=h.len;refine aa λK1 aT=>?_;refine aa λK hK=>ag rfl ?_;simp only[go_sem,↓reduceIte,hn];refine hK _ ?_;clear hK;refine cm false (by simp[ev,ah]) (λh=>nomatch h) (λ_=>?_);refine ar ?_;refine aT _ ?_;clear aT;refine aa λK hK=>ag rfl ?_;simp only[go_sem,↓reduceIte,hl,alB,hb,hn,al8];refine hK _ ?_;clear hK;refine an ?_;exact⟨.sl 1 dR 0 n,by simp[bj,aP,bt,ah],[(1,0)],[(0,cs.map .d)],rfl,rfl,by simp[aL,aF,ai,ak,aG,-alh],by simp[AV.aA,af]⟩
end Go.Jq
namespace Go.Proofs.YtadocofdkdiboaaGreatDoor
open Go.Proofs.Tryz
open Go.Proofs.Tryz renaming prog → aK
section
open Go Go.Jq
theorem NT {l:List bM} {X:DV} (h:dU bM.cells l X) (hb:l.length<=1000000000000):
 bB aK 178 [.d X] [] λr m'=>r=.sl 0 7 0 l.length/\m'=[(0,(bY l).map .d)]:=
 lz (dR:=7) (bytes:=56) (el:=203) func178 WR ntmps178 rfl results178 (h.slC ua) (by omega)
structure vD (d:oW) (v:Vm) (D:List DV):Prop where
 ok:v.ok
 CB:xw v.p
 prog:cQ Ins.cells v.p.threads d.T
 steps:v.steps.length<=1000000000000
 it:∃S,D=kO d v++[S]/\dU bM.cells v.steps S
def vm0:Vm:=⟨⟨[],[],[]⟩,0,[sU,sU,sU,sU],[0,0,0,0],[0,0,0,0],[TC,TC,TC,TC],[]⟩
theorem afD: [AV.d .ct,.d .ct,.d .ct,au 0,au 0,au 0,au 0,au 0,au 0,au 0,au 0,au 0,au 0,au 0,au 0,au 0,au 0,au 0,au 0,au 0,au 0,au 0,au 0,au 0,au 0,au 0,au 0,au 0,au 0,au 0,au 0,au 0,au 0,au 0,au 0,au 0,au 0,au 0,au 0,au 0,au 0,au 0,au 0,au 0,au 0,au 0,au 0,au 0,au 0,au 0,au 0,au 0,au 0,au 0,au 0,au 0,au 0,au 0,au 0,au 0,au 0,au 0,au 0,au 0,au 0,au 0,au 0,au 0,au 0,au 0,au 0,au 0,au 0,au 0,au 0,au 0,au 0,au 0,au 0,au 0,au 0,au 0,au 0,au 0,au 0,au 0,au 0,au 0,au 0,au 0,au 0,au 0,au 0,au 0,au 0,au 0,au 0,au 0,au 0,au 0,au 0,au 0,au 0,au 0,au 0,au 0,au 0,au 0,au 0,au 0,au 0,au 0,au 0,au 0,au 0,au 0,au 0,au 0,au 0,au 0,au 0,au 0,au 0,au 0,au 0,au 0,au 0,au 0,au 0,au 0,au 0,au 0,au 0,au 0,au 0,au 0,au 0,au 0,au 0,au 0,au 0,au 0,au 0,au 0,au 0,au 0,au 0,au 0,au 0,au 0,au 0,au 0,au 0,au 0,au 0,au 0,au 0,au 0,au 0,au 0,au 0,au 0,au 0,au 0,au 0,au 0,au 0,au 0,au 0,au 0,au 0,au 0,au 0,au 0,au 0,au 0,au 0,au 0,au 0,au 0,au 0,au 0,au 0,au 0,au 0,au 0,au 0,au 0,au 0,au 0,au 0,au 0,au 0,au 0,au 0,au 0,au 0,au 0,au 0,au 0,au 0,au 0,au 0,au 0,au 0,au 0,au 0,au 0,au 0,au 0,au 0,au 0,au 0,au 0,au 0,au 0,au 0,au 0,au 0,au 0,au 0,au 0,au 0,au 0,au 0,au 0,au 0,au 0,au 0,au 0,au 0,au 0,au 0,au 0,au 0,au 0,au 0,au 0,au 0,au 0,au 0,au 0,au 0,au 0,au 0,au 0,au 0,au 0,au 0,au 0,au 0,au 0,au 0,au 0,au 0,au 0,au 0,au 0,au 0,au 0,au 0,au 0,au 0,au 0,au 0,au 0,au 0,au 0,au 0,au 0,au 0,au 0,au 0,au 0,au 0,au 0,au 0,au 0,au 0,au 0,au 0,au 0,au 0,au 0,au 0,au 0,au 0,au 0,au 0,au 0,au 0,au 0,au 0,au 0,au 0,au 0,au 0,au 0,au 0,au 0,au 0,au 0,au 0,au 0,au 0,au 0,au 0,au 0,au 0,au 0,au 0,au 0,au 0,au 0,au 0,au 0,au 0,au 0,au 0,au 0,au 0,au 0,au 0,au 0,au 0,au 0,au 0,au 0,.d .ct]=fN ⟨.ct,.ct,.ct⟩ vm0 (.d .ct):=rfl
theorem ru:vm0.ok:=⟨rfl,λl hl=>by simp[vm0]at hl;subst hl;exact jC,rfl,rfl,rfl,λb hb=>by simp[vm0]at hb;subst hb;exact C0,λb hb e he=>by simp[vm0]at hb;subst hb;simp[TC]at he⟩
theorem abd {d:oW} {v:Vm} {s:AV} {n:Nat}:sk n (fN d v s)=fN d v s:=rfl
theorem abe {d:oW} {v:Vm} (h:v.ok) {s:AV} {cs:List AV} (hc:cs.length=329):putAt cs 0 (fN d v s)=fN d v s:=iP (by rw[iZ h,hc])
theorem X2 {d:oW} {v:Vm} (h:v.ok) {S:DV}:aN none (((kO d v++[S]).drop 328).map AV.d)=some (.d S):=by
 rw[List.map_drop,zh];exact xu h
theorem C9 {d:oW} {v:Vm} {D:List DV} (h:vD d v D):bB aK 130 [.bw D] [] λr m'=>r=.ptr 0 0/\m'=sc d v 1:=by
 obtain⟨cI,hg,hp,hs,S,rfl,hS⟩:=h;have kc:=NT hS hs;have hl:aN (some 329) ((kO d v++[S]).map AV.d)=some (.agg (fN d v (.d S))):=by
  rw[zh,ep,iZ cI,if_pos (ali _),alx (Nat.le_of_eq (iZ cI))]
 have fw:(fN d v (.d S)).all mf=true:=by rw[<-zh];exact eR _
 have wa:=iZ (d:=d) (s:=.d S) cI;refine ay func130 Wy ntmps130 results130 rfl ?_;unfold adu;refine J λK hK=>?_;simp only[go_sem];refine hK _ (J λK hK=>?_);simp only[go_sem,hl,afD,abd,wa,fw,iZ ru,abe cI (iZ ru),alo,ali];refine hK _ (J λK hK=>?_);simp only[go_sem,X2 cI];refine bA [] [.d S] [] (nb:=1000) (kc) (by simp[bX]) (by first|(simp[aj,AV.aA,af];done)|simp[aj,AV.aA,af,wa,ly cI,aE,alP,alQ,alN]) (by first|(simp[bZ,cd,af];done)|simp[bZ,cd,af,wa,ly cI,aE,alP,alQ,alN]) (by simp[handed,af,ai,ak,aG,aj,AV.aA,bZ,cd,wa,ly cI,aE,alP,alQ,alN]) rfl ?_;rintro r0 m' ⟨rfl,rfl⟩
 simp only[go_sem,bx,bR,bU,ai,ak,aG,cf,af,aj,bQ,AV.aA,alH,alD,alF,alK,alM,aly,wa,ly cI,aE,alP,alQ,alN];refine hK _ (J λK hK=>?_);simp only[go_sem];apply hK;apply an;exact⟨.ptr 0 0,by simp[bj,aP,bt,ah,ai,ak,aG,sc,bd,bY],[(0,0),(1,1)],sc d v 1,rfl,rfl,by simp[aL,aF,ai,ak,aG,aj,AV.aA,af,ae,-alh,sc,bd,bY],by simp[AV.aA,aj,af,sc,bd,bY]⟩
theorem Bi (b o n c:Nat) (xs:List Int) (cv:Int) (w:World) (hx:xs.length=n)
 (hc:∀i,i<n->w.cell? ⟨b,o+i,none⟩=some (.int .u8 (xs.getD i 0))):
 Calls aK 266 #[.slice (some ⟨b,o,none⟩) n c,.int .u8 cv] w λe w'=>e=.returned (.int .i64 (Lib.indexByte (Lib.bytesOf xs) cv.toNat.toUInt8))/\w'=w:=by
 go_enter func266,ntmps266
 go_wp2
 rw[run_callFunc_extern func279 (by kernel_rfl) (by kernel_rfl) (by kernel_rfl) (e:=Extern.BytealgIndexByte.indexByte) (by kernel_rfl),Lib.run_indexByteSlice w b o n c xs hx hc cv];simp only[Result.andThen];rw[Oper.upon_value]
 go_wp2
 go_ret
 exact⟨rfl,rfl⟩
def mP (X:DV) (s:List UInt8):Prop:=(X=.ct/\s=[])\/X=aX s
theorem nj (a:Option Addr) (c:Nat) (cv:Int) (w:World):
 Calls aK 266 #[.slice a 0 c,.int .u8 cv] w λe w'=>e=.returned (.int .i64 (-1))/\w'=w:=by
 have h:(Extern.BytealgIndexByte.indexByte #[.slice a 0 c,.int .u8 cv]).run aK w=.ok (.int .i64 (-1)) w:=by
  have hs:=Lib.run_indexByteString (P:=aK) .empty cv w;cases a with
  |none=>exact hs
  |some ad=>exact hs
 go_enter func266,ntmps266
 go_wp2
 rw[run_callFunc_extern func279 (by kernel_rfl) (by kernel_rfl) (by kernel_rfl) (e:=Extern.BytealgIndexByte.indexByte) (by kernel_rfl),h];simp only[Result.andThen];rw[Oper.upon_value]
 go_wp2
 go_ret
 exact⟨rfl,rfl⟩
theorem Kp (s:List UInt8):Lib.bytesOf (s.map λb=>(b.toNat:Int))=s:=by
 simp only[Lib.bytesOf,alh]
 conv=>rhs;rw[<-List.map_id s]
 exact List.map_congr_left λb _=>by simp
theorem Da {X:DV} {s:List UInt8} (hX:mP X s) (cv:Int):Pure aK 266 [.d X,.d (.int .u8 cv)] (au (Lib.indexByte s cv.toNat.toUInt8)):=by
 refine EA λc w vs hr=>?_;simp only[bg,Rel,dS]at hr;obtain⟨v1,vs1,rfl,h1,v2,vs2,rfl,rfl,rfl⟩:=hr;have fin:∀r,(Calls aK 266 #[v1,.int .u8 cv] w λe w'=>e=.returned (.int .i64 r)/\w'=w)->r=Lib.indexByte s cv.toNat.toUInt8->
  Calls aK 266 #[v1,.int .u8 cv] w λe w'=>∃u,e=.returned u/\w'=w/\u=.int .i64 (Lib.indexByte s cv.toNat.toUInt8):=by
  rintro r h rfl;exact h.mono λe w' ⟨h1,h2⟩=>⟨_,h1,h2,rfl⟩
 rcases hX with⟨rfl,rfl⟩|rfl
 ·simp only[dS]at h1;subst h1;exact fin (-1) (nj _ _ _ _) rfl
 ·simp only[aX,dS]at h1;obtain⟨a,cap,rfl,hle,h1⟩:=h1;rcases h1 with⟨h0,h1⟩|⟨b,o,rfl,hb,h1⟩
  ·have:s=[]:=amb h0;subst this;exact fin (-1) (nj _ _ _ _) rfl
  ·have h2:=Bi b o s.length cap (s.map λb=>(b.toNat:Int)) cv w (by simp) λi hi=>by
    obtain⟨u,hu,hr⟩:=dH.get h1 (i:=i) (c:=.int .u8 (s[i]).toNat) (by simp[hi]);simp only[dS]at hr;rw[hu,hr];simp[hi]
   exact fin _ h2 (by rw[Kp])
def cc (f:List Int):List DV:=f.map λx=>.int .i64 x
def FN (f:List Int):AV:=.agg ((cc f).map .d)
def dt (aC:List UInt8) (nt:Nat) (a:Atom) (f:List Int):Bool:=
 if a.fB=-1 then
  if 0<=a.loc/\a.loc<256/\0<=Lib.indexByte aC a.loc.toNat.toUInt8/\Lib.indexByte aC a.loc.toNat.toUInt8<4 then
   decide (f.getD (16+(Lib.indexByte aC a.loc.toNat.toUInt8).toNat) 0=a.value)else false
 else if 0<=a.fB/\a.fB<nt/\a.fB<4/\0<=a.ez/\a.ez<4 then
  decide (f.getD (a.fB.toNat*4+a.ez.toNat) 0=a.value)else false
theorem RQ {L I T:DV} {aC:List UInt8} {nt:Nat} (hL:mP L aC) (hT:jV (.d T)=some nt) (a:Atom) {f:List Int} (hf:f.length=20):
 Pure aK 207 [.agg [.d L,.d I,.d T],.agg (a.cells.map .d),FN f] (.d (.bool (dt aC nt a f))):=by
 have uu:∀i,i<20->(f.map λx=>au x)[i]?=some (au (f.getD i 0)):=λi hi=>by
  rw[List.getElem?_map,alC];have:i<f.length:=by omega
  simp[this]
 have hlen:(f.map λx=>au x).length=20:=by simp[hf]
 have cP:(cc f).map AV.d=f.map λx=>au x:=by simp[cc]
 unfold FN;rw[cP];generalize hF:(f.map λx=>au x)=F at uu hlen;refine ay func207 Vl ntmps207 results207 rfl ?_;unfold acJ;refine aa λK hK=>ag rfl ?_;simp only[go_sem,↓reduceIte,Atom.cells];refine hK _ ?_;clear hK;refine aa λK hK=>?_;refine aa λK hK=>ag rfl ?_;simp only[go_sem,↓reduceIte];refine hK _ ?_;clear hK;by_cases h1:a.fB=-1
 ·refine cm true (by simp[ev,ah,h1]) (λ_=>?_) (λh=>nomatch h);refine aa λK hK=>ag rfl ?_;simp only[go_sem,↓reduceIte];refine hK _ ?_;clear hK;have fin:∀(t:Fr) (b:Bool),ah t 6=.d (.bool b)->b=dt aC nt a f->∀(m:Mem) (n:Nat) (Q:Exit->St->Prop),(∀S,nC aK #[.tmp 6] 0 (λr m'=>r=.d (.bool (dt aC nt a f))/\m'=[]) .ret S->Q .ret S)->fP aK (aE []) 73 .ret ⟨t,m,n⟩ Q:=by
   intro t b ht hb m n Q hQ;refine an (hQ _ ?_);refine aD (.d (.bool b)) (by simp[bj,aP,bt,ht]) rfl ⟨by rw[hb],rfl⟩
  refine aa λK1 aT=>?_;by_cases h2:0<=a.loc
  ·by_cases h3:a.loc<256
   ·have hb:IntKind.u8.wrap a.loc=a.loc:=wrap_u8 h2 (by omega);refine aa λK hK=>ag rfl ?_;simp only[go_sem,↓reduceIte,h2,h3,decide_true];refine hK _ ?_;clear hK;refine cm true (by simp[ev,ah]) (λ_=>?_) (λh=>nomatch h);refine ag rfl ?_;simp only[go_sem,↓reduceIte,hb];refine aI (Da hL a.loc) rfl rfl ?_;simp only[go_sem,↓reduceIte];refine aT _ ?_;clear aT;generalize hr:Lib.indexByte aC a.loc.toNat.toUInt8=r;by_cases h4:0<=r
    ·by_cases h5:r<4
     ·refine aa λK hK=>az rfl rfl ?_;simp only[go_sem,↓reduceIte,h4,h5,decide_true,List.getElem?_drop,uu (16+r.toNat) (by omega)];refine⟨rfl,hK _ ?_⟩;clear hK;refine fin _ _ rfl ?_ _ _ _ λS h=>h;simp only[dt,h1,h2,h3,hr,h4,h5,and_self,if_true]
     ·refine aa λK hK=>az rfl rfl ?_;simp only[go_sem,↓reduceIte,h4,h5,decide_true,decide_false];refine⟨rfl,hK _ ?_⟩;clear hK;refine fin _ _ rfl ?_ _ _ _ λS h=>h;simp[dt,h1,h2,h3,hr,h4,h5]
    ·refine aa λK hK=>az rfl rfl ?_;simp only[go_sem,↓reduceIte,h4,decide_true,decide_false];refine⟨rfl,hK _ ?_⟩;clear hK;refine fin _ _ rfl ?_ _ _ _ λS h=>h;simp[dt,h1,h2,h3,hr,h4]
   ·refine aa λK hK=>ag rfl ?_;simp only[go_sem,↓reduceIte,h2,h3,decide_true,decide_false];refine hK _ ?_;clear hK;refine cm false (by simp[ev,ah]) (λh=>nomatch h) (λ_=>?_);refine ar ?_;refine aT _ ?_;clear aT;refine aa λK hK=>az rfl rfl ?_;simp only[go_sem,↓reduceIte,decide_true,decide_false,show decide ((0:Int)<=-1)=false from rfl];refine⟨rfl,hK _ ?_⟩;clear hK;refine fin _ _ rfl ?_ _ _ _ λS h=>h;simp[dt,h1,h2,h3]
  ·refine aa λK hK=>ag rfl ?_;simp only[go_sem,↓reduceIte,h2,decide_false];refine hK _ ?_;clear hK;refine cm false (by simp[ev,ah]) (λh=>nomatch h) (λ_=>?_);refine ar ?_;refine aT _ ?_;clear aT;refine aa λK hK=>az rfl rfl ?_;simp only[go_sem,↓reduceIte,decide_true,decide_false,show decide ((0:Int)<=-1)=false from rfl];refine⟨rfl,hK _ ?_⟩;clear hK;refine fin _ _ rfl ?_ _ _ _ λS h=>h;simp[dt,h1,h2]
 ·refine cm false (by simp[ev,ah,h1]) (λh=>nomatch h) (λ_=>?_);refine ar ?_;refine hK _ ?_;clear hK;refine aa λK hK=>?_;have hm:(if(4:Int)<(nt:Int)then(4:Int)else nt)=min 4 (nt:Int):=by omega
  have fin:∀S:St,ah S.t 61=.d (.bool true)->dt aC nt a f=false->fP aK (aE []) 73 (.cond (.t 61) (.seq (.region false [⟨(some 6),.mv (.c (.d (.bool false))),none⟩] []) .ret) .skip) S (Exit.jQ K (nC aK #[.tmp 6] (aE []) λr m'=>r=.d (.bool (dt aC nt a f))/\m'=[])):=by
   rintro⟨t,m,n⟩ ht hb;refine cm true (by simp[ev,ah,ht]) (λ_=>?_) (λh=>nomatch h);refine aa λK hK=>ag (by simp[aE]) ?_;simp only[go_sem,↓reduceIte];refine hK _ ?_;clear hK;refine an ?_;simp only[go_sem];refine aD _ rfl rfl ⟨?_,rfl⟩;simp only[ah,↓reduceIte,hb]
  by_cases h2:a.fB<0
  ·refine aa λK hK=>ag rfl ?_;simp only[go_sem,↓reduceIte,h2,decide_true];refine hK _ ?_;clear hK;refine fin _ rfl ?_;have:¬0<=a.fB:=by omega
   simp[dt,h1,this]
  ·by_cases h3:min 4 (nt:Int)<=a.fB
   ·refine aa λK hK=>ag rfl ?_;simp only[go_sem,↓reduceIte,h2,decide_false,hT,hm,h3,decide_true];refine hK _ ?_;clear hK;refine fin _ rfl ?_;have:¬(a.fB<nt/\a.fB<4):=by omega
    simp only[dt,h1,if_false];rw[if_neg (by omega)]
   ·by_cases h4:a.ez<0
    ·refine aa λK hK=>ag rfl ?_;simp only[go_sem,↓reduceIte,h2,decide_false,hT,hm,h3,decide_true,h4];refine hK _ ?_;clear hK;refine fin _ rfl ?_;simp only[dt,h1,if_false];rw[if_neg (by omega)]
    ·by_cases h5:4<=a.ez
     ·refine aa λK hK=>ag rfl ?_;simp only[go_sem,↓reduceIte,h2,decide_false,hT,hm,h3,decide_true,h4,h5];refine hK _ ?_;clear hK;refine fin _ rfl ?_;simp only[dt,h1,if_false];rw[if_neg (by omega)]
     ·refine aa λK hK=>ag rfl ?_;simp only[go_sem,↓reduceIte,h2,decide_false,hT,hm,h3,decide_true,h4,h5];refine hK _ ?_;clear hK;refine cm false (by simp[ev,ah]) (λh=>nomatch h) (λ_=>?_);refine ar ?_;refine hK _ ?_;clear hK;have h6:0<=a.fB:=by omega
      have h7:a.fB<4:=by omega
      have h8:0<=a.ez:=by omega
      have h9:a.ez<4:=by omega
      refine aa λK hK=>az rfl rfl ?_;simp only[go_sem,↓reduceIte,h6,h7,h8,h9,List.getElem?_drop,uu (a.fB.toNat*4+a.ez.toNat) (by omega)];refine⟨rfl,hK _ ?_⟩;clear hK;refine an ?_;simp only[go_sem];refine aD _ rfl rfl ⟨?_,rfl⟩;simp only[ah,↓reduceIte,Nat.reduceEqDiff,dt,h1,if_false];rw[if_pos ⟨h6,by omega,h7,h8,h9⟩]
theorem Db {d:oW} {v:Vm} (h:v.ok) (hp:xw v.p) (hT:cQ Ins.cells v.p.threads d.T) (hnb:v.steps.length<=1000000000000) {i:Int} (hb:rb v.enabled i=true):
 bB aK 131 [.ptr 0 0,au i] (sc d v 1) λr m'=>r=.cC [.agg ((cR v i).2.1.cells.map .d),.d (.bool true)]/\m'=sc d (cR v i).1 2:=by
 have:=C8 (d:=d) h hp hT hnb i;have h1:uR d v i=sc d (cR v i).1 2:=by unfold uR;rw[hb];rfl
 have h2:(cR v i).2.2=true:=by rw[ij,hb];rfl
 rw[h1,h2]at this;exact this
theorem HK {d:oW} {v:Vm} (h:v.ok) (hp:xw v.p) (hT:cQ Ins.cells v.p.threads d.T) (hnb:v.steps.length<=1000000000000) {i:Int} (hb:rb v.enabled i=false):
 bB aK 131 [.ptr 0 0,au i] (sc d v 1) λr m'=>r=.cC [.agg (cU.cells.map .d),.d (.bool false)]/\m'=sc d v 1:=by
 have:=C8 (d:=d) h hp hT hnb i;have h1:uR d v i=sc d v 1:=by unfold uR;rw[hb];rfl
 have h2:cR v i=(v,cU,false):=by rw[ij,hb];rfl
 rw[h1,h2]at this;exact this
theorem Kq {d:oW} {v:Vm} {D:List DV} (h:vD d v D) (i:Int):Pure aK 183 [.bw D,au i] (.cC [.agg ((cR v i).2.1.cells.map .d),.d (.bool (cR v i).2.2)]):=by
 have k1:=C9 h;refine ay func183 WW ntmps183 results183 rfl ?_;unfold adM;refine J λK hK=>?_;simp only[go_sem];refine hK _ (J λK hK=>?_);simp only[go_sem];refine bA [] [.bw D] [] (nb:=1000) (k1) (by simp[bX]) (by first|(simp[aj,AV.aA,af];done)|simp[aj,AV.aA,af,sc,aE,alP,alQ,alN,bd]) (by first|(simp[bZ,cd,af];done)|simp[bZ,cd,af,sc,aE,alP,alQ,alN,bd]) (by simp[handed,af,ai,ak,aG,aj,AV.aA,bZ,cd,sc,aE,alP,alQ,alN,bd]) rfl ?_;rintro r0 m' ⟨rfl,rfl⟩;simp only[go_sem,bx,bR,bU,ai,ak,aG,cf,af,aj,bQ,AV.aA,alH,alD,alF,alK,alM,aly,sc,aE,alP,alQ,alN,bd];cases hb:rb v.enabled i
 ·have h2:cR v i=(v,cU,false):=by rw[ij,hb];rfl
  have k2:=HK (d:=d) h.ok h.CB h.prog h.steps hb;unfold sc at k2;refine bA [(0,1),(1,2)] [.ptr 0 0,au i] [(0,fN d v (.sl 1 7 0 v.steps.length)),(1,(bY v.steps).map .d)] (nb:=1000) (k2) (by simp[bX]) (by first|(simp[aj,AV.aA,af];done)|simp[aj,AV.aA,af,bd,dz,af,bM.cells]) (by first|(simp[bZ,cd,af];done)|simp[bZ,cd,af,bd,dz,af,bM.cells]) (by simp[handed,af,ai,ak,aG,aj,AV.aA,bZ,cd,bd,dz,af,bM.cells]) rfl ?_;rintro r0 m' ⟨rfl,rfl⟩;simp only[go_sem,bx,bR,bU,ai,ak,aG,cf,af,aj,bQ,AV.aA,alH,alD,alF,alK,alM,aly,bd,dz,af,bM.cells];apply hK;apply an
  exact⟨.cC [.agg ((cR v i).2.1.cells.map .d),.d (.bool (cR v i).2.2)],by simp[bj,aP,bt,ah,ai,ak,aG,h2,eP,cU,bM.cells,aN],[],[],rfl,rfl,by simp[aL,aF,ai,ak,aG,aj,AV.aA,af,ae,-alh,h2,eP,cU,bM.cells,aN],by simp[AV.aA,aj,af,h2,eP,cU,bM.cells,aN]⟩
 ·have h2:(cR v i).2.2=true:=by rw[ij,hb];rfl
  have k2:=Db (d:=d) h.ok h.CB h.prog h.steps hb;unfold sc at k2;generalize hpv:cR v i=pv at k2 h2;obtain⟨v',s',b'⟩:=pv;simp only at h2 k2;subst h2;refine bA [(0,1),(1,2)] [.ptr 0 0,au i] [(0,fN d v (.sl 1 7 0 v.steps.length)),(1,(bY v.steps).map .d)] (nb:=1000) (k2) (by simp[bX]) (by first|(simp[aj,AV.aA,af];done)|simp[aj,AV.aA,af,bd,dz,af,bM.cells]) (by first|(simp[bZ,cd,af];done)|simp[bZ,cd,af,bd,dz,af,bM.cells]) (by simp[handed,af,ai,ak,aG,aj,AV.aA,bZ,cd,bd,dz,af,bM.cells]) rfl ?_;rintro r0 m' ⟨rfl,rfl⟩
  simp only[go_sem,bx,bR,bU,ai,ak,aG,cf,af,aj,bQ,AV.aA,alH,alD,alF,alK,alM,aly,bd,dz,af,bM.cells];apply hK;apply an;exact⟨.cC [.agg (s'.cells.map .d),.d (.bool true)],by simp[bj,aP,bt,ah,ai,ak,aG,eP,bM.cells,aN,hpv],[],[],rfl,rfl,by simp[aL,aF,ai,ak,aG,aj,AV.aA,af,ae,-alh,eP,bM.cells,aN,hpv],by simp[AV.aA,aj,af,eP,bM.cells,aN,hpv]⟩
theorem RR {d:oW} {v:Vm} {S:DV} (h:v.ok) (hT:cQ Ins.cells v.p.threads d.T):Pure aK 82 [.bw (kO d v++[S])] (.d (.bool v.done)):=by
 have k:=nZ (d:=d) (S:=S) h hT;refine ay func82 aaU ntmps82 results82 rfl ?_;unfold aia;refine J λK hK=>?_;simp only[go_sem];refine hK _ (J λK hK=>?_);simp only[go_sem];refine a8 (k) ?_;simp only[go_sem];apply hK;apply an;simp only[go_sem];refine aD _ rfl rfl ⟨?_,rfl⟩;simp[ah,Vm.done]
theorem EN {d:oW} {v:Vm} {S:DV} (h:v.ok) (hp:xw v.p) (hT:cQ Ins.cells v.p.threads d.T) (t:Int):Pure aK 244 [.bw (kO d v++[S]),au t] (.d (.bool (dD v t))):=by
 refine ay func244 Xj ntmps244 results244 rfl ?_;unfold ad7;refine J λK hK=>?_;simp only[go_sem];apply hK;refine aa λK1 aT=>?_;by_cases h0:t<0
 ·refine J λK hK=>?_;simp only[go_sem,eq_true h0,decide_true];apply hK;refine aM ?_;refine J λK hK=>?_;simp only[go_sem];apply hK;apply an;exact⟨.d (.bool (dD v t)),by simp[bj,aP,bt,ah,ai,ak,aG,dD,show¬(0<=t/\t<4) by omega],[],[],rfl,rfl,by simp[aL,aF,ai,ak,aG,aj,AV.aA,af,ae,-alh,dD,show¬(0<=t/\t<4) by omega],by simp[AV.aA,aj,af,dD,show¬(0<=t/\t<4) by omega]⟩
 by_cases h4:4<=t
 ·refine J λK hK=>?_;simp only[go_sem,eq_false h0,eq_true h4,decide_true,decide_false];apply hK;refine aM ?_;refine J λK hK=>?_;simp only[go_sem];apply hK;apply an;exact⟨.d (.bool (dD v t)),by simp[bj,aP,bt,ah,ai,ak,aG,dD,show¬(0<=t/\t<4) by omega],[],[],rfl,rfl,by simp[aL,aF,ai,ak,aG,aj,AV.aA,af,ae,-alh,dD,show¬(0<=t/\t<4) by omega],by simp[AV.aA,aj,af,dD,show¬(0<=t/\t<4) by omega]⟩
 obtain⟨q,rfl⟩:∃q:Nat,t=q:=⟨t.toNat,by omega⟩;have RP:q<4:=by omega
 have NS:(q:Int)<4:=by omega
 have kn:=tY (L:=d.L) (I:=d.I) hT q (rn h q);have hl:=C4 (d:=d) (S:=S) h RP;have hg:=HB (d:=d) (S:=S) h RP;have RS:dD v q=match ec v.p q (v.lc q)with
  |none=>false
  |some i=>decide (i.kind=2)&&((v.bf q).oF i.loc).isSome:=by unfold dD;rw[if_pos ⟨by omega,NS⟩];rfl
 refine J λK hK=>?_;simp only[go_sem,eq_false h0,eq_false h4,decide_false];apply hK;refine aH ?_;apply ar;apply aT;refine aa λK hK=>az rfl rfl ?_;simp only[go_sem,als,P8 h,alm,NS,alj,hl];refine bD kn (by simp[bZ,cd]) (by simp[et,bZ,cd]) ?_;cases hn:ec v.p q (v.lc q)with
 |none=>
  rw[hn]at RS;simp only at RS;simp only[go_sem,et,Option.getD_none,alD,gC,Ins.cells];refine⟨rfl,hK _ ?_⟩;refine aa λK2 eX=>?_;refine J λK hK=>?_;simp only[go_sem];apply hK;refine aM ?_;refine J λK hK=>?_;simp only[go_sem];apply hK;apply an;exact⟨.d (.bool false),by simp[bj,aP,bt,ah,ai,ak,aG,RS],[],[],rfl,rfl,by simp[aL,aF,ai,ak,aG,aj,AV.aA,af,ae,-alh,RS],by simp[AV.aA,aj,af,RS]⟩
 |some i=>
  rw[hn]at RS;simp only at RS;have kw:=Au (vA h q) i.loc;simp only[go_sem,et,al6,alH,Ins.cells];refine⟨rfl,hK _ ?_⟩;refine aa λK2 eX=>?_;by_cases h2:i.kind=2
  ·refine J λK hK=>?_;simp only[go_sem,eq_true h2,decide_true,alT];apply hK;refine aH ?_;apply ar;apply eX;refine aa λK hK=>az rfl rfl ?_;simp only[go_sem,alm,NS,alj,hg];refine bD kw (by simp[bZ,cd]) (by simp[pz,bZ,cd]) ?_;simp only[go_sem,pz];refine⟨rfl,hK _ ?_⟩;refine J λK hK=>?_;simp only[go_sem];apply hK;apply an;exact⟨.d (.bool (dD v q)),by simp[bj,aP,bt,ah,ai,ak,aG,RS,h2],[],[],rfl,rfl,by simp[aL,aF,ai,ak,aG,aj,AV.aA,af,ae,-alh,RS,h2],by simp[AV.aA,aj,af,RS,h2]⟩
  ·refine J λK hK=>?_;simp only[go_sem,eq_false h2,decide_false,al7];apply hK;refine aM ?_;refine J λK hK=>?_;simp only[go_sem];apply hK;apply an;exact⟨.d (.bool (dD v q)),by simp[bj,aP,bt,ah,ai,ak,aG,RS,h2],[],[],rfl,rfl,by simp[aL,aF,ai,ak,aG,aj,AV.aA,af,ae,-alh,RS,h2],by simp[AV.aA,aj,af,RS,h2]⟩
theorem FO:∀(a b:List DV),a.map AV.d=b.map AV.d->a=b
 | [],[],_=>rfl
 | [],_::_,h=>by cases h
 |_::_,[],h=>by cases h
 |x::a,y::b,h=>by
  simp only[alz,List.cons.injEq,AV.d.injEq]at h;rw[h.1,FO a b h.2]
theorem abf {d:oW} {v:Vm} {S:DV} (h:v.ok) {t:Nat} (ht:t<4):aN (some 4) (((((kO d v++[S]).drop 4).drop (t*5)).drop 1).map AV.d)=some (.agg (((v.lc t).lG.map (DV.int .i64)).map .d)):=by
 have h1:=C4 (d:=d) (S:=S) h ht;have hl:(v.lc t).lG.length=4:=rn h t;rw[ep]at h1⊢;split at h1
 ·rename_i hle;simp only[alJ,AV.agg.injEq]at h1;rw[alk]at hle;rw[if_pos (by rw[alk,List.length_drop];omega)]
  congr 2
  rw[<-List.map_take]at h1⊢;have h2:((List.drop (t*5) (List.drop 4 (kO d v++[S]))).take 5)=(v.lc t).cells:=FO _ _ h1;have h3:=congrArg (λl=>l.drop 1) h2;simp only[List.drop_take]at h3;rw[h3];rfl
 ·cases h1
theorem abg {d:oW} {v:Vm} {S:DV} (h:v.ok):aN (some 4) (((kO d v++[S]).drop 24).map AV.d)=some (.agg ((v.mem.map (DV.int .i64)).map .d)):=by
 have hl:=h.mem;have e:(kO d v++[S]).drop 24=v.mem.map (DV.int .i64)++((v.src.flatMap i1++(v.fe.flatMap Bf.cells++[]))++[S]):=by
  rw[BI,List.append_assoc,List.drop_append,xt h,List.drop_of_length_le (by rw[xt h];exact ali _),al8,Nat.sub_self,als,List.append_assoc]
  congr 1
  generalize v.mem=l;induction l with
  |nil=>rfl
  |cons x l ih=>rw[alO,ih];rfl
 rw[e,ep,if_pos (by simp[hl]),al1,List.take_append,alk,alk,hl,Nat.sub_self,List.take_zero,List.append_nil,alx (by simp[hl])]
def rT (v:Vm) (j:Nat):List Int:=(alI 20).map λk=>if k<j*4 then(v.lc (k/4)).lG.getD (k%4) 0 else 0
theorem Dc (v:Vm):rT v 0=alA 20 0:=by
 unfold rT;simp only[Nat.zero_mul,Nat.not_lt_zero,if_false];rfl
theorem zk (v:Vm) (j:Nat):(rT v j).length=20:=by simp[rT]
theorem four {l:List Int} (h:l.length=4):l=[l.getD 0 0,l.getD 1 0,l.getD 2 0,l.getD 3 0]:=by
 match l,h with
 | [a,b,c,e],_=>rfl
theorem RT {v:Vm} (h:v.ok) {j:Nat} (hj:j<4):putAt ((cc (rT v j)).map AV.d) (j*4) (((v.lc j).lG.map (DV.int .i64)).map .d)=(cc (rT v (j+1))).map AV.d:=by
 have hl:(v.lc j).lG.length=4:=rn h j;have h4:=four hl;rw[h4];rcases(show j=0\/j=1\/j=2\/j=3 by omega)with rfl|rfl|rfl|rfl<;>rfl
theorem RU {v:Vm} (h:v.ok):putAt ((cc (rT v 4)).map AV.d) 16 ((v.mem.map (DV.int .i64)).map .d)=(cc v.final).map AV.d:=by
 have hm:=four h.mem;have hl:=h.locals;have hv:v.final=v.locals.flatMap (·.lG)++v.mem:=rfl;have hr:∀t,(v.lc t).lG=[(v.lc t).lG.getD 0 0,(v.lc t).lG.getD 1 0,(v.lc t).lG.getD 2 0,(v.lc t).lG.getD 3 0]:=λt=>four (rn h t);have hls:v.locals=[v.lc 0,v.lc 1,v.lc 2,v.lc 3]:=by
  unfold Vm.lc
  match v.locals,hl with
  | [a,b,c,e],_=>rfl
 rw[hv]
 conv=>rhs;rw[hls]
 simp only[alO,List.flatMap_nil,List.append_nil];rw[hr 0,hr 1,hr 2,hr 3,hm];rfl
theorem gu:mV aK 93=some (some 20):=by kernel_rfl
theorem ql: [au 0,au 0,au 0,au 0,au 0,au 0,au 0,au 0,au 0,au 0,au 0,au 0,au 0,au 0,au 0,au 0,au 0,au 0,au 0,au 0]=(cc (alA 20 0)).map AV.d:=rfl
theorem n4 {f:List Int} {n:Nat} (h:f≠ []):sk n ((cc f).map AV.d)=(cc f).map AV.d:=by
 cases f with
 |nil=>exact absurd rfl h
 |cons x l=>rfl
theorem zl {v:Vm} (h:v.ok):v.final.length=20:=by
 have hls:v.locals=[v.lc 0,v.lc 1,v.lc 2,v.lc 3]:=by
  have hl:=h.locals;unfold Vm.lc
  match v.locals,hl with
  | [a,b,c,e],_=>rfl
 have hr:∀t,(v.lc t).lG.length=4:=λt=>rn h t;unfold Vm.final;rw[hls];simp[h.mem,hr]
theorem NU {d:oW} {v:Vm} {S:DV} (h:v.ok):Pure aK 83 [.bw (kO d v++[S])] (.agg ((cc v.final).map .d)):=by
 have hz:((cc (alA 20 0)).map AV.d).length=20:=rfl;have hz2:(cc (alA 20 0)).length=20:=rfl;have r5:=zl h;have X3:((cc v.final).map AV.d).length=20:=by simp[cc,r5]
 have afE:(cc v.final).length=20:=by simp[cc,r5]
 refine ay func83 aaV ntmps83 results83 rfl ?_;unfold aib;refine J λK hK=>?_;simp only[go_sem,ql,n4 (show alA 20 (0:Int)≠ [] by simp)];refine hK _ (J λK hK=>?_);simp only[go_sem,ql,n4 (show alA 20 (0:Int)≠ [] by simp)];apply hK;refine aa λKE fV=>?_;refine J λK hK=>?_;simp only[go_sem];apply hK;apply ax;refine aw (S':=⟨[(5,au (0:Nat)),(0,.bw (kO d v++[S])),(2,.ptr 0 0),(3,.ptr 1 0)],[(0,(cc (alA 20 0)).map .d),(1,(cc (rT v 0)).map .d)],2⟩) (aB.cj [(0,0),(1,1)] ⟨by simp[aV,ah,AV.aA,aj,af,Dc],by simp[aL,aF,ai,ak,aj,AV.aA,af,ae,-alh,Dc],rfl,rfl⟩) ?_
 refine bS (λj=>⟨[(5,au (j:Nat)),(0,.bw (kO d v++[S])),(2,.ptr 0 0),(3,.ptr 1 0)],[(0,(cc (alA 20 0)).map .d),(1,(cc (rT v j)).map .d)],2⟩) 4 ?_;intro j hj;unfold Wn;have hfu:((cc (rT v j)).map AV.d).length=20:=by simp[cc,zk]
 by_cases bn:j<4
 ·have aQ:(j:Int)<4:=by omega
  have hw:=cY (i:=j) (by omega);have hg:=abf (d:=d) (S:=S) h bn;have pC:(v.lc j).lG.length=4:=rn h j;have afF:(cc (rT v j)).length=20:=by simp[cc,zk]
  have hpp:=RT h bn;have fw:(((v.lc j).lG.map (DV.int .i64)).map AV.d).all mf=true:=eR _;have hle:j*4+4<=20:=by omega
  refine J λK hK=>?_;simp only[go_sem,aQ];apply hK;refine aa λK1 aT=>?_;refine aM ?_;apply ar;apply aT;refine aa λK1 aT=>?_;apply ax;refine J λK hK=>?_;simp only[go_sem];apply hK;refine ag rfl ?_;simp only[go_sem,alm,aQ,alj,hg,alk,pC,fw,afF,hle,hpp,alo];apply aT;refine ag rfl ?_;simp only[go_sem,hw];exact⟨bn,(aB.cj [(0,0),(1,1)] ⟨by simp[aV,ah,AV.aA,aj,af],by simp[aL,aF,ai,ak,aj,AV.aA,af,ae,-alh],rfl,rfl⟩)⟩
 ·have du:j=4:=by omega
  subst du;have afF:(cc (rT v 4)).length=20:=by simp[cc,zk]
  have TF:=RU h;have fw:((v.mem.map (DV.int .i64)).map AV.d).all mf=true:=eR _;have ain:((cc v.final).map AV.d).all mf=true:=eR _;have Gu:putAt ((cc (alA 20 0)).map AV.d) 0 ((cc v.final).map AV.d)=(cc v.final).map AV.d:=iP (by rw[X3];rfl);have qU:aN (some 20) ((cc v.final).map AV.d)=some (.agg ((cc v.final).map .d)):=by
   rw[ep,X3,if_pos (ali _),alx (Nat.le_of_eq X3)]
  refine J λK hK=>?_;simp only[go_sem];apply hK;refine aa λK1 aT=>?_;refine aH ?_;apply aW;show KE _;refine fV _ (J λK hK=>?_);simp only[go_sem,abg h,alk,h.mem,fw,afF,TF,alo];refine hK _ (J λK hK=>?_);simp only[go_sem,als,qU,alk,afE,ain,hz2,Gu,alo,ali];apply hK;apply an;exact⟨.agg ((cc v.final).map .d),by simp[bj,aP,bt,ah,ai,ak,aG,gu,qU],[],[],rfl,rfl,by simp[aL,aF,ai,ak,aG,aj,AV.aA,af,ae,-alh,gu,qU],by simp[AV.aA,aj,af,gu,qU]⟩
theorem fJ (s:bM) (m:Int):Pure aK 247 [.agg (s.cells.map .d),au m] (.d (.bool (gd s m))):=by
 refine ay func247 Xm ntmps247 results247 rfl ?_;unfold aea;refine J λK hK=>?_;simp only[go_sem,bM.cells];refine hK _ (J λK hK=>?_);simp only[go_sem]
 repeat' (first
  |(refine cn (λhb=>?_) (λhb=>?_)<;>simp only[go_sem,hb])
  |(refine b7 (λhb=>?_) (λhb=>?_)<;>simp only[go_sem,hb])
  |(rw[if_pos (by(try simp only[aln,alu,alB,alk]);omega)];simp only[go_sem]))
 all_goals(apply hK;clear hK;apply an;simp only[go_sem];refine aD _ rfl rfl ⟨?_,rfl⟩;simp_all [ah,gd])
theorem AB (s:bM):Pure aK 250 [.agg (s.cells.map .d)] (.d (.bool (y4 s))):=by
 refine ay func250 Xp ntmps250 results250 rfl ?_;unfold aed;refine J λK hK=>?_;simp only[go_sem,bM.cells];refine hK _ (J λK hK=>?_);simp only[go_sem]
 repeat' (first
  |(refine cn (λhb=>?_) (λhb=>?_)<;>simp only[go_sem,hb])
  |(refine b7 (λhb=>?_) (λhb=>?_)<;>simp only[go_sem,hb])
  |(rw[if_pos (by(try simp only[aln,alu,alB,alk]);omega)];simp only[go_sem]))
 all_goals(apply hK;clear hK;apply an;simp only[go_sem];refine aD _ rfl rfl ⟨?_,rfl⟩;simp_all [ah,y4])
theorem rv (s:bM):Pure aK 248 [.agg (s.cells.map .d)] (.d (.bool (tW s))):=by
 refine ay func248 Xn ntmps248 results248 rfl ?_;unfold aeb;refine J λK hK=>?_;simp only[go_sem,bM.cells];refine hK _ (J λK hK=>?_);simp only[go_sem]
 repeat' (first
  |(refine cn (λhb=>?_) (λhb=>?_)<;>simp only[go_sem,hb])
  |(refine b7 (λhb=>?_) (λhb=>?_)<;>simp only[go_sem,hb])
  |(rw[if_pos (by(try simp only[aln,alu,alB,alk]);omega)];simp only[go_sem]))
 all_goals(apply hK;clear hK;apply an;simp only[go_sem];refine aD _ rfl rfl ⟨?_,rfl⟩;simp_all [ah,tW])
theorem xz (s:bM) (m:Int):Pure aK 275 [.agg (s.cells.map .d),au m] (.d (.bool (xb s m))):=by
 have k1:=fJ s m;have k2:=AB s;refine ay func275 XA ntmps275 results275 rfl ?_;unfold aeo;refine J λK hK=>?_;simp only[go_sem,bM.cells];refine hK _ (J λK hK=>?_);simp only[go_sem]
 repeat' (first
  |(refine cn (λhb=>?_) (λhb=>?_)<;>simp only[go_sem,hb])
  |(refine b7 (λhb=>?_) (λhb=>?_)<;>simp only[go_sem,hb])
  |(refine aI (k1) rfl rfl ?_;simp only[go_sem])
  |(refine bD (k1) rfl rfl ?_;simp only[go_sem])
  |(refine aI (k2) rfl rfl ?_;simp only[go_sem])
  |(refine bD (k2) rfl rfl ?_;simp only[go_sem])
  |(rw[if_pos (by(try simp only[aln,alu,alB,alk]);omega)];simp only[go_sem]))
 all_goals(apply hK;clear hK;apply an;simp only[go_sem];refine aD _ rfl rfl ⟨?_,rfl⟩;simp_all [ah,xb])
theorem Kr {a b:Nat} (ha:a<18446744073709551616) (gi:b<18446744073709551616):Pure aK 190 [dF a,dF b] (.d (.bool (xe a b))):=by
 have hand:=pt ha gi;refine ay func190 W5 ntmps190 results190 rfl ?_;unfold adT;refine J λK hK=>?_;simp only[go_sem];apply hK;by_cases h0:b=0
 ·subst h0;refine J λK hK=>?_;simp only[go_sem];apply hK;apply an;simp only[go_sem];refine aD _ rfl rfl ⟨?_,rfl⟩;simp[ah,xe]
 ·have RG:¬(b:Int)=0:=by omega
  refine J λK hK=>?_;simp only[go_sem,RG,decide_false,hand];apply hK;apply an;simp only[go_sem];refine aD _ rfl rfl ⟨?_,rfl⟩;simp[ah,xe,h0]
theorem Ks (a b:bM) (m:Int):Pure aK 257 [.agg (a.cells.map .d),.agg (b.cells.map .d),au m] (.d (.bool (xa a b m))):=by
 have k1:=fJ a m;have k2:=fJ b m;refine ay func257 Xw ntmps257 results257 rfl ?_;unfold aek;refine J λK hK=>?_;simp only[go_sem,bM.cells];refine hK _ (J λK hK=>?_);simp only[go_sem]
 repeat' (first
  |(refine cn (λhb=>?_) (λhb=>?_)<;>simp only[go_sem,hb])
  |(refine b7 (λhb=>?_) (λhb=>?_)<;>simp only[go_sem,hb])
  |(refine aI (k1) rfl rfl ?_;simp only[go_sem])
  |(refine bD (k1) rfl rfl ?_;simp only[go_sem])
  |(refine aI (k2) rfl rfl ?_;simp only[go_sem])
  |(refine bD (k2) rfl rfl ?_;simp only[go_sem])
  |(rw[if_pos (by(try simp only[aln,alu,alB,alk]);omega)];simp only[go_sem]))
 all_goals(apply hK;clear hK;apply an;simp only[go_sem];refine aD _ rfl rfl ⟨?_,rfl⟩;simp_all [ah,xa])
theorem NV (a b:bM) (m:Int):Pure aK 245 [.agg (a.cells.map .d),.agg (b.cells.map .d),au m] (.d (.bool (y5 a b m))):=by
 have k1:=fJ a m;have k2:=fJ b m;have k3:=rv a;have k4:=rv b;have k5:=xz a m;have k6:=xz b m;refine ay func245 Xk ntmps245 results245 rfl ?_;unfold ad8;refine J λK hK=>?_;simp only[go_sem,bM.cells];apply hK;refine aa λKA hKA=>?_;by_cases h1:a.pick=b.pick
 ·refine J λK hK=>?_;simp only[go_sem,eq_true h1,decide_true];apply hK;refine aM ?_;refine J λK hK=>?_;simp only[go_sem];apply hK;apply an;simp only[go_sem];refine aD _ rfl rfl ⟨?_,rfl⟩;simp[ah,y5,h1]
 ·refine J λK hK=>?_;simp only[go_sem,eq_false h1,decide_false];apply hK;refine aH ?_;apply ar;apply hKA;refine aa λKB hKB=>?_;by_cases h2:a.t=b.t
  ·refine J λK hK=>?_;simp only[go_sem,eq_true h2,decide_true];apply hK;refine aM ?_;refine J λK hK=>?_;simp only[go_sem]
   repeat' (first
    |(refine cn (λhb=>?_) (λhb=>?_)<;>simp only[go_sem,hb])
    |(refine b7 (λhb=>?_) (λhb=>?_)<;>simp only[go_sem,hb])
    |(refine aI (k3) rfl rfl ?_;simp only[go_sem])
    |(refine bD (k3) rfl rfl ?_;simp only[go_sem])
    |(refine aI (k4) rfl rfl ?_;simp only[go_sem])
    |(refine bD (k4) rfl rfl ?_;simp only[go_sem])
    |(rw[if_pos (by(try simp only[aln,alu,alB,alk]);omega)];simp only[go_sem]))
   all_goals(apply hK;clear hK;apply an;simp only[go_sem];refine aD _ rfl rfl ⟨?_,rfl⟩;simp_all [ah,y5])
  ·refine J λK hK=>?_;simp only[go_sem,eq_false h2,decide_false];apply hK;refine aH ?_;apply ar;refine hKB _ (J λK hK=>?_);simp only[go_sem]
   repeat' (first
    |(refine cn (λhb=>?_) (λhb=>?_)<;>simp only[go_sem,hb])
    |(refine b7 (λhb=>?_) (λhb=>?_)<;>simp only[go_sem,hb])
    |(refine aI (k1) rfl rfl ?_;simp only[go_sem])
    |(refine bD (k1) rfl rfl ?_;simp only[go_sem])
    |(refine aI (k2) rfl rfl ?_;simp only[go_sem])
    |(refine bD (k2) rfl rfl ?_;simp only[go_sem])
    |(refine aI (k5) rfl rfl ?_;simp only[go_sem])
    |(refine bD (k5) rfl rfl ?_;simp only[go_sem])
    |(refine aI (k6) rfl rfl ?_;simp only[go_sem])
    |(refine bD (k6) rfl rfl ?_;simp only[go_sem])
    |(rw[if_pos (by(try simp only[aln,alu,alB,alk]);omega)];simp only[go_sem]))
   all_goals(apply hK;clear hK;apply an;simp only[go_sem];refine aD _ rfl rfl ⟨?_,rfl⟩;simp_all [ah,y5])
theorem qm {steps:List bM} {X:DV} (h:dU bM.cells steps X) {i:Nat} (hi:i<steps.length):
 ∃cs rest,X=.sl steps.length cs/\cs.drop (i*7)=(steps.getD i cU).cells++rest/\i*7<cs.length:=by
 obtain⟨cs,rest,h1,h2,h3⟩:=h.at ua (by omega) i hi;refine⟨cs,rest,h1,?_,h3⟩;rw[h2,alC,alw hi];rfl
theorem xA {α:Type} (q:α->Bool):∀(l:List α) (pre:List α),hZ (λi=>((pre++l)[i]?.map q).getD false) l.length pre.length=match l.findIdx? q with
  |none=>-1
  |some i=>((pre.length+i:Nat):Int)
 | [],pre=>rfl
 |a::l,pre=>by
  rw[alu,hZ];have h0:(pre++a::l)[pre.length]?=some a:=by rw[List.getElem?_append_right (ali _),Nat.sub_self];rfl
  rw[h0,List.findIdx?_cons];simp only[alX,al6];by_cases hq:q a=true;·rw[if_pos hq,if_pos hq];simp
  ·rw[if_neg hq,if_neg hq];have ih:=xA q l (pre++[a]);rw[List.append_assoc,List.singleton_append,aln]at ih;simp only[alu,alB,alo]at ih;rw[ih];cases l.findIdx? q with
   |none=>rfl
   |some i=>simp only[alX];congr 1;omega
theorem Kt (s:bM) (store:Int):Pure aK 286 [.agg (s.cells.map .d),.bw [.int .i64 store]] (.d (.bool (decide (s.kind=6)&&decide (s.src=store)))):=by
 refine ay func286 XE ntmps286 results286 rfl ?_;unfold aer;refine J λK hK=>?_;simp only[go_sem,bM.cells];apply hK;by_cases h:s.kind=6
 ·refine J λK hK=>?_;simp only[go_sem,eq_true h,decide_true];apply hK;apply an;simp only[go_sem];refine aD _ rfl rfl ⟨?_,rfl⟩;simp[ah,h]
 ·refine J λK hK=>?_;simp only[go_sem,eq_false h,decide_false];apply hK;apply an;simp only[go_sem];refine aD _ rfl rfl ⟨?_,rfl⟩;simp[ah,h]
theorem RV {steps:List bM} {X:DV} (hX:dU bM.cells steps X) (m:Int) {store:Nat} (hs:store<steps.length):
 Pure aK 277 [.d X,au m,au store] (au (oJ steps m store)):=by
 have abh:Pure aK 285 [.d X,.fn 286 [.bw [.int .i64 store]]] _:=lv func285 XD ntmps285 rfl results285
  (tQ (k:=7) ua (by omega) hX) (by kernel_rfl) rfl (λi hi=>by simp[y1,hi,cd,sM]) (p:=λi=>(steps[i]?.map λs=>decide (s.kind=6)&&decide (s.src=(store:Int))).getD false)
  (λi hi=>by simp only[y1,alw hi,alX,al6];exact Kt _ _)
 have X3:=xA (λs:bM=>decide (s.kind=6)&&decide (s.src=(store:Int))) steps [];simp only[al8,alB,alo]at X3;rw[X3]at abh;have kw:=fJ (steps.getD store cU) m;obtain⟨cs,rest,gL,bT,cq⟩:=qm hX hs;have ny:(store:Int)<steps.length:=by omega
 refine ay func277 XC ntmps277 results277 rfl ?_;unfold aeq;refine J λK hK=>?_;simp only[go_sem];apply hK;refine aw (aB.jl (S':=⟨[(0,.d X),(1,au m),(5,.bw [.int .i64 store])],[],0⟩) [] [(0,[.int .i64 store])] ⟨by simp[fb,ah,AV.cv,db,bI,af],by simp[fx,aF,bI,ai,ak,aG,db,AV.cv,af,cD,bh,-alh],rfl,rfl,by simp[bG,bI,ai,ak,aG,db,AV.cv,cD,bh,-alh]⟩) ?_;refine aa λK1 aT=>?_;refine J λK hK=>?_;simp only[go_sem,gL,alm,ny,alj,cq,bT,bM.cells];refine a8 (kw) ?_;simp only[go_sem];apply hK;cases hb:gd (steps.getD store cU) m
 ·have hc:oJ steps m store=match steps.findIdx? (λs=>decide (s.kind=6)&&decide (s.src=(store:Int)))with
   |none=>-1
   |some i=>((i:Nat):Int):=by
   unfold oJ;rw[if_neg (by rw[hb];simp)];cases steps.findIdx? (λs=>decide (s.kind=6)&&decide (s.src=(store:Int)))<;>rfl
  rw[<-hc]at abh;rw[gL]at abh;refine aH ?_ (by simp[ev,ah,hb]);apply ar;refine aT _ (J λK hK=>?_);simp only[go_sem];refine aI abh (by simp[bZ,cd]) rfl ?_;simp only[go_sem];apply hK;apply an;exact⟨au (oJ steps m store),by simp[bj,aP,bt,ah,ai,ak,aG],[],[],rfl,rfl,by simp[aL,aF,ai,ak,aG,aj,AV.aA,af,ae,-alh],by simp[AV.aA,aj,af]⟩
 ·have hc:oJ steps m store=store:=by unfold oJ;rw[if_pos hb]
  refine aM ?_ (by simp[ev,ah,hb]);refine J λK hK=>?_;simp only[go_sem];apply hK;apply an;exact⟨au (oJ steps m store),by simp[bj,aP,bt,ah,ai,ak,aG,hc],[],[],rfl,rfl,by simp[aL,aF,ai,ak,aG,aj,AV.aA,af,ae,-alh,hc],by simp[AV.aA,aj,af,hc]⟩
theorem RW {steps:List bM} {m:Int} {i:Nat} {r:Rl} (h:r.ok) (k:Nat):(rf steps m i r k).ok:=by
 unfold rf;split;·exact vo h _ _
 ·exact h
def lb (steps:List bM) (m:Int) (i:Nat) (r:Rl) (a j:Nat):Rl:=(List.range' a j).foldl (rf steps m i) r
theorem AD (steps:List bM) (m:Int) (i:Nat) (r:Rl) (a j:Nat):lb steps m i r a (j+1)=rf steps m i (lb steps m i r a j) (a+j):=by
 unfold lb;rw[List.range'_1_concat,List.foldl_append];rfl
theorem Ku (steps:List bM) (m:Int) (i:Nat) (r:Rl) (a:Nat):lb steps m i r a 0=r:=rfl
theorem uc {steps:List bM} {m:Int} {i:Nat} {r:Rl} (h:r.ok) (a:Nat):∀j,(lb steps m i r a j).ok
 |0=>h
 |j+1=>by rw[AD];exact RW (uc h a j) _
def Bj (X:DV) (m:Int) (i:Nat) (r:Rl) (s:bM) (k:Nat):St:=
 ⟨[(11,au k),(1,.d X),(2,au m),(3,au i),(4,.ptr 0 0),(8,.ptr 1 0),(9,.ptr 2 0)],[(0,r.cells.map .d),(1,(gB 0).cells.map .d),(2,s.cells.map .d)],3⟩
theorem abj {steps:List bM} {X:DV} (hX:dU bM.cells steps X) (fk:steps.length<=1000000000000) (m:Int) {i:Nat} (hi:i<steps.length) {r:Rl} (h:r.ok) {a:Nat} (ha:a<=steps.length) {Q:Exit->St->Prop}
 (hQ:Q (.exit 0) (Bj X m i (lb steps m i r a (steps.length-a)) (steps.getD i cU) steps.length)):
 fP aK (aE []) 81 (.loop Hh) (Bj X m i (lb steps m i r a 0) (steps.getD i cU) a) Q:=by
 have hlen:=hX.len;refine bS (λj=>Bj X m i (lb steps m i r a j) (steps.getD i cU) (a+j)) (steps.length-a) ?_;intro j hj;have ho:=uc (steps:=steps) (m:=m) (i:=i) h a j;unfold Hh;by_cases bn:j<steps.length-a
 ·have aQ:((a+j:Nat):Int)<steps.length:=by omega
  have cy:=AD steps m i r a j;generalize lb steps m i r a j=q at ho cy;generalize hk:a+j=k at aQ cy;have I5:a+(j+1)=k+1:=by omega
  have hw:=cY (i:=k) (by omega);obtain⟨cs,rest,gL,bT,cq⟩:=qm hX (i:=k) (by omega);have kw:=fJ (steps.getD k cU) m;have ka:=CO ho i k;have hl:=bJ ho;have Bw:=vo ho i k;have Em:rf steps m i q k=if !decide (k=i)&&gd (steps.getD k cU) m&&decide ((steps.getD k cU).loc=(steps.getD i cU).loc)then q.add i k else q:=rfl
  rw[Em]at cy;generalize steps.getD k cU=b at bT kw cy;generalize Ml:steps.getD i cU=si at cy;have hk':(k:Int)<steps.length:=aQ;unfold Bj;refine aa λK1 aT=>?_;refine J λK hK=>?_;simp only[go_sem,hlen,hk',hk];apply hK;refine aM ?_;apply ar;apply aT;refine aa λK1 aT=>?_;have no:∀q':Rl,lb steps m i r a (j+1)=q'->∀(f:Fr) (n:Nat),ah f 11=au k->ah f 1=.d X->ah f 2=au m->ah f 3=au i->ah f 4=.ptr 0 0->ah f 8=.ptr 1 0->ah f 9=.ptr 2 0->
   ∀M,M=[(0,q'.cells.map .d),(1,(gB 0).cells.map .d),(2,si.cells.map .d)]->K1 ⟨f,M,n⟩:=by
   intro q' he f n g11 g1 g2 g3 g4 g8 g9 M hM;subst hM;apply aT;refine ag (by simp[aE]) ?_;simp only[go_sem,g11,hw];refine⟨bn,aB.cj [(0,0),(1,1),(2,2)] ⟨?_,?_,rfl,rfl⟩⟩;·simp[aV,ah,AV.aA,af,I5,g1,g2,g3,g4,g8,g9]
   ·simp[aL,aF,ai,he,-alh]
  apply ax;by_cases hki:k=i
  ·have afG:(k:Int)=i:=by omega
   refine aa λK hK=>az rfl rfl ?_;simp only[go_sem,eq_true afG,decide_true,alT];refine⟨rfl,hK _ ?_⟩;refine aH ?_;apply ar;simp only[go_sem];refine no _ (by rw[cy,if_neg (by simp[hki])]) _ _ rfl rfl rfl rfl rfl rfl rfl _ rfl
  ·have afG:¬(k:Int)=i:=by omega
   refine aa λK hK=>az rfl rfl ?_;simp only[go_sem,eq_false afG,decide_false,al7,gL,alm,hk',alj,cq,bT,bM.cells];refine dw (kw) ?_;simp only[go_sem];cases hb:gd b m
   ·simp only[go_sem];refine⟨rfl,hK _ ?_⟩;refine aH ?_;apply ar;simp only[go_sem];refine no _ (by rw[cy,hb];simp) _ _ rfl ?_ rfl rfl rfl rfl rfl _ rfl;rw[gL];rfl
   ·by_cases vw:b.loc=si.loc
    ·simp only[go_sem,gL,alm,hk',alj,cq,bT,bM.cells,eq_true vw,decide_true];refine⟨rfl,hK _ ?_⟩;refine aM ?_;refine ag rfl ?_;simp only[go_sem,als,cA ho];refine a8 (ka) ?_;simp only[go_sem,bJ Bw,dc Bw,eK,bJ ho,dc ho,gm Bw (bJ ho),alo,ali];refine no _ (by rw[cy,hb];simp[hki,vw]) _ _ rfl ?_ rfl rfl rfl rfl rfl _ rfl;rw[gL];rfl
    ·simp only[go_sem,gL,alm,hk',alj,cq,bT,bM.cells,eq_false vw,decide_false];refine⟨rfl,hK _ ?_⟩;refine aH ?_;apply ar;simp only[go_sem];refine no _ (by rw[cy,hb];simp[vw]) _ _ rfl ?_ rfl rfl rfl rfl rfl _ rfl;rw[gL];rfl
 ·have du:j=steps.length-a:=by omega
  subst du;have hk:a+(steps.length-a)=steps.length:=by omega
  rw[hk];have aQ:¬(steps.length:Int)<steps.length:=by omega
  unfold Bj;refine aa λK1 aT=>?_;refine J λK hK=>?_;simp only[go_sem,hlen,aQ];apply hK;refine aH ?_;refine aw (S':=Bj X m i (lb steps m i r a (steps.length-a)) (steps.getD i cU) steps.length) (aB.cj [(0,0),(1,1),(2,2)] ⟨by simp[aV,ah,AV.aA,aj,af,Bj],by simp[aL,aF,ai,ak,aj,AV.aA,af,ae,-alh,Bj],rfl,rfl⟩) ?_;exact aW hQ
theorem s6 {steps:List bM} {m:Int} {i:Nat} {r:Rl} (h:r.ok):(kB r steps m i).ok:=by
 unfold kB;simp only;split
 ·split;·exact h
  ·refine uc ?_ _ _;split;·exact h
   ·exact vo h _ _
 ·exact uc h _ _
theorem NW {steps:List bM} {m:Int} {store:Nat} (hs:store<steps.length):oJ steps m store<steps.length:=by
 unfold oJ;split;·omega
 ·split
  ·rename_i j hj;rw[List.findIdx?_eq_some_iff_getElem]at hj;have:=hj.1;omega
  ·omega
theorem X4 (s:bM):aN (some 7) (s.cells.map AV.d)=some (.agg (s.cells.map .d)):=rfl
theorem HL {steps:List bM} {X:DV} (hX:dU bM.cells steps X) (fk:steps.length<=1000000000000) (m:Int) {i:Nat} (hi:i<steps.length) {r:Rl} (h:r.ok):
 Pure aK 251 [.agg (r.cells.map .d),.d X,au m,au i] (.agg ((kB r steps m i).cells.map .d)):=by
 have hlen:=hX.len;obtain⟨cs,rest,gL,bT,cq⟩:=qm hX hi;have gK:(i:Int)<steps.length:=by omega
 have h0:(gB 0).ok:=gE 0;have cP:=s6 (steps:=steps) (m:=m) (i:=i) h;have uS:kB r steps m i=if 0<=(steps.getD i cU).src/\(steps.getD i cU).src<steps.length then
  (if oJ steps m (steps.getD i cU).src.toNat<0 then r else
   lb steps m i (if(steps.getD (steps.getD i cU).src.toNat cU).t=(steps.getD i cU).t then r else r.add (oJ steps m (steps.getD i cU).src.toNat) i) ((oJ steps m (steps.getD i cU).src.toNat).toNat+1) (steps.length-((oJ steps m (steps.getD i cU).src.toNat).toNat+1)))
  else lb steps m i r 0 steps.length:=rfl
 have aeu:=λ(r1:Rl) (h1:r1.ok) (a:Nat) (ha:a<=steps.length) (Q:Exit->St->Prop)=>abj hX fk m hi (r:=r1) h1 (a:=a) ha (Q:=Q);generalize Ml:steps.getD i cU=si at bT uS aeu;refine ay func251 Xq ntmps251 results251 rfl ?_;unfold aee;refine J λK hK=>?_;simp only[go_sem,nh,jZ];refine hK _ (J λK hK=>?_);simp only[go_sem,gL,alm,gK,alj,cq,bT,bM.cells];refine hK _ (J λK hK=>?_);simp only[go_sem];apply hK
 refine aw (S':=⟨[(1,.d X),(2,au m),(3,au i),(4,.ptr 0 0),(8,.ptr 1 0),(9,.ptr 2 0),(10,au (-1))],[(0,r.cells.map .d),(1,(gB 0).cells.map .d),(2,si.cells.map .d)],3⟩) (aB.cj [(0,0),(1,1),(2,2)] ⟨by simp[aV,ah,AV.aA,aj,af,bM.cells,gL],by simp[aL,aF,ai,ak,aj,AV.aA,af,ae,-alh,bM.cells,gL],rfl,rfl⟩) ?_;refine aa λKE fV=>?_;have tail:∀(r1:Rl) (c:Int) (a:Nat),r1.ok->c+1=a->a<=steps.length->kB r steps m i=lb steps m i r1 a (steps.length-a)->∀(f:Fr) (n:Nat),ah f 1=.d X->ah f 2=au m->ah f 3=au i->ah f 4=.ptr 0 0->ah f 8=.ptr 1 0->ah f 9=.ptr 2 0->ah f 10=au c->
  ∀M,M=[(0,r1.cells.map .d),(1,(gB 0).cells.map .d),(2,si.cells.map .d)]->KE ⟨f,M,n⟩:=by
  intro r1 c a h1 hca ha he f n g1 g2 g3 g4 g8 g9 g10 M hM;subst hM;have hw:alv.wrap (c+1)=(a:Int):=by rw[hca,wrap_i64 (by omega) (by omega)]
  apply fV;refine aa λKL hKL=>?_;refine aa λK hK=>ag (by simp[aE]) ?_;simp only[go_sem,g10,hw];apply hK;apply ax;refine aw (S':=Bj X m i (lb steps m i r1 a 0) si a) (aB.cj [(0,0),(1,1),(2,2)] ⟨by simp[Bj,aV,ah,AV.aA,af,g1,g2,g3,g4,g8,g9],by simp[Bj,aL,aF,ai,Ku,-alh],rfl,rfl⟩) ?_;refine aeu r1 h1 a ha _ ?_;rw[<-he];simp only[go_sem];apply hKL;unfold Bj;refine J λK hK=>?_;simp only[go_sem,als,cA cP,bJ cP,dc cP,eK,gm cP (bJ h0),bJ h0,dc h0,alo,ali];apply hK;apply an
  exact⟨.agg ((kB r steps m i).cells.map .d),by simp[bj,aP,bt,ah,ai,ak,aG,gF,cA cP],[],[],rfl,rfl,by simp[aL,aF,ai,ak,aG,aj,AV.aA,af,ae,-alh,gF,cA cP],by simp[AV.aA,aj,af,gF,cA cP]⟩
 by_cases hs0:0<=si.src
 ·by_cases hs1:si.src<steps.length
  ·obtain⟨q,hq⟩:∃q:Nat,si.src=q:=⟨si.src.toNat,by omega⟩;rw[hq]at hs0 hs1 uS;simp only[alj]at uS;rw[if_pos ⟨hs0,hs1⟩]at uS;have hql:q<steps.length:=by omega
   have kc:=RV hX m hql;have iW:=NW (steps:=steps) (m:=m) hql;obtain⟨Cy,s4,abk,j1,zm⟩:=qm hX hql;generalize oJ steps m q=c at kc uS iW;refine J λK hK=>?_;simp only[go_sem,bM.cells,hq,eq_true hs0,hlen,eq_true hs1,decide_true];apply hK;refine aM ?_;refine aa λKC hKC=>?_;refine J λK hK=>?_;simp only[go_sem,bM.cells,hq];refine a8 (kc) ?_;simp only[go_sem];apply hK;by_cases hc:c<0
   ·rw[if_pos hc]at uS;rw[uS]at cP⊢;refine J λK hK=>?_;simp only[go_sem,eq_true hc,decide_true];apply hK;refine aM ?_;refine J λK hK=>?_;simp only[go_sem,als,cA cP,bJ cP,dc cP,eK,gm cP (bJ h0),bJ h0,dc h0,alo,ali];apply hK;apply an;exact⟨.agg (r.cells.map .d),by simp[bj,aP,bt,ah,ai,ak,aG,gF,cA cP],[],[],rfl,rfl,by simp[aL,aF,ai,ak,aG,aj,AV.aA,af,ae,-alh,gF,cA cP],by simp[AV.aA,aj,af,gF,cA cP]⟩
   ·rw[if_neg hc]at uS;refine J λK hK=>?_;simp only[go_sem,eq_false hc,decide_false];apply hK;refine aH ?_;apply ar;apply hKC;have kad:=CO h c i;have Bw:=vo h c i;by_cases ht:(steps.getD q cU).t=si.t
    ·rw[if_pos ht]at uS;refine aa λK hK=>az rfl rfl ?_;simp only[go_sem,bM.cells,hq,abk,hs0,hs1,alm,alj,zm,j1,eq_true ht,decide_true,alT];refine⟨rfl,hK _ ?_⟩;refine aH ?_;apply ar;simp only[go_sem];refine tail r c (c.toNat+1) h (by omega) (by omega) uS _ _ ?_ rfl rfl rfl rfl rfl rfl _ ?_;·rw[abk];rfl
     ·simp[bM.cells,hq]
    ·rw[if_neg ht]at uS;refine aa λK hK=>az rfl rfl ?_;simp only[go_sem,bM.cells,hq,abk,hs0,hs1,alm,alj,zm,j1,eq_false ht,decide_false,al7];refine⟨rfl,hK _ ?_⟩;refine aM ?_;refine ag rfl ?_;simp only[go_sem,als,cA h];refine a8 (kad) ?_;simp only[go_sem,bJ Bw,dc Bw,eK,bJ h,dc h,gm Bw (bJ h),alo,ali];refine tail (r.add c i) c (c.toNat+1) Bw (by omega) (by omega) uS _ _ ?_ rfl rfl rfl rfl rfl rfl _ ?_;·rw[abk];rfl
     ·simp[bM.cells,hq]
  ·rw[if_neg (by omega)]at uS;refine J λK hK=>?_;simp only[go_sem,bM.cells,eq_true hs0,hlen,eq_false hs1,decide_true,decide_false];apply hK;refine aH ?_;apply ar;simp only[go_sem];refine tail r (-1) 0 h (by omega) (by omega) uS _ _ rfl rfl rfl rfl rfl rfl rfl _ ?_;simp[bM.cells]
 ·rw[if_neg (by omega)]at uS;refine J λK hK=>?_;simp only[go_sem,bM.cells,eq_false hs0,decide_false];apply hK;refine aH ?_;apply ar;simp only[go_sem];refine tail r (-1) 0 h (by omega) (by omega) uS _ _ rfl rfl rfl rfl rfl rfl rfl _ ?_;simp[bM.cells]
def NX (a b:bM) (m:Int) (i:Nat):Bool:=
 decide (a.pick=b.pick)||(gd a m&&gd b m&&decide (a.loc=b.loc))||(decide (b.kind=6)&&decide (b.src=(i:Int)))||(decide (a.kind=6)&&decide (a.t=b.t)&&tW b)
theorem HM (steps:List bM) (m:Int) (i:Nat) (r:Rl) (k:Nat):XH steps m i r k=if NX (steps.getD i cU) (steps.getD k cU) m i then r.add i k else r:=rfl
theorem abl {steps:List bM} {m:Int} {i:Nat} {r:Rl} (h:r.ok) (k:Nat):(XH steps m i r k).ok:=by
 rw[HM];split;·exact vo h _ _
 ·exact h
def uy (steps:List bM) (m:Int) (i:Nat) (r:Rl) (j:Nat):Rl:=(List.range' (i+1) j).foldl (XH steps m i) r
theorem FP (steps:List bM) (m:Int) (i:Nat) (r:Rl) (j:Nat):uy steps m i r (j+1)=XH steps m i (uy steps m i r j) (i+1+j):=by
 unfold uy;rw[List.range'_1_concat,List.foldl_append];rfl
theorem FQ (steps:List bM) (m:Int) (i:Nat) (r:Rl):uy steps m i r 0=r:=rfl
theorem xB {steps:List bM} {m:Int} {i:Nat} {r:Rl} (h:r.ok):∀j,(uy steps m i r j).ok
 |0=>h
 |j+1=>by rw[FP];exact abl (xB h j) _
def TG (X:DV) (n:Nat) (m:Int) (i:Nat) (r:Rl) (a:bM) (k:Nat):St:=
 ⟨[(8,au k),(0,.d X),(1,au m),(6,au i),(4,.ptr 0 0),(5,.ptr 1 0),(7,.ptr 2 0),(18,.d X),(19,au n),(20,au i)],[(0,(gB 0).cells.map .d),(1,r.cells.map .d),(2,a.cells.map .d)],3⟩
theorem aio {steps:List bM} {X:DV} (hX:dU bM.cells steps X) (fk:steps.length<=1000000000000) (m:Int) {i:Nat} (hi:i<steps.length) {r:Rl} (h:r.ok) {Q:Exit->St->Prop}
 (hQ:Q (.exit 2) (TG X steps.length m i (uy steps m i r (steps.length-(i+1))) (steps.getD i cU) steps.length)):
 fP aK (aE []) 101 (.loop Hf) (TG X steps.length m i (uy steps m i r 0) (steps.getD i cU) (i+1)) Q:=by
 have hlen:=hX.len;refine bS (λj=>TG X steps.length m i (uy steps m i r j) (steps.getD i cU) (i+1+j)) (steps.length-(i+1)) ?_;intro j hj;have ho:=xB (steps:=steps) (m:=m) (i:=i) h j;unfold Hf;by_cases bn:j<steps.length-(i+1)
 ·have aQ:((i+1+j:Nat):Int)<steps.length:=by omega
  have cy:=FP steps m i r j;rw[HM]at cy;generalize uy steps m i r j=q at ho cy;have I5:i+1+(j+1)=(i+1+j)+1:=by omega
  generalize hk:i+1+j=k at aQ cy I5;have hw:=cY (i:=k) (by omega);obtain⟨cs,rest,gL,bT,cq⟩:=qm hX (i:=k) (by omega);generalize steps.getD i cU=a at cy;generalize steps.getD k cU=b at bT cy;have kwa:=fJ a m;have kwb:=fJ b m;have kfb:=rv b;have kad:=CO ho i k;have Bw:=vo ho i k;unfold TG;refine aa λK1 aT=>?_;refine J λK hK=>?_;simp only[go_sem,hlen,aQ];apply hK;refine aM ?_;apply ar;apply aT;refine aa λK1 aT=>?_
  have back:∀q':Rl,uy steps m i r (j+1)=q'->∀(f:Fr) (n:Nat) (bc:List AV),ah f 8=au k->ah f 0=.d X->ah f 1=au m->ah f 6=au i->ah f 4=.ptr 0 0->ah f 5=.ptr 1 0->ah f 7=.ptr 2 0->ah f 18=.d X->ah f 19=au steps.length->ah f 20=au i->
   ∀M,M=[(0,(gB 0).cells.map .d),(1,q'.cells.map .d),(2,a.cells.map .d),(3,bc)]->K1 ⟨f,M,n⟩:=by
   intro q' he f n bc g8 g0 g1 g6 g4 g5 g7 g18 g19 g20 M hM;subst hM;apply aT;refine ag (by simp[aE]) ?_;simp only[go_sem,g8,hw];refine⟨bn,aB.cj [(0,0),(1,1),(2,2)] ⟨?_,?_,rfl,rfl⟩⟩;·simp[aV,ah,AV.aA,af,I5,g0,g1,g6,g4,g5,g7,g18,g19,g20]
   ·simp[aL,aF,ai,he,-alh]
  apply ax;refine J λK hK=>?_;simp only[go_sem,gL,alm,aQ,alj,cq,bT,bM.cells];apply hK;refine aa λKC hKC=>?_;have last:∀(cb:Bool),cb=NX a b m i->∀(f:Fr) (n:Nat),ah f 86=.d (.bool cb)->ah f 8=au k->ah f 0=.d X->ah f 1=au m->ah f 6=au i->ah f 4=.ptr 0 0->ah f 5=.ptr 1 0->ah f 7=.ptr 2 0->ah f 18=.d X->ah f 19=au steps.length->ah f 20=au i->
   ∀M,M=[(0,(gB 0).cells.map .d),(1,q.cells.map .d),(2,a.cells.map .d),(3,b.cells.map .d)]->∀Q2:Exit->St->Prop,(∀S,K1 S->Q2 .normal S)->
   fP aK (aE []) 101 (.cond (.t 86) (.region false [oM 87 (.load (some 65) (.t 5)),oM 88 (.mv (.t 6)),oM 89 (.mv (.t 8)),oM 90 (.bW 249 [.t 87,.t 88,.t 89]),⟨none,.store 65 (.t 5) (.t 90),none⟩] []) .skip) ⟨f,M,n⟩ Q2:=by
   intro cb hcb f n g86 g8 g0 g1 g6 g4 g5 g7 g18 g19 g20 M hM Q2 hQ2;subst hM;rw[<-hcb]at cy;cases cb
   ·refine aH ?_ (by simp[ev,g86]);refine ar (hQ2 _ (back q (by rw[cy];rfl) _ _ _ g8 g0 g1 g6 g4 g5 g7 g18 g19 g20 _ rfl))
   ·refine aM ?_ (by simp[ev,g86]);refine ag (by simp[aE]) ?_;simp only[go_sem,g5,g6,g8,als,cA ho];refine a8 (kad) ?_;simp only[go_sem,g5,bJ Bw,dc Bw,eK,bJ ho,dc ho,gm Bw (bJ ho),alo,ali];refine hQ2 _ (back (q.add i k) (by rw[cy];rfl) _ _ _ ?_ ?_ ?_ ?_ ?_ ?_ ?_ ?_ ?_ ?_ _ rfl)<;>simp[ah,g8,g0,g1,g6,g4,g5,g7,g18,g19,g20]
  have Wc:∀(bo:Bool),bo=(gd a m&&gd b m&&decide (a.loc=b.loc))->∀(f:Fr) (n:Nat),ah f 10=.d (.bool bo)->ah f 9=.ptr 3 0->ah f 8=au k->ah f 0=.d X->ah f 1=au m->ah f 6=au i->ah f 4=.ptr 0 0->ah f 5=.ptr 1 0->ah f 7=.ptr 2 0->ah f 18=.d X->ah f 19=au steps.length->ah f 20=au i->
   ∀M,M=[(0,(gB 0).cells.map .d),(1,q.cells.map .d),(2,a.cells.map .d),(3,b.cells.map .d)]->KC ⟨f,M,n⟩:=by
   intro bo hbo f n g10 g9 g8 g0 g1 g6 g4 g5 g7 g18 g19 g20 M hM;subst hM;apply hKC;refine aa λK hK=>ag (by simp[aE]) ?_;simp only[go_sem,g10,g9,g7,g6,bM.cells]
   repeat' (first
    |(refine cn (λhb=>?_) (λhb=>?_)<;>simp only[go_sem,hb,g10,g9,g7,g6,bM.cells])
    |(refine b7 (λhb=>?_) (λhb=>?_)<;>simp only[go_sem,hb,g10,g9,g7,g6,bM.cells])
    |(refine aI (kfb) rfl rfl ?_;simp only[go_sem,g10,g9,g7,g6,bM.cells])
    |(refine bD (kfb) rfl rfl ?_;simp only[go_sem,g10,g9,g7,g6,bM.cells])
    |(rw[if_pos (by(try simp only[aln,alu,alB,alk]);omega)];simp only[go_sem,g10,g9,g7,g6,bM.cells]))
   all_goals(apply hK;clear hK;refine last _ ?_ _ _ rfl ?_ ?_ ?_ ?_ ?_ ?_ ?_ ?_ ?_ ?_ _ ?_ _ (λS h=>h))
   all_goals first
    |(simp[ah,g8,g0,g1,g6,g4,g5,g7,g18,g19,g20];done)
    |(simp[bM.cells];done)
    |(simp_all [NX];done)
  refine ag rfl ?_;simp only[go_sem,bM.cells]
  repeat' (first
   |(refine cn (λhb=>?_) (λhb=>?_)<;>simp only[go_sem,hb,bM.cells])
   |(refine b7 (λhb=>?_) (λhb=>?_)<;>simp only[go_sem,hb,bM.cells])
   |(refine aI (kwa) rfl rfl ?_;simp only[go_sem,bM.cells])
   |(refine bD (kwa) rfl rfl ?_;simp only[go_sem,bM.cells])
   |(refine aI (kwb) rfl rfl ?_;simp only[go_sem,bM.cells])
   |(refine bD (kwb) rfl rfl ?_;simp only[go_sem,bM.cells])
   |(rw[if_pos (by(try simp only[aln,alu,alB,alk]);omega)];simp only[go_sem,bM.cells]))
  all_goals(refine Wc _ ?_ _ _ rfl rfl rfl ?_ rfl rfl rfl rfl rfl ?_ rfl rfl _ ?_)
  all_goals first
   |(rw[gL];rfl)
   |(simp[bM.cells];done)
   |(simp_all;done)
 ·have du:j=steps.length-(i+1):=by omega
  subst du;have hk:i+1+(steps.length-(i+1))=steps.length:=by omega
  rw[hk];have aQ:¬(steps.length:Int)<steps.length:=by omega
  unfold TG;refine aa λK1 aT=>?_;refine J λK hK=>?_;simp only[go_sem,hlen,aQ];apply hK;refine aH ?_;refine aw (S':=TG X steps.length m i (uy steps m i r (steps.length-(i+1))) (steps.getD i cU) steps.length) (aB.cj [(0,0),(1,1),(2,2)] ⟨by simp[aV,ah,AV.aA,aj,af,TG],by simp[aL,aF,ai,ak,aj,AV.aA,af,ae,-alh,TG],rfl,rfl⟩) ?_;exact aW hQ
theorem Dd (steps:List bM) (m:Int) (r:Rl) (i:Nat):FB steps m r i=if y4 (steps.getD i cU)then kB (uy steps m i r (steps.length-(i+1))) steps m i else uy steps m i r (steps.length-(i+1)):=rfl
theorem X5 {steps:List bM} {m:Int} {r:Rl} (h:r.ok) (i:Nat):(FB steps m r i).ok:=by
 rw[Dd];split;·exact s6 (xB h _)
 ·exact xB h _
def s7 (steps:List bM) (m:Int) (j:Nat):Rl:=(alI j).foldl (FB steps m) (gB steps.length)
theorem De (steps:List bM) (m:Int) (j:Nat):s7 steps m (j+1)=FB steps m (s7 steps m j) j:=eI _ _ _
theorem Df (steps:List bM) (m:Int):s7 steps m 0=gB steps.length:=rfl
theorem xC (steps:List bM) (m:Int):∀j,(s7 steps m j).ok
 |0=>gE _
 |j+1=>by rw[De];exact X5 (xC steps m j) j
theorem HN (steps:List bM) (m:Int):Ny steps m=if 64<steps.length then gB 0 else(s7 steps m steps.length).clo:=rfl
theorem X6 (steps:List bM) (m:Int):(Ny steps m).ok:=by
 rw[HN];split;·exact gE _
 ·exact XM (xC _ _ _)
theorem abm {steps:List bM} {X:DV} (hX:dU bM.cells steps X) (fk:steps.length<=1000000000000) (m:Int):Pure aK 187 [.d X,au m] (.agg ((Ny steps m).cells.map .d)):=by
 have hlen:=hX.len;have h0:(gB 0).ok:=gE 0;have cP:=X6 steps m;refine ay func187 W0 ntmps187 results187 rfl ?_;unfold adQ;refine J λK hK=>?_;simp only[go_sem,nh,jZ];apply hK;refine aa λKA hKA=>?_;by_cases h64:64<steps.length
 ·have afH:(64:Int)<steps.length:=by omega
  have kn:=xi 0;have he:Ny steps m=gB 0:=by rw[HN,if_pos h64]
  rw[he]at cP⊢;refine J λK hK=>?_;simp only[go_sem,hlen,eq_true afH,decide_true];apply hK;refine aM ?_;refine J λK hK=>?_;simp only[go_sem];refine a8 (kn) ?_;simp only[go_sem,bJ cP,dc cP,eK,gm cP (bJ h0),bJ h0,dc h0,alo,ali];apply hK;apply an;exact⟨.agg ((gB 0).cells.map .d),by simp[bj,aP,bt,ah,ai,ak,aG,gF,cA cP],[],[],rfl,rfl,by simp[aL,aF,ai,ak,aG,aj,AV.aA,af,ae,-alh,gF,cA cP],by simp[AV.aA,aj,af,gF,cA cP]⟩
 ·have afH:¬(64:Int)<steps.length:=by omega
  have kn:=xi steps.length;have NY:=gE steps.length;have he:Ny steps m=(s7 steps m steps.length).clo:=by rw[HN,if_neg h64]
  have kcl:=Hr (xC steps m steps.length);rw[<-he]at kcl;refine J λK hK=>?_;simp only[go_sem,hlen,eq_false afH,decide_false];apply hK;refine aH ?_;apply ar;refine hKA _ (J λK hK=>?_);simp only[go_sem,hlen];refine a8 (kn) ?_;simp only[go_sem,nh,jZ,bJ NY,dc NY,eK,gm NY (bJ h0),bJ h0,dc h0,alo,ali];apply hK;refine aa λKE fV=>?_;refine J λK hK=>?_;simp only[go_sem,hlen];apply hK;apply ax
  refine aw (S':=⟨[(0,.d X),(1,au m),(4,.ptr 0 0),(5,.ptr 1 0),(18,.d X),(19,au steps.length),(20,au (0:Nat))],[(0,(gB 0).cells.map .d),(1,(s7 steps m 0).cells.map .d)],2⟩) (aB.cj [(0,0),(1,1)] ⟨by simp[aV,ah,AV.aA,aj,af,Df],by simp[aL,aF,ai,ak,aj,AV.aA,af,ae,-alh,Df],rfl,rfl⟩) ?_;refine bS (λi=>⟨[(0,.d X),(1,au m),(4,.ptr 0 0),(5,.ptr 1 0),(18,.d X),(19,au steps.length),(20,au (i:Nat))],[(0,(gB 0).cells.map .d),(1,(s7 steps m i).cells.map .d)],2⟩) steps.length ?_;intro i hi;have ho:=xC steps m i;unfold PM;by_cases bn:i<steps.length
  ·have aQ:(i:Int)<steps.length:=by omega
   have hw:=cY (i:=i) (by omega);have cy:=De steps m i;rw[Dd]at cy;generalize s7 steps m i=q at ho cy;obtain⟨cs,rest,gL,bT,cq⟩:=qm hX bn;have du:=λ(Q:Exit->St->Prop)=>aio hX fk m bn ho (Q:=Q);have hu:=xB (steps:=steps) (m:=m) (i:=i) ho (steps.length-(i+1));generalize uy steps m i q (steps.length-(i+1))=u at cy du hu;have krd:=HL hX fk m bn hu;have vq:=s6 (steps:=steps) (m:=m) (i:=i) hu;generalize steps.getD i cU=a at cy du bT;have kra:=AB a;refine J λK hK=>?_;simp only[go_sem,aQ];apply hK;refine aa λK1 aT=>?_;refine aM ?_;apply ar;apply aT;refine aa λK1 aT=>?_;apply ax;refine J λK hK=>?_
   simp only[go_sem,gL,alm,aQ,alj,cq,bT,bM.cells];apply hK;refine aa λKB hKB=>?_;refine J λK hK=>?_;simp only[go_sem,hw];apply hK;apply ax;refine aw (S':=TG X steps.length m i (uy steps m i q 0) a (i+1)) (aB.cj [(0,0),(1,1),(2,2)] ⟨by simp[aV,ah,AV.aA,aj,af,TG,FQ,bM.cells,gL],by simp[aL,aF,ai,ak,aj,AV.aA,af,ae,-alh,TG,FQ,bM.cells,gL],rfl,rfl⟩) ?_;refine du _ ?_;simp only[go_sem];apply hKB;unfold TG;refine J λK hK=>?_;simp only[go_sem,als,X4];refine a8 (kra) ?_;simp only[go_sem];apply hK;cases hb:y4 a
   ·rw[hb]at cy;refine aH ?_ (by simp[ev,ah,hb]);apply ar;simp only[go_sem];apply aT;refine ag rfl ?_;simp only[go_sem,hw];refine⟨bn,?_⟩;exact aB.cj [(0,0),(1,1)] ⟨by simp[aV,ah,AV.aA,aj,af,cy],by simp[aL,aF,ai,ak,aG,aj,AV.aA,af,ae,-alh,cy],rfl,rfl⟩
   ·rw[hb]at cy;refine aM ?_ (by simp[ev,ah,hb]);refine ag rfl ?_;simp only[go_sem,als,cA hu];refine a8 (krd) ?_;simp only[go_sem,bJ vq,dc vq,eK,bJ hu,dc hu,gm vq (bJ hu),alo,ali];apply aT;refine ag rfl ?_;simp only[go_sem,hw];refine⟨bn,?_⟩;exact aB.cj [(0,0),(1,1)] ⟨by simp[aV,ah,AV.aA,aj,af,cy],by simp[aL,aF,ai,ak,aG,aj,AV.aA,af,ae,-alh,cy],rfl,rfl⟩
  ·have du:i=steps.length:=by omega
   subst du;have aQ:¬(steps.length:Int)<steps.length:=by omega
   refine J λK hK=>?_;simp only[go_sem,aQ];apply hK;refine aa λK1 aT=>?_;refine aH ?_;apply aW;show KE _;refine fV _ (J λK hK=>?_);simp only[go_sem,als,cA ho];refine a8 (kcl) ?_;simp only[go_sem,bJ cP,dc cP,eK,gm cP (bJ h0),bJ h0,dc h0,alo,ali];apply hK;apply an;exact⟨.agg ((Ny steps m).cells.map .d),by simp[bj,aP,bt,ah,ai,ak,aG,gF,cA cP],[],[],rfl,rfl,by simp[aL,aF,ai,ak,aG,aj,AV.aA,af,ae,-alh,gF,cA cP],by simp[AV.aA,aj,af,gF,cA cP]⟩
section
variable{α β:Type} {enc:α->List β} {w:Nat}
theorem zn (hw:∀a,(enc a).length=w):∀(l:List α),(l.flatMap enc).length=l.length*w
 | []=>by simp
 |a::l=>by rw[alO,aln,hw,zn hw l,alu,Nat.add_mul];omega
theorem vE (hw:∀a,(enc a).length=w):∀(l:List α) (i:Nat),(l.flatMap enc).drop (i*w)=(l.drop i).flatMap enc
 |l,0=>by simp
 | [],i+1=>by simp
 |a::l,i+1=>by
  rw[alO,show(i+1)*w=(enc a).length+i*w by rw[hw,Nat.add_mul];omega,List.drop_append,Nat.add_sub_cancel_left,vE hw l i,List.drop_of_length_le (by omega),al8,List.drop_succ_cons]
theorem Dg (hw:∀a,(enc a).length=w):∀(l:List α) (i:Nat),(l.flatMap enc).take (i*w)=(l.take i).flatMap enc
 |l,0=>by simp
 | [],i+1=>by simp
 |a::l,i+1=>by
  rw[alO,show(i+1)*w=(enc a).length+i*w by rw[hw,Nat.add_mul];omega,List.take_append,List.take_succ_cons,alO,<-Dg hw l i]
  congr 1
  ·exact alx (by omega)
  ·congr 1;omega
end
theorem BL {l:List bM} {i:Nat} (hi:i<l.length):aN (some 7) (((bY l).map AV.d).drop (i*7))=some (.agg ((l.getD i cU).cells.map .d)):=by
 unfold bY;rw[<-List.map_drop,vE ua,List.drop_eq_getElem_cons hi,alO,al1,alC,alw hi];rfl
def Dh (x:Nat×Nat):List DV:=[.int .i64 x.1,.int .i64 x.2]
def gO (l:List (Nat×Nat)):List DV:=l.flatMap Dh
theorem Kv (x:Nat×Nat):(Dh x).length=2:=rfl
theorem ud (l:List (Nat×Nat)):(gO l).length=l.length*2:=lx Kv l
theorem NZ (l:List (Nat×Nat)) (x:Nat×Nat):gO (l++[x])=gO l++Dh x:=by simp[gO]
def qn (r:Rl) (steps:List bM) (m:Int) (k i:Nat):List (Nat×Nat):=((alI i).filter (vk r r.inv steps m k)).map λi=>(i,k)
def Di (r:Rl) (steps:List bM) (m:Int) (k:Nat):List (Nat×Nat):=(alI k).flatMap λk=>qn r steps m k k
theorem RX (r:Rl) (steps:List bM) (m:Int) (k i:Nat):qn r steps m k (i+1)=qn r steps m k i++if vk r r.inv steps m k i then [(i,k)]else []:=by
 unfold qn;rw[List.range_succ,List.filter_append,al1]
 congr 1
 cases h:vk r r.inv steps m k i<;>simp[h]
theorem FT (r:Rl) (steps:List bM) (m:Int) (k:Nat):Di r steps m (k+1)=Di r steps m k++qn r steps m k k:=by
 unfold Di;rw[List.range_succ,List.flatMap_append];simp
theorem Dj (r:Rl) (steps:List bM) (m:Int):je r steps m=Di r steps m r.n:=rfl
theorem Kx (r:Rl) (steps:List bM) (m:Int) (k i:Nat):(qn r steps m k i).length<=i:=by
 unfold qn;rw[alk];have:=List.length_filter_le (vk r r.inv steps m k) (alI i);simpa using this
theorem Ky (r:Rl) (steps:List bM) (m:Int):∀k,k<=64->(Di r steps m k).length<=k*64
 |0,_=>by simp[Di]
 |k+1,h=>by
  rw[FT,aln];have:=Ky r steps m k (by omega);have:=Kx r steps m k k;omega
def s8 (steps:List bM) (m:Int) (r back:Rl) (acc:List (Nat×Nat)) (ex:Fr):St:=
 ⟨ex++[(1,.sl 0 7 0 steps.length),(2,au m),(3,.ptr 1 0),(8,.ptr 2 0),(7,.sl 3 2 0 acc.length)],[(0,(bY steps).map .d),(1,r.cells.map .d),(2,back.cells.map .d),(3,(gO acc).map .d)],4⟩
theorem aip {steps:List bM} (m:Int) {r:Rl} (h:r.ok) (hn:r.n<=steps.length) {k:Nat} (hk:k<r.n) {acc:List (Nat×Nat)} (ha:acc.length<=4096) {N:Nat} {Q:Exit->St->Prop}
 (hQ:Q (.exit 2) (s8 steps m r r.inv (acc++qn r steps m k k) [(9,au k),(14,au N),(15,au k)])):
 fP aK (aE [(0,(bY steps).map .d)]) 57 (.loop Hg) (s8 steps m r r.inv (acc++qn r steps m k 0) [(19,au (0:Nat)),(18,au k),(9,au k),(14,au N),(15,au k)]) Q:=by
 have du:=Hn h;have h64:=h.1;refine bS (λi=>s8 steps m r r.inv (acc++qn r steps m k i) [(19,au (i:Nat)),(18,au k),(9,au k),(14,au N),(15,au k)]) k ?_;intro i hi;have po:=Kx r steps m k i;unfold Hg;by_cases bn:i<k
 ·have aQ:(i:Int)<k:=by omega
  have hw:=cY (i:=i) (by omega);have cy:=RX r steps m k i;have tK:(acc++qn r steps m k i).length<=5000:=by rw[aln];omega
  have Kz:acc++qn r steps m k (i+1)=(acc++qn r steps m k i)++if vk r r.inv steps m k i then [(i,k)]else []:=by rw[cy,List.append_assoc]
  generalize acc++qn r steps m k i=q at tK Kz;clear cy;have hrt:vk r r.inv steps m k i=(r.has i k&&decide (r.row i&&&r.inv.row k=0)&&xa (steps.getD i cU) (steps.getD k cU) m):=rfl;rw[hrt]at Kz;have k1:=FE h i k;have k2:=CN h i;have k3:=CN du k;have hand:=pt (XK h i) (XK du k);have hs1:=BL (l:=steps) (i:=i) (by omega);have ZG:=BL (l:=steps) (i:=k) (by omega);have Ho:i<steps.length:=by omega
  have akj:k<steps.length:=by omega
  have gK:(i:Int)<steps.length:=by omega
  have hk':(k:Int)<steps.length:=by omega
  have k4:=Ks (steps.getD i cU) (steps.getD k cU) m;generalize steps.getD i cU=a at k4 Kz hs1;generalize steps.getD k cU=b at k4 Kz ZG;unfold s8;refine J λK hK=>?_;simp only[go_sem,aQ];apply hK;refine aa λK1 aT=>?_;refine aM ?_;apply ar;apply aT;refine aa λK1 aT=>?_;have back:∀q',acc++qn r steps m k (i+1)=q'->∀(f:Fr) (n j:Nat),4<=n->j=3\/4<=j->ah f 1=.sl 0 7 0 steps.length->ah f 2=au m->ah f 3=.ptr 1 0->ah f 8=.ptr 2 0->ah f 7=.sl j 2 0 q'.length->ah f 19=au i->ah f 18=au k->ah f 9=au k->ah f 14=au N->ah f 15=au k->
   ∀M,ai M 0=some ((bY steps).map .d)->ai M 1=some (r.cells.map .d)->ai M 2=some (r.inv.cells.map .d)->ai M j=some ((gO q').map .d)->K1 ⟨f,M,n⟩:=by
   intro q' he f n j hnn hj g1 g2 g3 g8 g7 g19 g18 g9 g14 g15 M mz m0 m1 m2;apply aT;refine ag (by simp[aE];omega) ?_;simp only[go_sem,g19,hw];refine⟨bn,aB.cj [(0,0),(1,1),(2,2),(j,3)] ⟨?_,?_,?_,rfl⟩⟩
   ·have:¬0=j:=by omega
    have:¬1=j:=by omega
    have:¬2=j:=by omega
    simp[s8,aV,ah,AV.aA,af,g1,g2,g3,g8,g7,g18,g9,g14,g15,he, *]
   ·simp[s8,aL,aF,ai,mz,m0,m1,m2,he,-alh]
   ·simp[bX];omega
  apply ax;refine J λK hK=>?_;simp only[go_sem];apply hK;refine aa λK hK=>az rfl rfl ?_;simp only[go_sem,als,cA h];refine dw (k1) ?_;simp only[go_sem];have no:∀(f:Fr) (n:Nat),4<=n->ah f 47=.d (.bool false)->ah f 1=.sl 0 7 0 steps.length->ah f 2=au m->ah f 3=.ptr 1 0->ah f 8=.ptr 2 0->ah f 7=.sl 3 2 0 q.length->ah f 19=au i->ah f 18=au k->ah f 9=au k->ah f 14=au N->ah f 15=au k->
   acc++qn r steps m k (i+1)=q->K ⟨f,[(0,(bY steps).map .d),(1,r.cells.map .d),(2,r.inv.cells.map .d),(3,(gO q).map .d)],n⟩:=by
   intro f n hnn g47 g1 g2 g3 g8 g7 g19 g18 g9 g14 g15 he;apply hK;refine aH ?_ (by simp[ev,g47]);apply ar;simp only[go_sem];exact back q he _ _ 3 hnn (.inl rfl) g1 g2 g3 g8 g7 g19 g18 g9 g14 g15 _ rfl rfl rfl rfl
  cases jR:r.has i k
  ·simp only[go_sem];refine⟨rfl,no _ _ (by omega) rfl rfl rfl rfl rfl rfl rfl rfl rfl rfl rfl ?_⟩;rw[Kz,jR];simp
  ·simp only[go_sem,als,cA h];refine dw (k2) ?_;simp only[go_sem,als,cA du];refine dw (k3) ?_;simp only[go_sem,hand];by_cases iq:r.row i&&&r.inv.row k=0
   ·have afI:((r.row i&&&r.inv.row k:Nat):Int)=0:=by omega
    simp only[go_sem,eq_true afI,decide_true,alm,gK,hk',Ho,akj,alj,alk,alo,hs1,ZG,bM.cells];refine dw (k4) ?_;simp only[go_sem];cases y2:xa a b m
    ·refine⟨rfl,no _ _ (by omega) ?_ rfl rfl rfl rfl rfl rfl rfl rfl rfl rfl ?_⟩;·simp[ah]
     ·rw[Kz,y2];simp
    ·refine⟨rfl,hK _ ?_⟩;clear hK no;have uM:(q.length+1)*16<=140737488351232:=by omega
     have u5:=ud q;refine aM ?_;refine ag rfl ?_;simp only[go_sem,alk,u5,uM,alo];refine back (q++[(i,k)]) (by rw[Kz,jR,y2];simp[iq]) _ _ 27 (by decide) (.inr (by omega)) rfl rfl rfl rfl ?_ rfl rfl rfl rfl rfl _ rfl rfl rfl ?_;·simp[ah]
     ·simp[ai,NZ,Dh]
   ·have afI:¬((r.row i&&&r.inv.row k:Nat):Int)=0:=by omega
    simp only[go_sem,eq_false afI,decide_false];refine⟨rfl,no _ _ (by omega) rfl rfl rfl rfl rfl rfl rfl rfl rfl rfl rfl ?_⟩;rw[Kz,jR];simp[iq]
 ·have du:i=k:=by omega
  subst du;have aQ:¬(i:Int)<i:=by omega
  generalize acc++qn r steps m i i=q at hQ;unfold s8 at hQ⊢;refine J λK hK=>?_;simp only[go_sem,aQ];apply hK;refine aa λK1 aT=>?_;refine aH ?_;refine aw (S':=⟨[(9,au i),(14,au N),(15,au i)]++[(1,.sl 0 7 0 steps.length),(2,au m),(3,.ptr 1 0),(8,.ptr 2 0),(7,.sl 3 2 0 q.length)],[(0,(bY steps).map .d),(1,r.cells.map .d),(2,r.inv.cells.map .d),(3,(gO q).map .d)],4⟩) (aB.cj [(0,0),(1,1),(2,2),(3,3)] ⟨by simp[aV,ah,AV.aA,aj,af,alk],by simp[aL,aF,ai,ak,aj,AV.aA,af,ae,-alh,alk],rfl,rfl⟩) ?_;exact aW hQ
theorem FU (r:Rl) (steps:List bM) (m:Int):Di r steps m 0=[]:=rfl
theorem vF (l:List (Nat×Nat)):(gO l).take (l.length*2)=gO l:=alx (by rw[ud];exact ali _)
theorem FV:gO []=[]:=rfl
theorem Qc (r:Rl) (steps:List bM) (m:Int) {k:Nat} (h:k<=64):(Di r steps m k).length<=4096:=by
 have:=Ky r steps m k h;omega
theorem EO {steps:List bM} (m:Int) {r:Rl} (h:r.ok) (hn:r.n<=steps.length):
 bB aK 188 [.agg (r.cells.map .d),.sl 0 7 0 steps.length,au m] [(0,(bY steps).map .d)] λr' m'=>r'=.d (.sl (je r steps m).length (gO (je r steps m)))/\m'=[(0,(bY steps).map .d)]:=by
 have du:=Hn h;have h64:=h.1;have ki:=xk h;have kn:=afs (r:=r);refine ay func188 W3 ntmps188 results188 rfl ?_;unfold adR;refine J λK hK=>?_;simp only[go_sem];refine hK _ (J λK hK=>?_);simp only[go_sem];refine hK _ (J λK hK=>?_);simp only[go_sem,als,cA h,bJ h,dc h];refine a8 (ki) ?_;simp only[go_sem,nh,jZ,bJ du,dc du,eK,gm du (bJ (gE 0)),bJ (gE 0),dc (gE 0),alo,ali];apply hK;refine aa λKE fV=>?_;refine J λK hK=>?_;simp only[go_sem,als,cA h,bJ h,dc h];refine a8 (kn) ?_;simp only[go_sem];apply hK;apply ax;refine aw (aB.nil 7 2 rfl rfl) ?_
 refine aw (S':=s8 steps m r r.inv (Di r steps m 0) [(14,au r.n),(15,au (0:Nat))]) (aB.cj [(0,0),(1,1),(2,2),(3,3)] ⟨by simp[aV,ah,AV.aA,aj,af,s8,FU,FV],by simp[aL,aF,ai,ak,aj,AV.aA,af,ae,-alh,s8,FU,FV],rfl,rfl⟩) ?_;refine bS (λk=>s8 steps m r r.inv (Di r steps m k) [(14,au r.n),(15,au (k:Nat))]) r.n ?_;intro k hk;unfold PN;by_cases bn:k<r.n
 ·have aQ:(k:Int)<r.n:=by omega
  have hw:=cY (i:=k) (by omega);have AE:=Qc r steps m (k:=k) (by omega);have cy:=FT r steps m k;have hl:=λ(Q:Exit->St->Prop)=>aip m h hn bn AE (N:=r.n) (Q:=Q);unfold s8;refine J λK hK=>?_;simp only[go_sem,aQ];apply hK;refine aa λK1 aT=>?_;refine aM ?_;apply ar;apply aT;refine aa λK1 aT=>?_;apply ax;refine J λK hK=>?_;simp only[go_sem];refine hK _ (J λK hK=>?_);simp only[go_sem];apply hK;apply ax
  refine aw (S':=s8 steps m r r.inv (Di r steps m k++qn r steps m k 0) [(19,au (0:Nat)),(18,au k),(9,au k),(14,au r.n),(15,au k)]) (aB.cj [(0,0),(1,1),(2,2),(3,3)] ⟨by simp[aV,ah,AV.aA,aj,af,s8,qn,List.range_zero,List.filter_nil,alL,List.append_nil],by simp[aL,aF,ai,ak,aj,AV.aA,af,ae,-alh,s8,qn,List.range_zero,List.filter_nil,alL,List.append_nil],rfl,rfl⟩) ?_;refine hl _ ?_;simp only[go_sem];apply aT;unfold s8;rw[<-cy];refine ag rfl ?_;simp only[go_sem,hw];refine⟨bn,?_⟩;exact aB.cj [(0,0),(1,1),(2,2),(3,3)] ⟨by simp[aV,ah,AV.aA,aj,af],by simp[aL,aF,ai,ak,aG,aj,AV.aA,af,ae,-alh],rfl,rfl⟩
 ·have du:k=r.n:=by omega
  subst du;have aQ:¬(r.n:Int)<r.n:=by omega
  rw[<-Dj];generalize hq:je r steps m=q;unfold s8;refine J λK hK=>?_;simp only[go_sem,aQ];apply hK;refine aa λK1 aT=>?_;refine aH ?_;apply aW;show KE _;apply fV;have u5:=ud q;refine J λK hK=>?_;simp only[go_sem];apply hK;refine aw (aB.jl (S':=⟨[(6,.d (.sl q.length (gO q)))],[(0,(bY steps).map .d)],1⟩) [(0,0)] [(3,gO q)] ⟨by simp[fb,ah,AV.cv,db,bI,af,vF],by simp[fx,aF,bI,ai,ak,aG,db,AV.cv,af,cD,bh,-alh,vF],rfl,rfl,by simp[bG,bI,ai,ak,aG,db,AV.cv,cD,bh,-alh,vF]⟩) ?_;apply an
  exact⟨.d (.sl (je r steps m).length (gO (je r steps m))),by simp[bj,aP,bt,ah,ai,ak,aG,hq],[(0,0)],[(0,(bY steps).map .d)],rfl,rfl,by simp[aL,aF,ai,ak,aG,aj,AV.aA,af,ae,-alh,hq],by simp[AV.aA,aj,af,hq]⟩
theorem FW {d:oW} {v:Vm} {D:List DV} (h:vD d v D) (s:bM):
 bB aK 243 [.agg (s.cells.map .d),.ptr 0 0] [(0,[.bw D])] λr m'=>r=.d (.bool (decide (s.kind=1)&&dD v s.t))/\m'=[(0,[.bw D])]:=by
 obtain⟨cI,hg,hp,hs,S,rfl,hS⟩:=h;have kf:=EN (d:=d) (S:=S) cI hg hp s.t;refine ay func243 Xi ntmps243 results243 rfl ?_;unfold ad6;refine J λK hK=>?_;simp only[go_sem,bM.cells];refine hK _ (J λK hK=>?_);simp only[go_sem,bM.cells]
 repeat' (first
  |(refine cn (λhb=>?_) (λhb=>?_)<;>simp only[go_sem,hb,bM.cells])
  |(refine b7 (λhb=>?_) (λhb=>?_)<;>simp only[go_sem,hb,bM.cells])
  |(refine aI (kf) rfl rfl ?_;simp only[go_sem,bM.cells])
  |(refine bD (kf) rfl rfl ?_;simp only[go_sem,bM.cells])
  |(rw[if_pos (by(try simp only[aln,alu,alB,alk]);omega)];simp only[go_sem,bM.cells]))
 all_goals(apply hK;clear hK)
 ·apply an;exact⟨.d (.bool (decide (s.kind=1)&&dD v s.t)),by simp[bj,aP,bt,ah,ai,ak,aG,hb],[(0,0)],[(0,[.bw (kO d v++[S])])],rfl,rfl,by simp[aL,aF,ai,ak,aG,aj,AV.aA,af,ae,-alh,hb],by simp[AV.aA,aj,af,hb]⟩
 ·apply an;exact⟨.d (.bool (decide (s.kind=1)&&dD v s.t)),by simp[bj,aP,bt,ah,ai,ak,aG,hb],[(0,0)],[(0,[.bw (kO d v++[S])])],rfl,rfl,by simp[aL,aF,ai,ak,aG,aj,AV.aA,af,ae,-alh,hb],by simp[AV.aA,aj,af,hb]⟩
theorem HO {d:oW} {v:Vm} {D:List DV} (h:vD d v D) (a b:bM) (m:Int):
 Pure aK 184 [.bw D,.agg (a.cells.map .d),.agg (b.cells.map .d),au m] (.d (.bool (xf v a b m))):=by
 have kc:=NV a b m;have k1:=FW h a;have k2:=FW h b;unfold xf;generalize y5 a b m=c1 at kc⊢;generalize (decide (a.kind=1)&&dD v a.t)=x1 at k1⊢;generalize (decide (b.kind=1)&&dD v b.t)=x2 at k2⊢;refine ay func184 WX ntmps184 results184 rfl ?_;unfold adN;refine J λK hK=>?_;simp only[go_sem,bM.cells];refine hK _ (J λK hK=>?_);simp only[go_sem,bM.cells];refine hK _ (J λK hK=>?_);simp only[go_sem,bM.cells];refine a8 (kc) ?_;simp only[go_sem,bM.cells];cases c1
 ·simp only[go_sem];apply hK;apply an;exact⟨.d (.bool false),by simp[bj,aP,bt,ah,ai,ak,aG],[],[],rfl,rfl,by simp[aL,aF,ai,ak,aG,aj,AV.aA,af,ae,-alh],by simp[AV.aA,aj,af]⟩
 ·by_cases ht:a.t=b.t
  ·have TH:(a.t=b.t)=True:=eq_true ht;simp only[go_sem,bM.cells,TH,decide_true,alT];apply hK;apply an;exact⟨.d (.bool true),by simp[bj,aP,bt,ah,ai,ak,aG,TH],[],[],rfl,rfl,by simp[aL,aF,ai,ak,aG,aj,AV.aA,af,ae,-alh,TH],by simp[AV.aA,aj,af,TH]⟩
  ·have TH:(a.t=b.t)=False:=eq_false ht;simp only[go_sem,bM.cells,TH,decide_false,al7];refine⟨rfl,?_⟩;refine bA [(0,0)] [.agg (a.cells.map .d),.ptr 0 0] [(0,[.bw D])] (nb:=1000) (k1) (by simp[bX]) (by first|(simp[aj,AV.aA,af];done)|simp[aj,AV.aA,af,bM.cells]) (by first|(simp[bZ,cd,af];done)|simp[bZ,cd,af,bM.cells]) (by simp[handed,af,ai,ak,aG,aj,AV.aA,bZ,cd,bM.cells]) rfl ?_;rintro r0 m' ⟨rfl,rfl⟩;simp only[go_sem,bx,bR,bU,ai,ak,aG,cf,af,aj,bQ,AV.aA,alH,alD,alF,alK,alM,aly,bM.cells];cases x1
   ·simp only[go_sem,bM.cells];refine⟨rfl,?_⟩;refine bA [(0,0)] [.agg (b.cells.map .d),.ptr 0 0] [(0,[.bw D])] (nb:=1000) (k2) (by simp[bX]) (by first|(simp[aj,AV.aA,af];done)|simp[aj,AV.aA,af,bM.cells]) (by first|(simp[bZ,cd,af];done)|simp[bZ,cd,af,bM.cells]) (by simp[handed,af,ai,ak,aG,aj,AV.aA,bZ,cd,bM.cells]) rfl ?_;rintro r0 m' ⟨rfl,rfl⟩;simp only[go_sem,bx,bR,bU,ai,ak,aG,cf,af,aj,bQ,AV.aA,alH,alD,alF,alK,alM,aly,bM.cells];apply hK;apply an;exact⟨.d (.bool !x2),by simp[bj,aP,bt,ah,ai,ak,aG,TH],[],[],rfl,rfl,by simp[aL,aF,ai,ak,aG,aj,AV.aA,af,ae,-alh,TH],by simp[AV.aA,aj,af,TH]⟩
   ·simp only[go_sem];apply hK;apply an;exact⟨.d (.bool false),by simp[bj,aP,bt,ah,ai,ak,aG,TH],[],[],rfl,rfl,by simp[aL,aF,ai,ak,aG,aj,AV.aA,af,ae,-alh,TH],by simp[AV.aA,aj,af,TH]⟩
def vG (x:Fm×List DV):List AV:=[.bw x.2,dF x.1.sleep,dF x.1.back]
def fO (l:List Fm) (Ds:List (List DV)):List AV:=(l.zip Ds).flatMap vG
def EP (l:List Int):DV:=.sl l.length (l.map λi=>.int .i64 i)
def c8 (l:List (List Int)):List DV:=l.map EP
def lH (bs bp br:Nat) (m aR:Int) (ns np nr:Nat) (blocked ba:Int):List AV:=
 [au m,au aR,.sl bs 3 0 ns,.sl bp 7 0 np,.sl br 1 0 nr,au blocked,au ba,.d (.bool false)]
def eZ (m aR:Int) (ns np nr:Nat) (blocked ba:Int):List AV:=
 [au m,au aR,.sl 1 3 0 ns,.sl 2 7 0 np,.sl 3 1 0 nr,au blocked,au ba,.d (.bool false)]
def wkG (bs bp br:Nat) (w:Wk) (Ds:List (List DV)):Mem:=
 [(0,lH bs bp br w.m w.aR w.stack.length w.steps.length w.runs.length w.blocked w.ba),(bs,fO w.stack Ds),(bp,(bY w.steps).map .d),(br,(c8 w.runs).map .d)]
def jo (w:Wk) (Ds:List (List DV)):Mem:=
 [(0,eZ w.m w.aR w.stack.length w.steps.length w.runs.length w.blocked w.ba),(1,fO w.stack Ds),(2,(bY w.steps).map .d),(3,(c8 w.runs).map .d)]
theorem abn (x:Fm×List DV):(vG x).length=3:=rfl
theorem xD {l:List Fm} {Ds:List (List DV)} (h:Ds.length=l.length):(fO l Ds).length=l.length*3:=by
 unfold fO;rw[zn abn,List.length_zip,h,Nat.min_self]
theorem aO (g:Nat->Option Nat) (l:List Fm) (Ds:List (List DV)):aj g (fO l Ds)=fO l Ds:=by
 unfold fO;induction l.zip Ds with
 |nil=>rfl
 |cons a t ih=>rw[alO,ae,ih];rfl
theorem Qd (l:List Nat) {i:Nat} (hi:i<l.length):∃rest,(l.map λ(j:Nat)=>DV.int .i64 j).drop i=.int .i64 (l.getD i 0:Nat)::rest:=by
 refine⟨(l.drop (i+1)).map λ(j:Nat)=>DV.int .i64 j,?_⟩;rw[<-List.map_drop,List.drop_eq_getElem_cons hi,alz,alC,alw hi];rfl
def ER (f:Fm) (s:bM) (m:Int) (i:Nat):Nat:=((cH f.sleep).take i).foldl (qh f s m) f.sleep
theorem RY (f:Fm) (s:bM) (m:Int) {i:Nat} (hi:i<(cH f.sleep).length):ER f s m (i+1)=qh f s m (ER f s m i) ((cH f.sleep).getD i 0):=by
 unfold ER;rw[List.take_add_one,alC,alw hi,List.foldl_append];rfl
theorem KD (f:Fm) (s:bM) (m:Int):ER f s m (cH f.sleep).length=gU f s m:=by
 unfold ER;rw[List.take_length];rfl
theorem Qe {f:Fm} (s:bM) (m:Int) (h:f.sleep<18446744073709551616):∀i,ER f s m i<18446744073709551616:=by
 have key:∀(l:List Nat) (x:Nat),x<18446744073709551616->l.foldl (qh f s m) x<18446744073709551616:=by
  intro l;induction l with
  |nil=>exact λx hx=>hx
  |cons a l ih=>
   intro x hx;refine ih _ ?_;unfold qh;split;·exact J7 hx _
   ·exact hx
 exact λi=>key _ _ h
def ZN (w:Wk) (Ds:List (List DV)) (f:Fm) (D:List DV) (s:bM) (u:Nat) (i:Nat):St:=
 ⟨[(0,.ptr 0 0),(4,.ptr 4 0),(5,.ptr 5 0),(7,dF u),(16,.d (kF (cH f.sleep))),(17,au ((cH f.sleep).length)),(18,au i)],
  [(0,eZ w.m w.aR w.stack.length w.steps.length w.runs.length w.blocked (w.ba+i)),(1,fO w.stack Ds),(2,(bY w.steps).map .d),(3,(c8 w.runs).map .d),(4,vG (f,D)),(5,s.cells.map .d)],6⟩
theorem HP {d:oW} {w:Wk} {Ds:List (List DV)} {f:Fm} {D:List DV} (hv:vD d f.v D) (hs:f.sleep<18446744073709551616) (s:bM) (hp0:0<=w.ba) (Wf:w.ba<=1000000000000):
 bB aK 132 [.ptr 0 0,.agg (vG (f,D)),.agg (s.cells.map .d)] (jo w Ds) λr m'=>r=dF (gU f s w.m)/\m'=jo {w with ba:=w.ba+(cH f.sleep).length} Ds:=by
 have hll:=tX f.sleep;have kl:=FD hs;have has:=KD f s w.m;unfold jo;dsimp only;refine ay func132 WA ntmps132 results132 rfl ?_;unfold adw;refine J λK hK=>?_;simp only[go_sem,vG];refine hK _ (J λK hK=>?_);simp only[go_sem,vG];apply hK;refine aa λKE fV=>?_;refine J λK hK=>?_;simp only[go_sem,vG];refine a8 (kl) ?_;simp only[go_sem,kF];apply hK;apply ax;refine aw (S':=ZN w Ds f D s (ER f s w.m 0) 0) (aB.cj [(0,0),(1,1),(2,2),(3,3),(4,4),(5,5)] ⟨by simp[ZN,ER,kF,aV,ah,AV.aA,aj,af],by simp[ZN,vG,eZ,aO,aL,aF,ai,ak,aj,AV.aA,af,-alh],rfl,rfl⟩) ?_
 refine bS (λi=>ZN w Ds f D s (ER f s w.m i) i) (cH f.sleep).length ?_;intro i hi;unfold PC;by_cases bn:i<(cH f.sleep).length
 ·have aQ:(i:Int)<(cH f.sleep).length:=by omega
  have hw:=cY (i:=i) (by omega);have hwp:alv.wrap (w.ba+i+1)=w.ba+((i+1:Nat):Int):=by rw[wrap_i64 (by omega) (by omega)];omega
  have cy:=RY f s w.m bn;have AE:=Qe s w.m hs i;unfold qh at cy;obtain⟨rest,bT⟩:=Qd (cH f.sleep) bn;generalize ER f s w.m i=u at cy AE;generalize (cH f.sleep).getD i 0=g at cy bT;have kn:=Kq hv g;generalize cR f.v g=pv at cy kn;obtain⟨v',s',b'⟩:=pv;simp only at cy kn;have km:=HO hv s' s w.m;have kw:=Hl AE g;unfold ZN;refine J λK hK=>?_;simp only[go_sem,aQ];apply hK;refine aa λK1 aT=>?_;refine aM ?_;apply ar;apply aT;refine aa λK1 aT=>?_;apply ax;refine J λK hK=>?_;simp only[go_sem,kF,alm,aQ,bn,alj,bT,alk];refine hK _ (J λK hK=>?_);simp only[go_sem,vG];refine a8 (kn) ?_;simp only[go_sem,bM.cells]
  refine hK _ (J λK hK=>?_);simp only[go_sem,eZ,hwp];apply hK;refine aa λK hK=>az rfl ?_ ?_;·simp[aE]
  simp only[go_sem,vG,bM.cells,eZ,als];refine dw (km) ?_;simp only[go_sem];refine⟨rfl,hK _ ?_⟩;cases hb:xf f.v s' s w.m
  ·rw[hb]at cy;refine aH ?_;apply ar;simp only[go_sem];apply aT;refine ag rfl ?_;simp only[go_sem,hw];refine⟨bn,?_⟩;exact aB.cj [(0,0),(1,1),(2,2),(3,3),(4,4),(5,5)] ⟨by simp[aV,ah,AV.aA,aj,af,ZN,cy,vG,eZ,aO,bM.cells,kF],by simp[aL,aF,ai,ak,aG,aj,AV.aA,af,ae,-alh,ZN,cy,vG,eZ,aO,bM.cells,kF],rfl,rfl⟩
  ·rw[hb]at cy;refine aM ?_;refine ag rfl ?_;simp only[go_sem];refine a8 (kw) ?_;simp only[go_sem];apply aT;refine ag rfl ?_;simp only[go_sem,hw];refine⟨bn,?_⟩;exact aB.cj [(0,0),(1,1),(2,2),(3,3),(4,4),(5,5)] ⟨by simp[aV,ah,AV.aA,aj,af,ZN,cy,vG,eZ,aO,bM.cells,kF],by simp[aL,aF,ai,ak,aG,aj,AV.aA,af,ae,-alh,ZN,cy,vG,eZ,aO,bM.cells,kF],rfl,rfl⟩
 ·have du:i=(cH f.sleep).length:=by omega
  subst du;have aQ:¬((cH f.sleep).length:Int)<(cH f.sleep).length:=by omega
  rw[has];unfold ZN;refine J λK hK=>?_;simp only[go_sem,aQ];apply hK;refine aa λK1 aT=>?_;refine aH ?_;apply aW;show KE _;refine fV _ (J λK hK=>?_);simp only[go_sem];apply hK;apply an;exact⟨dF (gU f s w.m),by simp[bj,aP,bt,ah,ai,ak,aG,eZ,aO],[(0,0),(1,1),(2,2),(3,3)],[(0,eZ w.m w.aR w.stack.length w.steps.length w.runs.length w.blocked (w.ba+(cH f.sleep).length)),(1,fO w.stack Ds),(2,(bY w.steps).map .d),(3,(c8 w.runs).map .d)],rfl,rfl,by simp[aL,aF,ai,ak,aG,aj,AV.aA,af,ae,-alh,eZ,aO],by simp[AV.aA,aj,af,eZ,aO]⟩
def uz (steps:List bM) (r:Rl) (from_:Nat) (j:Nat):Nat:=(alI j).foldl (FC steps r from_) 0
theorem zo (steps:List bM) (r:Rl) (from_ j:Nat):uz steps r from_ (j+1)=FC steps r from_ (uz steps r from_ j) j:=eI _ _ _
theorem BM (steps:List bM) (r:Rl) (from_:Nat):∀j,uz steps r from_ j<18446744073709551616
 |0=>by simp[uz]
 |j+1=>by
  rw[zo];unfold FC;split;·exact jA (BM steps r from_ j) _
  ·exact BM steps r from_ j
theorem Dk (steps:List bM) (r:Rl) (from_:Nat):∀j g,(uz steps r from_ j).testBit g=true->g<j
 |0,g,h=>by simp[uz]at h
 |j+1,g,h=>by
  rw[zo]at h;unfold FC at h;split at h
  ·unfold fq at h;rw[Nat.testBit_or]at h;cases h1:(uz steps r from_ j).testBit g
   ·rw[h1,Bool.false_or]at h;unfold o2 at h;split at h
    ·rw[Nat.testBit_two_pow]at h;simp at h;omega
    ·simp at h
   ·have:=Dk steps r from_ j g h1;omega
  ·have:=Dk steps r from_ j g h;omega
def pF (back:Rl) (steps:List bM) (di j:Nat):Nat:=((cH di).take j).foldl (y6 back steps) 0
theorem KH (back:Rl) (steps:List bM) {di j:Nat} (hj:j<(cH di).length):pF back steps di (j+1)=y6 back steps (pF back steps di j) ((cH di).getD j 0):=by
 unfold pF;rw[List.take_add_one,alC,alw hj,List.foldl_append];rfl
theorem FX (back:Rl) (steps:List bM) (di:Nat) (j:Nat):pF back steps di j<18446744073709551616:=by
 have key:∀(l:List Nat) (x:Nat),x<18446744073709551616->l.foldl (y6 back steps) x<18446744073709551616:=by
  intro l;induction l with
  |nil=>exact λx hx=>hx
  |cons a l ih=>
   intro x hx;refine ih _ ?_;unfold y6;split;·exact jA hx _
   ·exact hx
 exact key _ _ (by decide)
theorem AF (steps:List bM) (r:Rl) (from_:Nat):od steps r from_=pF (r.di (uz steps r from_ steps.length)).inv steps (uz steps r from_ steps.length) (cH (uz steps r from_ steps.length)).length:=by
 unfold pF;rw[List.take_length];rfl
def AG (l:List bM):List DV:=l.map λs=>.int .i64 s.pick
theorem Dl (l:List bM):(AG l).length=l.length:=by simp[AG]
theorem Qf {l:List bM} {i:Nat} (hi:i<l.length):AG (l.take (i+1))=AG (l.take i)++[.int .i64 (l.getD i cU).pick]:=by
 unfold AG;rw[List.take_add_one,al1,alC,alw hi];rfl
theorem aiq {l:List bM} {i:Nat} (hi:i<l.length):aN none (((AG l).map AV.d).drop i)=some (au ((l.getD i cU).pick)):=by
 unfold AG;rw[<-List.map_drop,<-List.map_drop,List.drop_eq_getElem_cons hi,alC,alw hi];rfl
def wh (w:Wk) (Ds:List (List DV)) (m:Mem):Mem:=
 (0,eZ w.m w.aR w.stack.length w.steps.length w.runs.length w.blocked w.ba)::(1,fO w.stack Ds)::(2,(bY w.steps).map .d)::(3,(c8 w.runs).map .d)::m
def ZO (w:Wk) (Ds:List (List DV)) (back:Rl) (pk:List DV) (l:List Nat) (acc i:Nat):St:=
 ⟨[(8,.sl 5 1 0 w.steps.length),(11,dF acc),(12,.ptr 6 0),(59,.d (kF l)),(60,au l.length),(61,au i)],
  wh w Ds [(5,pk.map .d),(6,back.cells.map .d)],7⟩
def niS (w:Wk) (Ds:List (List DV)) (r:Rl) (from_ di i:Nat) (pk:List DV):St:=
 ⟨[(0,.ptr 0 0),(2,au from_),(4,.ptr 4 0),(7,dF di),(8,.sl 5 1 0 i),(18,.sl 2 7 0 w.steps.length),(19,au w.steps.length),(20,au i)],
  wh w Ds [(4,r.cells.map .d),(5,pk.map .d)],6⟩
theorem Dm {w:Wk} {Ds:List (List DV)} (hD:Ds.length=w.stack.length) {r:Rl} (h:r.ok) (hn:w.steps.length<=1000000000) (from_:Nat) (hf:from_<=1000000000000):
 bB aK 189 [.ptr 0 0,.agg (r.cells.map .d),au from_] (jo w Ds) λr' m'=>r'=dF (od w.steps r from_)/\m'=jo w Ds:=by
 have Ev:=AF w.steps r from_;unfold jo;refine ay func189 W4 ntmps189 results189 rfl ?_;unfold adS;refine J λK hK=>?_;simp only[go_sem];refine hK _ (J λK hK=>?_);simp only[go_sem];refine hK _ (J λK hK=>?_);simp only[go_sem];apply hK;refine aa λKE fV=>?_;refine J λK hK=>?_;simp only[go_sem,eZ];apply hK;apply ax;refine aw (aB.nil 8 1 rfl rfl) ?_;refine aw (S':=niS w Ds r from_ (uz w.steps r from_ 0) 0 (AG (w.steps.take 0))) (aB.cj [(0,0),(1,1),(2,2),(3,3),(4,4),(5,5)] ⟨by simp[niS,uz,aV,ah,AV.aA,aj,af],by simp[niS,wh,AG,eZ,aO,aL,aF,ai,ak,aj,AV.aA,af,-alh],rfl,rfl⟩) ?_
 refine bS (λi=>niS w Ds r from_ (uz w.steps r from_ i) i (AG (w.steps.take i))) w.steps.length ?_;intro i hi;unfold PO;by_cases bn:i<w.steps.length
 ·have aQ:(i:Int)<w.steps.length:=by omega
  have hw:=cY (i:=i) (by omega);have qC:alv.wrap ((w.steps.length:Int)-1)=(w.steps.length:Int)-1:=by rw[wrap_i64 (by omega) (by omega)]
  have cy:=zo w.steps r from_ i;have AE:=BM w.steps r from_ i;unfold FC at cy;have nB:=BL bn;have Be:=Qf bn;have u5:(AG (w.steps.take i)).length=i:=by rw[Dl,List.length_take];omega
  have h8:(i+1)*8<=140737488351232:=by omega
  generalize w.steps.getD i cU=a at nB Be;generalize AG (w.steps.take i)=pk at Be u5;generalize uz w.steps r from_ i=u at cy AE;have kh:=FE h from_ i;have kw:=iQ AE i;unfold niS wh;refine J λK hK=>?_;simp only[go_sem,aQ];apply hK;refine aa λK1 aT=>?_;refine aM ?_;apply ar;apply aT;refine aa λK1 aT=>?_;apply ax;refine J λK hK=>?_;simp only[go_sem,alm,aQ,bn,alj,alk,alo,nB,bM.cells];refine hK _ (J λK hK=>?_);simp only[go_sem,h8,alk,u5,alo,bM.cells];apply hK;have ZL:((i:Int)=(w.steps.length:Int)-1)=(i=w.steps.length-1):=by apply propext;omega
  have hc1:((from_:Int)<(i:Int))=(from_<i):=by apply propext;omega
  have last:∀(cb:Bool),(cb=true↔(from_<i/\(i=w.steps.length-1\/r.has from_ i=false)))->∀(f:Fr),ah f 49=.d (.bool cb)->ah f 0=.ptr 0 0->ah f 2=au from_->ah f 4=.ptr 4 0->ah f 7=dF u->ah f 8=.sl 8 1 0 (i+1)->ah f 9=au i->ah f 18=.sl 2 7 0 w.steps.length->ah f 19=au w.steps.length->ah f 20=au i->
   ∀M A B,M=(wh w Ds [(4,r.cells.map .d),(6,A),(7,B),(8,pk.map AV.d++[au a.pick])])->∀Q2:Exit->St->Prop,(∀S,K1 S->Q2 .normal S)->
   fP aK (aE (wh w Ds [])) 77 (.cond (.t 49) (.region false [oM 50 (.mv (.t 7)),oM 51 (.mv (.t 9)),oM 52 (.bW 133 [.t 50,.t 51]),oM 7 (.mv (.t 52))] []) .skip) ⟨f,M,9⟩ Q2:=by
   intro cb hcb f g49 g0 g2 g4 g7 g8 g9 g18 g19 g20 M A B hM Q2 hQ2;subst hM;have fin:∀u':Nat,uz w.steps r from_ (i+1)=u'->∀(f:Fr),ah f 0=.ptr 0 0->ah f 2=au from_->ah f 4=.ptr 4 0->ah f 7=dF u'->ah f 8=.sl 8 1 0 (i+1)->ah f 18=.sl 2 7 0 w.steps.length->ah f 19=au w.steps.length->ah f 20=au i->K1 ⟨f,wh w Ds [(4,r.cells.map .d),(6,A),(7,B),(8,pk.map AV.d++[au a.pick])],9⟩:=by
    intro u' he f g0 g2 g4 g7 g8 g18 g19 g20;apply aT;refine ag rfl ?_;simp only[go_sem,g20,hw];refine⟨bn,aB.cj [(0,0),(1,1),(2,2),(3,3),(4,4),(8,5)] ⟨?_,?_,rfl,rfl⟩⟩;·simp[niS,aV,ah,AV.aA,af,g0,g2,g4,g7,g8,g18,g19,g20,he]
    ·simp[niS,wh,eZ,aO,aL,aF,ai,aj,AV.aA,af,Be,ae,-alh]
   cases cb
   ·have hc:¬(from_<i/\(i=w.steps.length-1\/r.has from_ i=false)):=λh=>by have:=hcb.2 h;cases this
    rw[if_neg hc]at cy;refine aH ?_ (by simp[ev,g49]);refine ar (hQ2 _ (fin u cy _ g0 g2 g4 g7 g8 g18 g19 g20))
   ·rw[if_pos (hcb.1 rfl)]at cy;refine aM ?_ (by simp[ev,g49]);refine ag rfl ?_;simp only[go_sem,g7,g9];refine a8 (kw) ?_;simp only[go_sem];refine hQ2 _ (fin _ cy _ ?_ ?_ ?_ ?_ ?_ ?_ ?_ ?_)<;>simp[ah,g0,g2,g4,g8,g18,g19,g20]
  refine J λK hK=>?_;by_cases h1:from_<i
  ·by_cases h2:i=w.steps.length-1
   ·simp only[go_sem,hc1,eq_true h1,decide_true,eZ,qC,ZL,eq_true h2];apply hK;exact last true ⟨λ_=>⟨h1,.inl h2⟩,λ_=>rfl⟩ _ rfl rfl rfl rfl rfl rfl rfl rfl rfl rfl _ _ _ rfl _ (λS h=>h)
   ·simp only[go_sem,hc1,eq_true h1,decide_true,eZ,qC,ZL,eq_false h2,decide_false,als,cA h];refine a8 (kh) ?_;simp only[go_sem];apply hK;exact last (!r.has from_ i) (by simp[h1,h2]) _ rfl rfl rfl rfl rfl rfl rfl rfl rfl rfl _ _ _ rfl _ (λS h=>h)
  ·simp only[go_sem,hc1,eq_false h1,decide_false];apply hK;exact last false (by simp[h1]) _ rfl rfl rfl rfl rfl rfl rfl rfl rfl rfl _ _ _ rfl _ (λS h=>h)
 ·have du:i=w.steps.length:=by omega
  subst du;have aQ:¬(w.steps.length:Int)<w.steps.length:=by omega
  have Ug:=BM w.steps r from_ w.steps.length;have hkb:=Dk w.steps r from_ w.steps.length;rw[List.take_length];generalize hke:uz w.steps r from_ w.steps.length=di at Ev Ug hkb;have kk:=RH h Ug;have hko:=P4 h di;have ki:=xk hko;have hio:=Hn hko;have kl:=FD Ug;generalize (r.di di).inv=back at Ev ki hio;have h0:(gB 0).ok:=gE 0;have hll:=tX di;unfold niS wh;refine J λK hK=>?_;simp only[go_sem,aQ];apply hK;refine aa λK1 aT=>?_;refine aH ?_;apply aW;show KE _;refine fV _ (J λK hK=>?_);simp only[go_sem];refine hK _ (J λK hK=>?_);simp only[go_sem,als,cA h];refine a8 (kk) ?_;simp only[go_sem]
  refine a8 (ki) ?_;simp only[go_sem,nh,jZ,bJ hio,dc hio,eK,gm hio (bJ h0),bJ h0,dc h0,alo,ali];apply hK;refine aa λKG hKG=>?_;refine J λK hK=>?_;simp only[go_sem];refine a8 (kl) ?_;simp only[go_sem,kF];apply hK;apply ax;refine aw (S':=ZO w Ds back (AG w.steps) (cH di) (pF back w.steps di 0) 0) (aB.cj [(0,0),(1,1),(2,2),(3,3),(5,5),(6,6)] ⟨by simp[ZO,kF,pF,aV,ah,AV.aA,aj,af],by simp[ZO,wh,eZ,aO,aL,aF,ai,ak,aj,AV.aA,af,-alh],rfl,rfl⟩) ?_;refine bS (λj=>ZO w Ds back (AG w.steps) (cH di) (pF back w.steps di j) j) (cH di).length ?_;intro j hj;unfold PU;by_cases bn:j<(cH di).length
  ·have aQ:(j:Int)<(cH di).length:=by omega
   have hw:=cY (i:=j) (by omega);have cy:=KH back w.steps bn;have AE:=FX back w.steps di j;unfold y6 at cy;obtain⟨rest,bT⟩:=Qd (cH di) bn;have hg:(cH di).getD j 0<w.steps.length:=by
    rw[alC,alw bn];exact hkb _ ((RD Ug).1 (alR bn))
   generalize (cH di).getD j 0=g at cy bT hg;have hg':(g:Int)<w.steps.length:=by omega
   have u5:=aiq hg;generalize pF back w.steps di j=u at cy AE;have kr:=CN hio g;have kw:=iQ AE (w.steps.getD g cU).pick;generalize (w.steps.getD g cU).pick=gp at u5 kw cy;unfold ZO wh;refine J λK hK=>?_;simp only[go_sem,aQ];apply hK;refine aa λK1 aT=>?_;refine aM ?_;apply ar;apply aT;refine aa λK1 aT=>?_;apply ax;refine J λK hK=>?_;simp only[go_sem,kF,alm,aQ,bn,alj,bT,alk];refine hK _ (J λK hK=>?_);simp only[go_sem,als,cA hio];refine a8 (kr) ?_;simp only[go_sem];apply hK;by_cases hz:back.row g=0
   ·rw[if_pos hz]at cy;have hz':((back.row g:Nat):Int)=0:=by omega
    refine aM ?_ (by simp[ev,ah,hz]);refine ag rfl ?_;simp only[go_sem,alm,hg',hg,alj,alo,alV,u5,alk,Dl];refine a8 (kw) ?_;simp only[go_sem];apply aT;refine ag rfl ?_;simp only[go_sem,hw];refine⟨bn,?_⟩;exact aB.cj [(0,0),(1,1),(2,2),(3,3),(5,5),(6,6)] ⟨by simp[aV,ah,AV.aA,aj,af,ZO,wh,cy,eZ,aO,kF],by simp[aL,aF,ai,ak,aG,aj,AV.aA,af,ae,-alh,ZO,wh,cy,eZ,aO,kF],rfl,rfl⟩
   ·rw[if_neg hz]at cy;have hz':¬((back.row g:Nat):Int)=0:=by omega
    refine aH ?_ (by simp[ev,ah,hz]);apply ar;simp only[go_sem];apply aT;refine ag rfl ?_;simp only[go_sem,hw];refine⟨bn,?_⟩;exact aB.cj [(0,0),(1,1),(2,2),(3,3),(5,5),(6,6)] ⟨by simp[aV,ah,AV.aA,aj,af,ZO,wh,cy,eZ,aO,kF],by simp[aL,aF,ai,ak,aG,aj,AV.aA,af,ae,-alh,ZO,wh,cy,eZ,aO,kF],rfl,rfl⟩
  ·have du:j=(cH di).length:=by omega
   subst du;have aQ:¬((cH di).length:Int)<(cH di).length:=by omega
   rw[<-Ev];unfold ZO wh;refine J λK hK=>?_;simp only[go_sem,aQ];apply hK;refine aa λK1 aT=>?_;refine aH ?_;apply aW;show KG _;refine hKG _ (J λK hK=>?_);simp only[go_sem];apply hK;apply an;exact⟨dF (od w.steps r from_),by simp[bj,aP,bt,ah,ai,ak,aG,wh,eZ,aO],[(0,0),(1,1),(2,2),(3,3)],wh w Ds [],rfl,rfl,by simp[aL,aF,ai,ak,aG,aj,AV.aA,af,ae,-alh,wh,eZ,aO],by simp[AV.aA,aj,af,wh,eZ,aO]⟩
end
end Go.Proofs.YtadocofdkdiboaaGreatDoor
namespace Go.Jq
open Go
variable{P:Program}
theorem bB.air {f:Nat} (Z:Zs) (args:List AV) (m:Mem) {dV:List AV} {v:AV} (h:Pure P f dV v) (hz:bG m Z Z) (j9:db (λ_=>none) (bI Z) args=dV) (hv:nL v=true):
 bB P f args m λr m'=>r=v/\m'=m:=by
 intro c w vs hr hM js;have Fp:∀(c':Ctx) b,¬iV c' [] b:=λc' b ⟨id,h1,_⟩=>by simp[ai]at h1
 have hzi:∀id,(bI Z id).isSome->(ai m id).isSome:=λid h=>by
  obtain⟨ds,yH⟩:=alS.1 h;obtain⟨cs,cq,_⟩:=tP hz id ds yH;rw[cq];rfl
 have Cl:bg (c.jl [] Z) w dV vs:=by rw[<-j9];exact ph (π:=[]) (nb:=0) rfl hM hz _ _ hr
 have hM0:MR (c.jl [] Z) [] w:=⟨λid cells h=>by simp[ai]at h,λid mK b h=>by simp[ai]at h,λb hb=>by
  rcases hb with h1|⟨id,h1,h2⟩;·exact hM.dY b h1
  ·exact hM.lM ⟨id,hzi id h1,j7.jU h2⟩,hM.o7 (λ_ h=>.inl h) λ_ _=>rfl⟩
 refine(h (c.jl [] Z) w vs Cl hM0 λid _=>rfl).mono ?_;rintro e w' ⟨v',r0,m',c',rfl,⟨rfl,rfl⟩,mW,yG,hs,ho,Je,hfr⟩;have sL:∀b,b<w.heap.size->w'.heap[b]?=w.heap[b]?:=λb hb=>hs.di b hb (Fp _ b);have hl:jP c c w w':=⟨λ_ h=>h,λb hb=>sL b (hM.dY b hb),λ_ _=>rfl,hs.rows⟩;refine⟨v',r0,m,c,rfl,⟨rfl,rfl⟩,Cv _ _ hv mW,⟨λid cells hid=>?_,hM.inj,λb hb=>Nat.lt_of_lt_of_le (hM.dY b hb) hs.size,hM.o7 (λ_ h=>h) λb hb=>sL b (hM.dY b hb)⟩,
  ⟨hs.os,hs.tape,hs.output,hs.size,λb hb _=>sL b hb,hs.rows,λ_ h=>h,λb hb=>.inl hb⟩,λb hb=>.inl hb,λid _ hi=>⟨hi,rfl⟩,λid hid=>js id (Nat.le_trans (Nat.le_max_left _ _) hid)⟩
 have hS:(ai m id).isSome:=by rw[hid];rfl
 exact(hM.own id cells hid).later hl λb hb=>⟨sL b (hM.lM ⟨id,hS,hb⟩),λhi=>hM.sep hi ⟨id,hS,hb⟩⟩
theorem fW {f:Nat} {args:List AV} {dst:Option Nat} {r:List bC} {acc:List nc} {ms:List Nat} {K:St->Prop} {t:Fr} {m:Mem} {n:Nat} (ρ:Ren) (dV:List AV) (m0:Mem) {r0:AV} {m1:Mem} {nb:Nat} (h:bB P f dV m0 λr m'=>r=r0/\m'=m1) (cI:bX nb ρ=true) (j9:aj (af ρ) dV=args) (du:bZ (af ρ) dV=true)
 (hh:handed ρ m m0) (o0:(ρ.all λp=>(ai m0 p.1).isSome)=true)
 (hk:gx P r (⟨fE ρ m1 n,ρ.map (·.2)⟩::acc) ms ⟨cG t dst (r0.aA (cf ρ m0 m1 n)),bx ρ m0 m1 n m,n+Nat.max (aE m0) (aE m1)⟩ K):nE P f args dst r acc ms K t m n:=by
 unfold nE Ag;exact Or.inl ⟨ρ,m0,dV,r0,m1,nb,cI,j9.symm,du,hh,λj id hj=>List.all_eq_true.1 o0 _ (lP hj),h,hk⟩
end Go.Jq
namespace Go.Proofs.YtadocofdkdiboaaGreatDoor
open Go Go.Jq
theorem KI (l:List bM) (h:l.length<=1000000000000):dU bM.cells l (.sl l.length (bY l)):=⟨by omega,.inr rfl⟩
theorem qo (l:List bM):(bY l).take (l.length*7)=bY l:=alx (by rw[xy];exact ali _)
theorem afJ {steps:List bM} (fk:steps.length<=1000000000000) (m:Int):
 bB Tryz.prog 187 [.sl 0 7 0 steps.length,au m] [(0,(bY steps).map .d)] λr m'=>r=.agg ((Ny steps m).cells.map .d)/\m'=[(0,(bY steps).map .d)]:=
 bB.air [(0,bY steps)] _ _ (abm (KI steps fk) fk m) (by simp[bG,ai,cD]) (by simp[db,AV.cv,bI,qo]) (by simp[nL,Rl.cells,vc];induction (Ny steps m).rows<;>simp_all [vc,nL,Pd])
theorem X7 (r:Rl) (a b:Int):(r.add a b).n=r.n:=by
 unfold Rl.add;split<;>rfl
theorem Dn {α:Type} (f:Rl->α->Rl) (hf:∀r x,(f r x).n=r.n):∀(l:List α) (r:Rl),(l.foldl f r).n=r.n
 | [],_=>rfl
 |a::l,r=>by rw[al2,Dn f hf l,hf]
theorem KJ (steps:List bM) (m:Int) (i:Nat) (r:Rl) (j:Nat):(rf steps m i r j).n=r.n:=by
 unfold rf
 repeat' split
 all_goals first|rfl|exact X7 _ _ _
theorem N0 (r:Rl) (steps:List bM) (m:Int) (i:Nat):(kB r steps m i).n=r.n:=by
 unfold kB;dsimp only
 repeat' split
 all_goals first
  |rfl
  |(rw[Dn _ λr x=>KJ steps m i r x];done)
  |(rw[Dn _ λr x=>KJ steps m i r x,X7];done)
theorem abo (steps:List bM) (m:Int) (r:Rl) (i:Nat):(FB steps m r i).n=r.n:=by
 have hu:∀j,(uy steps m i r j).n=r.n:=λj=>Dn _ (λr x=>by rw[HM];split<;>first|rfl|exact X7 _ _ _) _ _;rw[Dd];split;·rw[N0,hu]
 ·exact hu _
theorem ais (steps:List bM) (m:Int):(Ny steps m).n<=steps.length:=by
 rw[HN];split;·simp[gB]
 ·show(s7 steps m steps.length).n<=_;unfold s7;rw[Dn _ λr x=>abo steps m r x];simp[gB];omega
theorem qp (f:Fm) (l:List Fm) (D:List DV) (Ds:List (List DV)):fO (f::l) (D::Ds)=.bw D::dF f.sleep::dF f.back::fO l Ds:=rfl
theorem dd (g:Nat->Option Nat) (l:List Fm) (Ds:List (List DV)):bZ g (fO l Ds)=true:=by
 unfold fO;induction l.zip Ds with
 |nil=>rfl
 |cons a t ih=>rw[alO,Cu,ih];rfl
theorem s9:∀{l:List Fm} {Ds:List (List DV)} {i:Nat} {f:Fm} {D:List DV},l[i]?=some f->Ds[i]?=some D->∃rest,(fO l Ds).drop (i*3)=vG (f,D)++rest
 |f'::l,D'::Ds,0,f,D,h1,h2=>by cases h1;cases h2;exact⟨fO l Ds,rfl⟩
 |f'::l,D'::Ds,i+1,f,D,h1,h2=>by
  obtain⟨rest,hr⟩:=s9 (l:=l) (Ds:=Ds) (i:=i) h1 h2;exact⟨rest,by rw[qp,Nat.add_mul,<-hr];rfl⟩
 | [],_,_,_,_,h1,_=>by simp at h1
 |_::_,[],_,_,_,_,h2=>by simp at h2
theorem abp {l:List Fm} {Ds:List (List DV)} {i:Nat} {f:Fm} {D:List DV} (h1:l[i]?=some f) (h2:Ds[i]?=some D):aN (some 3) ((fO l Ds).drop (i*3))=some (.agg (vG (f,D))):=by
 obtain⟨rest,hr⟩:=s9 h1 h2;rw[hr];rfl
theorem afK {l:List Fm} {Ds:List (List DV)} {i:Nat} {f:Fm} {D:List DV} (h1:l[i]?=some f) (h2:Ds[i]?=some D):aN none ((fO l Ds).drop (i*3))=some (.bw D):=by
 obtain⟨rest,hr⟩:=s9 h1 h2;rw[hr];rfl
theorem zp {l:List Fm} {Ds:List (List DV)} {i:Nat} {f:Fm} {D:List DV} (h1:l[i]?=some f) (h2:Ds[i]?=some D):aN none ((fO l Ds).drop (i*3+1))=some (dF f.sleep):=by
 obtain⟨rest,hr⟩:=s9 h1 h2;rw[<-List.drop_drop,hr];rfl
theorem Dp {l:List Fm} {Ds:List (List DV)} {i:Nat} {f:Fm} {D:List DV} (h1:l[i]?=some f) (h2:Ds[i]?=some D):aN none ((fO l Ds).drop (i*3+2))=some (dF f.back):=by
 obtain⟨rest,hr⟩:=s9 h1 h2;rw[<-List.drop_drop,hr];rfl
theorem KK:∀{l:List Fm} {Ds:List (List DV)} {i:Nat} {f:Fm} {D:List DV} (b:Nat),l[i]?=some f->Ds[i]?=some D->(fO l Ds).set (i*3+2) (dF b)=fO (l.set i {f with back:=b}) Ds
 |f'::l,D'::Ds,0,f,D,b,h1,h2=>by cases h1;cases h2;rfl
 |f'::l,D'::Ds,i+1,f,D,b,h1,h2=>by
  rw[qp,show(i+1)*3+2=i*3+2+3 by omega,List.set_cons_succ,List.set_cons_succ,List.set_cons_succ,KK (l:=l) (Ds:=Ds) b h1 h2];rfl
 | [],_,_,_,_,_,h1,_=>by simp at h1
 |_::_,[],_,_,_,_,_,h2=>by simp at h2
theorem KM:∀{l:List Fm} {Ds:List (List DV)} {i:Nat} {f:Fm} {D:List DV} (b:Nat),l[i]?=some f->Ds[i]?=some D->(fO l Ds).set (i*3+1) (dF b)=fO (l.set i {f with sleep:=b}) Ds
 |f'::l,D'::Ds,0,f,D,b,h1,h2=>by cases h1;cases h2;rfl
 |f'::l,D'::Ds,i+1,f,D,b,h1,h2=>by
  rw[qp,show(i+1)*3+1=i*3+1+3 by omega,List.set_cons_succ,List.set_cons_succ,List.set_cons_succ,KM (l:=l) (Ds:=Ds) b h1 h2];rfl
 | [],_,_,_,_,_,h1,_=>by simp at h1
 |_::_,[],_,_,_,_,_,h2=>by simp at h2
end Go.Proofs.YtadocofdkdiboaaGreatDoor
namespace Go.Proofs.YtadocofdkdiboaaGreatDoor
open Go.Proofs.Tryz
open Go.Proofs.Tryz renaming prog → aK
section
open Go Go.Jq
structure rU (l:List Fm):Prop where
 sleep:∀f∈l,f.sleep<18446744073709551616
 back:∀f∈l,f.back<18446744073709551616
theorem RZ (steps:List bM) (r:Rl) (st:List Fm) (x:Nat×Nat):(qi steps r st x).length=st.length:=by
 unfold qi;split;·rfl
 ·split;·rfl
  ·dsimp only;split;·rfl
   ·rw[List.length_set]
theorem X8 {steps:List bM} {r:Rl} {st:List Fm} (h:rU st) (x:Nat×Nat):rU (qi steps r st x):=by
 unfold qi;split;·exact h
 ·split;·exact h
  ·rename_i f hf;dsimp only;split;·exact h
   ·have hm:=List.mem_of_getElem? hf;refine⟨λg hg=>?_,λg hg=>?_⟩
    ·rcases List.mem_or_eq_of_mem_set hg with h1|rfl;·exact h.sleep g h1
     ·exact h.sleep f hm
    ·rcases List.mem_or_eq_of_mem_set hg with h1|rfl;·exact h.back g h1
     ·exact jA (h.back f hm) _
def zq (steps:List bM) (r:Rl) (st:List Fm) (L:List (Nat×Nat)) (i:Nat):List Fm:=(L.take i).foldl (qi steps r) st
theorem R0 (steps:List bM) (r:Rl) (st:List Fm) {L:List (Nat×Nat)} {i:Nat} (hi:i<L.length):zq steps r st L (i+1)=qi steps r (zq steps r st L i) (L.getD i (0,0)):=by
 unfold zq;rw[List.take_add_one,alC,alw hi,List.foldl_append];rfl
theorem vH (steps:List bM) (r:Rl):∀(L:List (Nat×Nat)) (st:List Fm),(L.foldl (qi steps r) st).length=st.length
 | [],_=>rfl
 |a::L,st=>by rw[al2,vH,RZ]
theorem zr (steps:List bM) (r:Rl):∀(L:List (Nat×Nat)) (st:List Fm),rU st->rU (L.foldl (qi steps r) st)
 | [],_,h=>h
 |a::L,st,h=>zr steps r L _ (X8 h a)
theorem KN (steps:List bM) (r:Rl) (st:List Fm) (L:List (Nat×Nat)) (i:Nat):(zq steps r st L i).length=st.length:=vH _ _ _ _
theorem abq (steps:List bM) (r:Rl) {st:List Fm} (h:rU st) (L:List (Nat×Nat)) (i:Nat):rU (zq steps r st L i):=zr _ _ _ _ h
theorem R1 (w:Wk):iE w={w with stack:=zq w.steps (Ny w.steps w.m) w.stack (je (Ny w.steps w.m) w.steps w.m) (je (Ny w.steps w.m) w.steps w.m).length}:=by
 unfold zq;rw[List.take_length];rfl
theorem KO {r:Rl} {steps:List bM} {m:Int} {x:Nat×Nat} (h:x∈je r steps m):x.1<x.2/\x.2<r.n:=by
 unfold je at h;rw[List.mem_flatMap]at h;obtain⟨k,hk,hx⟩:=h;rw[List.mem_map]at hx;obtain⟨i,hi,rfl⟩:=hx;rw[List.mem_filter]at hi;exact⟨List.mem_range.1 hi.1,List.mem_range.1 hk⟩
theorem X9 (l:List (Nat×Nat)) {i:Nat} (hi:i<l.length):∃rest,(gO l).drop (i*2)=Dh (l.getD i (0,0))++rest/\i*2<(gO l).length:=by
 refine⟨(l.drop (i+1)).flatMap Dh,?_,by rw[ud];omega⟩;unfold gO;rw[vE Kv,List.drop_eq_getElem_cons hi,alO,alC,alw hi];rfl
theorem KP {r:Rl} (h:r.ok) (steps:List bM) (m:Int):(je r steps m).length<=4096:=by
 rw[Dj];exact Qc r steps m h.1
def KQ (w:Wk) (Ds:List (List DV)) (r:Rl) (st:List Fm) (L:List (Nat×Nat)) (i:Nat):St:=
 ⟨[(0,.ptr 0 0),(2,.ptr 4 0),(3,au ((w.steps.length:Int)-1)),(33,.d (.sl L.length (gO L))),(34,au L.length),(35,au i)],
  [(0,eZ w.m w.aR w.stack.length w.steps.length w.runs.length w.blocked w.ba),(1,fO st Ds),(2,(bY w.steps).map .d),(3,(c8 w.runs).map .d),(4,r.cells.map .d)],5⟩
theorem KR {w:Wk} {Ds:List (List DV)} (hD:Ds.length=w.stack.length) (cI:rU w.stack) (hn:w.steps.length<=1000000000) (hl:w.steps.length<=w.stack.length) (hb:w.stack.length<=1000000000000):
 bB aK 134 [.ptr 0 0] (jo w Ds) λr' m'=>r'=.cC []/\m'=jo (iE w) Ds:=by
 have vq:=X6 w.steps w.m;have hrn:=ais w.steps w.m;have kh:=afJ (steps:=w.steps) (by omega) w.m;have hLl:=KP vq w.steps w.m;have hLm:∀x∈je (Ny w.steps w.m) w.steps w.m,x.1<w.steps.length/\x.2<w.steps.length:=λx hx=>by have:=KO hx;omega
 have kr:=EO (steps:=w.steps) w.m vq hrn;have hre:=R1 w;have qC:alv.wrap ((w.steps.length:Int)-1)=(w.steps.length:Int)-1:=by rw[wrap_i64 (by omega) (by omega)]
 rw[hre];generalize Ny w.steps w.m=R at vq hrn kh hLl hLm kr;generalize je R w.steps w.m=L at hLl hLm kr;have h0:(gB 0).ok:=gE 0;unfold jo;dsimp only;rw[KN];clear hre;refine ay func134 WC ntmps134 results134 rfl ?_;unfold ady;refine aa λK hK=>az rfl rfl ?_;simp only[go_sem,eZ]
 refine fW [(0,2)] [.sl 0 7 0 w.steps.length,au w.m] [(0,(bY w.steps).map .d)] (nb:=1000) (kh) (by simp[bX]) (by first|(simp[aj,AV.aA,af];done)|simp[aj,AV.aA,af,aO,nh,jZ,bJ vq,dc vq,eK,gm vq (bJ h0),bJ h0,dc h0,alo,ali]) (by first|(simp[bZ,cd,af];done)|simp[bZ,cd,af,aO,nh,jZ,bJ vq,dc vq,eK,gm vq (bJ h0),bJ h0,dc h0,alo,ali]) (by simp[handed,af,ai,ak,aG,aj,AV.aA,bZ,cd,dL,aO,nh,jZ,bJ vq,dc vq,eK,gm vq (bJ h0),bJ h0,dc h0,alo,ali]) rfl ?_;simp only[go_sem,fE,alz,alL,bx,bR,bU,ai,ak,aG,cf,af,aj,bQ,AV.aA,alH,alD,alF,alK,alM,aly,aO,nh,jZ,bJ vq,dc vq,eK,gm vq (bJ h0),bJ h0,dc h0,alo,ali]
 refine⟨rfl,hK _ ?_⟩;refine J λK hK=>?_;simp only[go_sem,qC];apply hK;refine aa λK hK=>az rfl rfl ?_;simp only[go_sem,als,cA vq];refine fW [(0,2)] [.agg (R.cells.map .d),.sl 0 7 0 w.steps.length,au w.m] [(0,(bY w.steps).map .d)] (nb:=1000) (kr) (by simp[bX]) (by first|(simp[aj,AV.aA,af];done)|simp[aj,AV.aA,af,aO]) (by first|(simp[bZ,cd,af];done)|simp[bZ,cd,af,aO]) (by simp[handed,af,ai,ak,aG,aj,AV.aA,bZ,cd,dL,aO]) rfl ?_;simp only[go_sem,fE,alz,alL,bx,bR,bU,ai,ak,aG,cf,af,aj,bQ,AV.aA,alH,alD,alF,alK,alM,aly,aO];refine⟨rfl,hK _ ?_⟩;apply ax
 refine aw (S':=KQ w Ds R (zq w.steps R w.stack L 0) L 0) (aB.cj [(0,0),(1,1),(2,2),(3,3),(13,4)] ⟨by simp[KQ,aV,ah,AV.aA,aj,af],by simp[KQ,zq,eZ,aO,aL,aF,ai,ak,aj,AV.aA,af,-alh],rfl,rfl⟩) ?_;refine bS (λi=>KQ w Ds R (zq w.steps R w.stack L i) L i) L.length ?_;intro i hi;have Ya:=KN w.steps R w.stack L i;have abr:=abq w.steps R cI L i;unfold PD;by_cases bn:i<L.length
 ·have aQ:(i:Int)<L.length:=by omega
  have hw:=cY (i:=i) (by omega);have cy:=R0 w.steps R w.stack bn;obtain⟨rest,bT,cq⟩:=X9 L bn;have hLx:(L.getD i (0,0)).1<w.steps.length/\(L.getD i (0,0)).2<w.steps.length:=by
   rw[alC,alw bn];exact hLm _ (alR bn)
  generalize L.getD i (0,0)=x at cy bT hLx;obtain⟨a,b⟩:=x;generalize zq w.steps R w.stack L i=st at cy Ya abr;unfold qi at cy;simp only at cy hLx;unfold KQ;refine J λK hK=>?_;simp only[go_sem,aQ];apply hK;refine aa λK1 aT=>?_;refine aM ?_;apply ar;apply aT;refine aa λK1 aT=>?_;apply ax;have fin:∀st',zq w.steps R w.stack L (i+1)=st'->∀(f:Fr) (n:Nat),5<=n->ah f 0=.ptr 0 0->ah f 2=.ptr 4 0->ah f 3=au ((w.steps.length:Int)-1)->ah f 33=.d (.sl L.length (gO L))->ah f 34=au L.length->ah f 35=au i->
   ∀M,ai M 0=some (eZ w.m w.aR w.stack.length w.steps.length w.runs.length w.blocked w.ba)->ai M 1=some (fO st' Ds)->ai M 2=some ((bY w.steps).map .d)->ai M 3=some ((c8 w.runs).map .d)->ai M 4=some (R.cells.map .d)->K1 ⟨f,M,n⟩:=by
   intro st' he f n hnn g0 g2 g3 g33 g34 g35 M m0 m1 m2 m3 m4;apply aT;refine ag (by simp[aE];omega) ?_;simp only[go_sem,g35,hw];refine⟨bn,aB.cj [(0,0),(1,1),(2,2),(3,3),(4,4)] ⟨?_,?_,rfl,rfl⟩⟩;·simp[KQ,aV,ah,AV.aA,af,g0,g2,g3,g33,g34,g35]
   ·simp[KQ,he,eZ,aO,aL,aF,ai,aj,AV.aA,af,m0,m1,m2,m3,m4,-alh]
  refine J λK hK=>?_;simp only[go_sem,alm,aQ,bn,alj,cq,bT,Dh,List.cons_append,al8];apply hK;refine aa λK2 eX=>?_;refine J λK hK=>?_;simp only[go_sem];apply hK;by_cases hbq:b≠w.steps.length-1
  ·rw[if_pos hbq]at cy;have afL:¬(b:Int)=(w.steps.length:Int)-1:=by omega
   refine aM ?_ (by simp[ev,ah,afL]);apply aW;show K1 _;exact fin st cy _ _ (by decide) rfl rfl rfl rfl rfl rfl _ rfl rfl rfl rfl rfl
  have afL:(b:Int)=(w.steps.length:Int)-1:=by omega
  rw[if_neg hbq]at cy;refine aH ?_ (by simp[ev,ah,afL]);apply ar;apply eX;have ha:a<st.length:=by omega
  have G1:st[a]?=some st[a]:=alw ha;have Mj:Ds[a]?=some Ds[a]:=alw (by omega);rw[G1]at cy;simp only at cy;have ZM:=abr.sleep _ (alR ha);have hfb:=abr.back _ (alR ha);have ki:=Dm (w:={w with stack:=st}) (Ds:=Ds) (by show Ds.length=st.length;omega) vq hn a (by omega);unfold jo at ki;dsimp only at ki;rw[Ya]at ki;have jj:od w.steps R a<18446744073709551616:=by rw[AF];exact FX _ _ _ _
  generalize od w.steps R a=need at cy ki jj;generalize st[a]=fm at cy G1 ZM hfb;generalize Ds[a]=D at Mj;have kc:=Kr hfb jj;have ha1:(a:Int)<w.stack.length:=by omega
  have ha2:a<w.stack.length:=by omega
  have hand:=pt jj ZM;have iw:a*3+2+1<=(fO st Ds).length:=by rw[xD (by omega)];omega
  refine aa λK hK=>az rfl rfl ?_;simp only[go_sem,eZ,alm,ha1,ha2,alj,alo];refine⟨rfl,hK _ ?_⟩;refine J λK hK=>?_;simp only[go_sem,als,cA vq];refine bA [(0,0),(1,1),(2,2),(3,3)] [.ptr 0 0,.agg (R.cells.map .d),au a] [(0,eZ w.m w.aR w.stack.length w.steps.length w.runs.length w.blocked w.ba),(1,fO st Ds),(2,(bY w.steps).map .d),(3,(c8 w.runs).map .d)] (nb:=1000) (ki) (by simp[bX]) (by first|(simp[aj,AV.aA,af];done)|simp[aj,AV.aA,af,eZ,aO,dd,dL]) (by first|(simp[bZ,cd,af];done)|simp[bZ,cd,af,eZ,aO,dd,dL]) (by simp[handed,af,ai,ak,aG,aj,AV.aA,bZ,cd,eZ,aO,dd,dL]) rfl ?_;rintro r0 m' ⟨rfl,rfl⟩
  simp only[go_sem,bx,bR,bU,ai,ak,aG,cf,af,aj,bQ,AV.aA,alH,alD,alF,alK,alM,aly,eZ,aO,dd,dL];apply hK;refine aa λK3 wc=>?_;refine J λK hK=>?_;simp only[go_sem,Dp G1 Mj];refine a8 (kc) ?_;simp only[go_sem];apply hK;cases hb:xe fm.back need
  case true=>
   rw[hb]at cy;refine aM ?_;apply aW;show K1 _;exact fin st cy _ _ (by decide) rfl rfl rfl rfl rfl rfl _ (by simp[ai,eZ]) rfl rfl rfl rfl
  case false=>
   rw[hb]at cy;simp only[aly,↓reduceIte]at cy;refine aH ?_;apply ar;apply wc;refine aa λK4 P5=>?_;refine J λK hK=>?_;simp only[go_sem,zp G1 Mj,hand];apply hK;have tail:∀nd:Nat,nd<18446744073709551616->nd=(if need&&&fm.sleep=0 then need else need&&&fm.sleep)->∀(f:Fr) (n:Nat),5<=n->ah f 7=dF nd->ah f 6=.ptr 1 (a*3)->ah f 0=.ptr 0 0->ah f 2=.ptr 4 0->ah f 3=au ((w.steps.length:Int)-1)->ah f 33=.d (.sl L.length (gO L))->ah f 34=au L.length->ah f 35=au i->
    ∀A M,M=[(0,eZ w.m w.aR w.stack.length w.steps.length w.runs.length w.blocked w.ba),(1,fO st Ds),(2,(bY w.steps).map .d),(3,(c8 w.runs).map .d),(4,R.cells.map .d),(5,A)]->K4 ⟨f,M,n⟩:=by
    intro nd hnd pe f n hnn g7 g6 g0 g2 g3 g33 g34 g35 A M hM;subst hM;rw[<-pe]at cy;have k1:=mB hnd;have k2:=iQ hfb (ea nd);apply P5;refine az rfl (by simp[aE];omega) ?_;simp only[go_sem,g7,g6,Dp G1 Mj];refine dw (k1) ?_;simp only[go_sem];refine dw (k2) ?_;simp only[go_sem,g6,KK (fq fm.back (ea nd)) G1 Mj,iw];refine⟨rfl,?_⟩;refine fin _ cy _ _ ?_ ?_ ?_ ?_ ?_ ?_ ?_ _ ?_ ?_ ?_ ?_ ?_;·omega
    all_goals first|rfl|simp[ah,ai,g0,g2,g3,g33,g34,g35]
   refine J λK hK=>?_;simp only[go_sem];apply hK;by_cases hz:need&&&fm.sleep=0
   ·refine aH ?_ (by simp[ev,ah,hz]);apply ar;exact tail need jj (by rw[if_pos hz]) _ _ (by decide) rfl rfl rfl rfl rfl rfl rfl rfl _ _ rfl
   ·refine aM ?_ (by simp[ev,ah];omega);refine ag rfl ?_;simp only[go_sem];exact tail _ (BB jj _) (by rw[if_neg hz]) _ _ (by decide) rfl rfl rfl rfl rfl rfl rfl rfl _ _ rfl
 ·have du:i=L.length:=by omega
  subst du;have aQ:¬(L.length:Int)<L.length:=by omega
  generalize nB:zq w.steps R w.stack L L.length=st at Ya abr;unfold KQ;refine J λK hK=>?_;simp only[go_sem,aQ];apply hK;refine aa λK1 aT=>?_;refine aH ?_;apply aW;exact⟨.cC [],by simp[bj,aP,bt,ah,ai,ak,aG,eZ,aO,nB],[(0,0),(1,1),(2,2),(3,3)],[(0,eZ w.m w.aR w.stack.length w.steps.length w.runs.length w.blocked w.ba),(1,fO st Ds),(2,(bY w.steps).map .d),(3,(c8 w.runs).map .d)],rfl,rfl,by simp[aL,aF,ai,ak,aG,aj,AV.aA,af,ae,-alh,eZ,aO,nB],by simp[AV.aA,aj,af,eZ,aO,nB]⟩
theorem abt (x:Int):TB [x]=o2 x:=by simp[TB,fq]
theorem FY {l:List Fm} {Ds:List (List DV)} (h:Ds.length=l.length) (f:Fm) (D:List DV):fO (l++[f]) (Ds++[D])=fO l Ds++vG (f,D):=by
 unfold fO;rw[List.zip_append h.symm,List.flatMap_append];simp
theorem xE (g:Nat->Option Nat) (z:Nat->Option (List DV)) (l:List Fm) (Ds:List (List DV)):db g z (fO l Ds)=fO l Ds:=by
 unfold fO;induction l.zip Ds with
 |nil=>rfl
 |cons a t ih=>rw[alO,bh,ih];rfl
theorem Yb (x:Int):bB aK 176 [.sl 0 1 0 1] [(0,[au x])] λr m'=>r=dF (o2 x)/\m'=[(0,[au x])]:=by
 have k:=aa4 (l:=[x]) (X:=.sl 1 [.int .i64 x]) ⟨by simp,.inr rfl⟩;rw[abt]at k;exact bB.air [(0,[.int .i64 x])] _ _ k (by simp[bG,ai,db,AV.cv]) (by simp[db,AV.cv,bI]) rfl
theorem Qg {d:oW} {w:Wk} {Ds:List (List DV)} (hD:Ds.length=w.stack.length) {D:List DV} {v:Vm} (hv:vD d v D) {dh:Nat} (hs:dh<18446744073709551616) (fk:w.stack.length<=1000000000) (vw:0<=w.blocked/\w.blocked<=1000000000) (he:v.enabled≠0):
 bB aK 127 [.ptr 0 0,.bw D,dF dh] (jo w Ds) λr' m'=>r'=.cC []/\m'=wkG 4 2 3 (eY w v dh) (Ds++[D]):=by
 obtain⟨cI,hg,hp,nB,S,rfl,hS⟩:=hv;have ke:=nZ (d:=d) (S:=S) cI hp;have pU:=C6 v;have hpw:eY w v dh={w with blocked:=if ea (dO v.enabled dh)<0 then w.blocked+1 else w.blocked,stack:=w.stack++[⟨v,dh,o2 (ea (dO v.enabled dh))⟩]}:=by
  unfold eY;simp only[he,↓reduceIte];split<;>rfl
 have Mo:=y7 pU dh;have ZJ:=ra pU hs;have k1:=mB Mo;rw[hpw];generalize v.enabled=en at he ke pU Mo ZJ k1;generalize ak3:ea (dO en dh)=fst at k1;have ko:=Yb fst;unfold jo wkG;dsimp only;refine ay func127 J1 ntmps127 results127 rfl ?_;unfold Wv;refine J λK hK=>?_;simp only[go_sem];refine a8 (ke) ?_;simp only[go_sem];refine hK _ (J λK hK=>?_);simp only[go_sem,ZJ];refine a8 (k1) ?_;simp only[go_sem];apply hK;refine aa λKE fV=>?_;have hwb:alv.wrap (w.blocked+1)=w.blocked+1:=by rw[wrap_i64 (by omega) (by omega)]
 have hen:¬(en:Int)=0:=by omega
 have zd:(w.stack.length+1)*24<=140737488351232:=by omega
 have iw:=xD hD;have tail:∀bl,bl=(if fst<0 then w.blocked+1 else w.blocked)->∀f,ah f 0=.ptr 0 0->ah f 1=.bw (kO d v++[S])->ah f 2=dF dh->ah f 7=au fst->
  KE ⟨f,[(0,eZ w.m w.aR w.stack.length w.steps.length w.runs.length bl w.ba),(1,fO w.stack Ds),(2,(bY w.steps).map .d),(3,(c8 w.runs).map .d)],4⟩:=by
  intro bl akk f g0 g1 g2 g7;apply fV;refine az rfl rfl ?_;simp only[go_sem,g0,g1,g2,g7,eZ,iw];refine fW [(0,12)] [.sl 0 1 0 1] [(0,[au fst])] (nb:=1000) (ko) (by simp[bX]) (by first|(simp[aj,AV.aA,af];done)|simp[aj,AV.aA,af,aO,g0,g1,g2,iw,zd]) (by first|(simp[bZ,cd,af];done)|simp[bZ,cd,af,aO,g0,g1,g2,iw,zd]) (by simp[handed,af,ai,ak,aG,aj,AV.aA,bZ,cd,dL,aO,g0,g1,g2,iw,zd]) rfl ?_;simp only[go_sem,fE,alz,alL,bx,bR,bU,ai,ak,aG,cf,af,aj,bQ,AV.aA,alH,alD,alF,alK,alM,aly,aO,g0,g1,g2,iw,zd];refine⟨rfl,?_⟩;rw[FY hD,<-akk]
  exact⟨.cC [],by simp[bj,aP,bt,ah,ai,ak,aG,lH,aO,vG,ae],[(0,0),(16,4),(2,2),(3,3)],[(0,lH 4 2 3 w.m w.aR (w.stack++[Fm.mk v dh (o2 fst)]).length w.steps.length w.runs.length bl w.ba),(4,fO w.stack Ds++vG (Fm.mk v dh (o2 fst),kO d v++[S])),(2,(bY w.steps).map .d),(3,(c8 w.runs).map .d)],rfl,rfl,by simp[aL,aF,ai,ak,aG,aj,AV.aA,af,ae,-alh,lH,aO,vG,ae],by simp[AV.aA,aj,af,lH,aO,vG,ae]⟩
 apply ax;refine J λK hK=>?_;simp only[go_sem,hen,decide_false];apply hK;refine aH ?_;by_cases hf:fst<0
 ·refine J λK hK=>?_;simp only[go_sem,hf,decide_true];apply hK;refine aM ?_;refine ag rfl ?_;simp only[go_sem,eZ,hwb];exact tail _ (by rw[if_pos hf]) _ rfl rfl rfl rfl
 ·refine J λK hK=>?_;simp only[go_sem,hf,decide_false];apply hK;refine aH ?_;apply ar;exact tail _ (by rw[if_neg hf]) _ rfl rfl rfl rfl
def puS (w:Wk) (Ds:List (List DV)) (D:List DV) (dh:Nat) (i:Nat) (pk:List DV):St:=
 ⟨[(0,.ptr 0 0),(1,.bw D),(2,dF dh),(7,au (-1)),(8,.sl 4 1 0 i),(23,.sl 2 7 0 w.steps.length),(24,au w.steps.length),(25,au i)],
  wh w Ds [(4,pk.map .d)],5⟩
theorem afM (l:List bM):DV.sl l.length (AG l)=EP (l.map (·.pick)):=by
 unfold EP AG;rw[alk,alh];rfl
theorem qq (l:List (List Int)):(c8 l).length=l.length:=by simp[c8]
theorem KS {d:oW} {w:Wk} {Ds:List (List DV)} (hD:Ds.length=w.stack.length) {D:List DV} {v:Vm} (hv:vD d v D) {dh:Nat} (hs:dh<18446744073709551616) (fk:w.stack.length<=1000000000) (hrb:w.runs.length<=1000000000) (hsb:w.steps.length<=1000000000) (he:v.enabled=0):
 bB aK 127 [.ptr 0 0,.bw D,dF dh] (jo w Ds) λr' m'=>r'=.cC []/\m'=wkG 4 2 5 (eY w v dh) (Ds++[D]):=by
 obtain⟨cI,hg,hp,nB,S,rfl,hS⟩:=hv;have ke:=nZ (d:=d) (S:=S) cI hp;have h00:dO 0 dh=0:=by simp[dO]
 have hpw:eY w v dh={w with runs:=w.runs++[w.steps.map (·.pick)],stack:=w.stack++[⟨v,dh,o2 (-1)⟩]}:=by
  unfold eY;simp only[he,↓reduceIte,h00];rfl
 have ZJ:=ra (a:=0) (by decide) hs;rw[h00]at ZJ;change bits .andNot .u64 0 (dh:Int)=0 at ZJ;have k1:=mB (s:=0) (by decide);change Pure aK 128 [dF 0] (au (-1))at k1;rw[hpw];rw[he]at ke;have ko:=Yb (-1);have zd:(w.stack.length+1)*24<=140737488351232:=by omega
 have akl:(w.runs.length+1)*24<=140737488351232:=by omega
 have iw:=xD hD;have pC:=qq w.runs;unfold jo wkG;dsimp only;refine ay func127 J1 ntmps127 results127 rfl ?_;unfold Wv;refine J λK hK=>?_;simp only[go_sem];refine a8 (ke) ?_;simp only[go_sem];refine hK _ (J λK hK=>?_);simp only[go_sem,ZJ];refine a8 (k1) ?_;simp only[go_sem];apply hK;refine aa λKE fV=>?_;apply ax;refine J λK hK=>?_;simp only[go_sem];apply hK;refine aM ?_;refine J λK hK=>?_;simp only[go_sem];apply hK;refine aa λK2 eX=>?_;refine J λK hK=>?_;simp only[go_sem,eZ];apply hK;apply ax;refine aw (aB.nil 8 1 rfl rfl) ?_
 refine aw (S':=puS w Ds (kO d v++[S]) dh 0 (AG (w.steps.take 0))) (aB.cj [(0,0),(1,1),(2,2),(3,3),(4,4)] ⟨by simp[puS,aV,ah,AV.aA,aj,af],by simp[puS,wh,AG,eZ,aO,aL,aF,ai,ak,aj,AV.aA,af,-alh],rfl,rfl⟩) ?_;refine bS (λi=>puS w Ds (kO d v++[S]) dh i (AG (w.steps.take i))) w.steps.length ?_;intro i hi;unfold PB;by_cases bn:i<w.steps.length
 ·have aQ:(i:Int)<w.steps.length:=by omega
  have hw:=cY (i:=i) (by omega);have nB:=BL bn;have Be:=Qf bn;have u5:(AG (w.steps.take i)).length=i:=by rw[Dl,List.length_take];omega
  have h8:(i+1)*8<=140737488351232:=by omega
  generalize w.steps.getD i cU=a at nB Be;generalize AG (w.steps.take i)=pk at Be u5;unfold puS wh;refine J λK hK=>?_;simp only[go_sem,aQ];apply hK;refine aa λK1 aT=>?_;refine aM ?_;apply ar;apply aT;refine aa λK1 aT=>?_;apply ax;refine J λK hK=>?_;simp only[go_sem,alm,aQ,bn,alj,alk,alo,nB,bM.cells];apply hK;refine ag rfl ?_;simp only[go_sem,h8,alk,u5,alo,bM.cells];apply aT;refine ag rfl ?_;simp only[go_sem,hw];refine⟨bn,?_⟩;exact aB.cj [(0,0),(1,1),(2,2),(3,3),(7,4)] ⟨by simp[aV,ah,AV.aA,aj,af,puS,wh,eZ,aO,Be],by simp[aL,aF,ai,ak,aG,aj,AV.aA,af,ae,-alh,puS,wh,eZ,aO,Be],rfl,rfl⟩
 ·have du:i=w.steps.length:=by omega
  subst du;have aQ:¬(w.steps.length:Int)<w.steps.length:=by omega
  have hpr:=afM w.steps;have u5:=Dl w.steps;rw[List.take_length];unfold puS wh;refine J λK hK=>?_;simp only[go_sem,aQ];apply hK;refine aa λK1 aT=>?_;refine aH ?_;apply aW;show K2 _;apply eX;refine ag rfl ?_;simp only[go_sem,eZ,akl,pC,alk];apply fV;have afN:(AG w.steps).take w.steps.length=AG w.steps:=alx (by rw[Dl];exact ali _);have Tx:c8 (w.runs++[w.steps.map (·.pick)])=c8 w.runs++[EP (w.steps.map (·.pick))]:=by simp[c8]
  have akm:(w.runs++[w.steps.map (·.pick)]).length=w.runs.length+1:=by simp
  rw[Tx,akm,<-hpr];refine aw (aB.jl (S':=⟨[(0,.ptr 0 0),(1,.bw (kO d v++[S])),(2,dF dh),(7,au (-1))],[(0,lH 1 2 5 w.m w.aR w.stack.length w.steps.length (w.runs.length+1) w.blocked w.ba),(1,fO w.stack Ds),(2,(bY w.steps).map .d),(5,(c8 w.runs).map .d++[.d (.sl w.steps.length (AG w.steps))])],6⟩) [(0,0),(1,1),(2,2),(6,5)] [(4,AG w.steps)] ⟨by simp[fb,ah,AV.cv,db,bI,af,xE,afN,lH],by simp[fx,aF,bI,ai,ak,aG,db,AV.cv,af,cD,bh,-alh,xE,afN,lH],rfl,rfl,by simp[bG,bI,ai,ak,aG,db,AV.cv,cD,bh,-alh,xE,afN,lH]⟩) ?_;refine az rfl rfl ?_;simp only[go_sem,lH,iw]
  refine fW [(0,14)] [.sl 0 1 0 1] [(0,[au (-1)])] (nb:=1000) (ko) (by simp[bX]) (by first|(simp[aj,AV.aA,af];done)|simp[aj,AV.aA,af,aO,iw,zd]) (by first|(simp[bZ,cd,af];done)|simp[bZ,cd,af,aO,iw,zd]) (by simp[handed,af,ai,ak,aG,aj,AV.aA,bZ,cd,dL,aO,iw,zd]) rfl ?_;simp only[go_sem,fE,alz,alL,bx,bR,bU,ai,ak,aG,cf,af,aj,bQ,AV.aA,alH,alD,alF,alK,alM,aly,aO,iw,zd];refine⟨rfl,?_⟩;rw[FY hD]
  exact⟨.cC [],by simp[bj,aP,bt,ah,ai,ak,aG,lH,aO,vG,ae],[(0,0),(18,4),(2,2),(5,5)],[(0,lH 4 2 5 w.m w.aR (w.stack++[Fm.mk v dh (o2 (-1))]).length w.steps.length (w.runs.length+1) w.blocked w.ba),(4,fO w.stack Ds++vG (Fm.mk v dh (o2 (-1)),kO d v++[S])),(2,(bY w.steps).map .d),(5,(c8 w.runs++[DV.sl w.steps.length (AG w.steps)]).map .d)],rfl,rfl,by simp[aL,aF,ai,ak,aG,aj,AV.aA,af,ae,-alh,lH,aO,vG,ae],by simp[AV.aA,aj,af,lH,aO,vG,ae]⟩
theorem uT:∀{l:List Fm} {Ds:List (List DV)},Ds.length=l.length->(fO l Ds).take ((l.length-1)*3)=fO l.dropLast Ds.dropLast
 | [],_,h=>by rw[List.length_eq_zero_iff.1 h];rfl
 | [f],[D],_=>rfl
 |f::g::l,D::E::Ds,h=>by
  have ih:=uT (l:=g::l) (Ds:=E::Ds) (by simpa using h);rw[List.dropLast_cons_cons,List.dropLast_cons_cons,qp,qp f,<-ih];have:((f::g::l).length-1)*3=((g::l).length-1)*3+1+1+1:=by simp only[alu];omega
  rw[this];rfl
 | [f],[],h=>by simp at h
 | [f],_::_::_,h=>by simp at h
 |f::g::l,[],h=>by simp at h
 |f::g::l,[D],h=>by simp at h
theorem ES (l:List bM):(bY l).take ((l.length-1)*7)=bY l.dropLast:=by
 unfold bY;rw[Dg ua,List.dropLast_eq_take]
theorem Yc (l:List Fm) (Ds:List (List DV)):M1 (fO l Ds)=false:=by
 unfold fO;cases l.zip Ds<;>rfl
theorem Yd (l:List bM):M1 ((bY l).map AV.d)=false:=by cases l<;>rfl
theorem R2 {w:Wk} {Ds:List (List DV)} (hD:Ds.length=w.stack.length) (h1:1<=w.stack.length) (jR:w.stack.length<=1000000000) (iq:w.steps.length<=1000000000):
 bB aK 129 [.ptr 0 0] (jo w Ds) λr' m'=>r'=.cC []/\m'=jo (qg w) Ds.dropLast:=by
 have qC:alv.wrap ((w.stack.length:Int)-1)=((w.stack.length-1:Nat):Int):=by rw[wrap_i64 (by omega) (by omega)];omega
 have wC:alv.wrap ((w.steps.length:Int)-1)=(w.steps.length:Int)-1:=by rw[wrap_i64 (by omega) (by omega)]
 have hmx:(if(w.steps.length:Int)-1<0 then 0 else(w.steps.length:Int)-1)=((w.steps.length-1:Nat):Int):=by split<;>omega
 have iw:=uT hD;have nB:=ES w.steps;have akn:qg w={w with stack:=w.stack.dropLast,steps:=w.steps.dropLast}:=rfl;rw[akn];unfold jo;dsimp only;refine ay func129 Wx ntmps129 results129 rfl ?_;unfold adt;refine aw (aB.cut 1 ((w.stack.length-1)*3) rfl (Yc _ _)) ?_;refine aw (aB.cut 2 ((w.steps.length-1)*7) rfl (Yd _)) ?_
 refine aw (S':=⟨[(0,.ptr 0 0)],[(0,eZ w.m w.aR w.stack.length w.steps.length w.runs.length w.blocked w.ba),(1,fO w.stack.dropLast Ds.dropLast),(2,(bY w.steps.dropLast).map .d),(3,(c8 w.runs).map .d)],4⟩) (aB.cj [(0,0),(1,1),(2,2),(3,3)] ⟨by simp[MO,aV,ah,AV.aA,aj,af],by simp[eZ,aO,aL,aF,ai,ak,aG,aj,AV.aA,af,iw,<-List.map_take,nB,-alh],rfl,rfl⟩) ?_;refine aa λK hK=>az rfl rfl ?_;simp only[go_sem,eZ,qC,alm,alj,alZ,Nat.sub_le,true_and,alX,alo,Nat.sub_zero];refine⟨rfl,hK _ ?_⟩;refine az rfl rfl ?_;simp only[go_sem,wC,hmx,alm,alj,alZ,Nat.sub_le,true_and,alX,alo,Nat.sub_zero];refine⟨rfl,?_⟩
 exact⟨.cC [],by simp[bj,aP,bt,ah,ai,ak,aG,eZ,aO],[(0,0),(1,1),(2,2),(3,3)],[(0,eZ w.m w.aR w.stack.dropLast.length w.steps.dropLast.length w.runs.length w.blocked w.ba),(1,fO w.stack.dropLast Ds.dropLast),(2,(bY w.steps.dropLast).map .d),(3,(c8 w.runs).map .d)],rfl,rfl,by simp[aL,aF,ai,ak,aG,aj,AV.aA,af,ae,-alh,eZ,aO],by simp[AV.aA,aj,af,eZ,aO]⟩
structure R3 (d:oW) (w:Wk) (Ds:List (List DV)):Prop where
 len:Ds.length=w.stack.length
 fms:rU w.stack
 vms:∀(i:Nat) (v:Vm) (D:List DV),(w.stack.map Fm.v)[i]?=some v->Ds[i]?=some D->vD d v D
 stp:∀v∈w.stack.map Fm.v,(v.steps.length:Int)<=w.ba
 steps:w.steps.length=w.stack.length-1
 stk:(w.stack.length:Int)<=w.ba+1
 p0:0<=w.ba
 pb:w.ba<=w.aR
 bb:w.aR<=2000000
 bl0:0<=w.blocked
 runs:w.blocked+w.runs.length<=w.ba+1
theorem abu (steps:List bM) (r:Rl) (st:List Fm) (x:Nat×Nat):(qi steps r st x).map Fm.v=st.map Fm.v:=by
 unfold qi;split;·rfl
 ·split;·rfl
  ·rename_i f hf;dsimp only;split;·rfl
   ·rw[List.map_set];refine List.ext_getElem? λi=>?_;rw[List.getElem?_set];split
    ·rename_i he;subst he;rw[List.getElem?_map,hf];have:x.1<st.length:=by
      rcases Nat.lt_or_ge x.1 st.length with h|h;·exact h
      ·rw[List.getElem?_eq_none h]at hf;cases hf
     simp[this]
    ·rfl
theorem KU (steps:List bM) (r:Rl):∀(L:List (Nat×Nat)) (st:List Fm),(L.foldl (qi steps r) st).map Fm.v=st.map Fm.v
 | [],_=>rfl
 |a::L,st=>by rw[al2,KU,abu]
theorem Ye (w:Wk):(iE w).stack.map Fm.v=w.stack.map Fm.v:=KU _ _ _ _
theorem N1 (w:Wk):(iE w).stack.length=w.stack.length:=vH _ _ _ _
theorem R4 {w:Wk} (h:rU w.stack):rU (iE w).stack:=zr _ _ _ _ h
theorem afO {d:oW} {w:Wk} {Ds:List (List DV)} (h:R3 d w Ds):R3 d (qg w) Ds.dropLast:=by
 have hl:=h.len;have hs:=h.steps;have hk:=h.stk;have hm:∀{f},f∈w.stack.dropLast->f∈w.stack:=λhf=>List.dropLast_subset _ hf;refine⟨by simp[qg,hl],⟨λf hf=>h.fms.sleep f (hm hf),λf hf=>h.fms.back f (hm hf)⟩,?_,?_,by simp[qg,hs],by simp only[qg,List.length_dropLast];omega,h.p0,h.pb,h.bb,h.bl0,h.runs⟩
 ·intro i v D h1 h2;refine h.vms i v D ?_ ?_
  ·simp only[qg,List.map_dropLast]at h1;rw[List.getElem?_dropLast]at h1;split at h1;·exact h1
   ·cases h1
  ·rw[List.getElem?_dropLast]at h2;split at h2;·exact h2
   ·cases h2
 ·intro v hv;simp only[qg,List.map_dropLast]at hv;exact h.stp v (List.dropLast_subset _ hv)
theorem Yf {α:Type} {l:List α} {x:α} (h:l≠ []):l.set (l.length-1) x=l.dropLast++[x]:=by
 have hl:=List.length_pos_iff.2 h;rw[List.set_eq_take_append_cons_drop,if_pos (by omega),List.dropLast_eq_take,List.drop_of_length_le (by omega)]
theorem Qh {d:oW} {w:Wk} {Ds:List (List DV)} {v:Vm} {D:List DV} {dh:Nat} (hl:Ds.length=w.stack.length) (hf:rU w.stack) (R5:∀(i:Nat) (v:Vm) (D:List DV),(w.stack.map Fm.v)[i]?=some v->Ds[i]?=some D->vD d v D) (nB:∀v∈w.stack.map Fm.v,(v.steps.length:Int)<=w.ba)
 (hs:w.steps.length=w.stack.length) (hk:(w.stack.length:Int)<=w.ba) (p0:0<=w.ba) (pb:w.ba<=w.aR) (bb:w.aR<=2000000) (bl0:0<=w.blocked) (hr:w.blocked+w.runs.length<=w.ba)
 (hv:vD d v D) (B6:(v.steps.length:Int)<=w.ba) (iw:dh<18446744073709551616):R3 d (eY w v dh) (Ds++[D]):=by
 have key:∀(runs:List (List Int)) (bl:Int),0<=bl->bl+runs.length<=w.ba+1->R3 d {w with runs:=runs,blocked:=bl,stack:=w.stack++[⟨v,dh,o2 (ea (dO v.enabled dh))⟩]} (Ds++[D]):=by
  intro runs bl h0 h1;refine⟨by simp[hl],⟨?_,?_⟩,?_,?_,by simp[hs],by simp;omega,p0,pb,bb,h0,h1⟩
  ·intro f hm;rcases List.mem_append.1 hm with h|h;·exact hf.sleep f h
   ·rw[List.mem_singleton.1 h];exact iw
  ·intro f hm;rcases List.mem_append.1 hm with h|h;·exact hf.back f h
   ·rw[List.mem_singleton.1 h];exact xg _
  ·intro i v' D' h1 h2;simp only[al1,alz,alL]at h1;rw[List.getElem?_append]at h1 h2;rw[alk]at h1;rw[hl]at h2;split at h1
   ·rename_i bn;rw[if_pos bn]at h2;exact R5 i v' D' h1 h2
   ·rename_i bn;rw[if_neg bn]at h2;cases hq:i-w.stack.length with
    |zero=>
     rw[hq]at h1 h2;simp at h1 h2;subst h1 h2;exact hv
    |succ q=>
     rw[hq]at h1;simp at h1
  ·intro v' Ek;simp only[al1,alz,alL]at Ek;rcases List.mem_append.1 Ek with h|h;·exact nB v' h
   ·rw[List.mem_singleton.1 h];exact B6
 unfold eY;dsimp only;split;·exact key (w.runs++[w.steps.map (·.pick)]) w.blocked bl0 (by simp;omega)
 ·split;·exact key w.runs (w.blocked+1) (by omega) (by omega)
  ·exact key w.runs w.blocked bl0 (by omega)
def ZP (w:Wk):Nat:=2*(w.aR-w.ba).toNat+w.stack.length
theorem abv {w:Wk} (h:w.stack≠ []):ZP (qg w)<ZP w:=by
 have:=List.length_pos_iff.2 h;simp only[ZP,qg,List.length_dropLast];omega
theorem n5 (w:Wk) (v:Vm) (s:Nat):(eY w v s).aR=w.aR/\(eY w v s).ba=w.ba/\(eY w v s).stack.length=w.stack.length+1:=by
 unfold eY;dsimp only;split;·simp
 ·split<;>simp
theorem ta {w w':Wk} (f:Nat) (h:jf w=.on w'):sb (f+1) w=sb f w':=by rw[sb,h]
theorem xF {w w':Wk} (f:Nat) (h:jf w=.done w'):sb (f+1) w=some w':=by rw[sb,h]
theorem Dq {w:Wk} (f:Nat) (h:jf w=.XI):sb (f+1) w=none:=by rw[sb,h]
def wi (m aR:Int):Wk:=⟨m,aR,[],[],[],0,0⟩
theorem R6 (l:List bM) (s:bM):bY (l++[s])=bY l++s.cells:=by simp[bY]
theorem tb (v:Vm) (i:Int):(cR v i).1.steps.length<=v.steps.length+1:=by
 rw[ij];split;·simp
 ·exact Nat.le_succ _
theorem Yg {d:oW} {v:Vm} {D:List DV} (h:vD d v D) (i:Int) (hs:v.steps.length<1000000000000):vD d (cR v i).1 (kO d (cR v i).1++[.sl (cR v i).1.steps.length (bY (cR v i).1.steps)]):=by
 have hl:=tb v i;obtain⟨hp,hm⟩:=HJ (v:=v) i;exact⟨C7 h.ok i,hp▸h.CB,hp▸h.prog,by omega,_,rfl,KI _ (by omega)⟩
def cnS (w:Wk) (Ds:List (List DV)) (k:Nat) (i:Int) (D2:List DV) (s:bM):St:=
 ⟨[(0,.ptr 0 0),(4,.d (.bool false)),(5,.ptr 1 (k*3)),(6,au i),(7,.bw D2),(8,.ptr 4 0)],wh w Ds [(4,s.cells.map .d)],5⟩
def zt (w:Wk) (Ds:List (List DV)):St:=⟨[(0,.ptr 0 0),(4,.d (.bool false))],jo w Ds,4⟩
def HQ (res:Option Wk) (r:AV) (m':Mem):Prop:=match res with
 |none=>r=.d (.bool false)/\m'=[]
 |some w=>r=.d (.bool true)/\m'=jo w []
theorem N2 {d:oW} {m aR:Int} {v:Vm} {D:List DV} (hv:vD d v D) (h0:v.steps=[]) (hb0:0<=aR) (jR:aR<=2000000) {res:Option Wk} (mb:sb 4000010 (eY (wi m aR) v 0)=res):
 bB aK 79 [.ptr 0 0,.bw D] [(0,[au m,au aR,.d .ct,.d .ct,.d .ct,au 0,au 0,.d (.bool false)])] (HQ res):=by
 have cI:R3 d (eY (wi m aR) v 0) ([]++[D]):=
  Qh (w:=wi m aR) (Ds:=[]) rfl ⟨λf hf=>by simp[wi]at hf,λf hf=>by simp[wi]at hf⟩ (λi v D h=>by simp[wi]at h) (λv h=>by simp[wi]at h) rfl (by simp[wi]) (by simp[wi]) hb0 jR (by simp[wi]) (by simp[wi]) hv (by simp[h0,wi]) (by decide)
 have hmu:ZP (eY (wi m aR) v 0)<4000010:=by
  obtain⟨h1,h2,h3⟩:=n5 (wi m aR) v 0;unfold ZP;rw[h1,h2,h3];simp only[wi,alB];omega
 refine ay func79 aaR ntmps79 results79 rfl ?_;unfold ah7;refine aw (aB.lS 0 2 3 rfl rfl rfl rfl) ?_;refine aw (aB.lS 0 3 7 rfl rfl rfl rfl) ?_;refine aw (aB.lS 0 4 1 rfl rfl rfl rfl) ?_;refine aw (S':=⟨[(0,.ptr 0 0),(1,.bw D)],jo (wi m aR) [],4⟩) (aB.cj [(0,0),(1,1),(2,2),(3,3)] ⟨by simp[MO,aV,ah,AV.aA,aj,af],by simp[aE,alN,jo,wi,fO,bY,c8,eZ,aL,aF,ai,ak,aG,aj,AV.aA,af],rfl,rfl⟩) ?_;refine J λK hK=>?_;simp only[go_sem];apply hK;refine aa λK0 Yh=>?_;generalize qC:eY (wi m aR) v 0=w1 at mb cI hmu;have main:∀S,aB 1 106 S (zt w1 ([]++[D]))->K0 S:=by
  intro S hL;apply Yh;refine aa λKE fV=>?_;refine aw hL ?_;apply ax;refine ef (ι:={p:Wk×List (List DV)×Nat//R3 d p.1 p.2.1/\ZP p.1<p.2.2/\sb p.2.2 p.1=res}) (λp=>zt p.1.1 p.1.2.1) (λp=>ZP p.1.1) ⟨(w1,[]++[D],4000010),cI,hmu,mb⟩ ?_;rintro⟨⟨w,Ds,f⟩,cI,hmu,mb⟩;simp only at cI hmu mb;obtain⟨f,rfl⟩:∃g,f=g+1:=⟨f-1,by omega⟩;have hlen:=cI.len;have ak4:=cI.steps;have ak5:=cI.stk;have hp0:=cI.p0;have hpb:=cI.pb;have hbb:=cI.bb;have ak6:=cI.bl0;have akZ:=cI.runs;dsimp only;unfold Wl zt jo;refine aa λK1 aT=>?_;by_cases hs:w.stack=[]
  ·have ht:jf w=.done w:=by unfold jf;rw[hs];rfl
   rw[xF f ht]at mb;subst mb;have El:w.stack.length=0:=by rw[hs];rfl
   have hgt:¬(0:Int)<w.stack.length:=by omega
   have hDs:Ds=[]:=amb (by omega);subst hDs;refine J λK hK=>?_;simp only[go_sem,eZ,hgt,decide_false];apply hK;refine aH ?_;apply aW;show KE _;refine fV _ (J λK hK=>?_);simp only[go_sem];apply hK;apply an;exact⟨.d (.bool true),by simp[bj,aP,bt,ah],[(0,0),(1,1),(2,2),(3,3)],jo w [],rfl,rfl,by simp[jo,eZ,aO,aL,aF,ai,ak,aG,aj,AV.aA,af,ae,-alh],rfl,rfl⟩
  ·have Mg:=List.length_pos_iff.2 hs;have hgt:(0:Int)<w.stack.length:=by omega
   obtain⟨k,hk⟩:∃k,w.stack.length=k+1:=⟨w.stack.length-1,by omega⟩;have G1:w.stack[k]?=some (w.stack[k]'(by omega)):=alw (by omega)
   have Mj:Ds[k]?=some (Ds[k]'(by omega)):=alw (by omega)
   have hfm:w.stack[k]'(by omega)∈w.stack:=alR _
   generalize w.stack[k]'(by omega)=fm at G1 hfm
   generalize Ds[k]'(by omega)=D' at Mj
   have R5:vD d fm.v D':=cI.vms k fm.v D' (by rw[List.getElem?_map,G1];rfl) Mj;have B6:=cI.stp fm.v (List.mem_map.2 ⟨fm,hfm,rfl⟩);have ZM:=cI.fms.sleep _ hfm;have hfb:=cI.fms.back _ hfm;have hgl:w.stack.getLast?=some fm:=by rw[List.getLast?_eq_getElem?,hk];exact G1
   have Mo:=y7 hfb fm.sleep;have ZJ:=ra hfb ZM;have k1:=mB Mo;have hkw:alv.wrap ((w.stack.length:Int)-1)=(k:Int):=by rw[wrap_i64 (by omega) (by omega)];omega
   have I5:(k:Int)<w.stack.length:=by omega
   have TJ:k<w.stack.length:=by omega
   refine J λK hK=>?_;simp only[go_sem,eZ,hgt,decide_true];apply hK;refine aM ?_;apply ar;apply aT;apply ax;refine aa λK hK=>az rfl rfl ?_;simp only[go_sem,eZ,hkw,alm,I5,TJ,alj,alo];refine⟨rfl,hK _ ?_⟩;refine aa λK hK=>az rfl rfl ?_;simp only[go_sem,Dp G1 Mj,zp G1 Mj,ZJ];refine dw (k1) ?_;simp only[go_sem];refine⟨rfl,hK _ ?_⟩;refine aa λK2 eX=>?_;by_cases w4:ea (dO fm.back fm.sleep)<0
   ·have ht:jf w=.on (qg w):=by unfold jf;rw[hgl];simp only;rw[if_pos w4]
    rw[ta f ht]at mb;have kp:=R2 hlen (by omega) (by omega) (by omega);have hpo:=afO cI;have TF:=abv hs;refine J λK hK=>?_;simp only[go_sem,w4,decide_true];apply hK;refine aM ?_;refine J λK hK=>?_;simp only[go_sem];refine bA [(0,0),(1,1),(2,2),(3,3)] [.ptr 0 0] (jo w Ds) (nb:=1000) (kp) (by simp[bX]) (by first|(simp[aj,AV.aA,af];done)|simp[aj,AV.aA,af,jo,eZ,aO,dd,dL]) (by first|(simp[bZ,cd,af];done)|simp[bZ,cd,af,jo,eZ,aO,dd,dL]) (by simp[handed,af,ai,ak,aG,aj,AV.aA,bZ,cd,jo,eZ,aO,dd,dL]) rfl ?_;rintro r0 m' ⟨rfl,rfl⟩
    simp only[go_sem,bx,bR,bU,ai,ak,aG,cf,af,aj,bQ,AV.aA,alH,alD,alF,alK,alM,aly,jo,eZ,aO,dd,dL];apply hK;apply aW;refine⟨⟨(qg w,Ds.dropLast,f),hpo,by simp only;omega,mb⟩,TF,?_⟩;exact aB.cj [(0,0),(1,1),(2,2),(3,3)] ⟨by simp[aV,ah,AV.aA,aj,af,zt,jo,eZ,aO],by simp[aL,aF,ai,ak,aG,aj,AV.aA,af,ae,-alh,zt,jo,eZ,aO],rfl,rfl⟩
   ·have ht:jf w=if w.aR<w.ba+1+(cH fm.sleep).length then .XI else .on (eY (iE {w with ba:=w.ba+1+(cH fm.sleep).length,stack:=w.stack.dropLast++[{fm with sleep:=fq fm.sleep (ea (dO fm.back fm.sleep))}],steps:=w.steps++[(cR fm.v (ea (dO fm.back fm.sleep))).2.1]}) (cR fm.v (ea (dO fm.back fm.sleep))).1 (gU fm (cR fm.v (ea (dO fm.back fm.sleep))).2.1 w.m)):=by
     unfold jf;rw[hgl];simp only;rw[if_neg w4]
    generalize ea (dO fm.back fm.sleep)=i at w4 ht k1;refine J λK hK=>?_;simp only[go_sem,w4,decide_false];apply hK;refine aH ?_;apply ar;apply eX;have kcp:=C9 R5;refine J λK hK=>?_;simp only[go_sem,afK G1 Mj];refine bA [] [.bw D'] [] (nb:=1000) (kcp) (by simp[bX]) (by first|(simp[aj,AV.aA,af];done)|simp[aj,AV.aA,af,sc,aE,alP,alQ,alN,bd]) (by first|(simp[bZ,cd,af];done)|simp[bZ,cd,af,sc,aE,alP,alQ,alN,bd]) (by simp[handed,af,ai,ak,aG,aj,AV.aA,bZ,cd,sc,aE,alP,alQ,alN,bd]) rfl ?_;rintro r0 m' ⟨rfl,rfl⟩;simp only[go_sem,bx,bR,bU,ai,ak,aG,cf,af,aj,bQ,AV.aA,alH,alD,alF,alK,alM,aly,sc,aE,alP,alQ,alN,bd]
    apply hK;refine aa λK3 wc=>?_;have M6:=Yg R5 i (by omega);have hps:=tb fm.v i;have rest:∀S,aB 1 106 S (cnS w Ds k i (kO d (cR fm.v i).1++[.sl (cR fm.v i).1.steps.length (bY (cR fm.v i).1.steps)]) (cR fm.v i).2.1)->K3 S:=by
     intro S hL;generalize kO d (cR fm.v i).1++[.sl (cR fm.v i).1.steps.length (bY (cR fm.v i).1.steps)]=D2 at M6 hL;generalize cR fm.v i=pv at ht M6 hps hL;obtain⟨v2,s2,b2⟩:=pv;simp only at ht M6 hps hL;apply wc;refine aw hL ?_;unfold cnS wh;have hll:=tX fm.sleep;have hwp:alv.wrap (w.ba+1)=w.ba+1:=by rw[wrap_i64 (by omega) (by omega)]
     have ka:=HP (w:={w with ba:=w.ba+1}) (Ds:=Ds) R5 ZM s2 (by show 0<=w.ba+1;omega) (by show w.ba+1<=_;omega);have tK:gU fm s2 w.m<18446744073709551616:=by rw[<-KD];exact Qe _ _ ZM _
     refine J λK hK=>?_;simp only[go_sem,eZ,hwp];apply hK;refine aa λK hK=>az rfl rfl ?_;simp only[go_sem,abp G1 Mj,vG,bM.cells,als];refine fW [(0,0),(1,1),(2,2),(3,3)] [.ptr 0 0,.agg (vG (fm,D')),.agg (s2.cells.map .d)] (jo {w with ba:=w.ba+1} Ds) (nb:=1000) (ka) (by simp[bX]) (by first|(simp[aj,AV.aA,af];done)|simp[aj,AV.aA,af,jo,eZ,aO,dd,dL,vG,bM.cells]) (by first|(simp[bZ,cd,af];done)|simp[bZ,cd,af,jo,eZ,aO,dd,dL,vG,bM.cells]) (by simp[handed,af,ai,ak,aG,aj,AV.aA,bZ,cd,dL,jo,eZ,aO,dd,dL,vG,bM.cells]) rfl ?_
     simp only[go_sem,fE,alz,alL,bx,bR,bU,ai,ak,aG,cf,af,aj,bQ,AV.aA,alH,alD,alF,alK,alM,aly,jo,eZ,aO,dd,dL,vG,bM.cells];refine⟨rfl,hK _ ?_⟩;refine aa λK4 P5=>?_;refine aa λK hK=>az rfl rfl ?_;simp only[go_sem];refine⟨rfl,hK _ ?_⟩;by_cases R7:w.aR<w.ba+1+((cH fm.sleep).length:Int)
     ·rw[if_pos R7]at ht;rw[Dq f ht]at mb;subst mb;refine aM ?_ (by simp[ev,ah,R7]);refine J λK hK=>?_;simp only[go_sem];apply hK;apply an;exact⟨.d (.bool false),by simp[bj,aP,bt,ah],[],[],rfl,rfl,by simp[aL,aF],rfl,rfl⟩
     ·rw[if_neg R7]at ht;rw[ta f ht]at mb;refine aH ?_ (by simp[ev,ah,R7]);apply ar;apply P5;have kw:=iQ ZM i;have iw:=xD hlen;have ako:k*3+1+1<=(fO w.stack Ds).length:=by omega
      have jk:w.stack.set k {fm with sleep:=fq fm.sleep i}=w.stack.dropLast++[{fm with sleep:=fq fm.sleep i}]:=by
       have:=Yf (x:={fm with sleep:=fq fm.sleep i}) hs;rw[hk]at this;exact this
      rw[<-jk]at mb;have h56:(w.steps.length+1)*56<=140737488351232:=by omega
      have Ya:=xy w.steps;refine J λK hK=>?_;simp only[go_sem,zp G1 Mj];refine a8 (kw) ?_;simp only[go_sem,KM (fq fm.sleep i) G1 Mj,ako];apply hK;refine aa λK hK=>az rfl rfl ?_;simp only[go_sem,als,h56,Ya,alk];refine⟨rfl,hK _ ?_⟩;generalize hw5:({w with ba:=w.ba+1+((cH fm.sleep).length:Int),stack:=w.stack.set k {fm with sleep:=fq fm.sleep i},steps:=w.steps++[s2]}:Wk)=w5 at mb
      have e5:w5.stack=w.stack.set k {fm with sleep:=fq fm.sleep i}/\w5.ba=w.ba+1+((cH fm.sleep).length:Int)/\w5.steps=w.steps++[s2]/\w5.m=w.m/\w5.aR=w.aR/\w5.runs=w.runs/\w5.blocked=w.blocked:=by subst hw5;exact⟨rfl,rfl,rfl,rfl,rfl,rfl,rfl⟩
      obtain⟨e51,e52,e53,e54,e55,e56,e57⟩:=e5;have hl5:w5.stack.length=w.stack.length:=by rw[e51,List.length_set]
      have JI:=R6 w.steps s2;refine aw (S':=⟨[(0,.ptr 0 0),(4,.d (.bool false)),(7,.bw D2),(10,dF (gU fm s2 w.m))],jo w5 Ds,4⟩) (aB.cj [(0,0),(1,1),(32,2),(3,3)] ⟨by simp[aV,ah,AV.aA,aj,af],by simp[jo,eZ,hl5,e51,e52,e53,e54,e55,e56,e57,JI,bM.cells,aO,aL,aF,ai,ak,aG,aj,AV.aA,af,ae,-alh],rfl,rfl⟩) ?_;have ait:rU w5.stack:=by
       rw[e51];refine⟨λg hg=>?_,λg hg=>?_⟩
       ·rcases List.mem_or_eq_of_mem_set hg with h1|rfl;·exact cI.fms.sleep g h1
        ·exact jA ZM _
       ·rcases List.mem_or_eq_of_mem_set hg with h1|rfl;·exact cI.fms.back g h1
        ·exact hfb
      have hv5:w5.stack.map Fm.v=w.stack.map Fm.v:=by
       rw[e51,List.map_set];refine List.ext_getElem? λq=>?_;rw[List.getElem?_set];split
       ·rename_i he;subst he;rw[List.getElem?_map,G1,alk,if_pos TJ];rfl
       ·rfl
      have hs5:w5.steps.length=w.stack.length:=by rw[e53,aln,List.length_singleton];omega
      have kr:=KR (w:=w5) (Ds:=Ds) (by omega) ait (by omega) (by omega) (by omega);have e6:=And.intro (N1 w5) (And.intro (Ye w5) (R4 ait));have e6':(iE w5).ba=w5.ba/\(iE w5).steps=w5.steps/\(iE w5).m=w5.m/\(iE w5).aR=w5.aR/\(iE w5).runs=w5.runs/\(iE w5).blocked=w5.blocked:=⟨rfl,rfl,rfl,rfl,rfl,rfl⟩;generalize iE w5=w6 at kr e6 e6' mb;obtain⟨e61,e62,e63⟩:=e6;obtain⟨e64,e65,e66,e67,e68,e69⟩:=e6'
      have cP:=Qh (d:=d) (w:=w6) (Ds:=Ds) (v:=v2) (D:=D2) (dh:=gU fm s2 w.m) (by omega) e63 (by rw[e62,hv5];exact cI.vms) (by rw[e62,hv5,e64,e52];exact λv hv=>by have:=cI.stp v hv;omega) (by rw[e65,hs5];omega) (by omega) (by omega) (by omega) (by omega) (by omega) (by rw[e69,e68,e57,e56];omega) M6 (by omega) tK;obtain⟨p1,p2,p3⟩:=n5 w6 v2 (gU fm s2 w.m);have aiu:ZP (eY w6 v2 (gU fm s2 w.m))<ZP w:=by
       unfold ZP;rw[p1,p2,p3];omega
      refine J λK hK=>?_;simp only[go_sem];refine bA [(0,0),(1,1),(2,2),(3,3)] [.ptr 0 0] (jo w5 Ds) (nb:=1000) (kr) (by simp[bX]) (by first|(simp[aj,AV.aA,af];done)|simp[aj,AV.aA,af,jo,eZ,aO,dd,dL]) (by first|(simp[bZ,cd,af];done)|simp[bZ,cd,af,jo,eZ,aO,dd,dL]) (by simp[handed,af,ai,ak,aG,aj,AV.aA,bZ,cd,jo,eZ,aO,dd,dL]) rfl ?_;rintro r0 m' ⟨rfl,rfl⟩;simp only[go_sem,bx,bR,bU,ai,ak,aG,cf,af,aj,bQ,AV.aA,alH,alD,alF,alK,alM,aly,jo,eZ,aO,dd,dL];apply hK;by_cases he:v2.enabled=0
      ·have kp:=KS (w:=w6) (Ds:=Ds) (by omega) M6 tK (by omega) (by rw[e68,e56];omega) (by rw[e65,hs5];omega) he;unfold wkG at kp;refine ag rfl ?_;simp only[go_sem];refine bA [(0,0),(1,1),(2,2),(3,3)] [.ptr 0 0,.bw D2,dF (gU fm s2 w.m)] (jo w6 Ds) (nb:=1000) (kp) (by simp[bX]) (by first|(simp[aj,AV.aA,af];done)|simp[aj,AV.aA,af,jo,eZ,aO,dd,dL,lH]) (by first|(simp[bZ,cd,af];done)|simp[bZ,cd,af,jo,eZ,aO,dd,dL,lH]) (by simp[handed,af,ai,ak,aG,aj,AV.aA,bZ,cd,jo,eZ,aO,dd,dL,lH]) rfl ?_;rintro r0 m' ⟨rfl,rfl⟩;simp only[go_sem,bx,bR,bU,ai,ak,aG,cf,af,aj,bQ,AV.aA,alH,alD,alF,alK,alM,aly,jo,eZ,aO,dd,dL,lH]
       refine⟨⟨(eY w6 v2 (gU fm s2 w.m),Ds++[D2],f),cP,by simp only;omega,mb⟩,aiu,?_⟩;exact aB.cj [(0,0),(12,1),(2,2),(13,3)] ⟨by simp[aV,ah,AV.aA,aj,af,zt,jo,eZ,aO],by simp[aL,aF,ai,ak,aG,aj,AV.aA,af,ae,-alh,zt,jo,eZ,aO],rfl,rfl⟩
      ·have kp:=Qg (w:=w6) (Ds:=Ds) (by omega) M6 tK (by omega) (by rw[e69,e57];omega) he;unfold wkG at kp;refine ag rfl ?_;simp only[go_sem];refine bA [(0,0),(1,1),(2,2),(3,3)] [.ptr 0 0,.bw D2,dF (gU fm s2 w.m)] (jo w6 Ds) (nb:=1000) (kp) (by simp[bX]) (by first|(simp[aj,AV.aA,af];done)|simp[aj,AV.aA,af,jo,eZ,aO,dd,dL,lH]) (by first|(simp[bZ,cd,af];done)|simp[bZ,cd,af,jo,eZ,aO,dd,dL,lH]) (by simp[handed,af,ai,ak,aG,aj,AV.aA,bZ,cd,jo,eZ,aO,dd,dL,lH]) rfl ?_;rintro r0 m' ⟨rfl,rfl⟩;simp only[go_sem,bx,bR,bU,ai,ak,aG,cf,af,aj,bQ,AV.aA,alH,alD,alF,alK,alM,aly,jo,eZ,aO,dd,dL,lH]
       refine⟨⟨(eY w6 v2 (gU fm s2 w.m),Ds++[D2],f),cP,by simp only;omega,mb⟩,aiu,?_⟩;exact aB.cj [(0,0),(12,1),(2,2),(3,3)] ⟨by simp[aV,ah,AV.aA,aj,af,zt,jo,eZ,aO],by simp[aL,aF,ai,ak,aG,aj,AV.aA,af,ae,-alh,zt,jo,eZ,aO],rfl,rfl⟩
    cases hb:rb fm.v.enabled i
    ·have h2:cR fm.v i=(fm.v,cU,false):=by rw[ij,hb];rfl
     have k2:=HK (d:=d) R5.ok R5.CB R5.prog R5.steps hb;unfold sc at k2;refine ag rfl ?_;simp only[go_sem];refine bA [(0,26),(1,27)] [.ptr 0 0,au i] [(0,fN d fm.v (.sl 1 7 0 fm.v.steps.length)),(1,(bY fm.v.steps).map .d)] (nb:=1000) (k2) (by simp[bX]) (by first|(simp[aj,AV.aA,af];done)|simp[aj,AV.aA,af,bd,dz,af,bM.cells]) (by first|(simp[bZ,cd,af];done)|simp[bZ,cd,af,bd,dz,af,bM.cells]) (by simp[handed,af,ai,ak,aG,aj,AV.aA,bZ,cd,bd,dz,af,bM.cells]) rfl ?_;rintro r0 m' ⟨rfl,rfl⟩;simp only[go_sem,bx,bR,bU,ai,ak,aG,cf,af,aj,bQ,AV.aA,alH,alD,alF,alK,alM,aly,bd,dz,af,bM.cells];refine rest _ ?_;rw[h2]
     exact aB.jl [(0,0),(1,1),(2,2),(3,3),(30,4)] [(26,kO d fm.v++[.sl fm.v.steps.length (bY fm.v.steps)]),(27,bY fm.v.steps)] ⟨by simp[cnS,fb,ah,AV.cv,db,bI,af],by simp[cnS,wh,eZ,xE,cU,fx,aF,bI,ai,ak,aG,db,AV.cv,cD,bh,bM.cells,af,-alh],rfl,rfl,by simp[bG,bI,ai,ak,aG,fN,qo,db,AV.cv,cD,bh,-alh]⟩
    ·have h2:(cR fm.v i).2.2=true:=by rw[ij,hb];rfl
     have k2:=Db (d:=d) R5.ok R5.CB R5.prog R5.steps hb;unfold sc at k2;refine ag rfl ?_;simp only[go_sem];refine bA [(0,26),(1,27)] [.ptr 0 0,au i] [(0,fN d fm.v (.sl 1 7 0 fm.v.steps.length)),(1,(bY fm.v.steps).map .d)] (nb:=1000) (k2) (by simp[bX]) (by first|(simp[aj,AV.aA,af];done)|simp[aj,AV.aA,af,bd,dz,af,bM.cells]) (by first|(simp[bZ,cd,af];done)|simp[bZ,cd,af,bd,dz,af,bM.cells]) (by simp[handed,af,ai,ak,aG,aj,AV.aA,bZ,cd,bd,dz,af,bM.cells]) rfl ?_;rintro r0 m' ⟨rfl,rfl⟩;simp only[go_sem,bx,bR,bU,ai,ak,aG,cf,af,aj,bQ,AV.aA,alH,alD,alF,alK,alM,aly,bd,dz,af,bM.cells];refine rest _ ?_
     exact aB.jl [(0,0),(1,1),(2,2),(3,3),(31,4)] [(26,kO d (cR fm.v i).1++[.sl (cR fm.v i).1.steps.length (bY (cR fm.v i).1.steps)]),(30,bY (cR fm.v i).1.steps)] ⟨by simp[cnS,fb,ah,AV.cv,db,bI,af],by simp[cnS,wh,eZ,xE,fx,aF,bI,ai,ak,aG,db,AV.cv,cD,bh,bM.cells,af,-alh],rfl,rfl,by simp[bG,bI,ai,ak,aG,fN,qo,db,AV.cv,cD,bh,-alh]⟩
 have h00:(wi m aR).stack.length=0:=rfl;by_cases he:v.enabled=0
 ·have kp:=KS (w:=wi m aR) (Ds:=[]) rfl hv (dh:=0) (by decide) (by simp[wi]) (by simp[wi]) (by simp[wi]) he;rw[qC]at kp;unfold wkG at kp;refine ag rfl ?_;simp only[go_sem];refine bA [(0,0),(1,1),(2,2),(3,3)] [.ptr 0 0,.bw D,dF 0] (jo (wi m aR) []) (nb:=1000) (kp) (by simp[bX]) (by first|(simp[aj,AV.aA,af];done)|simp[aj,AV.aA,af,jo,eZ,aO,dd,dL,lH]) (by first|(simp[bZ,cd,af];done)|simp[bZ,cd,af,jo,eZ,aO,dd,dL,lH]) (by simp[handed,af,ai,ak,aG,aj,AV.aA,bZ,cd,jo,eZ,aO,dd,dL,lH]) rfl ?_;rintro r0 m' ⟨rfl,rfl⟩
  simp only[go_sem,bx,bR,bU,ai,ak,aG,cf,af,aj,bQ,AV.aA,alH,alD,alF,alK,alM,aly,jo,eZ,aO,dd,dL,lH];refine main _ ?_;exact aB.cj [(0,0),(8,1),(2,2),(9,3)] ⟨by simp[aV,ah,AV.aA,aj,af,zt,jo,eZ,aO],by simp[aL,aF,ai,ak,aG,aj,AV.aA,af,ae,-alh,zt,jo,eZ,aO],rfl,rfl⟩
 ·have kp:=Qg (w:=wi m aR) (Ds:=[]) rfl hv (dh:=0) (by decide) (by simp[wi]) (by simp[wi]) he;rw[qC]at kp;unfold wkG at kp;refine ag rfl ?_;simp only[go_sem];refine bA [(0,0),(1,1),(2,2),(3,3)] [.ptr 0 0,.bw D,dF 0] (jo (wi m aR) []) (nb:=1000) (kp) (by simp[bX]) (by first|(simp[aj,AV.aA,af];done)|simp[aj,AV.aA,af,jo,eZ,aO,dd,dL,lH]) (by first|(simp[bZ,cd,af];done)|simp[bZ,cd,af,jo,eZ,aO,dd,dL,lH]) (by simp[handed,af,ai,ak,aG,aj,AV.aA,bZ,cd,jo,eZ,aO,dd,dL,lH]) rfl ?_;rintro r0 m' ⟨rfl,rfl⟩;simp only[go_sem,bx,bR,bU,ai,ak,aG,cf,af,aj,bQ,AV.aA,alH,alD,alF,alK,alM,aly,jo,eZ,aO,dd,dL,lH]
  refine main _ ?_;exact aB.cj [(0,0),(8,1),(2,2),(3,3)] ⟨by simp[aV,ah,AV.aA,aj,af,zt,jo,eZ,aO],by simp[aL,aF,ai,ak,aG,aj,AV.aA,af,ae,-alh,zt,jo,eZ,aO],rfl,rfl⟩
end
end Go.Proofs.YtadocofdkdiboaaGreatDoor
