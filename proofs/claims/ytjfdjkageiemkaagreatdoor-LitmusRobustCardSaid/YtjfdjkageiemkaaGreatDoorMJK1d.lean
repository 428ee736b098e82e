/- What the statement's proof leans on, part 4: the layer, the walks, the plain laws. Names and blanks are short to keep the claim within its limit of bytes. -/
import Derived.Test.YtjfdjkageiemkaaGreatDoorMJK1c
import Derived.Test.YtjfdjkageiemkaaGreatDoorMJK1b
import Derived.OpenShut
import Derived.ChangeOld
import Derived.Below
import Derived.ProofKit
import Derived.ChangeShapes
import Derived.SizedLaws
import Derived.Lib.Strings
import Derived.Lib.Walk
import Derived.Lib.BytesEntry
set_option linter.unusedSimpArgs false
set_option linter.unusedVariables false
set_option maxRecDepth 100000
open List renaming map_map → acU, length_map → acY, drop_zero → ac3, getElem?_eq_getElem → ac6, range → ac7, take_of_length_le → ac8, replicate → ada, map_cons → ade, length_append → adk, getD_eq_getElem?_getD → adl, foldr_cons → adp, foldr_nil → adq, flatMap_cons → adr, length_cons → ads, getElem_mem → adt, map_nil → adu, mem_cons_self → adw, mem_cons_of_mem → adx, length_nil → adz, foldl_cons → adB, map_append → adC, nil_append → adF, take_add_one → adG, eq_nil_of_length_eq_zero → adH
open Nat renaming le_refl → acV, zero_add → ac2, max_def → ado
open Int renaming toNat_natCast → acW, natCast_nonneg → acX
open Bool renaming false_eq_true → ac5, and_self → adg, false_and → adi, and_false → adm, and_eq_true → adn
open Go.IntKind renaming i64 → ac9
open Option renaming isSome_none → adb, map_eq_some_iff → adf, isSome_some → adj, isSome_iff_exists → adv, map_some → ady, getD_some → adE
open Option.some renaming injEq → adh
namespace Go.Proofs.YtjfdjkageiemkaaGreatDoor
open Go.Proofs.Tryz
open Go.Proofs.Tryz renaming prog → aM
section
open Go Go.Jq
section
variable{d:l8} {v:Vm} {S:DV}
theorem uY:(iI d v++[S]).map AV.d=eG d v (.d S):=by unfold eG;rw[adC];rfl
theorem Jy (h:v.ok):aP (some 3) ((iI d v++[S]).map AV.d)=some (.agg [.d d.L,.d d.I,.d d.T]):=by rw[uY];exact xk h
theorem HD:aP none (((iI d v++[S]).drop 3).map AV.d)=some (aq v.m):=rfl
theorem yD (h:v.ok) {t:Nat} (ht:t<4):aP (some 5) ((((iI d v++[S]).drop 4).drop (t*5)).map AV.d)=some (.agg ((v.lc t).cells.map .d)):=by
 rw[List.drop_drop,List.map_drop,uY];exact E3 h ht
theorem Cy (h:v.ok) {t:Nat} (ht:t<4):aP (some 74) ((((iI d v++[S]).drop 32).drop (t*74)).map AV.d)=some (.agg ((v.bf t).cells.map .d)):=by
 rw[List.drop_drop,List.map_drop,uY];exact Cx h ht
end
theorem ov {v:Vm} (h:v.ok) (t:Nat):(v.lc t).ok:=by
 unfold Vm.lc;rw[adl];by_cases ht:t<v.locals.length;·rw[ac6 ht];exact h.E0 _ (adt ht)
 ·rw[List.getElem?_eq_none (by omega)];exact gM
theorem rR {v:Vm} (h:v.ok) (t:Nat):(v.bf t).ok:=by
 unfold Vm.bf;rw[adl];by_cases ht:t<v.dU.length;·rw[ac6 ht];exact h.E2 _ (adt ht)
 ·rw[List.getElem?_eq_none (by omega)];exact yz
def gw (v:Vm) (t s j:Nat):Nat:=(ac7 j).foldl (oU v t) s
theorem ow (v:Vm) (t s j:Nat):gw v t s (j+1)=oU v t (gw v t s j) j:=dG _ _ _
theorem Cz (v:Vm) (t s:Nat):gw v t s 0=s:=rfl
def zY (v:Vm) (j:Nat):Nat:=(ac7 j).foldl (Jt v) 0
theorem uZ (v:Vm) (j:Nat):zY v (j+1)=Jt v (zY v j) j:=dG _ _ _
theorem qB (v:Vm):zY v 0=0:=rfl
theorem lW (v:Vm):v.enabled=zY v 4:=rfl
theorem PW {v:Vm} {t s:Nat} (hs:s<18446744073709551616) (loc:Nat):oU v t s loc<18446744073709551616:=by
 unfold oU;split;·exact gK hs _
 ·exact hs
theorem rS {v:Vm} {t s:Nat} (hs:s<18446744073709551616):∀j,gw v t s j<18446744073709551616
 |0=>hs
 |j+1=>by rw[ow];exact PW (rS hs j) j
def CA (v:Vm) (s t:Nat):Nat:=if lS v t then ed s t else s
def tj (v:Vm) (s t:Nat):Nat:=if v.m=2/\(v.bf t).empty=false then ed s (4+(t:Int))else s
theorem yE (v:Vm) (s t:Nat):Jt v s t=gw v t (tj v (CA v s t) t) 4:=rfl
theorem xl {v:Vm} {s:Nat} (hs:s<18446744073709551616) (t:Nat):CA v s t<18446744073709551616:=by
 unfold CA;split;·exact gK hs _
 ·exact hs
theorem Jz {v:Vm} {s:Nat} (hs:s<18446744073709551616) (t:Nat):tj v s t<18446744073709551616:=by
 unfold tj;split;·exact gK hs _
 ·exact hs
theorem CB {v:Vm}:∀j,zY v j<18446744073709551616
 |0=>by rw[qB];decide
 |j+1=>by rw[uZ,yE];exact rS (Jz (xl (CB j) j) j) 4
theorem yF (v:Vm):v.enabled<18446744073709551616:=by rw[lW];exact CB 4
theorem E4 (v:Vm) (t:Nat):lS v t=((dt v.p t (v.lc t)).isSome&&(!(decide (((dt v.p t (v.lc t)).getD fg).kind=3)||decide (((dt v.p t (v.lc t)).getD fg).kind=4))||(v.bf t).empty)):=by
 unfold lS;cases dt v.p t (v.lc t)<;>rfl
def Mk (D:List DV) (t j i s:Nat):St:=⟨[(75,aq j),(4,aq t),(13,aq i),(0,.bj D),(3,cX s)],[],0⟩
theorem Xd {d:l8} {v:Vm} {S:DV} (h:v.ok) {t i s:Nat} (ht:t<4) (hs:s<18446744073709551616) {Q:Exit->St->Prop} (hQ:Q (.exit 2) (Mk (iI d v++[S]) t 4 i (gw v t s 4))):
 fN aM (aw []) 109 (.loop xb) (Mk (iI d v++[S]) t 0 i (gw v t s 0)) Q:=by
 refine bM (λj=>Mk (iI d v++[S]) t j i (gw v t s j)) 4 ?_;intro j hj;have hb:=rR h t;have iZ:=rS (v:=v) (t:=t) hs j;unfold xb Mk;by_cases bd:j<4
 ·have aQ:(j:Int)<4:=by omega
  have Gw:(t:Int)<4:=by omega
  have hw:=c8 (i:=j) (by omega);have q5:ac9.wrap (4*(t:Int))=4*(t:Int):=wrap_i64 (by omega) (by omega);have Dz:ac9.wrap (8+4*(t:Int))=8+4*(t:Int):=wrap_i64 (by omega) (by omega);have Zy:ac9.wrap (8+4*(t:Int)+j)=8+4*(t:Int)+j:=wrap_i64 (by omega) (by omega);have k1:=vV hb j;have hg:=Cy (d:=d) (S:=S) h ht;have b0:=ow v t s j;generalize gw v t s j=q at iZ b0;have k2:=gi iZ (8+4*(t:Int)+j);refine J λK hK=>?_;simp only[go_sem,aQ];apply hK;refine aa λK1 a8=>?_;refine aN ?_;apply au;apply a8;refine aa λK1 a8=>?_;apply aA;refine J λK hK=>?_;simp only[go_sem];refine hK _ (J λK hK=>?_)
  simp only[go_sem,acX,Gw,acW,hg];refine aF k1 (by simp[bF,bE]) (by simp[nw,bF,bE]) ?_;simp only[go_sem,nw];apply hK;cases ho:((v.bf t).eP j).isSome
  ·have hx:oU v t q j=q:=by unfold oU;rw[if_neg (by simp[ho])]
   rw[hx]at b0;by_cases hm:v.m=3
   ·refine J λK hK=>?_;simp only[go_sem,HD,eq_true hm,decide_true];apply hK;refine aK ?_ (by simp[ev,ah,ho]);apply au;simp only[go_sem];apply a8;refine af rfl ?_;simp only[go_sem,hw];exact⟨bd,(aH.cN [] ⟨by simp[bm,ah,AV.aC,aj,ag,b0,hw],by simp[aL,aI,ai,an,aj,AV.aC,ag,ae,-acU,b0,hw],rfl,rfl⟩)⟩
   ·refine J λK hK=>?_;simp only[go_sem,HD,eq_false hm,decide_false];apply hK;refine aK ?_ (by simp[ev,ah,ho]);apply au;simp only[go_sem];apply a8;refine af rfl ?_;simp only[go_sem,hw];exact⟨bd,(aH.cN [] ⟨by simp[bm,ah,AV.aC,aj,ag,b0,hw],by simp[aL,aI,ai,an,aj,AV.aC,ag,ae,-acU,b0,hw],rfl,rfl⟩)⟩
  ·by_cases hm:v.m=3
   ·have hx:oU v t q j=ed q (8+4*(t:Int)+j):=by unfold oU;rw[if_pos ⟨hm,ho⟩]
    rw[hx]at b0;refine J λK hK=>?_;simp only[go_sem,HD,eq_true hm,decide_true];apply hK;refine aN ?_ (by simp[ev,ah,ho]);refine af rfl ?_;simp only[go_sem,q5,Dz,Zy];refine aY (k2) ?_;simp only[go_sem];apply a8;refine af rfl ?_;simp only[go_sem,hw];exact⟨bd,(aH.cN [] ⟨by simp[bm,ah,AV.aC,aj,ag,b0,hw],by simp[aL,aI,ai,an,aj,AV.aC,ag,ae,-acU,b0,hw],rfl,rfl⟩)⟩
   ·have hx:oU v t q j=q:=by unfold oU;rw[if_neg (by simp[hm])]
    rw[hx]at b0;refine J λK hK=>?_;simp only[go_sem,HD,eq_false hm,decide_false];apply hK;refine aK ?_ (by simp[ev,ah,ho]);apply au;simp only[go_sem];apply a8;refine af rfl ?_;simp only[go_sem,hw];exact⟨bd,(aH.cN [] ⟨by simp[bm,ah,AV.aC,aj,ag,b0,hw],by simp[aL,aI,ai,an,aj,AV.aC,ag,ae,-acU,b0,hw],rfl,rfl⟩)⟩
 ·have dh:j=4:=by omega
  subst dh;refine J λK hK=>?_;simp only[go_sem];apply hK;refine aa λK1 a8=>?_;refine aK ?_;refine ax (S':=Mk (iI d v++[S]) t 4 i (gw v t s 4)) (aH.cN [] ⟨by simp[bm,ah,AV.aC,aj,ag,Mk],by simp[aL,aI,ai,an,aj,AV.aC,ag,ae,-acU,Mk],rfl,rfl⟩) ?_;exact aZ hQ
theorem CC {d:l8} {v:Vm} {S:DV} (h:v.ok) {t s:Nat} (ht:t<4) (hs:s<18446744073709551616) {mm:Mem} {fr:Fr} {n:Nat} {Q:Exit->St->Prop}
 (e0:ah fr 0=.bj (iI d v++[S])) (e4:ah fr 4=aq t) (PX:ah fr 13=aq t) (e3:ah fr 3=cX s)
 (ck:Q .normal (Mk (iI d v++[S]) t 4 t (gw v t (tj v s t) 4))):
 fN aM (aw []) 109 (.seq (.seq (.region false [oM 56 (.mv (.t 0)),oM 57 (.gu (.t 56)),oM 58 (.c7 (.t 57) 3),oM 59 (.load none (.t 58)),oM 60 (.bin .eql (.t 59) (.c (aq 2))),oM 61 (.mv (.t 60)),
    oG 62 (.mv (.t 0)) 61 true,oG 63 (.mv (.t 4)) 61 true,oG 64 (.gu (.t 62)) 61 true,oG 65 (.c7 (.t 64) 32) 61 true,oG 66 (.bS 74 (some 4) (.t 65) (.t 63)) 61 true,oG 67 (.load (some 74) (.t 66)) 61 true,oG 68 (.bW 244 [.t 67]) 61 true,oG 69 (.un .not (.t 68)) 61 true,oM 70 (.pick (.t 61) (.t 69) (.c (.d (.bool false))))] [])
  (.cond (.t 70) (.region false [oM 71 (.mv (.t 3)),oM 72 (.mv (.t 4)),oM 73 (.bin .add (.c (aq 4)) (.t 72)),oM 74 (.bW 132 [.t 71,.t 73]),oM 3 (.mv (.t 74))] []) .skip))
  (.seq (.region false [oM 75 (.mv (.c (aq 0)))] []) (.block 2 (.loop xb)))) ⟨fr,mm,n⟩ Q:=by
 have Gw:(t:Int)<4:=by omega
 have hg:=Cy (d:=d) (S:=S) h ht;have k1:=yA (v.bf t);have k2:=gi hs (4+(t:Int));have hw:ac9.wrap (4+(t:Int))=4+(t:Int):=wrap_i64 (by omega) (by omega);refine aa λK1 a8=>?_;have tl:∀(f2:Fr) (q:Nat) (n:Nat),ah f2 0=.bj (iI d v++[S])->ah f2 4=aq t->ah f2 13=aq t->ah f2 3=cX q->q=tj v s t->K1 ⟨f2,mm,n⟩:=by
  intro f2 q n g0 g4 g13 g3 hq;subst hq;apply a8;refine aa λK hK=>af (by simp[aw]) ?_;simp only[go_sem];apply hK;apply aA;refine ax (S':=Mk (iI d v++[S]) t 0 t (gw v t (tj v s t) 0)) (aH.cN [] ⟨by simp[Mk,bm,ah,AV.aC,g0,g4,g13,g3,Cz],trivial,rfl,rfl⟩) ?_;exact Xd h ht (Jz hs t) ck
 by_cases hm:v.m=2
 ·cases hb:(v.bf t).empty
  ·have hx:tj v s t=ed s (4+(t:Int)):=by unfold tj;rw[if_pos ⟨hm,hb⟩]
   refine aa λK hK=>af (by simp[aw]) ?_;simp only[go_sem,e0,e4,HD,eq_true hm,decide_true,acX,Gw,acW,hg];refine aY (k1) ?_;simp only[go_sem];apply hK;refine aN ?_ (by simp[ev,ah,hb]);refine af (by simp[aw]) ?_;simp only[go_sem,e3,e4,hw];refine aY (k2) ?_;simp only[go_sem];refine tl _ _ _ ?_ ?_ ?_ ?_ hx.symm<;>simp[ah,e0,e4,PX]
  ·have hx:tj v s t=s:=by unfold tj;rw[if_neg (by simp[hb])]
   refine aa λK hK=>af (by simp[aw]) ?_;simp only[go_sem,e0,e4,HD,eq_true hm,decide_true,acX,Gw,acW,hg];refine aY (k1) ?_;simp only[go_sem];apply hK;refine aK ?_ (by simp[ev,ah,hb]);apply au;simp only[go_sem];refine tl _ _ _ ?_ ?_ ?_ ?_ hx.symm<;>simp[ah,e0,e4,PX,e3]
 ·have hx:tj v s t=s:=by unfold tj;rw[if_neg (by simp[hm])]
  refine aa λK hK=>af (by simp[aw]) ?_;simp only[go_sem,e0,e4,HD,eq_false hm,decide_false];apply hK;refine aK ?_;apply au;simp only[go_sem];refine tl _ _ _ ?_ ?_ ?_ ?_ hx.symm<;>simp[ah,e0,e4,PX,e3]
theorem ll {d:l8} {v:Vm} {S:DV} (h:v.ok) (hT:cP Ins.cells v.p.threads d.T):Pure aM 189 [.bj (iI d v++[S])] (cX v.enabled):=by
 refine ay func189 OJ ntmps189 results189 rfl ?_;unfold UL;refine J λK hK=>?_;simp only[go_sem];refine hK _ (J λK hK=>?_);simp only[go_sem];apply hK;refine aa λKE fK=>?_;refine J λK hK=>?_;simp only[go_sem];apply hK;apply aA;refine ax (S':=⟨[(13,aq (0:Nat)),(0,.bj (iI d v++[S])),(3,cX (zY v 0))],[],0⟩) (aH.cN [] ⟨by simp[bm,ah,AV.aC,aj,ag,qB],by simp[aL,aI,ai,an,aj,AV.aC,ag,ae,-acU,qB],rfl,rfl⟩) ?_;refine bM (λi=>⟨[(13,aq (i:Nat)),(0,.bj (iI d v++[S])),(3,cX (zY v i))],[],0⟩) 4 ?_;intro i hi;have iZ:=CB (v:=v) i;unfold Ja;by_cases bd:i<4
 ·have aQ:(i:Int)<4:=by omega
  have hw:=c8 (i:=i) (by omega);have b0:=uZ v i;generalize zY v i=s at iZ b0;rw[yE]at b0;have k1:=qy (L:=d.L) (I:=d.I) hT i (ov h i);have k2:=yA (v.bf i);have k3:=gi iZ i;have hg:=Cy (d:=d) (S:=S) h bd;have hl:=yD (d:=d) (S:=S) h bd;have Gx:=E4 v i;refine J λK hK=>?_;simp only[go_sem,aQ];apply hK;refine aa λK1 a8=>?_;refine aN ?_;apply au;apply a8;refine aa λK1 a8=>?_;apply aA;refine J λK hK=>?_;simp only[go_sem];apply hK;refine aa λK hK=>az rfl rfl ?_;simp only[go_sem,ac3,Jy h,acX,aQ,acW,hl];refine bY k1 (by simp[bF,bE]) (by simp[dv,bF,bE]) ?_;generalize dh:(dt v.p i (v.lc i)).getD fg=ins at Gx
  generalize b8:(dt v.p i (v.lc i)).isSome=ok at Gx;simp only[go_sem,dv,dh,b8,Ins.cells];refine⟨rfl,hK _ ?_⟩;have fin:K1 (Mk (iI d v++[S]) i 4 i (gw v i (tj v (CA v s i) i) 4)):=by
   apply a8;unfold Mk;refine af rfl ?_;simp only[go_sem,hw];exact⟨bd,(aH.cN [] ⟨by simp[bm,ah,AV.aC,aj,ag,b0,hw],by simp[aL,aI,ai,an,aj,AV.aC,ag,ae,-acU,b0,hw],rfl,rfl⟩)⟩
  have mid:∀(full:Bool) (fr:Fr) (mm:Mem) (n:Nat),ah fr 0=.bj (iI d v++[S])->ah fr 4=aq i->ah fr 13=aq i->ah fr 3=cX s->ah fr 6=.d (.bool ok)->ah fr 7=.d (.bool full)->
   lS v i=(ok&&(!full||(v.bf i).empty))->∀(Q:Exit->St->Prop) (c2:aG),(∀fr mm n q,ah fr 0=.bj (iI d v++[S])->ah fr 4=aq i->ah fr 13=aq i->ah fr 3=cX q->q=CA v s i->fN aM (aw []) 109 c2 ⟨fr,mm,n⟩ Q)->
   fN aM (aw []) 109 (.seq (.seq (.region false [oM 39 (.mv (.t 6)),oM 40 (.mv (.t 39)),oG 41 (.mv (.t 7)) 40 true,oG 42 (.un .not (.t 41)) 40 true,oG 43 (.mv (.t 42)) 40 true,oG 44 (.mv (.t 0)) 43 false,oG 45 (.mv (.t 4)) 43 false,oG 46 (.gu (.t 44)) 43 false,oG 47 (.c7 (.t 46) 32) 43 false,oG 48 (.bS 74 (some 4) (.t 47) (.t 45)) 43 false,oG 49 (.load (some 74) (.t 48)) 43 false,oG 50 (.bW 244 [.t 49]) 43 false,oG 51 (.pick (.t 43) (.c (.d (.bool true))) (.t 50)) 40 true,oM 52 (.pick (.t 40) (.t 51) (.c (.d (.bool false))))] [])
    (.cond (.t 52) (.region false [oM 53 (.mv (.t 3)),oM 54 (.mv (.t 4)),oM 55 (.bW 132 [.t 53,.t 54]),oM 3 (.mv (.t 55))] []) .skip)) c2) ⟨fr,mm,n⟩ Q:=by
   intro full fr mm n g0 g4 g13 g3 g6 g7 he Q c2 Ri;refine aa λK2 fx=>?_;have yes:lS v i=true->∀(f2:Fr) (n:Nat),ah f2 0=.bj (iI d v++[S])->ah f2 4=aq i->ah f2 13=aq i->ah f2 3=cX s->
    fN aM (aw []) 109 (.region false [oM 53 (.mv (.t 3)),oM 54 (.mv (.t 4)),oM 55 (.bW 132 [.t 53,.t 54]),oM 3 (.mv (.t 55))] []) ⟨f2,mm,n⟩ (Exit.iy K2 Q):=by
    intro hy f2 n x0 x4 x13 x3;refine af (by simp[aw]) ?_;simp only[go_sem,x3,x4];refine aY (k3) ?_;simp only[go_sem];refine fx _ (Ri _ _ _ (ed s i) ?_ ?_ ?_ ?_ (by unfold CA;rw[if_pos hy]))<;>simp[ah,x0,x4,x13]
   have no:lS v i=false->∀(f2:Fr) (n:Nat),ah f2 0=.bj (iI d v++[S])->ah f2 4=aq i->ah f2 13=aq i->ah f2 3=cX s->K2 ⟨f2,mm,n⟩:=by
    intro hn f2 n x0 x4 x13 x3;exact fx _ (Ri _ _ _ s x0 x4 x13 x3 (by unfold CA;rw[hn];rfl))
   cases ok
   ·refine J λK hK=>?_;simp only[go_sem,g6];apply hK;refine aK ?_;apply au;simp only[go_sem];refine no (by rw[he];rfl) _ _ ?_ ?_ ?_ ?_<;>simp[ah,g0,g4,g13,g3]
   ·cases full
    ·refine J λK hK=>?_;simp only[go_sem,g6,g7,Bool.not_false];apply hK;refine aN ?_;refine yes (by rw[he];rfl) _ _ ?_ ?_ ?_ ?_<;>simp[ah,g0,g4,g13,g3]
    ·refine aa λK hK=>af (by simp[aw]) ?_;simp only[go_sem,g6,g7,g0,g4,Bool.not_true,acX,aQ,acW,hg];refine aY (k2) ?_;simp only[go_sem];apply hK;cases hb:(v.bf i).empty
     ·refine aK ?_ (by simp[ev,ah,hb]);apply au;simp only[go_sem];refine no (by rw[he,hb];rfl) _ _ ?_ ?_ ?_ ?_<;>simp[ah,g0,g4,g13,g3]
     ·refine aN ?_ (by simp[ev,ah,hb]);refine yes (by rw[he,hb];rfl) _ _ ?_ ?_ ?_ ?_<;>simp[ah,g0,g4,g13,g3]
  by_cases h3:ins.kind=3
  ·refine J λK hK=>?_;simp only[go_sem,eq_true h3,decide_true];apply hK;exact mid true _ _ _ rfl rfl rfl rfl rfl rfl (by rw[Gx];simp[h3]) _ _ λfr mm n q g0 g4 g13 g3 hq=>by subst hq;exact CC h bd (xl iZ i) g0 g4 g13 g3 fin
  ·by_cases h4:ins.kind=4
   ·refine J λK hK=>?_;simp only[go_sem,eq_false h3,eq_true h4,decide_true,decide_false];apply hK;exact mid true _ _ _ rfl rfl rfl rfl rfl rfl (by rw[Gx];simp[h4]) _ _ λfr mm n q g0 g4 g13 g3 hq=>by subst hq;exact CC h bd (xl iZ i) g0 g4 g13 g3 fin
   ·refine J λK hK=>?_;simp only[go_sem,eq_false h3,eq_false h4,decide_true,decide_false];apply hK;exact mid false _ _ _ rfl rfl rfl rfl rfl rfl (by rw[Gx];simp[h3,h4]) _ _ λfr mm n q g0 g4 g13 g3 hq=>by subst hq;exact CC h bd (xl iZ i) g0 g4 g13 g3 fin
 ·have dh:i=4:=by omega
  subst dh;refine J λK hK=>?_;simp only[go_sem];apply hK;refine aa λK1 a8=>?_;refine aK ?_;apply aZ;show KE _;refine fK _ (J λK hK=>?_);simp only[go_sem];apply hK;apply ak;exact⟨cX v.enabled,by simp[bB,aV,bK,ah,ai,an,aB,lW],[],[],rfl,rfl,by simp[aL,aI,ai,an,aB,aj,AV.aC,ag,ae,-acU,lW],by simp[AV.aC,aj,ag,lW]⟩
theorem aT {d:l8} {v:Vm} {s:AV} {π:Nat->Option Nat}:aj π (eG d v s)=eG d v (s.aC π):=by
 unfold eG;rw[ae,bG];rfl
theorem cS {d:l8} {v:Vm} {s:AV} {π:Nat->Option Nat}:bF π (eG d v s)=bE π s:=by
 unfold eG;rw[x7,cT];simp[bF]
section
variable{v:Vm}
theorem u0 (h:v.ok) {t:Nat} {b:Bf} (hb:b.ok) (hl:∀e∈b.l,0<=e.loc/\e.loc<4):({v with dU:=v.dU.set t b}:Vm).ok where
 locals:=h.locals
 E0:=h.E0
 mem:=h.mem
 src:=h.src
 dU:=by rw[List.length_set];exact h.dU
 E2:=λx hx=>by rcases List.mem_or_eq_of_mem_set hx with h1|h1;exact h.E2 x h1;rw[h1];exact hb
 qP:=λx hx=>by rcases List.mem_or_eq_of_mem_set hx with h1|h1;exact h.qP x h1;rw[h1];exact hl
theorem lx (h:v.ok) (i:Nat) (x:Int):({v with mem:=v.mem.set i x}:Vm).ok where
 locals:=h.locals
 E0:=h.E0
 mem:=by rw[List.length_set];exact h.mem
 src:=h.src
 dU:=h.dU
 E2:=h.E2
 qP:=h.qP
theorem AZ (h:v.ok) (i:Nat) (x:Int):({v with src:=v.src.set i x}:Vm).ok where
 locals:=h.locals
 E0:=h.E0
 mem:=h.mem
 src:=by rw[List.length_set];exact h.src
 dU:=h.dU
 E2:=h.E2
 qP:=h.qP
theorem E5 (h:v.ok) (t:Nat) {l:iH} (hl:l.ok):({v with locals:=v.locals.set t l}:Vm).ok where
 locals:=by rw[List.length_set];exact h.locals
 E0:=λx hx=>by rcases List.mem_or_eq_of_mem_set hx with h1|h1;exact h.E0 x h1;rw[h1];exact hl
 mem:=h.mem
 src:=h.src
 dU:=h.dU
 E2:=h.E2
 qP:=h.qP
theorem CD (h:v.ok) {t:Nat}:∀e∈(v.bf t).l,0<=e.loc/\e.loc<4:=by
 unfold Vm.bf;rw[adl];by_cases ht:t<v.dU.length;·rw[ac6 ht];exact h.qP _ (adt ht)
 ·rw[List.getElem?_eq_none (by omega)];intro e he;cases he
theorem E6 {b:Bf} {loc:Int} (h:∀e∈b.l,0<=e.loc/\e.loc<4):∀e∈(b.drop loc).l,0<=e.loc/\e.loc<4:=by
 unfold Bf.drop;split;·exact h
 ·exact λe he=>h e (List.mem_of_mem_eraseIdx he)
theorem HE (h:v.ok) (t:Nat) (loc:Int):0<=(((v.bf t).eP loc).getD cf).loc/\(((v.bf t).eP loc).getD cf).loc<4:=by
 cases ho:(v.bf t).eP loc with
 |none=>decide
 |some e=>
  refine CD h (t:=t) e ?_;unfold Bf.eP at ho;rw[Option.bind_eq_some_iff]at ho;obtain⟨i,_,hi⟩:=ho;exact List.mem_of_getElem? hi
theorem A0 (h:v.ok) (t:Nat) (loc:Int):(lT v t loc).1.ok:=
 AZ (lx (u0 h (Cs (rR h t) loc) (E6 (CD h))) _ _) _ _
end
theorem dN:o4 aM 225=some (some 7):=by kernel_rfl
theorem v7 {d:l8} {v:Vm} (h:v.ok) {t:Nat} (ht:t<4) (loc:Int) (n:Nat) (C:List DV):
 bT aM 203 [.ptr 0 0,aq t,aq loc] [(0,eG d v (.sl 1 7 0 n)),(1,C.map .d)]
  λr m'=>r=.agg ((lT v t loc).2.cells.map .d)/\m'=[(0,eG d (lT v t loc).1 (.sl 1 7 0 n)),(1,C.map .d)]:=by
 have Gw:(t:Int)<4:=by omega
 have hg:=Cx (d:=d) (s:=.sl 1 7 0 n) h ht;have hb:=rR h t;have k1:=vV hb loc;have k2:=Le hb loc;have hd:=Cs hb loc;obtain⟨Ix,hl4⟩:=HE h t loc;have h1:=u0 (t:=t) h hd (E6 (loc:=loc) (CD h));have qZ:(lT v t loc).1={v with dU:=v.dU.set t ((v.bf t).drop loc),mem:=v.mem.set (((v.bf t).eP loc).getD cf).loc.toNat (((v.bf t).eP loc).getD cf).value,src:=v.src.set (((v.bf t).eP loc).getD cf).loc.toNat (((v.bf t).eP loc).getD cf).id}:=rfl;have Rj:(lT v t loc).2=⟨0,t,6,(((v.bf t).eP loc).getD cf).loc,0,(((v.bf t).eP loc).getD cf).value,(((v.bf t).eP loc).getD cf).id⟩:=rfl;rw[qZ,Rj]
 refine ay func203 OV ntmps203 results203 rfl ?_;unfold UU;refine J λK hK=>?_;simp only[go_sem];refine hK _ (J λK hK=>?_);simp only[go_sem,acX,Gw,acW,hg];refine aF k1 (by simp[bF,bE]) (by simp[nw,bF,bE]) ?_;generalize ((v.bf t).eP loc).isSome=so;generalize hee:((v.bf t).eP loc).getD cf=e at Ix hl4;obtain⟨el,ev,ei⟩:=e;simp only at Ix hl4;have hle:32+t*74+74<=329:=by omega
 have Xe:=uV (d:=d) (s:=.sl 1 7 0 n) h ht hd;obtain⟨q,rfl⟩:∃q:Nat,el=q:=⟨el.toNat,by omega⟩;have PY:q<4:=by omega
 have hm2:=uW (d:=d) (s:=.sl 1 7 0 n) h1 PY (x:=ev);have Rg:=uX (d:=d) (s:=.sl 1 7 0 n) (lx h1 q ev) PY (x:=ei);have Kd:=gr (d:=d) (s:=.sl 1 7 0 n) h;have Rk:=gr (d:=d) (s:=.sl 1 7 0 n) h1;have hv3:=gr (d:=d) (s:=.sl 1 7 0 n) (lx h1 q ev);have hq1:24+q+1<=329:=by omega
 have hq2:28+q+1<=329:=by omega
 simp only[go_sem,nw,hee];apply hK;refine aa λK hK=>az rfl rfl ?_;simp only[go_sem,acX,Gw,acW,hg];refine ea (k2) ?_;simp only[go_sem,acX,Gw,acW,fo hd,eV hd,mq,Kd,hle,Xe];refine⟨rfl,hK _ ?_⟩;refine aa λK hK=>az rfl rfl ?_;simp only[go_sem,acX,hl4,acW,Rk,hv3,hq1,hq2,hm2,Rg];refine⟨rfl,hK _ ?_⟩;refine J λK hK=>?_;simp only[go_sem];apply hK;apply ak
 exact⟨.agg ((bz.mk 0 t 6 q 0 ev ei).cells.map .d),by simp[bB,aV,bK,ah,ai,an,aB,dN,bz.cells,aT,aP,hee],[(0,0),(1,1)],[(0,eG d {v with dU:=v.dU.set t ((v.bf t).drop loc),mem:=v.mem.set q ev,src:=v.src.set q ei} (.sl 1 7 0 n)),(1,C.map .d)],rfl,rfl,by simp[aL,aI,ai,an,aB,aj,AV.aC,ag,ae,-acU,dN,bz.cells,aT,aP,hee],by simp[AV.aC,aj,ag,dN,bz.cells,aT,aP,hee]⟩
structure tm (p:Prog):Prop where
 short:rO p
 loc:∀l∈p.threads,∀i∈l,1<=i.kind->i.kind<=4->0<=i.loc/\i.loc<4
theorem PZ {p:Prog} (h:tm p) (t:Int) (l:iH):0<=((dt p t l).getD fg).loc/\((dt p t l).getD fg).loc<4:=by
 cases hn:dt p t l with
 |none=>decide
 |some i=>
  have hpc:=EV hn;unfold dt at hn;rw[if_pos hpc]at hn;simp only at hn;split at hn
  ·rename_i hk;cases hn;have hm:(eO p t).getD l.pc.toNat fg∈eO p t:=by
    rw[adl,ac6 (by omega)];exact adt _
   generalize (eO p t).getD l.pc.toNat fg=i at hk hm;unfold eO at hm;split at hm
   ·rename_i ht;rw[adl,ac6 (by omega)]at hm;exact h.loc _ (adt _) i hm hk.1 hk.2
   ·cases hm
  ·cases hn
theorem SB {b:Bf} {loc v id:Int} (h:∀e∈b.l,0<=e.loc/\e.loc<4):∀e∈(b.put loc v id).l,0<=e.loc/\e.loc<4:=by
 unfold Bf.put;split;·exact h
 ·intro e he;simp only[List.mem_append,List.mem_singleton]at he;rcases he with he|rfl;·exact h e he
  ·simp only;omega
def fZ (v:Vm) (t:Nat) (e:nJ):Vm:=
 if e.kind=2/\v.m≠1 then{v with dU:=v.dU.set t ((v.bf t).put e.loc e.w v.steps.length)}
 else if lQ e.kind then{v with mem:=v.mem.set e.loc.toNat e.w,src:=v.src.set e.loc.toNat v.steps.length}else v
theorem A1 {v:Vm} (h:v.ok) (t:Nat) (e:nJ):(fZ v t e).ok:=by
 unfold fZ;split;·exact u0 h (HB (rR h t) _ _ _) (SB (CD h))
 ·split;·exact AZ (lx h _ _) _ _
  ·exact h
theorem pP (v:Vm) (t:Nat) (e:nJ):(fZ v t e).p=v.p/\(fZ v t e).locals=v.locals/\(fZ v t e).steps=v.steps:=by
 unfold fZ;split;·exact⟨rfl,rfl,rfl⟩
 ·split<;>exact⟨rfl,rfl,rfl⟩
def tn (v:Vm) (t:Nat):Int×Int:=
 match(v.bf t).lR ((dt v.p t (v.lc t)).getD fg).loc with
  |some e=>(e.value,e.id)
  |none=>(v.mem.getD ((dt v.p t (v.lc t)).getD fg).loc.toNat 0,v.src.getD ((dt v.p t (v.lc t)).getD fg).loc.toNat 0)
def kz (v:Vm) (t:Nat):nJ×Bool:=jY ((dt v.p t (v.lc t)).getD fg) (v.lc t) (tn v t).1
theorem ox (v:Vm) (t:Nat):lk v t=({fZ v t (kz v t).1 with locals:=v.locals.set t (gq v.p t (v.lc t) (tn v t).1)},
 ⟨0,t,(kz v t).1.kind,(kz v t).1.loc,(kz v t).1.r,(kz v t).1.w,if(kz v t).2 then(tn v t).2 else-1⟩):=rfl
theorem HF {v:Vm} (h:v.ok) (t:Nat):(lk v t).1.ok:=by
 rw[ox];have h1:=A1 h t (kz v t).1;have h2:=E5 h1 t (yw (p:=v.p) (t:=t) (ov h t) (tn v t).1);rw[(pP v t (kz v t).1).2.1]at h2;exact h2
section
variable{d:l8} {v:Vm} {C:List DV} {t:Nat}
def HG (d:l8) (v:Vm) (n:Nat) (C:List DV) (l:iH) (i:Ins) (e:nJ):Mem:=
 [(0,eG d v (.sl 1 7 0 n)),(1,C.map .d),(2,cp.cells.map .d),(3,l.cells.map .d),(4,i.cells.map .d),(5,e.cells.map .d)]
theorem ab8 (h:v.ok) (hT:cP Ins.cells v.p.threads d.T) (hs:rO v.p) (ht:t<4) {l:iH} (hl:l.ok) {n:Nat} {i:Ins} {e:nJ} {val SC:Int} {fr:Fr} {nn:Nat} (hn:6<=nn)
 (e0:ah fr 0=.ptr 0 0) (e1:ah fr 1=aq t) (e5:ah fr 5=.ptr 3 0) (e8:ah fr 8=aq val) (PX:ah fr 13=.ptr 5 0) (e9:ah fr 9=aq SC) (e4:ah fr 4=.ptr 2 0)
 {R:AV} {M:Mem} (hR:R=.agg ((bz.mk 0 t e.kind e.loc e.r e.w SC).cells.map .d)) (hM:M=[(0,eG d {v with locals:=v.locals.set t (gq v.p t l val)} (.sl 1 7 0 n)),(1,C.map .d)]):
 fN aM 2 146 (.seq (.region true [oM 122 (.mv (.t 0)),oM 123 (.mv (.t 1)),oM 124 (.mv (.t 0)),oM 125 (.gu (.t 124)),oM 126 (.c7 (.t 125) 0),oM 127 (.load (some 3) (.t 126)),oM 128 (.mv (.t 1)),oM 129 (.load (some 5) (.t 5)),oM 130 (.mv (.t 8)),oM 131 (.bW 255 [.t 127,.t 128,.t 129,.t 130]),oM 132 (.gu (.t 122)),oM 133 (.c7 (.t 132) 4),oM 134 (.bS 5 (some 4) (.t 133) (.t 123)),⟨none,.store 5 (.t 134) (.t 131),none⟩] [0,0,0,4,8,16,0,0,0,480,1,1024,3071,5119])
  (.seq (.region false [oM 135 (.mv (.t 1)),oM 136 (.c7 (.t 13) 2),oM 137 (.load none (.t 136)),oM 138 (.c7 (.t 13) 3),oM 139 (.load none (.t 138)),oM 140 (.c7 (.t 13) 4),oM 141 (.load none (.t 140)),oM 142 (.c7 (.t 13) 5),oM 143 (.load none (.t 142)),oM 144 (.mv (.t 9)),oM 145 (.build [aq 0,aq 0,aq 0,aq 0,aq 0,aq 0,aq 0] [(1,1,.t 135),(2,1,.t 137),(3,1,.t 139),(4,1,.t 141),(5,1,.t 143),(6,1,.t 144)]),⟨none,.store 7 (.t 4) (.t 145),none⟩] []) .ret)) ⟨fr,HG d v n C l i e,nn⟩
  (mZ aM #[.cell 4 225] 2 λr m'=>r=R/\m'=M):=by
 have Gw:(t:Int)<4:=by omega
 have k:=Hx (L:=d.L) (I:=d.I) hT hs t hl val;have ha:=yw (p:=v.p) (t:=t) hl val;have hle:4+t*5+5<=329:=by omega
 have iZ:=vZ (d:=d) (s:=.sl 1 7 0 n) h ht ha;have hv:=gr (d:=d) (s:=.sl 1 7 0 n) h;unfold HG;refine aa λK hK=>az rfl (decide_eq_true (by dsimp only;omega)) ?_;simp only[go_sem,e0,e1,e5,e8,ac3,xk h,cZ hl];refine ea (k) ?_;simp only[go_sem,e0,e1,acX,Gw,acW,dH ha,mn ha,mo,hv,hle,iZ];refine⟨rfl,hK _ ?_⟩;refine aa λK hK=>af (decide_eq_true (by dsimp only;omega)) ?_;simp only[go_sem,e1,PX,e9,e4,nJ.cells,bz.cells,cp];apply hK;subst hR hM;apply ak
 exact⟨.agg ((bz.mk 0 t e.kind e.loc e.r e.w SC).cells.map .d),by simp[bB,aV,bK,ah,ai,an,aB,dN,bz.cells,aT,aP,e4],[(0,0),(1,1)],[(0,eG d {v with locals:=v.locals.set t (gq v.p t l val)} (.sl 1 7 0 n)),(1,C.map .d)],rfl,rfl,by simp[aL,aI,ai,an,aB,aj,AV.aC,ag,ae,-acU,dN,bz.cells,aT,aP,e4],by simp[AV.aC,aj,ag,dN,bz.cells,aT,aP,e4]⟩
theorem ab9 (h:v.ok) (ht:t<4) {n:Nat} (hn0:n=v.steps.length) (VL:v.steps.length<=1000000000000) {l:iH} {i:Ins} {e:nJ} (he4:0<=e.loc/\e.loc<4) {fr:Fr} {nn:Nat} (hn:6<=nn)
 (e0:ah fr 0=.ptr 0 0) (e1:ah fr 1=aq t) (PX:ah fr 13=.ptr 5 0) (e15:ah fr 15=aq n) {c2:aG} {Q:Exit->St->Prop}
 (Ri:∀(f2:Fr) (n2:Nat),6<=n2->(∀s,s=0\/s=1\/s=4\/s=5\/s=8\/s=9\/s=13->ah f2 s=ah fr s)->fN aM 2 146 c2 ⟨f2,HG d (fZ v t e) n C l i e,n2⟩ Q):
 fN aM 2 146 (.seq (.block 0 (.seq (.region false [oM 77 (.c7 (.t 13) 2),oM 78 (.load none (.t 77)),oM 79 (.bin .eql (.t 78) (.c (aq 2))),oM 80 (.mv (.t 79)),oG 81 (.mv (.t 0)) 80 true,oG 82 (.gu (.t 81)) 80 true,oG 83 (.c7 (.t 82) 3) 80 true,oG 84 (.load none (.t 83)) 80 true,oG 85 (.bin .neq (.t 84) (.c (aq 1))) 80 true,oM 86 (.pick (.t 80) (.t 85) (.c (.d (.bool false)))),oM 76 (.mv (.t 86))] [])
  (.cond (.t 76)
    (.region true [oM 87 (.mv (.t 0)),oM 88 (.mv (.t 1)),oM 89 (.mv (.t 0)),oM 90 (.mv (.t 1)),oM 91 (.gu (.t 89)),oM 92 (.c7 (.t 91) 32),oM 93 (.bS 74 (some 4) (.t 92) (.t 90)),oM 94 (.load (some 74) (.t 93)),oM 95 (.c7 (.t 13) 3),oM 96 (.load none (.t 95)),oM 97 (.c7 (.t 13) 5),oM 98 (.load none (.t 97)),oM 99 (.mv (.t 15)),oM 100 (.bW 253 [.t 94,.t 96,.t 98,.t 99]),oM 101 (.gu (.t 87)),oM 102 (.c7 (.t 101) 32),oM 103 (.bS 74 (some 4) (.t 102) (.t 88)),⟨none,.store 74 (.t 103) (.t 100),none⟩] [0,0,0,0,4,16,40,64,0,256,0,1024,0,6784,1,16384,49151,81919])
    (.seq (.region false [oM 105 (.load (some 6) (.t 13)),oM 106 (.bW 254 [.t 105]),oM 104 (.mv (.t 106))] [])
    (.cond (.t 104)
      (.region true [oM 107 (.mv (.t 0)),oM 108 (.c7 (.t 13) 3),oM 109 (.load none (.t 108)),oM 110 (.mv (.t 0)),oM 111 (.c7 (.t 13) 3),oM 112 (.load none (.t 111)),oM 113 (.c7 (.t 13) 5),oM 114 (.load none (.t 113)),oM 115 (.mv (.t 15)),oM 116 (.gu (.t 107)),oM 117 (.c7 (.t 116) 24),oM 118 (.bS 1 (some 4) (.t 117) (.t 109)),⟨none,.store 1 (.t 118) (.t 114),none⟩,oM 119 (.gu (.t 110)),oM 120 (.c7 (.t 119) 28),oM 121 (.bS 1 (some 4) (.t 120) (.t 112)),⟨none,.store 1 (.t 121) (.t 115),none⟩] [0,0,2,0,0,16,0,64,0,1,512,1223,2247,8,8192,24575,40959])
      .skip))))) c2) ⟨fr,HG d v n C l i e,nn⟩ Q:=by
 have Gw:(t:Int)<4:=by omega
 obtain⟨q,hq⟩:∃q:Nat,e.loc=q:=⟨e.loc.toNat,by omega⟩;have PY:q<4:=by omega
 have HH:(q:Int)<4:=by omega
 have hb:=rR h t;have kp:=PT hb e.loc e.w n;have hpo:=HB hb e.loc e.w n;have kw:=zX e;have hg:=Cx (d:=d) (s:=.sl 1 7 0 n) h ht;have hle:32+t*74+74<=329:=by omega
 have hq1:24+q+1<=329:=by omega
 have hq2:28+q+1<=329:=by omega
 have Xe:=uV (d:=d) (s:=.sl 1 7 0 n) h ht hpo;have hv:=gr (d:=d) (s:=.sl 1 7 0 n) h;have Rk:=gr (d:=d) (s:=.sl 1 7 0 n) (lx h q e.w);have P0:=uW (d:=d) (s:=.sl 1 7 0 n) h PY (x:=e.w);have KT:=uX (d:=d) (s:=.sl 1 7 0 n) (lx h q e.w) PY (x:=n);have hmm:aP none ((eG d v (.sl 1 7 0 n)).drop 3)=some (aq v.m):=ab7;unfold HG;refine aa λKE fK=>?_;have fin:∀(f2:Fr) (n2:Nat),6<=n2->(∀s,s=0\/s=1\/s=4\/s=5\/s=8\/s=9\/s=13->ah f2 s=ah fr s)->∀M,M=HG d (fZ v t e) n C l i e->KE ⟨f2,M,n2⟩:=by
  intro f2 n2 Rx hs M hM;subst hM;exact fK _ (Ri f2 n2 Rx hs)
 clear fK Ri;apply aA;have other:¬(e.kind=2/\v.m≠1)->∀(f2:Fr) (n2:Nat),6<=n2->(∀s,s=0\/s=1\/s=4\/s=5\/s=8\/s=9\/s=13\/s=15->ah f2 s=ah fr s)->∀Q2:Exit->St->Prop,(∀S,KE S->Q2 .normal S)->
  fN aM 2 146 (.seq (.region false [oM 105 (.load (some 6) (.t 13)),oM 106 (.bW 254 [.t 105]),oM 104 (.mv (.t 106))] [])
   (.cond (.t 104)
     (.region true [oM 107 (.mv (.t 0)),oM 108 (.c7 (.t 13) 3),oM 109 (.load none (.t 108)),oM 110 (.mv (.t 0)),oM 111 (.c7 (.t 13) 3),oM 112 (.load none (.t 111)),oM 113 (.c7 (.t 13) 5),oM 114 (.load none (.t 113)),oM 115 (.mv (.t 15)),oM 116 (.gu (.t 107)),oM 117 (.c7 (.t 116) 24),oM 118 (.bS 1 (some 4) (.t 117) (.t 109)),⟨none,.store 1 (.t 118) (.t 114),none⟩,oM 119 (.gu (.t 110)),oM 120 (.c7 (.t 119) 28),oM 121 (.bS 1 (some 4) (.t 120) (.t 112)),⟨none,.store 1 (.t 121) (.t 115),none⟩] [0,0,2,0,0,16,0,64,0,1,512,1223,2247,8,8192,24575,40959])
     .skip)) ⟨f2,HG d v n C l i e,n2⟩ Q2:=by
  intro uB f2 n2 Rx hs Q2 VM;have g0:=(hs 0 (by simp)).trans e0;have g13:=(hs 13 (by simp)).trans PX;have g15:=(hs 15 (by simp)).trans e15;unfold HG;refine aa λK hK=>af (decide_eq_true (by dsimp only;omega)) ?_;simp only[go_sem,g13,ac3,nJ.cells];refine aY (kw) ?_;simp only[go_sem];apply hK;cases hw:lQ e.kind
  ·refine aK ?_ (by simp[ev,ah,hw]);refine au (VM _ (fin _ _ (by omega) (λs DR=>?_) _ ?_))
   ·rw[<-hs s (by omega)];rcases DR with rfl|rfl|rfl|rfl|rfl|rfl|rfl<;>simp[ah]
   ·unfold fZ HG;rw[if_neg uB,hw];rfl
  ·refine aN ?_ (by simp[ev,ah,hw]);refine az rfl (decide_eq_true (by dsimp only;omega)) ?_;simp only[go_sem,g0,g13,g15,nJ.cells,hq,acX,HH,acW,hv,Rk,hq1,hq2,P0,KT];refine⟨rfl,VM _ (fin _ _ (by omega) (λs DR=>?_) _ ?_)⟩
   ·rw[<-hs s (by omega)];rcases DR with rfl|rfl|rfl|rfl|rfl|rfl|rfl<;>simp[ah]
   ·unfold fZ HG;rw[if_neg uB,hw,if_pos rfl,hq,hn0];simp[nJ.cells,hq]
 by_cases h2:e.kind=2
 ·by_cases hm:v.m=1
  ·refine aa λK hK=>af (decide_eq_true (by dsimp only;omega)) ?_;simp only[go_sem,PX,e0,nJ.cells,eq_true h2,decide_true,hmm,eq_true hm,Bool.not_true];apply hK;refine aK ?_;refine other (by simp[hm]) _ _ (by omega) (λs DR=>?_) _ (λS h=>h);rcases DR with rfl|rfl|rfl|rfl|rfl|rfl|rfl|rfl<;>simp[ah]
  ·refine aa λK hK=>af (decide_eq_true (by dsimp only;omega)) ?_;simp only[go_sem,PX,e0,nJ.cells,eq_true h2,decide_true,hmm,eq_false hm,decide_false,Bool.not_false];apply hK;refine aN ?_;refine az rfl (decide_eq_true (by dsimp only;omega)) ?_;simp only[go_sem,PX,e0,e1,e15,nJ.cells,acX,Gw,acW,hg];refine ea (kp) ?_;simp only[go_sem,acX,Gw,acW,fo hpo,eV hpo,mq,hv,hle,Xe];refine⟨rfl,fin _ _ (by omega) (λs DR=>?_) _ ?_⟩;·rcases DR with rfl|rfl|rfl|rfl|rfl|rfl|rfl<;>simp[ah]
   ·unfold fZ HG;rw[if_pos ⟨h2,hm⟩,hn0];simp[nJ.cells]
 ·refine aa λK hK=>af (decide_eq_true (by dsimp only;omega)) ?_;simp only[go_sem,PX,nJ.cells,eq_false h2,decide_false];apply hK;refine aK ?_;refine other (by simp[h2]) _ _ (by omega) (λs DR=>?_) _ (λS h=>h);rcases DR with rfl|rfl|rfl|rfl|rfl|rfl|rfl|rfl<;>simp[ah]
end
theorem P1 {i:Ins} {l:iH} {v:Int} (h:0<=i.loc/\i.loc<4):0<=(jY i l v).1.loc/\(jY i l v).1.loc<4:=by
 unfold jY;split;·exact h
 ·split;·exact h
  ·split;·split<;>exact h
   ·decide
theorem P2 (i:Ins):aP (some 9) (i.cells.map AV.d)=some (.agg (i.cells.map .d)):=rfl
theorem CE {d:l8} {v:Vm} (h:v.ok) (hp:tm v.p) (hT:cP Ins.cells v.p.threads d.T) {t:Nat} (ht:t<4) (VL:v.steps.length<=1000000000000) (C:List DV):
 bT aM 202 [.ptr 0 0,aq t] [(0,eG d v (.sl 1 7 0 v.steps.length)),(1,C.map .d)]
  λr m'=>r=.agg ((lk v t).2.cells.map .d)/\m'=[(0,eG d (lk v t).1 (.sl 1 7 0 v.steps.length)),(1,C.map .d)]:=by
 have Gw:(t:Int)<4:=by omega
 have hl:=E3 (d:=d) (s:=.sl 1 7 0 v.steps.length) h ht;have hb:=Cx (d:=d) (s:=.sl 1 7 0 v.steps.length) h ht;have E7:=ov h t;have kn:=qy (L:=d.L) (I:=d.I) hT t E7;obtain⟨hq0,PY⟩:=PZ hp t (v.lc t);have P3:(lk v t).1={fZ v t (kz v t).1 with locals:=(fZ v t (kz v t).1).locals.set t (gq (fZ v t (kz v t).1).p t (v.lc t) (tn v t).1)}:=by
  rw[ox,(pP v t (kz v t).1).1,(pP v t (kz v t).1).2.1]
 have P4:(lk v t).2=⟨0,t,(kz v t).1.kind,(kz v t).1.loc,(kz v t).1.r,(kz v t).1.w,if(kz v t).2 then(tn v t).2 else-1⟩:=by rw[ox]
 have SD:=pP v t (kz v t).1;have hwo:=A1 h t (kz v t).1;have hTw:cP Ins.cells (fZ v t (kz v t).1).p.threads d.T:=by rw[SD.1];exact hT
 have hSw:rO (fZ v t (kz v t).1).p:=by rw[SD.1];exact hp.short
 have qN:tn v t=match(v.bf t).lR ((dt v.p t (v.lc t)).getD fg).loc with
  |some e=>(e.value,e.id)
  |none=>(v.mem.getD ((dt v.p t (v.lc t)).getD fg).loc.toNat 0,v.src.getD ((dt v.p t (v.lc t)).getD fg).loc.toNat 0):=rfl
 have mf:kz v t=jY ((dt v.p t (v.lc t)).getD fg) (v.lc t) (tn v t).1:=rfl;rw[P3,P4];generalize hvv:tn v t=vf at qN mf P3 P4⊢;obtain⟨va,fr_⟩:=vf;have kb:=vW (rR h t) ((dt v.p t (v.lc t)).getD fg).loc;have ke:=Lf ((dt v.p t (v.lc t)).getD fg) E7 va;have aai:0<=(kz v t).1.loc/\(kz v t).1.loc<4:=by rw[mf];exact P1 ⟨hq0,PY⟩
 rw[<-mf]at ke;generalize acL:kz v t=ee at ke aai SD hwo hTw hSw P3 P4 mf⊢;obtain⟨e,rd⟩:=ee;generalize hii:(dt v.p t (v.lc t)).getD fg=i at kb ke hq0 PY qN mf;generalize Xf:(dt v.p t (v.lc t)).isSome=so;obtain⟨q,hq⟩:∃q:Nat,i.loc=q:=⟨i.loc.toNat,by omega⟩;have HH:(q:Int)<4:=by omega
 have hgm:=Xb (d:=d) (s:=.sl 1 7 0 v.steps.length) h (i:=q) (by omega);have Wo:=Xc (d:=d) (s:=.sl 1 7 0 v.steps.length) h (i:=q) (by omega);have hpr:=xk (d:=d) (s:=.sl 1 7 0 v.steps.length) h;have kH:=ti (d:=d) (s:=.sl 1 7 0 v.steps.length) h;refine ay func202 OU ntmps202 results202 rfl ?_;unfold UT;have hmb:aw [(0,eG d v (AV.sl 1 7 0 v.steps.length)),(1,List.map AV.d C)]=2:=rfl;rw[hmb];refine J λK hK=>?_;simp only[go_sem];refine hK _ (J λK hK=>?_);simp only[go_sem,acX,Gw,acW,hl,yq,Cp,dH E7,mn E7,mo,uS E7 (dH gM),dH gM,ac2,acV];apply hK;refine aa λK hK=>az rfl rfl ?_
 simp only[go_sem,ac3,hpr,cZ E7];refine bY kn (by simp[bF,bE]) (by simp[dv,bF,bE]) ?_;simp only[go_sem,dv,hii,Xf,Ins.cells];refine⟨rfl,hK _ ?_⟩;refine aa λK hK=>az rfl rfl ?_;simp only[go_sem,hq,acX,HH,acW,hgm,Wo];refine⟨rfl,hK _ ?_⟩
 refine ax (S':=⟨[(0,.ptr 0 0),(1,aq t),(4,.ptr 2 0),(5,.ptr 3 0),(6,.ptr 4 0),(8,aq (v.mem.getD q 0)),(9,aq (v.src.getD q 0))],[(0,eG d v (.sl 1 7 0 v.steps.length)),(1,C.map .d),(2,cp.cells.map .d),(3,(v.lc t).cells.map .d),(4,i.cells.map .d)],5⟩) (aH.cN [(0,0),(1,1),(2,2),(3,3),(13,4)] ⟨by simp[bm,ah,AV.aC,aj,ag,cp,bz.cells,pJ,iH.cells,Ins.cells,hq,aT],by simp[aL,aI,ai,an,aj,AV.aC,ag,ae,-acU,cp,bz.cells,pJ,iH.cells,Ins.cells,hq,aT],rfl,rfl⟩) ?_;refine aa λKA Xg=>?_
 have rest:∀(f2:Fr) (n2:Nat),ah f2 0=.ptr 0 0->ah f2 1=aq t->ah f2 4=.ptr 2 0->ah f2 5=.ptr 3 0->ah f2 6=.ptr 4 0->ah f2 8=aq va->ah f2 9=aq fr_->
  ∀M,M=[(0,eG d v (.sl 1 7 0 v.steps.length)),(1,C.map .d),(2,cp.cells.map .d),(3,(v.lc t).cells.map .d),(4,i.cells.map .d)]->KA ⟨f2,M,n2⟩:=by
  intro f2 n2 g0 g1 g4 g5 g6 g8 g9 M hM;subst hM;apply Xg;refine ax (S':=⟨[(0,.ptr 0 0),(1,aq t),(4,.ptr 2 0),(5,.ptr 3 0),(6,.ptr 4 0),(8,aq va),(9,aq fr_)],[(0,eG d v (.sl 1 7 0 v.steps.length)),(1,C.map .d),(2,cp.cells.map .d),(3,(v.lc t).cells.map .d),(4,i.cells.map .d)],5⟩)
   (aH.cN [(0,0),(1,1),(2,2),(3,3),(4,4)] ⟨by simp[bm,ah,AV.aC,ag,g0,g1,g4,g5,g6,g8,g9],by simp[aL,aI,ai,aj,AV.aC,ag,aT],rfl,rfl⟩) ?_
  refine J λK hK=>?_;simp only[go_sem,ac3,P2,cZ E7];refine aF ke (by simp[bF,bE]) (by simp[lV,bF,bE]) ?_;simp only[go_sem,lV,nJ.cells];apply hK;refine aa λKB Xh=>?_;have JA:∀(f2:Fr) (n2:Nat),ah f2 0=.ptr 0 0->ah f2 1=aq t->ah f2 4=.ptr 2 0->ah f2 5=.ptr 3 0->ah f2 8=aq va->ah f2 9=aq (if rd then fr_ else-1)->ah f2 13=.ptr 5 0->
   ∀M,M=HG d v v.steps.length C (v.lc t) i e->KB ⟨f2,M,n2⟩:=by
   intro f2 n2 g0 g1 g4 g5 g8 g9 g13 M hM;subst hM;apply Xh;unfold HG;refine ax (S':=⟨[(0,.ptr 0 0),(1,aq t),(4,.ptr 2 0),(5,.ptr 3 0),(8,aq va),(9,aq (if rd then fr_ else-1)),(13,.ptr 5 0)],[(0,eG d v (.sl 1 7 0 v.steps.length)),(1,C.map .d),(2,cp.cells.map .d),(3,(v.lc t).cells.map .d),(4,i.cells.map .d),(5,e.cells.map .d)],6⟩)
    (aH.cN [(0,0),(1,1),(2,2),(3,3),(4,4),(5,5)] ⟨by simp[bm,ah,AV.aC,ag,g0,g1,g4,g5,g8,g9,g13],by simp[aL,aI,ai,aj,AV.aC,ag,aT],rfl,rfl⟩) ?_
   refine J λK hK=>?_;simp only[go_sem,kH];apply hK;refine ab9 h ht rfl VL aai (by omega) rfl rfl rfl rfl ?_;intro f3 n3 hn3 Gt;refine ab8 hwo hTw hSw ht E7 hn3 (val:=va) (SC:=if rd then fr_ else-1) ?_ ?_ ?_ ?_ ?_ ?_ ?_ rfl rfl;·rw[Gt 0 (by simp)];rfl
   ·rw[Gt 1 (by simp)];rfl
   ·rw[Gt 5 (by simp)];rfl
   ·rw[Gt 8 (by simp)];rfl
   ·rw[Gt 13 (by simp)];rfl
   ·rw[Gt 9 (by simp)];rfl
   ·rw[Gt 4 (by simp)];rfl
  cases rd
  ·refine J λK hK=>?_;simp only[go_sem];apply hK;refine aN ?_;refine af rfl ?_;simp only[go_sem];refine JA _ _ rfl rfl rfl rfl rfl rfl rfl _ ?_;simp[HG,nJ.cells]
  ·refine J λK hK=>?_;simp only[go_sem];apply hK;refine aK ?_;apply au;simp only[go_sem];refine JA _ _ rfl rfl rfl rfl rfl rfl rfl _ ?_;simp[HG,nJ.cells]
 refine aa λK hK=>az rfl rfl ?_;simp only[go_sem,acX,Gw,acW,hb,Ins.cells];refine bY kb (by simp[bF,bE]) (by simp[mu,bF,bE]) ?_;cases hnw:(v.bf t).lR i.loc with
 |none=>
  rw[hnw,hq]at qN;simp only[acW,Prod.mk.injEq]at qN;simp only[go_sem,mu,Option.getD_none,adb];refine⟨rfl,hK _ ?_⟩;refine J λK hK=>?_;simp only[go_sem];apply hK;refine aK ?_;apply au;simp only[go_sem];refine rest _ _ rfl rfl rfl rfl rfl ?_ ?_ _ ?_;·simp[ah,qN.1]
  ·simp[ah,qN.2]
  ·simp[Ins.cells]
 |some w=>
  rw[hnw]at qN;simp only[Prod.mk.injEq]at qN;simp only[go_sem,mu,adE,adj];refine⟨rfl,hK _ ?_⟩;refine J λK hK=>?_;simp only[go_sem];apply hK;refine aN ?_;refine af rfl ?_;simp only[go_sem];refine rest _ _ rfl rfl rfl rfl rfl ?_ ?_ _ ?_;·simp[ah,qN.1]
  ·simp[ah,qN.2]
  ·simp[Ins.cells]
theorem P5 (s:Nat) (i:Int):og s i=(decide (0<=i/\i<64)&&s.testBit i.toNat):=by
 unfold og ma;by_cases h:0<=i/\i<64
 ·rw[if_pos h,decide_eq_true h,Bool.true_and];cases hb:s.testBit i.toNat
  ·have:s&&&2^i.toNat=0:=by
    apply Nat.eq_of_testBit_eq;intro j;rw[Nat.testBit_and,Nat.testBit_two_pow,Nat.zero_testBit];by_cases hj:i.toNat=j;·subst hj;rw[hb];rfl
    ·rw[decide_eq_false hj,adm]
   rw[this];rfl
  ·have:s&&&2^i.toNat≠0:=by
    intro h0;have h1:=congrArg (λx=>x.testBit i.toNat) h0;simp only[Nat.testBit_and,Nat.testBit_two_pow,Nat.zero_testBit,hb]at h1;simp at h1
   rw[decide_eq_false this];rfl
 ·rw[if_neg h,decide_eq_false h,Nat.and_zero];rfl
theorem rT {s:Nat} (hs:s<16777216) {k:Int} (h0:0<=k) (h1:k<24):ed s k<16777216:=by
 unfold ed ma;rw[if_pos ⟨h0,by omega⟩];have hp:(2:Nat)^k.toNat<2^24:=Nat.pow_lt_pow_right (by omega) (by omega);exact Nat.or_lt_two_pow (n:=24) hs hp
theorem CF (v:Vm):v.enabled<16777216:=by
 have h1:∀s t,s<16777216->t<4->∀j,j<=4->gw v t s j<16777216:=by
  intro s t hs ht j;induction j with
  |zero=>intro _;exact hs
  |succ j ih=>
   intro hj;rw[ow];unfold oU;split;·exact rT (ih (by omega)) (by omega) (by omega)
   ·exact ih (by omega)
 have h2:∀j,j<=4->zY v j<16777216:=by
  intro j;induction j with
  |zero=>intro _;rw[qB];decide
  |succ j ih=>
   intro hj;rw[uZ,yE];refine h1 _ j ?_ (by omega) 4 (by omega);have h3:CA v (zY v j) j<16777216:=by
    unfold CA;split;·exact rT (ih (by omega)) (by omega) (by omega)
    ·exact ih (by omega)
   unfold tj;split;·exact rT h3 (by omega) (by omega)
   ·exact h3
 rw[lW];exact h2 4 (by omega)
theorem zZ {v:Vm} {i:Int} (h:og v.enabled i=true):0<=i/\i<24:=by
 rw[P5,adn,decide_eq_true_eq]at h;obtain⟨⟨h0,_⟩,hb⟩:=h;refine⟨h0,?_⟩;rcases Int.lt_or_le i 24 with h1|h1;·exact h1
 ·have:v.enabled<2^i.toNat:=Nat.lt_of_lt_of_le (CF v) (Nat.pow_le_pow_right (by omega:0<2) (by omega:24<=i.toNat));rw[Nat.testBit_lt_two_pow this]at hb;cases hb
def bH (l:List bz):List DV:=l.flatMap bz.cells
theorem tq (l:List bz):(bH l).length=l.length*7:=jc qA l
def iD (v:Vm) (i:Int):Vm×bz:=if i<4 then lk v i.toNat else if i<8 then lT v (i.toNat-4) 0 else lT v ((i.toNat-8)/4) (((i.toNat-8)%4:Nat):Int)
theorem fL (v:Vm) (i:Int):cB v i=if og v.enabled i then({(iD v i).1 with steps:=v.steps++[{(iD v i).2 with pick:=i}]},{(iD v i).2 with pick:=i},true)else(v,cp,false):=rfl
theorem E8 {v:Vm} (h:v.ok) (i:Int):(iD v i).1.ok:=by
 unfold iD;split;·exact HF h _
 ·split;·exact A0 h _ _
  ·exact A0 h _ _
theorem yG {v:Vm} (h:v.ok) (i:Int):(cB v i).1.ok:=by
 rw[fL];split
 ·have:=E8 h i;exact⟨this.locals,this.E0,this.mem,this.src,this.dU,this.E2,this.qP⟩
 ·exact h
theorem CG {v:Vm} (i:Int):(cB v i).1.p=v.p/\(cB v i).1.m=v.m:=by
 rw[fL];split
 ·show(iD v i).1.p=v.p/\(iD v i).1.m=v.m;unfold iD;split
  ·rw[ox];refine⟨(pP v _ _).1,?_⟩;show(fZ v _ _).m=v.m;unfold fZ;split;·rfl
   ·split<;>rfl
  ·split<;>exact⟨rfl,rfl⟩
 ·exact⟨rfl,rfl⟩
def o2 (d:l8) (v:Vm) (k:Nat):Mem:=[(0,eG d v (.sl k 7 0 v.steps.length)),(k,(bH v.steps).map .d)]
def eE (d:l8) (v:Vm) (i:Int):Mem:=if og v.enabled i then o2 d (cB v i).1 2 else o2 d v 1
def vmL (d:l8) (v:Vm):List DV:=iI d v++[.sl v.steps.length (bH v.steps)]
theorem Xi {d:l8} {v:Vm} {k:Nat} {π:Nat->Option Nat} {Z:Nat->Option (List DV)} (hz:Z k=some (bH v.steps)):
 dn π Z (eG d v (.sl k 7 0 v.steps.length))=(vmL d v).map .d:=by
 unfold eG vmL;rw[ba,cF,adC]
 congr 1
 simp only[dn,AV.cv,hz,ac3,ade,adu];rw[ac8 (by rw[tq];exact acV _)]
theorem yH {d:l8} {v:Vm} (h:v.ok) (hp:tm v.p) (hT:cP Ins.cells v.p.threads d.T) (VL:v.steps.length<=1000000000000) (i:Int):
 bT aM 130 [.ptr 0 0,aq i] (o2 d v 1)
  λr m'=>r=.cu [.agg ((cB v i).2.1.cells.map .d),.d (.bool (cB v i).2.2)]/\m'=eE d v i:=by
 have ken:=ll (d:=d) (S:=.sl v.steps.length (bH v.steps)) h hT;have aca:=s5 (yF v) i;unfold o2;refine ay func130 Oy ntmps130 results130 rfl ?_;unfold UE;have hmb:aw [(0,eG d v (AV.sl 1 7 0 v.steps.length)),(1,List.map AV.d (bH v.steps))]=2:=rfl;rw[hmb];refine J λK hK=>?_;simp only[go_sem];apply hK;refine aa λKA Xg=>?_;refine J λK hK=>?_;simp only[go_sem];refine G5 [(0,vmL d v),(1,bH v.steps)] [.bj (vmL d v)] ken ?_ ?_ (λv h=>by subst h;rfl) ?_;·simp[bD,ai,bI,Xi,cF]
 ·simp[dn,AV.cv,bI]
 rintro vv rfl;simp only[go_sem];refine aY (aca) ?_;simp only[go_sem];apply hK;cases hb:og v.enabled i
 ·have Ml:eE d v i=[(0,eG d v (.sl 1 7 0 v.steps.length)),(1,(bH v.steps).map .d)]:=by unfold eE o2;rw[hb];rfl
  have VN:cB v i=(v,cp,false):=by rw[fL,hb];rfl
  rw[Ml,VN];refine aN ?_ (by simp[ev,ah,hb]);refine J λK hK=>?_;simp only[go_sem];apply hK;apply ak;exact⟨.cu [.agg (cp.cells.map .d),.d (.bool false)],by simp[bB,aV,bK,ah,ai,an,aB,dN,cp,bz.cells,aP,aT],[(0,0),(1,1)],[(0,eG d v (.sl 1 7 0 v.steps.length)),(1,(bH v.steps).map .d)],rfl,rfl,by simp[aL,aI,ai,an,aB,aj,AV.aC,ag,ae,-acU,dN,cp,bz.cells,aP,aT],by simp[AV.aC,aj,ag,dN,cp,bz.cells,aP,aT]⟩
 ·obtain⟨h0,uU⟩:=zZ hb;have Xf:=E8 h i;generalize KT:(iD v i).2=s0;have VN:cB v i=({(iD v i).1 with steps:=v.steps++[{s0 with pick:=i}]},{s0 with pick:=i},true):=by rw[fL,hb,KT];rfl
  have Ml:eE d v i=[(0,eG d (iD v i).1 (.sl 2 7 0 (v.steps.length+1))),(2,(bH v.steps).map .d++(bz.cells {s0 with pick:=i}).map .d)]:=by
   unfold eE o2;rw[hb,VN];simp only[if_true,adk,ads,adz,ac2]
   congr 2
   simp[bH,List.flatMap_append]
  have tail:∀(f2:Fr) (n2:Nat),4<=n2->ah f2 0=.ptr 0 0->ah f2 1=aq i->ah f2 4=.ptr 2 0->ah f2 6=.ptr 3 0->∀M,M=[(0,eG d (iD v i).1 (.sl 1 7 0 v.steps.length)),(1,(bH v.steps).map .d),(2,cp.cells.map .d),(3,s0.cells.map .d)]->
   fN aM 2 47 (.seq (.region false [oM 34 (.mv (.t 1)),oM 35 (.c7 (.t 6) 0),⟨none,.store 1 (.t 35) (.t 34),none⟩] [])
    (.seq (.region true [oM 36 (.mv (.t 0)),oM 37 (.mv (.t 0)),oM 38 (.gu (.t 37)),oM 39 (.c7 (.t 38) 328),oM 40 (.load none (.t 39)),oM 41 (.load (some 7) (.t 6)),oM 42 (.dp 7 1 [aq 0,aq 0,aq 0,aq 0,aq 0,aq 0,aq 0] [(0,7,.t 41)]),oM 43 (.app 7 56 225 (.t 40) (.t 42)),oM 44 (.gu (.t 36)),oM 45 (.c7 (.t 44) 328),⟨none,.store 1 (.t 45) (.t 43),none⟩] [0,0,2,4,8,0,32,80,255,511,767])
    (.seq (.region false [oM 46 (.load (some 7) (.t 6)),⟨none,.store 7 (.t 4) (.t 46),none⟩,oM 5 (.mv (.c (.d (.bool true))))] []) .ret))) ⟨f2,M,n2⟩
    (mZ aM #[.cell 4 225,.tmp 5] 2 λr m'=>r=.cu [.agg ((cB v i).2.1.cells.map .d),.d (.bool (cB v i).2.2)]/\m'=eE d v i):=by
   intro f2 n2 Rx g0 g1 g4 g6 M hM;subst hM;rw[Ml,VN];have xF:=ti (d:=d) (s:=.sl 1 7 0 v.steps.length) Xf;have r9:=gr (d:=d) (s:=.sl 1 7 0 v.steps.length) Xf;have gy:=λx=>jd (d:=d) (s:=.sl 1 7 0 v.steps.length) (s':=x) Xf;have iZ:=tq v.steps;have h56:(v.steps.length+1)*56<=140737488351232:=by omega
   refine ax (S':=⟨[(0,.ptr 0 0),(1,aq i),(4,.ptr 2 0),(6,.ptr 3 0)],[(0,eG d (iD v i).1 (.sl 1 7 0 v.steps.length)),(1,(bH v.steps).map .d),(2,cp.cells.map .d),(3,s0.cells.map .d)],4⟩)
    (aH.cN [(0,0),(1,1),(2,2),(3,3)] ⟨by simp[bm,ah,AV.aC,ag,g0,g1,g4,g6],by simp[aL,aI,ai,aj,AV.aC,ag,aT],rfl,rfl⟩) ?_
   refine J λK hK=>?_;simp only[go_sem,bz.cells,cp];apply hK;refine aa λK hK=>az rfl rfl ?_;simp only[go_sem,xF,acY,iZ,h56,r9,gy,adk];refine⟨rfl,hK _ ?_⟩;refine J λK hK=>?_;simp only[go_sem];apply hK;apply ak;exact⟨.cu [.agg ((bz.cells {s0 with pick:=i}).map .d),.d (.bool true)],by simp[bB,aV,bK,ah,ai,an,aB,dN,bz.cells,aP,aT],[(0,0),(11,2)],[(0,eG d (iD v i).1 (.sl 2 7 0 (v.steps.length+1))),(2,(bH v.steps).map .d++(bz.cells {s0 with pick:=i}).map .d)],rfl,rfl,by simp[aL,aI,ai,an,aB,aj,AV.aC,ag,ae,-acU,dN,bz.cells,aP,aT],by simp[AV.aC,aj,ag,dN,bz.cells,aP,aT]⟩
  refine aK ?_ (by simp[ev,ah,hb]);apply au;refine Xg _ (J λK hK=>?_);simp only[go_sem];apply hK;refine aa λKB Xh=>?_;have fin:∀(f2:Fr) (n2:Nat),4<=n2->ah f2 0=.ptr 0 0->ah f2 1=aq i->ah f2 4=.ptr 2 0->ah f2 6=.ptr 3 0->∀M,M=[(0,eG d (iD v i).1 (.sl 1 7 0 v.steps.length)),(1,(bH v.steps).map .d),(2,cp.cells.map .d),(3,s0.cells.map .d)]->KB ⟨f2,M,n2⟩:=
   λf2 n2 Rx g0 g1 g4 g6 M hM=>Xh _ (tail f2 n2 Rx g0 g1 g4 g6 M hM)
  apply aA;by_cases h4:i<4
  ·have hsv:iD v i=lk v i.toNat:=by unfold iD;rw[if_pos h4]
   have Gx:=CE h hp hT (t:=i.toNat) (by omega) VL (bH v.steps);rw[Int.toNat_of_nonneg h0,<-hsv,KT]at Gx;refine J λK hK=>?_;simp only[go_sem,eq_true h4,decide_true];apply hK;refine aN ?_;refine af rfl ?_;simp only[go_sem];refine bt [(0,0),(1,1)] [.ptr 0 0,aq i] [(0,eG d v (.sl 1 7 0 v.steps.length)),(1,(bH v.steps).map .d)] (nb:=1000) (Gx) (by simp[bC]) (by first|(simp[aj,AV.aC,ag];done)|simp[aj,AV.aC,ag,aT,cS,ag,bz.cells]) (by first|(simp[bF,bE,ag];done)|simp[bF,bE,ag,aT,cS,ag,bz.cells]) (by simp[handed,ag,ai,an,aB,aj,AV.aC,bF,bE,aT,cS,ag,bz.cells]) rfl ?_;rintro r0 m' ⟨rfl,rfl⟩
   simp only[go_sem,bn,bL,bN,ai,an,aB,bX,ag,aj,bG,AV.aC,adj,adb,adg,adi,adm,ac5,aT,cS,ag,bz.cells];refine fin _ _ ?_ rfl rfl rfl rfl _ ?_;·simp[aw]
   ·simp[cp,bz.cells]
  ·refine J λK hK=>?_;simp only[go_sem,eq_false h4,decide_false];apply hK;refine aK ?_;by_cases h8:i<8
   ·have hsv:iD v i=lT v (i.toNat-4) 0:=by unfold iD;rw[if_neg h4,if_pos h8]
    have Gx:=v7 (d:=d) h (t:=i.toNat-4) (by omega) 0 v.steps.length (bH v.steps);have hw:ac9.wrap (i-4)=((i.toNat-4:Nat):Int):=by rw[wrap_i64 (by omega) (by omega)];omega
    rw[<-hsv,KT]at Gx;refine J λK hK=>?_;simp only[go_sem,eq_true h8,decide_true];apply hK;refine aN ?_;refine af rfl ?_;simp only[go_sem,hw];refine bt [(0,0),(1,1)] [.ptr 0 0,aq ((i.toNat-4:Nat):Int),aq 0] [(0,eG d v (.sl 1 7 0 v.steps.length)),(1,(bH v.steps).map .d)] (nb:=1000) (Gx) (by simp[bC]) (by first|(simp[aj,AV.aC,ag];done)|simp[aj,AV.aC,ag,aT,cS,ag,bz.cells]) (by first|(simp[bF,bE,ag];done)|simp[bF,bE,ag,aT,cS,ag,bz.cells]) (by simp[handed,ag,ai,an,aB,aj,AV.aC,bF,bE,aT,cS,ag,bz.cells]) rfl ?_;rintro r0 m' ⟨rfl,rfl⟩
    simp only[go_sem,bn,bL,bN,ai,an,aB,bX,ag,aj,bG,AV.aC,adj,adb,adg,adi,adm,ac5,aT,cS,ag,bz.cells];refine fin _ _ ?_ rfl rfl rfl rfl _ ?_;·simp[aw]
    ·simp[cp,bz.cells]
   ·have hsv:iD v i=lT v ((i.toNat-8)/4) (((i.toNat-8)%4:Nat):Int):=by unfold iD;rw[if_neg h4,if_neg h8]
    have Gx:=v7 (d:=d) h (t:=(i.toNat-8)/4) (by omega) (((i.toNat-8)%4:Nat):Int) v.steps.length (bH v.steps);have hw:ac9.wrap (i-8)=((i.toNat-8:Nat):Int):=by rw[wrap_i64 (by omega) (by omega)];omega
    have hq:((i.toNat-8:Nat):Int).tdiv 4=(((i.toNat-8)/4:Nat):Int):=Nu (i.toNat-8) 4;have hr:((i.toNat-8:Nat):Int).tmod 4=(((i.toNat-8)%4:Nat):Int):=Nt (i.toNat-8) 4;have Dz:ac9.wrap ((((i.toNat-8)/4:Nat):Int))=(((i.toNat-8)/4:Nat):Int):=wrap_i64 (by omega) (by omega);rw[<-hsv,KT]at Gx;refine J λK hK=>?_;simp only[go_sem,eq_false h8,decide_false];apply hK;refine aK ?_;refine af rfl ?_;simp only[go_sem,hw,hq,hr,Dz]
    refine bt [(0,0),(1,1)] [.ptr 0 0,aq (((i.toNat-8)/4:Nat):Int),aq (((i.toNat-8)%4:Nat):Int)] [(0,eG d v (.sl 1 7 0 v.steps.length)),(1,(bH v.steps).map .d)] (nb:=1000) (Gx) (by simp[bC]) (by first|(simp[aj,AV.aC,ag];done)|simp[aj,AV.aC,ag,aT,cS,ag,bz.cells]) (by first|(simp[bF,bE,ag];done)|simp[bF,bE,ag,aT,cS,ag,bz.cells]) (by simp[handed,ag,ai,an,aB,aj,AV.aC,bF,bE,aT,cS,ag,bz.cells]) rfl ?_;rintro r0 m' ⟨rfl,rfl⟩;simp only[go_sem,bn,bL,bN,ai,an,aB,bX,ag,aj,bG,AV.aC,adj,adb,adg,adi,adm,ac5,aT,cS,ag,bz.cells];refine fin _ _ ?_ rfl rfl rfl rfl _ ?_;·simp[aw]
    ·simp[cp,bz.cells]
end
end Go.Proofs.YtjfdjkageiemkaaGreatDoor
namespace Go.Jq
open Go
inductive Sh where
 |int (k:IntKind)
 |bool
 |str
 |sl (es:List Sh)
mutual
def Fits:Sh->DV->Prop
 |.int k,d=>∃n,d=.int k n/\(Lit.int k n).wf=true
 |.bool,d=>∃b,d=.bool b
 |.str,d=>∃s:List UInt8,d=.str s/\s.length<=maxLen
 |.sl es,d=>d=.cE\/∃rows:List (List DV),d=.sl rows.length rows.flatten/\rows.length<=maxLen/\∀r∈rows,eL es r
def eL:List Sh->List DV->Prop
 | [],ds=>ds=[]
 |s::ss,ds=>∃d r,ds=d::r/\Fits s d/\eL ss r
end
theorem eL.length:∀{ss:List Sh} {ds:List DV},eL ss ds->ds.length=ss.length
 | [],_,h=>by simp only[eL]at h;subst h;rfl
 |s::ss,_,h=>by
  simp only[eL]at h;obtain⟨d,r,rfl,_,h⟩:=h;simp[eL.length h]
theorem eL.append:∀{ss ss':List Sh} {ds IH:List DV},eL ss ds->eL ss' IH->eL (ss++ss') (ds++IH)
 | [],_,_,_,h,h'=>by simp only[eL]at h;subst h;simpa using h'
 |s::ss,_,_,_,h,h'=>by
  simp only[eL]at h;obtain⟨d,r,rfl,hd,h⟩:=h;simp only[List.cons_append,eL];exact⟨d,_,rfl,hd,eL.append h h'⟩
def Nw (P:Program) (f:TypeId->Option (List Sh)):List Field->Nat->Option (List Sh)
 | [],_=>some []
 |fd::r,acc=>match f fd.type with
  |some s=>if fd.offset=acc/\P.cellsOf fd.type=s.length then(Nw P f r (acc+s.length)).map (s++·)else none
  |none=>none
def Ej (P:Program):Nat->TypeId->Option (List Sh)
 |0,_=>none
 |k+1,t=>match P.underlying t with
  |some .bool=>some [.bool]
  |some (.int q)=>some [.int q]
  |some .string=>some [.str]
  |some (.slice e)=>match Ej P k e with
   |some es=>if es.length=P.cellsOf e/\es.length≠0 then some [.sl es]else none
   |none=>none
  |some (.struct fs)=>match Nw P (Ej P k) fs.toList 0 with
   |some ss=>if ss.length=P.cellsOf t then some ss else none
   |none=>none
  |some (.array n e)=>match Ej P k e with
   |some es=>if es.length=P.cellsOf e/\n*es.length=P.cellsOf t then some (ada n es).flatten else none
   |none=>none
  |_=>none
def fS (I:Nat->Prop) (w:World):List DV->List Value->Prop
 | [],vs=>vs=[]
 |d::ds,vs=>∃v r,vs=v::r/\du I w d v/\fS I w ds r
section
variable{I:Nat->Prop} {w:World}
theorem fS.append:∀{ds IH:List DV} {vs mb:List Value},fS I w ds vs->fS I w IH mb->fS I w (ds++IH) (vs++mb)
 | [],_,_,_,h,h'=>by simp only[fS]at h;subst h;simpa using h'
 |d::ds,_,_,_,h,h'=>by
  simp only[fS]at h;obtain⟨v,r,rfl,hd,h⟩:=h;simp only[List.cons_append,fS];exact⟨v,_,rfl,hd,fS.append h h'⟩
theorem fS.get:∀{ds:List DV} {vs:List Value},fS I w ds vs->∀(i:Nat) (d:DV),ds[i]?=some d->∃v,vs[i]?=some v/\du I w d v
 | [],_,_,i,d,h=>by simp at h
 |x::ds,_,h,i,d,hi=>by
  simp only[fS]at h;obtain⟨v,r,rfl,hd,h⟩:=h;cases i with
  |zero=>simp at hi;subst hi;exact⟨v,rfl,hd⟩
  |succ i=>simpa using fS.get h i d (by simpa using hi)
theorem c6.append:∀{xs ys:List DV} {b o:Nat},c6 I w xs b o->c6 I w ys b (o+xs.length)->c6 I w (xs++ys) b o
 | [],ys,b,o,_,h=>by simpa using h
 |x::xs,ys,b,o,h,h'=>by
  simp only[List.cons_append,c6]at h⊢;refine⟨h.1,c6.append h.2 ?_⟩;rw[ads]at h';rw[show o+1+xs.length=o+(xs.length+1) by omega];exact h'
theorem c6.flatten {k b o:Nat}:∀{rows:List (List DV)} {i0:Nat},(∀r∈rows,r.length=k)->(∀(i:Nat) (r:List DV),rows[i]?=some r->c6 I w r b (o+(i0+i)*k))->c6 I w rows.flatten b (o+i0*k)
 | [],_,_,_=>by simp[c6]
 |r::rows,i0,hk,h=>by
  rw[List.flatten_cons];refine c6.append (by simpa using h 0 r rfl) ?_;have:=c6.flatten (k:=k) (b:=b) (o:=o) (rows:=rows) (i0:=i0+1) (λr hr=>hk r (adx _ hr)) λi r' hi=>by
   have:=h (i+1) r' (by simpa using hi);rwa[show i0+1+i=i0+(i+1) by omega]
  rw[hk r adw];rwa[Nat.succ_mul,<-Nat.add_assoc]at this
theorem II {α:Type} {p:Nat->α->Prop}:∀(n:Nat),(∀i,i<n->∃y,p i y)->∃l:List α,l.length=n/\∀i y,l[i]?=some y->p i y
 |0,_=>⟨[],rfl,λi y h=>by simp at h⟩
 |n+1,h=>by
  obtain⟨l,hl,hp⟩:=II n λi hi=>h i (by omega);obtain⟨y,hy⟩:=h n (by omega);refine⟨l++[y],by simp[hl],λi z hz=>?_⟩;rcases Nat.lt_or_ge i n with h1|h1;·rw[List.getElem?_append_left (by omega)]at hz;exact hp i z hz
  ·rw[List.getElem?_append_right (by omega)]at hz;have h2:i-l.length=0:=by
    rcases Nat.eq_zero_or_pos (i-l.length)with h3|h3;·exact h3
    ·rw[List.getElem?_eq_none (by simp;omega)]at hz;cases hz
   rw[h2]at hz;simp at hz;subst hz;have:i=n:=by omega
   subst this;exact hy
end
end Go.Jq
namespace Go.Jq
open Go
section
variable{H:Type} {enc:TypeId×Value->H} {P:Program} {w:World} {base:Nat} {spare:Nat->Bool} {held:Bool} {I:Nat->Prop} (hI:∀b,b<w.heap.size->I b)
theorem AJ {a:Addr} {n:Nat} {cs:List Value} (h:w.cells? base a n=some cs):cs.length=n/\∀i,i<n->w.cell? (a.add i)=cs[i]?:=by
 unfold World.cells? at h;split at h;·exact⟨by simpa using mapM_some_length h,λi hi=>mapM_some_get h i i (by simp[hi])⟩
 ·cases h
theorem RX {a:Addr} {v:Value} (h:w.cell? a=some v):a.block<w.heap.size/\a.spot=none:=by
 unfold World.cell? at h;split at h
 ·rename_i c T f hb;refine⟨?_,?_⟩
  ·rcases Nat.lt_or_ge a.block w.heap.size with h1|h1;·exact h1
   ·rw[Array.getElem?_eq_none h1]at hb;cases hb
  ·split at h;·cases h
   ·rename_i hs;simpa using hs
 ·cases h
theorem AK {f:TypeId->Option (List Sh)} {g:TypeId->List Value->Option (DataW H×List MemPlace)} (hfg:∀t ss cs x,f t=some ss->g t cs=some x->∃ds,eL ss ds/\fS I w ds cs) (cs:List Value):
 ∀(fs:List Field) (acc:Nat) (ss:List Sh),Nw P f fs acc=some ss->acc+ss.length=cs.length->(∀fd∈fs,∃x,g fd.type ((cs.drop fd.offset).take (P.cellsOf fd.type))=some x)->∃ds,eL ss ds/\fS I w ds (cs.drop acc)
 | [],acc,ss,h,hl,_=>by
   simp only[Nw,adh]at h;subst h;exact⟨[],rfl,by simp only[fS];exact List.drop_eq_nil_of_le (by simpa using Nat.le_of_eq hl.symm)⟩
 |fd::fs,acc,ss,h,hl,hx=>by
  simp only[Nw]at h;split at h
  ·rename_i s hs;split at h
   ·rename_i hc;rw[adf]at h;obtain⟨r,hr,rfl⟩:=h;obtain⟨x,hx1⟩:=hx fd adw;obtain⟨ds,h1,h2⟩:=hfg _ _ _ _ hs hx1;obtain⟨IH,h3,h4⟩:=AK hfg cs fs (acc+s.length) r hr (by simp at hl;omega) λfd' h=>hx fd' (adx _ h);refine⟨ds++IH,h1.append h3,?_⟩;have h5:=h2.append h4;rw[hc.1,hc.2,<-List.drop_drop,List.take_append_drop]at h5;exact h5
   ·cases h
  ·cases h
include hI in
theorem sQ:∀(k:Nat) (t:TypeId) (ss:List Sh) (fuel:Nat) (cs:List Value) (x:DataW H×List MemPlace),Ej P k t=some ss->DataW.trod enc P w base spare held fuel t cs=some x->∃ds,eL ss ds/\fS I w ds cs
 |0,_,_,_,_,_,h,_=>by simp[Ej]at h
 |k+1,t,ss,fuel,cs,x,h,hx=>by
  simp only[Ej]at h;split at h
  ·rename_i hu;cases h;obtain⟨b,rfl,_⟩:=DataW.trod_bool hu hx;exact⟨[.bool b],by simp only[eL,Fits];exact⟨_,_,rfl,⟨b,rfl⟩,rfl⟩,by simp[fS,du]⟩
  ·rename_i q hu;cases h;obtain⟨n,rfl,_,hw⟩:=DataW.trod_int hu hx;exact⟨[.int q n],by simp only[eL,Fits];exact⟨_,_,rfl,⟨n,rfl,hw⟩,rfl⟩,by simp[fS,du]⟩
  ·rename_i hu;cases h;obtain⟨s,rfl,_,hw⟩:=DataW.trod_string hu hx;exact⟨[.str s.data.toList],by simp only[eL,Fits];exact⟨_,_,rfl,⟨_,rfl,by simpa using hw⟩,rfl⟩,by simp[fS,du]⟩
  ·rename_i e hu;split at h
   ·rename_i es Mc;split at h
    ·rename_i hc;cases h;obtain⟨hlen,l6⟩:=hc;rcases DataW.trod_slice hu hx with⟨rfl,_⟩|⟨a,len,cap,elems,rest,n,_,rfl,_,hb,hl,hm,nO,ZM,_⟩;·exact⟨[.cE],by simp only[eL,Fits];exact⟨_,_,rfl,.inl rfl,rfl⟩,by simp[fS,du]⟩
     ·have each:∀i,i<len->∃r:List DV,∃Yh,w.cells? base (a.add (i*P.cellsOf e)) (P.cellsOf e)=some Yh/\eL es r/\fS I w r Yh:=by
       intro i hi;have h1:=ZM i hi;rw[ac6 (by omega),Option.bind_eq_some_iff]at h1;obtain⟨Yh,h2,h3⟩:=h1;obtain⟨r,h4,h5⟩:=sQ k e es n Yh _ Mc h3;exact⟨r,Yh,h2,h4,h5⟩
      obtain⟨rows,nH,lH⟩:=II len each;have pt:∀r∈rows,eL es r:=λr hr=>by
       obtain⟨i,hi⟩:=List.mem_iff_getElem?.1 hr;obtain⟨_,_,h2,_⟩:=lH i r hi;exact h2
      refine⟨[.sl rows.length rows.flatten],by simp only[eL,Fits];exact⟨_,_,rfl,.inr ⟨rows,rfl,by omega,pt⟩,rfl⟩,?_⟩;simp only[fS,du];refine⟨_,_,rfl,⟨some a,cap,by rw[nH],by omega,?_⟩,rfl⟩;rcases Nat.eq_zero_or_pos len with h0|h0
      ·have:rows=[]:=adH (by omega);subst this;exact .inl ⟨rfl,rfl⟩
      ·right;have Az:rows[0]?=some rows[0]:=ac6 (by omega);obtain⟨cs0,h1,h2,h3⟩:=lH 0 _ Az;obtain⟨Ix,hg0⟩:=AJ h1;have abY:0<P.cellsOf e:=by omega
       have hc0:∃v,w.cell? a=some v:=by
        have:=hg0 0 abY;rw[ac6 (by omega)]at this;have e1:(a.add (0*P.cellsOf e)).add 0=a:=by simp[Addr.add]
        rw[e1]at this;exact⟨_,this⟩
       obtain⟨v,hv⟩:=hc0;obtain⟨bd,hsp⟩:=RX hv;obtain⟨ab,ao,asp⟩:=a;simp only at bd hsp;subst hsp;refine⟨ab,ao,rfl,hI ab bd,?_⟩;have:=c6.flatten (I:=I) (w:=w) (k:=es.length) (b:=ab) (o:=ao) (rows:=rows) (i0:=0) (λr hr=>(pt r hr).length) λi r hi=>by
        obtain⟨Yh,h4,h5,h6⟩:=lH i r hi;obtain⟨_,hg⟩:=AJ h4;refine c6.o6 λj d hj=>?_;obtain⟨v,hv,hr⟩:=h6.get j d hj;have TG:j<P.cellsOf e:=by
         have:=(List.getElem?_eq_some_iff.1 hj).1;rw[h5.length]at this;omega
        refine⟨v,?_,hr⟩;have:=hg j TG;rw[hv,addr_add,addr_add]at this;rw[ac2,hlen];exact this
       simpa using this
    ·cases h
   ·cases h
  ·rename_i fs hu;split at h
   ·rename_i ss' KT;split at h
    ·rename_i hc;cases h;obtain⟨xs,n,_,_,w3,ya,qM⟩:=DataW.trod_struct hu hx;have:=AK (P:=P) (I:=I) (w:=w) (f:=Ej P k) (g:=λt cs=>DataW.trod enc P w base spare held n t cs) (λt ss cs x h1 h2=>sQ k t ss n cs x h1 h2) cs fs.toList 0 ss KT (by omega) λfd hfd=>by
      obtain⟨i,hi⟩:=List.mem_iff_getElem?.1 hfd;rw[Array.getElem?_toList]at hi;have h1:=qM i fd hi;have h2:i<fs.size:=(Array.getElem?_eq_some_iff.1 hi).1;rw[ac6 (by omega)]at h1;exact⟨_,h1⟩
     simpa using this
    ·cases h
   ·cases h
  ·rename_i n e hu;split at h
   ·rename_i es Mc;split at h
    ·rename_i hc;cases h;obtain⟨xs,m,_,_,w3,ya,qM⟩:=DataW.trod_array hu hx;have key:∀q,q<=n->∃ds,eL (ada q es).flatten ds/\fS I w ds (cs.take (q*es.length)):=by
      intro q;induction q with
      |zero=>intro _;exact⟨[],by simp[eL],by simp[fS]⟩
      |succ q ih=>
       intro hq;obtain⟨ds,h1,h2⟩:=ih (by omega);have h3:=qM q (by omega);rw[ac6 (by omega)]at h3;obtain⟨IH,h4,h5⟩:=sQ k e es m _ _ Mc h3;refine⟨ds++IH,?_,?_⟩
       ·rw[List.replicate_succ',List.flatten_append];simpa using h1.append h4
       ·have:=h2.append h5;rw[<-hc.1]at this;rw[Nat.succ_mul,List.take_add];exact this
     obtain⟨ds,h1,h2⟩:=key n (acV _);exact⟨ds,h1,by rwa[ac8 (by omega)]at h2⟩
    ·cases h
   ·cases h
  ·cases h
end
end Go.Jq
namespace Go.Jq
open Go Go.RowKit Go.ChangeAt Go.ChangeShapes Go.WideShapes
def Nx (w:World):Ctx:=⟨λ_=>.free,λb=>b<w.heap.size⟩
theorem zP {P:Program} {f:Nat} {args:List AV} (h:Pure P f args (.d (.bool true))) {w:World} {vs:List Value} (hr:aU (Nx w) w args vs)
 (abZ:∀g Φ,J7 g=some Φ->∃cs T f,w.heap[g]?=some (.cells cs T f)/\Φ cs:=by intro g Φ h;simp[J7]at h):
 Calls P f vs.toArray w λe w'=>e=.returned (.bool true)/\Below w.heap.size w w':=by
 have hM:MR (Nx w) [] w:=⟨λid cells h=>by simp[ai]at h,λid j3 b h=>by simp[ai]at h,λb hb=>hb,λg Φ hg=>by
  obtain⟨cs,T,f,h1,h2⟩:=abZ g Φ hg;exact⟨(Array.getElem?_eq_some_iff.1 h1).1,cs,T,f,h1,h2⟩⟩
 refine(h (Nx w) w vs hr hM λid _=>rfl).mono ?_;rintro e w' ⟨v,r,m',c',rfl,⟨rfl,rfl⟩,jH,_,hs,_⟩;simp only[Rel,du]at jH;subst jH;exact⟨rfl,hs.os,hs.tape,hs.output,hs.size,λb hb=>hs.cI b hb λ⟨id,h1,_⟩=>by simp[ai]at h1⟩
section
variable{H:Type} {enc:TypeId×Value->H} {P:Program} {w:World} {base:Nat} {spare:Nat->Bool} {held:Bool} {t:TypeId} {v:Value} {d:DataW H} {p:List MemPlace}
theorem IJ {k:Nat} {s:Sh} (hs:Ej P k t=some [s]) (hv:v.cells=#[v]) (h:DataW.Trod enc P w base spare held t v d p):∃x,Fits s x/\Rel (Nx w) w (.d x) v:=by
 obtain⟨fuel,hf⟩:=h;obtain⟨ds,h1,h2⟩:=sQ (I:=(Nx w).dm) (λb hb=>hb) k t [s] fuel _ _ hs hf;simp only[eL]at h1;obtain⟨x,r,rfl,h3,rfl⟩:=h1;rw[hv]at h2;simp only[fS,List.cons.injEq]at h2;obtain⟨u,r,⟨h4,_⟩,h5,_⟩:=h2;subst h4;exact⟨x,h3,by simp only[Rel];exact h5⟩
end
end Go.Jq
namespace Go.Jq
open Go
theorem fits_int {k:IntKind} {d:DV} (h:Fits (.int k) d):∃n,d=.int k n/\(Lit.int k n).wf=true:=by
 simpa only[Fits]using h
def ab0 (n:Int):Prop:=-9223372036854775808<=n/\n<=9223372036854775807
theorem wf_i64 {n:Int} (h:(Lit.int .i64 n).wf=true):ab0 n:=by
 have e1:ac9.min=-9223372036854775808:=rfl;have e2:ac9.max=9223372036854775807:=rfl;simp only[Lit.wf,e1,e2,adn,decide_eq_true_eq]at h;exact h
end Go.Jq
namespace Go.Jq
open Go Go.ChangeShapes
section
variable{H:Type} {enc:TypeId×Value->H} {P:Program} {w:World} {base:Nat} {spare:Nat->Bool} {held:Bool}
end
end Go.Jq
namespace Go.Jq
open Go
mutual
def Sh.bytes:Sh->Nat
 |.int k=>k.bits/8
 |.bool=>1
 |.str=>16
 |.sl _=>24
def P6:List Sh->Nat
 | []=>0
 |s::ss=>s.bytes+P6 ss
end
mutual
def v8:Sh->DV->Prop
 |.int k,d=>∃n,d=.int k n/\(Lit.int k n).wf=true
 |.bool,d=>∃b,d=.bool b
 |.str,d=>∃s:List UInt8,d=.str s/\s.length<=reachBytes
 |.sl es,d=>d=.cE\/∃rows:List (List DV),d=.sl rows.length rows.flatten/\rows.length<=maxLen/\rows.length*P6 es<=reachBytes/\∀r∈rows,pQ es r
def pQ:List Sh->List DV->Prop
 | [],ds=>ds=[]
 |s::ss,ds=>∃d r,ds=d::r/\v8 s d/\pQ ss r
end
mutual
theorem v8.fits:∀{s:Sh} {d:DV},v8 s d->Fits s d
 |.int k,d,h=>by simpa only[v8,Fits]using h
 |.bool,d,h=>by simpa only[v8,Fits]using h
 |.str,d,h=>by
  simp only[v8]at h;obtain⟨s,rfl,hs⟩:=h;simp only[Fits];exact⟨s,rfl,Nat.le_trans hs (by decide)⟩
 |.sl es,d,h=>by
  simp only[v8]at h;simp only[Fits];rcases h with h|⟨rows,h1,h2,_,h3⟩;·exact .inl h
  ·exact .inr ⟨rows,h1,h2,λr hr=>pQ.fits (h3 r hr)⟩
theorem pQ.fits:∀{ss:List Sh} {ds:List DV},pQ ss ds->eL ss ds
 | [],ds,h=>by simpa only[pQ,eL]using h
 |s::ss,ds,h=>by
  simp only[pQ]at h;obtain⟨d,r,rfl,h1,h2⟩:=h;simp only[eL];exact⟨d,r,rfl,v8.fits h1,pQ.fits h2⟩
end
section
variable{H:Type} {enc:TypeId×Value->H} {P:Program} {w:World} {base:Nat} {spare:Nat->Bool} {held:Bool} {I:Nat->Prop} (hI:∀b,b<w.heap.size->I b)
end
section
variable{H:Type} {enc:TypeId×Value->H} {P:Program} {w:World} {base:Nat} {spare:Nat->Bool} {held:Bool} {t:TypeId} {v:Value} {d:DataW H} {p:List MemPlace}
end
end Go.Jq
namespace Go.Jq
open Go
def JB (de bytes el:Nat):aG:=
 (.seq (.region false [oM 2 (.mv (.c (.d .cE)))] [])
 (.seq (.seq (.region false [oM 3 (.mv (.t 0)),oM 4 (.iW (.ur false) [(.t 3),(.c (.d .cE))])] [])
 (.cond (.t 4)
   (.seq (.region false [oM 2 (.mv (.c (.d .cE)))] [])
   .ret)
   .skip))
 (.seq (.region false [oM 5 (.dp de 0 [] []),oM 6 (.mv (.t 0)),oM 7 (.app de bytes el (.t 5) (.t 6)),oM 2 (.mv (.t 7))] [])
 .ret)))
structure SlC (de:Nat) (X:DV) (n:Nat) (cs:List DV):Prop where
 it:(X=.cE/\n=0/\cs=[])\/X=.sl n cs
 len:cs.length=n*de
theorem dM.Yl {α:Type} {enc:α->List DV} {w:Nat} (hw:∀a,(enc a).length=w) {l:List α} {X:DV} (h:dM enc l X):SlC w X l.length (l.flatMap enc)where
 it:=by
  rcases h.2 with⟨h1,h2⟩|h1;·subst h2;exact .inl ⟨h1,rfl,rfl⟩
  ·exact .inr h1
 len:=by
  have:∀(l:List α),(l.flatMap enc).length=l.length*w:=by
   intro l;induction l with
   |nil=>simp
   |cons a l ih=>rw[adr,adk,hw,ih,ads,Nat.add_mul];omega
  exact this l
theorem je {P:Program} {f kk:Nat} {fn:Func} {de bytes el:Nat} (hf:P.funcs[f]?=some fn) (hc:fn.body.bind (ct P fn.ntmps)=some (JB de bytes el)) (hk:fn.ntmps=kk) (Wg:decide (1<=kk)=true) (GR:fn.results=#[.tmp 2])
 {X:DV} {n:Nat} {cs:List DV} (h:SlC de X n cs) (hb:n*bytes<=140737488351232):
 bT P f [.d X] [] λr m'=>r=.sl 0 de 0 n/\m'=[(0,cs.map .d)]:=by
 refine ay hf hc hk GR Wg ?_;unfold JB;have VO:∀(K1:St->Prop) (t:Fr) (N:Nat),n=0->cs=[]->ah t 2=.d .cE->fN P (aw []) kk .ret ⟨t,[],N⟩ (Exit.iy K1 (mZ P #[.tmp 2] (aw []) λr m'=>r=.sl 0 de 0 n/\m'=[(0,cs.map .d)])):=by
  intro K1 t N hn b9 h2;subst hn b9;refine ax (aH.nil 2 de (by simp[aw]) h2) ?_;refine ak ?_;exact⟨.sl N de 0 0,by simp[bB,aV,bK,ah],[(N,0)],[(0,[])],rfl,rfl,by simp[aL,aI,ai,an,aj],by simp[AV.aC,ag]⟩
 refine aa λK hK=>af rfl ?_;simp only[go_sem];refine hK _ ?_;clear hK K;have zero:∀z:Bool,n=0->cs=[]->fN P (aw []) kk (.seq (.seq (.region false [oM 3 (.mv (.t 0)),oM 4 (.iW (.ur false) [(.t 3),(.c (.d .cE))])] [])
  (.cond (.t 4) (.seq (.region false [oM 2 (.mv (.c (.d .cE)))] []) .ret) .skip))
  (.seq (.region false [oM 5 (.dp de 0 [] []),oM 6 (.mv (.t 0)),oM 7 (.app de bytes el (.t 5) (.t 6)),oM 2 (.mv (.t 7))] []) .ret)) ⟨[(0,.ui z),(2,.d .cE),(0,.d X)],[],0⟩ (mZ P #[.tmp 2] (aw []) λr m'=>r=.sl 0 de 0 n/\m'=[(0,cs.map .d)]):=by
  intro z hn b9;refine aa λK1 a8=>?_;refine aa λK hK=>af rfl ?_;simp only[go_sem,↓reduceIte,Bool.bne_false];refine hK _ ?_;clear hK;cases z
  ·refine bP false (by simp[ev,ah]) (λh=>nomatch h) (λ_=>?_);refine au ?_;refine a8 _ ?_;clear a8;subst hn b9;refine aa λK hK=>af rfl ?_;simp only[go_sem,↓reduceIte,adz,Nat.zero_le];refine hK _ ?_;clear hK;refine ak ?_;exact⟨.sl 0 de 0 0,by simp[bB,aV,bK,ah],[(0,0)],[(0,[])],rfl,rfl,by simp[aL,aI,ai,an,aj],by simp[AV.aC,ag]⟩
  ·refine bP true (by simp[ev,ah]) (λ_=>?_) (λh=>nomatch h);refine aa λK hK=>af rfl ?_;simp only[go_sem];refine hK _ ?_;clear hK;refine VO K1 _ _ hn b9 ?_;rfl
 rcases h.it with⟨rfl,rfl,rfl⟩|rfl
 ·refine aa λK1 a8=>?_;refine aa λK hK=>af rfl ?_;simp only[go_sem,↓reduceIte,Bool.not_false];refine hK _ ?_;clear hK;refine bP true (by simp[ev,ah]) (λ_=>?_) (λh=>nomatch h);refine aa λK hK=>af rfl ?_;simp only[go_sem];refine hK _ ?_;clear hK;refine VO K1 _ _ rfl rfl ?_;rfl
 ·by_cases hn:n=0
  ·subst hn;have b9:cs=[]:=adH (by have:=h.len;omega);subst b9;exact RV 0 rfl λz=>zero z rfl rfl
  ·have hl:=h.len;refine aa λK1 a8=>?_;refine aa λK hK=>af rfl ?_;simp only[go_sem,↓reduceIte,hn];refine hK _ ?_;clear hK;refine bP false (by simp[ev,ah]) (λh=>nomatch h) (λ_=>?_);refine au ?_;refine a8 _ ?_;clear a8;refine aa λK hK=>af rfl ?_;simp only[go_sem,↓reduceIte,hl,adz,hb,hn,adF];refine hK _ ?_;clear hK;refine ak ?_;exact⟨.sl 1 de 0 n,by simp[bB,aV,bK,ah],[(1,0)],[(0,cs.map .d)],rfl,rfl,by simp[aL,aI,ai,an,aB,-acU],by simp[AV.aC,ag]⟩
end Go.Jq
namespace Go.Proofs.YtjfdjkageiemkaaGreatDoor
open Go.Proofs.Tryz
open Go.Proofs.Tryz renaming prog → aM
section
open Go Go.Jq
theorem HI {l:List bz} {X:DV} (h:dM bz.cells l X) (hb:l.length<=1000000000000):
 bT aM 200 [.d X] [] λr m'=>r=.sl 0 7 0 l.length/\m'=[(0,(bH l).map .d)]:=
 je (de:=7) (bytes:=56) (el:=225) func200 OS ntmps200 rfl results200 (h.Yl qA) (by omega)
structure rU (d:l8) (v:Vm) (D:List DV):Prop where
 ok:v.ok
 yc:tm v.p
 prog:cP Ins.cells v.p.threads d.T
 steps:v.steps.length<=1000000000000
 it:∃S,D=iI d v++[S]/\dM bz.cells v.steps S
def Ym:Vm:=⟨⟨[],[],[]⟩,0,[pJ,pJ,pJ,pJ],[0,0,0,0],[0,0,0,0],[Mj,Mj,Mj,Mj],[]⟩
theorem Xj: [AV.d .cE,.d .cE,.d .cE,aq 0,aq 0,aq 0,aq 0,aq 0,aq 0,aq 0,aq 0,aq 0,aq 0,aq 0,aq 0,aq 0,aq 0,aq 0,aq 0,aq 0,aq 0,aq 0,aq 0,aq 0,aq 0,aq 0,aq 0,aq 0,aq 0,aq 0,aq 0,aq 0,aq 0,aq 0,aq 0,aq 0,aq 0,aq 0,aq 0,aq 0,aq 0,aq 0,aq 0,aq 0,aq 0,aq 0,aq 0,aq 0,aq 0,aq 0,aq 0,aq 0,aq 0,aq 0,aq 0,aq 0,aq 0,aq 0,aq 0,aq 0,aq 0,aq 0,aq 0,aq 0,aq 0,aq 0,aq 0,aq 0,aq 0,aq 0,aq 0,aq 0,aq 0,aq 0,aq 0,aq 0,aq 0,aq 0,aq 0,aq 0,aq 0,aq 0,aq 0,aq 0,aq 0,aq 0,aq 0,aq 0,aq 0,aq 0,aq 0,aq 0,aq 0,aq 0,aq 0,aq 0,aq 0,aq 0,aq 0,aq 0,aq 0,aq 0,aq 0,aq 0,aq 0,aq 0,aq 0,aq 0,aq 0,aq 0,aq 0,aq 0,aq 0,aq 0,aq 0,aq 0,aq 0,aq 0,aq 0,aq 0,aq 0,aq 0,aq 0,aq 0,aq 0,aq 0,aq 0,aq 0,aq 0,aq 0,aq 0,aq 0,aq 0,aq 0,aq 0,aq 0,aq 0,aq 0,aq 0,aq 0,aq 0,aq 0,aq 0,aq 0,aq 0,aq 0,aq 0,aq 0,aq 0,aq 0,aq 0,aq 0,aq 0,aq 0,aq 0,aq 0,aq 0,aq 0,aq 0,aq 0,aq 0,aq 0,aq 0,aq 0,aq 0,aq 0,aq 0,aq 0,aq 0,aq 0,aq 0,aq 0,aq 0,aq 0,aq 0,aq 0,aq 0,aq 0,aq 0,aq 0,aq 0,aq 0,aq 0,aq 0,aq 0,aq 0,aq 0,aq 0,aq 0,aq 0,aq 0,aq 0,aq 0,aq 0,aq 0,aq 0,aq 0,aq 0,aq 0,aq 0,aq 0,aq 0,aq 0,aq 0,aq 0,aq 0,aq 0,aq 0,aq 0,aq 0,aq 0,aq 0,aq 0,aq 0,aq 0,aq 0,aq 0,aq 0,aq 0,aq 0,aq 0,aq 0,aq 0,aq 0,aq 0,aq 0,aq 0,aq 0,aq 0,aq 0,aq 0,aq 0,aq 0,aq 0,aq 0,aq 0,aq 0,aq 0,aq 0,aq 0,aq 0,aq 0,aq 0,aq 0,aq 0,aq 0,aq 0,aq 0,aq 0,aq 0,aq 0,aq 0,aq 0,aq 0,aq 0,aq 0,aq 0,aq 0,aq 0,aq 0,aq 0,aq 0,aq 0,aq 0,aq 0,aq 0,aq 0,aq 0,aq 0,aq 0,aq 0,aq 0,aq 0,aq 0,aq 0,aq 0,aq 0,aq 0,aq 0,aq 0,aq 0,aq 0,aq 0,aq 0,aq 0,aq 0,aq 0,aq 0,aq 0,aq 0,aq 0,aq 0,aq 0,aq 0,aq 0,aq 0,aq 0,aq 0,aq 0,aq 0,aq 0,aq 0,aq 0,aq 0,aq 0,aq 0,aq 0,aq 0,aq 0,aq 0,aq 0,aq 0,aq 0,aq 0,aq 0,aq 0,aq 0,aq 0,aq 0,aq 0,aq 0,aq 0,aq 0,aq 0,aq 0,aq 0,aq 0,aq 0,.d .cE]=eG ⟨.cE,.cE,.cE⟩ Ym (.d .cE):=rfl
theorem oy:Ym.ok:=⟨rfl,λl hl=>by simp[Ym]at hl;subst hl;exact gM,rfl,rfl,rfl,λb hb=>by simp[Ym]at hb;subst hb;exact yz,λb hb e he=>by simp[Ym]at hb;subst hb;simp[Mj]at he⟩
theorem SE {d:l8} {v:Vm} {s:AV} {n:Nat}:o8 n (eG d v s)=eG d v s:=rfl
theorem SF {d:l8} {v:Vm} (h:v.ok) {s:AV} {cs:List AV} (hc:cs.length=329):putAt cs 0 (eG d v s)=eG d v s:=gZ (by rw[gr h,hc])
theorem P7 {d:l8} {v:Vm} (h:v.ok) {S:DV}:aP none (((iI d v++[S]).drop 328).map AV.d)=some (.d S):=by
 rw[List.map_drop,uY];exact ti h
theorem yI {d:l8} {v:Vm} {D:List DV} (h:rU d v D):bT aM 129 [.bj D] [] λr m'=>r=.ptr 0 0/\m'=o2 d v 1:=by
 obtain⟨b8,hg,hp,hs,S,rfl,hS⟩:=h;have kc:=HI hS hs;have hl:aP (some 329) ((iI d v++[S]).map AV.d)=some (.agg (eG d v (.d S))):=by
  rw[uY,ej,gr b8,if_pos (acV _),ac8 (Nat.le_of_eq (gr b8))]
 have ep:(eG d v (.d S)).all j9=true:=by rw[<-uY];exact eo _
 have r9:=gr (d:=d) (s:=.d S) b8;refine ay func129 Ox ntmps129 results129 rfl ?_;unfold UD;refine J λK hK=>?_;simp only[go_sem];refine hK _ (J λK hK=>?_);simp only[go_sem,hl,Xj,SE,r9,ep,gr oy,SF b8 (gr oy),ac2,acV];refine hK _ (J λK hK=>?_);simp only[go_sem,P7 b8];refine bt [] [.d S] [] (nb:=1000) (kc) (by simp[bC]) (by first|(simp[aj,AV.aC,ag];done)|simp[aj,AV.aC,ag,r9,jd b8,aw,adp,adq,ado]) (by first|(simp[bF,bE,ag];done)|simp[bF,bE,ag,r9,jd b8,aw,adp,adq,ado]) (by simp[handed,ag,ai,an,aB,aj,AV.aC,bF,bE,r9,jd b8,aw,adp,adq,ado]) rfl ?_;rintro r0 m' ⟨rfl,rfl⟩
 simp only[go_sem,bn,bL,bN,ai,an,aB,bX,ag,aj,bG,AV.aC,adj,adb,adg,adi,adm,ac5,r9,jd b8,aw,adp,adq,ado];refine hK _ (J λK hK=>?_);simp only[go_sem];apply hK;apply ak;exact⟨.ptr 0 0,by simp[bB,aV,bK,ah,ai,an,aB,o2,aT,bH],[(0,0),(1,1)],o2 d v 1,rfl,rfl,by simp[aL,aI,ai,an,aB,aj,AV.aC,ag,ae,-acU,o2,aT,bH],by simp[AV.aC,aj,ag,o2,aT,bH]⟩
theorem wM (b o n c:Nat) (xs:List Int) (cv:Int) (w:World) (hx:xs.length=n)
 (hc:∀i,i<n->w.cell? ⟨b,o+i,none⟩=some (.int .u8 (xs.getD i 0))):
 Calls aM 324 #[.slice (some ⟨b,o,none⟩) n c,.int .u8 cv] w λe w'=>e=.returned (.int .i64 (Lib.indexByte (Lib.bytesOf xs) cv.toNat.toUInt8))/\w'=w:=by
 go_enter func324,ntmps324
 go_wp2
 rw[run_callFunc_extern func332 (by kernel_rfl) (by kernel_rfl) (by kernel_rfl) (e:=Extern.BytealgIndexByte.indexByte) (by kernel_rfl),Lib.run_indexByteSlice w b o n c xs hx hc cv];simp only[Result.andThen];rw[Oper.upon_value]
 go_wp2
 go_ret
 exact⟨rfl,rfl⟩
def xm (X:DV) (s:List UInt8):Prop:=(X=.cE/\s=[])\/X=aR s
theorem kB (a:Option Addr) (c:Nat) (cv:Int) (w:World):
 Calls aM 324 #[.slice a 0 c,.int .u8 cv] w λe w'=>e=.returned (.int .i64 (-1))/\w'=w:=by
 have h:(Extern.BytealgIndexByte.indexByte #[.slice a 0 c,.int .u8 cv]).run aM w=.ok (.int .i64 (-1)) w:=by
  have hs:=Lib.run_indexByteString (P:=aM) .empty cv w;cases a with
  |none=>exact hs
  |some ad=>exact hs
 go_enter func324,ntmps324
 go_wp2
 rw[run_callFunc_extern func332 (by kernel_rfl) (by kernel_rfl) (by kernel_rfl) (e:=Extern.BytealgIndexByte.indexByte) (by kernel_rfl),h];simp only[Result.andThen];rw[Oper.upon_value]
 go_wp2
 go_ret
 exact⟨rfl,rfl⟩
theorem E9 (s:List UInt8):Lib.bytesOf (s.map λb=>(b.toNat:Int))=s:=by
 simp only[Lib.bytesOf,acU]
 conv=>rhs;rw[<-List.map_id s]
 exact List.map_congr_left λb _=>by simp
theorem yJ {X:DV} {s:List UInt8} (hX:xm X s) (cv:Int):Pure aM 324 [.d X,.d (.int .u8 cv)] (aq (Lib.indexByte s cv.toNat.toUInt8)):=by
 refine zM λc w vs hr=>?_;simp only[aU,Rel,du]at hr;obtain⟨v1,vs1,rfl,h1,v2,vs2,rfl,rfl,rfl⟩:=hr;have fin:∀r,(Calls aM 324 #[v1,.int .u8 cv] w λe w'=>e=.returned (.int .i64 r)/\w'=w)->r=Lib.indexByte s cv.toNat.toUInt8->
  Calls aM 324 #[v1,.int .u8 cv] w λe w'=>∃u,e=.returned u/\w'=w/\u=.int .i64 (Lib.indexByte s cv.toNat.toUInt8):=by
  rintro r h rfl;exact h.mono λe w' ⟨h1,h2⟩=>⟨_,h1,h2,rfl⟩
 rcases hX with⟨rfl,rfl⟩|rfl
 ·simp only[du]at h1;subst h1;exact fin (-1) (kB _ _ _ _) rfl
 ·simp only[aR,du]at h1;obtain⟨a,cap,rfl,hle,h1⟩:=h1;rcases h1 with⟨h0,h1⟩|⟨b,o,rfl,hb,h1⟩
  ·have:s=[]:=adH h0;subst this;exact fin (-1) (kB _ _ _ _) rfl
  ·have h2:=wM b o s.length cap (s.map λb=>(b.toNat:Int)) cv w (by simp) λi hi=>by
    obtain⟨u,hu,hr⟩:=c6.get h1 (i:=i) (c:=.int .u8 (s[i]).toNat) (by simp[hi]);simp only[du]at hr;rw[hu,hr];simp[hi]
   exact fin _ h2 (by rw[E9])
def bR (f:List Int):List DV:=f.map λx=>.int .i64 x
def A2 (f:List Int):AV:=.agg ((bR f).map .d)
def cQ (aE:List UInt8) (nt:Nat) (a:Atom) (f:List Int):Bool:=
 if a.eA=-1 then
  if 0<=a.loc/\a.loc<256/\0<=Lib.indexByte aE a.loc.toNat.toUInt8/\Lib.indexByte aE a.loc.toNat.toUInt8<4 then
   decide (f.getD (16+(Lib.indexByte aE a.loc.toNat.toUInt8).toNat) 0=a.value)else false
 else if 0<=a.eA/\a.eA<nt/\a.eA<4/\0<=a.dF/\a.dF<4 then
  decide (f.getD (a.eA.toNat*4+a.dF.toNat) 0=a.value)else false
theorem Lg {L I T:DV} {aE:List UInt8} {nt:Nat} (hL:xm L aE) (hT:ir (.d T)=some nt) (a:Atom) {f:List Int} (hf:f.length=20):
 Pure aM 293 [.agg [.d L,.d I,.d T],.agg (a.cells.map .d),A2 f] (.d (.bool (cQ aE nt a f))):=by
 have qM:∀i,i<20->(f.map λx=>aq x)[i]?=some (aq (f.getD i 0)):=λi hi=>by
  rw[List.getElem?_map,adl];have:i<f.length:=by omega
  simp[this]
 have hlen:(f.map λx=>aq x).length=20:=by simp[hf]
 have ck:(bR f).map AV.d=f.map λx=>aq x:=by simp[bR]
 unfold A2;rw[ck];generalize hF:(f.map λx=>aq x)=F at qM hlen;refine ay func293 Oa ntmps293 results293 rfl ?_;unfold Uq;refine aa λK hK=>af rfl ?_;simp only[go_sem,↓reduceIte,Atom.cells];refine hK _ ?_;clear hK;refine aa λK hK=>?_;refine aa λK hK=>af rfl ?_;simp only[go_sem,↓reduceIte];refine hK _ ?_;clear hK;by_cases h1:a.eA=-1
 ·refine bP true (by simp[ev,ah,h1]) (λ_=>?_) (λh=>nomatch h);refine aa λK hK=>af rfl ?_;simp only[go_sem,↓reduceIte];refine hK _ ?_;clear hK;have fin:∀(t:Fr) (b:Bool),ah t 6=.d (.bool b)->b=cQ aE nt a f->∀(m:Mem) (n:Nat) (Q:Exit->St->Prop),(∀S,mZ aM #[.tmp 6] 0 (λr m'=>r=.d (.bool (cQ aE nt a f))/\m'=[]) .ret S->Q .ret S)->fN aM (aw []) 73 .ret ⟨t,m,n⟩ Q:=by
   intro t b ht hb m n Q hQ;refine ak (hQ _ ?_);refine aD (.d (.bool b)) (by simp[bB,aV,bK,ht]) rfl ⟨by rw[hb],rfl⟩
  refine aa λK1 a8=>?_;by_cases h2:0<=a.loc
  ·by_cases h3:a.loc<256
   ·have hb:IntKind.u8.wrap a.loc=a.loc:=wrap_u8 h2 (by omega);refine aa λK hK=>af rfl ?_;simp only[go_sem,↓reduceIte,h2,h3,decide_true];refine hK _ ?_;clear hK;refine bP true (by simp[ev,ah]) (λ_=>?_) (λh=>nomatch h);refine af rfl ?_;simp only[go_sem,↓reduceIte,hb];refine aF (yJ hL a.loc) rfl rfl ?_;simp only[go_sem,↓reduceIte];refine a8 _ ?_;clear a8;generalize hr:Lib.indexByte aE a.loc.toNat.toUInt8=r;by_cases h4:0<=r
    ·by_cases h5:r<4
     ·refine aa λK hK=>az rfl rfl ?_;simp only[go_sem,↓reduceIte,h4,h5,decide_true,List.getElem?_drop,qM (16+r.toNat) (by omega)];refine⟨rfl,hK _ ?_⟩;clear hK;refine fin _ _ rfl ?_ _ _ _ λS h=>h;simp only[cQ,h1,h2,h3,hr,h4,h5,and_self,if_true]
     ·refine aa λK hK=>az rfl rfl ?_;simp only[go_sem,↓reduceIte,h4,h5,decide_true,decide_false];refine⟨rfl,hK _ ?_⟩;clear hK;refine fin _ _ rfl ?_ _ _ _ λS h=>h;simp[cQ,h1,h2,h3,hr,h4,h5]
    ·refine aa λK hK=>az rfl rfl ?_;simp only[go_sem,↓reduceIte,h4,decide_true,decide_false];refine⟨rfl,hK _ ?_⟩;clear hK;refine fin _ _ rfl ?_ _ _ _ λS h=>h;simp[cQ,h1,h2,h3,hr,h4]
   ·refine aa λK hK=>af rfl ?_;simp only[go_sem,↓reduceIte,h2,h3,decide_true,decide_false];refine hK _ ?_;clear hK;refine bP false (by simp[ev,ah]) (λh=>nomatch h) (λ_=>?_);refine au ?_;refine a8 _ ?_;clear a8;refine aa λK hK=>az rfl rfl ?_;simp only[go_sem,↓reduceIte,decide_true,decide_false,show decide ((0:Int)<=-1)=false from rfl];refine⟨rfl,hK _ ?_⟩;clear hK;refine fin _ _ rfl ?_ _ _ _ λS h=>h;simp[cQ,h1,h2,h3]
  ·refine aa λK hK=>af rfl ?_;simp only[go_sem,↓reduceIte,h2,decide_false];refine hK _ ?_;clear hK;refine bP false (by simp[ev,ah]) (λh=>nomatch h) (λ_=>?_);refine au ?_;refine a8 _ ?_;clear a8;refine aa λK hK=>az rfl rfl ?_;simp only[go_sem,↓reduceIte,decide_true,decide_false,show decide ((0:Int)<=-1)=false from rfl];refine⟨rfl,hK _ ?_⟩;clear hK;refine fin _ _ rfl ?_ _ _ _ λS h=>h;simp[cQ,h1,h2]
 ·refine bP false (by simp[ev,ah,h1]) (λh=>nomatch h) (λ_=>?_);refine au ?_;refine hK _ ?_;clear hK;refine aa λK hK=>?_;have hm:(if(4:Int)<(nt:Int)then(4:Int)else nt)=min 4 (nt:Int):=by omega
  have fin:∀S:St,ah S.t 61=.d (.bool true)->cQ aE nt a f=false->fN aM (aw []) 73 (.cond (.t 61) (.seq (.region false [⟨(some 6),.mv (.c (.d (.bool false))),none⟩] []) .ret) .skip) S (Exit.iy K (mZ aM #[.tmp 6] (aw []) λr m'=>r=.d (.bool (cQ aE nt a f))/\m'=[])):=by
   rintro⟨t,m,n⟩ ht hb;refine bP true (by simp[ev,ah,ht]) (λ_=>?_) (λh=>nomatch h);refine aa λK hK=>af (by simp[aw]) ?_;simp only[go_sem,↓reduceIte];refine hK _ ?_;clear hK;refine ak ?_;simp only[go_sem];refine aD _ rfl rfl ⟨?_,rfl⟩;simp only[ah,↓reduceIte,hb]
  by_cases h2:a.eA<0
  ·refine aa λK hK=>af rfl ?_;simp only[go_sem,↓reduceIte,h2,decide_true];refine hK _ ?_;clear hK;refine fin _ rfl ?_;have:¬0<=a.eA:=by omega
   simp[cQ,h1,this]
  ·by_cases h3:min 4 (nt:Int)<=a.eA
   ·refine aa λK hK=>af rfl ?_;simp only[go_sem,↓reduceIte,h2,decide_false,hT,hm,h3,decide_true];refine hK _ ?_;clear hK;refine fin _ rfl ?_;have:¬(a.eA<nt/\a.eA<4):=by omega
    simp only[cQ,h1,if_false];rw[if_neg (by omega)]
   ·by_cases h4:a.dF<0
    ·refine aa λK hK=>af rfl ?_;simp only[go_sem,↓reduceIte,h2,decide_false,hT,hm,h3,decide_true,h4];refine hK _ ?_;clear hK;refine fin _ rfl ?_;simp only[cQ,h1,if_false];rw[if_neg (by omega)]
    ·by_cases h5:4<=a.dF
     ·refine aa λK hK=>af rfl ?_;simp only[go_sem,↓reduceIte,h2,decide_false,hT,hm,h3,decide_true,h4,h5];refine hK _ ?_;clear hK;refine fin _ rfl ?_;simp only[cQ,h1,if_false];rw[if_neg (by omega)]
     ·refine aa λK hK=>af rfl ?_;simp only[go_sem,↓reduceIte,h2,decide_false,hT,hm,h3,decide_true,h4,h5];refine hK _ ?_;clear hK;refine bP false (by simp[ev,ah]) (λh=>nomatch h) (λ_=>?_);refine au ?_;refine hK _ ?_;clear hK;have h6:0<=a.eA:=by omega
      have h7:a.eA<4:=by omega
      have h8:0<=a.dF:=by omega
      have h9:a.dF<4:=by omega
      refine aa λK hK=>az rfl rfl ?_;simp only[go_sem,↓reduceIte,h6,h7,h8,h9,List.getElem?_drop,qM (a.eA.toNat*4+a.dF.toNat) (by omega)];refine⟨rfl,hK _ ?_⟩;clear hK;refine ak ?_;simp only[go_sem];refine aD _ rfl rfl ⟨?_,rfl⟩;simp only[ah,↓reduceIte,Nat.reduceEqDiff,cQ,h1,if_false];rw[if_pos ⟨h6,by omega,h7,h8,h9⟩]
theorem yK {d:l8} {v:Vm} (h:v.ok) (hp:tm v.p) (hT:cP Ins.cells v.p.threads d.T) (VL:v.steps.length<=1000000000000) {i:Int} (hb:og v.enabled i=true):
 bT aM 130 [.ptr 0 0,aq i] (o2 d v 1) λr m'=>r=.cu [.agg ((cB v i).2.1.cells.map .d),.d (.bool true)]/\m'=o2 d (cB v i).1 2:=by
 have:=yH (d:=d) h hp hT VL i;have h1:eE d v i=o2 d (cB v i).1 2:=by unfold eE;rw[hb];rfl
 have h2:(cB v i).2.2=true:=by rw[fL,hb];rfl
 rw[h1,h2]at this;exact this
theorem CH {d:l8} {v:Vm} (h:v.ok) (hp:tm v.p) (hT:cP Ins.cells v.p.threads d.T) (VL:v.steps.length<=1000000000000) {i:Int} (hb:og v.enabled i=false):
 bT aM 130 [.ptr 0 0,aq i] (o2 d v 1) λr m'=>r=.cu [.agg (cp.cells.map .d),.d (.bool false)]/\m'=o2 d v 1:=by
 have:=yH (d:=d) h hp hT VL i;have h1:eE d v i=o2 d v 1:=by unfold eE;rw[hb];rfl
 have h2:cB v i=(v,cp,false):=by rw[fL,hb];rfl
 rw[h1,h2]at this;exact this
theorem Fa {d:l8} {v:Vm} {D:List DV} (h:rU d v D) (i:Int):Pure aM 205 [.bj D,aq i] (.cu [.agg ((cB v i).2.1.cells.map .d),.d (.bool (cB v i).2.2)]):=by
 have k1:=yI h;refine ay func205 OX ntmps205 results205 rfl ?_;unfold UX;refine J λK hK=>?_;simp only[go_sem];refine hK _ (J λK hK=>?_);simp only[go_sem];refine bt [] [.bj D] [] (nb:=1000) (k1) (by simp[bC]) (by first|(simp[aj,AV.aC,ag];done)|simp[aj,AV.aC,ag,o2,aw,adp,adq,ado,aT]) (by first|(simp[bF,bE,ag];done)|simp[bF,bE,ag,o2,aw,adp,adq,ado,aT]) (by simp[handed,ag,ai,an,aB,aj,AV.aC,bF,bE,o2,aw,adp,adq,ado,aT]) rfl ?_;rintro r0 m' ⟨rfl,rfl⟩;simp only[go_sem,bn,bL,bN,ai,an,aB,bX,ag,aj,bG,AV.aC,adj,adb,adg,adi,adm,ac5,o2,aw,adp,adq,ado,aT];cases hb:og v.enabled i
 ·have h2:cB v i=(v,cp,false):=by rw[fL,hb];rfl
  have k2:=CH (d:=d) h.ok h.yc h.prog h.steps hb;unfold o2 at k2;refine bt [(0,1),(1,2)] [.ptr 0 0,aq i] [(0,eG d v (.sl 1 7 0 v.steps.length)),(1,(bH v.steps).map .d)] (nb:=1000) (k2) (by simp[bC]) (by first|(simp[aj,AV.aC,ag];done)|simp[aj,AV.aC,ag,aT,cS,ag,bz.cells]) (by first|(simp[bF,bE,ag];done)|simp[bF,bE,ag,aT,cS,ag,bz.cells]) (by simp[handed,ag,ai,an,aB,aj,AV.aC,bF,bE,aT,cS,ag,bz.cells]) rfl ?_;rintro r0 m' ⟨rfl,rfl⟩;simp only[go_sem,bn,bL,bN,ai,an,aB,bX,ag,aj,bG,AV.aC,adj,adb,adg,adi,adm,ac5,aT,cS,ag,bz.cells];apply hK;apply ak
  exact⟨.cu [.agg ((cB v i).2.1.cells.map .d),.d (.bool (cB v i).2.2)],by simp[bB,aV,bK,ah,ai,an,aB,h2,dN,cp,bz.cells,aP],[],[],rfl,rfl,by simp[aL,aI,ai,an,aB,aj,AV.aC,ag,ae,-acU,h2,dN,cp,bz.cells,aP],by simp[AV.aC,aj,ag,h2,dN,cp,bz.cells,aP]⟩
 ·have h2:(cB v i).2.2=true:=by rw[fL,hb];rfl
  have k2:=yK (d:=d) h.ok h.yc h.prog h.steps hb;unfold o2 at k2;generalize VN:cB v i=pv at k2 h2;obtain⟨v',s',b'⟩:=pv;simp only at h2 k2;subst h2;refine bt [(0,1),(1,2)] [.ptr 0 0,aq i] [(0,eG d v (.sl 1 7 0 v.steps.length)),(1,(bH v.steps).map .d)] (nb:=1000) (k2) (by simp[bC]) (by first|(simp[aj,AV.aC,ag];done)|simp[aj,AV.aC,ag,aT,cS,ag,bz.cells]) (by first|(simp[bF,bE,ag];done)|simp[bF,bE,ag,aT,cS,ag,bz.cells]) (by simp[handed,ag,ai,an,aB,aj,AV.aC,bF,bE,aT,cS,ag,bz.cells]) rfl ?_;rintro r0 m' ⟨rfl,rfl⟩
  simp only[go_sem,bn,bL,bN,ai,an,aB,bX,ag,aj,bG,AV.aC,adj,adb,adg,adi,adm,ac5,aT,cS,ag,bz.cells];apply hK;apply ak;exact⟨.cu [.agg (s'.cells.map .d),.d (.bool true)],by simp[bB,aV,bK,ah,ai,an,aB,dN,bz.cells,aP,VN],[],[],rfl,rfl,by simp[aL,aI,ai,an,aB,aj,AV.aC,ag,ae,-acU,dN,bz.cells,aP,VN],by simp[AV.aC,aj,ag,dN,bz.cells,aP,VN]⟩
theorem Lh {d:l8} {v:Vm} {S:DV} (h:v.ok) (hT:cP Ins.cells v.p.threads d.T):Pure aM 120 [.bj (iI d v++[S])] (.d (.bool v.done)):=by
 have k:=ll (d:=d) (S:=S) h hT;refine ay func120 Ol ntmps120 results120 rfl ?_;unfold Uv;refine J λK hK=>?_;simp only[go_sem];refine hK _ (J λK hK=>?_);simp only[go_sem];refine aY (k) ?_;simp only[go_sem];apply hK;apply ak;simp only[go_sem];refine aD _ rfl rfl ⟨?_,rfl⟩;simp[ah,Vm.done]
theorem z1 {d:l8} {v:Vm} {S:DV} (h:v.ok) (hp:tm v.p) (hT:cP Ins.cells v.p.threads d.T) (t:Int):Pure aM 258 [.bj (iI d v++[S]),aq t] (.d (.bool (cW v t))):=by
 refine ay func258 Pk ntmps258 results258 rfl ?_;unfold Vj;refine J λK hK=>?_;simp only[go_sem];apply hK;refine aa λK1 a8=>?_;by_cases h0:t<0
 ·refine J λK hK=>?_;simp only[go_sem,eq_true h0,decide_true];apply hK;refine aN ?_;refine J λK hK=>?_;simp only[go_sem];apply hK;apply ak;exact⟨.d (.bool (cW v t)),by simp[bB,aV,bK,ah,ai,an,aB,cW,show¬(0<=t/\t<4) by omega],[],[],rfl,rfl,by simp[aL,aI,ai,an,aB,aj,AV.aC,ag,ae,-acU,cW,show¬(0<=t/\t<4) by omega],by simp[AV.aC,aj,ag,cW,show¬(0<=t/\t<4) by omega]⟩
 by_cases h4:4<=t
 ·refine J λK hK=>?_;simp only[go_sem,eq_false h0,eq_true h4,decide_true,decide_false];apply hK;refine aN ?_;refine J λK hK=>?_;simp only[go_sem];apply hK;apply ak;exact⟨.d (.bool (cW v t)),by simp[bB,aV,bK,ah,ai,an,aB,cW,show¬(0<=t/\t<4) by omega],[],[],rfl,rfl,by simp[aL,aI,ai,an,aB,aj,AV.aC,ag,ae,-acU,cW,show¬(0<=t/\t<4) by omega],by simp[AV.aC,aj,ag,cW,show¬(0<=t/\t<4) by omega]⟩
 obtain⟨q,rfl⟩:∃q:Nat,t=q:=⟨t.toNat,by omega⟩;have PY:q<4:=by omega
 have HH:(q:Int)<4:=by omega
 have kn:=qy (L:=d.L) (I:=d.I) hT q (ov h q);have hl:=yD (d:=d) (S:=S) h PY;have hg:=Cy (d:=d) (S:=S) h PY;have Li:cW v q=match dt v.p q (v.lc q)with
  |none=>false
  |some i=>decide (i.kind=2)&&((v.bf q).lR i.loc).isSome:=by unfold cW;rw[if_pos ⟨by omega,HH⟩];rfl
 refine J λK hK=>?_;simp only[go_sem,eq_false h0,eq_false h4,decide_false];apply hK;refine aK ?_;apply au;apply a8;refine aa λK hK=>az rfl rfl ?_;simp only[go_sem,ac3,Jy h,acX,HH,acW,hl];refine bY kn (by simp[bF,bE]) (by simp[dv,bF,bE]) ?_;cases hn:dt v.p q (v.lc q)with
 |none=>
  rw[hn]at Li;simp only at Li;simp only[go_sem,dv,Option.getD_none,adb,fg,Ins.cells];refine⟨rfl,hK _ ?_⟩;refine aa λK2 fx=>?_;refine J λK hK=>?_;simp only[go_sem];apply hK;refine aN ?_;refine J λK hK=>?_;simp only[go_sem];apply hK;apply ak;exact⟨.d (.bool false),by simp[bB,aV,bK,ah,ai,an,aB,Li],[],[],rfl,rfl,by simp[aL,aI,ai,an,aB,aj,AV.aC,ag,ae,-acU,Li],by simp[AV.aC,aj,ag,Li]⟩
 |some i=>
  rw[hn]at Li;simp only at Li;have kw:=vW (rR h q) i.loc;simp only[go_sem,dv,adE,adj,Ins.cells];refine⟨rfl,hK _ ?_⟩;refine aa λK2 fx=>?_;by_cases h2:i.kind=2
  ·refine J λK hK=>?_;simp only[go_sem,eq_true h2,decide_true,Bool.not_true];apply hK;refine aK ?_;apply au;apply fx;refine aa λK hK=>az rfl rfl ?_;simp only[go_sem,acX,HH,acW,hg];refine bY kw (by simp[bF,bE]) (by simp[mu,bF,bE]) ?_;simp only[go_sem,mu];refine⟨rfl,hK _ ?_⟩;refine J λK hK=>?_;simp only[go_sem];apply hK;apply ak;exact⟨.d (.bool (cW v q)),by simp[bB,aV,bK,ah,ai,an,aB,Li,h2],[],[],rfl,rfl,by simp[aL,aI,ai,an,aB,aj,AV.aC,ag,ae,-acU,Li,h2],by simp[AV.aC,aj,ag,Li,h2]⟩
  ·refine J λK hK=>?_;simp only[go_sem,eq_false h2,decide_false,Bool.not_false];apply hK;refine aN ?_;refine J λK hK=>?_;simp only[go_sem];apply hK;apply ak;exact⟨.d (.bool (cW v q)),by simp[bB,aV,bK,ah,ai,an,aB,Li,h2],[],[],rfl,rfl,by simp[aL,aI,ai,an,aB,aj,AV.aC,ag,ae,-acU,Li,h2],by simp[AV.aC,aj,ag,Li,h2]⟩
theorem A3:∀(a b:List DV),a.map AV.d=b.map AV.d->a=b
 | [],[],_=>rfl
 | [],_::_,h=>by cases h
 |_::_,[],h=>by cases h
 |x::a,y::b,h=>by
  simp only[ade,List.cons.injEq,AV.d.injEq]at h;rw[h.1,A3 a b h.2]
theorem SG {d:l8} {v:Vm} {S:DV} (h:v.ok) {t:Nat} (ht:t<4):aP (some 4) (((((iI d v++[S]).drop 4).drop (t*5)).drop 1).map AV.d)=some (.agg (((v.lc t).jl.map (DV.int .i64)).map .d)):=by
 have h1:=yD (d:=d) (S:=S) h ht;have hl:(v.lc t).jl.length=4:=ov h t;rw[ej]at h1⊢;split at h1
 ·rename_i hle;simp only[adh,AV.agg.injEq]at h1;rw[acY]at hle;rw[if_pos (by rw[acY,List.length_drop];omega)]
  congr 2
  rw[<-List.map_take]at h1⊢;have h2:((List.drop (t*5) (List.drop 4 (iI d v++[S]))).take 5)=(v.lc t).cells:=A3 _ _ h1;have h3:=congrArg (λl=>l.drop 1) h2;simp only[List.drop_take]at h3;rw[h3];rfl
 ·cases h1
theorem SH {d:l8} {v:Vm} {S:DV} (h:v.ok):aP (some 4) (((iI d v++[S]).drop 24).map AV.d)=some (.agg ((v.mem.map (DV.int .i64)).map .d)):=by
 have hl:=h.mem;have e:(iI d v++[S]).drop 24=v.mem.map (DV.int .i64)++((v.src.flatMap i1++(v.dU.flatMap Bf.cells++[]))++[S]):=by
  rw[xj,List.append_assoc,List.drop_append,tg h,List.drop_of_length_le (by rw[tg h];exact acV _),adF,Nat.sub_self,ac3,List.append_assoc]
  congr 1
  generalize v.mem=l;induction l with
  |nil=>rfl
  |cons x l ih=>rw[adr,ih];rfl
 rw[e,ej,if_pos (by simp[hl]),adC,List.take_append,acY,acY,hl,Nat.sub_self,List.take_zero,List.append_nil,ac8 (by simp[hl])]
def oV (v:Vm) (j:Nat):List Int:=(ac7 20).map λk=>if k<j*4 then(v.lc (k/4)).jl.getD (k%4) 0 else 0
theorem yL (v:Vm):oV v 0=ada 20 0:=by
 unfold oV;simp only[Nat.zero_mul,Nat.not_lt_zero,if_false];rfl
theorem u3 (v:Vm) (j:Nat):(oV v j).length=20:=by simp[oV]
theorem four {l:List Int} (h:l.length=4):l=[l.getD 0 0,l.getD 1 0,l.getD 2 0,l.getD 3 0]:=by
 match l,h with
 | [a,b,c,e],_=>rfl
theorem Lj {v:Vm} (h:v.ok) {j:Nat} (hj:j<4):putAt ((bR (oV v j)).map AV.d) (j*4) (((v.lc j).jl.map (DV.int .i64)).map .d)=(bR (oV v (j+1))).map AV.d:=by
 have hl:(v.lc j).jl.length=4:=ov h j;have h4:=four hl;rw[h4];rcases(show j=0\/j=1\/j=2\/j=3 by omega)with rfl|rfl|rfl|rfl<;>rfl
theorem Lk {v:Vm} (h:v.ok):putAt ((bR (oV v 4)).map AV.d) 16 ((v.mem.map (DV.int .i64)).map .d)=(bR v.final).map AV.d:=by
 have hm:=four h.mem;have hl:=h.locals;have hv:v.final=v.locals.flatMap (·.jl)++v.mem:=rfl;have hr:∀t,(v.lc t).jl=[(v.lc t).jl.getD 0 0,(v.lc t).jl.getD 1 0,(v.lc t).jl.getD 2 0,(v.lc t).jl.getD 3 0]:=λt=>four (ov h t);have hls:v.locals=[v.lc 0,v.lc 1,v.lc 2,v.lc 3]:=by
  unfold Vm.lc
  match v.locals,hl with
  | [a,b,c,e],_=>rfl
 rw[hv]
 conv=>rhs;rw[hls]
 simp only[adr,List.flatMap_nil,List.append_nil];rw[hr 0,hr 1,hr 2,hr 3,hm];rfl
theorem fa:o4 aM 102=some (some 20):=by kernel_rfl
theorem nx: [aq 0,aq 0,aq 0,aq 0,aq 0,aq 0,aq 0,aq 0,aq 0,aq 0,aq 0,aq 0,aq 0,aq 0,aq 0,aq 0,aq 0,aq 0,aq 0,aq 0]=(bR (ada 20 0)).map AV.d:=rfl
theorem ln {f:List Int} {n:Nat} (h:f≠ []):o8 n ((bR f).map AV.d)=(bR f).map AV.d:=by
 cases f with
 |nil=>exact absurd rfl h
 |cons x l=>rfl
theorem u4 {v:Vm} (h:v.ok):v.final.length=20:=by
 have hls:v.locals=[v.lc 0,v.lc 1,v.lc 2,v.lc 3]:=by
  have hl:=h.locals;unfold Vm.lc
  match v.locals,hl with
  | [a,b,c,e],_=>rfl
 have hr:∀t,(v.lc t).jl.length=4:=λt=>ov h t;unfold Vm.final;rw[hls];simp[h.mem,hr]
theorem HJ {d:l8} {v:Vm} {S:DV} (h:v.ok):Pure aM 121 [.bj (iI d v++[S])] (.agg ((bR v.final).map .d)):=by
 have hz:((bR (ada 20 0)).map AV.d).length=20:=rfl;have Yn:(bR (ada 20 0)).length=20:=rfl;have qZ:=u4 h;have P8:((bR v.final).map AV.d).length=20:=by simp[bR,qZ]
 have Xk:(bR v.final).length=20:=by simp[bR,qZ]
 refine ay func121 Om ntmps121 results121 rfl ?_;unfold Uw;refine J λK hK=>?_;simp only[go_sem,nx,ln (show ada 20 (0:Int)≠ [] by simp)];refine hK _ (J λK hK=>?_);simp only[go_sem,nx,ln (show ada 20 (0:Int)≠ [] by simp)];apply hK;refine aa λKE fK=>?_;refine J λK hK=>?_;simp only[go_sem];apply hK;apply aA;refine ax (S':=⟨[(5,aq (0:Nat)),(0,.bj (iI d v++[S])),(2,.ptr 0 0),(3,.ptr 1 0)],[(0,(bR (ada 20 0)).map .d),(1,(bR (oV v 0)).map .d)],2⟩) (aH.cN [(0,0),(1,1)] ⟨by simp[bm,ah,AV.aC,aj,ag,yL],by simp[aL,aI,ai,an,aj,AV.aC,ag,ae,-acU,yL],rfl,rfl⟩) ?_
 refine bM (λj=>⟨[(5,aq (j:Nat)),(0,.bj (iI d v++[S])),(2,.ptr 0 0),(3,.ptr 1 0)],[(0,(bR (ada 20 0)).map .d),(1,(bR (oV v j)).map .d)],2⟩) 4 ?_;intro j hj;unfold IZ;have hfu:((bR (oV v j)).map AV.d).length=20:=by simp[bR,u3]
 by_cases bd:j<4
 ·have aQ:(j:Int)<4:=by omega
  have hw:=c8 (i:=j) (by omega);have hg:=SG (d:=d) (S:=S) h bd;have nH:(v.lc j).jl.length=4:=ov h j;have Xl:(bR (oV v j)).length=20:=by simp[bR,u3]
  have hpp:=Lj h bd;have ep:(((v.lc j).jl.map (DV.int .i64)).map AV.d).all j9=true:=eo _;have hle:j*4+4<=20:=by omega
  refine J λK hK=>?_;simp only[go_sem,aQ];apply hK;refine aa λK1 a8=>?_;refine aN ?_;apply au;apply a8;refine aa λK1 a8=>?_;apply aA;refine J λK hK=>?_;simp only[go_sem];apply hK;refine af rfl ?_;simp only[go_sem,acX,aQ,acW,hg,acY,nH,ep,Xl,hle,hpp,ac2];apply a8;refine af rfl ?_;simp only[go_sem,hw];exact⟨bd,(aH.cN [(0,0),(1,1)] ⟨by simp[bm,ah,AV.aC,aj,ag],by simp[aL,aI,ai,an,aj,AV.aC,ag,ae,-acU],rfl,rfl⟩)⟩
 ·have dh:j=4:=by omega
  subst dh;have Xl:(bR (oV v 4)).length=20:=by simp[bR,u3]
  have Ml:=Lk h;have ep:((v.mem.map (DV.int .i64)).map AV.d).all j9=true:=eo _;have aaj:((bR v.final).map AV.d).all j9=true:=eo _;have BF:putAt ((bR (ada 20 0)).map AV.d) 0 ((bR v.final).map AV.d)=(bR v.final).map AV.d:=gZ (by rw[P8];rfl);have vM:aP (some 20) ((bR v.final).map AV.d)=some (.agg ((bR v.final).map .d)):=by
   rw[ej,P8,if_pos (acV _),ac8 (Nat.le_of_eq P8)]
  refine J λK hK=>?_;simp only[go_sem];apply hK;refine aa λK1 a8=>?_;refine aK ?_;apply aZ;show KE _;refine fK _ (J λK hK=>?_);simp only[go_sem,SH h,acY,h.mem,ep,Xl,Ml,ac2];refine hK _ (J λK hK=>?_);simp only[go_sem,ac3,vM,acY,Xk,aaj,Yn,BF,ac2,acV];apply hK;apply ak;exact⟨.agg ((bR v.final).map .d),by simp[bB,aV,bK,ah,ai,an,aB,fa,vM],[],[],rfl,rfl,by simp[aL,aI,ai,an,aB,aj,AV.aC,ag,ae,-acU,fa,vM],by simp[AV.aC,aj,ag,fa,vM]⟩
theorem eB (s:bz) (m:Int):Pure aM 261 [.agg (s.cells.map .d),aq m] (.d (.bool (eU s m))):=by
 refine ay func261 Pn ntmps261 results261 rfl ?_;unfold Vn;refine J λK hK=>?_;simp only[go_sem,bz.cells];refine hK _ (J λK hK=>?_);simp only[go_sem]
 repeat' (first
  |(refine dx (λhb=>?_) (λhb=>?_)<;>simp only[go_sem,hb])
  |(refine dd (λhb=>?_) (λhb=>?_)<;>simp only[go_sem,hb])
  |(rw[if_pos (by(try simp only[adk,ads,adz,acY]);omega)];simp only[go_sem]))
 all_goals(apply hK;clear hK;apply ak;simp only[go_sem];refine aD _ rfl rfl ⟨?_,rfl⟩;simp_all [ah,eU])
theorem wa (s:bz):Pure aM 264 [.agg (s.cells.map .d)] (.d (.bool (uL s))):=by
 refine ay func264 Pq ntmps264 results264 rfl ?_;unfold Vq;refine J λK hK=>?_;simp only[go_sem,bz.cells];refine hK _ (J λK hK=>?_);simp only[go_sem]
 repeat' (first
  |(refine dx (λhb=>?_) (λhb=>?_)<;>simp only[go_sem,hb])
  |(refine dd (λhb=>?_) (λhb=>?_)<;>simp only[go_sem,hb])
  |(rw[if_pos (by(try simp only[adk,ads,adz,acY]);omega)];simp only[go_sem]))
 all_goals(apply hK;clear hK;apply ak;simp only[go_sem];refine aD _ rfl rfl ⟨?_,rfl⟩;simp_all [ah,uL])
theorem oz (s:bz):Pure aM 262 [.agg (s.cells.map .d)] (.d (.bool (qv s))):=by
 refine ay func262 Po ntmps262 results262 rfl ?_;unfold Vo;refine J λK hK=>?_;simp only[go_sem,bz.cells];refine hK _ (J λK hK=>?_);simp only[go_sem]
 repeat' (first
  |(refine dx (λhb=>?_) (λhb=>?_)<;>simp only[go_sem,hb])
  |(refine dd (λhb=>?_) (λhb=>?_)<;>simp only[go_sem,hb])
  |(rw[if_pos (by(try simp only[adk,ads,adz,acY]);omega)];simp only[go_sem]))
 all_goals(apply hK;clear hK;apply ak;simp only[go_sem];refine aD _ rfl rfl ⟨?_,rfl⟩;simp_all [ah,qv])
theorem tr (s:bz) (m:Int):Pure aM 310 [.agg (s.cells.map .d),aq m] (.d (.bool (sY s m))):=by
 have k1:=eB s m;have k2:=wa s;refine ay func310 PB ntmps310 results310 rfl ?_;unfold VB;refine J λK hK=>?_;simp only[go_sem,bz.cells];refine hK _ (J λK hK=>?_);simp only[go_sem]
 repeat' (first
  |(refine dx (λhb=>?_) (λhb=>?_)<;>simp only[go_sem,hb])
  |(refine dd (λhb=>?_) (λhb=>?_)<;>simp only[go_sem,hb])
  |(refine aF (k1) rfl rfl ?_;simp only[go_sem])
  |(refine bY (k1) rfl rfl ?_;simp only[go_sem])
  |(refine aF (k2) rfl rfl ?_;simp only[go_sem])
  |(refine bY (k2) rfl rfl ?_;simp only[go_sem])
  |(rw[if_pos (by(try simp only[adk,ads,adz,acY]);omega)];simp only[go_sem]))
 all_goals(apply hK;clear hK;apply ak;simp only[go_sem];refine aD _ rfl rfl ⟨?_,rfl⟩;simp_all [ah,sY])
theorem Fb {a b:Nat} (ha:a<18446744073709551616) (fu:b<18446744073709551616):Pure aM 212 [cX a,cX b] (.d (.bool (sZ a b))):=by
 have hand:=ml ha fu;refine ay func212 O4 ntmps212 results212 rfl ?_;unfold U4;refine J λK hK=>?_;simp only[go_sem];apply hK;by_cases h0:b=0
 ·subst h0;refine J λK hK=>?_;simp only[go_sem];apply hK;apply ak;simp only[go_sem];refine aD _ rfl rfl ⟨?_,rfl⟩;simp[ah,sZ]
 ·have K9:¬(b:Int)=0:=by omega
  refine J λK hK=>?_;simp only[go_sem,K9,decide_false,hand];apply hK;apply ak;simp only[go_sem];refine aD _ rfl rfl ⟨?_,rfl⟩;simp[ah,sZ,h0]
theorem Fc (a b:bz) (m:Int):Pure aM 271 [.agg (a.cells.map .d),.agg (b.cells.map .d),aq m] (.d (.bool (sX a b m))):=by
 have k1:=eB a m;have k2:=eB b m;refine ay func271 Px ntmps271 results271 rfl ?_;unfold Vx;refine J λK hK=>?_;simp only[go_sem,bz.cells];refine hK _ (J λK hK=>?_);simp only[go_sem]
 repeat' (first
  |(refine dx (λhb=>?_) (λhb=>?_)<;>simp only[go_sem,hb])
  |(refine dd (λhb=>?_) (λhb=>?_)<;>simp only[go_sem,hb])
  |(refine aF (k1) rfl rfl ?_;simp only[go_sem])
  |(refine bY (k1) rfl rfl ?_;simp only[go_sem])
  |(refine aF (k2) rfl rfl ?_;simp only[go_sem])
  |(refine bY (k2) rfl rfl ?_;simp only[go_sem])
  |(rw[if_pos (by(try simp only[adk,ads,adz,acY]);omega)];simp only[go_sem]))
 all_goals(apply hK;clear hK;apply ak;simp only[go_sem];refine aD _ rfl rfl ⟨?_,rfl⟩;simp_all [ah,sX])
theorem HK (a b:bz) (m:Int):Pure aM 259 [.agg (a.cells.map .d),.agg (b.cells.map .d),aq m] (.d (.bool (uM a b m))):=by
 have k1:=eB a m;have k2:=eB b m;have k3:=oz a;have k4:=oz b;have k5:=tr a m;have k6:=tr b m;refine ay func259 Pl ntmps259 results259 rfl ?_;unfold Vk;refine J λK hK=>?_;simp only[go_sem,bz.cells];apply hK;refine aa λKA Xg=>?_;by_cases h1:a.pick=b.pick
 ·refine J λK hK=>?_;simp only[go_sem,eq_true h1,decide_true];apply hK;refine aN ?_;refine J λK hK=>?_;simp only[go_sem];apply hK;apply ak;simp only[go_sem];refine aD _ rfl rfl ⟨?_,rfl⟩;simp[ah,uM,h1]
 ·refine J λK hK=>?_;simp only[go_sem,eq_false h1,decide_false];apply hK;refine aK ?_;apply au;apply Xg;refine aa λKB Xh=>?_;by_cases h2:a.t=b.t
  ·refine J λK hK=>?_;simp only[go_sem,eq_true h2,decide_true];apply hK;refine aN ?_;refine J λK hK=>?_;simp only[go_sem]
   repeat' (first
    |(refine dx (λhb=>?_) (λhb=>?_)<;>simp only[go_sem,hb])
    |(refine dd (λhb=>?_) (λhb=>?_)<;>simp only[go_sem,hb])
    |(refine aF (k3) rfl rfl ?_;simp only[go_sem])
    |(refine bY (k3) rfl rfl ?_;simp only[go_sem])
    |(refine aF (k4) rfl rfl ?_;simp only[go_sem])
    |(refine bY (k4) rfl rfl ?_;simp only[go_sem])
    |(rw[if_pos (by(try simp only[adk,ads,adz,acY]);omega)];simp only[go_sem]))
   all_goals(apply hK;clear hK;apply ak;simp only[go_sem];refine aD _ rfl rfl ⟨?_,rfl⟩;simp_all [ah,uM])
  ·refine J λK hK=>?_;simp only[go_sem,eq_false h2,decide_false];apply hK;refine aK ?_;apply au;refine Xh _ (J λK hK=>?_);simp only[go_sem]
   repeat' (first
    |(refine dx (λhb=>?_) (λhb=>?_)<;>simp only[go_sem,hb])
    |(refine dd (λhb=>?_) (λhb=>?_)<;>simp only[go_sem,hb])
    |(refine aF (k1) rfl rfl ?_;simp only[go_sem])
    |(refine bY (k1) rfl rfl ?_;simp only[go_sem])
    |(refine aF (k2) rfl rfl ?_;simp only[go_sem])
    |(refine bY (k2) rfl rfl ?_;simp only[go_sem])
    |(refine aF (k5) rfl rfl ?_;simp only[go_sem])
    |(refine bY (k5) rfl rfl ?_;simp only[go_sem])
    |(refine aF (k6) rfl rfl ?_;simp only[go_sem])
    |(refine bY (k6) rfl rfl ?_;simp only[go_sem])
    |(rw[if_pos (by(try simp only[adk,ads,adz,acY]);omega)];simp only[go_sem]))
   all_goals(apply hK;clear hK;apply ak;simp only[go_sem];refine aD _ rfl rfl ⟨?_,rfl⟩;simp_all [ah,uM])
theorem ny {steps:List bz} {X:DV} (h:dM bz.cells steps X) {i:Nat} (hi:i<steps.length):
 ∃cs rest,X=.sl steps.length cs/\cs.drop (i*7)=(steps.getD i cp).cells++rest/\i*7<cs.length:=by
 obtain⟨cs,rest,h1,h2,h3⟩:=h.at qA (by omega) i hi;refine⟨cs,rest,h1,?_,h3⟩;rw[h2,adl,ac6 hi];rfl
theorem tu {α:Type} (q:α->Bool):∀(l:List α) (pre:List α),fI (λi=>((pre++l)[i]?.map q).getD false) l.length pre.length=match l.findIdx? q with
  |none=>-1
  |some i=>((pre.length+i:Nat):Int)
 | [],pre=>rfl
 |a::l,pre=>by
  rw[ads,fI];have h0:(pre++a::l)[pre.length]?=some a:=by rw[List.getElem?_append_right (acV _),Nat.sub_self];rfl
  rw[h0,List.findIdx?_cons];simp only[ady,adE];by_cases hq:q a=true;·rw[if_pos hq,if_pos hq];simp
  ·rw[if_neg hq,if_neg hq];have ih:=tu q l (pre++[a]);rw[List.append_assoc,List.singleton_append,adk]at ih;simp only[ads,adz,ac2]at ih;rw[ih];cases l.findIdx? q with
   |none=>rfl
   |some i=>simp only[ady];congr 1;omega
theorem Fe (s:bz) (store:Int):Pure aM 329 [.agg (s.cells.map .d),.bj [.int .i64 store]] (.d (.bool (decide (s.kind=6)&&decide (s.src=store)))):=by
 refine ay func329 PG ntmps329 results329 rfl ?_;unfold VF;refine J λK hK=>?_;simp only[go_sem,bz.cells];apply hK;by_cases h:s.kind=6
 ·refine J λK hK=>?_;simp only[go_sem,eq_true h,decide_true];apply hK;apply ak;simp only[go_sem];refine aD _ rfl rfl ⟨?_,rfl⟩;simp[ah,h]
 ·refine J λK hK=>?_;simp only[go_sem,eq_false h,decide_false];apply hK;apply ak;simp only[go_sem];refine aD _ rfl rfl ⟨?_,rfl⟩;simp[ah,h]
theorem Ll {steps:List bz} {X:DV} (hX:dM bz.cells steps X) (m:Int) {store:Nat} (hs:store<steps.length):
 Pure aM 312 [.d X,aq m,aq store] (aq (lU steps m store)):=by
 have SI:Pure aM 328 [.d X,.fn 329 [.bj [.int .i64 store]]] _:=ja func328 PF ntmps328 rfl results328
  (qp (k:=7) qA (by omega) hX) (by kernel_rfl) rfl (λi hi=>by simp[uH,hi,bE,sO]) (p:=λi=>(steps[i]?.map λs=>decide (s.kind=6)&&decide (s.src=(store:Int))).getD false)
  (λi hi=>by simp only[uH,ac6 hi,ady,adE];exact Fe _ _)
 have P8:=tu (λs:bz=>decide (s.kind=6)&&decide (s.src=(store:Int))) steps [];simp only[adF,adz,ac2]at P8;rw[P8]at SI;have kw:=eB (steps.getD store cp) m;obtain⟨cs,rest,iq,bU,b9⟩:=ny hX hs;have DR:(store:Int)<steps.length:=by omega
 refine ay func312 PD ntmps312 results312 rfl ?_;unfold VD;refine J λK hK=>?_;simp only[go_sem];apply hK;refine ax (aH.jn (S':=⟨[(0,.d X),(1,aq m),(5,.bj [.int .i64 store])],[],0⟩) [] [(0,[.int .i64 store])] ⟨by simp[fO,ah,AV.cv,dn,bI,ag],by simp[gd,aI,bI,ai,an,aB,dn,AV.cv,ag,cF,ba,-acU],rfl,rfl,by simp[bD,bI,ai,an,aB,dn,AV.cv,cF,ba,-acU]⟩) ?_;refine aa λK1 a8=>?_;refine J λK hK=>?_;simp only[go_sem,iq,acX,DR,acW,b9,bU,bz.cells];refine aY (kw) ?_;simp only[go_sem];apply hK;cases hb:eU (steps.getD store cp) m
 ·have hc:lU steps m store=match steps.findIdx? (λs=>decide (s.kind=6)&&decide (s.src=(store:Int)))with
   |none=>-1
   |some i=>((i:Nat):Int):=by
   unfold lU;rw[if_neg (by rw[hb];simp)];cases steps.findIdx? (λs=>decide (s.kind=6)&&decide (s.src=(store:Int)))<;>rfl
  rw[<-hc]at SI;rw[iq]at SI;refine aK ?_ (by simp[ev,ah,hb]);apply au;refine a8 _ (J λK hK=>?_);simp only[go_sem];refine aF SI (by simp[bF,bE]) rfl ?_;simp only[go_sem];apply hK;apply ak;exact⟨aq (lU steps m store),by simp[bB,aV,bK,ah,ai,an,aB],[],[],rfl,rfl,by simp[aL,aI,ai,an,aB,aj,AV.aC,ag,ae,-acU],by simp[AV.aC,aj,ag]⟩
 ·have hc:lU steps m store=store:=by unfold lU;rw[if_pos hb]
  refine aN ?_ (by simp[ev,ah,hb]);refine J λK hK=>?_;simp only[go_sem];apply hK;apply ak;exact⟨aq (lU steps m store),by simp[bB,aV,bK,ah,ai,an,aB,hc],[],[],rfl,rfl,by simp[aL,aI,ai,an,aB,aj,AV.aC,ag,ae,-acU,hc],by simp[AV.aC,aj,ag,hc]⟩
theorem Lm {steps:List bz} {m:Int} {i:Nat} {r:Rl} (h:r.ok) (k:Nat):(om steps m i r k).ok:=by
 unfold om;split;·exact rL h _ _
 ·exact h
def iS (steps:List bz) (m:Int) (i:Nat) (r:Rl) (a j:Nat):Rl:=(List.range' a j).foldl (om steps m i) r
theorem wb (steps:List bz) (m:Int) (i:Nat) (r:Rl) (a j:Nat):iS steps m i r a (j+1)=om steps m i (iS steps m i r a j) (a+j):=by
 unfold iS;rw[List.range'_1_concat,List.foldl_append];rfl
theorem Ff (steps:List bz) (m:Int) (i:Nat) (r:Rl) (a:Nat):iS steps m i r a 0=r:=rfl
theorem qC {steps:List bz} {m:Int} {i:Nat} {r:Rl} (h:r.ok) (a:Nat):∀j,(iS steps m i r a j).ok
 |0=>h
 |j+1=>by rw[wb];exact Lm (qC h a j) _
def wN (X:DV) (m:Int) (i:Nat) (r:Rl) (s:bz) (k:Nat):St:=
 ⟨[(11,aq k),(1,.d X),(2,aq m),(3,aq i),(4,.ptr 0 0),(8,.ptr 1 0),(9,.ptr 2 0)],[(0,r.cells.map .d),(1,(ff 0).cells.map .d),(2,s.cells.map .d)],3⟩
theorem SJ {steps:List bz} {X:DV} (hX:dM bz.cells steps X) (fw:steps.length<=1000000000000) (m:Int) {i:Nat} (hi:i<steps.length) {r:Rl} (h:r.ok) {a:Nat} (ha:a<=steps.length) {Q:Exit->St->Prop}
 (hQ:Q (.exit 0) (wN X m i (iS steps m i r a (steps.length-a)) (steps.getD i cp) steps.length)):
 fN aM (aw []) 81 (.loop Ce) (wN X m i (iS steps m i r a 0) (steps.getD i cp) a) Q:=by
 have hlen:=hX.len;refine bM (λj=>wN X m i (iS steps m i r a j) (steps.getD i cp) (a+j)) (steps.length-a) ?_;intro j hj;have ho:=qC (steps:=steps) (m:=m) (i:=i) h a j;unfold Ce;by_cases bd:j<steps.length-a
 ·have aQ:((a+j:Nat):Int)<steps.length:=by omega
  have b0:=wb steps m i r a j;generalize iS steps m i r a j=q at ho b0;generalize hk:a+j=k at aQ b0;have Ku:a+(j+1)=k+1:=by omega
  have hw:=c8 (i:=k) (by omega);obtain⟨cs,rest,iq,bU,b9⟩:=ny hX (i:=k) (by omega);have kw:=eB (steps.getD k cp) m;have ka:=ym ho i k;have hl:=bu ho;have xa:=rL ho i k;have VP:om steps m i q k=if !decide (k=i)&&eU (steps.getD k cp) m&&decide ((steps.getD k cp).loc=(steps.getD i cp).loc)then q.add i k else q:=rfl
  rw[VP]at b0;generalize steps.getD k cp=b at bU kw b0;generalize Gu:steps.getD i cp=si at b0;have VQ:(k:Int)<steps.length:=aQ;unfold wN;refine aa λK1 a8=>?_;refine J λK hK=>?_;simp only[go_sem,hlen,VQ,hk];apply hK;refine aN ?_;apply au;apply a8;refine aa λK1 a8=>?_;have no:∀q':Rl,iS steps m i r a (j+1)=q'->∀(f:Fr) (n:Nat),ah f 11=aq k->ah f 1=.d X->ah f 2=aq m->ah f 3=aq i->ah f 4=.ptr 0 0->ah f 8=.ptr 1 0->ah f 9=.ptr 2 0->
   ∀M,M=[(0,q'.cells.map .d),(1,(ff 0).cells.map .d),(2,si.cells.map .d)]->K1 ⟨f,M,n⟩:=by
   intro q' he f n g11 g1 g2 g3 g4 g8 g9 M hM;subst hM;apply a8;refine af (by simp[aw]) ?_;simp only[go_sem,g11,hw];refine⟨bd,aH.cN [(0,0),(1,1),(2,2)] ⟨?_,?_,rfl,rfl⟩⟩;·simp[bm,ah,AV.aC,ag,Ku,g1,g2,g3,g4,g8,g9]
   ·simp[aL,aI,ai,he,-acU]
  apply aA;by_cases hki:k=i
  ·have Xm:(k:Int)=i:=by omega
   refine aa λK hK=>az rfl rfl ?_;simp only[go_sem,eq_true Xm,decide_true,Bool.not_true];refine⟨rfl,hK _ ?_⟩;refine aK ?_;apply au;simp only[go_sem];refine no _ (by rw[b0,if_neg (by simp[hki])]) _ _ rfl rfl rfl rfl rfl rfl rfl _ rfl
  ·have Xm:¬(k:Int)=i:=by omega
   refine aa λK hK=>az rfl rfl ?_;simp only[go_sem,eq_false Xm,decide_false,Bool.not_false,iq,acX,VQ,acW,b9,bU,bz.cells];refine ea (kw) ?_;simp only[go_sem];cases hb:eU b m
   ·simp only[go_sem];refine⟨rfl,hK _ ?_⟩;refine aK ?_;apply au;simp only[go_sem];refine no _ (by rw[b0,hb];simp) _ _ rfl ?_ rfl rfl rfl rfl rfl _ rfl;rw[iq];rfl
   ·by_cases wL:b.loc=si.loc
    ·simp only[go_sem,iq,acX,VQ,acW,b9,bU,bz.cells,eq_true wL,decide_true];refine⟨rfl,hK _ ?_⟩;refine aN ?_;refine af rfl ?_;simp only[go_sem,ac3,b6 ho];refine aY (ka) ?_;simp only[go_sem,bu xa,cG xa,dJ,bu ho,cG ho,eY xa (bu ho),ac2,acV];refine no _ (by rw[b0,hb];simp[hki,wL]) _ _ rfl ?_ rfl rfl rfl rfl rfl _ rfl;rw[iq];rfl
    ·simp only[go_sem,iq,acX,VQ,acW,b9,bU,bz.cells,eq_false wL,decide_false];refine⟨rfl,hK _ ?_⟩;refine aK ?_;apply au;simp only[go_sem];refine no _ (by rw[b0,hb];simp[wL]) _ _ rfl ?_ rfl rfl rfl rfl rfl _ rfl;rw[iq];rfl
 ·have dh:j=steps.length-a:=by omega
  subst dh;have hk:a+(steps.length-a)=steps.length:=by omega
  rw[hk];have aQ:¬(steps.length:Int)<steps.length:=by omega
  unfold wN;refine aa λK1 a8=>?_;refine J λK hK=>?_;simp only[go_sem,hlen,aQ];apply hK;refine aK ?_;refine ax (S':=wN X m i (iS steps m i r a (steps.length-a)) (steps.getD i cp) steps.length) (aH.cN [(0,0),(1,1),(2,2)] ⟨by simp[bm,ah,AV.aC,aj,ag,wN],by simp[aL,aI,ai,an,aj,AV.aC,ag,ae,-acU,wN],rfl,rfl⟩) ?_;exact aZ hQ
theorem pR {steps:List bz} {m:Int} {i:Nat} {r:Rl} (h:r.ok):(iB r steps m i).ok:=by
 unfold iB;simp only;split
 ·split;·exact h
  ·refine qC ?_ _ _;split;·exact h
   ·exact rL h _ _
 ·exact qC h _ _
theorem HL {steps:List bz} {m:Int} {store:Nat} (hs:store<steps.length):lU steps m store<steps.length:=by
 unfold lU;split;·omega
 ·split
  ·rename_i j hj;rw[List.findIdx?_eq_some_iff_getElem]at hj;have:=hj.1;omega
  ·omega
theorem P9 (s:bz):aP (some 7) (s.cells.map AV.d)=some (.agg (s.cells.map .d)):=rfl
theorem CI {steps:List bz} {X:DV} (hX:dM bz.cells steps X) (fw:steps.length<=1000000000000) (m:Int) {i:Nat} (hi:i<steps.length) {r:Rl} (h:r.ok):
 Pure aM 265 [.agg (r.cells.map .d),.d X,aq m,aq i] (.agg ((iB r steps m i).cells.map .d)):=by
 have hlen:=hX.len;obtain⟨cs,rest,iq,bU,b9⟩:=ny hX hi;have gb:(i:Int)<steps.length:=by omega
 have h0:(ff 0).ok:=fh 0;have ck:=pR (steps:=steps) (m:=m) (i:=i) h;have uq:iB r steps m i=if 0<=(steps.getD i cp).src/\(steps.getD i cp).src<steps.length then
  (if lU steps m (steps.getD i cp).src.toNat<0 then r else
   iS steps m i (if(steps.getD (steps.getD i cp).src.toNat cp).t=(steps.getD i cp).t then r else r.add (lU steps m (steps.getD i cp).src.toNat) i) ((lU steps m (steps.getD i cp).src.toNat).toNat+1) (steps.length-((lU steps m (steps.getD i cp).src.toNat).toNat+1)))
  else iS steps m i r 0 steps.length:=rfl
 have VR:=λ(r1:Rl) (h1:r1.ok) (a:Nat) (ha:a<=steps.length) (Q:Exit->St->Prop)=>SJ hX fw m hi (r:=r1) h1 (a:=a) ha (Q:=Q);generalize Gu:steps.getD i cp=si at bU uq VR;refine ay func265 Pr ntmps265 results265 rfl ?_;unfold Vr;refine J λK hK=>?_;simp only[go_sem,ky,ig];refine hK _ (J λK hK=>?_);simp only[go_sem,iq,acX,gb,acW,b9,bU,bz.cells];refine hK _ (J λK hK=>?_);simp only[go_sem];apply hK
 refine ax (S':=⟨[(1,.d X),(2,aq m),(3,aq i),(4,.ptr 0 0),(8,.ptr 1 0),(9,.ptr 2 0),(10,aq (-1))],[(0,r.cells.map .d),(1,(ff 0).cells.map .d),(2,si.cells.map .d)],3⟩) (aH.cN [(0,0),(1,1),(2,2)] ⟨by simp[bm,ah,AV.aC,aj,ag,bz.cells,iq],by simp[aL,aI,ai,an,aj,AV.aC,ag,ae,-acU,bz.cells,iq],rfl,rfl⟩) ?_;refine aa λKE fK=>?_;have tail:∀(r1:Rl) (c:Int) (a:Nat),r1.ok->c+1=a->a<=steps.length->iB r steps m i=iS steps m i r1 a (steps.length-a)->∀(f:Fr) (n:Nat),ah f 1=.d X->ah f 2=aq m->ah f 3=aq i->ah f 4=.ptr 0 0->ah f 8=.ptr 1 0->ah f 9=.ptr 2 0->ah f 10=aq c->
  ∀M,M=[(0,r1.cells.map .d),(1,(ff 0).cells.map .d),(2,si.cells.map .d)]->KE ⟨f,M,n⟩:=by
  intro r1 c a h1 hca ha he f n g1 g2 g3 g4 g8 g9 g10 M hM;subst hM;have hw:ac9.wrap (c+1)=(a:Int):=by rw[hca,wrap_i64 (by omega) (by omega)]
  apply fK;refine aa λKL hKL=>?_;refine aa λK hK=>af (by simp[aw]) ?_;simp only[go_sem,g10,hw];apply hK;apply aA;refine ax (S':=wN X m i (iS steps m i r1 a 0) si a) (aH.cN [(0,0),(1,1),(2,2)] ⟨by simp[wN,bm,ah,AV.aC,ag,g1,g2,g3,g4,g8,g9],by simp[wN,aL,aI,ai,Ff,-acU],rfl,rfl⟩) ?_;refine VR r1 h1 a ha _ ?_;rw[<-he];simp only[go_sem];apply hKL;unfold wN;refine J λK hK=>?_;simp only[go_sem,ac3,b6 ck,bu ck,cG ck,dJ,eY ck (bu h0),bu h0,cG h0,ac2,acV];apply hK;apply ak
  exact⟨.agg ((iB r steps m i).cells.map .d),by simp[bB,aV,bK,ah,ai,an,aB,fk,b6 ck],[],[],rfl,rfl,by simp[aL,aI,ai,an,aB,aj,AV.aC,ag,ae,-acU,fk,b6 ck],by simp[AV.aC,aj,ag,fk,b6 ck]⟩
 by_cases Xn:0<=si.src
 ·by_cases SK:si.src<steps.length
  ·obtain⟨q,hq⟩:∃q:Nat,si.src=q:=⟨si.src.toNat,by omega⟩;rw[hq]at Xn SK uq;simp only[acW]at uq;rw[if_pos ⟨Xn,SK⟩]at uq;have hql:q<steps.length:=by omega
   have kc:=Ll hX m hql;have ic:=HL (steps:=steps) (m:=m) hql;obtain⟨R8,JA,SL,CJ,aak⟩:=ny hX hql;generalize lU steps m q=c at kc uq ic;refine J λK hK=>?_;simp only[go_sem,bz.cells,hq,eq_true Xn,hlen,eq_true SK,decide_true];apply hK;refine aN ?_;refine aa λKC hKC=>?_;refine J λK hK=>?_;simp only[go_sem,bz.cells,hq];refine aY (kc) ?_;simp only[go_sem];apply hK;by_cases hc:c<0
   ·rw[if_pos hc]at uq;rw[uq]at ck⊢;refine J λK hK=>?_;simp only[go_sem,eq_true hc,decide_true];apply hK;refine aN ?_;refine J λK hK=>?_;simp only[go_sem,ac3,b6 ck,bu ck,cG ck,dJ,eY ck (bu h0),bu h0,cG h0,ac2,acV];apply hK;apply ak;exact⟨.agg (r.cells.map .d),by simp[bB,aV,bK,ah,ai,an,aB,fk,b6 ck],[],[],rfl,rfl,by simp[aL,aI,ai,an,aB,aj,AV.aC,ag,ae,-acU,fk,b6 ck],by simp[AV.aC,aj,ag,fk,b6 ck]⟩
   ·rw[if_neg hc]at uq;refine J λK hK=>?_;simp only[go_sem,eq_false hc,decide_false];apply hK;refine aK ?_;apply au;apply hKC;have kad:=ym h c i;have xa:=rL h c i;by_cases ht:(steps.getD q cp).t=si.t
    ·rw[if_pos ht]at uq;refine aa λK hK=>az rfl rfl ?_;simp only[go_sem,bz.cells,hq,SL,Xn,SK,acX,acW,aak,CJ,eq_true ht,decide_true,Bool.not_true];refine⟨rfl,hK _ ?_⟩;refine aK ?_;apply au;simp only[go_sem];refine tail r c (c.toNat+1) h (by omega) (by omega) uq _ _ ?_ rfl rfl rfl rfl rfl rfl _ ?_;·rw[SL];rfl
     ·simp[bz.cells,hq]
    ·rw[if_neg ht]at uq;refine aa λK hK=>az rfl rfl ?_;simp only[go_sem,bz.cells,hq,SL,Xn,SK,acX,acW,aak,CJ,eq_false ht,decide_false,Bool.not_false];refine⟨rfl,hK _ ?_⟩;refine aN ?_;refine af rfl ?_;simp only[go_sem,ac3,b6 h];refine aY (kad) ?_;simp only[go_sem,bu xa,cG xa,dJ,bu h,cG h,eY xa (bu h),ac2,acV];refine tail (r.add c i) c (c.toNat+1) xa (by omega) (by omega) uq _ _ ?_ rfl rfl rfl rfl rfl rfl _ ?_;·rw[SL];rfl
     ·simp[bz.cells,hq]
  ·rw[if_neg (by omega)]at uq;refine J λK hK=>?_;simp only[go_sem,bz.cells,eq_true Xn,hlen,eq_false SK,decide_true,decide_false];apply hK;refine aK ?_;apply au;simp only[go_sem];refine tail r (-1) 0 h (by omega) (by omega) uq _ _ rfl rfl rfl rfl rfl rfl rfl _ ?_;simp[bz.cells]
 ·rw[if_neg (by omega)]at uq;refine J λK hK=>?_;simp only[go_sem,bz.cells,eq_false Xn,decide_false];apply hK;refine aK ?_;apply au;simp only[go_sem];refine tail r (-1) 0 h (by omega) (by omega) uq _ _ rfl rfl rfl rfl rfl rfl rfl _ ?_;simp[bz.cells]
def HM (a b:bz) (m:Int) (i:Nat):Bool:=
 decide (a.pick=b.pick)||(eU a m&&eU b m&&decide (a.loc=b.loc))||(decide (b.kind=6)&&decide (b.src=(i:Int)))||(decide (a.kind=6)&&decide (a.t=b.t)&&qv b)
theorem CK (steps:List bz) (m:Int) (i:Nat) (r:Rl) (k:Nat):PJ steps m i r k=if HM (steps.getD i cp) (steps.getD k cp) m i then r.add i k else r:=rfl
theorem SN {steps:List bz} {m:Int} {i:Nat} {r:Rl} (h:r.ok) (k:Nat):(PJ steps m i r k).ok:=by
 rw[CK];split;·exact rL h _ _
 ·exact h
def qQ (steps:List bz) (m:Int) (i:Nat) (r:Rl) (j:Nat):Rl:=(List.range' (i+1) j).foldl (PJ steps m i) r
theorem A4 (steps:List bz) (m:Int) (i:Nat) (r:Rl) (j:Nat):qQ steps m i r (j+1)=PJ steps m i (qQ steps m i r j) (i+1+j):=by
 unfold qQ;rw[List.range'_1_concat,List.foldl_append];rfl
theorem A5 (steps:List bz) (m:Int) (i:Nat) (r:Rl):qQ steps m i r 0=r:=rfl
theorem tv {steps:List bz} {m:Int} {i:Nat} {r:Rl} (h:r.ok):∀j,(qQ steps m i r j).ok
 |0=>h
 |j+1=>by rw[A4];exact SN (tv h j) _
def Mm (X:DV) (n:Nat) (m:Int) (i:Nat) (r:Rl) (a:bz) (k:Nat):St:=
 ⟨[(8,aq k),(0,.d X),(1,aq m),(6,aq i),(4,.ptr 0 0),(5,.ptr 1 0),(7,.ptr 2 0),(18,.d X),(19,aq n),(20,aq i)],[(0,(ff 0).cells.map .d),(1,r.cells.map .d),(2,a.cells.map .d)],3⟩
theorem aal {steps:List bz} {X:DV} (hX:dM bz.cells steps X) (fw:steps.length<=1000000000000) (m:Int) {i:Nat} (hi:i<steps.length) {r:Rl} (h:r.ok) {Q:Exit->St->Prop}
 (hQ:Q (.exit 2) (Mm X steps.length m i (qQ steps m i r (steps.length-(i+1))) (steps.getD i cp) steps.length)):
 fN aM (aw []) 101 (.loop Cc) (Mm X steps.length m i (qQ steps m i r 0) (steps.getD i cp) (i+1)) Q:=by
 have hlen:=hX.len;refine bM (λj=>Mm X steps.length m i (qQ steps m i r j) (steps.getD i cp) (i+1+j)) (steps.length-(i+1)) ?_;intro j hj;have ho:=tv (steps:=steps) (m:=m) (i:=i) h j;unfold Cc;by_cases bd:j<steps.length-(i+1)
 ·have aQ:((i+1+j:Nat):Int)<steps.length:=by omega
  have b0:=A4 steps m i r j;rw[CK]at b0;generalize qQ steps m i r j=q at ho b0;have Ku:i+1+(j+1)=(i+1+j)+1:=by omega
  generalize hk:i+1+j=k at aQ b0 Ku;have hw:=c8 (i:=k) (by omega);obtain⟨cs,rest,iq,bU,b9⟩:=ny hX (i:=k) (by omega);generalize steps.getD i cp=a at b0;generalize steps.getD k cp=b at bU b0;have kwa:=eB a m;have kwb:=eB b m;have kfb:=oz b;have kad:=ym ho i k;have xa:=rL ho i k;unfold Mm;refine aa λK1 a8=>?_;refine J λK hK=>?_;simp only[go_sem,hlen,aQ];apply hK;refine aN ?_;apply au;apply a8;refine aa λK1 a8=>?_
  have back:∀q':Rl,qQ steps m i r (j+1)=q'->∀(f:Fr) (n:Nat) (bc:List AV),ah f 8=aq k->ah f 0=.d X->ah f 1=aq m->ah f 6=aq i->ah f 4=.ptr 0 0->ah f 5=.ptr 1 0->ah f 7=.ptr 2 0->ah f 18=.d X->ah f 19=aq steps.length->ah f 20=aq i->
   ∀M,M=[(0,(ff 0).cells.map .d),(1,q'.cells.map .d),(2,a.cells.map .d),(3,bc)]->K1 ⟨f,M,n⟩:=by
   intro q' he f n bc g8 g0 g1 g6 g4 g5 g7 g18 g19 g20 M hM;subst hM;apply a8;refine af (by simp[aw]) ?_;simp only[go_sem,g8,hw];refine⟨bd,aH.cN [(0,0),(1,1),(2,2)] ⟨?_,?_,rfl,rfl⟩⟩;·simp[bm,ah,AV.aC,ag,Ku,g0,g1,g6,g4,g5,g7,g18,g19,g20]
   ·simp[aL,aI,ai,he,-acU]
  apply aA;refine J λK hK=>?_;simp only[go_sem,iq,acX,aQ,acW,b9,bU,bz.cells];apply hK;refine aa λKC hKC=>?_;have last:∀(cb:Bool),cb=HM a b m i->∀(f:Fr) (n:Nat),ah f 86=.d (.bool cb)->ah f 8=aq k->ah f 0=.d X->ah f 1=aq m->ah f 6=aq i->ah f 4=.ptr 0 0->ah f 5=.ptr 1 0->ah f 7=.ptr 2 0->ah f 18=.d X->ah f 19=aq steps.length->ah f 20=aq i->
   ∀M,M=[(0,(ff 0).cells.map .d),(1,q.cells.map .d),(2,a.cells.map .d),(3,b.cells.map .d)]->∀Q2:Exit->St->Prop,(∀S,K1 S->Q2 .normal S)->
   fN aM (aw []) 101 (.cond (.t 86) (.region false [oM 87 (.load (some 65) (.t 5)),oM 88 (.mv (.t 6)),oM 89 (.mv (.t 8)),oM 90 (.bW 263 [.t 87,.t 88,.t 89]),⟨none,.store 65 (.t 5) (.t 90),none⟩] []) .skip) ⟨f,M,n⟩ Q2:=by
   intro cb hcb f n g86 g8 g0 g1 g6 g4 g5 g7 g18 g19 g20 M hM Q2 VM;subst hM;rw[<-hcb]at b0;cases cb
   ·refine aK ?_ (by simp[ev,g86]);refine au (VM _ (back q (by rw[b0];rfl) _ _ _ g8 g0 g1 g6 g4 g5 g7 g18 g19 g20 _ rfl))
   ·refine aN ?_ (by simp[ev,g86]);refine af (by simp[aw]) ?_;simp only[go_sem,g5,g6,g8,ac3,b6 ho];refine aY (kad) ?_;simp only[go_sem,g5,bu xa,cG xa,dJ,bu ho,cG ho,eY xa (bu ho),ac2,acV];refine VM _ (back (q.add i k) (by rw[b0];rfl) _ _ _ ?_ ?_ ?_ ?_ ?_ ?_ ?_ ?_ ?_ ?_ _ rfl)<;>simp[ah,g8,g0,g1,g6,g4,g5,g7,g18,g19,g20]
  have mid:∀(bo:Bool),bo=(eU a m&&eU b m&&decide (a.loc=b.loc))->∀(f:Fr) (n:Nat),ah f 10=.d (.bool bo)->ah f 9=.ptr 3 0->ah f 8=aq k->ah f 0=.d X->ah f 1=aq m->ah f 6=aq i->ah f 4=.ptr 0 0->ah f 5=.ptr 1 0->ah f 7=.ptr 2 0->ah f 18=.d X->ah f 19=aq steps.length->ah f 20=aq i->
   ∀M,M=[(0,(ff 0).cells.map .d),(1,q.cells.map .d),(2,a.cells.map .d),(3,b.cells.map .d)]->KC ⟨f,M,n⟩:=by
   intro bo hbo f n g10 g9 g8 g0 g1 g6 g4 g5 g7 g18 g19 g20 M hM;subst hM;apply hKC;refine aa λK hK=>af (by simp[aw]) ?_;simp only[go_sem,g10,g9,g7,g6,bz.cells]
   repeat' (first
    |(refine dx (λhb=>?_) (λhb=>?_)<;>simp only[go_sem,hb,g10,g9,g7,g6,bz.cells])
    |(refine dd (λhb=>?_) (λhb=>?_)<;>simp only[go_sem,hb,g10,g9,g7,g6,bz.cells])
    |(refine aF (kfb) rfl rfl ?_;simp only[go_sem,g10,g9,g7,g6,bz.cells])
    |(refine bY (kfb) rfl rfl ?_;simp only[go_sem,g10,g9,g7,g6,bz.cells])
    |(rw[if_pos (by(try simp only[adk,ads,adz,acY]);omega)];simp only[go_sem,g10,g9,g7,g6,bz.cells]))
   all_goals(apply hK;clear hK;refine last _ ?_ _ _ rfl ?_ ?_ ?_ ?_ ?_ ?_ ?_ ?_ ?_ ?_ _ ?_ _ (λS h=>h))
   all_goals first
    |(simp[ah,g8,g0,g1,g6,g4,g5,g7,g18,g19,g20];done)
    |(simp[bz.cells];done)
    |(simp_all [HM];done)
  refine af rfl ?_;simp only[go_sem,bz.cells]
  repeat' (first
   |(refine dx (λhb=>?_) (λhb=>?_)<;>simp only[go_sem,hb,bz.cells])
   |(refine dd (λhb=>?_) (λhb=>?_)<;>simp only[go_sem,hb,bz.cells])
   |(refine aF (kwa) rfl rfl ?_;simp only[go_sem,bz.cells])
   |(refine bY (kwa) rfl rfl ?_;simp only[go_sem,bz.cells])
   |(refine aF (kwb) rfl rfl ?_;simp only[go_sem,bz.cells])
   |(refine bY (kwb) rfl rfl ?_;simp only[go_sem,bz.cells])
   |(rw[if_pos (by(try simp only[adk,ads,adz,acY]);omega)];simp only[go_sem,bz.cells]))
  all_goals(refine mid _ ?_ _ _ rfl rfl rfl ?_ rfl rfl rfl rfl rfl ?_ rfl rfl _ ?_)
  all_goals first
   |(rw[iq];rfl)
   |(simp[bz.cells];done)
   |(simp_all;done)
 ·have dh:j=steps.length-(i+1):=by omega
  subst dh;have hk:i+1+(steps.length-(i+1))=steps.length:=by omega
  rw[hk];have aQ:¬(steps.length:Int)<steps.length:=by omega
  unfold Mm;refine aa λK1 a8=>?_;refine J λK hK=>?_;simp only[go_sem,hlen,aQ];apply hK;refine aK ?_;refine ax (S':=Mm X steps.length m i (qQ steps m i r (steps.length-(i+1))) (steps.getD i cp) steps.length) (aH.cN [(0,0),(1,1),(2,2)] ⟨by simp[bm,ah,AV.aC,aj,ag,Mm],by simp[aL,aI,ai,an,aj,AV.aC,ag,ae,-acU,Mm],rfl,rfl⟩) ?_;exact aZ hQ
theorem yM (steps:List bz) (m:Int) (r:Rl) (i:Nat):AN steps m r i=if uL (steps.getD i cp)then iB (qQ steps m i r (steps.length-(i+1))) steps m i else qQ steps m i r (steps.length-(i+1)):=rfl
theorem Qa {steps:List bz} {m:Int} {r:Rl} (h:r.ok) (i:Nat):(AN steps m r i).ok:=by
 rw[yM];split;·exact pR (tv h _)
 ·exact tv h _
def pS (steps:List bz) (m:Int) (j:Nat):Rl:=(ac7 j).foldl (AN steps m) (ff steps.length)
theorem yN (steps:List bz) (m:Int) (j:Nat):pS steps m (j+1)=AN steps m (pS steps m j) j:=dG _ _ _
theorem yO (steps:List bz) (m:Int):pS steps m 0=ff steps.length:=rfl
theorem tw (steps:List bz) (m:Int):∀j,(pS steps m j).ok
 |0=>fh _
 |j+1=>by rw[yN];exact Qa (tw steps m j) j
theorem CL (steps:List bz) (m:Int):Hp steps m=if 64<steps.length then ff 0 else(pS steps m steps.length).W1:=rfl
theorem Qb (steps:List bz) (m:Int):(Hp steps m).ok:=by
 rw[CL];split;·exact fh _
 ·exact PO (tw _ _ _)
theorem SO {steps:List bz} {X:DV} (hX:dM bz.cells steps X) (fw:steps.length<=1000000000000) (m:Int):Pure aM 209 [.d X,aq m] (.agg ((Hp steps m).cells.map .d)):=by
 have hlen:=hX.len;have h0:(ff 0).ok:=fh 0;have ck:=Qb steps m;refine ay func209 O1 ntmps209 results209 rfl ?_;unfold U1;refine J λK hK=>?_;simp only[go_sem,ky,ig];apply hK;refine aa λKA Xg=>?_;by_cases h64:64<steps.length
 ·have Xo:(64:Int)<steps.length:=by omega
  have kn:=s6 0;have he:Hp steps m=ff 0:=by rw[CL,if_pos h64]
  rw[he]at ck⊢;refine J λK hK=>?_;simp only[go_sem,hlen,eq_true Xo,decide_true];apply hK;refine aN ?_;refine J λK hK=>?_;simp only[go_sem];refine aY (kn) ?_;simp only[go_sem,bu ck,cG ck,dJ,eY ck (bu h0),bu h0,cG h0,ac2,acV];apply hK;apply ak;exact⟨.agg ((ff 0).cells.map .d),by simp[bB,aV,bK,ah,ai,an,aB,fk,b6 ck],[],[],rfl,rfl,by simp[aL,aI,ai,an,aB,aj,AV.aC,ag,ae,-acU,fk,b6 ck],by simp[AV.aC,aj,ag,fk,b6 ck]⟩
 ·have Xo:¬(64:Int)<steps.length:=by omega
  have kn:=s6 steps.length;have HN:=fh steps.length;have he:Hp steps m=(pS steps m steps.length).W1:=by rw[CL,if_neg h64]
  have kcl:=Co (tw steps m steps.length);rw[<-he]at kcl;refine J λK hK=>?_;simp only[go_sem,hlen,eq_false Xo,decide_false];apply hK;refine aK ?_;apply au;refine Xg _ (J λK hK=>?_);simp only[go_sem,hlen];refine aY (kn) ?_;simp only[go_sem,ky,ig,bu HN,cG HN,dJ,eY HN (bu h0),bu h0,cG h0,ac2,acV];apply hK;refine aa λKE fK=>?_;refine J λK hK=>?_;simp only[go_sem,hlen];apply hK;apply aA
  refine ax (S':=⟨[(0,.d X),(1,aq m),(4,.ptr 0 0),(5,.ptr 1 0),(18,.d X),(19,aq steps.length),(20,aq (0:Nat))],[(0,(ff 0).cells.map .d),(1,(pS steps m 0).cells.map .d)],2⟩) (aH.cN [(0,0),(1,1)] ⟨by simp[bm,ah,AV.aC,aj,ag,yO],by simp[aL,aI,ai,an,aj,AV.aC,ag,ae,-acU,yO],rfl,rfl⟩) ?_;refine bM (λi=>⟨[(0,.d X),(1,aq m),(4,.ptr 0 0),(5,.ptr 1 0),(18,.d X),(19,aq steps.length),(20,aq (i:Nat))],[(0,(ff 0).cells.map .d),(1,(pS steps m i).cells.map .d)],2⟩) steps.length ?_;intro i hi;have ho:=tw steps m i;unfold Jf;by_cases bd:i<steps.length
  ·have aQ:(i:Int)<steps.length:=by omega
   have hw:=c8 (i:=i) (by omega);have b0:=yN steps m i;rw[yM]at b0;generalize pS steps m i=q at ho b0;obtain⟨cs,rest,iq,bU,b9⟩:=ny hX bd;have dh:=λ(Q:Exit->St->Prop)=>aal hX fw m bd ho (Q:=Q);have hu:=tv (steps:=steps) (m:=m) (i:=i) ho (steps.length-(i+1));generalize qQ steps m i q (steps.length-(i+1))=u at b0 dh hu;have krd:=CI hX fw m bd hu;have rM:=pR (steps:=steps) (m:=m) (i:=i) hu;generalize steps.getD i cp=a at b0 dh bU;have kra:=wa a;refine J λK hK=>?_;simp only[go_sem,aQ];apply hK;refine aa λK1 a8=>?_;refine aN ?_;apply au;apply a8;refine aa λK1 a8=>?_;apply aA;refine J λK hK=>?_
   simp only[go_sem,iq,acX,aQ,acW,b9,bU,bz.cells];apply hK;refine aa λKB Xh=>?_;refine J λK hK=>?_;simp only[go_sem,hw];apply hK;apply aA;refine ax (S':=Mm X steps.length m i (qQ steps m i q 0) a (i+1)) (aH.cN [(0,0),(1,1),(2,2)] ⟨by simp[bm,ah,AV.aC,aj,ag,Mm,A5,bz.cells,iq],by simp[aL,aI,ai,an,aj,AV.aC,ag,ae,-acU,Mm,A5,bz.cells,iq],rfl,rfl⟩) ?_;refine dh _ ?_;simp only[go_sem];apply Xh;unfold Mm;refine J λK hK=>?_;simp only[go_sem,ac3,P9];refine aY (kra) ?_;simp only[go_sem];apply hK;cases hb:uL a
   ·rw[hb]at b0;refine aK ?_ (by simp[ev,ah,hb]);apply au;simp only[go_sem];apply a8;refine af rfl ?_;simp only[go_sem,hw];refine⟨bd,?_⟩;exact aH.cN [(0,0),(1,1)] ⟨by simp[bm,ah,AV.aC,aj,ag,b0],by simp[aL,aI,ai,an,aB,aj,AV.aC,ag,ae,-acU,b0],rfl,rfl⟩
   ·rw[hb]at b0;refine aN ?_ (by simp[ev,ah,hb]);refine af rfl ?_;simp only[go_sem,ac3,b6 hu];refine aY (krd) ?_;simp only[go_sem,bu rM,cG rM,dJ,bu hu,cG hu,eY rM (bu hu),ac2,acV];apply a8;refine af rfl ?_;simp only[go_sem,hw];refine⟨bd,?_⟩;exact aH.cN [(0,0),(1,1)] ⟨by simp[bm,ah,AV.aC,aj,ag,b0],by simp[aL,aI,ai,an,aB,aj,AV.aC,ag,ae,-acU,b0],rfl,rfl⟩
  ·have dh:i=steps.length:=by omega
   subst dh;have aQ:¬(steps.length:Int)<steps.length:=by omega
   refine J λK hK=>?_;simp only[go_sem,aQ];apply hK;refine aa λK1 a8=>?_;refine aK ?_;apply aZ;show KE _;refine fK _ (J λK hK=>?_);simp only[go_sem,ac3,b6 ho];refine aY (kcl) ?_;simp only[go_sem,bu ck,cG ck,dJ,eY ck (bu h0),bu h0,cG h0,ac2,acV];apply hK;apply ak;exact⟨.agg ((Hp steps m).cells.map .d),by simp[bB,aV,bK,ah,ai,an,aB,fk,b6 ck],[],[],rfl,rfl,by simp[aL,aI,ai,an,aB,aj,AV.aC,ag,ae,-acU,fk,b6 ck],by simp[AV.aC,aj,ag,fk,b6 ck]⟩
section
variable{α β:Type} {enc:α->List β} {w:Nat}
theorem u5 (hw:∀a,(enc a).length=w):∀(l:List α),(l.flatMap enc).length=l.length*w
 | []=>by simp
 |a::l=>by rw[adr,adk,hw,u5 hw l,ads,Nat.add_mul];omega
theorem rV (hw:∀a,(enc a).length=w):∀(l:List α) (i:Nat),(l.flatMap enc).drop (i*w)=(l.drop i).flatMap enc
 |l,0=>by simp
 | [],i+1=>by simp
 |a::l,i+1=>by
  rw[adr,show(i+1)*w=(enc a).length+i*w by rw[hw,Nat.add_mul];omega,List.drop_append,Nat.add_sub_cancel_left,rV hw l i,List.drop_of_length_le (by omega),adF,List.drop_succ_cons]
theorem yP (hw:∀a,(enc a).length=w):∀(l:List α) (i:Nat),(l.flatMap enc).take (i*w)=(l.take i).flatMap enc
 |l,0=>by simp
 | [],i+1=>by simp
 |a::l,i+1=>by
  rw[adr,show(i+1)*w=(enc a).length+i*w by rw[hw,Nat.add_mul];omega,List.take_append,List.take_succ_cons,adr,<-yP hw l i]
  congr 1
  ·exact ac8 (by omega)
  ·congr 1;omega
end
theorem xn {l:List bz} {i:Nat} (hi:i<l.length):aP (some 7) (((bH l).map AV.d).drop (i*7))=some (.agg ((l.getD i cp).cells.map .d)):=by
 unfold bH;rw[<-List.map_drop,rV qA,List.drop_eq_getElem_cons hi,adr,adC,adl,ac6 hi];rfl
def yQ (x:Nat×Nat):List DV:=[.int .i64 x.1,.int .i64 x.2]
def fp (l:List (Nat×Nat)):List DV:=l.flatMap yQ
theorem Fg (x:Nat×Nat):(yQ x).length=2:=rfl
theorem qD (l:List (Nat×Nat)):(fp l).length=l.length*2:=jc Fg l
theorem HO (l:List (Nat×Nat)) (x:Nat×Nat):fp (l++[x])=fp l++yQ x:=by simp[fp]
def nz (r:Rl) (steps:List bz) (m:Int) (k i:Nat):List (Nat×Nat):=((ac7 i).filter (rH r r.inv steps m k)).map λi=>(i,k)
def yR (r:Rl) (steps:List bz) (m:Int) (k:Nat):List (Nat×Nat):=(ac7 k).flatMap λk=>nz r steps m k k
theorem Ln (r:Rl) (steps:List bz) (m:Int) (k i:Nat):nz r steps m k (i+1)=nz r steps m k i++if rH r r.inv steps m k i then [(i,k)]else []:=by
 unfold nz;rw[List.range_succ,List.filter_append,adC]
 congr 1
 cases h:rH r r.inv steps m k i<;>simp[h]
theorem A6 (r:Rl) (steps:List bz) (m:Int) (k:Nat):yR r steps m (k+1)=yR r steps m k++nz r steps m k k:=by
 unfold yR;rw[List.range_succ,List.flatMap_append];simp
theorem yS (r:Rl) (steps:List bz) (m:Int):gv r steps m=yR r steps m r.n:=rfl
theorem Fh (r:Rl) (steps:List bz) (m:Int) (k i:Nat):(nz r steps m k i).length<=i:=by
 unfold nz;rw[acY];have:=List.length_filter_le (rH r r.inv steps m k) (ac7 i);simpa using this
theorem Fi (r:Rl) (steps:List bz) (m:Int):∀k,k<=64->(yR r steps m k).length<=k*64
 |0,_=>by simp[yR]
 |k+1,h=>by
  rw[A6,adk];have:=Fi r steps m k (by omega);have:=Fh r steps m k k;omega
def pT (steps:List bz) (m:Int) (r back:Rl) (acc:List (Nat×Nat)) (ex:Fr):St:=
 ⟨ex++[(1,.sl 0 7 0 steps.length),(2,aq m),(3,.ptr 1 0),(8,.ptr 2 0),(7,.sl 3 2 0 acc.length)],[(0,(bH steps).map .d),(1,r.cells.map .d),(2,back.cells.map .d),(3,(fp acc).map .d)],4⟩
theorem aam {steps:List bz} (m:Int) {r:Rl} (h:r.ok) (hn:r.n<=steps.length) {k:Nat} (hk:k<r.n) {acc:List (Nat×Nat)} (ha:acc.length<=4096) {N:Nat} {Q:Exit->St->Prop}
 (hQ:Q (.exit 2) (pT steps m r r.inv (acc++nz r steps m k k) [(9,aq k),(14,aq N),(15,aq k)])):
 fN aM (aw [(0,(bH steps).map .d)]) 57 (.loop Cd) (pT steps m r r.inv (acc++nz r steps m k 0) [(19,aq (0:Nat)),(18,aq k),(9,aq k),(14,aq N),(15,aq k)]) Q:=by
 have dh:=Ck h;have h64:=h.1;refine bM (λi=>pT steps m r r.inv (acc++nz r steps m k i) [(19,aq (i:Nat)),(18,aq k),(9,aq k),(14,aq N),(15,aq k)]) k ?_;intro i hi;have Xp:=Fh r steps m k i;unfold Cd;by_cases bd:i<k
 ·have aQ:(i:Int)<k:=by omega
  have hw:=c8 (i:=i) (by omega);have b0:=Ln r steps m k i;have qi:(acc++nz r steps m k i).length<=5000:=by rw[adk];omega
  have Fj:acc++nz r steps m k (i+1)=(acc++nz r steps m k i)++if rH r r.inv steps m k i then [(i,k)]else []:=by rw[b0,List.append_assoc]
  generalize acc++nz r steps m k i=q at qi Fj;clear b0;have hrt:rH r r.inv steps m k i=(r.has i k&&decide (r.row i&&&r.inv.row k=0)&&sX (steps.getD i cp) (steps.getD k cp) m):=rfl;rw[hrt]at Fj;have k1:=AQ h i k;have k2:=yl h i;have k3:=yl dh k;have hand:=ml (PM h i) (PM dh k);have SK:=xn (l:=steps) (i:=i) (by omega);have Rg:=xn (l:=steps) (i:=k) (by omega);have Cl:i<steps.length:=by omega
  have acb:k<steps.length:=by omega
  have gb:(i:Int)<steps.length:=by omega
  have VQ:(k:Int)<steps.length:=by omega
  have k4:=Fc (steps.getD i cp) (steps.getD k cp) m;generalize steps.getD i cp=a at k4 Fj SK;generalize steps.getD k cp=b at k4 Fj Rg;unfold pT;refine J λK hK=>?_;simp only[go_sem,aQ];apply hK;refine aa λK1 a8=>?_;refine aN ?_;apply au;apply a8;refine aa λK1 a8=>?_;have back:∀q',acc++nz r steps m k (i+1)=q'->∀(f:Fr) (n j:Nat),4<=n->j=3\/4<=j->ah f 1=.sl 0 7 0 steps.length->ah f 2=aq m->ah f 3=.ptr 1 0->ah f 8=.ptr 2 0->ah f 7=.sl j 2 0 q'.length->ah f 19=aq i->ah f 18=aq k->ah f 9=aq k->ah f 14=aq N->ah f 15=aq k->
   ∀M,ai M 0=some ((bH steps).map .d)->ai M 1=some (r.cells.map .d)->ai M 2=some (r.inv.cells.map .d)->ai M j=some ((fp q').map .d)->K1 ⟨f,M,n⟩:=by
   intro q' he f n j Q8 hj g1 g2 g3 g8 g7 g19 g18 g9 g14 g15 M mz m0 m1 m2;apply a8;refine af (by simp[aw];omega) ?_;simp only[go_sem,g19,hw];refine⟨bd,aH.cN [(0,0),(1,1),(2,2),(j,3)] ⟨?_,?_,?_,rfl⟩⟩
   ·have:¬0=j:=by omega
    have:¬1=j:=by omega
    have:¬2=j:=by omega
    simp[pT,bm,ah,AV.aC,ag,g1,g2,g3,g8,g7,g18,g9,g14,g15,he, *]
   ·simp[pT,aL,aI,ai,mz,m0,m1,m2,he,-acU]
   ·simp[bC];omega
  apply aA;refine J λK hK=>?_;simp only[go_sem];apply hK;refine aa λK hK=>az rfl rfl ?_;simp only[go_sem,ac3,b6 h];refine ea (k1) ?_;simp only[go_sem];have no:∀(f:Fr) (n:Nat),4<=n->ah f 47=.d (.bool false)->ah f 1=.sl 0 7 0 steps.length->ah f 2=aq m->ah f 3=.ptr 1 0->ah f 8=.ptr 2 0->ah f 7=.sl 3 2 0 q.length->ah f 19=aq i->ah f 18=aq k->ah f 9=aq k->ah f 14=aq N->ah f 15=aq k->
   acc++nz r steps m k (i+1)=q->K ⟨f,[(0,(bH steps).map .d),(1,r.cells.map .d),(2,r.inv.cells.map .d),(3,(fp q).map .d)],n⟩:=by
   intro f n Q8 g47 g1 g2 g3 g8 g7 g19 g18 g9 g14 g15 he;apply hK;refine aK ?_ (by simp[ev,g47]);apply au;simp only[go_sem];exact back q he _ _ 3 Q8 (.inl rfl) g1 g2 g3 g8 g7 g19 g18 g9 g14 g15 _ rfl rfl rfl rfl
  cases Yo:r.has i k
  ·simp only[go_sem];refine⟨rfl,no _ _ (by omega) rfl rfl rfl rfl rfl rfl rfl rfl rfl rfl rfl ?_⟩;rw[Fj,Yo];simp
  ·simp only[go_sem,ac3,b6 h];refine ea (k2) ?_;simp only[go_sem,ac3,b6 dh];refine ea (k3) ?_;simp only[go_sem,hand];by_cases sa:r.row i&&&r.inv.row k=0
   ·have Xq:((r.row i&&&r.inv.row k:Nat):Int)=0:=by omega
    simp only[go_sem,eq_true Xq,decide_true,acX,gb,VQ,Cl,acb,acW,acY,ac2,SK,Rg,bz.cells];refine ea (k4) ?_;simp only[go_sem];cases zy:sX a b m
    ·refine⟨rfl,no _ _ (by omega) ?_ rfl rfl rfl rfl rfl rfl rfl rfl rfl rfl ?_⟩;·simp[ah]
     ·rw[Fj,zy];simp
    ·refine⟨rfl,hK _ ?_⟩;clear hK no;have h16:(q.length+1)*16<=140737488351232:=by omega
     have rv:=qD q;refine aN ?_;refine af rfl ?_;simp only[go_sem,acY,rv,h16,ac2];refine back (q++[(i,k)]) (by rw[Fj,Yo,zy];simp[sa]) _ _ 27 (by decide) (.inr (by omega)) rfl rfl rfl rfl ?_ rfl rfl rfl rfl rfl _ rfl rfl rfl ?_;·simp[ah]
     ·simp[ai,HO,yQ]
   ·have Xq:¬((r.row i&&&r.inv.row k:Nat):Int)=0:=by omega
    simp only[go_sem,eq_false Xq,decide_false];refine⟨rfl,no _ _ (by omega) rfl rfl rfl rfl rfl rfl rfl rfl rfl rfl rfl ?_⟩;rw[Fj,Yo];simp[sa]
 ·have dh:i=k:=by omega
  subst dh;have aQ:¬(i:Int)<i:=by omega
  generalize acc++nz r steps m i i=q at hQ;unfold pT at hQ⊢;refine J λK hK=>?_;simp only[go_sem,aQ];apply hK;refine aa λK1 a8=>?_;refine aK ?_;refine ax (S':=⟨[(9,aq i),(14,aq N),(15,aq i)]++[(1,.sl 0 7 0 steps.length),(2,aq m),(3,.ptr 1 0),(8,.ptr 2 0),(7,.sl 3 2 0 q.length)],[(0,(bH steps).map .d),(1,r.cells.map .d),(2,r.inv.cells.map .d),(3,(fp q).map .d)],4⟩) (aH.cN [(0,0),(1,1),(2,2),(3,3)] ⟨by simp[bm,ah,AV.aC,aj,ag,acY],by simp[aL,aI,ai,an,aj,AV.aC,ag,ae,-acU,acY],rfl,rfl⟩) ?_;exact aZ hQ
theorem A7 (r:Rl) (steps:List bz) (m:Int):yR r steps m 0=[]:=rfl
theorem rX (l:List (Nat×Nat)):(fp l).take (l.length*2)=fp l:=ac8 (by rw[qD];exact acV _)
theorem A8:fp []=[]:=rfl
theorem JC (r:Rl) (steps:List bz) (m:Int) {k:Nat} (h:k<=64):(yR r steps m k).length<=4096:=by
 have:=Fi r steps m k h;omega
theorem z6 {steps:List bz} (m:Int) {r:Rl} (h:r.ok) (hn:r.n<=steps.length):
 bT aM 210 [.agg (r.cells.map .d),.sl 0 7 0 steps.length,aq m] [(0,(bH steps).map .d)] λr' m'=>r'=.d (.sl (gv r steps m).length (fp (gv r steps m)))/\m'=[(0,(bH steps).map .d)]:=by
 have dh:=Ck h;have h64:=h.1;have ki:=s8 h;have kn:=W4 (r:=r);refine ay func210 O2 ntmps210 results210 rfl ?_;unfold U2;refine J λK hK=>?_;simp only[go_sem];refine hK _ (J λK hK=>?_);simp only[go_sem];refine hK _ (J λK hK=>?_);simp only[go_sem,ac3,b6 h,bu h,cG h];refine aY (ki) ?_;simp only[go_sem,ky,ig,bu dh,cG dh,dJ,eY dh (bu (fh 0)),bu (fh 0),cG (fh 0),ac2,acV];apply hK;refine aa λKE fK=>?_;refine J λK hK=>?_;simp only[go_sem,ac3,b6 h,bu h,cG h];refine aY (kn) ?_;simp only[go_sem];apply hK;apply aA;refine ax (aH.nil 7 2 rfl rfl) ?_
 refine ax (S':=pT steps m r r.inv (yR r steps m 0) [(14,aq r.n),(15,aq (0:Nat))]) (aH.cN [(0,0),(1,1),(2,2),(3,3)] ⟨by simp[bm,ah,AV.aC,aj,ag,pT,A7,A8],by simp[aL,aI,ai,an,aj,AV.aC,ag,ae,-acU,pT,A7,A8],rfl,rfl⟩) ?_;refine bM (λk=>pT steps m r r.inv (yR r steps m k) [(14,aq r.n),(15,aq (k:Nat))]) r.n ?_;intro k hk;unfold Jg;by_cases bd:k<r.n
 ·have aQ:(k:Int)<r.n:=by omega
  have hw:=c8 (i:=k) (by omega);have wc:=JC r steps m (k:=k) (by omega);have b0:=A6 r steps m k;have hl:=λ(Q:Exit->St->Prop)=>aam m h hn bd wc (N:=r.n) (Q:=Q);unfold pT;refine J λK hK=>?_;simp only[go_sem,aQ];apply hK;refine aa λK1 a8=>?_;refine aN ?_;apply au;apply a8;refine aa λK1 a8=>?_;apply aA;refine J λK hK=>?_;simp only[go_sem];refine hK _ (J λK hK=>?_);simp only[go_sem];apply hK;apply aA
  refine ax (S':=pT steps m r r.inv (yR r steps m k++nz r steps m k 0) [(19,aq (0:Nat)),(18,aq k),(9,aq k),(14,aq r.n),(15,aq k)]) (aH.cN [(0,0),(1,1),(2,2),(3,3)] ⟨by simp[bm,ah,AV.aC,aj,ag,pT,nz,List.range_zero,List.filter_nil,adu,List.append_nil],by simp[aL,aI,ai,an,aj,AV.aC,ag,ae,-acU,pT,nz,List.range_zero,List.filter_nil,adu,List.append_nil],rfl,rfl⟩) ?_;refine hl _ ?_;simp only[go_sem];apply a8;unfold pT;rw[<-b0];refine af rfl ?_;simp only[go_sem,hw];refine⟨bd,?_⟩;exact aH.cN [(0,0),(1,1),(2,2),(3,3)] ⟨by simp[bm,ah,AV.aC,aj,ag],by simp[aL,aI,ai,an,aB,aj,AV.aC,ag,ae,-acU],rfl,rfl⟩
 ·have dh:k=r.n:=by omega
  subst dh;have aQ:¬(r.n:Int)<r.n:=by omega
  rw[<-yS];generalize hq:gv r steps m=q;unfold pT;refine J λK hK=>?_;simp only[go_sem,aQ];apply hK;refine aa λK1 a8=>?_;refine aK ?_;apply aZ;show KE _;apply fK;have rv:=qD q;refine J λK hK=>?_;simp only[go_sem];apply hK;refine ax (aH.jn (S':=⟨[(6,.d (.sl q.length (fp q)))],[(0,(bH steps).map .d)],1⟩) [(0,0)] [(3,fp q)] ⟨by simp[fO,ah,AV.cv,dn,bI,ag,rX],by simp[gd,aI,bI,ai,an,aB,dn,AV.cv,ag,cF,ba,-acU,rX],rfl,rfl,by simp[bD,bI,ai,an,aB,dn,AV.cv,cF,ba,-acU,rX]⟩) ?_;apply ak
  exact⟨.d (.sl (gv r steps m).length (fp (gv r steps m))),by simp[bB,aV,bK,ah,ai,an,aB,hq],[(0,0)],[(0,(bH steps).map .d)],rfl,rfl,by simp[aL,aI,ai,an,aB,aj,AV.aC,ag,ae,-acU,hq],by simp[AV.aC,aj,ag,hq]⟩
theorem A9 {d:l8} {v:Vm} {D:List DV} (h:rU d v D) (s:bz):
 bT aM 257 [.agg (s.cells.map .d),.ptr 0 0] [(0,[.bj D])] λr m'=>r=.d (.bool (decide (s.kind=1)&&cW v s.t))/\m'=[(0,[.bj D])]:=by
 obtain⟨b8,hg,hp,hs,S,rfl,hS⟩:=h;have kf:=z1 (d:=d) (S:=S) b8 hg hp s.t;refine ay func257 Pj ntmps257 results257 rfl ?_;unfold Vi;refine J λK hK=>?_;simp only[go_sem,bz.cells];refine hK _ (J λK hK=>?_);simp only[go_sem,bz.cells]
 repeat' (first
  |(refine dx (λhb=>?_) (λhb=>?_)<;>simp only[go_sem,hb,bz.cells])
  |(refine dd (λhb=>?_) (λhb=>?_)<;>simp only[go_sem,hb,bz.cells])
  |(refine aF (kf) rfl rfl ?_;simp only[go_sem,bz.cells])
  |(refine bY (kf) rfl rfl ?_;simp only[go_sem,bz.cells])
  |(rw[if_pos (by(try simp only[adk,ads,adz,acY]);omega)];simp only[go_sem,bz.cells]))
 all_goals(apply hK;clear hK)
 ·apply ak;exact⟨.d (.bool (decide (s.kind=1)&&cW v s.t)),by simp[bB,aV,bK,ah,ai,an,aB,hb],[(0,0)],[(0,[.bj (iI d v++[S])])],rfl,rfl,by simp[aL,aI,ai,an,aB,aj,AV.aC,ag,ae,-acU,hb],by simp[AV.aC,aj,ag,hb]⟩
 ·apply ak;exact⟨.d (.bool (decide (s.kind=1)&&cW v s.t)),by simp[bB,aV,bK,ah,ai,an,aB,hb],[(0,0)],[(0,[.bj (iI d v++[S])])],rfl,rfl,by simp[aL,aI,ai,an,aB,aj,AV.aC,ag,ae,-acU,hb],by simp[AV.aC,aj,ag,hb]⟩
theorem CM {d:l8} {v:Vm} {D:List DV} (h:rU d v D) (a b:bz) (m:Int):
 Pure aM 206 [.bj D,.agg (a.cells.map .d),.agg (b.cells.map .d),aq m] (.d (.bool (s3 v a b m))):=by
 have kc:=HK a b m;have k1:=A9 h a;have k2:=A9 h b;unfold s3;generalize uM a b m=c1 at kc⊢;generalize (decide (a.kind=1)&&cW v a.t)=x1 at k1⊢;generalize (decide (b.kind=1)&&cW v b.t)=x2 at k2⊢;refine ay func206 OY ntmps206 results206 rfl ?_;unfold UY;refine J λK hK=>?_;simp only[go_sem,bz.cells];refine hK _ (J λK hK=>?_);simp only[go_sem,bz.cells];refine hK _ (J λK hK=>?_);simp only[go_sem,bz.cells];refine aY (kc) ?_;simp only[go_sem,bz.cells];cases c1
 ·simp only[go_sem];apply hK;apply ak;exact⟨.d (.bool false),by simp[bB,aV,bK,ah,ai,an,aB],[],[],rfl,rfl,by simp[aL,aI,ai,an,aB,aj,AV.aC,ag,ae,-acU],by simp[AV.aC,aj,ag]⟩
 ·by_cases ht:a.t=b.t
  ·have Mn:(a.t=b.t)=True:=eq_true ht;simp only[go_sem,bz.cells,Mn,decide_true,Bool.not_true];apply hK;apply ak;exact⟨.d (.bool true),by simp[bB,aV,bK,ah,ai,an,aB,Mn],[],[],rfl,rfl,by simp[aL,aI,ai,an,aB,aj,AV.aC,ag,ae,-acU,Mn],by simp[AV.aC,aj,ag,Mn]⟩
  ·have Mn:(a.t=b.t)=False:=eq_false ht;simp only[go_sem,bz.cells,Mn,decide_false,Bool.not_false];refine⟨rfl,?_⟩;refine bt [(0,0)] [.agg (a.cells.map .d),.ptr 0 0] [(0,[.bj D])] (nb:=1000) (k1) (by simp[bC]) (by first|(simp[aj,AV.aC,ag];done)|simp[aj,AV.aC,ag,bz.cells]) (by first|(simp[bF,bE,ag];done)|simp[bF,bE,ag,bz.cells]) (by simp[handed,ag,ai,an,aB,aj,AV.aC,bF,bE,bz.cells]) rfl ?_;rintro r0 m' ⟨rfl,rfl⟩;simp only[go_sem,bn,bL,bN,ai,an,aB,bX,ag,aj,bG,AV.aC,adj,adb,adg,adi,adm,ac5,bz.cells];cases x1
   ·simp only[go_sem,bz.cells];refine⟨rfl,?_⟩;refine bt [(0,0)] [.agg (b.cells.map .d),.ptr 0 0] [(0,[.bj D])] (nb:=1000) (k2) (by simp[bC]) (by first|(simp[aj,AV.aC,ag];done)|simp[aj,AV.aC,ag,bz.cells]) (by first|(simp[bF,bE,ag];done)|simp[bF,bE,ag,bz.cells]) (by simp[handed,ag,ai,an,aB,aj,AV.aC,bF,bE,bz.cells]) rfl ?_;rintro r0 m' ⟨rfl,rfl⟩;simp only[go_sem,bn,bL,bN,ai,an,aB,bX,ag,aj,bG,AV.aC,adj,adb,adg,adi,adm,ac5,bz.cells];apply hK;apply ak;exact⟨.d (.bool !x2),by simp[bB,aV,bK,ah,ai,an,aB,Mn],[],[],rfl,rfl,by simp[aL,aI,ai,an,aB,aj,AV.aC,ag,ae,-acU,Mn],by simp[AV.aC,aj,ag,Mn]⟩
   ·simp only[go_sem];apply hK;apply ak;exact⟨.d (.bool false),by simp[bB,aV,bK,ah,ai,an,aB,Mn],[],[],rfl,rfl,by simp[aL,aI,ai,an,aB,aj,AV.aC,ag,ae,-acU,Mn],by simp[AV.aC,aj,ag,Mn]⟩
def rY (x:Fm×List DV):List AV:=[.bj x.2,cX x.1.sleep,cX x.1.back]
def eH (l:List Fm) (Ds:List (List DV)):List AV:=(l.zip Ds).flatMap rY
def CN (l:List Int):DV:=.sl l.length (l.map λi=>.int .i64 i)
def cC (l:List (List Int)):List DV:=l.map CN
def jm (bs bp br:Nat) (m aO:Int) (ns np nr:Nat) (blocked aS:Int):List AV:=
 [aq m,aq aO,.sl bs 3 0 ns,.sl bp 7 0 np,.sl br 1 0 nr,aq blocked,aq aS,.d (.bool false)]
def dR (m aO:Int) (ns np nr:Nat) (blocked aS:Int):List AV:=
 [aq m,aq aO,.sl 1 3 0 ns,.sl 2 7 0 np,.sl 3 1 0 nr,aq blocked,aq aS,.d (.bool false)]
def VS (bs bp br:Nat) (w:Wk) (Ds:List (List DV)):Mem:=
 [(0,jm bs bp br w.m w.aO w.stack.length w.steps.length w.runs.length w.blocked w.aS),(bs,eH w.stack Ds),(bp,(bH w.steps).map .d),(br,(cC w.runs).map .d)]
def gA (w:Wk) (Ds:List (List DV)):Mem:=
 [(0,dR w.m w.aO w.stack.length w.steps.length w.runs.length w.blocked w.aS),(1,eH w.stack Ds),(2,(bH w.steps).map .d),(3,(cC w.runs).map .d)]
theorem SP (x:Fm×List DV):(rY x).length=3:=rfl
theorem tx {l:List Fm} {Ds:List (List DV)} (h:Ds.length=l.length):(eH l Ds).length=l.length*3:=by
 unfold eH;rw[u5 SP,List.length_zip,h,Nat.min_self]
theorem aJ (g:Nat->Option Nat) (l:List Fm) (Ds:List (List DV)):aj g (eH l Ds)=eH l Ds:=by
 unfold eH;induction l.zip Ds with
 |nil=>rfl
 |cons a t ih=>rw[adr,ae,ih];rfl
theorem JD (l:List Nat) {i:Nat} (hi:i<l.length):∃rest,(l.map λ(j:Nat)=>DV.int .i64 j).drop i=.int .i64 (l.getD i 0:Nat)::rest:=by
 refine⟨(l.drop (i+1)).map λ(j:Nat)=>DV.int .i64 j,?_⟩;rw[<-List.map_drop,List.drop_eq_getElem_cons hi,ade,adl,ac6 hi];rfl
def z7 (f:Fm) (s:bz) (m:Int) (i:Nat):Nat:=((cj f.sleep).take i).foldl (nq f s m) f.sleep
theorem Lo (f:Fm) (s:bz) (m:Int) {i:Nat} (hi:i<(cj f.sleep).length):z7 f s m (i+1)=nq f s m (z7 f s m i) ((cj f.sleep).getD i 0):=by
 unfold z7;rw[adG,adl,ac6 hi,List.foldl_append];rfl
theorem Fk (f:Fm) (s:bz) (m:Int):z7 f s m (cj f.sleep).length=fW f s m:=by
 unfold z7;rw[List.take_length];rfl
theorem JE {f:Fm} (s:bz) (m:Int) (h:f.sleep<18446744073709551616):∀i,z7 f s m i<18446744073709551616:=by
 have key:∀(l:List Nat) (x:Nat),x<18446744073709551616->l.foldl (nq f s m) x<18446744073709551616:=by
  intro l;induction l with
  |nil=>exact λx hx=>hx
  |cons a l ih=>
   intro x hx;refine ih _ ?_;unfold nq;split;·exact EP hx _
   ·exact hx
 exact λi=>key _ _ h
def Rm (w:Wk) (Ds:List (List DV)) (f:Fm) (D:List DV) (s:bz) (u:Nat) (i:Nat):St:=
 ⟨[(0,.ptr 0 0),(4,.ptr 4 0),(5,.ptr 5 0),(7,cX u),(16,.d (iC (cj f.sleep))),(17,aq ((cj f.sleep).length)),(18,aq i)],
  [(0,dR w.m w.aO w.stack.length w.steps.length w.runs.length w.blocked (w.aS+i)),(1,eH w.stack Ds),(2,(bH w.steps).map .d),(3,(cC w.runs).map .d),(4,rY (f,D)),(5,s.cells.map .d)],6⟩
theorem CO {d:l8} {w:Wk} {Ds:List (List DV)} {f:Fm} {D:List DV} (hv:rU d f.v D) (hs:f.sleep<18446744073709551616) (s:bz) (hp0:0<=w.aS) (R9:w.aS<=1000000000000):
 bT aM 131 [.ptr 0 0,.agg (rY (f,D)),.agg (s.cells.map .d)] (gA w Ds) λr m'=>r=cX (fW f s w.m)/\m'=gA {w with aS:=w.aS+(cj f.sleep).length} Ds:=by
 have hll:=qx f.sleep;have kl:=AP hs;have has:=Fk f s w.m;unfold gA;dsimp only;refine ay func131 Oz ntmps131 results131 rfl ?_;unfold UF;refine J λK hK=>?_;simp only[go_sem,rY];refine hK _ (J λK hK=>?_);simp only[go_sem,rY];apply hK;refine aa λKE fK=>?_;refine J λK hK=>?_;simp only[go_sem,rY];refine aY (kl) ?_;simp only[go_sem,iC];apply hK;apply aA;refine ax (S':=Rm w Ds f D s (z7 f s w.m 0) 0) (aH.cN [(0,0),(1,1),(2,2),(3,3),(4,4),(5,5)] ⟨by simp[Rm,z7,iC,bm,ah,AV.aC,aj,ag],by simp[Rm,rY,dR,aJ,aL,aI,ai,an,aj,AV.aC,ag,-acU],rfl,rfl⟩) ?_
 refine bM (λi=>Rm w Ds f D s (z7 f s w.m i) i) (cj f.sleep).length ?_;intro i hi;unfold I4;by_cases bd:i<(cj f.sleep).length
 ·have aQ:(i:Int)<(cj f.sleep).length:=by omega
  have hw:=c8 (i:=i) (by omega);have SD:ac9.wrap (w.aS+i+1)=w.aS+((i+1:Nat):Int):=by rw[wrap_i64 (by omega) (by omega)];omega
  have b0:=Lo f s w.m bd;have wc:=JE s w.m hs i;unfold nq at b0;obtain⟨rest,bU⟩:=JD (cj f.sleep) bd;generalize z7 f s w.m i=u at b0 wc;generalize (cj f.sleep).getD i 0=g at b0 bU;have kn:=Fa hv g;generalize cB f.v g=pv at b0 kn;obtain⟨v',s',b'⟩:=pv;simp only at b0 kn;have km:=CM hv s' s w.m;have kw:=Ci wc g;unfold Rm;refine J λK hK=>?_;simp only[go_sem,aQ];apply hK;refine aa λK1 a8=>?_;refine aN ?_;apply au;apply a8;refine aa λK1 a8=>?_;apply aA;refine J λK hK=>?_;simp only[go_sem,iC,acX,aQ,bd,acW,bU,acY];refine hK _ (J λK hK=>?_);simp only[go_sem,rY];refine aY (kn) ?_;simp only[go_sem,bz.cells]
  refine hK _ (J λK hK=>?_);simp only[go_sem,dR,SD];apply hK;refine aa λK hK=>az rfl ?_ ?_;·simp[aw]
  simp only[go_sem,rY,bz.cells,dR,ac3];refine ea (km) ?_;simp only[go_sem];refine⟨rfl,hK _ ?_⟩;cases hb:s3 f.v s' s w.m
  ·rw[hb]at b0;refine aK ?_;apply au;simp only[go_sem];apply a8;refine af rfl ?_;simp only[go_sem,hw];refine⟨bd,?_⟩;exact aH.cN [(0,0),(1,1),(2,2),(3,3),(4,4),(5,5)] ⟨by simp[bm,ah,AV.aC,aj,ag,Rm,b0,rY,dR,aJ,bz.cells,iC],by simp[aL,aI,ai,an,aB,aj,AV.aC,ag,ae,-acU,Rm,b0,rY,dR,aJ,bz.cells,iC],rfl,rfl⟩
  ·rw[hb]at b0;refine aN ?_;refine af rfl ?_;simp only[go_sem];refine aY (kw) ?_;simp only[go_sem];apply a8;refine af rfl ?_;simp only[go_sem,hw];refine⟨bd,?_⟩;exact aH.cN [(0,0),(1,1),(2,2),(3,3),(4,4),(5,5)] ⟨by simp[bm,ah,AV.aC,aj,ag,Rm,b0,rY,dR,aJ,bz.cells,iC],by simp[aL,aI,ai,an,aB,aj,AV.aC,ag,ae,-acU,Rm,b0,rY,dR,aJ,bz.cells,iC],rfl,rfl⟩
 ·have dh:i=(cj f.sleep).length:=by omega
  subst dh;have aQ:¬((cj f.sleep).length:Int)<(cj f.sleep).length:=by omega
  rw[has];unfold Rm;refine J λK hK=>?_;simp only[go_sem,aQ];apply hK;refine aa λK1 a8=>?_;refine aK ?_;apply aZ;show KE _;refine fK _ (J λK hK=>?_);simp only[go_sem];apply hK;apply ak;exact⟨cX (fW f s w.m),by simp[bB,aV,bK,ah,ai,an,aB,dR,aJ],[(0,0),(1,1),(2,2),(3,3)],[(0,dR w.m w.aO w.stack.length w.steps.length w.runs.length w.blocked (w.aS+(cj f.sleep).length)),(1,eH w.stack Ds),(2,(bH w.steps).map .d),(3,(cC w.runs).map .d)],rfl,rfl,by simp[aL,aI,ai,an,aB,aj,AV.aC,ag,ae,-acU,dR,aJ],by simp[AV.aC,aj,ag,dR,aJ]⟩
def qR (steps:List bz) (r:Rl) (from_:Nat) (j:Nat):Nat:=(ac7 j).foldl (AO steps r from_) 0
theorem u6 (steps:List bz) (r:Rl) (from_ j:Nat):qR steps r from_ (j+1)=AO steps r from_ (qR steps r from_ j) j:=dG _ _ _
theorem xo (steps:List bz) (r:Rl) (from_:Nat):∀j,qR steps r from_ j<18446744073709551616
 |0=>by simp[qR]
 |j+1=>by
  rw[u6];unfold AO;split;·exact gK (xo steps r from_ j) _
  ·exact xo steps r from_ j
theorem yU (steps:List bz) (r:Rl) (from_:Nat):∀j g,(qR steps r from_ j).testBit g=true->g<j
 |0,g,h=>by simp[qR]at h
 |j+1,g,h=>by
  rw[u6]at h;unfold AO at h;split at h
  ·unfold ed at h;rw[Nat.testBit_or]at h;cases h1:(qR steps r from_ j).testBit g
   ·rw[h1,Bool.false_or]at h;unfold ma at h;split at h
    ·rw[Nat.testBit_two_pow]at h;simp at h;omega
    ·simp at h
   ·have:=yU steps r from_ j g h1;omega
  ·have:=yU steps r from_ j g h;omega
def mI (back:Rl) (steps:List bz) (cI j:Nat):Nat:=((cj cI).take j).foldl (uN back steps) 0
theorem Fl (back:Rl) (steps:List bz) {cI j:Nat} (hj:j<(cj cI).length):mI back steps cI (j+1)=uN back steps (mI back steps cI j) ((cj cI).getD j 0):=by
 unfold mI;rw[adG,adl,ac6 hj,List.foldl_append];rfl
theorem Ba (back:Rl) (steps:List bz) (cI:Nat) (j:Nat):mI back steps cI j<18446744073709551616:=by
 have key:∀(l:List Nat) (x:Nat),x<18446744073709551616->l.foldl (uN back steps) x<18446744073709551616:=by
  intro l;induction l with
  |nil=>exact λx hx=>hx
  |cons a l ih=>
   intro x hx;refine ih _ ?_;unfold uN;split;·exact gK hx _
   ·exact hx
 exact key _ _ (by decide)
theorem we (steps:List bz) (r:Rl) (from_:Nat):lv steps r from_=mI (r.cI (qR steps r from_ steps.length)).inv steps (qR steps r from_ steps.length) (cj (qR steps r from_ steps.length)).length:=by
 unfold mI;rw[List.take_length];rfl
def wg (l:List bz):List DV:=l.map λs=>.int .i64 s.pick
theorem yV (l:List bz):(wg l).length=l.length:=by simp[wg]
theorem JF {l:List bz} {i:Nat} (hi:i<l.length):wg (l.take (i+1))=wg (l.take i)++[.int .i64 (l.getD i cp).pick]:=by
 unfold wg;rw[adG,adC,adl,ac6 hi];rfl
theorem aan {l:List bz} {i:Nat} (hi:i<l.length):aP none (((wg l).map AV.d).drop i)=some (aq ((l.getD i cp).pick)):=by
 unfold wg;rw[<-List.map_drop,<-List.map_drop,List.drop_eq_getElem_cons hi,adl,ac6 hi];rfl
def se (w:Wk) (Ds:List (List DV)) (m:Mem):Mem:=
 (0,dR w.m w.aO w.stack.length w.steps.length w.runs.length w.blocked w.aS)::(1,eH w.stack Ds)::(2,(bH w.steps).map .d)::(3,(cC w.runs).map .d)::m
def Rn (w:Wk) (Ds:List (List DV)) (back:Rl) (pk:List DV) (l:List Nat) (acc i:Nat):St:=
 ⟨[(8,.sl 5 1 0 w.steps.length),(11,cX acc),(12,.ptr 6 0),(59,.d (iC l)),(60,aq l.length),(61,aq i)],
  se w Ds [(5,pk.map .d),(6,back.cells.map .d)],7⟩
def VT (w:Wk) (Ds:List (List DV)) (r:Rl) (from_ cI i:Nat) (pk:List DV):St:=
 ⟨[(0,.ptr 0 0),(2,aq from_),(4,.ptr 4 0),(7,cX cI),(8,.sl 5 1 0 i),(18,.sl 2 7 0 w.steps.length),(19,aq w.steps.length),(20,aq i)],
  se w Ds [(4,r.cells.map .d),(5,pk.map .d)],6⟩
theorem yW {w:Wk} {Ds:List (List DV)} (hD:Ds.length=w.stack.length) {r:Rl} (h:r.ok) (hn:w.steps.length<=1000000000) (from_:Nat) (hf:from_<=1000000000000):
 bT aM 211 [.ptr 0 0,.agg (r.cells.map .d),aq from_] (gA w Ds) λr' m'=>r'=cX (lv w.steps r from_)/\m'=gA w Ds:=by
 have zH:=we w.steps r from_;unfold gA;refine ay func211 O3 ntmps211 results211 rfl ?_;unfold U3;refine J λK hK=>?_;simp only[go_sem];refine hK _ (J λK hK=>?_);simp only[go_sem];refine hK _ (J λK hK=>?_);simp only[go_sem];apply hK;refine aa λKE fK=>?_;refine J λK hK=>?_;simp only[go_sem,dR];apply hK;apply aA;refine ax (aH.nil 8 1 rfl rfl) ?_;refine ax (S':=VT w Ds r from_ (qR w.steps r from_ 0) 0 (wg (w.steps.take 0))) (aH.cN [(0,0),(1,1),(2,2),(3,3),(4,4),(5,5)] ⟨by simp[VT,qR,bm,ah,AV.aC,aj,ag],by simp[VT,se,wg,dR,aJ,aL,aI,ai,an,aj,AV.aC,ag,-acU],rfl,rfl⟩) ?_
 refine bM (λi=>VT w Ds r from_ (qR w.steps r from_ i) i (wg (w.steps.take i))) w.steps.length ?_;intro i hi;unfold Jh;by_cases bd:i<w.steps.length
 ·have aQ:(i:Int)<w.steps.length:=by omega
  have hw:=c8 (i:=i) (by omega);have q5:ac9.wrap ((w.steps.length:Int)-1)=(w.steps.length:Int)-1:=by rw[wrap_i64 (by omega) (by omega)]
  have b0:=u6 w.steps r from_ i;have wc:=xo w.steps r from_ i;unfold AO at b0;have kH:=xn bd;have Mg:=JF bd;have rv:(wg (w.steps.take i)).length=i:=by rw[yV,List.length_take];omega
  have h8:(i+1)*8<=140737488351232:=by omega
  generalize w.steps.getD i cp=a at kH Mg;generalize wg (w.steps.take i)=pk at Mg rv;generalize qR w.steps r from_ i=u at b0 wc;have kh:=AQ h from_ i;have kw:=gi wc i;unfold VT se;refine J λK hK=>?_;simp only[go_sem,aQ];apply hK;refine aa λK1 a8=>?_;refine aN ?_;apply au;apply a8;refine aa λK1 a8=>?_;apply aA;refine J λK hK=>?_;simp only[go_sem,acX,aQ,bd,acW,acY,ac2,kH,bz.cells];refine hK _ (J λK hK=>?_);simp only[go_sem,h8,acY,rv,ac2,bz.cells];apply hK;have Ri:((i:Int)=(w.steps.length:Int)-1)=(i=w.steps.length-1):=by apply propext;omega
  have hc1:((from_:Int)<(i:Int))=(from_<i):=by apply propext;omega
  have last:∀(cb:Bool),(cb=true↔(from_<i/\(i=w.steps.length-1\/r.has from_ i=false)))->∀(f:Fr),ah f 49=.d (.bool cb)->ah f 0=.ptr 0 0->ah f 2=aq from_->ah f 4=.ptr 4 0->ah f 7=cX u->ah f 8=.sl 8 1 0 (i+1)->ah f 9=aq i->ah f 18=.sl 2 7 0 w.steps.length->ah f 19=aq w.steps.length->ah f 20=aq i->
   ∀M A B,M=(se w Ds [(4,r.cells.map .d),(6,A),(7,B),(8,pk.map AV.d++[aq a.pick])])->∀Q2:Exit->St->Prop,(∀S,K1 S->Q2 .normal S)->
   fN aM (aw (se w Ds [])) 77 (.cond (.t 49) (.region false [oM 50 (.mv (.t 7)),oM 51 (.mv (.t 9)),oM 52 (.bW 132 [.t 50,.t 51]),oM 7 (.mv (.t 52))] []) .skip) ⟨f,M,9⟩ Q2:=by
   intro cb hcb f g49 g0 g2 g4 g7 g8 g9 g18 g19 g20 M A B hM Q2 VM;subst hM;have fin:∀u':Nat,qR w.steps r from_ (i+1)=u'->∀(f:Fr),ah f 0=.ptr 0 0->ah f 2=aq from_->ah f 4=.ptr 4 0->ah f 7=cX u'->ah f 8=.sl 8 1 0 (i+1)->ah f 18=.sl 2 7 0 w.steps.length->ah f 19=aq w.steps.length->ah f 20=aq i->K1 ⟨f,se w Ds [(4,r.cells.map .d),(6,A),(7,B),(8,pk.map AV.d++[aq a.pick])],9⟩:=by
    intro u' he f g0 g2 g4 g7 g8 g18 g19 g20;apply a8;refine af rfl ?_;simp only[go_sem,g20,hw];refine⟨bd,aH.cN [(0,0),(1,1),(2,2),(3,3),(4,4),(8,5)] ⟨?_,?_,rfl,rfl⟩⟩;·simp[VT,bm,ah,AV.aC,ag,g0,g2,g4,g7,g8,g18,g19,g20,he]
    ·simp[VT,se,dR,aJ,aL,aI,ai,aj,AV.aC,ag,Mg,ae,-acU]
   cases cb
   ·have hc:¬(from_<i/\(i=w.steps.length-1\/r.has from_ i=false)):=λh=>by have:=hcb.2 h;cases this
    rw[if_neg hc]at b0;refine aK ?_ (by simp[ev,g49]);refine au (VM _ (fin u b0 _ g0 g2 g4 g7 g8 g18 g19 g20))
   ·rw[if_pos (hcb.1 rfl)]at b0;refine aN ?_ (by simp[ev,g49]);refine af rfl ?_;simp only[go_sem,g7,g9];refine aY (kw) ?_;simp only[go_sem];refine VM _ (fin _ b0 _ ?_ ?_ ?_ ?_ ?_ ?_ ?_ ?_)<;>simp[ah,g0,g2,g4,g8,g18,g19,g20]
  refine J λK hK=>?_;by_cases h1:from_<i
  ·by_cases h2:i=w.steps.length-1
   ·simp only[go_sem,hc1,eq_true h1,decide_true,dR,q5,Ri,eq_true h2];apply hK;exact last true ⟨λ_=>⟨h1,.inl h2⟩,λ_=>rfl⟩ _ rfl rfl rfl rfl rfl rfl rfl rfl rfl rfl _ _ _ rfl _ (λS h=>h)
   ·simp only[go_sem,hc1,eq_true h1,decide_true,dR,q5,Ri,eq_false h2,decide_false,ac3,b6 h];refine aY (kh) ?_;simp only[go_sem];apply hK;exact last (!r.has from_ i) (by simp[h1,h2]) _ rfl rfl rfl rfl rfl rfl rfl rfl rfl rfl _ _ _ rfl _ (λS h=>h)
  ·simp only[go_sem,hc1,eq_false h1,decide_false];apply hK;exact last false (by simp[h1]) _ rfl rfl rfl rfl rfl rfl rfl rfl rfl rfl _ _ _ rfl _ (λS h=>h)
 ·have dh:i=w.steps.length:=by omega
  subst dh;have aQ:¬(w.steps.length:Int)<w.steps.length:=by omega
  have MN:=xo w.steps r from_ w.steps.length;have Sa:=yU w.steps r from_ w.steps.length;rw[List.take_length];generalize hke:qR w.steps r from_ w.steps.length=cI at zH MN Sa;have kk:=La h MN;have hko:=Jv h cI;have ki:=s8 hko;have Yp:=Ck hko;have kl:=AP MN;generalize (r.cI cI).inv=back at zH ki Yp;have h0:(ff 0).ok:=fh 0;have hll:=qx cI;unfold VT se;refine J λK hK=>?_;simp only[go_sem,aQ];apply hK;refine aa λK1 a8=>?_;refine aK ?_;apply aZ;show KE _;refine fK _ (J λK hK=>?_);simp only[go_sem];refine hK _ (J λK hK=>?_);simp only[go_sem,ac3,b6 h];refine aY (kk) ?_;simp only[go_sem];refine aY (ki) ?_
  simp only[go_sem,ky,ig,bu Yp,cG Yp,dJ,eY Yp (bu h0),bu h0,cG h0,ac2,acV];apply hK;refine aa λKG hKG=>?_;refine J λK hK=>?_;simp only[go_sem];refine aY (kl) ?_;simp only[go_sem,iC];apply hK;apply aA;refine ax (S':=Rn w Ds back (wg w.steps) (cj cI) (mI back w.steps cI 0) 0) (aH.cN [(0,0),(1,1),(2,2),(3,3),(5,5),(6,6)] ⟨by simp[Rn,iC,mI,bm,ah,AV.aC,aj,ag],by simp[Rn,se,dR,aJ,aL,aI,ai,an,aj,AV.aC,ag,-acU],rfl,rfl⟩) ?_;refine bM (λj=>Rn w Ds back (wg w.steps) (cj cI) (mI back w.steps cI j) j) (cj cI).length ?_;intro j hj;unfold Ji;by_cases bd:j<(cj cI).length
  ·have aQ:(j:Int)<(cj cI).length:=by omega
   have hw:=c8 (i:=j) (by omega);have b0:=Fl back w.steps bd;have wc:=Ba back w.steps cI j;unfold uN at b0;obtain⟨rest,bU⟩:=JD (cj cI) bd;have hg:(cj cI).getD j 0<w.steps.length:=by
    rw[adl,ac6 bd];exact Sa _ ((K6 MN).1 (adt bd))
   generalize (cj cI).getD j 0=g at b0 bU hg;have RN:(g:Int)<w.steps.length:=by omega
   have rv:=aan hg;generalize mI back w.steps cI j=u at b0 wc;have kr:=yl Yp g;have kw:=gi wc (w.steps.getD g cp).pick;generalize (w.steps.getD g cp).pick=gp at rv kw b0;unfold Rn se;refine J λK hK=>?_;simp only[go_sem,aQ];apply hK;refine aa λK1 a8=>?_;refine aN ?_;apply au;apply a8;refine aa λK1 a8=>?_;apply aA;refine J λK hK=>?_;simp only[go_sem,iC,acX,aQ,bd,acW,bU,acY];refine hK _ (J λK hK=>?_);simp only[go_sem,ac3,b6 Yp];refine aY (kr) ?_;simp only[go_sem];apply hK;by_cases hz:back.row g=0
   ·rw[if_pos hz]at b0;have hz':((back.row g:Nat):Int)=0:=by omega
    refine aN ?_ (by simp[ev,ah,hz]);refine af rfl ?_;simp only[go_sem,acX,RN,hg,acW,ac2,Nat.mul_one,rv,acY,yV];refine aY (kw) ?_;simp only[go_sem];apply a8;refine af rfl ?_;simp only[go_sem,hw];refine⟨bd,?_⟩;exact aH.cN [(0,0),(1,1),(2,2),(3,3),(5,5),(6,6)] ⟨by simp[bm,ah,AV.aC,aj,ag,Rn,se,b0,dR,aJ,iC],by simp[aL,aI,ai,an,aB,aj,AV.aC,ag,ae,-acU,Rn,se,b0,dR,aJ,iC],rfl,rfl⟩
   ·rw[if_neg hz]at b0;have hz':¬((back.row g:Nat):Int)=0:=by omega
    refine aK ?_ (by simp[ev,ah,hz]);apply au;simp only[go_sem];apply a8;refine af rfl ?_;simp only[go_sem,hw];refine⟨bd,?_⟩;exact aH.cN [(0,0),(1,1),(2,2),(3,3),(5,5),(6,6)] ⟨by simp[bm,ah,AV.aC,aj,ag,Rn,se,b0,dR,aJ,iC],by simp[aL,aI,ai,an,aB,aj,AV.aC,ag,ae,-acU,Rn,se,b0,dR,aJ,iC],rfl,rfl⟩
  ·have dh:j=(cj cI).length:=by omega
   subst dh;have aQ:¬((cj cI).length:Int)<(cj cI).length:=by omega
   rw[<-zH];unfold Rn se;refine J λK hK=>?_;simp only[go_sem,aQ];apply hK;refine aa λK1 a8=>?_;refine aK ?_;apply aZ;show KG _;refine hKG _ (J λK hK=>?_);simp only[go_sem];apply hK;apply ak;exact⟨cX (lv w.steps r from_),by simp[bB,aV,bK,ah,ai,an,aB,se,dR,aJ],[(0,0),(1,1),(2,2),(3,3)],se w Ds [],rfl,rfl,by simp[aL,aI,ai,an,aB,aj,AV.aC,ag,ae,-acU,se,dR,aJ],by simp[AV.aC,aj,ag,se,dR,aJ]⟩
end
end Go.Proofs.YtjfdjkageiemkaaGreatDoor
namespace Go.Jq
open Go
variable{P:Program}
theorem bT.aao {f:Nat} (Z:Zs) (args:List AV) (m:Mem) {cU:List AV} {v:AV} (h:Pure P f cU v) (hz:bD m Z Z) (iv:dn (λ_=>none) (bI Z) args=cU) (hv:kU v=true):
 bT P f args m λr m'=>r=v/\m'=m:=by
 intro c w vs hr hM fG;have AA:∀(c':Ctx) b,¬gm c' [] b:=λc' b ⟨id,h1,_⟩=>by simp[ai]at h1
 have Rf:∀id,(bI Z id).isSome->(ai m id).isSome:=λid h=>by
  obtain⟨ds,DB⟩:=adv.1 h;obtain⟨cs,b9,_⟩:=nZ hz id ds DB;rw[b9];rfl
 have Az:aU (c.jn [] Z) w cU vs:=by rw[<-iv];exact mj (π:=[]) (nb:=0) rfl hM hz _ _ hr
 have Wp:MR (c.jn [] Z) [] w:=⟨λid cells h=>by simp[ai]at h,λid j3 b h=>by simp[ai]at h,λb hb=>by
  rcases hb with h1|⟨id,h1,h2⟩;·exact hM.dm b h1
  ·exact hM.iK ⟨id,Rf id h1,gT.gl h2⟩,hM.lC (λ_ h=>.inl h) λ_ _=>rfl⟩
 refine(h (c.jn [] Z) w vs Az Wp λid _=>rfl).mono ?_;rintro e w' ⟨v',r0,m',c',rfl,⟨rfl,rfl⟩,jH,sb,hs,ho,D1,Wn⟩;have pD:∀b,b<w.heap.size->w'.heap[b]?=w.heap[b]?:=λb hb=>hs.cI b hb (AA _ b);have hl:ia c c w w':=⟨λ_ h=>h,λb hb=>pD b (hM.dm b hb),λ_ _=>rfl,hs.rows⟩;refine⟨v',r0,m,c,rfl,⟨rfl,rfl⟩,x8 _ _ hv jH,⟨λid cells hid=>?_,hM.inj,λb hb=>Nat.lt_of_lt_of_le (hM.dm b hb) hs.size,hM.lC (λ_ h=>h) λb hb=>pD b (hM.dm b hb)⟩,
  ⟨hs.os,hs.tape,hs.output,hs.size,λb hb _=>pD b hb,hs.rows,λ_ h=>h,λb hb=>.inl hb⟩,λb hb=>.inl hb,λid _ hi=>⟨hi,rfl⟩,λid hid=>fG id (Nat.le_trans (Nat.le_max_left _ _) hid)⟩
 have hS:(ai m id).isSome:=by rw[hid];rfl
 exact(hM.own id cells hid).later hl λb hb=>⟨pD b (hM.iK ⟨id,hS,hb⟩),λhi=>hM.sep hi ⟨id,hS,hb⟩⟩
theorem eQ {f:Nat} {args:List AV} {dst:Option Nat} {r:List bA} {acc:List fH} {ms:List Nat} {K:St->Prop} {t:Fr} {m:Mem} {n:Nat} (ρ:Ren) (cU:List AV) (m0:Mem) {r0:AV} {m1:Mem} {nb:Nat} (h:bT P f cU m0 λr m'=>r=r0/\m'=m1) (b8:bC nb ρ=true) (iv:aj (ag ρ) cU=args) (dh:bF (ag ρ) cU=true)
 (hh:handed ρ m m0) (ji:(ρ.all λp=>(ai m0 p.1).isSome)=true)
 (hk:eW P r (⟨dX ρ m1 n,ρ.map (·.2)⟩::acc) ms ⟨cK t dst (r0.aC (bX ρ m0 m1 n)),bn ρ m0 m1 n m,n+Nat.max (aw m0) (aw m1)⟩ K):mD P f args dst r acc ms K t m n:=by
 unfold mD ra;exact Or.inl ⟨ρ,m0,cU,r0,m1,nb,b8,iv.symm,dh,hh,λj id hj=>List.all_eq_true.1 ji _ (ix hj),h,hk⟩
end Go.Jq
namespace Go.Proofs.YtjfdjkageiemkaaGreatDoor
open Go Go.Jq
theorem Fo (l:List bz) (h:l.length<=1000000000000):dM bz.cells l (.sl l.length (bH l)):=⟨by omega,.inr rfl⟩
theorem nA (l:List bz):(bH l).take (l.length*7)=bH l:=ac8 (by rw[tq];exact acV _)
theorem Xr {steps:List bz} (fw:steps.length<=1000000000000) (m:Int):
 bT Tryz.prog 209 [.sl 0 7 0 steps.length,aq m] [(0,(bH steps).map .d)] λr m'=>r=.agg ((Hp steps m).cells.map .d)/\m'=[(0,(bH steps).map .d)]:=
 bT.aao [(0,bH steps)] _ _ (SO (Fo steps fw) fw m) (by simp[bD,ai,cF]) (by simp[dn,AV.cv,bI,nA]) (by simp[kU,Rl.cells,rC];induction (Hp steps m).rows<;>simp_all [rC,kU,ID])
theorem Qc (r:Rl) (a b:Int):(r.add a b).n=r.n:=by
 unfold Rl.add;split<;>rfl
theorem yX {α:Type} (f:Rl->α->Rl) (hf:∀r x,(f r x).n=r.n):∀(l:List α) (r:Rl),(l.foldl f r).n=r.n
 | [],_=>rfl
 |a::l,r=>by rw[adB,yX f hf l,hf]
theorem Fp (steps:List bz) (m:Int) (i:Nat) (r:Rl) (j:Nat):(om steps m i r j).n=r.n:=by
 unfold om
 repeat' split
 all_goals first|rfl|exact Qc _ _ _
theorem HP (r:Rl) (steps:List bz) (m:Int) (i:Nat):(iB r steps m i).n=r.n:=by
 unfold iB;dsimp only
 repeat' split
 all_goals first
  |rfl
  |(rw[yX _ λr x=>Fp steps m i r x];done)
  |(rw[yX _ λr x=>Fp steps m i r x,Qc];done)
theorem SQ (steps:List bz) (m:Int) (r:Rl) (i:Nat):(AN steps m r i).n=r.n:=by
 have hu:∀j,(qQ steps m i r j).n=r.n:=λj=>yX _ (λr x=>by rw[CK];split<;>first|rfl|exact Qc _ _ _) _ _;rw[yM];split;·rw[HP,hu]
 ·exact hu _
theorem aap (steps:List bz) (m:Int):(Hp steps m).n<=steps.length:=by
 rw[CL];split;·simp[ff]
 ·show(pS steps m steps.length).n<=_;unfold pS;rw[yX _ λr x=>SQ steps m r x];simp[ff];omega
theorem nB (f:Fm) (l:List Fm) (D:List DV) (Ds:List (List DV)):eH (f::l) (D::Ds)=.bj D::cX f.sleep::cX f.back::eH l Ds:=rfl
theorem cH (g:Nat->Option Nat) (l:List Fm) (Ds:List (List DV)):bF g (eH l Ds)=true:=by
 unfold eH;induction l.zip Ds with
 |nil=>rfl
 |cons a t ih=>rw[adr,x7,ih];rfl
theorem pU:∀{l:List Fm} {Ds:List (List DV)} {i:Nat} {f:Fm} {D:List DV},l[i]?=some f->Ds[i]?=some D->∃rest,(eH l Ds).drop (i*3)=rY (f,D)++rest
 |f'::l,D'::Ds,0,f,D,h1,h2=>by cases h1;cases h2;exact⟨eH l Ds,rfl⟩
 |f'::l,D'::Ds,i+1,f,D,h1,h2=>by
  obtain⟨rest,hr⟩:=pU (l:=l) (Ds:=Ds) (i:=i) h1 h2;exact⟨rest,by rw[nB,Nat.add_mul,<-hr];rfl⟩
 | [],_,_,_,_,h1,_=>by simp at h1
 |_::_,[],_,_,_,_,h2=>by simp at h2
theorem SR {l:List Fm} {Ds:List (List DV)} {i:Nat} {f:Fm} {D:List DV} (h1:l[i]?=some f) (h2:Ds[i]?=some D):aP (some 3) ((eH l Ds).drop (i*3))=some (.agg (rY (f,D))):=by
 obtain⟨rest,hr⟩:=pU h1 h2;rw[hr];rfl
theorem Xs {l:List Fm} {Ds:List (List DV)} {i:Nat} {f:Fm} {D:List DV} (h1:l[i]?=some f) (h2:Ds[i]?=some D):aP none ((eH l Ds).drop (i*3))=some (.bj D):=by
 obtain⟨rest,hr⟩:=pU h1 h2;rw[hr];rfl
theorem u7 {l:List Fm} {Ds:List (List DV)} {i:Nat} {f:Fm} {D:List DV} (h1:l[i]?=some f) (h2:Ds[i]?=some D):aP none ((eH l Ds).drop (i*3+1))=some (cX f.sleep):=by
 obtain⟨rest,hr⟩:=pU h1 h2;rw[<-List.drop_drop,hr];rfl
theorem yY {l:List Fm} {Ds:List (List DV)} {i:Nat} {f:Fm} {D:List DV} (h1:l[i]?=some f) (h2:Ds[i]?=some D):aP none ((eH l Ds).drop (i*3+2))=some (cX f.back):=by
 obtain⟨rest,hr⟩:=pU h1 h2;rw[<-List.drop_drop,hr];rfl
theorem Fq:∀{l:List Fm} {Ds:List (List DV)} {i:Nat} {f:Fm} {D:List DV} (b:Nat),l[i]?=some f->Ds[i]?=some D->(eH l Ds).set (i*3+2) (cX b)=eH (l.set i {f with back:=b}) Ds
 |f'::l,D'::Ds,0,f,D,b,h1,h2=>by cases h1;cases h2;rfl
 |f'::l,D'::Ds,i+1,f,D,b,h1,h2=>by
  rw[nB,show(i+1)*3+2=i*3+2+3 by omega,List.set_cons_succ,List.set_cons_succ,List.set_cons_succ,Fq (l:=l) (Ds:=Ds) b h1 h2];rfl
 | [],_,_,_,_,_,h1,_=>by simp at h1
 |_::_,[],_,_,_,_,_,h2=>by simp at h2
theorem Fs:∀{l:List Fm} {Ds:List (List DV)} {i:Nat} {f:Fm} {D:List DV} (b:Nat),l[i]?=some f->Ds[i]?=some D->(eH l Ds).set (i*3+1) (cX b)=eH (l.set i {f with sleep:=b}) Ds
 |f'::l,D'::Ds,0,f,D,b,h1,h2=>by cases h1;cases h2;rfl
 |f'::l,D'::Ds,i+1,f,D,b,h1,h2=>by
  rw[nB,show(i+1)*3+1=i*3+1+3 by omega,List.set_cons_succ,List.set_cons_succ,List.set_cons_succ,Fs (l:=l) (Ds:=Ds) b h1 h2];rfl
 | [],_,_,_,_,_,h1,_=>by simp at h1
 |_::_,[],_,_,_,_,_,h2=>by simp at h2
end Go.Proofs.YtjfdjkageiemkaaGreatDoor
namespace Go.Proofs.YtjfdjkageiemkaaGreatDoor
open Go.Proofs.Tryz
open Go.Proofs.Tryz renaming prog → aM
section
open Go Go.Jq
structure oW (l:List Fm):Prop where
 sleep:∀f∈l,f.sleep<18446744073709551616
 back:∀f∈l,f.back<18446744073709551616
theorem Lp (steps:List bz) (r:Rl) (st:List Fm) (x:Nat×Nat):(nu steps r st x).length=st.length:=by
 unfold nu;split;·rfl
 ·split;·rfl
  ·dsimp only;split;·rfl
   ·rw[List.length_set]
theorem Qd {steps:List bz} {r:Rl} {st:List Fm} (h:oW st) (x:Nat×Nat):oW (nu steps r st x):=by
 unfold nu;split;·exact h
 ·split;·exact h
  ·rename_i f hf;dsimp only;split;·exact h
   ·have hm:=List.mem_of_getElem? hf;refine⟨λg hg=>?_,λg hg=>?_⟩
    ·rcases List.mem_or_eq_of_mem_set hg with h1|rfl;·exact h.sleep g h1
     ·exact h.sleep f hm
    ·rcases List.mem_or_eq_of_mem_set hg with h1|rfl;·exact h.back g h1
     ·exact gK (h.back f hm) _
def u9 (steps:List bz) (r:Rl) (st:List Fm) (L:List (Nat×Nat)) (i:Nat):List Fm:=(L.take i).foldl (nu steps r) st
theorem Lq (steps:List bz) (r:Rl) (st:List Fm) {L:List (Nat×Nat)} {i:Nat} (hi:i<L.length):u9 steps r st L (i+1)=nu steps r (u9 steps r st L i) (L.getD i (0,0)):=by
 unfold u9;rw[adG,adl,ac6 hi,List.foldl_append];rfl
theorem rZ (steps:List bz) (r:Rl):∀(L:List (Nat×Nat)) (st:List Fm),(L.foldl (nu steps r) st).length=st.length
 | [],_=>rfl
 |a::L,st=>by rw[adB,rZ,Lp]
theorem vc (steps:List bz) (r:Rl):∀(L:List (Nat×Nat)) (st:List Fm),oW st->oW (L.foldl (nu steps r) st)
 | [],_,h=>h
 |a::L,st,h=>vc steps r L _ (Qd h a)
theorem Ft (steps:List bz) (r:Rl) (st:List Fm) (L:List (Nat×Nat)) (i:Nat):(u9 steps r st L i).length=st.length:=rZ _ _ _ _
theorem SS (steps:List bz) (r:Rl) {st:List Fm} (h:oW st) (L:List (Nat×Nat)) (i:Nat):oW (u9 steps r st L i):=vc _ _ _ _ h
theorem Lr (w:Wk):ie w={w with stack:=u9 w.steps (Hp w.steps w.m) w.stack (gv (Hp w.steps w.m) w.steps w.m) (gv (Hp w.steps w.m) w.steps w.m).length}:=by
 unfold u9;rw[List.take_length];rfl
theorem Fu {r:Rl} {steps:List bz} {m:Int} {x:Nat×Nat} (h:x∈gv r steps m):x.1<x.2/\x.2<r.n:=by
 unfold gv at h;rw[List.mem_flatMap]at h;obtain⟨k,hk,hx⟩:=h;rw[List.mem_map]at hx;obtain⟨i,hi,rfl⟩:=hx;rw[List.mem_filter]at hi;exact⟨List.mem_range.1 hi.1,List.mem_range.1 hk⟩
theorem Qe (l:List (Nat×Nat)) {i:Nat} (hi:i<l.length):∃rest,(fp l).drop (i*2)=yQ (l.getD i (0,0))++rest/\i*2<(fp l).length:=by
 refine⟨(l.drop (i+1)).flatMap yQ,?_,by rw[qD];omega⟩;unfold fp;rw[rV Fg,List.drop_eq_getElem_cons hi,adr,adl,ac6 hi];rfl
theorem Fv {r:Rl} (h:r.ok) (steps:List bz) (m:Int):(gv r steps m).length<=4096:=by
 rw[yS];exact JC r steps m h.1
def Fw (w:Wk) (Ds:List (List DV)) (r:Rl) (st:List Fm) (L:List (Nat×Nat)) (i:Nat):St:=
 ⟨[(0,.ptr 0 0),(2,.ptr 4 0),(3,aq ((w.steps.length:Int)-1)),(33,.d (.sl L.length (fp L))),(34,aq L.length),(35,aq i)],
  [(0,dR w.m w.aO w.stack.length w.steps.length w.runs.length w.blocked w.aS),(1,eH st Ds),(2,(bH w.steps).map .d),(3,(cC w.runs).map .d),(4,r.cells.map .d)],5⟩
theorem Fx {w:Wk} {Ds:List (List DV)} (hD:Ds.length=w.stack.length) (b8:oW w.stack) (hn:w.steps.length<=1000000000) (hl:w.steps.length<=w.stack.length) (hb:w.stack.length<=1000000000000):
 bT aM 133 [.ptr 0 0] (gA w Ds) λr' m'=>r'=.cu []/\m'=gA (ie w) Ds:=by
 have rM:=Qb w.steps w.m;have hrn:=aap w.steps w.m;have kh:=Xr (steps:=w.steps) (by omega) w.m;have hLl:=Fv rM w.steps w.m;have hLm:∀x∈gv (Hp w.steps w.m) w.steps w.m,x.1<w.steps.length/\x.2<w.steps.length:=λx hx=>by have:=Fu hx;omega
 have kr:=z6 (steps:=w.steps) w.m rM hrn;have hre:=Lr w;have q5:ac9.wrap ((w.steps.length:Int)-1)=(w.steps.length:Int)-1:=by rw[wrap_i64 (by omega) (by omega)]
 rw[hre];generalize Hp w.steps w.m=R at rM hrn kh hLl hLm kr;generalize gv R w.steps w.m=L at hLl hLm kr;have h0:(ff 0).ok:=fh 0;unfold gA;dsimp only;rw[Ft];clear hre;refine ay func133 OB ntmps133 results133 rfl ?_;unfold UH;refine aa λK hK=>az rfl rfl ?_;simp only[go_sem,dR]
 refine eQ [(0,2)] [.sl 0 7 0 w.steps.length,aq w.m] [(0,(bH w.steps).map .d)] (nb:=1000) (kh) (by simp[bC]) (by first|(simp[aj,AV.aC,ag];done)|simp[aj,AV.aC,ag,aJ,ky,ig,bu rM,cG rM,dJ,eY rM (bu h0),bu h0,cG h0,ac2,acV]) (by first|(simp[bF,bE,ag];done)|simp[bF,bE,ag,aJ,ky,ig,bu rM,cG rM,dJ,eY rM (bu h0),bu h0,cG h0,ac2,acV]) (by simp[handed,ag,ai,an,aB,aj,AV.aC,bF,bE,cT,aJ,ky,ig,bu rM,cG rM,dJ,eY rM (bu h0),bu h0,cG h0,ac2,acV]) rfl ?_;simp only[go_sem,dX,ade,adu,bn,bL,bN,ai,an,aB,bX,ag,aj,bG,AV.aC,adj,adb,adg,adi,adm,ac5,aJ,ky,ig,bu rM,cG rM,dJ,eY rM (bu h0),bu h0,cG h0,ac2,acV]
 refine⟨rfl,hK _ ?_⟩;refine J λK hK=>?_;simp only[go_sem,q5];apply hK;refine aa λK hK=>az rfl rfl ?_;simp only[go_sem,ac3,b6 rM];refine eQ [(0,2)] [.agg (R.cells.map .d),.sl 0 7 0 w.steps.length,aq w.m] [(0,(bH w.steps).map .d)] (nb:=1000) (kr) (by simp[bC]) (by first|(simp[aj,AV.aC,ag];done)|simp[aj,AV.aC,ag,aJ]) (by first|(simp[bF,bE,ag];done)|simp[bF,bE,ag,aJ]) (by simp[handed,ag,ai,an,aB,aj,AV.aC,bF,bE,cT,aJ]) rfl ?_;simp only[go_sem,dX,ade,adu,bn,bL,bN,ai,an,aB,bX,ag,aj,bG,AV.aC,adj,adb,adg,adi,adm,ac5,aJ];refine⟨rfl,hK _ ?_⟩;apply aA
 refine ax (S':=Fw w Ds R (u9 w.steps R w.stack L 0) L 0) (aH.cN [(0,0),(1,1),(2,2),(3,3),(13,4)] ⟨by simp[Fw,bm,ah,AV.aC,aj,ag],by simp[Fw,u9,dR,aJ,aL,aI,ai,an,aj,AV.aC,ag,-acU],rfl,rfl⟩) ?_;refine bM (λi=>Fw w Ds R (u9 w.steps R w.stack L i) L i) L.length ?_;intro i hi;have Qf:=Ft w.steps R w.stack L i;have SU:=SS w.steps R b8 L i;unfold I5;by_cases bd:i<L.length
 ·have aQ:(i:Int)<L.length:=by omega
  have hw:=c8 (i:=i) (by omega);have b0:=Lq w.steps R w.stack bd;obtain⟨rest,bU,b9⟩:=Qe L bd;have hLx:(L.getD i (0,0)).1<w.steps.length/\(L.getD i (0,0)).2<w.steps.length:=by
   rw[adl,ac6 bd];exact hLm _ (adt bd)
  generalize L.getD i (0,0)=x at b0 bU hLx;obtain⟨a,b⟩:=x;generalize u9 w.steps R w.stack L i=st at b0 Qf SU;unfold nu at b0;simp only at b0 hLx;unfold Fw;refine J λK hK=>?_;simp only[go_sem,aQ];apply hK;refine aa λK1 a8=>?_;refine aN ?_;apply au;apply a8;refine aa λK1 a8=>?_;apply aA;have fin:∀st',u9 w.steps R w.stack L (i+1)=st'->∀(f:Fr) (n:Nat),5<=n->ah f 0=.ptr 0 0->ah f 2=.ptr 4 0->ah f 3=aq ((w.steps.length:Int)-1)->ah f 33=.d (.sl L.length (fp L))->ah f 34=aq L.length->ah f 35=aq i->
   ∀M,ai M 0=some (dR w.m w.aO w.stack.length w.steps.length w.runs.length w.blocked w.aS)->ai M 1=some (eH st' Ds)->ai M 2=some ((bH w.steps).map .d)->ai M 3=some ((cC w.runs).map .d)->ai M 4=some (R.cells.map .d)->K1 ⟨f,M,n⟩:=by
   intro st' he f n Q8 g0 g2 g3 g33 g34 g35 M m0 m1 m2 m3 m4;apply a8;refine af (by simp[aw];omega) ?_;simp only[go_sem,g35,hw];refine⟨bd,aH.cN [(0,0),(1,1),(2,2),(3,3),(4,4)] ⟨?_,?_,rfl,rfl⟩⟩;·simp[Fw,bm,ah,AV.aC,ag,g0,g2,g3,g33,g34,g35]
   ·simp[Fw,he,dR,aJ,aL,aI,ai,aj,AV.aC,ag,m0,m1,m2,m3,m4,-acU]
  refine J λK hK=>?_;simp only[go_sem,acX,aQ,bd,acW,b9,bU,yQ,List.cons_append,adF];apply hK;refine aa λK2 fx=>?_;refine J λK hK=>?_;simp only[go_sem];apply hK;by_cases hbq:b≠w.steps.length-1
  ·rw[if_pos hbq]at b0;have Xt:¬(b:Int)=(w.steps.length:Int)-1:=by omega
   refine aN ?_ (by simp[ev,ah,Xt]);apply aZ;show K1 _;exact fin st b0 _ _ (by decide) rfl rfl rfl rfl rfl rfl _ rfl rfl rfl rfl rfl
  have Xt:(b:Int)=(w.steps.length:Int)-1:=by omega
  rw[if_neg hbq]at b0;refine aK ?_ (by simp[ev,ah,Xt]);apply au;apply fx;have ha:a<st.length:=by omega
  have BX:st[a]?=some st[a]:=ac6 ha;have JG:Ds[a]?=some Ds[a]:=ac6 (by omega);rw[BX]at b0;simp only at b0;have Rj:=SU.sleep _ (adt ha);have Xu:=SU.back _ (adt ha);have ki:=yW (w:={w with stack:=st}) (Ds:=Ds) (by show Ds.length=st.length;omega) rM hn a (by omega);unfold gA at ki;dsimp only at ki;rw[Qf]at ki;have gx:lv w.steps R a<18446744073709551616:=by rw[we];exact Ba _ _ _ _
  generalize lv w.steps R a=need at b0 ki gx;generalize st[a]=fm at b0 BX Rj Xu;generalize Ds[a]=D at JG;have kc:=Fb Xu gx;have ha1:(a:Int)<w.stack.length:=by omega
  have ha2:a<w.stack.length:=by omega
  have hand:=ml gx Rj;have iZ:a*3+2+1<=(eH st Ds).length:=by rw[tx (by omega)];omega
  refine aa λK hK=>az rfl rfl ?_;simp only[go_sem,dR,acX,ha1,ha2,acW,ac2];refine⟨rfl,hK _ ?_⟩;refine J λK hK=>?_;simp only[go_sem,ac3,b6 rM];refine bt [(0,0),(1,1),(2,2),(3,3)] [.ptr 0 0,.agg (R.cells.map .d),aq a] [(0,dR w.m w.aO w.stack.length w.steps.length w.runs.length w.blocked w.aS),(1,eH st Ds),(2,(bH w.steps).map .d),(3,(cC w.runs).map .d)] (nb:=1000) (ki) (by simp[bC]) (by first|(simp[aj,AV.aC,ag];done)|simp[aj,AV.aC,ag,dR,aJ,cH,cT]) (by first|(simp[bF,bE,ag];done)|simp[bF,bE,ag,dR,aJ,cH,cT]) (by simp[handed,ag,ai,an,aB,aj,AV.aC,bF,bE,dR,aJ,cH,cT]) rfl ?_;rintro r0 m' ⟨rfl,rfl⟩
  simp only[go_sem,bn,bL,bN,ai,an,aB,bX,ag,aj,bG,AV.aC,adj,adb,adg,adi,adm,ac5,dR,aJ,cH,cT];apply hK;refine aa λK3 Gs=>?_;refine J λK hK=>?_;simp only[go_sem,yY BX JG];refine aY (kc) ?_;simp only[go_sem];apply hK;cases hb:sZ fm.back need
  case true=>
   rw[hb]at b0;refine aN ?_;apply aZ;show K1 _;exact fin st b0 _ _ (by decide) rfl rfl rfl rfl rfl rfl _ (by simp[ai,dR]) rfl rfl rfl rfl
  case false=>
   rw[hb]at b0;simp only[ac5,↓reduceIte]at b0;refine aK ?_;apply au;apply Gs;refine aa λK4 Mi=>?_;refine J λK hK=>?_;simp only[go_sem,u7 BX JG,hand];apply hK;have tail:∀nd:Nat,nd<18446744073709551616->nd=(if need&&&fm.sleep=0 then need else need&&&fm.sleep)->∀(f:Fr) (n:Nat),5<=n->ah f 7=cX nd->ah f 6=.ptr 1 (a*3)->ah f 0=.ptr 0 0->ah f 2=.ptr 4 0->ah f 3=aq ((w.steps.length:Int)-1)->ah f 33=.d (.sl L.length (fp L))->ah f 34=aq L.length->ah f 35=aq i->
    ∀A M,M=[(0,dR w.m w.aO w.stack.length w.steps.length w.runs.length w.blocked w.aS),(1,eH st Ds),(2,(bH w.steps).map .d),(3,(cC w.runs).map .d),(4,R.cells.map .d),(5,A)]->K4 ⟨f,M,n⟩:=by
    intro nd Z1 l6 f n Q8 g7 g6 g0 g2 g3 g33 g34 g35 A M hM;subst hM;rw[<-l6]at b0;have k1:=jZ Z1;have k2:=gi Xu (dO nd);apply Mi;refine az rfl (by simp[aw];omega) ?_;simp only[go_sem,g7,g6,yY BX JG];refine ea (k1) ?_;simp only[go_sem];refine ea (k2) ?_;simp only[go_sem,g6,Fq (ed fm.back (dO nd)) BX JG,iZ];refine⟨rfl,?_⟩;refine fin _ b0 _ _ ?_ ?_ ?_ ?_ ?_ ?_ ?_ _ ?_ ?_ ?_ ?_ ?_;·omega
    all_goals first|rfl|simp[ah,ai,g0,g2,g3,g33,g34,g35]
   refine J λK hK=>?_;simp only[go_sem];apply hK;by_cases hz:need&&&fm.sleep=0
   ·refine aK ?_ (by simp[ev,ah,hz]);apply au;exact tail need gx (by rw[if_pos hz]) _ _ (by decide) rfl rfl rfl rfl rfl rfl rfl rfl _ _ rfl
   ·refine aN ?_ (by simp[ev,ah];omega);refine af rfl ?_;simp only[go_sem];exact tail _ (xc gx _) (by rw[if_neg hz]) _ _ (by decide) rfl rfl rfl rfl rfl rfl rfl rfl _ _ rfl
 ·have dh:i=L.length:=by omega
  subst dh;have aQ:¬(L.length:Int)<L.length:=by omega
  generalize kH:u9 w.steps R w.stack L L.length=st at Qf SU;unfold Fw;refine J λK hK=>?_;simp only[go_sem,aQ];apply hK;refine aa λK1 a8=>?_;refine aK ?_;apply aZ;exact⟨.cu [],by simp[bB,aV,bK,ah,ai,an,aB,dR,aJ,kH],[(0,0),(1,1),(2,2),(3,3)],[(0,dR w.m w.aO w.stack.length w.steps.length w.runs.length w.blocked w.aS),(1,eH st Ds),(2,(bH w.steps).map .d),(3,(cC w.runs).map .d)],rfl,rfl,by simp[aL,aI,ai,an,aB,aj,AV.aC,ag,ae,-acU,dR,aJ,kH],by simp[AV.aC,aj,ag,dR,aJ,kH]⟩
theorem SV (x:Int):Mh [x]=ma x:=by simp[Mh,ed]
theorem Bb {l:List Fm} {Ds:List (List DV)} (h:Ds.length=l.length) (f:Fm) (D:List DV):eH (l++[f]) (Ds++[D])=eH l Ds++rY (f,D):=by
 unfold eH;rw[List.zip_append h.symm,List.flatMap_append];simp
theorem tz (g:Nat->Option Nat) (z:Nat->Option (List DV)) (l:List Fm) (Ds:List (List DV)):dn g z (eH l Ds)=eH l Ds:=by
 unfold eH;induction l.zip Ds with
 |nil=>rfl
 |cons a t ih=>rw[adr,ba,ih];rfl
theorem Qg (x:Int):bT aM 198 [.sl 0 1 0 1] [(0,[aq x])] λr m'=>r=cX (ma x)/\m'=[(0,[aq x])]:=by
 have k:=Su (l:=[x]) (X:=.sl 1 [.int .i64 x]) ⟨by simp,.inr rfl⟩;rw[SV]at k;exact bT.aao [(0,[.int .i64 x])] _ _ k (by simp[bD,ai,dn,AV.cv]) (by simp[dn,AV.cv,bI]) rfl
theorem JH {d:l8} {w:Wk} {Ds:List (List DV)} (hD:Ds.length=w.stack.length) {D:List DV} {v:Vm} (hv:rU d v D) {cJ:Nat} (hs:cJ<18446744073709551616) (fw:w.stack.length<=1000000000) (wL:0<=w.blocked/\w.blocked<=1000000000) (he:v.enabled≠0):
 bT aM 126 [.ptr 0 0,.bj D,cX cJ] (gA w Ds) λr' m'=>r'=.cu []/\m'=VS 4 2 3 (et w v cJ) (Ds++[D]):=by
 obtain⟨b8,hg,hp,kH,S,rfl,hS⟩:=hv;have ke:=ll (d:=d) (S:=S) b8 hp;have nO:=yF v;have hpw:et w v cJ={w with blocked:=if dO (dB v.enabled cJ)<0 then w.blocked+1 else w.blocked,stack:=w.stack++[⟨v,cJ,ma (dO (dB v.enabled cJ))⟩]}:=by
  unfold et;simp only[he,↓reduceIte];split<;>rfl
 have JI:=uO nO cJ;have Rh:=oe nO hs;have k1:=jZ JI;rw[hpw];generalize v.enabled=en at he ke nO JI Rh k1;generalize acM:dO (dB en cJ)=fst at k1;have ko:=Qg fst;unfold gA VS;dsimp only;refine ay func126 EG ntmps126 results126 rfl ?_;unfold Ou;refine J λK hK=>?_;simp only[go_sem];refine aY (ke) ?_;simp only[go_sem];refine hK _ (J λK hK=>?_);simp only[go_sem,Rh];refine aY (k1) ?_;simp only[go_sem];apply hK;refine aa λKE fK=>?_;have hwb:ac9.wrap (w.blocked+1)=w.blocked+1:=by rw[wrap_i64 (by omega) (by omega)]
 have hen:¬(en:Int)=0:=by omega
 have uU:(w.stack.length+1)*24<=140737488351232:=by omega
 have iZ:=tx hD;have tail:∀bl,bl=(if fst<0 then w.blocked+1 else w.blocked)->∀f,ah f 0=.ptr 0 0->ah f 1=.bj (iI d v++[S])->ah f 2=cX cJ->ah f 7=aq fst->
  KE ⟨f,[(0,dR w.m w.aO w.stack.length w.steps.length w.runs.length bl w.aS),(1,eH w.stack Ds),(2,(bH w.steps).map .d),(3,(cC w.runs).map .d)],4⟩:=by
  intro bl acd f g0 g1 g2 g7;apply fK;refine az rfl rfl ?_;simp only[go_sem,g0,g1,g2,g7,dR,iZ];refine eQ [(0,12)] [.sl 0 1 0 1] [(0,[aq fst])] (nb:=1000) (ko) (by simp[bC]) (by first|(simp[aj,AV.aC,ag];done)|simp[aj,AV.aC,ag,aJ,g0,g1,g2,iZ,uU]) (by first|(simp[bF,bE,ag];done)|simp[bF,bE,ag,aJ,g0,g1,g2,iZ,uU]) (by simp[handed,ag,ai,an,aB,aj,AV.aC,bF,bE,cT,aJ,g0,g1,g2,iZ,uU]) rfl ?_;simp only[go_sem,dX,ade,adu,bn,bL,bN,ai,an,aB,bX,ag,aj,bG,AV.aC,adj,adb,adg,adi,adm,ac5,aJ,g0,g1,g2,iZ,uU];refine⟨rfl,?_⟩;rw[Bb hD,<-acd]
  exact⟨.cu [],by simp[bB,aV,bK,ah,ai,an,aB,jm,aJ,rY,ae],[(0,0),(16,4),(2,2),(3,3)],[(0,jm 4 2 3 w.m w.aO (w.stack++[Fm.mk v cJ (ma fst)]).length w.steps.length w.runs.length bl w.aS),(4,eH w.stack Ds++rY (Fm.mk v cJ (ma fst),iI d v++[S])),(2,(bH w.steps).map .d),(3,(cC w.runs).map .d)],rfl,rfl,by simp[aL,aI,ai,an,aB,aj,AV.aC,ag,ae,-acU,jm,aJ,rY,ae],by simp[AV.aC,aj,ag,jm,aJ,rY,ae]⟩
 apply aA;refine J λK hK=>?_;simp only[go_sem,hen,decide_false];apply hK;refine aK ?_;by_cases hf:fst<0
 ·refine J λK hK=>?_;simp only[go_sem,hf,decide_true];apply hK;refine aN ?_;refine af rfl ?_;simp only[go_sem,dR,hwb];exact tail _ (by rw[if_pos hf]) _ rfl rfl rfl rfl
 ·refine J λK hK=>?_;simp only[go_sem,hf,decide_false];apply hK;refine aK ?_;apply au;exact tail _ (by rw[if_neg hf]) _ rfl rfl rfl rfl
def VU (w:Wk) (Ds:List (List DV)) (D:List DV) (cJ:Nat) (i:Nat) (pk:List DV):St:=
 ⟨[(0,.ptr 0 0),(1,.bj D),(2,cX cJ),(7,aq (-1)),(8,.sl 4 1 0 i),(23,.sl 2 7 0 w.steps.length),(24,aq w.steps.length),(25,aq i)],
  se w Ds [(4,pk.map .d)],5⟩
theorem Xv (l:List bz):DV.sl l.length (wg l)=CN (l.map (·.pick)):=by
 unfold CN wg;rw[acY,acU];rfl
theorem nC (l:List (List Int)):(cC l).length=l.length:=by simp[cC]
theorem Fy {d:l8} {w:Wk} {Ds:List (List DV)} (hD:Ds.length=w.stack.length) {D:List DV} {v:Vm} (hv:rU d v D) {cJ:Nat} (hs:cJ<18446744073709551616) (fw:w.stack.length<=1000000000) (hrb:w.runs.length<=1000000000) (Xe:w.steps.length<=1000000000) (he:v.enabled=0):
 bT aM 126 [.ptr 0 0,.bj D,cX cJ] (gA w Ds) λr' m'=>r'=.cu []/\m'=VS 4 2 5 (et w v cJ) (Ds++[D]):=by
 obtain⟨b8,hg,hp,kH,S,rfl,hS⟩:=hv;have ke:=ll (d:=d) (S:=S) b8 hp;have SX:dB 0 cJ=0:=by simp[dB]
 have hpw:et w v cJ={w with runs:=w.runs++[w.steps.map (·.pick)],stack:=w.stack++[⟨v,cJ,ma (-1)⟩]}:=by
  unfold et;simp only[he,↓reduceIte,SX];rfl
 have Rh:=oe (a:=0) (by decide) hs;rw[SX]at Rh;change bits .andNot .u64 0 (cJ:Int)=0 at Rh;have k1:=jZ (s:=0) (by decide);change Pure aM 127 [cX 0] (aq (-1))at k1;rw[hpw];rw[he]at ke;have ko:=Qg (-1);have uU:(w.stack.length+1)*24<=140737488351232:=by omega
 have ace:(w.runs.length+1)*24<=140737488351232:=by omega
 have iZ:=tx hD;have nH:=nC w.runs;unfold gA VS;dsimp only;refine ay func126 EG ntmps126 results126 rfl ?_;unfold Ou;refine J λK hK=>?_;simp only[go_sem];refine aY (ke) ?_;simp only[go_sem];refine hK _ (J λK hK=>?_);simp only[go_sem,Rh];refine aY (k1) ?_;simp only[go_sem];apply hK;refine aa λKE fK=>?_;apply aA;refine J λK hK=>?_;simp only[go_sem];apply hK;refine aN ?_;refine J λK hK=>?_;simp only[go_sem];apply hK;refine aa λK2 fx=>?_;refine J λK hK=>?_;simp only[go_sem,dR];apply hK;apply aA;refine ax (aH.nil 8 1 rfl rfl) ?_
 refine ax (S':=VU w Ds (iI d v++[S]) cJ 0 (wg (w.steps.take 0))) (aH.cN [(0,0),(1,1),(2,2),(3,3),(4,4)] ⟨by simp[VU,bm,ah,AV.aC,aj,ag],by simp[VU,se,wg,dR,aJ,aL,aI,ai,an,aj,AV.aC,ag,-acU],rfl,rfl⟩) ?_;refine bM (λi=>VU w Ds (iI d v++[S]) cJ i (wg (w.steps.take i))) w.steps.length ?_;intro i hi;unfold I3;by_cases bd:i<w.steps.length
 ·have aQ:(i:Int)<w.steps.length:=by omega
  have hw:=c8 (i:=i) (by omega);have kH:=xn bd;have Mg:=JF bd;have rv:(wg (w.steps.take i)).length=i:=by rw[yV,List.length_take];omega
  have h8:(i+1)*8<=140737488351232:=by omega
  generalize w.steps.getD i cp=a at kH Mg;generalize wg (w.steps.take i)=pk at Mg rv;unfold VU se;refine J λK hK=>?_;simp only[go_sem,aQ];apply hK;refine aa λK1 a8=>?_;refine aN ?_;apply au;apply a8;refine aa λK1 a8=>?_;apply aA;refine J λK hK=>?_;simp only[go_sem,acX,aQ,bd,acW,acY,ac2,kH,bz.cells];apply hK;refine af rfl ?_;simp only[go_sem,h8,acY,rv,ac2,bz.cells];apply a8;refine af rfl ?_;simp only[go_sem,hw];refine⟨bd,?_⟩;exact aH.cN [(0,0),(1,1),(2,2),(3,3),(7,4)] ⟨by simp[bm,ah,AV.aC,aj,ag,VU,se,dR,aJ,Mg],by simp[aL,aI,ai,an,aB,aj,AV.aC,ag,ae,-acU,VU,se,dR,aJ,Mg],rfl,rfl⟩
 ·have dh:i=w.steps.length:=by omega
  subst dh;have aQ:¬(w.steps.length:Int)<w.steps.length:=by omega
  have hpr:=Xv w.steps;have rv:=yV w.steps;rw[List.take_length];unfold VU se;refine J λK hK=>?_;simp only[go_sem,aQ];apply hK;refine aa λK1 a8=>?_;refine aK ?_;apply aZ;show K2 _;apply fx;refine af rfl ?_;simp only[go_sem,dR,ace,nH,acY];apply fK;have Xw:(wg w.steps).take w.steps.length=wg w.steps:=ac8 (by rw[yV];exact acV _);have GR:cC (w.runs++[w.steps.map (·.pick)])=cC w.runs++[CN (w.steps.map (·.pick))]:=by simp[cC]
  have acf:(w.runs++[w.steps.map (·.pick)]).length=w.runs.length+1:=by simp
  rw[GR,acf,<-hpr];refine ax (aH.jn (S':=⟨[(0,.ptr 0 0),(1,.bj (iI d v++[S])),(2,cX cJ),(7,aq (-1))],[(0,jm 1 2 5 w.m w.aO w.stack.length w.steps.length (w.runs.length+1) w.blocked w.aS),(1,eH w.stack Ds),(2,(bH w.steps).map .d),(5,(cC w.runs).map .d++[.d (.sl w.steps.length (wg w.steps))])],6⟩) [(0,0),(1,1),(2,2),(6,5)] [(4,wg w.steps)] ⟨by simp[fO,ah,AV.cv,dn,bI,ag,tz,Xw,jm],by simp[gd,aI,bI,ai,an,aB,dn,AV.cv,ag,cF,ba,-acU,tz,Xw,jm],rfl,rfl,by simp[bD,bI,ai,an,aB,dn,AV.cv,cF,ba,-acU,tz,Xw,jm]⟩) ?_;refine az rfl rfl ?_;simp only[go_sem,jm,iZ]
  refine eQ [(0,14)] [.sl 0 1 0 1] [(0,[aq (-1)])] (nb:=1000) (ko) (by simp[bC]) (by first|(simp[aj,AV.aC,ag];done)|simp[aj,AV.aC,ag,aJ,iZ,uU]) (by first|(simp[bF,bE,ag];done)|simp[bF,bE,ag,aJ,iZ,uU]) (by simp[handed,ag,ai,an,aB,aj,AV.aC,bF,bE,cT,aJ,iZ,uU]) rfl ?_;simp only[go_sem,dX,ade,adu,bn,bL,bN,ai,an,aB,bX,ag,aj,bG,AV.aC,adj,adb,adg,adi,adm,ac5,aJ,iZ,uU];refine⟨rfl,?_⟩;rw[Bb hD]
  exact⟨.cu [],by simp[bB,aV,bK,ah,ai,an,aB,jm,aJ,rY,ae],[(0,0),(18,4),(2,2),(5,5)],[(0,jm 4 2 5 w.m w.aO (w.stack++[Fm.mk v cJ (ma (-1))]).length w.steps.length (w.runs.length+1) w.blocked w.aS),(4,eH w.stack Ds++rY (Fm.mk v cJ (ma (-1)),iI d v++[S])),(2,(bH w.steps).map .d),(5,(cC w.runs++[DV.sl w.steps.length (wg w.steps)]).map .d)],rfl,rfl,by simp[aL,aI,ai,an,aB,aj,AV.aC,ag,ae,-acU,jm,aJ,rY,ae],by simp[AV.aC,aj,ag,jm,aJ,rY,ae]⟩
theorem rj:∀{l:List Fm} {Ds:List (List DV)},Ds.length=l.length->(eH l Ds).take ((l.length-1)*3)=eH l.dropLast Ds.dropLast
 | [],_,h=>by rw[List.length_eq_zero_iff.1 h];rfl
 | [f],[D],_=>rfl
 |f::g::l,D::E::Ds,h=>by
  have ih:=rj (l:=g::l) (Ds:=E::Ds) (by simpa using h);rw[List.dropLast_cons_cons,List.dropLast_cons_cons,nB,nB f,<-ih];have:((f::g::l).length-1)*3=((g::l).length-1)*3+1+1+1:=by simp only[ads];omega
  rw[this];rfl
 | [f],[],h=>by simp at h
 | [f],_::_::_,h=>by simp at h
 |f::g::l,[],h=>by simp at h
 |f::g::l,[D],h=>by simp at h
theorem z8 (l:List bz):(bH l).take ((l.length-1)*7)=bH l.dropLast:=by
 unfold bH;rw[yP qA,List.dropLast_eq_take]
theorem Qh (l:List Fm) (Ds:List (List DV)):G4 (eH l Ds)=false:=by
 unfold eH;cases l.zip Ds<;>rfl
theorem Qi (l:List bz):G4 ((bH l).map AV.d)=false:=by cases l<;>rfl
theorem Ls {w:Wk} {Ds:List (List DV)} (hD:Ds.length=w.stack.length) (h1:1<=w.stack.length) (Yo:w.stack.length<=1000000000) (sa:w.steps.length<=1000000000):
 bT aM 128 [.ptr 0 0] (gA w Ds) λr' m'=>r'=.cu []/\m'=gA (rI w) Ds.dropLast:=by
 have q5:ac9.wrap ((w.stack.length:Int)-1)=((w.stack.length-1:Nat):Int):=by rw[wrap_i64 (by omega) (by omega)];omega
 have Dz:ac9.wrap ((w.steps.length:Int)-1)=(w.steps.length:Int)-1:=by rw[wrap_i64 (by omega) (by omega)]
 have hmx:(if(w.steps.length:Int)-1<0 then 0 else(w.steps.length:Int)-1)=((w.steps.length-1:Nat):Int):=by split<;>omega
 have iZ:=rj hD;have kH:=z8 w.steps;have acg:rI w={w with stack:=w.stack.dropLast,steps:=w.steps.dropLast}:=rfl;rw[acg];unfold gA;dsimp only;refine ay func128 Ow ntmps128 results128 rfl ?_;unfold UC;refine ax (aH.cut 1 ((w.stack.length-1)*3) rfl (Qh _ _)) ?_;refine ax (aH.cut 2 ((w.steps.length-1)*7) rfl (Qi _)) ?_
 refine ax (S':=⟨[(0,.ptr 0 0)],[(0,dR w.m w.aO w.stack.length w.steps.length w.runs.length w.blocked w.aS),(1,eH w.stack.dropLast Ds.dropLast),(2,(bH w.steps.dropLast).map .d),(3,(cC w.runs).map .d)],4⟩) (aH.cN [(0,0),(1,1),(2,2),(3,3)] ⟨by simp[IA,bm,ah,AV.aC,aj,ag],by simp[dR,aJ,aL,aI,ai,an,aB,aj,AV.aC,ag,iZ,<-List.map_take,kH,-acU],rfl,rfl⟩) ?_;refine aa λK hK=>az rfl rfl ?_;simp only[go_sem,dR,q5,acX,acW,Nat.zero_le,Nat.sub_le,true_and,ady,ac2,Nat.sub_zero];refine⟨rfl,hK _ ?_⟩;refine az rfl rfl ?_;simp only[go_sem,Dz,hmx,acX,acW,Nat.zero_le,Nat.sub_le,true_and,ady,ac2,Nat.sub_zero]
 refine⟨rfl,?_⟩;exact⟨.cu [],by simp[bB,aV,bK,ah,ai,an,aB,dR,aJ],[(0,0),(1,1),(2,2),(3,3)],[(0,dR w.m w.aO w.stack.dropLast.length w.steps.dropLast.length w.runs.length w.blocked w.aS),(1,eH w.stack.dropLast Ds.dropLast),(2,(bH w.steps.dropLast).map .d),(3,(cC w.runs).map .d)],rfl,rfl,by simp[aL,aI,ai,an,aB,aj,AV.aC,ag,ae,-acU,dR,aJ],by simp[AV.aC,aj,ag,dR,aJ]⟩
structure Lt (d:l8) (w:Wk) (Ds:List (List DV)):Prop where
 len:Ds.length=w.stack.length
 Yq:oW w.stack
 vms:∀(i:Nat) (v:Vm) (D:List DV),(w.stack.map Fm.v)[i]?=some v->Ds[i]?=some D->rU d v D
 stp:∀v∈w.stack.map Fm.v,(v.steps.length:Int)<=w.aS
 steps:w.steps.length=w.stack.length-1
 stk:(w.stack.length:Int)<=w.aS+1
 p0:0<=w.aS
 pb:w.aS<=w.aO
 bb:w.aO<=2000000
 bl0:0<=w.blocked
 runs:w.blocked+w.runs.length<=w.aS+1
theorem SY (steps:List bz) (r:Rl) (st:List Fm) (x:Nat×Nat):(nu steps r st x).map Fm.v=st.map Fm.v:=by
 unfold nu;split;·rfl
 ·split;·rfl
  ·rename_i f hf;dsimp only;split;·rfl
   ·rw[List.map_set];refine List.ext_getElem? λi=>?_;rw[List.getElem?_set];split
    ·rename_i he;subst he;rw[List.getElem?_map,hf];have:x.1<st.length:=by
      rcases Nat.lt_or_ge x.1 st.length with h|h;·exact h
      ·rw[List.getElem?_eq_none h]at hf;cases hf
     simp[this]
    ·rfl
theorem Fz (steps:List bz) (r:Rl):∀(L:List (Nat×Nat)) (st:List Fm),(L.foldl (nu steps r) st).map Fm.v=st.map Fm.v
 | [],_=>rfl
 |a::L,st=>by rw[adB,Fz,SY]
theorem Qj (w:Wk):(ie w).stack.map Fm.v=w.stack.map Fm.v:=Fz _ _ _ _
theorem HQ (w:Wk):(ie w).stack.length=w.stack.length:=rZ _ _ _ _
theorem Lu {w:Wk} (h:oW w.stack):oW (ie w).stack:=vc _ _ _ _ h
theorem Xx {d:l8} {w:Wk} {Ds:List (List DV)} (h:Lt d w Ds):Lt d (rI w) Ds.dropLast:=by
 have hl:=h.len;have hs:=h.steps;have hk:=h.stk;have hm:∀{f},f∈w.stack.dropLast->f∈w.stack:=λhf=>List.dropLast_subset _ hf;refine⟨by simp[rI,hl],⟨λf hf=>h.Yq.sleep f (hm hf),λf hf=>h.Yq.back f (hm hf)⟩,?_,?_,by simp[rI,hs],by simp only[rI,List.length_dropLast];omega,h.p0,h.pb,h.bb,h.bl0,h.runs⟩
 ·intro i v D h1 h2;refine h.vms i v D ?_ ?_
  ·simp only[rI,List.map_dropLast]at h1;rw[List.getElem?_dropLast]at h1;split at h1;·exact h1
   ·cases h1
  ·rw[List.getElem?_dropLast]at h2;split at h2;·exact h2
   ·cases h2
 ·intro v hv;simp only[rI,List.map_dropLast]at hv;exact h.stp v (List.dropLast_subset _ hv)
theorem Qk {α:Type} {l:List α} {x:α} (h:l≠ []):l.set (l.length-1) x=l.dropLast++[x]:=by
 have hl:=List.length_pos_iff.2 h;rw[List.set_eq_take_append_cons_drop,if_pos (by omega),List.dropLast_eq_take,List.drop_of_length_le (by omega)]
theorem JJ {d:l8} {w:Wk} {Ds:List (List DV)} {v:Vm} {D:List DV} {cJ:Nat} (hl:Ds.length=w.stack.length) (hf:oW w.stack) (Lv:∀(i:Nat) (v:Vm) (D:List DV),(w.stack.map Fm.v)[i]?=some v->Ds[i]?=some D->rU d v D) (kH:∀v∈w.stack.map Fm.v,(v.steps.length:Int)<=w.aS)
 (hs:w.steps.length=w.stack.length) (hk:(w.stack.length:Int)<=w.aS) (p0:0<=w.aS) (pb:w.aS<=w.aO) (bb:w.aO<=2000000) (bl0:0<=w.blocked) (hr:w.blocked+w.runs.length<=w.aS)
 (hv:rU d v D) (xF:(v.steps.length:Int)<=w.aS) (iZ:cJ<18446744073709551616):Lt d (et w v cJ) (Ds++[D]):=by
 have key:∀(runs:List (List Int)) (bl:Int),0<=bl->bl+runs.length<=w.aS+1->Lt d {w with runs:=runs,blocked:=bl,stack:=w.stack++[⟨v,cJ,ma (dO (dB v.enabled cJ))⟩]} (Ds++[D]):=by
  intro runs bl h0 h1;refine⟨by simp[hl],⟨?_,?_⟩,?_,?_,by simp[hs],by simp;omega,p0,pb,bb,h0,h1⟩
  ·intro f hm;rcases List.mem_append.1 hm with h|h;·exact hf.sleep f h
   ·rw[List.mem_singleton.1 h];exact iZ
  ·intro f hm;rcases List.mem_append.1 hm with h|h;·exact hf.back f h
   ·rw[List.mem_singleton.1 h];exact s4 _
  ·intro i v' D' h1 h2;simp only[adC,ade,adu]at h1;rw[List.getElem?_append]at h1 h2;rw[acY]at h1;rw[hl]at h2;split at h1
   ·rename_i bd;rw[if_pos bd]at h2;exact Lv i v' D' h1 h2
   ·rename_i bd;rw[if_neg bd]at h2;cases hq:i-w.stack.length with
    |zero=>
     rw[hq]at h1 h2;simp at h1 h2;subst h1 h2;exact hv
    |succ q=>
     rw[hq]at h1;simp at h1
  ·intro v' zE;simp only[adC,ade,adu]at zE;rcases List.mem_append.1 zE with h|h;·exact kH v' h
   ·rw[List.mem_singleton.1 h];exact xF
 unfold et;dsimp only;split;·exact key (w.runs++[w.steps.map (·.pick)]) w.blocked bl0 (by simp;omega)
 ·split;·exact key w.runs (w.blocked+1) (by omega) (by omega)
  ·exact key w.runs w.blocked bl0 (by omega)
def Ro (w:Wk):Nat:=2*(w.aO-w.aS).toNat+w.stack.length
theorem SZ {w:Wk} (h:w.stack≠ []):Ro (rI w)<Ro w:=by
 have:=List.length_pos_iff.2 h;simp only[Ro,rI,List.length_dropLast];omega
theorem tA (w:Wk) (v:Vm) (s:Nat):(et w v s).aO=w.aO/\(et w v s).aS=w.aS/\(et w v s).stack.length=w.stack.length+1:=by
 unfold et;dsimp only;split;·simp
 ·split<;>simp
theorem CP {w w':Wk} (f:Nat) (h:kV w=.on w'):rJ (f+1) w=rJ f w':=by rw[rJ,h]
theorem FA {w w':Wk} (f:Nat) (h:kV w=.done w'):rJ (f+1) w=some w':=by rw[rJ,h]
theorem FB {w:Wk} (f:Nat) (h:kV w=.PK):rJ (f+1) w=none:=by rw[rJ,h]
def sf (m aO:Int):Wk:=⟨m,aO,[],[],[],0,0⟩
theorem Lw (l:List bz) (s:bz):bH (l++[s])=bH l++s.cells:=by simp[bH]
theorem pV (v:Vm) (i:Int):(cB v i).1.steps.length<=v.steps.length+1:=by
 rw[fL];split;·simp
 ·exact Nat.le_succ _
theorem Ql {d:l8} {v:Vm} {D:List DV} (h:rU d v D) (i:Int) (hs:v.steps.length<1000000000000):rU d (cB v i).1 (iI d (cB v i).1++[.sl (cB v i).1.steps.length (bH (cB v i).1.steps)]):=by
 have hl:=pV v i;obtain⟨hp,hm⟩:=CG (v:=v) i;exact⟨yG h.ok i,hp▸h.yc,hp▸h.prog,by omega,_,rfl,Fo _ (by omega)⟩
def Yr (w:Wk) (Ds:List (List DV)) (k:Nat) (i:Int) (D2:List DV) (s:bz):St:=
 ⟨[(0,.ptr 0 0),(4,.d (.bool false)),(5,.ptr 1 (k*3)),(6,aq i),(7,.bj D2),(8,.ptr 4 0)],se w Ds [(4,s.cells.map .d)],5⟩
def vd (w:Wk) (Ds:List (List DV)):St:=⟨[(0,.ptr 0 0),(4,.d (.bool false))],gA w Ds,4⟩
def CQ (res:Option Wk) (r:AV) (m':Mem):Prop:=match res with
 |none=>r=.d (.bool false)/\m'=[]
 |some w=>r=.d (.bool true)/\m'=gA w []
theorem HR {d:l8} {m aO:Int} {v:Vm} {D:List DV} (hv:rU d v D) (h0:v.steps=[]) (hb0:0<=aO) (Yo:aO<=2000000) {res:Option Wk} (jK:rJ 4000010 (et (sf m aO) v 0)=res):
 bT aM 79 [.ptr 0 0,.bj D] [(0,[aq m,aq aO,.d .cE,.d .cE,.d .cE,aq 0,aq 0,.d (.bool false)])] (CQ res):=by
 have b8:Lt d (et (sf m aO) v 0) ([]++[D]):=
  JJ (w:=sf m aO) (Ds:=[]) rfl ⟨λf hf=>by simp[sf]at hf,λf hf=>by simp[sf]at hf⟩ (λi v D h=>by simp[sf]at h) (λv h=>by simp[sf]at h) rfl (by simp[sf]) (by simp[sf]) hb0 Yo (by simp[sf]) (by simp[sf]) hv (by simp[h0,sf]) (by decide)
 have hmu:Ro (et (sf m aO) v 0)<4000010:=by
  obtain⟨h1,h2,h3⟩:=tA (sf m aO) v 0;unfold Ro;rw[h1,h2,h3];simp only[sf,adz];omega
 refine ay func79 Sl ntmps79 results79 rfl ?_;unfold Z7;refine ax (aH.qo 0 2 3 rfl rfl rfl rfl) ?_;refine ax (aH.qo 0 3 7 rfl rfl rfl rfl) ?_;refine ax (aH.qo 0 4 1 rfl rfl rfl rfl) ?_;refine ax (S':=⟨[(0,.ptr 0 0),(1,.bj D)],gA (sf m aO) [],4⟩) (aH.cN [(0,0),(1,1),(2,2),(3,3)] ⟨by simp[IA,bm,ah,AV.aC,aj,ag],by simp[aw,ado,gA,sf,eH,bH,cC,dR,aL,aI,ai,an,aB,aj,AV.aC,ag],rfl,rfl⟩) ?_;refine J λK hK=>?_;simp only[go_sem];apply hK;refine aa λK0 Ys=>?_;generalize q5:et (sf m aO) v 0=w1 at jK b8 hmu;have main:∀S,aH 1 106 S (vd w1 ([]++[D]))->K0 S:=by
  intro S hL;apply Ys;refine aa λKE fK=>?_;refine ax hL ?_;apply aA;refine fy (ι:={p:Wk×List (List DV)×Nat//Lt d p.1 p.2.1/\Ro p.1<p.2.2/\rJ p.2.2 p.1=res}) (λp=>vd p.1.1 p.1.2.1) (λp=>Ro p.1.1) ⟨(w1,[]++[D],4000010),b8,hmu,jK⟩ ?_;rintro⟨⟨w,Ds,f⟩,b8,hmu,jK⟩;simp only at b8 hmu jK;obtain⟨f,rfl⟩:∃g,f=g+1:=⟨f-1,by omega⟩;have hlen:=b8.len;have acN:=b8.steps;have acO:=b8.stk;have hp0:=b8.p0;have hpb:=b8.pb;have hbb:=b8.bb;have acP:=b8.bl0;have acI:=b8.runs;dsimp only;unfold Oi vd gA;refine aa λK1 a8=>?_;by_cases hs:w.stack=[]
  ·have ht:kV w=.done w:=by unfold kV;rw[hs];rfl
   rw[FA f ht]at jK;subst jK;have Ix:w.stack.length=0:=by rw[hs];rfl
   have hgt:¬(0:Int)<w.stack.length:=by omega
   have hDs:Ds=[]:=adH (by omega);subst hDs;refine J λK hK=>?_;simp only[go_sem,dR,hgt,decide_false];apply hK;refine aK ?_;apply aZ;show KE _;refine fK _ (J λK hK=>?_);simp only[go_sem];apply hK;apply ak;exact⟨.d (.bool true),by simp[bB,aV,bK,ah],[(0,0),(1,1),(2,2),(3,3)],gA w [],rfl,rfl,by simp[gA,dR,aJ,aL,aI,ai,an,aB,aj,AV.aC,ag,ae,-acU],rfl,rfl⟩
  ·have Q5:=List.length_pos_iff.2 hs;have hgt:(0:Int)<w.stack.length:=by omega
   obtain⟨k,hk⟩:∃k,w.stack.length=k+1:=⟨w.stack.length-1,by omega⟩;have BX:w.stack[k]?=some (w.stack[k]'(by omega)):=ac6 (by omega)
   have JG:Ds[k]?=some (Ds[k]'(by omega)):=ac6 (by omega)
   have WI:w.stack[k]'(by omega)∈w.stack:=adt _
   generalize w.stack[k]'(by omega)=fm at BX WI
   generalize Ds[k]'(by omega)=D' at JG
   have Lv:rU d fm.v D':=b8.vms k fm.v D' (by rw[List.getElem?_map,BX];rfl) JG;have xF:=b8.stp fm.v (List.mem_map.2 ⟨fm,WI,rfl⟩);have Rj:=b8.Yq.sleep _ WI;have Xu:=b8.Yq.back _ WI;have Xy:w.stack.getLast?=some fm:=by rw[List.getLast?_eq_getElem?,hk];exact BX
   have JI:=uO Xu fm.sleep;have Rh:=oe Xu Rj;have k1:=jZ JI;have hkw:ac9.wrap ((w.stack.length:Int)-1)=(k:Int):=by rw[wrap_i64 (by omega) (by omega)];omega
   have Ku:(k:Int)<w.stack.length:=by omega
   have S0:k<w.stack.length:=by omega
   refine J λK hK=>?_;simp only[go_sem,dR,hgt,decide_true];apply hK;refine aN ?_;apply au;apply a8;apply aA;refine aa λK hK=>az rfl rfl ?_;simp only[go_sem,dR,hkw,acX,Ku,S0,acW,ac2];refine⟨rfl,hK _ ?_⟩;refine aa λK hK=>az rfl rfl ?_;simp only[go_sem,yY BX JG,u7 BX JG,Rh];refine ea (k1) ?_;simp only[go_sem];refine⟨rfl,hK _ ?_⟩;refine aa λK2 fx=>?_;by_cases Ho:dO (dB fm.back fm.sleep)<0
   ·have ht:kV w=.on (rI w):=by unfold kV;rw[Xy];simp only;rw[if_pos Ho]
    rw[CP f ht]at jK;have kp:=Ls hlen (by omega) (by omega) (by omega);have hpo:=Xx b8;have Ml:=SZ hs;refine J λK hK=>?_;simp only[go_sem,Ho,decide_true];apply hK;refine aN ?_;refine J λK hK=>?_;simp only[go_sem];refine bt [(0,0),(1,1),(2,2),(3,3)] [.ptr 0 0] (gA w Ds) (nb:=1000) (kp) (by simp[bC]) (by first|(simp[aj,AV.aC,ag];done)|simp[aj,AV.aC,ag,gA,dR,aJ,cH,cT]) (by first|(simp[bF,bE,ag];done)|simp[bF,bE,ag,gA,dR,aJ,cH,cT]) (by simp[handed,ag,ai,an,aB,aj,AV.aC,bF,bE,gA,dR,aJ,cH,cT]) rfl ?_;rintro r0 m' ⟨rfl,rfl⟩
    simp only[go_sem,bn,bL,bN,ai,an,aB,bX,ag,aj,bG,AV.aC,adj,adb,adg,adi,adm,ac5,gA,dR,aJ,cH,cT];apply hK;apply aZ;refine⟨⟨(rI w,Ds.dropLast,f),hpo,by simp only;omega,jK⟩,Ml,?_⟩;exact aH.cN [(0,0),(1,1),(2,2),(3,3)] ⟨by simp[bm,ah,AV.aC,aj,ag,vd,gA,dR,aJ],by simp[aL,aI,ai,an,aB,aj,AV.aC,ag,ae,-acU,vd,gA,dR,aJ],rfl,rfl⟩
   ·have ht:kV w=if w.aO<w.aS+1+(cj fm.sleep).length then .PK else .on (et (ie {w with aS:=w.aS+1+(cj fm.sleep).length,stack:=w.stack.dropLast++[{fm with sleep:=ed fm.sleep (dO (dB fm.back fm.sleep))}],steps:=w.steps++[(cB fm.v (dO (dB fm.back fm.sleep))).2.1]}) (cB fm.v (dO (dB fm.back fm.sleep))).1 (fW fm (cB fm.v (dO (dB fm.back fm.sleep))).2.1 w.m)):=by
     unfold kV;rw[Xy];simp only;rw[if_neg Ho]
    generalize dO (dB fm.back fm.sleep)=i at Ho ht k1;refine J λK hK=>?_;simp only[go_sem,Ho,decide_false];apply hK;refine aK ?_;apply au;apply fx;have kcp:=yI Lv;refine J λK hK=>?_;simp only[go_sem,Xs BX JG];refine bt [] [.bj D'] [] (nb:=1000) (kcp) (by simp[bC]) (by first|(simp[aj,AV.aC,ag];done)|simp[aj,AV.aC,ag,o2,aw,adp,adq,ado,aT]) (by first|(simp[bF,bE,ag];done)|simp[bF,bE,ag,o2,aw,adp,adq,ado,aT]) (by simp[handed,ag,ai,an,aB,aj,AV.aC,bF,bE,o2,aw,adp,adq,ado,aT]) rfl ?_;rintro r0 m' ⟨rfl,rfl⟩;simp only[go_sem,bn,bL,bN,ai,an,aB,bX,ag,aj,bG,AV.aC,adj,adb,adg,adi,adm,ac5,o2,aw,adp,adq,ado,aT]
    apply hK;refine aa λK3 Gs=>?_;have Rk:=Ql Lv i (by omega);have hps:=pV fm.v i;have rest:∀S,aH 1 106 S (Yr w Ds k i (iI d (cB fm.v i).1++[.sl (cB fm.v i).1.steps.length (bH (cB fm.v i).1.steps)]) (cB fm.v i).2.1)->K3 S:=by
     intro S hL;generalize iI d (cB fm.v i).1++[.sl (cB fm.v i).1.steps.length (bH (cB fm.v i).1.steps)]=D2 at Rk hL;generalize cB fm.v i=pv at ht Rk hps hL;obtain⟨v2,s2,b2⟩:=pv;simp only at ht Rk hps hL;apply Gs;refine ax hL ?_;unfold Yr se;have hll:=qx fm.sleep;have SD:ac9.wrap (w.aS+1)=w.aS+1:=by rw[wrap_i64 (by omega) (by omega)]
     have ka:=CO (w:={w with aS:=w.aS+1}) (Ds:=Ds) Lv Rj s2 (by show 0<=w.aS+1;omega) (by show w.aS+1<=_;omega);have qi:fW fm s2 w.m<18446744073709551616:=by rw[<-Fk];exact JE _ _ Rj _
     refine J λK hK=>?_;simp only[go_sem,dR,SD];apply hK;refine aa λK hK=>az rfl rfl ?_;simp only[go_sem,SR BX JG,rY,bz.cells,ac3];refine eQ [(0,0),(1,1),(2,2),(3,3)] [.ptr 0 0,.agg (rY (fm,D')),.agg (s2.cells.map .d)] (gA {w with aS:=w.aS+1} Ds) (nb:=1000) (ka) (by simp[bC]) (by first|(simp[aj,AV.aC,ag];done)|simp[aj,AV.aC,ag,gA,dR,aJ,cH,cT,rY,bz.cells]) (by first|(simp[bF,bE,ag];done)|simp[bF,bE,ag,gA,dR,aJ,cH,cT,rY,bz.cells]) (by simp[handed,ag,ai,an,aB,aj,AV.aC,bF,bE,cT,gA,dR,aJ,cH,cT,rY,bz.cells]) rfl ?_
     simp only[go_sem,dX,ade,adu,bn,bL,bN,ai,an,aB,bX,ag,aj,bG,AV.aC,adj,adb,adg,adi,adm,ac5,gA,dR,aJ,cH,cT,rY,bz.cells];refine⟨rfl,hK _ ?_⟩;refine aa λK4 Mi=>?_;refine aa λK hK=>az rfl rfl ?_;simp only[go_sem];refine⟨rfl,hK _ ?_⟩;by_cases S3:w.aO<w.aS+1+((cj fm.sleep).length:Int)
     ·rw[if_pos S3]at ht;rw[FB f ht]at jK;subst jK;refine aN ?_ (by simp[ev,ah,S3]);refine J λK hK=>?_;simp only[go_sem];apply hK;apply ak;exact⟨.d (.bool false),by simp[bB,aV,bK,ah],[],[],rfl,rfl,by simp[aL,aI],rfl,rfl⟩
     ·rw[if_neg S3]at ht;rw[CP f ht]at jK;refine aK ?_ (by simp[ev,ah,S3]);apply au;apply Mi;have kw:=gi Rj i;have iZ:=tx hlen;have ach:k*3+1+1<=(eH w.stack Ds).length:=by omega
      have gy:w.stack.set k {fm with sleep:=ed fm.sleep i}=w.stack.dropLast++[{fm with sleep:=ed fm.sleep i}]:=by
       have:=Qk (x:={fm with sleep:=ed fm.sleep i}) hs;rw[hk]at this;exact this
      rw[<-gy]at jK;have h56:(w.steps.length+1)*56<=140737488351232:=by omega
      have Qf:=tq w.steps;refine J λK hK=>?_;simp only[go_sem,u7 BX JG];refine aY (kw) ?_;simp only[go_sem,Fs (ed fm.sleep i) BX JG,ach];apply hK;refine aa λK hK=>az rfl rfl ?_;simp only[go_sem,ac3,h56,Qf,acY];refine⟨rfl,hK _ ?_⟩;generalize hw5:({w with aS:=w.aS+1+((cj fm.sleep).length:Int),stack:=w.stack.set k {fm with sleep:=ed fm.sleep i},steps:=w.steps++[s2]}:Wk)=w5 at jK
      have e5:w5.stack=w.stack.set k {fm with sleep:=ed fm.sleep i}/\w5.aS=w.aS+1+((cj fm.sleep).length:Int)/\w5.steps=w.steps++[s2]/\w5.m=w.m/\w5.aO=w.aO/\w5.runs=w.runs/\w5.blocked=w.blocked:=by subst hw5;exact⟨rfl,rfl,rfl,rfl,rfl,rfl,rfl⟩
      obtain⟨e51,e52,e53,e54,e55,e56,e57⟩:=e5;have hl5:w5.stack.length=w.stack.length:=by rw[e51,List.length_set]
      have KT:=Lw w.steps s2;refine ax (S':=⟨[(0,.ptr 0 0),(4,.d (.bool false)),(7,.bj D2),(10,cX (fW fm s2 w.m))],gA w5 Ds,4⟩) (aH.cN [(0,0),(1,1),(32,2),(3,3)] ⟨by simp[bm,ah,AV.aC,aj,ag],by simp[gA,dR,hl5,e51,e52,e53,e54,e55,e56,e57,KT,bz.cells,aJ,aL,aI,ai,an,aB,aj,AV.aC,ag,ae,-acU],rfl,rfl⟩) ?_;have aaq:oW w5.stack:=by
       rw[e51];refine⟨λg hg=>?_,λg hg=>?_⟩
       ·rcases List.mem_or_eq_of_mem_set hg with h1|rfl;·exact b8.Yq.sleep g h1
        ·exact gK Rj _
       ·rcases List.mem_or_eq_of_mem_set hg with h1|rfl;·exact b8.Yq.back g h1
        ·exact Xu
      have hv5:w5.stack.map Fm.v=w.stack.map Fm.v:=by
       rw[e51,List.map_set];refine List.ext_getElem? λq=>?_;rw[List.getElem?_set];split
       ·rename_i he;subst he;rw[List.getElem?_map,BX,acY,if_pos S0];rfl
       ·rfl
      have hs5:w5.steps.length=w.stack.length:=by rw[e53,adk,List.length_singleton];omega
      have kr:=Fx (w:=w5) (Ds:=Ds) (by omega) aaq (by omega) (by omega) (by omega);have e6:=And.intro (HQ w5) (And.intro (Qj w5) (Lu aaq));have e6':(ie w5).aS=w5.aS/\(ie w5).steps=w5.steps/\(ie w5).m=w5.m/\(ie w5).aO=w5.aO/\(ie w5).runs=w5.runs/\(ie w5).blocked=w5.blocked:=⟨rfl,rfl,rfl,rfl,rfl,rfl⟩;generalize ie w5=w6 at kr e6 e6' jK;obtain⟨e61,e62,e63⟩:=e6;obtain⟨e64,e65,e66,e67,e68,e69⟩:=e6'
      have ck:=JJ (d:=d) (w:=w6) (Ds:=Ds) (v:=v2) (D:=D2) (cJ:=fW fm s2 w.m) (by omega) e63 (by rw[e62,hv5];exact b8.vms) (by rw[e62,hv5,e64,e52];exact λv hv=>by have:=b8.stp v hv;omega) (by rw[e65,hs5];omega) (by omega) (by omega) (by omega) (by omega) (by omega) (by rw[e69,e68,e57,e56];omega) Rk (by omega) qi;obtain⟨p1,p2,p3⟩:=tA w6 v2 (fW fm s2 w.m);have aar:Ro (et w6 v2 (fW fm s2 w.m))<Ro w:=by
       unfold Ro;rw[p1,p2,p3];omega
      refine J λK hK=>?_;simp only[go_sem];refine bt [(0,0),(1,1),(2,2),(3,3)] [.ptr 0 0] (gA w5 Ds) (nb:=1000) (kr) (by simp[bC]) (by first|(simp[aj,AV.aC,ag];done)|simp[aj,AV.aC,ag,gA,dR,aJ,cH,cT]) (by first|(simp[bF,bE,ag];done)|simp[bF,bE,ag,gA,dR,aJ,cH,cT]) (by simp[handed,ag,ai,an,aB,aj,AV.aC,bF,bE,gA,dR,aJ,cH,cT]) rfl ?_;rintro r0 m' ⟨rfl,rfl⟩;simp only[go_sem,bn,bL,bN,ai,an,aB,bX,ag,aj,bG,AV.aC,adj,adb,adg,adi,adm,ac5,gA,dR,aJ,cH,cT];apply hK;by_cases he:v2.enabled=0
      ·have kp:=Fy (w:=w6) (Ds:=Ds) (by omega) Rk qi (by omega) (by rw[e68,e56];omega) (by rw[e65,hs5];omega) he;unfold VS at kp;refine af rfl ?_;simp only[go_sem];refine bt [(0,0),(1,1),(2,2),(3,3)] [.ptr 0 0,.bj D2,cX (fW fm s2 w.m)] (gA w6 Ds) (nb:=1000) (kp) (by simp[bC]) (by first|(simp[aj,AV.aC,ag];done)|simp[aj,AV.aC,ag,gA,dR,aJ,cH,cT,jm]) (by first|(simp[bF,bE,ag];done)|simp[bF,bE,ag,gA,dR,aJ,cH,cT,jm]) (by simp[handed,ag,ai,an,aB,aj,AV.aC,bF,bE,gA,dR,aJ,cH,cT,jm]) rfl ?_;rintro r0 m' ⟨rfl,rfl⟩;simp only[go_sem,bn,bL,bN,ai,an,aB,bX,ag,aj,bG,AV.aC,adj,adb,adg,adi,adm,ac5,gA,dR,aJ,cH,cT,jm]
       refine⟨⟨(et w6 v2 (fW fm s2 w.m),Ds++[D2],f),ck,by simp only;omega,jK⟩,aar,?_⟩;exact aH.cN [(0,0),(12,1),(2,2),(13,3)] ⟨by simp[bm,ah,AV.aC,aj,ag,vd,gA,dR,aJ],by simp[aL,aI,ai,an,aB,aj,AV.aC,ag,ae,-acU,vd,gA,dR,aJ],rfl,rfl⟩
      ·have kp:=JH (w:=w6) (Ds:=Ds) (by omega) Rk qi (by omega) (by rw[e69,e57];omega) he;unfold VS at kp;refine af rfl ?_;simp only[go_sem];refine bt [(0,0),(1,1),(2,2),(3,3)] [.ptr 0 0,.bj D2,cX (fW fm s2 w.m)] (gA w6 Ds) (nb:=1000) (kp) (by simp[bC]) (by first|(simp[aj,AV.aC,ag];done)|simp[aj,AV.aC,ag,gA,dR,aJ,cH,cT,jm]) (by first|(simp[bF,bE,ag];done)|simp[bF,bE,ag,gA,dR,aJ,cH,cT,jm]) (by simp[handed,ag,ai,an,aB,aj,AV.aC,bF,bE,gA,dR,aJ,cH,cT,jm]) rfl ?_;rintro r0 m' ⟨rfl,rfl⟩;simp only[go_sem,bn,bL,bN,ai,an,aB,bX,ag,aj,bG,AV.aC,adj,adb,adg,adi,adm,ac5,gA,dR,aJ,cH,cT,jm]
       refine⟨⟨(et w6 v2 (fW fm s2 w.m),Ds++[D2],f),ck,by simp only;omega,jK⟩,aar,?_⟩;exact aH.cN [(0,0),(12,1),(2,2),(3,3)] ⟨by simp[bm,ah,AV.aC,aj,ag,vd,gA,dR,aJ],by simp[aL,aI,ai,an,aB,aj,AV.aC,ag,ae,-acU,vd,gA,dR,aJ],rfl,rfl⟩
    cases hb:og fm.v.enabled i
    ·have h2:cB fm.v i=(fm.v,cp,false):=by rw[fL,hb];rfl
     have k2:=CH (d:=d) Lv.ok Lv.yc Lv.prog Lv.steps hb;unfold o2 at k2;refine af rfl ?_;simp only[go_sem];refine bt [(0,26),(1,27)] [.ptr 0 0,aq i] [(0,eG d fm.v (.sl 1 7 0 fm.v.steps.length)),(1,(bH fm.v.steps).map .d)] (nb:=1000) (k2) (by simp[bC]) (by first|(simp[aj,AV.aC,ag];done)|simp[aj,AV.aC,ag,aT,cS,ag,bz.cells]) (by first|(simp[bF,bE,ag];done)|simp[bF,bE,ag,aT,cS,ag,bz.cells]) (by simp[handed,ag,ai,an,aB,aj,AV.aC,bF,bE,aT,cS,ag,bz.cells]) rfl ?_;rintro r0 m' ⟨rfl,rfl⟩;simp only[go_sem,bn,bL,bN,ai,an,aB,bX,ag,aj,bG,AV.aC,adj,adb,adg,adi,adm,ac5,aT,cS,ag,bz.cells];refine rest _ ?_;rw[h2]
     exact aH.jn [(0,0),(1,1),(2,2),(3,3),(30,4)] [(26,iI d fm.v++[.sl fm.v.steps.length (bH fm.v.steps)]),(27,bH fm.v.steps)] ⟨by simp[Yr,fO,ah,AV.cv,dn,bI,ag],by simp[Yr,se,dR,tz,cp,gd,aI,bI,ai,an,aB,dn,AV.cv,cF,ba,bz.cells,ag,-acU],rfl,rfl,by simp[bD,bI,ai,an,aB,eG,nA,dn,AV.cv,cF,ba,-acU]⟩
    ·have h2:(cB fm.v i).2.2=true:=by rw[fL,hb];rfl
     have k2:=yK (d:=d) Lv.ok Lv.yc Lv.prog Lv.steps hb;unfold o2 at k2;refine af rfl ?_;simp only[go_sem];refine bt [(0,26),(1,27)] [.ptr 0 0,aq i] [(0,eG d fm.v (.sl 1 7 0 fm.v.steps.length)),(1,(bH fm.v.steps).map .d)] (nb:=1000) (k2) (by simp[bC]) (by first|(simp[aj,AV.aC,ag];done)|simp[aj,AV.aC,ag,aT,cS,ag,bz.cells]) (by first|(simp[bF,bE,ag];done)|simp[bF,bE,ag,aT,cS,ag,bz.cells]) (by simp[handed,ag,ai,an,aB,aj,AV.aC,bF,bE,aT,cS,ag,bz.cells]) rfl ?_;rintro r0 m' ⟨rfl,rfl⟩;simp only[go_sem,bn,bL,bN,ai,an,aB,bX,ag,aj,bG,AV.aC,adj,adb,adg,adi,adm,ac5,aT,cS,ag,bz.cells];refine rest _ ?_
     exact aH.jn [(0,0),(1,1),(2,2),(3,3),(31,4)] [(26,iI d (cB fm.v i).1++[.sl (cB fm.v i).1.steps.length (bH (cB fm.v i).1.steps)]),(30,bH (cB fm.v i).1.steps)] ⟨by simp[Yr,fO,ah,AV.cv,dn,bI,ag],by simp[Yr,se,dR,tz,gd,aI,bI,ai,an,aB,dn,AV.cv,cF,ba,bz.cells,ag,-acU],rfl,rfl,by simp[bD,bI,ai,an,aB,eG,nA,dn,AV.cv,cF,ba,-acU]⟩
 have SX:(sf m aO).stack.length=0:=rfl;by_cases he:v.enabled=0
 ·have kp:=Fy (w:=sf m aO) (Ds:=[]) rfl hv (cJ:=0) (by decide) (by simp[sf]) (by simp[sf]) (by simp[sf]) he;rw[q5]at kp;unfold VS at kp;refine af rfl ?_;simp only[go_sem];refine bt [(0,0),(1,1),(2,2),(3,3)] [.ptr 0 0,.bj D,cX 0] (gA (sf m aO) []) (nb:=1000) (kp) (by simp[bC]) (by first|(simp[aj,AV.aC,ag];done)|simp[aj,AV.aC,ag,gA,dR,aJ,cH,cT,jm]) (by first|(simp[bF,bE,ag];done)|simp[bF,bE,ag,gA,dR,aJ,cH,cT,jm]) (by simp[handed,ag,ai,an,aB,aj,AV.aC,bF,bE,gA,dR,aJ,cH,cT,jm]) rfl ?_;rintro r0 m' ⟨rfl,rfl⟩
  simp only[go_sem,bn,bL,bN,ai,an,aB,bX,ag,aj,bG,AV.aC,adj,adb,adg,adi,adm,ac5,gA,dR,aJ,cH,cT,jm];refine main _ ?_;exact aH.cN [(0,0),(8,1),(2,2),(9,3)] ⟨by simp[bm,ah,AV.aC,aj,ag,vd,gA,dR,aJ],by simp[aL,aI,ai,an,aB,aj,AV.aC,ag,ae,-acU,vd,gA,dR,aJ],rfl,rfl⟩
 ·have kp:=JH (w:=sf m aO) (Ds:=[]) rfl hv (cJ:=0) (by decide) (by simp[sf]) (by simp[sf]) he;rw[q5]at kp;unfold VS at kp;refine af rfl ?_;simp only[go_sem];refine bt [(0,0),(1,1),(2,2),(3,3)] [.ptr 0 0,.bj D,cX 0] (gA (sf m aO) []) (nb:=1000) (kp) (by simp[bC]) (by first|(simp[aj,AV.aC,ag];done)|simp[aj,AV.aC,ag,gA,dR,aJ,cH,cT,jm]) (by first|(simp[bF,bE,ag];done)|simp[bF,bE,ag,gA,dR,aJ,cH,cT,jm]) (by simp[handed,ag,ai,an,aB,aj,AV.aC,bF,bE,gA,dR,aJ,cH,cT,jm]) rfl ?_;rintro r0 m' ⟨rfl,rfl⟩;simp only[go_sem,bn,bL,bN,ai,an,aB,bX,ag,aj,bG,AV.aC,adj,adb,adg,adi,adm,ac5,gA,dR,aJ,cH,cT,jm]
  refine main _ ?_;exact aH.cN [(0,0),(8,1),(2,2),(3,3)] ⟨by simp[bm,ah,AV.aC,aj,ag,vd,gA,dR,aJ],by simp[aL,aI,ai,an,aB,aj,AV.aC,ag,ae,-acU,vd,gA,dR,aJ],rfl,rfl⟩
def dC (q:Int->Bool) (x:Ins):Bool:=
 if x.kind=1 then(q x.loc&&eD x.a)&&gH x ⟨x.kind,0,x.loc,x.a,0,⟨0,0⟩,0⟩
 else if x.kind=2 then(q x.loc&&gn x.dF)&&gH x ⟨x.kind,x.dF,x.loc,⟨0,0⟩,0,⟨0,0⟩,0⟩
 else if x.kind=3 then gH x ⟨x.kind,0,0,⟨0,0⟩,0,⟨0,0⟩,0⟩
 else if x.kind=4 then(q x.loc&&gn x.dF&&eD x.a&&eD x.b)&&gH x ⟨x.kind,x.dF,x.loc,x.a,0,x.b,0⟩
 else if x.kind=5 then(gn x.dF&&eD x.a&&eD x.b&&decide (0<=x.op)&&decide (x.op<=11)&&(decide (0<x.op)||(decide (x.b.dF=-1)&&decide (x.b.value=0))))&&gH x ⟨x.kind,x.dF,0,x.a,x.op,x.b,0⟩
 else if x.kind=6 then(decide (0<=x.n)&&eD x.a&&eD x.b)&&gH x ⟨x.kind,0,0,x.a,0,x.b,x.n⟩
 else false
set_option maxHeartbeats 4000000 in
theorem CS (q:Int->Bool) {gf:Nat} {caps:List AV} (hg:jo aM gf=true) (hc:bF (λ_=>none) caps=true) (Nn:∀n:Int,Pure aM gf (aq n::caps) (.d (.bool (q n)))) (x:Ins):
 Pure aM 193 [.agg (x.cells.map .d),.fn gf caps] (.d (.bool (dC q x))):=by
 have w8:∀n:Int,bF (λ_=>none) (aq n::caps)=true:=λn=>by simp[bF,bE,hc]
 refine ay func193 Ep ntmps193 results193 rfl ?_;unfold NV;refine J λK hK=>?_;simp only[go_sem,Ins.cells];refine hK _ (J λK hK=>?_);simp only[go_sem];refine hK _ (J λK hK=>?_);simp only[go_sem];apply hK;refine aa λK1 a8=>?_;have tail:∀(t:Fr) (n:Nat) (w:Ins) (ok:Bool),ah t 6=.d (.bool ok)->ah t 2=.ptr 0 0->ah t 5=.ptr 1 0->dC q x=(ok&&gH x w)->K1 ⟨t,[(0,x.cells.map .d),(1,w.cells.map .d)],n⟩:=by
  intro t n w ok h6 h2 h5 b8;apply a8;refine aa λK hK=>af (by simp[aw]) ?_;cases ok
  ·simp only[go_sem,h6,h2,h5,Ins.cells];apply hK;apply ak;simp only[go_sem];refine aD _ rfl rfl ⟨?_,rfl⟩;simp[ah,b8]
  ·simp only[go_sem,h6,h2,h5,Ins.cells];apply hK;apply ak;simp only[go_sem];refine aD _ rfl rfl ⟨?_,rfl⟩;simp[ah,b8,gH]
 refine J λK hK=>?_;simp only[go_sem];apply hK;apply aA;refine J λK hK=>?_;simp only[go_sem];apply hK;by_cases h1:x.kind=1
 ·refine aN ?_ (by simp[ev,ah,h1]);refine aa λK hK=>az rfl rfl ?_;simp only[go_sem];refine⟨rfl,hK _ ?_⟩;refine af rfl ?_;simp only[go_sem];refine⟨hg,aF (Nn x.loc) (w8 _) rfl ?_⟩;cases hb:q x.loc
  ·simp only[go_sem];exact tail _ _ ⟨x.kind,0,x.loc,x.a,0,⟨0,0⟩,0⟩ false rfl rfl rfl (by simp[dC,h1,hb])
  ·simp only[go_sem];refine aF (ec x.a) rfl rfl ?_;simp only[go_sem];exact tail _ _ ⟨x.kind,0,x.loc,x.a,0,⟨0,0⟩,0⟩ (eD x.a) (by simp[ah]) rfl rfl (by simp[dC,h1,hb])
 refine aK ?_ (by simp[ev,ah,h1]);refine J λK hK=>?_;simp only[go_sem];apply hK;by_cases h2:x.kind=2
 ·refine aN ?_ (by simp[ev,ah,h2]);refine aa λK hK=>az rfl rfl ?_;simp only[go_sem];refine⟨rfl,hK _ ?_⟩;refine af rfl ?_;simp only[go_sem];refine⟨hg,aF (Nn x.loc) (w8 _) rfl ?_⟩;cases hb:q x.loc
  ·simp only[go_sem];exact tail _ _ ⟨x.kind,x.dF,x.loc,⟨0,0⟩,0,⟨0,0⟩,0⟩ false rfl rfl rfl (by simp[dC,h2,hb])
  ·simp only[go_sem];refine aF (gJ x.dF) rfl rfl ?_;simp only[go_sem];exact tail _ _ ⟨x.kind,x.dF,x.loc,⟨0,0⟩,0,⟨0,0⟩,0⟩ (gn x.dF) (by simp[ah]) rfl rfl (by simp[dC,h2,hb])
 refine aK ?_ (by simp[ev,ah,h2]);refine J λK hK=>?_;simp only[go_sem];apply hK;by_cases h3:x.kind=3
 ·refine aN ?_ (by simp[ev,ah,h3]);apply au;simp only[go_sem];exact tail _ _ ⟨x.kind,0,0,⟨0,0⟩,0,⟨0,0⟩,0⟩ true rfl rfl rfl (by simp[dC,h3])
 refine aK ?_ (by simp[ev,ah,h3]);refine J λK hK=>?_;simp only[go_sem];apply hK;by_cases h4:x.kind=4
 ·refine aN ?_ (by simp[ev,ah,h4]);refine aa λK hK=>az rfl rfl ?_;simp only[go_sem];refine⟨rfl,hK _ ?_⟩;refine af rfl ?_;simp only[go_sem];refine⟨hg,aF (Nn x.loc) (w8 _) rfl ?_⟩;cases hb:q x.loc
  ·simp only[go_sem];exact tail _ _ ⟨x.kind,x.dF,x.loc,x.a,0,x.b,0⟩ false rfl rfl rfl (by simp[dC,h4,hb])
  ·simp only[go_sem];refine aF (gJ x.dF) rfl rfl ?_;cases sa:gn x.dF
   ·simp only[go_sem];exact tail _ _ ⟨x.kind,x.dF,x.loc,x.a,0,x.b,0⟩ false rfl rfl rfl (by simp[dC,h4,sa])
   ·simp only[go_sem];refine aF (ec x.a) rfl rfl ?_;cases zy:eD x.a
    ·simp only[go_sem];exact tail _ _ ⟨x.kind,x.dF,x.loc,x.a,0,x.b,0⟩ false rfl rfl rfl (by simp[dC,h4,zy])
    ·simp only[go_sem];refine aF (ec x.b) rfl rfl ?_;simp only[go_sem];exact tail _ _ ⟨x.kind,x.dF,x.loc,x.a,0,x.b,0⟩ (eD x.b) (by simp[ah]) rfl rfl (by simp[dC,h4,hb,sa,zy])
 refine aK ?_ (by simp[ev,ah,h4]);refine J λK hK=>?_;simp only[go_sem];apply hK;by_cases h5:x.kind=5
 ·refine aN ?_ (by simp[ev,ah,h5]);refine aa λK hK=>az rfl rfl ?_;simp only[go_sem];refine⟨rfl,hK _ ?_⟩;refine af rfl ?_;simp only[go_sem];refine aF (gJ x.dF) rfl rfl ?_;cases hb:gn x.dF
  ·simp only[go_sem];exact tail _ _ ⟨x.kind,x.dF,0,x.a,x.op,x.b,0⟩ false rfl rfl rfl (by simp[dC,h5,hb])
  ·simp only[go_sem];refine aF (ec x.a) rfl rfl ?_;cases zy:eD x.a
   ·simp only[go_sem];exact tail _ _ ⟨x.kind,x.dF,0,x.a,x.op,x.b,0⟩ false rfl rfl rfl (by simp[dC,h5,zy])
   ·simp only[go_sem];refine aF (ec x.b) rfl rfl ?_;cases WQ:eD x.b
    ·simp only[go_sem];exact tail _ _ ⟨x.kind,x.dF,0,x.a,x.op,x.b,0⟩ false rfl rfl rfl (by simp[dC,h5,WQ])
    ·by_cases g1:0<=x.op
     ·by_cases g2:x.op<=11
      ·by_cases g3:0<x.op
       ·simp only[go_sem,g1,g2,g3];exact tail _ _ ⟨x.kind,x.dF,0,x.a,x.op,x.b,0⟩ true rfl rfl rfl (by simp[dC,h5,hb,zy,WQ,g1,g2,g3])
       ·simp only[go_sem,g1,g2,g3];exact tail _ _ ⟨x.kind,x.dF,0,x.a,x.op,x.b,0⟩ (decide (x.b.dF=-1)&&decide (x.b.value=0)) (by simp[ah]) rfl rfl (by simp[dC,h5,hb,zy,WQ,g1,g2,g3])
      ·simp only[go_sem,g1,g2];exact tail _ _ ⟨x.kind,x.dF,0,x.a,x.op,x.b,0⟩ false rfl rfl rfl (by simp[dC,h5,g2])
     ·simp only[go_sem,g1];exact tail _ _ ⟨x.kind,x.dF,0,x.a,x.op,x.b,0⟩ false rfl rfl rfl (by simp[dC,h5,g1])
 refine aK ?_ (by simp[ev,ah,h5]);refine J λK hK=>?_;simp only[go_sem];apply hK;by_cases h6:x.kind=6
 ·refine aN ?_ (by simp[ev,ah,h6]);refine aa λK hK=>az rfl rfl ?_;simp only[go_sem];refine⟨rfl,hK _ ?_⟩;by_cases g1:0<=x.n
  ·refine af rfl ?_;simp only[go_sem,g1];refine aF (ec x.a) rfl rfl ?_;cases zy:eD x.a
   ·simp only[go_sem];exact tail _ _ ⟨x.kind,0,0,x.a,0,x.b,x.n⟩ false rfl rfl rfl (by simp[dC,h6,zy])
   ·simp only[go_sem];refine aF (ec x.b) rfl rfl ?_;simp only[go_sem];exact tail _ _ ⟨x.kind,0,0,x.a,0,x.b,x.n⟩ (eD x.b) (by simp[ah]) rfl rfl (by simp[dC,h6,zy,g1])
  ·refine af rfl ?_;simp only[go_sem,g1];exact tail _ _ ⟨x.kind,0,0,x.a,0,x.b,x.n⟩ false rfl rfl rfl (by simp[dC,h6,g1])
 refine aK ?_ (by simp[ev,ah,h6]);refine J λK hK=>?_;simp only[go_sem];apply hK;apply ak;simp only[go_sem];refine aD _ rfl rfl ⟨?_,rfl⟩;simp[ah,dC,h1,h2,h3,h4,h5,h6]
def oA (p:Prog) (n:Int):Bool:=decide (0<=n)&&decide (n<p.aE.length)
structure zA (p:Prog):Prop where
 th0:1<=p.threads.length
 th4:p.threads.length<=4
 lc:p.aE.length<=4
 ini:p.init.length=p.aE.length
 size:(p.threads.map List.length).sum<=24
 aE:∀c∈p.aE,dA c.toNat=true
 Aa:∀i,0<i->i<p.aE.length->(p.aE.getD (i-1) 0).toNat<(p.aE.getD i 0).toNat
 len:∀l∈p.threads,l.length<=10
 jmp:∀l∈p.threads,jA l=true
 ins:∀l∈p.threads,∀x∈l,dC (oA p) x=true
theorem HS {p:Prog} {I T:DV} (n:Int):Pure aM 191 [aq n,.bj [aR p.aE,I,T]] (.d (.bool (oA p n))):=by
 refine ay func191 OL ntmps191 results191 rfl ?_;unfold UN;refine J λK hK=>?_;simp only[go_sem];apply hK;by_cases h0:0<=n
 ·refine J λK hK=>?_;simp only[go_sem,h0,decide_true,aR];apply hK;apply ak;exact⟨.d (.bool (oA p n)),by simp[bB,aV,bK,ah,ai,an,aB,oA,h0],[],[],rfl,rfl,by simp[aL,aI,ai,an,aB,aj,AV.aC,ag,ae,-acU,oA,h0],by simp[AV.aC,aj,ag,oA,h0]⟩
 ·refine J λK hK=>?_;simp only[go_sem,h0,decide_false];apply hK;apply ak;exact⟨.d (.bool (oA p n)),by simp[bB,aV,bK,ah,ai,an,aB,oA,h0],[],[],rfl,rfl,by simp[aL,aI,ai,an,aB,aj,AV.aC,ag,ae,-acU,oA,h0],by simp[AV.aC,aj,ag,oA,h0]⟩
theorem FC {p:Prog} {I T:DV} {x:Ins} (h:dC (oA p) x=true):bT aM 192 [.agg (x.cells.map .d),.ptr 0 0] [(0,[.fn 191 [.bj [aR p.aE,I,T]]])] λr m'=>r=.d (.bool false)/\m'=[(0,[.fn 191 [.bj [aR p.aE,I,T]]])]:=by
 have k:=CS (oA p) (gf:=191) (caps:=[.bj [aR p.aE,I,T]]) rfl rfl HS x;rw[h]at k;refine ay func192 OM ntmps192 results192 rfl ?_;unfold UO;refine J λK hK=>?_;simp only[go_sem,Ins.cells];refine hK _ (J λK hK=>?_);simp only[go_sem,Ins.cells];refine aY (k) ?_;simp only[go_sem];apply hK;apply ak;exact⟨.d (.bool false),by simp[bB,aV,bK,ah,ai,an,aB],[(0,0)],[(0,[.fn 191 [.bj [aR p.aE,I,T]]])],rfl,rfl,by simp[aL,aI,ai,an,aB,aj,AV.aC,ag,ae,-acU],by simp[AV.aC,aj,ag]⟩
def kL (p:Prog) (I T:DV):Mem:=[(0,[.fn 191 [.bj [aR p.aE,I,T]]])]
def VV (p:Prog) (I T X:DV) (n i:Nat):St:=⟨[(0,.d X),(1,.fn 192 [.ptr 0 0]),(7,aq n),(8,aq i)],kL p I T,1⟩
theorem FD {p:Prog} {I T X:DV} {l:List Ins} (hX:dM Ins.cells l X) (hb:l.length<=1000000) (h:∀x∈l,dC (oA p) x=true):
 bT aM 213 [.d X,.fn 192 [.ptr 0 0]] (kL p I T) λr m'=>r=aq (-1)/\m'=kL p I T:=by
 have hlen:=hX.len;unfold kL;refine ay func213 Er ntmps213 results213 rfl ?_;unfold Ud;refine J λK hK=>?_;simp only[go_sem];apply hK;refine aa λKE fK=>?_;refine J λK hK=>?_;simp only[go_sem,hlen];apply hK;apply aA;refine ax (S':=VV p I T X l.length 0) (aH.cN [(0,0)] ⟨by simp[bm,ah,AV.aC,aj,ag,VV,kL],by simp[aL,aI,ai,an,aj,AV.aC,ag,ae,-acU,VV,kL],rfl,rfl⟩) ?_;refine bM (λi=>VV p I T X l.length i) l.length ?_;intro i hi;unfold IU;by_cases bd:i<l.length
 ·have aQ:(i:Int)<l.length:=by omega
  have hw:=c8 (i:=i) (by omega);obtain⟨cs,rest,iq,bU,b9⟩:=hX.at lg (by decide) i bd;have hq:=h _ (adt bd);generalize l[i]=x at bU hq;have k:=FC (p:=p) (I:=I) (T:=T) hq;unfold VV kL;refine J λK hK=>?_;simp only[go_sem,aQ];apply hK;refine aa λK1 a8=>?_;refine aN ?_;apply au;apply a8;refine aa λK1 a8=>?_;apply aA;refine J λK hK=>?_;simp only[go_sem];refine hK _ (J λK hK=>?_);simp only[go_sem,iq,acX,aQ,acW,b9,bU,Ins.cells];refine⟨rfl,?_⟩
  refine bt [(0,0)] [.agg (x.cells.map .d),.ptr 0 0] [(0,[.fn 191 [.bj [aR p.aE,I,T]]])] (nb:=1000) (k) (by simp[bC]) (by first|(simp[aj,AV.aC,ag];done)|simp[aj,AV.aC,ag,Ins.cells]) (by first|(simp[bF,bE,ag];done)|simp[bF,bE,ag,Ins.cells]) (by simp[handed,ag,ai,an,aB,aj,AV.aC,bF,bE,Ins.cells]) rfl ?_;rintro r0 m' ⟨rfl,rfl⟩;simp only[go_sem,bn,bL,bN,ai,an,aB,bX,ag,aj,bG,AV.aC,adj,adb,adg,adi,adm,ac5,Ins.cells];apply hK;refine aK ?_;apply au;simp only[go_sem];apply a8;refine af rfl ?_;simp only[go_sem,hw];refine⟨bd,?_⟩
  exact aH.cN [(0,0)] ⟨by simp[bm,ah,AV.aC,aj,ag,VV,kL,iq],by simp[aL,aI,ai,an,aB,aj,AV.aC,ag,ae,-acU,VV,kL,iq],rfl,rfl⟩
 ·have dh:i=l.length:=by omega
  subst dh;have aQ:¬(l.length:Int)<l.length:=by omega
  unfold VV kL;refine J λK hK=>?_;simp only[go_sem,aQ];apply hK;refine aa λK1 a8=>?_;refine aK ?_;apply aZ;show KE _;refine fK _ (J λK hK=>?_);simp only[go_sem];apply hK;apply ak;exact⟨aq (-1),by simp[bB,aV,bK,ah,ai,an,aB],[(0,0)],[(0,[.fn 191 [.bj [aR p.aE,I,T]]])],rfl,rfl,by simp[aL,aI,ai,an,aB,aj,AV.aC,ag,ae,-acU],by simp[AV.aC,aj,ag]⟩
theorem FE {p:Prog} {I T X:DV} {l:List Ins} (hX:dM Ins.cells l X) (hb:l.length<=1000000) (h:∀x∈l,dC (oA p) x=true):
 bT aM 135 [.d X,.fn 192 [.ptr 0 0]] (kL p I T) λr m'=>r=.d (.bool false)/\m'=kL p I T:=by
 have k:=FD (p:=p) (I:=I) (T:=T) hX hb h;unfold kL at k⊢;refine ay func135 En ntmps135 results135 rfl ?_;unfold TX;refine J λK hK=>?_;simp only[go_sem];refine hK _ (J λK hK=>?_);simp only[go_sem];refine bt [(0,0)] [.d X,.fn 192 [.ptr 0 0]] [(0,[.fn 191 [.bj [aR p.aE,I,T]]])] (nb:=1000) (k) (by simp[bC]) (by first|(simp[aj,AV.aC,ag];done)|simp[aj,AV.aC,ag]) (by first|(simp[bF,bE,ag];done)|simp[bF,bE,ag]) (by simp[handed,ag,ai,an,aB,aj,AV.aC,bF,bE]) rfl ?_;rintro r0 m' ⟨rfl,rfl⟩;simp only[go_sem,bn,bL,bN,ai,an,aB,bX,ag,aj,bG,AV.aC,adj,adb,adg,adi,adm,ac5];apply hK;apply ak
 exact⟨.d (.bool false),by simp[bB,aV,bK,ah,ai,an,aB],[(0,0)],[(0,[.fn 191 [.bj [aR p.aE,I,T]]])],rfl,rfl,by simp[aL,aI,ai,an,aB,aj,AV.aC,ag,ae,-acU],by simp[AV.aC,aj,ag]⟩
theorem Bc (l:List UInt8) {i:Nat} (hi:i<l.length):∃rest,(l.map λb=>DV.int .u8 b.toNat).drop i=.int .u8 (l.getD i 0).toNat::rest:=by
 refine⟨(l.drop (i+1)).map λb=>DV.int .u8 b.toNat,?_⟩;rw[<-List.map_drop,List.drop_eq_getElem_cons hi,ade,adl,ac6 hi];rfl
def oX (p:Prog) (i:Nat):Nat:=((p.threads.take i).map List.length).sum
theorem HT (p:Prog) {i:Nat} (hi:i<p.threads.length):oX p (i+1)=oX p i+(p.threads.getD i []).length:=by
 unfold oX;rw[adG,adl,ac6 hi,adC,List.sum_append];simp
theorem Lx (p:Prog):oX p p.threads.length=(p.threads.map List.length).sum:=by unfold oX;rw[List.take_length]
theorem wh:∀{l:List (List Ins)},(∀x∈l,x.length<=10)->(l.map List.length).sum<=l.length*10
 | [],_=>by simp
 |a::l,h=>by
  have h1:=h a adw;have h2:=wh (l:=l) λx hx=>h x (adx _ hx);simp only[ade,List.sum_cons,ads];omega
theorem Qm {p:Prog} (h:zA p) (i:Nat):oX p i<=40:=by
 have h1:=wh (l:=p.threads.take i) λx hx=>h.len x (List.take_subset _ _ hx);have h2:=h.th4;unfold oX;rw[List.length_take]at h1;omega
def VW (T:DV) (n i s:Nat):St:=⟨[(3,aq s),(7,.d T),(8,aq n),(9,aq i)],[],0⟩
theorem HU {p:Prog} {T:DV} (h:cP Ins.cells p.threads T) {i:Nat} (hi:i<p.threads.length):
 ∃cs d rest,T=.sl p.threads.length cs/\cs.drop i=d::rest/\i<cs.length/\dM Ins.cells (p.threads.getD i []) d:=by
 obtain⟨ds,h1,h2⟩:=h;have hl:=h2.length;obtain⟨d,hd1,hd2⟩:=h2.get i (p.threads.getD i []) (by rw[adl,ac6 hi];rfl);obtain⟨cs,rest,e1,e2,e3⟩:=h1.at (w:=1) (λ_=>rfl) (by decide) i (by omega);have hdi:ds[i]'(by omega)=d:=by rw[ac6 (by omega)]at hd1;exact Option.some.inj hd1
 rw[hdi,Nat.mul_one]at e2;rw[Nat.mul_one]at e3;exact⟨cs,d,rest,by rw[e1,hl],e2,e3,hd2⟩
theorem Ly {p:Prog} {L I T:DV} (hT:cP Ins.cells p.threads T) (h:zA p):Pure aM 190 [.agg [.d L,.d I,.d T]] (aq ((p.threads.map List.length).sum:Nat)):=by
 have hlen:ir (.d T)=some p.threads.length:=by
  obtain⟨ds,h1,h2⟩:=hT;rw[h1.len,h2.length]
 have h4:=h.th4;have ph:=Lx p;refine ay func190 OK ntmps190 results190 rfl ?_;unfold UM;refine J λK hK=>?_;simp only[go_sem];refine hK _ (J λK hK=>?_);simp only[go_sem];apply hK;refine aa λKE fK=>?_;refine J λK hK=>?_;simp only[go_sem,hlen];apply hK;apply aA;refine ax (S':=VW T p.threads.length 0 (oX p 0)) (aH.cN [] ⟨by simp[bm,ah,AV.aC,aj,ag,VW,oX],by simp[aL,aI,ai,an,aj,AV.aC,ag,ae,-acU,VW,oX],rfl,rfl⟩) ?_;refine bM (λi=>VW T p.threads.length i (oX p i)) p.threads.length ?_;intro i hi;have hle:=Qm h i;unfold Jb;by_cases bd:i<p.threads.length
 ·have aQ:(i:Int)<p.threads.length:=by omega
  have hw:=c8 (i:=i) (by omega);have b0:=HT p bd;obtain⟨cs,d,rest,iq,bU,b9,hd⟩:=HU hT bd;have Xz:(p.threads.getD i []).length<=10:=by
   rw[adl,ac6 bd];exact h.len _ (adt bd)
  generalize p.threads.getD i []=l at b0 hd Xz;generalize oX p i=s at b0 hle;have zz:=hd.len;have TB:ac9.wrap ((s:Int)+(l.length:Int))=((s+l.length:Nat):Int):=by rw[wrap_i64 (by omega) (by omega)];rfl
  unfold VW;refine J λK hK=>?_;simp only[go_sem,aQ];apply hK;refine aa λK1 a8=>?_;refine aN ?_;apply au;apply a8;refine aa λK1 a8=>?_;apply aA;refine J λK hK=>?_;simp only[go_sem,iq,acX,aQ,bd,acW,b9,bU];apply hK;refine af rfl ?_;simp only[go_sem,zz,TB];apply a8;refine af rfl ?_;simp only[go_sem,hw];refine⟨bd,?_⟩;exact aH.cN [] ⟨by simp[bm,ah,AV.aC,aj,ag,VW,iq,b0],by simp[aL,aI,ai,an,aB,aj,AV.aC,ag,ae,-acU,VW,iq,b0],rfl,rfl⟩
 ·have dh:i=p.threads.length:=by omega
  subst dh;have aQ:¬(p.threads.length:Int)<p.threads.length:=by omega
  rw[ph];unfold VW;refine J λK hK=>?_;simp only[go_sem,aQ];apply hK;refine aa λK1 a8=>?_;refine aK ?_;apply aZ;show KE _;refine fK _ (J λK hK=>?_);simp only[go_sem];apply hK;apply ak;exact⟨aq ((p.threads.map List.length).sum:Nat),by simp[bB,aV,bK,ah,ai,an,aB],[],[],rfl,rfl,by simp[aL,aI,ai,an,aB,aj,AV.aC,ag,ae,-acU],by simp[AV.aC,aj,ag]⟩
def Rp (p:Prog) (I T:DV) (i:Nat):St:=⟨[(1,.bj [aR p.aE,I,T]),(39,.d (aR p.aE)),(40,aq p.aE.length),(41,aq i)],[],0⟩
def VX (p:Prog) (I T:DV) (i:Nat):St:=⟨[(5,.ptr 0 0),(67,.d T),(68,aq p.threads.length),(69,aq i)],kL p I T,1⟩
theorem FF {p:Prog} {I T:DV} (hI:fJ p.init I) (hT:cP Ins.cells p.threads T) (h:zA p):Pure aM 122 [.agg [.d (aR p.aE),.d I,.d T]] (.d (.bool true)):=by
 have hlen:ir (.d T)=some p.threads.length:=by
  obtain⟨ds,h1,h2⟩:=hT;rw[h1.len,h2.length]
 have hli:ir (.d I)=some p.init.length:=(qw hI).1;obtain⟨g1,g2,g3,g4,g5,g6,g7,g8,g9,g10⟩:=id h;have ks:=Ly (L:=aR p.aE) (I:=I) hT h;generalize WV:(p.threads.map List.length).sum=sm at g5 ks;have c1:¬((p.threads.length:Int)=0):=by omega
 have c2:¬((4:Int)<p.threads.length):=by omega
 have c3:¬((4:Int)<p.aE.length):=by omega
 have c4:((p.init.length:Int)=p.aE.length):=by omega
 have c5:¬((24:Int)<sm):=by omega
 refine ay func122 On ntmps122 results122 rfl ?_;unfold Ux;refine J λK hK=>?_;simp only[go_sem];apply hK;refine ax (aH.jn (S':=⟨[(1,.bj [aR p.aE,I,T]),(2,.d (.bool false))],[],0⟩) [] [(0,[aR p.aE,I,T])] ⟨by simp[fO,ah,AV.cv,dn,bI,ag],by simp[gd,aI,bI,ai],rfl,rfl,by simp[bD,bI,ai,dn,AV.cv]⟩) ?_;refine aa λK0 Ys=>?_;have wL:ir (.d (aR p.aE))=some p.aE.length:=rfl;refine J λK hK=>?_;simp only[go_sem,hlen,hli,wL,c1,c2,c3,eq_true c4,decide_false,decide_true,Bool.not_true];refine aY (ks) ?_;simp only[go_sem,c5,decide_false];apply hK;refine aK ?_;apply au;apply Ys;refine aa λKE fK=>?_
 refine J λK hK=>?_;simp only[go_sem,wL];apply hK;apply aA;refine ax (S':=Rp p I T 0) (aH.cN [] ⟨by simp[bm,ah,AV.aC,aj,ag,Rp],by simp[aL,aI,ai,an,aj,AV.aC,ag,ae,-acU,Rp],rfl,rfl⟩) ?_;refine bM (λi=>Rp p I T i) p.aE.length ?_;intro i hi;unfold I0;by_cases bd:i<p.aE.length
 ·have aQ:(i:Int)<p.aE.length:=by omega
  have hw:=c8 (i:=i) (by omega);have hc:=g6 (p.aE.getD i 0) (by rw[adl,ac6 bd];exact adt bd);have hs:=g7 i;obtain⟨rest,bU⟩:=Bc p.aE bd;have aci:=(p.aE.getD i 0).toNat_lt;have kl:=iP (p.aE.getD i 0).toNat;rw[hc]at kl;have ZY:ac9.wrap ((p.aE.getD i 0).toNat:Int)=((p.aE.getD i 0).toNat:Int):=wrap_i64 (by omega) (by omega);generalize p.aE.getD i 0=c at hc hs bU aci kl ZY;unfold Rp;refine J λK hK=>?_;simp only[go_sem,aQ];apply hK;refine aa λK1 a8=>?_;refine aN ?_;apply au;apply a8;refine aa λK1 a8=>?_;apply aA;refine J λK hK=>?_;simp only[go_sem,aR,acX,aQ,bd,acW,bU,acY];apply hK;by_cases h0:i=0
  ·subst h0;refine J λK hK=>?_;simp only[go_sem,aR,ZY];refine aY (kl) ?_;simp only[go_sem,Int.natCast_zero];apply hK;refine aK ?_;apply au;simp only[go_sem];apply a8;refine af rfl ?_;simp only[go_sem,hw];refine⟨bd,?_⟩;exact aH.cN [] ⟨by simp[bm,ah,AV.aC,aj,ag,Rp,aR,show ac9.wrap 1=1 by decide],by simp[aL,aI,ai,an,aB,aj,AV.aC,ag,ae,-acU,Rp,aR,show ac9.wrap 1=1 by decide],rfl,rfl⟩
  ·have K9:(0:Int)<i:=by omega
   have DR:=hs (by omega) bd;obtain⟨JA,CJ⟩:=Bc p.aE (i:=i-1) (by omega);have acj:¬((c.toNat:Int)<=((p.aE.getD (i-1) 0).toNat:Int)):=by omega
   have q5:ac9.wrap ((i:Int)-1)=((i-1:Nat):Int):=by rw[wrap_i64 (by omega) (by omega)];omega
   have R9:((i-1:Nat):Int)<p.aE.length:=by omega
   have hp2:i-1<p.aE.length:=by omega
   refine J λK hK=>?_;simp only[go_sem,aR,ZY];refine aY (kl) ?_;simp only[go_sem,K9,decide_true,aR,q5,acX,R9,hp2,acW,CJ,acY,acj,decide_false];apply hK;refine aK ?_;apply au;simp only[go_sem];apply a8;refine af rfl ?_;simp only[go_sem,hw];refine⟨bd,?_⟩;exact aH.cN [] ⟨by simp[bm,ah,AV.aC,aj,ag,Rp,aR],by simp[aL,aI,ai,an,aB,aj,AV.aC,ag,ae,-acU,Rp,aR],rfl,rfl⟩
 ·have dh:i=p.aE.length:=by omega
  subst dh;have aQ:¬(p.aE.length:Int)<p.aE.length:=by omega
  unfold Rp;refine J λK hK=>?_;simp only[go_sem,aQ];apply hK;refine aa λK1 a8=>?_;refine aK ?_;apply aZ;show KE _;refine fK _ (J λK hK=>?_);simp only[go_sem];apply hK;refine aa λKF hKF=>?_;refine J λK hK=>?_;simp only[go_sem,hlen];apply hK;apply aA;refine ax (S':=VX p I T 0) (aH.cN [(0,0)] ⟨by simp[bm,ah,AV.aC,aj,ag,VX,kL],by simp[aL,aI,ai,an,aj,AV.aC,ag,ae,-acU,VX,kL],rfl,rfl⟩) ?_;refine bM (λi=>VX p I T i) p.threads.length ?_;intro i hi;unfold I1;by_cases bd:i<p.threads.length
  ·have aQ:(i:Int)<p.threads.length:=by omega
   have hw:=c8 (i:=i) (by omega);obtain⟨cs,d,rest,iq,bU,b9,hd⟩:=HU hT bd;have hm:p.threads.getD i []∈p.threads:=by
    rw[adl,ac6 bd];exact adt bd
   have q1:=g8 _ hm;have q2:=g9 _ hm;have q3:=g10 _ hm;generalize p.threads.getD i []=l at hd q1 q2 q3;have zz:=hd.len;have kj:=yh hd;rw[q2]at kj;have ka:=FE (p:=p) (I:=I) (T:=T) hd (by omega) q3;have Xz:¬((10:Int)<l.length):=by omega
   unfold VX kL;refine J λK hK=>?_;simp only[go_sem,aQ];apply hK;refine aa λK1 a8=>?_;refine aN ?_;apply au;apply a8;refine aa λK1 a8=>?_;apply aA;refine J λK hK=>?_;simp only[go_sem,iq,acX,aQ,bd,acW,b9,bU];refine hK _ (J λK hK=>?_);simp only[go_sem,zz,Xz,decide_false];refine aY (kj) ?_;simp only[go_sem];refine bt [(0,0)] [.d d,.fn 192 [.ptr 0 0]] (kL p I T) (nb:=1000) (ka) (by simp[bC]) (by first|(simp[aj,AV.aC,ag];done)|simp[aj,AV.aC,ag,kL,<-iq]) (by first|(simp[bF,bE,ag];done)|simp[bF,bE,ag,kL,<-iq]) (by simp[handed,ag,ai,an,aB,aj,AV.aC,bF,bE,kL,<-iq]) rfl ?_;rintro r0 m' ⟨rfl,rfl⟩
   simp only[go_sem,bn,bL,bN,ai,an,aB,bX,ag,aj,bG,AV.aC,adj,adb,adg,adi,adm,ac5,kL,<-iq];apply hK;refine aK ?_;apply au;simp only[go_sem];apply a8;refine af rfl ?_;simp only[go_sem,hw];refine⟨bd,?_⟩;exact aH.cN [(0,0)] ⟨by simp[bm,ah,AV.aC,aj,ag,VX,kL,<-iq],by simp[aL,aI,ai,an,aB,aj,AV.aC,ag,ae,-acU,VX,kL,<-iq],rfl,rfl⟩
  ·have dh:i=p.threads.length:=by omega
   subst dh;have aQ:¬(p.threads.length:Int)<p.threads.length:=by omega
   unfold VX kL;refine J λK hK=>?_;simp only[go_sem,aQ];apply hK;refine aa λK1 a8=>?_;refine aK ?_;apply aZ;show KF _;refine hKF _ (J λK hK=>?_);simp only[go_sem];apply hK;apply ak;exact⟨.d (.bool true),by simp[bB,aV,bK,ah,ai,an,aB],[],[],rfl,rfl,by simp[aL,aI,ai,an,aB,aj,AV.aC,ag,ae,-acU],by simp[AV.aC,aj,ag]⟩
def XA (l:List UInt8):List DV:=l.map λb=>.int .u8 b.toNat
theorem JK (l:List UInt8):l.flatMap (λb:UInt8=>[DV.int .u8 b.toNat])=XA l:=by
 induction l with
 |nil=>rfl
 |cons a l ih=>rw[adr,ih];rfl
theorem Lz (l:List UInt8):aR l=.sl l.length (XA l):=rfl
theorem LA (l:List UInt8) (h:l.length<=1000000000000):dM (λb:UInt8=>[DV.int .u8 b.toNat]) l (aR l):=⟨by omega,.inr (by rw[JK];rfl)⟩
theorem S4 (l:List UInt8):(XA l).take l.length=XA l:=ac8 (by simp[XA])
def lp (l:List Int):List DV:=l.map λi=>.int .i64 i
theorem JL (l:List Int):(lp l).take l.length=lp l:=ac8 (by simp[lp])
theorem CT (l:List Int):(l.map (DV.int .i64)).flatMap (λd=>[d])=lp l:=by simp[lp]
def Qn (l:List Ins):DV:=.sl l.length (l.flatMap Ins.cells)
def lq (l:List (List Ins)):List DV:=l.map Qn
theorem FG {l:List (List Ins)} {i:Nat} (hi:i<l.length):lq (l.take (i+1))=lq (l.take i)++[Qn (l.getD i [])]:=by
 unfold lq;rw[adG,adC,adl,ac6 hi];rfl
theorem qE (l:List (List Ins)):(lq l).length=l.length:=by simp[lq]
theorem LB (l:List Ins):(l.flatMap Ins.cells).take (l.length*9)=l.flatMap Ins.cells:=ac8 (by rw[u5 lg];exact acV _)
theorem HV {l:List UInt8} (hb:l.length<=1000000000000):bT aM 194 [.d (aR l)] [] λr m'=>r=.sl 0 1 0 l.length/\m'=[(0,(XA l).map .d)]:=by
 have h:=(LA l hb).Yl (w:=1) (λ_=>rfl);rw[JK]at h;exact je (de:=1) (bytes:=1) func194 ON ntmps194 rfl results194 h (by omega)
theorem LC {l:List Int} {X:DV} (h:fJ l X) (hb:l.length<=1000000000000):bT aM 195 [.d X] [] λr m'=>r=.sl 0 1 0 l.length/\m'=[(0,(lp l).map .d)]:=by
 have h:=dM.Yl (w:=1) (λ_=>rfl) h;rw[CT,acY]at h;exact je (de:=1) (bytes:=8) func195 OO ntmps195 rfl results195 h (by omega)
theorem Qo {l:List Ins} {X:DV} (h:dM Ins.cells l X) (hb:l.length<=1000000000):bT aM 158 [.d X] [] λr m'=>r=.sl 0 9 0 l.length/\m'=[(0,(l.flatMap Ins.cells).map .d)]:=
 je (de:=9) (bytes:=72) func158 EI ntmps158 rfl results158 (h.Yl lg) (by omega)
def VY (p:Prog) (ps:List DV) (T:DV) (i:Nat) (ds:List DV):St:=
 ⟨[(1,.bj ps),(2,.ptr 0 0),(3,.ptr 1 0),(14,.d T),(15,aq p.threads.length),(16,aq i)],[(0,[.d .cE,.d .cE,.d .cE]),(1,[.d (aR p.aE),.d (.sl p.init.length (lp p.init)),.sl 2 1 0 i]),(2,ds.map .d)],3⟩
theorem FH {p:Prog} {I T:DV} (hI:fJ p.init I) (hT:cP Ins.cells p.threads T) (h:zA p):
 Pure aM 123 [.agg [.d (aR p.aE),.d I,.d T]] (.agg [.d (aR p.aE),.d (.sl p.init.length (lp p.init)),.d (.sl p.threads.length (lq p.threads))]):=by
 have hlen:ir (.d T)=some p.threads.length:=by
  obtain⟨ds,h1,h2⟩:=hT;rw[h1.len,h2.length]
 have g2:=h.th4;have g3:=h.lc;have g4:=h.ini;have kb:=HV (l:=p.aE) (by omega);have ki:=LC hI (by omega);refine ay func123 Oo ntmps123 results123 rfl ?_;unfold Uy;refine J λK hK=>?_;simp only[go_sem];apply hK;refine ax (aH.jn (S':=⟨[(1,.bj [aR p.aE,I,T]),(2,.ptr 0 0)],[(0,[.d .cE,.d .cE,.d .cE])],1⟩) [(1,0)] [(0,[aR p.aE,I,T])] ⟨by simp[fO,ah,AV.cv,dn,bI,ag],by simp[gd,aI,bI,ai,dn,AV.cv],rfl,rfl,by simp[bD,bI,ai,dn,AV.cv]⟩) ?_;refine aa λK hK=>az rfl rfl ?_;simp only[go_sem]
 refine eQ [] [.d (aR p.aE)] [] (nb:=1000) (kb) (by simp[bC]) (by first|(simp[aj,AV.aC,ag];done)|simp[aj,AV.aC,ag,aw,adp,adq,ado]) (by first|(simp[bF,bE,ag];done)|simp[bF,bE,ag,aw,adp,adq,ado]) (by simp[handed,ag,ai,an,aB,aj,AV.aC,bF,bE,cT,aw,adp,adq,ado]) rfl ?_;simp only[go_sem,dX,ade,adu,bn,bL,bN,ai,an,aB,bX,ag,aj,bG,AV.aC,adj,adb,adg,adi,adm,ac5,aw,adp,adq,ado]
 refine eQ [] [.d I] [] (nb:=1000) (ki) (by simp[bC]) (by first|(simp[aj,AV.aC,ag];done)|simp[aj,AV.aC,ag,aw,adp,adq,ado]) (by first|(simp[bF,bE,ag];done)|simp[bF,bE,ag,aw,adp,adq,ado]) (by simp[handed,ag,ai,an,aB,aj,AV.aC,bF,bE,cT,aw,adp,adq,ado]) rfl ?_;simp only[go_sem,dX,ade,adu,bn,bL,bN,ai,an,aB,bX,ag,aj,bG,AV.aC,adj,adb,adg,adi,adm,ac5,aw,adp,adq,ado];refine⟨rfl,hK _ ?_⟩
 refine ax (aH.jn (S':=⟨[(1,.bj [aR p.aE,I,T]),(2,.ptr 0 0),(3,.ptr 1 0)],[(0,[.d .cE,.d .cE,.d .cE]),(1,[.d (aR p.aE),.d (.sl p.init.length (lp p.init)),.d .cE])],2⟩) [(0,0),(8,1)] [(3,XA p.aE),(6,lp p.init)] ⟨by simp[fO,ah,AV.cv,dn,bI,ag],by simp[gd,aI,bI,ai,dn,AV.cv,S4,JL,Lz],rfl,rfl,by simp[bD,bI,ai,dn,AV.cv,cF,-acU]⟩) ?_;refine aa λKE fK=>?_;refine J λK hK=>?_;simp only[go_sem,hlen];apply hK;apply aA;refine ax (aH.qo 1 2 1 rfl rfl rfl rfl) ?_
 refine ax (S':=VY p [aR p.aE,I,T] T 0 (lq (p.threads.take 0))) (aH.cN [(0,0),(1,1),(2,2)] ⟨by simp[VY,bm,ah,AV.aC,aj,ag],by simp[VY,lq,aL,aI,ai,an,aB,aj,AV.aC,ag],rfl,rfl⟩) ?_;refine bM (λi=>VY p [aR p.aE,I,T] T i (lq (p.threads.take i))) p.threads.length ?_;intro i hi;unfold I2;by_cases bd:i<p.threads.length
 ·have aQ:(i:Int)<p.threads.length:=by omega
  have hw:=c8 (i:=i) (by omega);obtain⟨cs,d,rest,iq,bU,b9,hd⟩:=HU hT bd;have hm:p.threads.getD i []∈p.threads:=by
   rw[adl,ac6 bd];exact adt bd
  have q1:=h.len _ hm;have b0:=FG bd;have zz:(lq (p.threads.take i)).length=i:=by rw[qE,List.length_take];omega
  generalize p.threads.getD i []=l at hd q1 b0;generalize lq (p.threads.take i)=ds at b0 zz;have kc:=Qo hd (by omega);have uU:(i+1)*24<=140737488351232:=by omega
  unfold VY;refine J λK hK=>?_;simp only[go_sem,aQ];apply hK;refine aa λK1 a8=>?_;refine aN ?_;apply au;apply a8;refine aa λK1 a8=>?_;apply aA;refine J λK hK=>?_;simp only[go_sem,iq,acX,aQ,bd,acW,b9,bU];apply hK;refine az rfl rfl ?_;simp only[go_sem];refine eQ [] [.d d] [] (nb:=1000) (kc) (by simp[bC]) (by first|(simp[aj,AV.aC,ag];done)|simp[aj,AV.aC,ag,aw,adp,adq,ado,uU,zz,acY]) (by first|(simp[bF,bE,ag];done)|simp[bF,bE,ag,aw,adp,adq,ado,uU,zz,acY]) (by simp[handed,ag,ai,an,aB,aj,AV.aC,bF,bE,cT,aw,adp,adq,ado,uU,zz,acY]) rfl ?_
  simp only[go_sem,dX,ade,adu,bn,bL,bN,ai,an,aB,bX,ag,aj,bG,AV.aC,adj,adb,adg,adi,adm,ac5,aw,adp,adq,ado,uU,zz,acY];refine⟨rfl,?_⟩;apply a8;refine af rfl ?_;simp only[go_sem,hw];refine⟨bd,?_⟩;exact aH.jn [(0,0),(1,1),(8,2)] [(6,l.flatMap Ins.cells)] ⟨by simp[VY,fO,ah,AV.cv,dn,bI,ag,<-iq],by simp[VY,gd,aI,bI,ai,an,aB,dn,AV.cv,cF,ba,LB,b0,Qn,ag,-acU],rfl,rfl,by simp[bD,bI,ai,an,aB,dn,AV.cv,cF,-acU]⟩
 ·have dh:i=p.threads.length:=by omega
  subst dh;have aQ:¬(p.threads.length:Int)<p.threads.length:=by omega
  rw[List.take_length];have vP:(lq p.threads).take p.threads.length=lq p.threads:=ac8 (by rw[qE];exact acV _);unfold VY;refine J λK hK=>?_;simp only[go_sem,aQ];apply hK;refine aa λK1 a8=>?_;refine aK ?_;apply aZ;show KE _;refine fK _ (J λK hK=>?_);simp only[go_sem];apply hK;refine ax (aH.jn (S':=⟨[(2,.ptr 0 0)],[(0,[.d (aR p.aE),.d (.sl p.init.length (lp p.init)),.d (.sl p.threads.length (lq p.threads))])],1⟩) [(0,0)] [(2,lq p.threads)] ⟨by simp[fO,ah,AV.cv,dn,bI,ag],by simp[gd,aI,bI,ai,an,dn,AV.cv,ag,vP],rfl,rfl,by simp[bD,ai,an,cF,-acU]⟩) ?_;have vM:o4 aM 39=some (some 3):=by kernel_rfl
  apply ak;exact⟨.agg [.d (aR p.aE),.d (.sl p.init.length (lp p.init)),.d (.sl p.threads.length (lq p.threads))],by simp[bB,aV,bK,ah,ai,an,aB,vM,aP],[],[],rfl,rfl,by simp[aL,aI,ai,an,aB,aj,AV.aC,ag,ae,-acU,vM,aP],by simp[AV.aC,aj,ag,vM,aP]⟩
def ga (p:Prog):l8:=⟨aR p.aE,.sl p.init.length (lp p.init),.sl p.threads.length (lq p.threads)⟩
theorem yZ {p:Prog} (h:zA p):cP Ins.cells p.threads (ga p).T:=by
 have h4:=h.th4;refine⟨lq p.threads,⟨by rw[qE];omega,.inr ?_⟩,?_⟩
 ·show DV.sl p.threads.length (lq p.threads)=_;rw[qE,show(lq p.threads).flatMap (λd=>[d])=lq p.threads by simp]
 ·have key:∀(l:List (List Ins)),(∀x∈l,x.length<=10)->re Ins.cells l (lq l):=by
   intro l;induction l with
   |nil=>exact λ_=>trivial
   |cons a l ih=>exact λh=>⟨⟨by have:=h a adw;omega,.inr rfl⟩,ih λx hx=>h x (adx _ hx)⟩
  exact key _ h.len
theorem Bd {p:Prog} (h:zA p):rO p:=λl hl=>by have:=h.len l hl;omega
theorem FI {p:Prog} (h:zA p):tm p:=⟨Bd h,λl hl x hx h1 h4=>by
 have hq:=h.ins l hl x hx;have hlc:=h.lc;unfold dC at hq;by_cases e1:x.kind=1;·simp[e1,oA]at hq;omega
 by_cases e2:x.kind=2;·simp[e2,oA]at hq;omega
 by_cases e3:x.kind=3;·simp[e3,gH]at hq;omega
 by_cases e4:x.kind=4;·simp[e4,oA]at hq;omega
 ·omega⟩
def CU (p:Prog) (m:Int):Nat->Vm
 |0=>{Ym with p:=p,m:=m}
 |t+1=>let v:=CU p m t;{v with locals:=v.locals.set t (kK p t),dU:=v.dU.set t (o1 m),src:=v.src.set t (-1)}
theorem HW (p:Prog) (m:Int):∀t,(CU p m t).ok
 |0=>⟨oy.locals,oy.E0,oy.mem,oy.src,oy.dU,oy.E2,oy.qP⟩
 |t+1=>by
  have h:=HW p m t;refine⟨by simp[CU,h.locals],λl hl=>?_,h.mem,by simp[CU,h.src],by simp[CU,h.dU],λb hb=>?_,λb hb=>?_⟩
  ·rcases List.mem_or_eq_of_mem_set hl with h1|rfl;·exact h.E0 l h1
   ·exact yv _
  ·rcases List.mem_or_eq_of_mem_set hb with h1|rfl;·exact h.E2 b h1
   ·exact Cq _
  ·rcases List.mem_or_eq_of_mem_set hb with h1|rfl;·exact h.qP b h1
   ·simp[o1]
theorem JM (p:Prog) (m:Int):jJ p m={CU p m 4 with mem:=EO p.init}:=rfl
theorem VZ (p:Prog) (m:Int):∀t,(CU p m t).p=p/\(CU p m t).m=m/\(CU p m t).mem=[0,0,0,0]/\(CU p m t).steps=[]
 |0=>⟨rfl,rfl,rfl,rfl⟩
 |t+1=>VZ p m t
theorem LD {d:l8} {v:Vm} (h:v.ok) (hm:v.mem=[0,0,0,0]) {l:List Int} (hl:l.length<=4) {s:AV}:putAt (eG d v s) 24 ((lp l).map .d)=eG d {v with mem:=EO l} s:=by
 obtain⟨vp,vm,vl,acQ,vs,vb,vst⟩:=v;simp only at hm;subst hm;have kk:∀(m:List Int) (i:Nat) (x:Int),m.length=4->i<4->(eG d ⟨vp,vm,vl,m,vs,vb,vst⟩ s).set (24+i) (aq x)=eG d ⟨vp,vm,vl,m.set i x,vs,vb,vst⟩ s:=λm i x hm hi=>
  uW (v:=⟨vp,vm,vl,m,vs,vb,vst⟩) ⟨h.locals,h.E0,hm,h.src,h.dU,h.E2,h.qP⟩ hi
 match l,hl with
 | [],_=>rfl
 | [a],_=>
   show(eG d _ s).set (24+0) _=_;rw[kk _ 0]<;>first|rfl|decide
 | [a,b],_=>
   show((eG d _ s).set (24+0) _).set (24+1) _=_;rw[kk _ 0,kk _ 1]<;>first|rfl|decide
 | [a,b,c],_=>
   show(((eG d _ s).set (24+0) _).set (24+1) _).set (24+2) _=_;rw[kk _ 0,kk _ 1,kk _ 2]<;>first|rfl|decide
 | [a,b,c,e],_=>
   show((((eG d _ s).set (24+0) _).set (24+1) _).set (24+2) _).set (24+3) _=_;rw[kk _ 0,kk _ 1,kk _ 2,kk _ 3]<;>first|rfl|decide
 |_::_::_::_::_::_,hl=>simp at hl
def V0 (p:Prog) (I T:DV) (m:Int) (v:Vm) (t:Nat):St:=
 ⟨[(1,aq m),(2,.ptr 0 0),(6,.ptr 1 0),(24,aq t)],[(0,[.d (aR p.aE),.d I,.d T]),(1,eG (ga p) v (.d .cE))],2⟩
theorem wi {p:Prog} {I T:DV} (hI:fJ p.init I) (hT:cP Ins.cells p.threads T) (h:zA p) {m:Int} (um:1<=m) (uo:m<=3):
 bT aM 78 [.agg [.d (aR p.aE),.d I,.d T],aq m] [] λr m'=>r=.cu [.ptr 0 0,aq 0]/\m'=[(0,eG (ga p) (jJ p m) (.d .cE))]:=by
 have ko:=FF hI hT h;have kc:=FH hI hT h;have c1:¬m<1:=by omega
 have c2:¬3<m:=by omega
 have g3:=h.lc;have g4:=h.ini;refine ay func78 Sk ntmps78 results78 rfl ?_;unfold Z6;refine aa λK hK=>af rfl ?_;simp only[go_sem,↓reduceIte];refine hK _ ?_;clear hK;refine aa λK0 Ys=>?_;refine aa λK hK=>af rfl ?_;simp only[go_sem,↓reduceIte,c1,c2,decide_false];refine aF (ko) (by simp[bF,bE]) (by simp[bF,bE]) ?_;simp only[go_sem,↓reduceIte];refine hK _ ?_;clear hK;refine bP false (by simp[ev,ah]) (λh=>nomatch h) (λ_=>?_);refine au ?_;refine Ys _ ?_;clear Ys;refine aa λK hK=>af rfl ?_;simp only[go_sem,↓reduceIte];refine aF (kc) (by simp[bF,bE]) (by simp[bF,bE]) ?_;simp only[go_sem,↓reduceIte]
 refine hK _ ?_;clear hK;refine aa λKE fK=>?_;refine aa λK hK=>af rfl ?_;simp only[go_sem,↓reduceIte];refine hK _ ?_;clear hK;refine aA ?_;refine ax (S':=V0 p I T m (CU p m 0) 0) (aH.cN [(0,0),(1,1)] ⟨by simp[IA,bm,ah,V0,AV.aC,aj,ag],by simp only[V0,aT,aL,aI];exact⟨rfl,rfl,trivial⟩,rfl,rfl⟩) ?_;refine bM (λt=>V0 p I T m (CU p m t) t) 4 ?_;intro t ht;unfold Oh;have b8:=HW p m t;by_cases bd:t<4
 ·have aQ:(t:Int)<4:=by omega
  have hw:ac9.wrap ((t:Int)+1)=((t+1:Nat):Int):=by rw[wrap_i64 (by omega) (by omega)];rfl
  have Qp:=yv (p:=p) t;have Qq:=Cq m;have ks:=Hw (L:=(ga p).L) (I:=(ga p).I) (yZ h) (Bd h) t;have kb:=EY m;have b0:CU p m (t+1)={{{CU p m t with locals:=(CU p m t).locals.set t (kK p t)}with dU:=(CU p m t).dU.set t (o1 m)}with src:=(CU p m t).src.set t (-1)}:=rfl;generalize CU p m t=v at b8 b0;generalize kK p t=l at Qp ks b0;have wL:(o1 m).l=[]:=rfl;generalize o1 m=b at Qq kb b0 wL;have S5:Vm.ok {v with locals:=v.locals.set t l}:=⟨by simp[b8.locals],λx hx=>by
   rcases List.mem_or_eq_of_mem_set hx with h1|rfl;·exact b8.E0 x h1
   ·exact Qp,b8.mem,b8.src,b8.dU,b8.E2,b8.qP⟩
  have r9:=gr (d:=ga p) (s:=.d .cE) b8;have e1:4+t*5+5<=329:=by omega
  have e2:32+t*74+74<=329:=by omega
  have e3:28+t+1<=329:=by omega
  have e4:28+t*1+1<=329:=by omega
  unfold V0;refine aa λK hK=>af rfl ?_;simp only[go_sem,↓reduceIte,aQ,decide_true];refine hK _ ?_;clear hK;refine aa λK1 a8=>?_;refine bP true (by simp[ev,ah]) (λ_=>?_) (λh=>nomatch h);refine au ?_;refine a8 _ ?_;clear a8;refine aa λK1 a8=>?_;refine aA ?_;refine aa λK hK=>af rfl ?_;simp only[go_sem,↓reduceIte];refine hK _ ?_;clear hK;refine aa λK hK=>az rfl rfl ?_;simp only[go_sem,↓reduceIte,ac3,xk b8];refine bY (ks) (by simp[bF,bE]) (by simp[bF,bE]) ?_;simp only[go_sem,↓reduceIte,acX,aQ,bd,acW,dH Qp,mn Qp,mo,vZ b8 bd Qp,r9,e1];refine⟨rfl,hK _ ?_⟩;clear hK
  have aas:Vm.ok {v with locals:=v.locals.set t l,dU:=v.dU.set t b}:=⟨S5.locals,S5.E0,b8.mem,b8.src,by simp[b8.dU],λx hx=>by
   rcases List.mem_or_eq_of_mem_set hx with h1|h1;·exact b8.E2 x h1
   ·rw[h1];exact Qq,λx hx=>by
   rcases List.mem_or_eq_of_mem_set hx with h1|h1;·exact b8.qP x h1
   ·rw[h1];intro e he;rw[wL]at he;cases he⟩
  have ack:=gr (d:=ga p) (s:=.d .cE) S5;have acm:=gr (d:=ga p) (s:=.d .cE) aas;have Xe:=uV (d:=ga p) (s:=.d .cE) S5 bd Qq;have KT:=uX (d:=ga p) (s:=.d .cE) aas bd (x:=-1);simp only at Xe KT;refine aa λK hK=>az rfl rfl ?_;simp only[go_sem,↓reduceIte];refine bY (kb) (by simp[bF,bE]) (by simp[bF,bE]) ?_;simp only[go_sem,↓reduceIte,acX,aQ,bd,acW,fo Qq,eV Qq,mq,Xe,ack,e2];refine⟨rfl,hK _ ?_⟩;clear hK;refine af rfl ?_;simp only[go_sem,↓reduceIte,acX,aQ,bd,acW,Nat.mul_one,KT,acm,e3];refine a8 _ ?_;clear a8;refine af rfl ?_;simp only[go_sem,↓reduceIte,hw];refine⟨bd,?_⟩
  exact aH.cN [(0,0),(1,1)] ⟨by simp[bm,ah,AV.aC,aj,ag,V0,b0,aT],by simp[aL,aI,ai,an,aB,aj,AV.aC,ag,ae,-acU,V0,b0,aT],rfl,rfl⟩
 ·have dh:t=4:=by omega
  subst dh;have hnv:=JM p m;have BE:=(VZ p m 4).2.2.1;have Ml:=LD (d:=ga p) (s:=.d .cE) b8 BE (l:=p.init) (by omega);have r9:=gr (d:=ga p) (s:=.d .cE) b8;generalize CU p m 4=v at b8 Ml r9 hnv;have LF:jJ p m=⟨v.p,v.m,v.locals,EO p.init,v.src,v.dU,v.steps⟩:=hnv;unfold V0;refine aa λK hK=>af rfl ?_;simp only[go_sem,↓reduceIte,show¬((4:Nat):Int)<4 by decide,decide_false];refine hK _ ?_;clear hK;refine aa λK1 a8=>?_;refine bP false (by simp[ev,ah]) (λh=>nomatch h) (λ_=>?_);refine aZ ?_;show KE _;refine fK _ ?_;clear fK;refine aa λK hK=>az rfl rfl ?_
  have WW:(lp p.init).length=p.init.length:=by simp[lp]
  have q1:p.init.length<=4:=by omega
  have q2:24+p.init.length<=329:=by omega
  rcases hI.2 with⟨rfl,h0⟩|h1
  ·have hp0:p.init=[]:=by simpa using h0
   have XB:eG (ga p) v (.d .cE)=eG (ga p) ⟨v.p,v.m,v.locals,EO p.init,v.src,v.dU,v.steps⟩ (.d .cE):=by rw[hp0]at Ml⊢;exact Ml
   simp only[go_sem,↓reduceIte,kg,qJ,r9];refine⟨rfl,hK _ ?_⟩;clear hK;refine aa λK hK=>af rfl ?_;simp only[go_sem,↓reduceIte];refine hK _ ?_;clear hK;refine ak ?_;exact⟨.cu [.ptr 1 0,aq 0],by simp[bB,aV,bK,ah,ai,an,aB,aT,LF,XB],[(1,0)],[(0,eG (ga p) {v with mem:=EO p.init} (.d .cE))],rfl,rfl,by simp[aL,aI,ai,an,aB,aj,AV.aC,ag,ae,-acU,aT,LF,XB],by simp[AV.aC,aj,ag,aT,LF,XB]⟩
  ·obtain rfl:I=.sl p.init.length (lp p.init):=by rw[h1,CT,acY]
   simp only[go_sem,↓reduceIte,kg,qJ,r9,WW,Ml,q1,q2];refine⟨rfl,hK _ ?_⟩;clear hK;refine aa λK hK=>af rfl ?_;simp only[go_sem,↓reduceIte];refine hK _ ?_;clear hK;refine ak ?_;exact⟨.cu [.ptr 1 0,aq 0],by simp[bB,aV,bK,ah,ai,an,aB,aT,LF],[(1,0)],[(0,eG (ga p) {v with mem:=EO p.init} (.d .cE))],rfl,rfl,by simp[aL,aI,ai,an,aB,aj,AV.aC,ag,ae,-acU,aT,LF],by simp[AV.aC,aj,ag,aT,LF]⟩
theorem xp (p:Prog) (m:Int):(jJ p m).ok:=by
 have h:=HW p m 4;rw[JM];exact⟨h.locals,h.E0,by simp[EO],h.src,h.dU,h.E2,h.qP⟩
theorem S6 {p:Prog} (h:zA p) (m:Int):rU (ga p) (jJ p m) (iI (ga p) (jJ p m)++[.cE]):=
 ⟨xp p m,FI h,yZ h,by simp[jJ],.cE,rfl,by simp[jJ],.inl ⟨rfl,rfl⟩⟩
def ik:Option Found->List DV
 |none=>[.cE,.int .i64 0,.int .i64 0,.bool false]
 |some f=>[.sl f.runs.length (cC f.runs),.int .i64 f.blocked,.int .i64 f.aS,.bool true]
theorem oB {p:Prog} {I T:DV} (hI:fJ p.init I) (hT:cP Ins.cells p.threads T) (h:zA p) {m:Int} (um:1<=m) (uo:m<=3) (aO:Int):
 Pure aM 39 [.agg [.d (aR p.aE),.d I,.d T],aq m,aq aO] (.agg ((ik (explore p m aO)).map .d)):=by
 have kn:=wi hI hT h um uo;have hbm:(if(2000000:Int)<(if aO<0 then 0 else aO)then 2000000 else(if aO<0 then 0 else aO))=min (max aO 0) 2000000:=by
  repeat' split
  all_goals omega
 have hex:explore p m aO=(rJ 4000010 (et (sf m (min (max aO 0) 2000000)) (jJ p m) 0)).map λw=>⟨w.runs,w.blocked,w.aS⟩:=rfl;have kr:=HR (m:=m) (aO:=min (max aO 0) 2000000) (S6 h m) rfl (by omega) (by omega) rfl;rw[hex];generalize min (max aO 0) 2000000=bud at hbm kr hex;generalize rJ 4000010 (et (sf m bud) (jJ p m) 0)=res at kr;have LG:o4 aM 112=some (some 4):=by kernel_rfl
 refine ay func39 Se ntmps39 results39 rfl ?_;unfold Z3;refine J λK hK=>?_;simp only[go_sem];refine hK _ (J λK hK=>?_);simp only[go_sem];refine bt [] [.agg [.d (aR p.aE),.d I,.d T],aq m] [] (nb:=1000) (kn) (by simp[bC]) (by first|(simp[aj,AV.aC,ag];done)|simp[aj,AV.aC,ag,aw,adp,adq,ado,aT]) (by first|(simp[bF,bE,ag];done)|simp[bF,bE,ag,aw,adp,adq,ado,aT]) (by simp[handed,ag,ai,an,aB,aj,AV.aC,bF,bE,aw,adp,adq,ado,aT]) rfl ?_;rintro r0 m' ⟨rfl,rfl⟩;simp only[go_sem,bn,bL,bN,ai,an,aB,bX,ag,aj,bG,AV.aC,adj,adb,adg,adi,adm,ac5,aw,adp,adq,ado,aT];apply hK
 refine ax (aH.jn (S':=⟨[(1,aq m),(2,aq aO),(6,.ptr 0 0),(7,.bj (iI (ga p) (jJ p m)++[.cE])),(8,aq 0)],[(0,[.d .cE,aq 0,aq 0,.d (.bool false)])],1⟩) [(1,0)] [(2,iI (ga p) (jJ p m)++[.cE])] ⟨by simp[fO,ah,AV.cv,dn,bI,ag],by simp[gd,aI,bI,ai,an,aB,dn,AV.cv,ag],rfl,rfl,by simp[bD,ai,an,aB,cF,eG,AV.cv,dn,ba,-acU]⟩) ?_;refine aa λK1 a8=>?_;refine J λK hK=>?_;simp only[go_sem];apply hK;refine aK ?_;apply au;refine a8 _ (J λK hK=>?_);simp only[go_sem,hbm];apply hK;refine aa λK2 fx=>?_;cases res with
 |none=>
  unfold CQ at kr;simp only at kr;refine J λK hK=>?_;simp only[go_sem];refine bt [(0,1)] [.ptr 0 0,.bj (iI (ga p) (jJ p m)++[.cE])] [(0,[aq m,aq bud,.d .cE,.d .cE,.d .cE,aq 0,aq 0,.d (.bool false)])] (nb:=1000) (kr) (by simp[bC]) (by first|(simp[aj,AV.aC,ag];done)|simp[aj,AV.aC,ag]) (by first|(simp[bF,bE,ag];done)|simp[bF,bE,ag]) (by simp[handed,ag,ai,an,aB,aj,AV.aC,bF,bE]) rfl ?_;rintro r0 m' ⟨rfl,rfl⟩;simp only[go_sem,bn,bL,bN,ai,an,aB,bX,ag,aj,bG,AV.aC,adj,adb,adg,adi,adm,ac5];apply hK;refine aN ?_;refine J λK hK=>?_;simp only[go_sem];apply hK;apply ak
  exact⟨.agg [.d .cE,aq 0,aq 0,.d (.bool false)],by simp[bB,aV,bK,ah,ai,an,aB,LG,aP,ik],[],[],rfl,rfl,by simp[aL,aI,ai,an,aB,aj,AV.aC,ag,ae,-acU,LG,aP,ik],by simp[AV.aC,aj,ag,LG,aP,ik]⟩
 |some w=>
  unfold CQ at kr;simp only at kr;unfold gA at kr;refine J λK hK=>?_;simp only[go_sem];refine bt [(0,1)] [.ptr 0 0,.bj (iI (ga p) (jJ p m)++[.cE])] [(0,[aq m,aq bud,.d .cE,.d .cE,.d .cE,aq 0,aq 0,.d (.bool false)])] (nb:=1000) (kr) (by simp[bC]) (by first|(simp[aj,AV.aC,ag];done)|simp[aj,AV.aC,ag,dR,aJ]) (by first|(simp[bF,bE,ag];done)|simp[bF,bE,ag,dR,aJ]) (by simp[handed,ag,ai,an,aB,aj,AV.aC,bF,bE,dR,aJ]) rfl ?_;rintro r0 m' ⟨rfl,rfl⟩;simp only[go_sem,bn,bL,bN,ai,an,aB,bX,ag,aj,bG,AV.aC,adj,adb,adg,adi,adm,ac5,dR,aJ];apply hK;refine aK ?_;apply au;refine fx _ (J λK hK=>?_);simp only[go_sem]
  refine hK _ (J λK hK=>?_);simp only[go_sem];apply hK;have hrt:(cC w.runs).take w.runs.length=cC w.runs:=ac8 (by rw[nC];exact acV _);refine ax (aH.jn (S':=⟨[(6,.ptr 0 0)],[(0,[.d (.sl w.runs.length (cC w.runs)),aq w.blocked,aq w.aS,.d (.bool true)])],1⟩) [(0,0)] [(5,cC w.runs)] ⟨by simp[fO,ah,AV.cv,dn,bI,ag],by simp[gd,aI,bI,ai,an,dn,AV.cv,ag,hrt],rfl,rfl,by simp[bD,ai,an,cF,-acU]⟩) ?_;apply ak
  exact⟨.agg [.d (.sl w.runs.length (cC w.runs)),aq w.blocked,aq w.aS,.d (.bool true)],by simp[bB,aV,bK,ah,ai,an,aB,LG,aP,ik],[],[],rfl,rfl,by simp[aL,aI,ai,an,aB,aj,AV.aC,ag,ae,-acU,LG,aP,ik],by simp[AV.aC,aj,ag,LG,aP,ik]⟩
def wO (d:l8) (v:Vm):List DV:=iI d v++[.sl v.steps.length (bH v.steps)]
def V1 (d:l8) (v:Vm) (X:DV) (n i:Nat):St:=⟨[(8,.ptr 0 0),(2,.d X),(22,.d X),(23,aq n),(24,aq i)],o2 d v 1,2⟩
theorem Qr {d:l8} {v:Vm} {s:AV} (h:v.ok):(eG d v s)[328]?=some s:=by
 have:=ti (d:=d) (s:=s) h;simpa[aP]using this
structure aat (p:Prog) (aS:List Int) (R:Vm×Nat) (q:Nat×Vm):Prop where
 le:q.1<=aS.length
 ok:q.2.ok
 p:q.2.p=p
 st:q.2.steps.length<=q.1
 res:rG q.2 (aS.drop q.1) q.1=R
theorem CV {p:Prog} {I T X:DV} (hI:fJ p.init I) (hT:cP Ins.cells p.threads T) (h:zA p) {m:Int} (um:1<=m) (uo:m<=3) {aS:List Int} (hX:fJ aS X) (hb:aS.length<=1000000000):
 Pure aM 119 [.agg [.d (aR p.aE),.d I,.d T],aq m,.d X] (.cu [.bj (wO (ga p) (rG (jJ p m) aS 0).1),aq ((rG (jJ p m) aS 0).2)]):=by
 have kn:=wi hI hT h um uo;have ya:=(qw hX).1;have aau:=FI h;have hTd:=yZ h;generalize hR:rG (jJ p m) aS 0=R;refine ay func119 Oj ntmps119 results119 rfl ?_;unfold Uu;refine J λK hK=>?_;simp only[go_sem];refine hK _ (J λK hK=>?_);simp only[go_sem];refine bt [] [.agg [.d (aR p.aE),.d I,.d T],aq m] [] (nb:=1000) (kn) (by simp[bC]) (by first|(simp[aj,AV.aC,ag];done)|simp[aj,AV.aC,ag,aw,adp,adq,ado,aT]) (by first|(simp[bF,bE,ag];done)|simp[bF,bE,ag,aw,adp,adq,ado,aT]) (by simp[handed,ag,ai,an,aB,aj,AV.aC,bF,bE,aw,adp,adq,ado,aT]) rfl ?_;rintro r0 m' ⟨rfl,rfl⟩
 simp only[go_sem,bn,bL,bN,ai,an,aB,bX,ag,aj,bG,AV.aC,adj,adb,adg,adi,adm,ac5,aw,adp,adq,ado,aT];apply hK;refine aa λK1 a8=>?_;refine J λK hK=>?_;simp only[go_sem];apply hK;refine aK ?_;apply au;apply a8;refine aa λKE fK=>?_;refine J λK hK=>?_;simp only[go_sem,ya];apply hK;apply aA;have HN:=xp p m;refine ax (aH.qo 1 328 7 rfl rfl (Qr HN) rfl) ?_;rw[jd HN];refine ax (S':=V1 (ga p) (jJ p m) X aS.length 0) (aH.cN [(1,0),(2,1)] ⟨by simp[V1,bm,ah,AV.aC,aj,ag],by simp[V1,o2,aT,jJ,bH,aL,aI,ai,an,aB,aj,AV.aC,ag],rfl,rfl⟩) ?_
 refine fy (ι:={q:Nat×Vm//aat p aS R q}) (λq=>V1 (ga p) q.1.2 X aS.length q.1.1) (λq=>aS.length-q.1.1) ⟨(0,jJ p m),Nat.zero_le _,HN,rfl,Nat.zero_le _,hR⟩ ?_;rintro⟨⟨i,v⟩,hle,b8,hvp,xF,jK⟩;simp only at hle b8 hvp xF jK;dsimp only;have hg:tm v.p:=hvp▸aau;have hTv:cP Ins.cells v.p.threads (ga p).T:=hvp▸hTd;unfold IY;by_cases bd:i<aS.length
 ·have aQ:(i:Int)<aS.length:=by omega
  have hw:=c8 (i:=i) (by omega);obtain⟨cs,rest,iq,bU,b9⟩:=ints_at hX i bd;rw[List.drop_eq_getElem_cons bd,rG]at jK;generalize aS[i]=g at bU jK;unfold V1 o2;refine J λK hK=>?_;simp only[go_sem,aQ];apply hK;refine aa λK1 a8=>?_;refine aN ?_;apply au;apply a8;refine aa λK1 a8=>?_;apply aA;refine J λK hK=>?_;simp only[go_sem,iq,acX,aQ,bd,acW,b9,bU,Nat.mul_one];apply hK;cases hb:og v.enabled g
  ·have h2:cB v g=(v,cp,false):=by rw[fL,hb];rfl
   have k2:=CH (d:=ga p) b8 hg hTv (by omega) hb;rw[h2]at jK;simp only at jK;unfold o2 at k2;refine J λK hK=>?_;simp only[go_sem];refine bt [(0,0),(1,1)] [.ptr 0 0,aq g] [(0,eG (ga p) v (.sl 1 7 0 v.steps.length)),(1,(bH v.steps).map .d)] (nb:=1000) (k2) (by simp[bC]) (by first|(simp[aj,AV.aC,ag];done)|simp[aj,AV.aC,ag,aT,cS,ag,bz.cells]) (by first|(simp[bF,bE,ag];done)|simp[bF,bE,ag,aT,cS,ag,bz.cells]) (by simp[handed,ag,ai,an,aB,aj,AV.aC,bF,bE,aT,cS,ag,bz.cells]) rfl ?_;rintro r0 m' ⟨rfl,rfl⟩;simp only[go_sem,bn,bL,bN,ai,an,aB,bX,ag,aj,bG,AV.aC,adj,adb,adg,adi,adm,ac5,aT,cS,ag,bz.cells]
   refine hK _ (J λK hK=>?_);simp only[go_sem];apply hK;refine aN ?_;refine J λK hK=>?_;simp only[go_sem];apply hK;subst jK;refine ax (aH.jn (S':=⟨[(6,.bj (wO (ga p) v)),(7,aq (i:Nat))],[],0⟩) [] [(0,wO (ga p) v),(1,bH v.steps)] ⟨by simp[wO,fO,ah,AV.cv,dn,bI,ag],by simp[gd,aI,bI,ai],rfl,rfl,by simp[wO,bD,bI,ai,an,aB,eG,nA,dn,AV.cv,cF,ba,-acU]⟩) ?_;apply ak;exact⟨.cu [.bj (wO (ga p) v),aq (i:Nat)],by simp[bB,aV,bK,ah,ai,an,aB],[],[],rfl,rfl,by simp[aL,aI,ai,an,aB,aj,AV.aC,ag,ae,-acU],by simp[AV.aC,aj,ag]⟩
  ·have h2:(cB v g).2.2=true:=by rw[fL,hb];rfl
   have k2:=yK (d:=ga p) b8 hg hTv (by omega) hb;unfold o2 at k2;refine J λK hK=>?_;simp only[go_sem];refine bt [(0,0),(1,1)] [.ptr 0 0,aq g] [(0,eG (ga p) v (.sl 1 7 0 v.steps.length)),(1,(bH v.steps).map .d)] (nb:=1000) (k2) (by simp[bC]) (by first|(simp[aj,AV.aC,ag];done)|simp[aj,AV.aC,ag,aT,cS,ag,bz.cells]) (by first|(simp[bF,bE,ag];done)|simp[bF,bE,ag,aT,cS,ag,bz.cells]) (by simp[handed,ag,ai,an,aB,aj,AV.aC,bF,bE,aT,cS,ag,bz.cells]) rfl ?_;rintro r0 m' ⟨rfl,rfl⟩;simp only[go_sem,bn,bL,bN,ai,an,aB,bX,ag,aj,bG,AV.aC,adj,adb,adg,adi,adm,ac5,aT,cS,ag,bz.cells];apply hK;have RO:=yG b8 g
   have GS:=(CG (v:=v) g).1;have DR:=pV v g;generalize cB v g=pv at jK h2 RO GS DR;obtain⟨v',s',b'⟩:=pv;simp only at h2 RO GS DR;subst h2;simp only at jK;refine J λK hK=>?_;simp only[go_sem];apply hK;refine aK ?_;apply au;simp only[go_sem];apply a8;refine af rfl ?_;simp only[go_sem,hw];refine⟨⟨(i+1,v'),bd,RO,GS.trans hvp,by simp only;omega,jK⟩,by simp only;omega,?_⟩;exact aH.cN [(0,0),(4,1)] ⟨by simp[bm,ah,AV.aC,aj,ag,V1,o2,aT,iq],by simp[aL,aI,ai,an,aB,aj,AV.aC,ag,ae,-acU,V1,o2,aT,iq],rfl,rfl⟩
 ·have dh:i=aS.length:=by omega
  subst dh;have aQ:¬(aS.length:Int)<aS.length:=by omega
  rw[List.drop_length,rG]at jK;subst jK;unfold V1 o2;refine J λK hK=>?_;simp only[go_sem,aQ];apply hK;refine aa λK1 a8=>?_;refine aK ?_;apply aZ;show KE _;refine fK _ (J λK hK=>?_);simp only[go_sem,ya];apply hK;refine ax (aH.jn (S':=⟨[(6,.bj (wO (ga p) v)),(7,aq (aS.length:Nat))],[],0⟩) [] [(0,wO (ga p) v),(1,bH v.steps)] ⟨by simp[wO,fO,ah,AV.cv,dn,bI,ag],by simp[gd,aI,bI,ai],rfl,rfl,by simp[wO,bD,bI,ai,an,aB,eG,nA,dn,AV.cv,cF,ba,-acU]⟩) ?_;apply ak
  exact⟨.cu [.bj (wO (ga p) v),aq (aS.length:Nat)],by simp[bB,aV,bK,ah,ai,an,aB],[],[],rfl,rfl,by simp[aL,aI,ai,an,aB,aj,AV.aC,ag,ae,-acU],by simp[AV.aC,aj,ag]⟩
theorem CW {p:Prog}:∀(aS:List Int) (v:Vm) (k:Nat),v.ok->v.p=p->(rG v aS k).1.ok/\(rG v aS k).1.p=p
 | [],v,k,h,hp=>⟨h,hp⟩
 |i::r,v,k,h,hp=>by
  have h1:=yG h i;have h2:=(CG (v:=v) i).1;rw[rG];generalize cB v i=pv at h1 h2;obtain⟨v',s',b'⟩:=pv;cases b';·exact⟨h1,h2.trans hp⟩
  ·exact CW r v' (k+1) h1 (h2.trans hp)
def il:List Int:=ada 20 0
theorem jB:bR (ada 20 0)=bR il:=rfl
def y0:Option (List Int)->AV
 |none=>.cu [.agg ((bR (il)).map .d),.d (.bool false)]
 |some f=>.cu [.agg ((bR f).map .d),.d (.bool true)]
theorem lX {p:Prog} {I T X:DV} (hI:fJ p.init I) (hT:cP Ins.cells p.threads T) (h:zA p) {m:Int} (um:1<=m) (uo:m<=3) {aS:List Int} (hX:fJ aS X) (hb:aS.length<=1000000000):
 Pure aM 77 [.agg [.d (aR p.aE),.d I,.d T],aq m,.d X] (y0 (iQ p m aS)):=by
 have kr:=CV hI hT h um uo hX hb;have ya:=(qw hX).1;obtain⟨b8,hp⟩:=CW (p:=p) aS (jJ p m) 0 (xp p m) rfl;have hfp:iQ p m aS=if(rG (jJ p m) aS 0).2<aS.length\/(rG (jJ p m) aS 0).1.done=false then none else some (rG (jJ p m) aS 0).1.final:=rfl
 rw[hfp];generalize rG (jJ p m) aS 0=R at kr b8 hp;obtain⟨v,k⟩:=R;simp only at kr b8 hp⊢;unfold wO at kr;have hTv:cP Ins.cells v.p.threads (ga p).T:=by rw[hp];exact yZ h
 have kd:=Lh (d:=ga p) (S:=.sl v.steps.length (bH v.steps)) b8 hTv;have kf:=HJ (d:=ga p) (S:=.sl v.steps.length (bH v.steps)) b8;have qZ:=u4 b8;have Yn:((bR (il)).map AV.d).length=20:=rfl;have P8:((bR v.final).map AV.d).length=20:=by simp[bR,qZ]
 have Xk:(bR v.final).length=20:=by simp[bR,qZ]
 have hz3:(bR (il)).length=20:=rfl;have LH:=ln (f:=il) (n:=1) (by decide);have ho1:((bR (il)).map AV.d).all j9=true:=eo _;have ho2:((bR v.final).map AV.d).all j9=true:=eo _;have R9:putAt ((bR (il)).map AV.d) 0 ((bR (il)).map AV.d)=(bR (il)).map AV.d:=gZ rfl;have hp2:putAt ((bR (il)).map AV.d) 0 ((bR v.final).map AV.d)=(bR v.final).map AV.d:=gZ (by rw[Yn,P8]);have Q5:aP (some 20) ((bR (il)).map AV.d)=some (.agg ((bR (il)).map AV.d)):=rfl;have Dx:aP (some 20) ((bR v.final).map AV.d)=some (.agg ((bR v.final).map AV.d)):=by
  rw[ej,P8,if_pos (acV _),ac8 (by rw[P8];exact acV _)]
 refine ay func77 Sj ntmps77 results77 rfl ?_;unfold Z5;refine J λK hK=>?_;simp only[go_sem,nx,jB,LH];refine hK _ (J λK hK=>?_);simp only[go_sem];refine aY (kr) ?_;simp only[go_sem];apply hK;refine aa λK1 a8=>?_;by_cases h1:k<aS.length
 ·have Kq:(k:Int)<aS.length:=by omega
  refine J λK hK=>?_;simp only[go_sem,ya,Kq,decide_true];apply hK;have hc:(k<aS.length\/v.done=false):=.inl h1;rw[if_pos hc];refine aN ?_;refine J λK hK=>?_;simp only[go_sem,nx,jB,Yn,hz3,ho1,R9,ac2,acV];apply hK;apply ak;exact⟨.cu [.agg ((bR (il)).map .d),.d (.bool false)],by simp[bB,aV,bK,ah,ai,an,aB,fa,ac3,Q5,y0],[],[],rfl,rfl,by simp[aL,aI,ai,an,aB,aj,AV.aC,ag,ae,-acU,fa,ac3,Q5,y0],by simp[AV.aC,aj,ag,fa,ac3,Q5,y0]⟩
 ·have Kq:¬(k:Int)<aS.length:=by omega
  refine J λK hK=>?_;simp only[go_sem,ya,Kq,decide_false];refine aY (kd) ?_;simp only[go_sem];apply hK;cases hd:v.done
  ·have hc:(k<aS.length\/false=false):=.inr rfl;rw[if_pos hc];refine aN ?_ (by simp[ev,ah,hd]);refine J λK hK=>?_;simp only[go_sem,nx,jB,Yn,hz3,LH,ho1,R9,ac2,acV];apply hK;apply ak;exact⟨.cu [.agg ((bR (il)).map .d),.d (.bool false)],by simp[bB,aV,bK,ah,ai,an,aB,fa,ac3,Q5,y0],[],[],rfl,rfl,by simp[aL,aI,ai,an,aB,aj,AV.aC,ag,ae,-acU,fa,ac3,Q5,y0],by simp[AV.aC,aj,ag,fa,ac3,Q5,y0]⟩
  ·have hc:¬(k<aS.length\/true=false):=by simp[h1]
   rw[if_neg hc];refine aK ?_ (by simp[ev,ah,hd]);apply au;refine a8 _ (J λK hK=>?_);simp only[go_sem];refine aY (kf) ?_;simp only[go_sem,Yn,hz3,LH,P8,Xk,ho2,hp2,ac2,acV];apply hK;apply ak;exact⟨.cu [.agg ((bR v.final).map .d),.d (.bool true)],by simp[bB,aV,bK,ah,ai,an,aB,fa,ac3,Dx,y0,h1,hd],[],[],rfl,rfl,by simp[aL,aI,ai,an,aB,aj,AV.aC,ag,ae,-acU,fa,ac3,Dx,y0,h1,hd],by simp[AV.aC,aj,ag,fa,ac3,Dx,y0,h1,hd]⟩
def cm (l:List (List Int)):List DV:=l.flatMap bR
def gO (p:List Int):List (List Int)->List (List Int)
 | []=>[]
 |b::r=>if b=p then gO b r else b::gO b r
def cc:List (List Int)->List (List Int)
 | []=>[]
 |a::r=>a::gO a r
def pW (p:List Int):List (List Int)->List Int
 | []=>p
 |b::r=>pW b r
theorem wj (x:List Int):∀(r:List (List Int)) (p:List Int),gO p (r++[x])=gO p r++if x=pW p r then []else [x]
 | [],p=>by
   by_cases h:x=p;·simp[gO,pW,h]
   ·simp[gO,pW,h]
 |b::r,p=>by
  have ih:=wj x r b;simp only[List.cons_append,gO,pW];rw[ih];by_cases h:b=p;·rw[if_pos h,if_pos h];rfl
  ·rw[if_neg h,if_neg h,List.cons_append];rfl
theorem wk:∀(r:List (List Int)) (a:List Int) (j:Nat) (h:j<(a::r).length),pW a (r.take j)=(a::r)[j]
 |r,a,0,h=>by simp[pW]
 | [],a,j+1,h=>by simp at h
 |b::r,a,j+1,h=>by
  rw[List.take_succ_cons,pW,List.getElem_cons_succ];exact wk r b j (by simpa using h)
theorem Ab {l:List (List Int)} {j:Nat} (hj:j+1<l.length):cc (l.take (j+2))=cc (l.take (j+1))++if l[j+1]=l[j]then []else [l[j+1]]:=by
 cases l with
 |nil=>simp at hj
 |cons a r=>
  have hr:j<r.length:=by simp only[ads]at hj;omega
  have h1:r.take (j+1)=r.take j++[r[j]]:=by rw[adG,ac6 hr];rfl
  rw[List.take_succ_cons,List.take_succ_cons,h1];simp only[cc,List.getElem_cons_succ];rw[wj,List.cons_append,wk r a j (by simp only[ads];omega)]
theorem y1:∀(r:List (List Int)) (p:List Int),(gO p r).length<=r.length
 | [],p=>acV _
 |b::r,p=>by
  have:=y1 r b;unfold gO;split;·simp;omega
  ·simp;omega
theorem CX (l:List (List Int)):(cc l).length<=l.length:=by
 cases l with
 |nil=>exact acV _
 |cons a r=>have:=y1 r a;simp[cc];omega
theorem r3:∀(r:List (List Int)) (p x:List Int),x∈gO p r->x∈r
 | [],p,x,h=>h
 |b::r,p,x,h=>by
  unfold gO at h;split at h;·exact adx _ (r3 r b x h)
  ·rcases List.mem_cons.1 h with rfl|h;·exact adw
   ·exact adx _ (r3 r b x h)
theorem tB {l:List (List Int)} {x:List Int} (h:x∈cc l):x∈l:=by
 cases l with
 |nil=>exact h
 |cons a r=>
  rcases List.mem_cons.1 h with rfl|h;·exact adw
  ·exact adx _ (r3 r a x h)
theorem y2:∀(r:List (List Int)) (p x:List Int),x∈r->x=p\/x∈gO p r
 | [],p,x,h=>by cases h
 |b::r,p,x,h=>by
  unfold gO;rcases List.mem_cons.1 h with rfl|h
  ·split;·rename_i e;exact .inl e
   ·exact .inr adw
  ·rcases y2 r b x h with rfl|h
   ·split;·rename_i e;exact .inl e
    ·exact .inr adw
   ·split;·exact .inr h
    ·exact .inr (adx _ h)
theorem CY {l:List (List Int)} {x:List Int}:x∈cc l↔x∈l:=by
 refine⟨tB,λh=>?_⟩;cases l with
 |nil=>exact h
 |cons a r=>
  rcases List.mem_cons.1 h with rfl|h;·exact adw
  ·rcases y2 r a x h with rfl|h;·exact adw
   ·exact adx _ h
def cY (f:List Int):List AV:=(bR f).map .d
def cn (l:List (List Int)):List AV:=(cm l).map .d
theorem eu {f:List Int} (h:f.length=20):(cY f).length=20:=by simp[cY,bR,h]
theorem gP (a:List Int) (l:List (List Int)):cn (a::l)=cY a++cn l:=by simp[cn,cm,cY]
theorem qF (l l':List (List Int)):cn (l++l')=cn l++cn l':=by simp[cn,cm]
theorem dQ:∀{l:List (List Int)},(∀f∈l,f.length=20)->(cn l).length=l.length*20
 | [],_=>rfl
 |a::l,h=>by
  rw[gP,adk,eu (h a adw),dQ λf hf=>h f (adx _ hf),ads];omega
theorem oC:∀{l:List (List Int)} (_:∀f∈l,f.length=20) (k:Nat),(cn l).drop (k*20)=cn (l.drop k)
 |l,_,0=>by simp
 | [],_,k+1=>by simp[cn,cm]
 |a::l,h,k+1=>by
  have jf:=eu (h a adw);rw[gP,show(k+1)*20=(cY a).length+k*20 by rw[jf];omega,List.drop_append,List.drop_eq_nil_of_le (by omega),adF,Nat.add_sub_cancel_left,List.drop_succ_cons];exact oC (λf hf=>h f (adx _ hf)) k
theorem r4:∀{l:List (List Int)} (_:∀f∈l,f.length=20) (k:Nat),(cn l).take (k*20)=cn (l.take k)
 |l,_,0=>by simp[cn,cm]
 | [],_,k+1=>by simp[cn,cm]
 |a::l,h,k+1=>by
  have jf:=eu (h a adw);rw[gP,show(k+1)*20=(cY a).length+k*20 by rw[jf];omega,List.take_append,ac8 (by omega),Nat.add_sub_cancel_left,List.take_succ_cons,gP];rw[r4 (λf hf=>h f (adx _ hf)) k]
theorem lY {l:List (List Int)} (h:∀f∈l,f.length=20) {k:Nat} (hk:k<l.length):aP (some 20) ((cn l).drop (k*20))=some (.agg (cY l[k])):=by
 have jf:=eu (h l[k] (adt hk));rw[oC h,List.drop_eq_getElem_cons hk,gP,ej,if_pos (by rw[adk];omega)];rw[List.take_append_of_le_length (by omega),ac8 (by omega)]
theorem LI {l:List (List Int)} (h:∀f∈l,f.length=20) {k:Nat} (hk:k<l.length) {f:List Int} (hf:f.length=20):putAt (cn l) (k*20) (cY f)=cn (l.set k f):=by
 have hl:=dQ h;rw[lO _ _ _ (by rw[eu hf,hl];have:=Nat.mul_le_mul_right 20 hk;omega),eu hf,r4 h,show k*20+20=(k+1)*20 by omega,oC h,List.set_eq_take_append_cons_drop,if_pos hk,qF,gP,List.append_assoc]
theorem HX {S R:List (List Int)} (h:∀f∈S,f.length=20) (hR:∀f∈R,f.length=20) {p:Nat} (hp:p+R.length=S.length):putAt (cn S) (p*20) (cn R)=cn (S.take p++R):=by
 rw[lO _ _ _ (by rw[dQ hR,dQ h];omega),dQ hR,r4 h,<-Nat.add_mul,hp,oC h,List.drop_eq_nil_of_le (acV _),qF,show cn []=[] from rfl,List.append_nil]
theorem FJ {l:List (List Int)} (h:∀f∈l,f.length=20) {k:Nat} {f:List Int} (hf:f.length=20):∀g∈l.set k f,g.length=20:=λg hg=>by
 rcases List.mem_or_eq_of_mem_set hg with h1|h1;·exact h g h1
 ·rw[h1];exact hf
theorem cg (π:Nat->Option Nat) (l:List (List Int)):aj π (cn l)=cn l:=bG ..
@[simp]theorem abl (π:Nat->Option Nat) (f:List Int):bF π (cY f)=true:=cT ..
@[simp]theorem aav (π:Nat->Option Nat) (l:List (List Int)):bF π (cn l)=true:=cT ..
theorem pX (π:Nat->Option Nat) (f:List Int):aj π (cY f)=cY f:=bG ..
theorem pY (f:List Int):(cY f).all j9=true:=eo _
theorem aaw:∀(f g:List Int),f.length=g.length->b7 (ada f.length 0) (cY f) (cY g)=some (decide (f=g))
 | [],[],_=>rfl
 | [],b::g,h=>by simp at h
 |a::f,[],h=>by simp at h
 |a::f,b::g,h=>by
  have ih:=aaw f g (by simpa using h);have e1:cY (a::f)=aq a::cY f:=rfl;have e2:cY (b::g)=aq b::cY g:=rfl;rw[e1,e2,ads,List.replicate_succ];simp only[b7,o9,if_true,ih,List.cons.injEq]
  congr 1
  by_cases h1:a=b<;>by_cases h2:f=g<;>simp[h1,h2]
theorem y3 {f g:List Int} (hf:f.length=20) (hg:g.length=20):b7 [0,0,0,0,0,0,0,0,0,0,0,0,0,0,0,0,0,0,0,0] (cY f) (cY g)=some (decide (f=g)):=by
 have:=aaw f g (by omega);rw[hf]at this;exact this
def qS (l:List (List Int)):List (List Int):=cc l++ada (l.length-(cc l).length) (ada 20 0)
def V2 (l:List (List Int)) (k:Nat):St:=⟨[(0,.sl 0 20 0 l.length),(3,aq k)],[(0,cn l)],1⟩
def Rq (n k0:Nat) (S:List (List Int)) (k k2:Nat):St:=⟨[(0,.sl 0 20 0 n),(3,aq k),(4,.sl 0 20 (k0*20) (n-k0)),(5,aq k2)],[(0,cn S)],1⟩
structure y4 (l:List (List Int)) (k0:Nat) (S:List (List Int)) (k j:Nat):Prop where
 h0:k0<j
 hj:j<=l.length
 kj:k<j
 aax:0<k
 len:S.length=l.length
 all:∀f∈S,f.length=20
 head:S.take k=cc (l.take j)
 tail:S.drop (j-1)=l.drop (j-1)
theorem jC {l:List (List Int)} {j:Nat} (h0:0<j) (hj:j<l.length):cc (l.take (j+1))=cc (l.take j)++if l[j]=l[j-1]then []else [l[j]]:=by
 obtain⟨i,rfl⟩:∃i,j=i+1:=⟨j-1,by omega⟩;exact Ab hj
theorem y4.get {l:List (List Int)} {k0 k j:Nat} {S:List (List Int)} (h:y4 l k0 S k j) {i:Nat} (h1:j-1<=i) (h2:i<l.length):S[i]'(by rw[h.len];exact h2)=l[i]:=by
 have e:=congrArg (λx=>x[i-(j-1)]?) h.tail;simp only[List.getElem?_drop,show j-1+(i-(j-1))=i by omega]at e;rw[ac6 (by rw[h.len];exact h2),ac6 h2]at e;exact Option.some.inj e
theorem y4.same {l:List (List Int)} {k0 k j:Nat} {S:List (List Int)} (h:y4 l k0 S k j) (hj:j<l.length) (he:l[j]=l[j-1]):y4 l k0 S k (j+1):=by
 refine⟨by have:=h.h0;omega,hj,by have:=h.kj;omega,h.aax,h.len,h.all,?_,?_⟩;·rw[jC (by have:=h.h0;omega) hj,if_pos he,List.append_nil];exact h.head
 ·have:=h.tail;have h1:S.drop j=(S.drop (j-1)).drop 1:=by rw[List.drop_drop];congr 1;have:=h.h0;omega
  have h2:l.drop j=(l.drop (j-1)).drop 1:=by rw[List.drop_drop];congr 1;have:=h.h0;omega
  rw[Nat.add_sub_cancel,h1,h2,this]
theorem y4.other {l:List (List Int)} {k0 k j:Nat} {S:List (List Int)} (h:y4 l k0 S k j) (hj:j<l.length) (jf:l[j].length=20) (he:¬l[j]=l[j-1]):y4 l k0 (S.set k l[j]) (k+1) (j+1):=by
 have hk:=h.kj;have hl:=h.len;refine⟨by have:=h.h0;omega,hj,by omega,by omega,by rw[List.length_set];exact h.len,FJ h.all jf,?_,?_⟩;·rw[jC (by have:=h.h0;omega) hj,if_neg he,<-h.head,adG,List.take_set_of_le (acV k),List.getElem?_set_self (by omega)];rfl
 ·have:=h.tail;have h0:=h.h0;have h1:S.drop j=(S.drop (j-1)).drop 1:=by rw[List.drop_drop];congr 1;omega
  have h2:l.drop j=(l.drop (j-1)).drop 1:=by rw[List.drop_drop];congr 1;omega
  rw[Nat.add_sub_cancel,List.drop_set_of_lt (by omega),h1,h2,this]
theorem Qs {l:List (List Int)} {k0 k:Nat} {S:List (List Int)} (h:y4 l k0 S k l.length):k=(cc l).length/\S.take k++ada (l.length-k) (ada 20 0)=qS l:=by
 have hh:=h.head;rw[ac8 (acV _)]at hh;have hk:k=(cc l).length:=by
  have:=congrArg List.length hh;rw[List.length_take,h.len]at this;have:=h.kj;omega
 refine⟨hk,?_⟩;unfold qS;rw[hh,<-hk]
theorem Qt (k:Nat):((ac7 (k*20)).map λi=>([aq 0,(aq 0),(aq 0),(aq 0),(aq 0),(aq 0),(aq 0),(aq 0),(aq 0),(aq 0),(aq 0),(aq 0),(aq 0),(aq 0),(aq 0),(aq 0),(aq 0),(aq 0),(aq 0),(aq 0)]:List AV).getD (i%20) .any)=cn (ada k (ada 20 0)):=by
 have h1:cn (ada k (ada 20 0))=ada (k*20) (aq 0):=by
  induction k with
  |zero=>rfl
  |succ k ih=>rw[List.replicate_succ,gP,ih,show(k+1)*20=20+k*20 by omega,<-List.replicate_append_replicate];rfl
 rw[h1,List.eq_replicate_iff];refine⟨by simp,λb hb=>?_⟩;obtain⟨i,_,rfl⟩:=List.mem_map.1 hb;have hi:i%20<20:=Nat.mod_lt _ (by decide);generalize i%20=j at hi;have:∀j:Fin 20,([aq 0,(aq 0),(aq 0),(aq 0),(aq 0),(aq 0),(aq 0),(aq 0),(aq 0),(aq 0),(aq 0),(aq 0),(aq 0),(aq 0),(aq 0),(aq 0),(aq 0),(aq 0),(aq 0),(aq 0)]:List AV).getD j.1 .any=aq 0:=by
  intro j;rcases j with⟨j,hj⟩
  iterate 20 (cases j with|zero=>rfl|succ j=>?_)
  omega
 exact this ⟨j,hi⟩
theorem Ac {l:List (List Int)} (jf:∀f∈l,f.length=20) (hb:l.length<=1000000000000):
 bT aM 163 [.sl 0 20 0 l.length] [(0,cn l)] λr m'=>r=.sl 0 20 0 (cc l).length/\m'=[(0,cn (qS l))]:=by
 have hlen:=dQ jf;refine ay func163 OI ntmps163 results163 rfl ?_;unfold UK;refine J λK hK=>?_;simp only[go_sem];apply hK;refine aa λK1 a8=>?_;by_cases h2:l.length<2
 ·have DA:(l.length:Int)<2:=by omega
  have e1:cc l=l:=by
   match l,h2 with
   | [],_=>rfl
   | [a],_=>rfl
  have e2:qS l=l:=by simp[qS,e1]
  rw[e1,e2];refine J λK hK=>?_;simp only[go_sem,DA,decide_true];apply hK;refine aN ?_;refine J λK hK=>?_;simp only[go_sem];apply hK;apply ak;exact⟨.sl 0 20 0 l.length,by simp[bB,aV,bK,ah,ai,an,aB,cg],[(0,0)],[(0,cn l)],rfl,rfl,by simp[aL,aI,ai,an,aB,aj,AV.aC,ag,ae,-acU,cg],by simp[AV.aC,aj,ag,cg]⟩
 ·have DA:¬(l.length:Int)<2:=by omega
  refine J λK hK=>?_;simp only[go_sem,DA,decide_false];apply hK;refine aK ?_;apply au;apply a8;refine aa λKE fK=>?_;refine J λK hK=>?_;simp only[go_sem];apply hK;apply aA;refine ax (S':=V2 l 1) (aH.cN [(0,0)] ⟨by simp[bm,ah,AV.aC,aj,ag,V2,cg],by simp[aL,aI,ai,an,aj,AV.aC,ag,ae,-acU,V2,cg],rfl,rfl⟩) ?_;refine fy (ι:={k:Nat//1<=k/\k<=l.length/\cc (l.take k)=l.take k}) (λk=>V2 l k.1) (λk=>l.length-k.1) ⟨1,acV _,by omega,by
   match l,h2 with
   | [],h=>exact absurd (by simp) h
   |a::r,_=>rfl⟩ ?_
  rintro⟨k,KM,hk,hc⟩;dsimp only;unfold I9;refine aa λK1 a8=>?_;by_cases bd:k<l.length
  ·have aQ:(k:Int)<l.length:=by omega
   have hw:=c8 (i:=k) (by omega);have q5:ac9.wrap ((k:Int)-1)=((k-1:Nat):Int):=by rw[wrap_i64 (by omega) (by omega)];omega
   have l1:=lY jf bd;have l2:=lY jf (k:=k-1) (by omega);have um:((k-1:Nat):Int)<l.length:=by omega
   have q:=y3 (jf _ (adt bd)) (jf l[k-1] (adt (by omega)));unfold V2;refine J λK hK=>?_;simp only[go_sem,aQ,decide_true];apply hK;refine aN ?_;apply au;apply a8;refine aa λK1 a8=>?_;apply aA;refine aa λK hK=>az rfl rfl ?_;simp only[go_sem,acX,aQ,bd,acW,ac2,q5,um,l1,l2,q];refine⟨rfl,hK _ ?_⟩;by_cases he:l[k]=l[k-1]
   ·have k0:¬k=0:=by omega
    have kn:¬k=l.length:=by omega
    refine aN ?_ (by simp[ev,ah,he,decide_true]);refine J λK hK=>?_;simp only[go_sem,acX,acW,aQ,hk,k0,kn,ac2,acV];apply hK;refine aa λK2 fx=>?_;refine J λK hK=>?_;simp only[go_sem];apply hK;apply aA;refine ax (S':=Rq l.length k l k 1) (aH.cN [(0,0)] ⟨by simp[bm,ah,AV.aC,aj,ag,Rq,cg],by simp[aL,aI,ai,an,aj,AV.aC,ag,ae,-acU,Rq,cg],rfl,rfl⟩) ?_;have acn:y4 l k l k (k+1):=⟨by omega,by omega,by omega,by omega,rfl,jf,by rw[jC (by omega) bd,if_pos he,List.append_nil,hc],rfl⟩
    refine fy (ι:={q:List (List Int)×Nat×Nat//y4 l k q.1 q.2.1 (k+q.2.2)}) (λq=>Rq l.length k q.1.1 q.1.2.1 q.1.2.2) (λq=>l.length-q.1.2.2) ⟨(l,k,1),acn⟩ ?_;rintro⟨⟨S,p,j⟩,b8⟩;dsimp only at b8⊢;unfold I8;have hSl:=b8.len;have hj1:=b8.h0;have Mg:=b8.kj;have hp0:=b8.aax;refine aa λK4 Mi=>?_;by_cases mG:k+j<l.length
    ·have FK:(j:Int)<((l.length-k:Nat):Int):=by omega
     have acR:j<l.length-k:=by omega
     have hwj:ac9.wrap ((j:Int)+1)=((j+1:Nat):Int):=by rw[wrap_i64 (by omega) (by omega)];rfl
     have SD:ac9.wrap ((p:Int)+1)=((p+1:Nat):Int):=by rw[wrap_i64 (by omega) (by omega)];rfl
     have aco:ac9.wrap ((j:Int)-1)=((j-1:Nat):Int):=by rw[wrap_i64 (by omega) (by omega)];omega
     have m1:=lY b8.all (k:=k+j) (by omega);have m2:=lY b8.all (k:=k+(j-1)) (by omega);rw[b8.get (i:=k+j) (by omega) mG,show(k+j)*20=k*20+j*20 by omega]at m1;rw[b8.get (i:=k+(j-1)) (by omega) (by omega),show(k+(j-1))*20=k*20+(j-1)*20 by omega]at m2;have YD:((j-1:Nat):Int)<((l.length-k:Nat):Int):=by omega
     have q2:=y3 (jf _ (adt mG)) (jf l[k+(j-1)] (adt (by omega)));have e1:l[k+(j-1)]=l[k+j-1]:=by congr 1;omega
     unfold Rq;refine J λK hK=>?_;simp only[go_sem,FK,decide_true];apply hK;refine aN ?_;apply au;apply Mi;refine aa λK4 Mi=>?_;apply aA;refine aa λK hK=>az rfl rfl ?_;simp only[go_sem,acX,FK,acW,ac2,aco,YD,m1,m2,q2];refine⟨rfl,hK _ ?_⟩;by_cases he2:l[k+j]=l[k+j-1]
     ·have he3:l[k+j]=l[k+(j-1)]:=he2.trans e1.symm;refine aK ?_ (by simp[ev,ah,he3,decide_true]);apply au;simp only[go_sem];apply Mi;refine af rfl ?_;simp only[go_sem,hwj];refine⟨⟨(S,p,j+1),b8.same mG he2⟩,by simp only;omega,?_⟩;exact aH.cN [(0,0)] ⟨by simp[bm,ah,AV.aC,aj,ag,Rq,cg],by simp[aL,aI,ai,an,aB,aj,AV.aC,ag,ae,-acU,Rq,cg],rfl,rfl⟩
     ·have he3:¬l[k+j]=l[k+(j-1)]:=λe=>he2 (e.trans e1);have hSn:(cn S).length=l.length*20:=by rw[dQ b8.all,hSl]
      have BF:=LI b8.all (k:=p) (by omega) (jf _ (adt mG));have rv:(p:Int)<l.length:=by omega
      have qZ:=eu (jf _ (adt mG));have acp:p*20+20<=l.length*20:=by omega
      have ep:=pY l[k+j];refine aN ?_ (by simp[ev,ah,he3,decide_false]);refine J λK hK=>?_;simp only[go_sem,acX,FK,acW,ac2,m1,rv,qZ,ep,hSn,acp,BF];apply hK;refine af rfl ?_;simp only[go_sem,SD];apply Mi;refine af rfl ?_;simp only[go_sem,hwj];refine⟨⟨(S.set p l[k+j],p+1,j+1),b8.other mG (jf _ (adt mG)) he2⟩,by simp only;omega,?_⟩;exact aH.cN [(0,0)] ⟨by simp[bm,ah,AV.aC,aj,ag,Rq,cg],by simp[aL,aI,ai,an,aB,aj,AV.aC,ag,ae,-acU,Rq,cg],rfl,rfl⟩
    ·have hje:k+j=l.length:=by have:=b8.hj;omega
     have FK:¬(j:Int)<((l.length-k:Nat):Int):=by omega
     rw[hje]at b8;obtain⟨hpe,XC⟩:=Qs b8;unfold Rq;refine J λK hK=>?_;simp only[go_sem,FK,decide_false];apply hK;refine aK ?_;apply aZ;show K2 _;apply fx;have rv:(p:Int)<=l.length:=by omega
     have aay:p<=l.length:=by omega
     have acq:¬p=0:=by omega
     have hpn:¬p=l.length:=by omega
     have l6:¬l.length-p=0:=by omega
     have hSn:(cn S).length=l.length*20:=by rw[dQ b8.all,hSl]
     have pt:p*20+(l.length-p)*20<=l.length*20:=by omega
     have hz:=Qt (l.length-p);have Yt:=HX b8.all (R:=ada (l.length-p) (ada 20 0)) (p:=p) (λf hf=>by rw[(List.mem_replicate.1 hf).2];simp) (by rw[List.length_replicate];omega);rw[XC]at Yt;refine J λK hK=>?_;simp only[go_sem,acX,acW,ac2,rv,aay,acq,hpn,l6,hSn,pt,acV];rw[if_pos ⟨l6,by decide⟩,hz,Yt];simp only[go_sem];refine hK _ (J λK hK=>?_);simp only[go_sem,acX,acW,Nat.zero_le,aay];apply hK;apply ak;exact⟨.sl 0 20 0 p,by simp[bB,aV,bK,ah,ai,an,aB,cg,<-hpe],[(0,0)],[(0,cn (qS l))],rfl,rfl,by simp[aL,aI,ai,an,aB,aj,AV.aC,ag,ae,-acU,cg,<-hpe],by simp[AV.aC,aj,ag,cg,<-hpe]⟩
   ·refine aK ?_ (by simp[ev,ah,he,decide_false]);apply au;simp only[go_sem];apply a8;refine af rfl ?_;simp only[go_sem,hw];refine⟨⟨k+1,by omega,by omega,by rw[jC (by omega) bd,if_neg he,hc,adG,ac6 bd];rfl⟩,by simp only;omega,?_⟩;exact aH.cN [(0,0)] ⟨by simp[bm,ah,AV.aC,aj,ag,V2,cg],by simp[aL,aI,ai,an,aB,aj,AV.aC,ag,ae,-acU,V2,cg],rfl,rfl⟩
  ·have dh:k=l.length:=by omega
   subst dh;rw[ac8 (acV _)]at hc;have aQ:¬(l.length:Int)<l.length:=by omega
   have e2:qS l=l:=by simp[qS,hc]
   unfold V2;refine J λK hK=>?_;simp only[go_sem,aQ,decide_false];apply hK;refine aK ?_;apply aZ;show KE _;refine fK _ (J λK hK=>?_);simp only[go_sem];apply hK;apply ak;exact⟨.sl 0 20 0 l.length,by simp[bB,aV,bK,ah,ai,an,aB,cg,hc,e2],[(0,0)],[(0,cn l)],rfl,rfl,by simp[aL,aI,ai,an,aB,aj,AV.aC,ag,ae,-acU,cg,hc,e2],by simp[AV.aC,aj,ag,cg,hc,e2]⟩
section
variable{L I T:DV} {aE:List UInt8} {nt:Nat} (hL:xm L aE) (hT:ir (.d T)=some nt) {f:List Int} (hf:f.length=20)
include hL hT hf
theorem CZ (a:Atom):Pure aM 292 [.agg (a.cells.map .d),.bj [L,I,T],.bj (bR f)] (.d (.bool (!cQ aE nt a f))):=by
 have jf:(bR f).length=20:=by simp[bR,hf]
 have ht:((bR f).map AV.d).take 20=(bR f).map AV.d:=ac8 (by simp[jf]);refine ay func292 N9 ntmps292 results292 rfl ?_;unfold Up;refine J λK hK=>?_;simp only[go_sem,Atom.cells];refine hK _ (J λK hK=>?_);simp only[go_sem,acY,jf,ads,adz,acV,List.take,ht];refine aF (Lg hL hT a hf) (by simp[bF,bE,A2]) rfl ?_;simp only[go_sem];apply hK;apply ak;simp only[go_sem];refine aD _ rfl rfl ⟨?_,rfl⟩;simp only[ah,↓reduceIte]
theorem FL {l:List Atom} {X:DV} (hX:dM Atom.cells l X):Pure aM 291 [.d X,.bj [L,I,T],.bj (bR f)] (.d (.bool (l.all λa=>cQ aE nt a f))):=by
 have h1:Pure aM 240 [.d X,.fn 292 [.bj [L,I,T],.bj (bR f)]] _:=ja func240 Et ntmps240 rfl results240
  (qp (k:=4) (λ_=>rfl) (by omega) hX) rfl rfl (λi hi=>by simp[uH,hi,bE]) (p:=λi=>(l[i]?.map λa=>!cQ aE nt a f).getD false)
  (λi hi=>by simp only[uH,ac6 hi,ady,adE];exact CZ hL hT hf _)
 have h2:=fV func182 Eo ntmps182 rfl results182 rfl h1;rw[n4]at h2;refine ay func291 N8 ntmps291 results291 rfl ?_;unfold Uo;refine J λK hK=>?_;simp only[go_sem];refine hK _ (J λK hK=>?_);simp only[go_sem];refine aF h2 rfl rfl ?_;simp only[go_sem];apply hK;apply ak;simp only[go_sem];refine aD _ rfl rfl ⟨?_,rfl⟩;simp only[ah,↓reduceIte,List.not_any_eq_all_not,Bool.not_not]
def j1 (aE:List UInt8) (nt:Nat) (kind:Int) (rows:List (List Atom)) (f:List Int):Bool:=
 decide (kind=0)||rows.any λl=>l.all λa=>cQ aE nt a f
theorem LJ {rows:List (List Atom)} {A:DV} (hA:cP Atom.cells rows A):
 Pure aM 219 [.d A,.fn 291 [.bj [L,I,T],.bj (bR f)]] (.d (.bool (rows.any λl=>l.all λa=>cQ aE nt a f))):=by
 obtain⟨ds,h1,h2⟩:=hA;have hl:=h2.length;have h3:Pure aM 273 [.d A,.fn 291 [.bj [L,I,T],.bj (bR f)]] _:=ja func273 Eu ntmps273 rfl results273
  (BV h1) rfl rfl (λi hi=>by simp[Eg,hi,bE]) (p:=λi=>(rows[i]?.map λl=>l.all λa=>cQ aE nt a f).getD false)
  (λi hi=>by
   have gb:i<rows.length:=by omega
   obtain⟨d,h4,h5⟩:=h2.get i _ (ac6 gb);simp only[Eg,h4,ac6 gb,ady,adE];exact FL hL hT hf h5)
 have h4:=fV func219 Es ntmps219 rfl results219 rfl h3;rw[hl,n4]at h4;exact h4
theorem HY {rows:List (List Atom)} {A:DV} (hA:cP Atom.cells rows A) (kind:Int):
 Pure aM 231 [.agg [.d L,.d I,.d T],.agg [aq kind,.d A],A2 f] (.d (.bool (j1 aE nt kind rows f))):=by
 refine ay func231 N2 ntmps231 results231 rfl ?_;unfold Ui;unfold A2;refine J λK hK=>?_;simp only[go_sem];apply hK;refine ax (aH.jn (S':=⟨[(3,.bj [L,I,T]),(4,.bj [.int .i64 kind,A]),(5,.bj (bR f))],[],0⟩) [] [(0,[L,I,T]),(1,[.int .i64 kind,A]),(2,bR f)] ⟨?_,trivial,rfl,rfl,?_⟩) ?_;·simp[fO,ah,AV.cv,bI]
 ·simp[bD,ai,dn,AV.cv,cF]
 refine J λK hK=>?_;simp only[go_sem];apply hK;by_cases hk:kind=0
 ·refine J λK hK=>?_;simp only[go_sem,hk,decide_true,ade];apply hK;apply ak;simp only[go_sem];refine aD _ rfl rfl ⟨?_,rfl⟩;simp only[ah,↓reduceIte,j1,hk,decide_true,Bool.true_or]
 ·refine J λK hK=>?_;simp only[go_sem,hk,decide_false,ade];refine aF (LJ hL hT hf hA) rfl rfl ?_;simp only[go_sem];apply hK;apply ak;simp only[go_sem];refine aD _ rfl rfl ⟨?_,rfl⟩;simp only[ah,↓reduceIte,j1,hk,decide_false,Bool.false_or]
end
theorem rk (b:Bool):Pure aM 165 [.d (.bool b)] (aq (if b=true then 1 else 2)):=by
 refine ay func165 NP ntmps165 results165 rfl ?_;unfold T7;refine aa λK hK=>af rfl ?_;simp-implicitDefEqProofs only[go_sem,↓reduceIte];refine hK _ ?_;clear hK;refine aa λK hK=>?_;refine aa λK hK=>af rfl ?_;simp-implicitDefEqProofs only[go_sem,↓reduceIte];refine hK _ ?_;clear hK;cases b with
 |true=>
  refine bP true (by simp[ev,ah]) (λ_=>?_) (λh=>nomatch h);refine aa λK hK=>af rfl ?_;simp-implicitDefEqProofs only[go_sem,↓reduceIte];refine hK _ ?_;clear hK;refine ak ?_;simp only[go_sem];refine aD _ rfl rfl ⟨?_,rfl⟩;simp[ah]
 |false=>
  refine bP false (by simp[ev,ah]) (λh=>nomatch h) (λ_=>?_);refine au ?_;refine hK _ ?_;clear hK;refine aa λK hK=>af rfl ?_;simp-implicitDefEqProofs only[go_sem,↓reduceIte];refine hK _ ?_;clear hK;refine ak ?_;simp only[go_sem];refine aD _ rfl rfl ⟨?_,rfl⟩;simp[ah]
abbrev Ad:=List {f:List Int//f.length=20}
def o3 (f:{f:List Int//f.length=20}):List DV:=bR f.1
section
variable{L I T:DV} {aE:List UInt8} {nt:Nat} (hL:xm L aE) (hT:ir (.d T)=some nt) {rows:List (List Atom)} {A:DV} (hA:cP Atom.cells rows A) (kind:Int)
include hL hT hA
def iE (aE:List UInt8) (nt:Nat) (kind:Int) (rows:List (List Atom)) (F:Ad):Nat:=F.countP λf=>j1 aE nt kind rows f.1
theorem FM {F:Ad} {X:DV} (hX:dM o3 F X):
 Pure aM 164 [.agg [.d L,.d I,.d T],.agg [aq kind,.d A],.d X] (.cu [aq (iE aE nt kind rows F),aq (F.length-iE aE nt kind rows F:Nat)]):=by
 have iZ:=qp (k:=20) (λf=>by simp[o3,bR,f.2]) (by omega) hX;have fw:=iZ.iW;refine ay func164 NO ntmps164 results164 rfl ?_;unfold T6;refine aa λK hK=>af rfl ?_;simp-implicitDefEqProofs only[go_sem,↓reduceIte];refine hK _ ?_;clear hK;refine ax (aH.jn (S':=⟨[(2,.d X),(3,.bj [L,I,T]),(4,.bj [.int .i64 kind,A]),(6,aq (0:Nat)),(7,aq (0:Nat))],[],0⟩) [] [(0,[L,I,T]),(1,[.int .i64 kind,A])] ⟨?_,trivial,rfl,rfl,?_⟩) ?_;·simp[fO,ah,AV.cv,bI]
 ·simp[bD,ai,dn,AV.cv]
 refine aa λK hK=>?_;refine aa λK hK=>af rfl ?_;simp-implicitDefEqProofs only[go_sem,↓reduceIte,iZ.len];refine hK _ ?_;clear hK;refine aA ?_;refine ax (S':=⟨[(3,.bj [L,I,T]),(4,.bj [.int .i64 kind,A]),(6,aq (iE aE nt kind rows (F.take 0))),(7,aq (0-iE aE nt kind rows (F.take 0):Nat)),(10,.d X),(11,aq F.length),(12,aq (0:Nat))],[],0⟩) (aH.cN [] ⟨?_,trivial,rfl,rfl⟩) ?_;·simp[bm,ah,AV.aC,iE]
 refine xV (λS=>∃i,i<=F.length/\S=⟨[(3,.bj [L,I,T]),(4,.bj [.int .i64 kind,A]),(6,aq (iE aE nt kind rows (F.take i))),(7,aq (i-iE aE nt kind rows (F.take i):Nat)),(10,.d X),(11,aq F.length),(12,aq (i:Nat))],[],0⟩)
  (λS=>match ah S.t 12 with
   |.d (.int _ i)=>F.length-i.toNat
   |_=>0) ⟨0,Nat.zero_le _,rfl⟩ ?_
 rintro S ⟨i,hi,rfl⟩;refine aa λK hK=>af rfl ?_;simp-implicitDefEqProofs only[go_sem,↓reduceIte];refine hK _ ?_;clear hK;by_cases bd:i<F.length
 ·have aQ:(i:Int)<F.length:=by omega
  obtain⟨cs,iq,b9,vM⟩:=iZ.get i bd;have Gn:=ac6 bd;simp only[uH,Gn]at vM;generalize hf0:F[i]=f0 at Gn vM;have hy:iE aE nt kind rows (F.take (i+1))=iE aE nt kind rows (F.take i)+if j1 aE nt kind rows f0.1=true then 1 else 0:=by
   simp only[iE];rw[adG,Gn,List.countP_append];simp[List.countP_cons]
  have hyl:iE aE nt kind rows (F.take i)<=i:=by
   have:=List.countP_le_length (p:=λf:{f:List Int//f.length=20}=>j1 aE nt kind rows f.1) (l:=F.take i);simp only[iE];simp at this;omega
  have jf:((o3 f0).map AV.d).length=20:=by simp[o3,bR,f0.2]
  have hw:∀q:Nat,q<=i->ac9.wrap ((q:Int)+1)=((q+1:Nat):Int):=λq hq=>by rw[wrap_i64 (by omega) (by omega)];rfl
  refine aa λK1 a8=>?_;refine bP true (by simp[ev,ah,aQ]) (λ_=>?_) (λh=>nomatch h);refine au ?_;refine a8 _ ?_;clear a8;refine aa λK1 a8=>?_;refine aA ?_;have BF:∀zs:List AV,zs.length=20->putAt zs 0 ((o3 f0).map .d)=(o3 f0).map .d:=λzs hz=>gZ (by rw[jf,hz]);have ph:=eo (o3 f0);refine aa λK hK=>af rfl ?_;simp-implicitDefEqProofs only[go_sem,↓reduceIte,iq,aQ,acW,b9,acX,vM,jf,ph,ads,adz,acV,BF];refine hK _ ?_;clear hK;have vP:((o3 f0).map AV.d).take 20=(o3 f0).map AV.d:=ac8 (by omega);refine aa λK hK=>af rfl ?_;simp-implicitDefEqProofs only[go_sem,↓reduceIte,ade,ads,adz,acV,List.take,jf,vP]
  refine aF (HY hL hT f0.2 hA kind) (by simp[bF,bE,A2]) rfl ?_;simp-implicitDefEqProofs only[go_sem,↓reduceIte];refine hK _ ?_;clear hK;have back:∀(t:Fr) (m:Mem) (n:Nat),ah t 3=.bj [L,I,T]->ah t 4=.bj [.int .i64 kind,A]->ah t 6=aq (iE aE nt kind rows (F.take (i+1)))->ah t 7=aq (i+1-iE aE nt kind rows (F.take (i+1)):Nat)->
   ah t 10=.d (.sl F.length cs)->ah t 11=aq F.length->ah t 12=aq i->K1 ⟨t,m,n⟩:=by
   intro t m n h3 h4 h6 h7 h10 h11 h12;refine a8 _ ?_;clear a8;refine af (by simp[aw]) ?_;simp-implicitDefEqProofs only[go_sem,↓reduceIte,h12];refine⟨⟨[(3,.bj [L,I,T]),(4,.bj [.int .i64 kind,A]),(6,aq (iE aE nt kind rows (F.take (i+1)))),(7,aq (i+1-iE aE nt kind rows (F.take (i+1)):Nat)),(10,.d X),(11,aq F.length),(12,aq (i+1:Nat))],[],0⟩,aH.cN [] ⟨?_,trivial,rfl,rfl⟩,⟨i+1,bd,rfl⟩,?_⟩;·simp[bm,ah,AV.aC,h3,h4,h6,h7,h10,h11,hw i (acV _),iq]
   ·simp only[ah,↓reduceIte,Nat.reduceEqDiff,acW];omega
  cases hh:j1 aE nt kind rows f0.1 with
  |true=>
   refine bP true (by simp[ev,ah,hh]) (λ_=>?_) (λh=>nomatch h);refine af rfl ?_;simp-implicitDefEqProofs only[go_sem,↓reduceIte];refine back _ _ _ rfl rfl ?_ ?_ rfl rfl rfl;·simp only[ah,↓reduceIte,Nat.reduceEqDiff,hw _ hyl,hy,hh]
   ·have TD:iE aE nt kind rows (F.take (i+1))=iE aE nt kind rows (F.take i)+1:=by rw[hy,hh];rfl
    have he:i-iE aE nt kind rows (F.take i)=i+1-(iE aE nt kind rows (F.take i)+1):=by omega
    simp only[ah,↓reduceIte,Nat.reduceEqDiff,TD,he]
  |false=>
   refine bP false (by simp[ev,ah,hh]) (λh=>nomatch h) (λ_=>?_);refine af rfl ?_;simp-implicitDefEqProofs only[go_sem,↓reduceIte];refine back _ _ _ rfl rfl ?_ ?_ rfl rfl rfl;·simp[ah,hy,hh]
   ·have:=hw (i-iE aE nt kind rows (F.take i)) (by omega);have TD:iE aE nt kind rows (F.take (i+1))=iE aE nt kind rows (F.take i):=by rw[hy,hh];rfl
    have he:i-iE aE nt kind rows (F.take i)+1=i+1-iE aE nt kind rows (F.take i):=by omega
    simp only[ah,↓reduceIte,Nat.reduceEqDiff,TD,this,he]
 ·have aQ:¬(i:Int)<F.length:=by omega
  refine aa λK1 a8=>?_;refine bP false (by simp[ev,ah,aQ]) (λh=>nomatch h) (λ_=>?_);refine aZ ?_;simp-implicitDefEqProofs only[go_sem,↓reduceIte];refine hK _ ?_;clear hK;have aaz:F.take i=F:=ac8 (by omega);refine aa λK hK=>af rfl ?_;simp-implicitDefEqProofs only[go_sem,↓reduceIte];refine hK _ ?_;clear hK;refine ak ?_;simp only[go_sem];refine aD _ rfl rfl ⟨?_,rfl⟩;have:i=F.length:=by omega
  simp[ah,aaz,this]
def nD (aE:List UInt8) (nt:Nat) (kind:Int) (rows:List (List Atom)) (F:Ad):Int:=
 if kind=1 then if 0<iE aE nt kind rows F then 1 else 2 else if kind=2 then if F.length-iE aE nt kind rows F=0 then 1 else 2 else 0
theorem C0 {F:Ad} {X:DV} (hX:dM o3 F X):
 Pure aM 100 [.agg [.d L,.d I,.d T],.agg [aq kind,.d A],.d X] (aq (nD aE nt kind rows F)):=by
 refine ay func100 NB ntmps100 results100 rfl ?_;unfold TU;refine aa λK hK=>af rfl ?_;simp-implicitDefEqProofs only[go_sem,↓reduceIte];refine hK _ ?_;clear hK;refine aa λK hK=>af rfl ?_;simp-implicitDefEqProofs only[go_sem,↓reduceIte,ade,ads,adz,acV,List.take];refine aF (FM hL hT hA kind hX) rfl rfl ?_;simp-implicitDefEqProofs only[go_sem,↓reduceIte];refine hK _ ?_;clear hK;refine aa λK hK=>?_;refine aa λK hK=>af rfl ?_;simp-implicitDefEqProofs only[go_sem,↓reduceIte];refine hK _ ?_;clear hK;refine aA ?_;refine aa λK hK=>af rfl ?_;simp-implicitDefEqProofs only[go_sem,↓reduceIte]
 refine hK _ ?_;clear hK;by_cases h1:kind=1
 ·refine bP true (by simp[ev,ah,h1]) (λ_=>?_) (λh=>nomatch h);refine aa λK hK=>af rfl ?_;simp-implicitDefEqProofs only[go_sem,↓reduceIte];refine aF (rk _) rfl rfl ?_;simp-implicitDefEqProofs only[go_sem,↓reduceIte];refine hK _ ?_;clear hK;refine ak ?_;simp only[go_sem];refine aD _ rfl rfl ⟨?_,rfl⟩;simp[ah,nD,h1]
 ·refine bP false (by simp[ev,ah,h1]) (λh=>nomatch h) (λ_=>?_);refine aa λK hK=>af rfl ?_;simp-implicitDefEqProofs only[go_sem,↓reduceIte];refine hK _ ?_;clear hK;by_cases h2:kind=2
  ·refine bP true (by simp[ev,ah,h2]) (λ_=>?_) (λh=>nomatch h);refine aa λK hK=>af rfl ?_;simp-implicitDefEqProofs only[go_sem,↓reduceIte];refine aF (rk _) rfl rfl ?_;simp-implicitDefEqProofs only[go_sem,↓reduceIte];refine hK _ ?_;clear hK;refine ak ?_;simp only[go_sem];refine aD _ rfl rfl ⟨?_,rfl⟩;have hz:((F.length-iE aE nt kind rows F:Nat):Int)=0↔F.length-iE aE nt kind rows F=0:=by omega
   by_cases h3:F.length-iE aE nt kind rows F=0<;>simp[ah,nD,h2,hz,h3]
  ·refine bP false (by simp[ev,ah,h2]) (λh=>nomatch h) (λ_=>?_);refine au ?_;refine hK _ ?_;clear hK;refine aa λK hK=>af rfl ?_;simp-implicitDefEqProofs only[go_sem,↓reduceIte];refine hK _ ?_;clear hK;refine ak ?_;simp only[go_sem];refine aD _ rfl rfl ⟨?_,rfl⟩;simp[ah,nD,h1,h2]
end
end
end Go.Proofs.YtjfdjkageiemkaaGreatDoor
