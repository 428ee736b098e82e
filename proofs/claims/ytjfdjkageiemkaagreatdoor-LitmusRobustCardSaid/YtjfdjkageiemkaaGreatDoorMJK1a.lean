/- What the statement's proof leans on, part 1: the layer, the walks, the plain laws. Names and blanks are short to keep the claim within its limit of bytes. -/
import Derived.WalkKit
import Derived.Orders
import Derived.Below
import Derived.ChangeKeysEq
import Derived.MapKept
set_option linter.unusedSimpArgs false
set_option linter.unusedVariables false
set_option maxRecDepth 100000
open List renaming drop_zero → ac3, getElem?_eq_getElem → ac6, range → ac7, take_of_length_le → ac8, replicate → ada, map_cons → ade, length_append → adk, getD_eq_getElem?_getD → adl, foldr_cons → adp, flatMap_cons → adr, length_cons → ads, getElem_mem → adt, map_nil → adu, mem_cons_self → adw, mem_cons_of_mem → adx, length_nil → adz, foldl_cons → adB, map_append → adC, nil_append → adF, eq_nil_of_length_eq_zero → adH
open Nat renaming le_refl → acV, zero_add → ac2
open Go.Result renaming andThen_ok → acZ
open Go.Sem renaming run_pure → ac0, run_bind → ac1
open Bool renaming false_eq_true → ac5, and_self → adg, and_eq_true → adn
open Go.IntKind renaming i64 → ac9
open Option renaming isSome_none → adb, map_eq_some_iff → adf, isSome_iff_exists → adv, map_some → ady, getD_some → adE
open Option.some renaming injEq → adh
namespace Go.Jq
open Go
inductive DV where
 |int (k:IntKind) (n:Int)
 |bool (b:Bool)
 |str (s:List UInt8)
 |cE
 |lA
 |Mb
 |XN
 |sl (n:Nat) (cells:List DV)
instance:Inhabited DV:=⟨.cE⟩
inductive AV where
 |d (x:DV)
 |ptr (id off:Nat)
 |r8 (id T:Nat)
 |bj (cells:List DV)
 |sl (id de off len:Nat)
 |uh (id T len:Nat)
 |fn (f:Nat) (cap:List AV)
 |agg (cells:List AV)
 |cu (vs:List AV)
 |oZ (id:Nat)
 |ui (isNil:Bool)
 |any
instance:Inhabited AV:=⟨.any⟩
inductive gT where
 |free
 |none
 |mP (b:Nat)
 |mp (b:Nat)
def gT.bk:gT->Option Nat
 |.mP b=>some b
 |.mp b=>some b
 |_=>Option.none
theorem gT.gl {s:gT} {b:Nat} (h:s=.mP b):s.bk=some b:=by rw[h];rfl
theorem gT.It {s:gT} {b:Nat} (h:s=.mp b):s.bk=some b:=by rw[h];rfl
structure Ctx where
 φ:Nat->gT
 dm:Nat->Prop
def dc (w:World) (b:Nat):Option (TypeId×Nat):=
 match w.heap[b]?with
 |some (.cells c T _)=>some (T,c.size)
 |_=>none
mutual
def du (I:Nat->Prop) (w:World):DV->Value->Prop
 |.int k n,v=>v=.int k n
 |.bool b,v=>v=.bool b
 |.str s,v=>v=.string ⟨s.toArray⟩
 |.cE,v=>v=.slice none 0 0
 |.lA,v=>v=.pointer none
 |.Mb,v=>v=.nilFunc
 |.XN,v=>v=.nilIface
 |.sl n cells,v=>∃a cap,v=.slice a n cap/\n<=cap/\
  ((n=0/\cells=[])\/∃b o,a=some ⟨b,o,none⟩/\I b/\c6 I w cells b o)
def c6 (I:Nat->Prop) (w:World):List DV->Nat->Nat->Prop
 | [],_,_=>True
 |c::cs,b,o=>(∃u,w.cell? ⟨b,o,none⟩=some u/\du I w c u)/\c6 I w cs b (o+1)
end
mutual
def Rel (c:Ctx) (w:World):AV->Value->Prop
 |.d x,v=>du c.dm w x v
 |.ptr id off,v=>∃b,c.φ id=.mP b/\v=.pointer (some ⟨b,off,none⟩)
 |.r8 id T,v=>v=.pointer none/\∃b,c.φ id=.mP b/\dc w b=some (T,2)
 |.bj cells,v=>∃b o,c.dm b/\v=.pointer (some ⟨b,o,none⟩)/\c6 c.dm w cells b o
 |.sl id de off len,v=>(c.φ id=.none/\off=0/\len=0/\∃a,v=.slice a 0 0)\/
  ∃b cap n,c.φ id=.mP b/\v=.slice (some ⟨b,off,none⟩) len cap/\len<=cap/\dc w b=some n/\off+cap*de<=n.2
 |.uh id T len,v=>(c.φ id=.none/\len=0/\v=.slice none 0 0)\/
  ∃b cap N,c.φ id=.mP b/\v=.slice (some ⟨b,0,none⟩) len cap/\len<=cap/\dc w b=some (T,N)/\cap<=N
 |.fn f cap,v=>∃vs,v=.func (.func f) #[] vs.toArray/\aU c w cap vs
 |.agg cs,v=>∃vs,v=.agg vs.toArray/\aU c w cs vs
 |.cu cs,v=>∃vs,v=.tuple vs.toArray/\aU c w cs vs
 |.oZ id,v=>∃b,c.φ id=.mp b/\v=.map (some b)
 |.ui z,v=>∃a cap,v=.slice a 0 cap/\a.isNone=z
 |.any,_=>True
def aU (c:Ctx) (w:World):List AV->List Value->Prop
 | [],vs=>vs=[]
 |x::xs,vs=>∃v mb,vs=v::mb/\Rel c w x v/\aU c w xs mb
end
theorem aU.length {c:Ctx} {w:World}:∀{xs:List AV} {vs:List Value},aU c w xs vs->vs.length=xs.length
 | [],_,h=>by simp only[aU]at h;subst h;rfl
 |x::xs,_,h=>by
  simp only[aU]at h;obtain⟨v,mb,rfl,_,h⟩:=h;simp[aU.length h]
theorem aU.get {c:Ctx} {w:World}:∀{xs:List AV} {vs:List Value} (_:aU c w xs vs) {i:Nat} {x:AV},xs[i]?=some x->∃v,vs[i]?=some v/\Rel c w x v
 | [],_,_,i,x,hi=>by simp at hi
 |y::xs,_,h,i,x,hi=>by
  simp only[aU]at h;obtain⟨v,mb,rfl,hv,h⟩:=h;cases i with
  |zero=>simp at hi;subst hi;exact⟨v,rfl,hv⟩
  |succ i=>simp at hi;simpa using aU.get h hi
theorem aU.o6 {c:Ctx} {w:World}:∀{xs:List AV} {vs:List Value},vs.length=xs.length->
 (∀(i:Nat) (x:AV) (v:Value),xs[i]?=some x->vs[i]?=some v->Rel c w x v)->aU c w xs vs
 | [],vs,hl,_=>by simp only[aU];exact adH (by simpa using hl)
 |x::xs,[],hl,_=>by simp at hl
 |x::xs,v::vs,hl,h=>by
  simp only[aU];exact⟨v,vs,rfl,h 0 x v rfl rfl,aU.o6 (by simpa using hl) λi y u hy hu=>h (i+1) y u (by simpa using hy) (by simpa using hu)⟩
theorem aU.append {c:Ctx} {w:World}:∀{xs ys:List AV} {vs us:List Value},aU c w xs vs->aU c w ys us->aU c w (xs++ys) (vs++us)
 | [],_,_,_,h,h'=>by simp only[aU]at h;subst h;simpa using h'
 |x::xs,_,_,_,h,h'=>by
  simp only[aU]at h;obtain⟨v,mb,rfl,hv,h⟩:=h;simp only[List.cons_append,aU];exact⟨v,_,rfl,hv,aU.append h h'⟩
theorem aU.take {c:Ctx} {w:World}:∀{xs:List AV} {vs:List Value} (n:Nat),aU c w xs vs->aU c w (xs.take n) (vs.take n)
 | [],_,n,h=>by simp only[aU]at h;subst h;simp[aU]
 |x::xs,_,0,h=>by simp[aU]
 |x::xs,_,n+1,h=>by
  simp only[aU]at h;obtain⟨v,mb,rfl,hv,h⟩:=h;simp only[List.take_succ_cons,aU];exact⟨v,_,rfl,hv,aU.take n h⟩
theorem aU.drop {c:Ctx} {w:World}:∀{xs:List AV} {vs:List Value} (n:Nat),aU c w xs vs->aU c w (xs.drop n) (vs.drop n)
 | [],_,n,h=>by simp only[aU]at h;subst h;simp[aU]
 |x::xs,_,0,h=>by simpa using h
 |x::xs,_,n+1,h=>by
  simp only[aU]at h;obtain⟨v,mb,rfl,hv,h⟩:=h;simpa using aU.drop n h
theorem aU.set {c:Ctx} {w:World}:∀{xs:List AV} {vs:List Value} (i:Nat) {x:AV} {v:Value},aU c w xs vs->Rel c w x v->aU c w (xs.set i x) (vs.set i v)
 | [],_,i,_,_,h,_=>by simp only[aU]at h;subst h;simp[aU]
 |y::xs,_,0,_,_,h,hx=>by
  simp only[aU]at h;obtain⟨v,mb,rfl,hv,h⟩:=h;simp only[List.set_cons_zero,aU];exact⟨_,_,rfl,hx,h⟩
 |y::xs,_,i+1,_,_,h,hx=>by
  simp only[aU]at h;obtain⟨v,mb,rfl,hv,h⟩:=h;simp only[List.set_cons_succ,aU];exact⟨_,_,rfl,hv,aU.set i h hx⟩
theorem c6.get {I:Nat->Prop} {w:World}:∀{cs:List DV} {b o:Nat} (_:c6 I w cs b o) {i:Nat} {c:DV},cs[i]?=some c->
 ∃u,w.cell? ⟨b,o+i,none⟩=some u/\du I w c u
 | [],_,_,_,i,c,hi=>by simp at hi
 |x::cs,b,o,h,i,c,hi=>by
  simp only[c6]at h;cases i with
  |zero=>simp at hi;subst hi;exact h.1
  |succ i=>
   simp at hi;obtain⟨u,hu,hr⟩:=c6.get h.2 hi;exact⟨u,by rw[<-hu];congr 2;omega,hr⟩
theorem c6.o6 {I:Nat->Prop} {w:World}:∀{cs:List DV} {b o:Nat},
 (∀(i:Nat) (c:DV),cs[i]?=some c->∃u,w.cell? ⟨b,o+i,none⟩=some u/\du I w c u)->c6 I w cs b o
 | [],_,_,_=>by simp[c6]
 |x::cs,b,o,h=>by
  simp only[c6];refine⟨by simpa using h 0 x rfl,c6.o6 λi c hi=>?_⟩;obtain⟨u,hu,hr⟩:=h (i+1) c (by simpa using hi);exact⟨u,by rw[<-hu];congr 2;omega,hr⟩
theorem c6.drop {I:Nat->Prop} {w:World} {cs:List DV} {b o:Nat} (h:c6 I w cs b o) (n:Nat):c6 I w (cs.drop n) b (o+n):=
 c6.o6 λi c hi=>by
  rw[List.getElem?_drop]at hi;obtain⟨u,hu,hr⟩:=c6.get h hi;exact⟨u,by rw[<-hu];congr 2;omega,hr⟩
theorem c6.take {I:Nat->Prop} {w:World} {cs:List DV} {b o:Nat} (h:c6 I w cs b o) (n:Nat):c6 I w (cs.take n) b o:=
 c6.o6 λi c hi=>by
  rw[List.getElem?_take]at hi;split at hi;·exact c6.get h hi
  ·simp at hi
def xv (I:Nat->Prop) (w w':World):Prop:=∀b,I b->w'.heap[b]?=w.heap[b]?
theorem xv.cell {I:Nat->Prop} {w w':World} (h:xv I w w') {b:Nat} (hb:I b) (o:Nat):w'.cell? ⟨b,o,none⟩=w.cell? ⟨b,o,none⟩:=by
 simp only[World.cell?,h b hb]
mutual
theorem iV {I I':Nat->Prop} {w w':World} (hI:∀b,I b->I' b) (hs:xv I w w'):∀(x:DV) (v:Value),du I w x v->du I' w' x v
 |.int _ _,_,h=>h
 |.bool _,_,h=>h
 |.str _,_,h=>h
 |.cE,_,h=>h
 |.lA,_,h=>h
 |.Mb,_,h=>h
 |.XN,_,h=>h
 |.sl n cells,v,h=>by
  simp only[du]at h⊢;obtain⟨a,cap,hv,hn,h⟩:=h;refine⟨a,cap,hv,hn,?_⟩;rcases h with h|⟨b,o,ha,hb,hc⟩;·exact .inl h
  ·exact .inr ⟨b,o,ha,hI b hb,iJ hI hs cells b o hb hc⟩
theorem iJ {I I':Nat->Prop} {w w':World} (hI:∀b,I b->I' b) (hs:xv I w w'):∀(cs:List DV) (b o:Nat),I b->c6 I w cs b o->c6 I' w' cs b o
 | [],_,_,_,_=>by simp[c6]
 |c::cs,b,o,hb,h=>by
  simp only[c6]at h⊢;obtain⟨⟨u,hu,hr⟩,h⟩:=h;exact⟨⟨u,by rw[hs.cell hb];exact hu,iV hI hs c u hr⟩,iJ hI hs cs b (o+1) hb h⟩
end
structure ia (c c':Ctx) (w w':World):Prop where
 dm:∀b,c.dm b->c'.dm b
 same:xv c.dm w w'
 ext:∀id,c.φ id≠.free->c'.φ id=c.φ id
 size:∀b n,dc w b=some n->dc w' b=some n
mutual
theorem lB {c c':Ctx} {w w':World} (h:ia c c' w w'):∀(x:AV) (v:Value),Rel c w x v->Rel c' w' x v
 |.d x,v,hr=>by simp only[Rel]at hr⊢;exact iV h.dm h.same x v hr
 |.ptr id off,v,hr=>by
  simp only[Rel]at hr⊢;obtain⟨b,hb,hv⟩:=hr;exact⟨b,by rw[h.ext id (by rw[hb];simp)];exact hb,hv⟩
 |.r8 id T,v,hr=>by
  simp only[Rel]at hr⊢;obtain⟨hv,b,hb,hs⟩:=hr;exact⟨hv,b,by rw[h.ext id (by rw[hb];simp)];exact hb,h.size b _ hs⟩
 |.bj cells,v,hr=>by
  simp only[Rel]at hr⊢;obtain⟨b,o,hb,hv,hc⟩:=hr;exact⟨b,o,h.dm b hb,hv,iJ h.dm h.same cells b o hb hc⟩
 |.sl id de off len,v,hr=>by
  simp only[Rel]at hr⊢;rcases hr with⟨h0,hr⟩|⟨b,cap,n,hb,hv,hl,hn,hr⟩;·exact .inl ⟨by rw[h.ext id (by rw[h0];simp)];exact h0,hr⟩
  ·exact .inr ⟨b,cap,n,by rw[h.ext id (by rw[hb];simp)];exact hb,hv,hl,h.size b n hn,hr⟩
 |.uh id T len,v,hr=>by
  simp only[Rel]at hr⊢;rcases hr with⟨h0,hr⟩|⟨b,cap,n,hb,hv,hl,hn,hr⟩;·exact .inl ⟨by rw[h.ext id (by rw[h0];simp)];exact h0,hr⟩
  ·exact .inr ⟨b,cap,n,by rw[h.ext id (by rw[hb];simp)];exact hb,hv,hl,h.size b _ hn,hr⟩
 |.fn f cap,v,hr=>by
  simp only[Rel]at hr⊢;obtain⟨vs,hv,hl⟩:=hr;exact⟨vs,hv,eZ h cap vs hl⟩
 |.agg cs,v,hr=>by
  simp only[Rel]at hr⊢;obtain⟨vs,hv,hl⟩:=hr;exact⟨vs,hv,eZ h cs vs hl⟩
 |.cu cs,v,hr=>by
  simp only[Rel]at hr⊢;obtain⟨vs,hv,hl⟩:=hr;exact⟨vs,hv,eZ h cs vs hl⟩
 |.oZ id,v,hr=>by
  simp only[Rel]at hr⊢;obtain⟨b,hb,hv⟩:=hr;exact⟨b,by rw[h.ext id (by rw[hb];simp)];exact hb,hv⟩
 |.ui _,v,hr=>by simpa only[Rel]using hr
 |.any,_,_=>by simp[Rel]
theorem eZ {c c':Ctx} {w w':World} (h:ia c c' w w'):∀(xs:List AV) (vs:List Value),aU c w xs vs->aU c' w' xs vs
 | [],_,hr=>by simpa[aU]using hr
 |x::xs,vs,hr=>by
  simp only[aU]at hr⊢;obtain⟨v,mb,hv,hx,hl⟩:=hr;exact⟨v,mb,hv,lB h x v hx,eZ h xs mb hl⟩
end
abbrev Mem:=List (Nat×List AV)
def ai:Mem->Nat->Option (List AV)
 | [],_=>none
 |(k,c)::r,i=>if k=i then some c else ai r i
def an:Mem->Nat->List AV->Mem
 | [],i,c=>[(i,c)]
 |(k,x)::r,i,c=>if k=i then(k,c)::r else(k,x)::an r i c
def aB:Mem->Nat->Mem
 | [],_=>[]
 |(k,x)::r,i=>if k=i then aB r i else(k,x)::aB r i
theorem bh (m:Mem) (i j:Nat) (c:List AV):ai (an m i c) j=if i=j then some c else ai m j:=by
 induction m with
 |nil=>simp[an,ai]
 |cons p r ih=>
  obtain⟨k,x⟩:=p;simp only[an];by_cases hk:k=i
  ·subst hk;rw[if_pos rfl];simp only[ai];by_cases hj:k=j<;>simp[hj]
  ·rw[if_neg hk];simp only[ai,ih];by_cases hj:k=j;·subst hj;simp[Ne.symm hk]
   ·simp[hj]
theorem eF (m:Mem) (i j:Nat):ai (aB m i) j=if i=j then none else ai m j:=by
 induction m with
 |nil=>simp[aB,ai]
 |cons p r ih=>
  obtain⟨k,x⟩:=p;simp only[aB];by_cases hk:k=i
  ·subst hk;rw[if_pos rfl,ih];simp only[ai];by_cases hj:k=j<;>simp[hj]
  ·rw[if_neg hk];simp only[ai,ih];by_cases hj:k=j;·subst hj;simp[Ne.symm hk]
   ·simp[hj]
abbrev Fr:=List (Nat×AV)
def ah:Fr->Nat->AV
 | [],_=>.any
 |(k,x)::r,i=>if k=i then x else ah r i
def Bz (n:Nat) (f:Nat×Nat):Prop:=f.1=f.2\/n<=f.1
def J6 (c:Ctx) (w:World) (id:Nat) (cells:List AV):Prop:=
 (c.φ id=.none/\cells=[])\/
 (∃b arr T f,c.φ id=.mP b/\¬c.dm b/\w.heap[b]?=some (.cells arr T f)/\Bz arr.size f/\∃vs rest,arr.toList=vs++rest/\aU c w cells vs)\/
 ∃b es kv,c.φ id=.mp b/\¬c.dm b/\w.heap[b]?=some (.map es es.size)/\(es.toList.map (·.born)=ac7 es.size)/\cells=.cu []::kv/\aU c w kv (es.toList.flatMap λe=>[e.key,e.val])
def J7:Nat->Option (Array Value->Prop):=λg=>if g=0 then some (λcs=>cs=#[.int .u8 0,.int .u8 1,.int .u8 56,.int .u8 2,.int .u8 57,.int .u8 49,.int .u8 28,.int .u8 3,.int .u8 61,.int .u8 58,.int .u8 42,.int .u8 50,.int .u8 38,.int .u8 29,.int .u8 17,.int .u8 4,.int .u8 62,.int .u8 47,.int .u8 59,.int .u8 36,.int .u8 45,.int .u8 43,.int .u8 51,.int .u8 22,.int .u8 53,.int .u8 39,.int .u8 33,.int .u8 30,.int .u8 24,.int .u8 18,.int .u8 12,.int .u8 5,.int .u8 63,.int .u8 55,.int .u8 48,.int .u8 27,.int .u8 60,.int .u8 41,.int .u8 37,.int .u8 16,.int .u8 46,.int .u8 35,.int .u8 44,.int .u8 21,.int .u8 52,.int .u8 32,.int .u8 23,.int .u8 11,.int .u8 54,.int .u8 26,.int .u8 40,.int .u8 15,.int .u8 34,.int .u8 20,.int .u8 31,.int .u8 10,.int .u8 25,.int .u8 14,.int .u8 19,.int .u8 9,.int .u8 13,.int .u8 8,.int .u8 7,.int .u8 6])else none
structure MR (c:Ctx) (m:Mem) (w:World):Prop where
 own:∀id cells,ai m id=some cells->J6 c w id cells
 inj:∀id j3 b,(ai m id).isSome->(ai m j3).isSome->(c.φ id).bk=some b->(c.φ j3).bk=some b->id=j3
 dm:∀b,c.dm b->b<w.heap.size
 wX:∀g Φ,J7 g=some Φ->c.dm g/\∃cs T f,w.heap[g]?=some (.cells cs T f)/\Φ cs
theorem MR.lC {c c':Ctx} {m:Mem} {w w':World} (h:MR c m w) (hi:∀b,c.dm b->c'.dm b) (hk:∀b,c.dm b->w'.heap[b]?=w.heap[b]?):
 ∀g Φ,J7 g=some Φ->c'.dm g/\∃cs T f,w'.heap[g]?=some (.cells cs T f)/\Φ cs:=λg Φ hg=>by
 obtain⟨h1,cs,T,f,h2,h3⟩:=h.wX g Φ hg;exact⟨hi g h1,cs,T,f,(hk g h1).trans h2,h3⟩
def FR (c:Ctx) (w:World) (t:Fr) (tmps:Array Value):Prop:=∀i,Rel c w (ah t i) (tmps.getD i undef)
def gm (c:Ctx) (m:Mem) (b:Nat):Prop:=∃id,(ai m id).isSome/\(c.φ id).bk=some b
structure Step (O:Nat->Prop) (c c':Ctx) (w w':World):Prop where
 os:w'.os=w.os
 tape:w'.tape=w.tape
 output:w'.output=w.output
 size:w.heap.size<=w'.heap.size
 cI:∀k,k<w.heap.size->¬O k->w'.heap[k]?=w.heap[k]?
 rows:∀b n,dc w b=some n->dc w' b=some n
 dm:∀b,c.dm b->c'.dm b
 sk:∀b,c'.dm b->c.dm b\/O b\/w.heap.size<=b
theorem Step.refl (O:Nat->Prop) (c:Ctx) (w:World):Step O c c w w:=
 ⟨rfl,rfl,rfl,acV _,λ_ _ _=>rfl,λ_ _ h=>h,λ_ h=>h,λ_ h=>.inl h⟩
theorem Step.trans {O O':Nat->Prop} {c c' c'':Ctx} {w w' w'':World} (h:Step O c c' w w') (h':Step O' c' c'' w' w'')
 (hO:∀b,O' b->O b\/w.heap.size<=b):Step O c c'' w w'' where
 os:=h'.os.trans h.os
 tape:=h'.tape.trans h.tape
 output:=h'.output.trans h.output
 size:=Nat.le_trans h.size h'.size
 cI:=λk hk hn=>(h'.cI k (Nat.lt_of_lt_of_le hk h.size) λhO'=>by rcases hO k hO' with h1|h1;exact hn h1;omega).trans (h.cI k hk hn)
 rows:=λb n hn=>h'.rows b n (h.rows b n hn)
 dm:=λb hb=>h'.dm b (h.dm b hb)
 sk:=λb hb=>by
  rcases h'.sk b hb with h1|h1|h1;·exact h.sk b h1
  ·rcases hO b h1 with h2|h2;·exact .inr (.inl h2)
   ·exact .inr (.inr h2)
  ·exact .inr (.inr (Nat.le_trans h.size h1))
theorem Step.weaken {O O':Nat->Prop} {c c':Ctx} {w w':World} (h:Step O c c' w w') (hO:∀b,O b->O' b):Step O' c c' w w':=
 {h with cI:=λk hk hn=>h.cI k hk λh1=>hn (hO k h1),sk:=λb hb=>(h.sk b hb).imp id λh1=>h1.imp (hO b) id}
theorem MR.sep {c:Ctx} {m:Mem} {w:World} (h:MR c m w) {b:Nat} (hi:c.dm b):¬gm c m b:=by
 rintro⟨id,hid,hb⟩;obtain⟨cells,hc⟩:=adv.1 hid;rcases h.own id cells hc with⟨h0,_⟩|⟨b',arr,T,f,fu,gx,_⟩|⟨b',es,kv,fu,gx,_⟩;·rw[h0]at hb;cases hb
 ·rw[fu]at hb;cases hb;exact gx hi
 ·rw[fu]at hb;cases hb;exact gx hi
theorem Step.later {c c':Ctx} {m:Mem} {w w':World} (hm:MR c m w) (h:Step (gm c m) c c' w w') (rl:∀id,c.φ id≠.free->c'.φ id=c.φ id):ia c c' w w':=
 ⟨h.dm,λb hb=>h.cI b (hm.dm b hb) (hm.sep hb),rl,h.rows⟩
end Go.Jq
namespace Go.Jq
open Go
inductive cR where
 |t (i:Nat)
 |c (x:AV)
inductive jL where
 |xw (n de:Nat)
 |Gy (de:Nat)
 |An (de:Nat)
 |Iu
 |XO (ks:List Nat) (zero:AV) (comma:Bool)
 |Mt (ks:List Nat)
 |Mu (ks:List Nat) (zero:AV)
 |Mv
 |Rr
 |ur (neg:Bool)
 |xx (de:Nat) (zero:List AV)
inductive im where
 |mv (x:cR)
 |pick (c a b:cR)
 |alloc (zero:List AV)
 |box (x:cR)
 |build (zero:List AV) (parts:List (Nat×Nat×cR))
 |dp (de len:Nat) (zero:List AV) (parts:List (Nat×Nat×cR))
 |load (k:Option Nat) (x:cR)
 |store (k:Nat) (a v:cR)
 |gu (x:cR)
 |bin (op:BinOp) (x y:cR)
 |Q1 (neg:Bool) (x y:cR)
 |Mw (neg:Bool) (x y:cR)
 |Q3 (neg:Bool) (x y:cR)
 |eqs (sz:List Nat) (neg:Bool) (x y:cR)
 |un (op:UnOp) (x:cR)
 |Gz (k:IntKind) (x:cR)
 |mA (x:cR)
 |xy (x:cR)
 |BA (x:cR)
 |xz (x:cR)
 |o7 (f:Nat) (caps:List cR)
 |zC (de bytes:Nat) (zero:List AV) (len cap:cR)
 |zD (x:cR) (lo hi:Option cR)
 |rm (de:Nat) (x:cR) (lo hi:Option cR)
 |c7 (x:cR) (off:Nat)
 |Rs (x:cR) (off:Nat) (k:Option Nat)
 |bS (de:Nat) (n:Option Nat) (x i:cR)
 |idxs (x i:cR)
 |BB (n de:Nat) (k:Option Nat) (x i:cR)
 |ext (x:cR) (i:Nat)
 |lens (x:cR)
 |xA (x:cR)
 |uu (x y:cR)
 |uv (x y:cR)
 |app (de bytes el:Nat) (x y:cR)
 |iW (k:jL) (args:List cR)
 |bW (f:Nat) (args:List cR)
 |fb (x:cR) (args:List cR)
structure bA where
 dst:Option Nat
 op:im
 guard:Option (Nat×Bool)
inductive eX where
 |nil
 |new (cells:List AV)
 |put (id:Nat) (cells:List AV)
 |Q4 (id:Nat) (cells:List AV)
def eX.mem (m:Mem) (n:Nat):eX->Mem
 |.nil=>m
 |.new c=>an m n c
 |.put id c=>an m id c
 |.Q4 id c=>an (aB m id) n c
def eX.next (n:Nat):eX->Nat
 |.nil=>n
 |.new _=>n+1
 |.put _ _=>n
 |.Q4 _ _=>n+1
def ev (t:Fr):cR->AV
 |.t i=>ah t i
 |.c x=>x
def cellsOf:AV->Option (List AV)
 |.agg cs=>some cs
 |.cu _=>none
 |.any=>none
 |x=>some [x]
def j9:AV->Bool
 |.agg _=>false
 |.cu _=>false
 |.any=>false
 |_=>true
def o8 (n:Nat):List AV->List AV
 |.r8 _ T::r=>.r8 n T::r
 |z=>z
def putAt:List AV->Nat->List AV->List AV
 |l,_,[]=>l
 |l,o,v::vs=>putAt (l.set o v) (o+1) vs
def qY:List AV->List (Nat×Nat×AV)->Option (List AV)
 |cs,[]=>some cs
 |cs,(off,size,v)::r=>
  match cellsOf v with
  |some vs=>if vs.length=size/\off+size<=cs.length then qY (putAt cs off vs) r else none
  |none=>none
def nK (t:Fr) (ps:List (Nat×Nat×cR)):List (Nat×Nat×AV):=ps.map λp=>(p.1,p.2.1,ev t p.2.2)
def kX (s:List UInt8):List AV:=s.map λb=>.d (.int .u8 b.toNat)
def ez (m:Mem) (de:Nat):AV->Option (Nat×List AV)
 |.d .cE=>some (0,[])
 |.d (.sl n cells)=>if cells.length=n*de then some (n,cells.map .d)else none
 |.d (.str s)=>if de=1 then some (s.length,kX s)else none
 |.ui _=>some (0,[])
 |.sl id e off len=>match ai m id with
  |some cs=>if e=de/\off+len*de<=cs.length/\((cs.drop off).take (len*de)).all j9=true then some (len,(cs.drop off).take (len*de))else none
  |none=>none
 |_=>none
def lD (k:IntKind) (n:Int):AV:=.d (.int k (k.wrap n))
def dq (b:Bool):AV:=.d (.bool b)
def o0 (op:BinOp) (k:IntKind) (a b:Int):Option AV:=
 match op with
 |.add=>some (lD k (a+b))
 |.sub=>some (lD k (a-b))
 |.mul=>some (lD k (a*b))
 |.quo=>if b=0 then none else some (lD k (a.tdiv b))
 |.rem=>if b=0 then none else some (.d (.int k (a.tmod b)))
 |.and=>some (.d (.int k (bits .and k a b)))
 |.or=>some (.d (.int k (bits .or k a b)))
 |.xor=>some (.d (.int k (bits .xor k a b)))
 |.andNot=>some (.d (.int k (bits .andNot k a b)))
 |.shl=>none
 |.shr=>none
 |.eql=>some (dq (decide (a=b)))
 |.neq=>some (dq (!decide (a=b)))
 |.lss=>some (dq (decide (a<b)))
 |.leq=>some (dq (decide (a<=b)))
 |.gtr=>some (dq (decide (b<a)))
 |.geq=>some (dq (decide (b<=a)))
def XP (op:BinOp) (k:IntKind) (a b:Int):Option AV:=
 if b<0 then none else
 match op with
 |.shl=>some (lD k (a*2^min b.toNat k.bits))
 |.shr=>some (.d (.int k (a.fdiv (2^min b.toNat k.bits))))
 |_=>none
def J8 (op:BinOp) (a b:List UInt8):Option AV:=
 match op with
 |.add=>if a.length+b.length<=9223372036854775807 then some (.d (.str (a++b)))else none
 |.eql=>some (dq (decide (a=b)))
 |.neq=>some (dq (!decide (a=b)))
 |.lss=>some (dq (Op.bytesLess a b))
 |.leq=>some (dq (Op.bytesLess a b||decide (a=b)))
 |.gtr=>some (dq (!(Op.bytesLess a b||decide (a=b))))
 |.geq=>some (dq (!Op.bytesLess a b))
 |_=>none
def fv (op:BinOp):AV->AV->Option AV
 |.d (.int k a),.d (.int k' b)=>
  if op=.shl\/op=.shr then XP op k a b else if k=k' then o0 op k a b else none
 |.d (.str a),.d (.str b)=>J8 op a b
 |_,_=>none
def unA (op:UnOp):AV->Option AV
 |.d (.int k a)=>match op with
  |.neg=>some (lD k (0-a))
  |.xor=>some (.d (.int k (bits .xor k (if k.signed then-1 else k.max) a)))
  |_=>none
 |.d (.bool b)=>match op with
  |.not=>some (dq (!b))
  |_=>none
 |_=>none
def Rt (neg:Bool):AV->AV->Option AV
 |.ptr _ _,.d .lA=>some (dq neg)
 |.bj _,.d .lA=>some (dq neg)
 |.d .lA,.ptr _ _=>some (dq neg)
 |.d .lA,.bj _=>some (dq neg)
 |.d .lA,.d .lA=>some (dq (!neg))
 |_,_=>none
def Ru (neg:Bool):AV->AV->Option AV
 |.fn _ _,.d .Mb=>some (dq neg)
 |.d .Mb,.fn _ _=>some (dq neg)
 |.d .Mb,.d .Mb=>some (dq (!neg))
 |_,_=>none
def o9:Nat->AV->AV->Option Bool
 |0,.d (.int k a),.d (.int k' b)=>if k=k' then some (decide (a=b))else none
 |1,.d (.bool a),.d (.bool b)=>some (a==b)
 |2,.d (.str a),.d (.str b)=>some (decide (a=b))
 |_,_,_=>none
def b7:List Nat->List AV->List AV->Option Bool
 | [],[],[]=>some true
 |k::ks,x::xs,y::ys=>match o9 k x y,b7 ks xs ys with
  |some a,some b=>some (a&&b)
  |_,_=>none
 |_,_,_=>none
def ir:AV->Option Nat
 |.d .cE=>some 0
 |.d (.sl n _)=>some n
 |.sl _ _ _ len=>some len
 |.ui _=>some 0
 |_=>none
def lr:List AV->Option (List UInt8)
 | []=>some []
 |.d (.int .u8 n)::r=>(lr r).map (UInt8.ofNat n.toNat::·)
 |_::_=>none
def DC (x:Option AV) (abm:Nat):Option Nat:=
 match x with
 |none=>some abm
 |some (.d (.int _ n))=>if 0<=n then some n.toNat else none
 |_=>none
def aP (k:Option Nat) (cells:List AV):Option AV:=
 match k with
 |none=>cells[0]?
 |some k=>if k<=cells.length then some (.agg (cells.take k))else none
def Wa (de lo hi len:Nat):AV->Option AV
 |.d .cE=>if lo=0/\hi=0 then some (.d .cE)else none
 |.d (.sl n cells)=>if lo<=hi/\hi<=n/\n=len then some (.d (.sl (hi-lo) ((cells.drop (lo*de)).take ((hi-lo)*de))))else none
 |.sl id e off n=>if e=de/\n=len/\lo<=hi/\hi<=n then
  (if lo=0 then some (.sl id de off hi)else if lo=hi then some (.d (.sl 0 []))else some (.sl id de (off+lo*de) (hi-lo)))else none
 |_=>none
def iu (ks:List Nat) (kc:List AV):List AV->Option (Option Nat)
 | []=>some none
 |.agg c::_::r=>match b7 ks kc c with
  |some true=>some (some 0)
  |some false=>(iu ks kc r).map λo=>o.map (·+1)
  |none=>none
 |_=>none
def sn (ks:List Nat) (zero:AV) (kc kv:List AV):Option (AV×Bool):=
 if kc.length=ks.length then match iu ks kc kv with
  |some (some j)=>kv[2*j+1]?.map λx=>(x,true)
  |some none=>some (zero,false)
  |none=>none
 else none
def Wb (ks:List Nat) (kc:List AV) (x:AV) (kv:List AV):Option (List AV):=
 if kc.length=ks.length then match iu ks kc kv with
  |some (some j)=>some ((kv.set (2*j) (.agg kc)).set (2*j+1) x)
  |some none=>some (kv++[.agg kc,x])
  |none=>none
 else none
def xB (ks:List Nat) (zero:AV) (kc kv:List AV):Option (AV×Nat×List AV):=
 if kc.length=ks.length then match iu ks kc kv with
  |some (some j)=>kv[2*j+1]?.map λx=>(x,j,kv.set (2*j) (.agg kc))
  |some none=>some (zero,kv.length/2,kv++[.agg kc,zero])
  |none=>none
 else none
def mapOf (m:Mem) (id:Nat):Option (List AV):=
 match ai m id with
 |some (.cu []::kv)=>some kv
 |_=>none
def qJ:AV->Option Nat
 |.d (.int _ n)=>if 0<=n then some n.toNat else none
 |_=>none
def kg (k:jL) (xs:List AV) (m:Mem) (n:Nat):Option (AV×eX):=
 match k,xs with
 |.xw q de,[.ptr id off,lo,hi]=>match ai m id,qJ lo,qJ hi with
  |some cs,some l,some h=>if l<=h/\h<=q/\off+q*de<=cs.length then some (if l=h then .d (.sl 0 [])else .sl id de (off+l*de) (h-l),.nil)else none
  |_,_,_=>none
 |.Gy de,[x,lo,hi,mx]=>match ir x,qJ lo,qJ hi,qJ mx with
  |some len,some l,some h,some r=>if l=0/\h=0/\r=0 then some (.sl n de 0 0,.new [])
   else if l=0/\h=len/\r=len then some (x,.nil)else none
  |_,_,_,_=>none
 |.An de,[.sl id e off len,y]=>match ai m id,ez m de y with
  |some cs,some (k,new)=>if e=de/\k<=len/\len≠0/\off+k*de<=cs.length then some (.d (.int .i64 (k:Int)),.put id (putAt cs off new))else none
  |_,_=>none
 |.Iu,[]=>some (.oZ n,.new [.cu []])
 |.XO ks z comma,[.oZ id,.agg kc]=>match mapOf m id with
  |some kv=>(sn ks z kc kv).map λr=>(if comma=true then .cu [r.1,dq r.2]else r.1,.nil)
  |none=>none
 |.Mt ks,[.oZ id,.agg kc,x]=>match mapOf m id with
  |some kv=>(Wb ks kc x kv).map λuj=>(.any,.put id (.cu []::uj))
  |none=>none
 |.Mu ks z,[.oZ id,.agg kc]=>match mapOf m id with
  |some kv=>(xB ks z kc kv).map λr=>(.cu [r.1,.d (.int .i64 (r.2.1:Int))],.put id (.cu []::r.2.2))
  |none=>none
 |.Mv,[.oZ id,.d (.int .i64 j),x]=>match mapOf m id with
  |some kv=>if 0<=j/\2*j.toNat+1<kv.length then some (.any,.put id (.cu []::kv.set (2*j.toNat+1) x))else none
  |none=>none
 |.ur neg,[x,.d .cE]=>match x with
  |.d .cE=>some (dq (!neg),.nil)
  |.d (.sl k _)=>if k=0 then none else some (dq neg,.nil)
  |.ui z=>some (dq (z !=neg),.nil)
  |.sl _ _ _ k=>if k=0 then none else some (dq neg,.nil)
  |_=>none
 |.xx de z,[.sl id e off len]=>match ai m id with
  |some cs=>if e=de/\len≠0/\z.length=de/\z.length≠0/\z.all j9=true/\off+len*de<=cs.length then
   some (.cu [],.put id (putAt cs off ((ac7 (len*de)).map λi=>z.getD (i%z.length) .any)))else none
  |none=>none
 |.Rr,[.oZ id]=>(mapOf m id).map λkv=>(.d (.int .i64 ((kv.length/2:Nat):Int)),.nil)
 |_,_=>none
def aW (o:im) (t:Fr) (m:Mem) (n:Nat):Option (AV×eX):=
 match o with
 |.mv x=>some (ev t x,.nil)
 |.pick c a b=>match ev t c with
  |.d (.bool v)=>some (if v=true then ev t a else ev t b,.nil)
  |_=>none
 |.alloc z=>some (.ptr n 0,.new (o8 n z))
 |.box x=>(cellsOf (ev t x)).map λcs=>(.ptr n 0,.new cs)
 |.build z ps=>(qY z (nK t ps)).map λcs=>(.agg cs,.nil)
 |.dp de len z ps=>(qY z (nK t ps)).map λcs=>(.sl n de 0 len,.new cs)
 |.load k x=>match ev t x with
  |.ptr id off=>match ai m id with
   |some cs=>(aP k (cs.drop off)).map λv=>(v,.nil)
   |none=>none
  |.bj cs=>(aP k (cs.map .d)).map λv=>(v,.nil)
  |_=>none
 |.store k a v=>match ev t a,cellsOf (ev t v)with
  |.ptr id off,some vs=>match ai m id with
   |some cs=>if vs.length=k/\vs.all j9=true/\off+k<=cs.length then some (.any,.put id (putAt cs off vs))else none
   |none=>none
  |_,_=>none
 |.gu x=>match ev t x with
  |.ptr id off=>some (.ptr id off,.nil)
  |.bj cs=>some (.bj cs,.nil)
  |.fn f cs=>some (.fn f cs,.nil)
  |_=>none
 |.bin op x y=>(fv op (ev t x) (ev t y)).map λv=>(v,.nil)
 |.Q1 neg x y=>match ev t x,ev t y with
  |.d (.bool a),.d (.bool b)=>some (dq ((a==b)!=neg),.nil)
  |_,_=>none
 |.Mw neg x y=>(Rt neg (ev t x) (ev t y)).map λv=>(v,.nil)
 |.Q3 neg x y=>(Ru neg (ev t x) (ev t y)).map λv=>(v,.nil)
 |.eqs sz neg x y=>match ev t x,ev t y with
  |.agg xs,.agg ys=>(b7 sz xs ys).map λb=>(dq (b !=neg),.nil)
  |_,_=>none
 |.un op x=>(unA op (ev t x)).map λv=>(v,.nil)
 |.Gz k x=>match ev t x with
  |.d (.int _ a)=>some (lD k a,.nil)
  |_=>none
 |.mA x=>match ev t x with
  |.d (.int _ a)=>some (.d (.str (Utf8.encode a).data.toList),.nil)
  |.d (.str s)=>some (.d (.str s),.nil)
  |_=>none
 |.xy x=>match ev t x with
  |.d (.str _)=>none
  |y=>match ez m 1 y with
   |some (_,cs)=>(lr cs).map λs=>(.d (.str s),.nil)
   |none=>none
 |.BA x=>match ev t x with
  |.d (.str s)=>some (.sl n 1 0 s.length,.new (kX s))
  |_=>none
 |.xz x=>match ev t x with
  |.sl id e off len=>match ai m id with
   |some _=>if len=0 then none else some (.sl id e off len,.nil)
   |none=>none
  |_=>none
 |.o7 f caps=>some (.fn f (caps.map (ev t)),.nil)
 |.zC de bytes z l c=>match ev t l,ev t c with
  |.d (.int .i64 a),.d (.int .i64 b)=>
   if 0<=a/\a<=b/\bytes*b<=140737488351232/\b<=9223372036854775807 then some (.sl n de 0 a.toNat,.new ((ac7 (a.toNat*de)).map λi=>z.getD (i%z.length) .any))else none
  |_,_=>none
 |.zD x lo hi=>match ev t x with
  |.d (.str s)=>match DC (lo.map (ev t)) 0,DC (hi.map (ev t)) s.length with
   |some l,some h=>if l<=h/\h<=s.length then some (.d (.str ((s.take h).drop l)),.nil)else none
   |_,_=>none
  |_=>none
 |.rm de x lo hi=>match ir (ev t x)with
  |some len=>match DC (lo.map (ev t)) 0,DC (hi.map (ev t)) len with
   |some l,some h=>(Wa de l h len (ev t x)).map λv=>(v,.nil)
   |_,_=>none
  |none=>none
 |.c7 x off=>match ev t x with
  |.ptr id o=>some (.ptr id (o+off),.nil)
  |.bj cs=>some (.bj (cs.drop off),.nil)
  |_=>none
 |.Rs x off k=>match ev t x with
  |.agg cs=>(aP k (cs.drop off)).map λv=>(v,.nil)
  |_=>none
 |.bS de n x i=>match ev t x,ev t i with
  |.ptr id o,.d (.int _ i)=>match n with
   |some n=>if 0<=i/\i<n then some (.ptr id (o+i.toNat*de),.nil)else none
   |none=>none
  |.bj cs,.d (.int _ i)=>match n with
   |some n=>if 0<=i/\i<n then some (.bj (cs.drop (i.toNat*de)),.nil)else none
   |none=>none
  |.sl id e off len,.d (.int _ i)=>if n=none/\e=de/\0<=i/\i<len then some (.ptr id (off+i.toNat*de),.nil)else none
  |.d (.sl len cs),.d (.int _ i)=>if n=none/\0<=i/\i<len/\i.toNat*de<cs.length then some (.bj (cs.drop (i.toNat*de)),.nil)else none
  |_,_=>none
 |.idxs x i=>match ev t x,ev t i with
  |.d (.str s),.d (.int _ i)=>if 0<=i/\i<s.length then some (.d (.int .u8 (s.getD i.toNat 0).toNat),.nil)else none
  |_,_=>none
 |.BB n de k x i=>match ev t x,ev t i with
  |.agg cs,.d (.int _ i)=>if 0<=i/\i<n then(aP k (cs.drop (i.toNat*de))).map λv=>(v,.nil)else none
  |_,_=>none
 |.ext x i=>match ev t x with
  |.cu vs=>vs[i]?.map λv=>(v,.nil)
  |_=>none
 |.lens x=>match ev t x with
  |.d (.str s)=>some (.d (.int .i64 (s.length:Int)),.nil)
  |_=>none
 |.xA x=>(ir (ev t x)).map λ(l:Nat)=>(.d (.int .i64 (l:Int)),.nil)
 |.uu x y=>match ev t x,ev t y with
  |.d (.int k a),.d (.int _ b)=>some (.d (.int k (if b<a then b else a)),.nil)
  |_,_=>none
 |.uv x y=>match ev t x,ev t y with
  |.d (.int k a),.d (.int _ b)=>some (.d (.int k (if a<b then b else a)),.nil)
  |_,_=>none
 |.app de bytes el x y=>match ez m de (ev t y)with
  |some (k,new)=>
   match ev t x with
   |.d .cE=>if k*bytes<=140737488351232 then(if k=0 then some (.d .cE,.nil)else some (.sl n de 0 k,.new new))else none
   |.sl id e off len=>match ai m id with
    |some cs=>if e=de/\off+len*de=cs.length/\(len+k)*bytes<=140737488351232 then
     (if k=0 then some (.sl id de off len,.nil)else if off=0 then some (.sl n de 0 (len+k),.Q4 id (cs++new))else none)else none
    |none=>none
   |.uh id T len=>match ai m id with
    |some cs=>if de=1/\T=el/\len=cs.length/\(len+k)*bytes<=140737488351232 then
     (if k=0 then some (.uh id T len,.nil)else some (.uh n T (len+k),.Q4 id (cs++new)))else none
    |none=>none
   |_=>none
  |none=>none
 |.iW k xs=>kg k (xs.map (ev t)) m n
 |.bW _ _=>none
 |.fb _ _=>none
def lE:Value->AV
 |.bool b=>.d (.bool b)
 |.int k n=>.d (.int k n)
 |.string s=>.d (.str s.data.toList)
 |.pointer none=>.d .lA
 |.slice none 0 0=>.d .cE
 |.nilFunc=>.d .Mb
 |.nilIface=>.d .XN
 |_=>.any
def DD:Value->AV
 |.agg cs=>.agg (cs.toList.map lE)
 |v=>lE v
def aX:Operand->cR
 |.tmp t=>.t t
 |.const v=>.c (DD v)
 |.func f=>.c (.fn f [])
 |.global _=>.c .any
def o4 (P:Program) (t:TypeId):Option (Option Nat):=
 match P.info? t,P.underlying t with
 |some i,some (.struct _)=>some (some i.size)
 |some i,some (.array _ _)=>some (some i.size)
 |some _,some _=>some none
 |_,_=>none
def zeroOf (P:Program) (t:TypeId):Option (List AV):=
 match P.info? t with
 |some i=>match i.zero with
  |some z=>some (z.cells.toList.map lE)
  |none=>none
 |none=>none
def fQ (P:Program) (fs:Array Field) (f:Nat):Option (Nat×Nat):=
 match fs[f]?with
 |some fd=>match P.info? fd.type with
  |some i=>some (fd.offset,i.size)
  |none=>none
 |none=>none
def partsOf (place:Nat->Option (Nat×Nat)):List (Nat×Operand)->Option (List (Nat×Nat×cR))
 | []=>some []
 |(i,x)::r=>match place i,partsOf place r with
  |some (off,size),some r'=>some ((off,size,aX x)::r')
  |_,_=>none
def rn (P:Program) (sz:TypeId->Option (List Nat)):List Field->Nat->Option (List Nat)
 | [],_=>some []
 |f::r,acc=>match sz f.type with
  |some s=>if f.name≠ "_"/\f.offset=acc/\(P.info? f.type).map (·.size)=some s.length then(rn P sz r (acc+s.length)).map (s++·)else none
  |none=>none
def fC (P:Program):Nat->TypeId->Option (List Nat)
 |0,_=>none
 |d+1,t=>match P.underlying t with
  |some (.int _)=>some [0]
  |some .bool=>some [1]
  |some .string=>some [2]
  |some (.struct fs)=>if P.stoodInHeld t then none else rn P (fC P d) fs.toList 0
  |some (.array n e)=>match P.info? e,fC P d e with
   |some i,some s=>if i.size=s.length then some (ada n s).flatten else none
   |_,_=>none
  |_=>none
def mQ (P:Program) (T:TypeId):Option (List Nat):=
 match P.underlying T with
 |some (.struct _)=>(fC P 20 T).bind λks=>if(P.info? T).map (·.size)=some ks.length then some ks else none
 |some (.array _ _)=>(fC P 20 T).bind λks=>if(P.info? T).map (·.size)=some ks.length then some ks else none
 |_=>none
def zeroV (P:Program) (T:TypeId):Option AV:=
 match P.info? T with
 |some i=>i.zero.map DD
 |none=>none
def jo (P:Program) (f:Nat):Bool:=
 match P.funcs[f]?with
 |some fn=>fn.body.isSome&& fn.name != "runtime.NumGoroutine"
 |none=>false
def Wc:TypeDesc->Bool
 |.int _=>true
 |_=>false
def pa (P:Program) (b:Builtin) (ts:Array TypeId) (args:Array Operand):Option im:=
 match b,ts.toList,args.toList with
 |.len,[t],[x]=>match P.underlying t with
  |some .string=>some (.lens (aX x))
  |some (.slice _)=>some (.xA (aX x))
  |some (.array n _)=>some (.mv (.c (.d (.int .i64 n))))
  |some (.map _ _)=>some (.iW .Rr [aX x])
  |_=>none
 |.append,[s,t],[x,y]=>match P.underlying s,P.underlying t with
  |some (.slice e),some u=>if Wc u=true then none else match P.info? e with
   |some i=>match i.zero with
    |some z=>if z.cells.size=i.size/\i.bytes≠0 then some (.app i.size i.bytes e (aX x) (aX y))else none
    |none=>none
   |none=>none
  |_,_=>none
 |.copy,[s,_],[x,y]=>match P.underlying s with
  |some (.slice e)=>(P.info? e).map λi=>.iW (.An i.size) [aX x,aX y]
  |_=>none
 |.clear,[s],[x]=>match P.underlying s with
  |some (.slice e)=>match P.info? e,zeroOf P e with
   |some i,some z=>some (.iW (.xx i.size z) [aX x])
   |_,_=>none
  |_=>none
 |.min,_,[x,y]=>some (.uu (aX x) (aX y))
 |.max,_,[x,y]=>some (.uv (aX x) (aX y))
 |_,_,_=>none
def Ao (T:Nat):List AV->List AV
 | [.d .lA,.d .cE]=>[.r8 0 T,.d .cE]
 |z=>z
def jG (P:Program):Op->Option im
 |.move x=>some (.mv (aX x))
 |.assign x=>some (.mv (aX x))
 |.pick c a b=>some (.pick (aX c) (aX a) (aX b))
 |.alloc e=>(zeroOf P e).map λz=>.alloc (Ao e z)
 |.box _ x=>some (.box (aX x))
 |.build t ps=>match P.underlying t,zeroOf P t with
  |some (.struct fs),some z=>if(fs.all λf=>(P.info? f.type).isSome)then(partsOf (fQ P fs) ps.toList).map (.build z)else none
  |some (.array _ e),some z=>match P.info? e with
   |some i=>(partsOf (λj=>some (j*i.size,i.size)) ps.toList).map (.build z)
   |none=>none
  |_,_=>none
 |.buildSlice t len ps=>match P.underlying t with
  |some (.slice e)=>match P.info? e,zeroOf P e with
   |some i,some z=>if z.length=i.size/\len*i.size<=2^24 then
    (partsOf (λj=>some (j*i.size,i.size)) ps.toList).map (.dp i.size len ((ac7 (len*i.size)).map λj=>z.getD (j%z.length) .any))else none
   |_,_=>none
  |_=>none
 |.load t a=>(o4 P t).map λk=>.load k (aX a)
 |.store t a v=>(P.info? t).map λi=>.store i.size (aX a) (aX v)
 |.nilCheck x=>some (.gu (aX x))
 |.binOp op t x y _=>
  match P.underlying t with
  |some (.int _)=>some (.bin op (aX x) (aX y))
  |some .string=>some (.bin op (aX x) (aX y))
  |some .bool=>match op with
   |.eql=>some (.Q1 false (aX x) (aX y))
   |.neq=>some (.Q1 true (aX x) (aX y))
   |_=>none
  |some (.pointer _)=>match op with
   |.eql=>some (.Mw false (aX x) (aX y))
   |.neq=>some (.Mw true (aX x) (aX y))
   |_=>none
  |some (.slice _)=>match op with
   |.eql=>some (.iW (.ur false) [aX x,aX y])
   |.neq=>some (.iW (.ur true) [aX x,aX y])
   |_=>none
  |some (.func ..)=>match op with
   |.eql=>some (.Q3 false (aX x) (aX y))
   |.neq=>some (.Q3 true (aX x) (aX y))
   |_=>none
  |some (.struct _)=>match fC P 20 t with
   |some s=>if P.eqGuardType P.depth t then none else match op with
    |.eql=>some (.eqs s false (aX x) (aX y))
    |.neq=>some (.eqs s true (aX x) (aX y))
    |_=>none
   |none=>none
  |some (.array _ _)=>match fC P 20 t with
   |some s=>if P.eqGuardType P.depth t then none else match op with
    |.eql=>some (.eqs s false (aX x) (aX y))
    |.neq=>some (.eqs s true (aX x) (aX y))
    |_=>none
   |none=>none
  |_=>none
 |.unOp op _ x=>some (.un op (aX x))
 |.convert s d x=>match P.underlying s,P.underlying d with
  |some (.int _),some (.int k)=>some (.Gz k (aX x))
  |some (.int _),some .string=>some (.mA (aX x))
  |some .string,some .string=>some (.mA (aX x))
  |some (.slice e),some .string=>match P.underlying e with
   |some (.int .u8)=>some (.xy (aX x))
   |_=>none
  |some .string,some (.slice e)=>match P.underlying e with
   |some (.int .u8)=>some (.BA (aX x))
   |_=>none
  |some (.slice _),some (.slice e)=>if s=d then(match P.underlying e with
   |some (.int .u8)=>some (.xz (aX x))
   |_=>none)else none
  |_,_=>none
 |.makeFunc (.func f) first caps=>if first.isEmpty then some (.o7 f (caps.toList.map aX))else none
 |.makeSlice t l c=>match P.underlying t with
  |some (.slice e)=>match P.info? e,zeroOf P e with
   |some i,some z=>if z.length=i.size/\z.length≠0 then some (.zC i.size i.bytes z (aX l) (aX c))else none
   |_,_=>none
  |_=>none
 |.slice t x lo hi none=>match P.underlying t with
  |some .string=>some (.zD (aX x) (lo.map aX) (hi.map aX))
  |some (.slice e)=>match P.info? e with
   |some i=>some (.rm i.size (aX x) (lo.map aX) (hi.map aX))
   |none=>none
  |some (.array q e)=>match P.info? e with
   |some i=>some (.iW (.xw q i.size) [aX x,(lo.map aX).getD (.c (.d (.int .i64 0))),(hi.map aX).getD (.c (.d (.int .i64 (q:Int))))])
   |none=>none
  |_=>none
 |.slice t x lo (some hi) (some mx)=>match P.underlying t with
  |some (.slice e)=>match P.info? e with
   |some i=>some (.iW (.Gy i.size) [aX x,(lo.map aX).getD (.c (.d (.int .i64 0))),aX hi,aX mx])
   |none=>none
  |_=>none
 |.fieldAddr s x f=>match P.underlying s with
  |some (.struct fs)=>match fQ P fs f with
   |some (off,size)=>if size=0 then none else some (.c7 (aX x) off)
   |none=>none
  |_=>none
 |.field s x f=>match P.underlying s with
  |some (.struct fs)=>match fs[f]?with
   |some fd=>(o4 P fd.type).map λk=>.Rs (aX x) fd.offset k
   |none=>none
  |_=>none
 |.indexAddr t x i=>match P.underlying t with
  |some (.slice e)=>(P.info? e).map λi'=>.bS i'.size none (aX x) (aX i)
  |some (.array n e)=>(P.info? e).map λi'=>.bS i'.size (some n) (aX x) (aX i)
  |_=>none
 |.index t x i=>match P.underlying t with
  |some .string=>some (.idxs (aX x) (aX i))
  |some (.array n e)=>match P.info? e,o4 P e with
   |some i',some k=>some (.BB n i'.size k (aX x) (aX i))
   |_,_=>none
  |_=>none
 |.extract x i=>some (.ext (aX x) i)
 |.makeMap _ none=>some (.iW .Iu [])
 |.lookup T x k comma=>match P.underlying T with
  |some (.map kT eT)=>match mQ P kT,zeroV P eT with
   |some ks,some z=>some (.iW (.XO ks z comma) [aX x,aX k])
   |_,_=>none
  |_=>none
 |.mapUpdate T x k v=>match P.underlying T with
  |some (.map kT _)=>(mQ P kT).map λks=>.iW (.Mt ks) [aX x,aX k,aX v]
  |_=>none
 |.insert T x k v=>match P.underlying T with
  |some (.map kT _)=>(mQ P kT).map λks=>.iW (.Mt ks) [aX x,aX k,aX v]
  |_=>none
 |.mapEntry T x k=>match P.underlying T with
  |some (.map kT eT)=>match mQ P kT,zeroV P eT with
   |some ks,some z=>some (.iW (.Mu ks z) [aX x,aX k])
   |_,_=>none
  |_=>none
 |.entryStore _ x j v=>some (.iW .Mv [aX x,aX j,aX v])
 |.call c=>match c.callee with
  |.builtin b=>pa P b c.argTypes c.args
  |.value (.func f)=>if jo P f then some (.bW f (c.args.toList.map aX))else none
  |.value x=>some (.fb (aX x) (c.args.toList.map aX))
  |.invoke _ _=>none
 |_=>none
def jq (ops:Array Oper):Option (Nat×Bool)->Option (Option (Nat×Bool))
 |none=>some none
 |some (j,w)=>match ops[j]?with
  |some o=>match o.dst with
   |some d=>some (some (d,w))
   |none=>none
  |none=>none
def Mx (k:Nat):Option Nat->Bool
 |some d=>decide (d<k)
 |none=>true
def oN (P:Program) (ops:Array Oper) (k:Nat) (o:Oper):Option bA:=
 match jG P o.op,jq ops o.guard with
 |some a,some g=>if Mx k o.dst=true then some ⟨o.dst,a,g⟩else none
 |_,_=>none
def ib (P:Program) (ops:Array Oper) (k:Nat):List Oper->Option (List bA)
 | []=>some []
 |o::r=>match oN P ops k o,ib P ops k r with
  |some a,some r'=>some (a::r')
  |_,_=>none
end Go.Jq
namespace Go.Jq
open Go
theorem addr_add (b o n:Nat):(Addr.add ⟨b,o,none⟩ n)=⟨b,o+n,none⟩:=by
 unfold Addr.add;split;·rename_i h;subst h;rfl
 ·rfl
theorem cell_of_row {w:World} {b:Nat} {arr:Array Value} {T:TypeId} {f:Nat×Nat} (h:w.heap[b]?=some (.cells arr T f)) (o:Nat):
 w.cell? ⟨b,o,none⟩=arr[o]?:=by simp[World.cell?,h]
theorem frozen_of_row {w:World} {b:Nat} {arr:Array Value} {T:TypeId} {f:Nat×Nat} (h:w.heap[b]?=some (.cells arr T f)) (hf:Bz arr.size f) {o:Nat} (ho:o<arr.size):
 w.frozen? ⟨b,o,none⟩=false:=by
 simp only[World.frozen?,h];rcases hf with h1|h1
 ·have:¬(f.1<=o/\o<f.2):=by omega
  simp only[Bool.and_eq_false_iff,decide_eq_false_iff_not];omega
 ·simp only[Bool.and_eq_false_iff,decide_eq_false_iff_not];omega
theorem bO {w:World} {b:Nat} {arr:Array Value} {T:TypeId} {f:Nat×Nat} (h:w.heap[b]?=some (.cells arr T f)):dc w b=some (T,arr.size):=by
 simp[dc,h]
theorem run_loadCellsFrom (P:Program) (w:World) (b:Nat):∀(n o i:Nat) (acc:Array Value) (us:List Value),
 us.length=n->(∀j u,us[j]?=some u->w.cell? ⟨b,o+i+j,none⟩=some u)->(loadCellsFrom ⟨b,o,none⟩ i n acc).run P w=.ok (acc++us.toArray) w
 |0,o,i,acc,us,hl,_=>by
  have:us=[]:=adH hl;subst this;simp[loadCellsFrom]
 |n+1,o,i,acc,us,hl,h=>by
  cases us with
  |nil=>simp at hl
  |cons u us=>
   have h0:=h 0 u rfl;simp only[Nat.add_zero]at h0;have ih:=run_loadCellsFrom P w b n o (i+1) (acc.push u) us (by simpa using hl) (λj u' hj=>by
    have:=h (j+1) u' (by simpa using hj);rw[<-this];congr 2;omega)
   simp only[loadCellsFrom,ac1,addr_add,run_load,h0,acZ,ih]
   congr 1
   apply Array.ext';simp
theorem run_loadCells (P:Program) (w:World) (b o:Nat) (us:List Value) (h:∀j u,us[j]?=some u->w.cell? ⟨b,o+j,none⟩=some u):
 (loadCells ⟨b,o,none⟩ us.length).run P w=.ok us.toArray w:=by
 have:=run_loadCellsFrom P w b us.length o 0 #[] us rfl (by simpa using h)
 simpa[loadCells]using this
structure xC (w w':World) (b:Nat) (qK:Array Value) (T:TypeId) (f:Nat×Nat):Prop where
 os:w'.os=w.os
 tape:w'.tape=w.tape
 output:w'.output=w.output
 size:w'.heap.size=w.heap.size
 other:∀k,k≠b->w'.heap[k]?=w.heap[k]?
 row:w'.heap[b]?=some (.cells qK T f)
def fR:List Value->Nat->List Value->List Value
 |l,_,[]=>l
 |l,o,v::vs=>fR (l.set o v) (o+1) vs
theorem kY:∀(vs l:List Value) (o:Nat),(fR l o vs).length=l.length
 | [],l,o=>rfl
 |v::vs,l,o=>by simp only[fR];rw[kY vs];simp
theorem sq:∀(vs l:List AV) (o:Nat),(putAt l o vs).length=l.length
 | [],l,o=>rfl
 |v::vs,l,o=>by simp only[putAt];rw[sq vs];simp
theorem lF {c:Ctx} {w:World}:∀(xs:List AV) (vs:List Value) (l:List AV) (us:List Value) (o:Nat),aU c w l us->aU c w xs vs->aU c w (putAt l o xs) (fR us o vs)
 | [],vs,l,us,o,h,h'=>by simp only[aU]at h';subst h';exact h
 |x::xs,vs,l,us,o,h,h'=>by
  simp only[aU]at h';obtain⟨v,mb,rfl,hv,h'⟩:=h';simp only[putAt,fR];exact lF xs mb _ _ _ (aU.set o h hv) h'
theorem kZ:∀(vs us rest:List Value) (o:Nat),o+vs.length<=us.length->fR (us++rest) o vs=fR us o vs++rest
 | [],us,rest,o,_=>rfl
 |v::vs,us,rest,o,h=>by
  simp only[ads]at h;simp only[fR];rw[List.set_append_left o v (by omega)];exact kZ vs _ rest (o+1) (by simp;omega)
theorem uw:∀(vs us rest:List Value),vs.length<=rest.length->∃mc,fR (us++rest) us.length vs=us++vs++mc/\mc.length=rest.length-vs.length
 | [],us,rest,_=>⟨rest,by simp[fR],by simp⟩
 |v::vs,us,[],h=>by simp at h
 |v::vs,us,r::rest,h=>by
  simp only[fR];rw[List.set_append_right us.length v (acV _)];simp only[Nat.sub_self,List.set_cons_zero];obtain⟨mc,h1,h2⟩:=uw vs (us++[v]) rest (by simpa using h);refine⟨mc,?_,by simp;omega⟩;rw[show us++v::rest=us++[v]++rest by simp,show us.length+1=(us++[v]).length by simp,h1];simp
theorem fD (P:Program) (b:Nat) (T:TypeId) (f:Nat×Nat):∀(vs:List Value) (w:World) (arr:Array Value) (o i:Nat),
 w.heap[b]?=some (.cells arr T f)->Bz arr.size f->(∀v∈vs,v.oneCell'=true)->o+i+vs.length<=arr.size->
 ∃w',(storeCells ⟨b,o,none⟩ vs i).run P w=.ok () w'/\xC w w' b (fR arr.toList (o+i) vs).toArray T f
 | [],w,arr,o,i,hb,_,_,_=>⟨w,by simp[storeCells],rfl,rfl,rfl,rfl,λ_ _=>rfl,by simpa[fR]using hb⟩
 |v::vs,w,arr,o,i,hb,hf,hv,hl=>by
  have bd:o+i<arr.size:=by simp at hl;omega
  have hc:w.cell? ⟨b,o+i,none⟩=some arr[o+i]:=by rw[cell_of_row hb];simp[bd]
  have hfz:=frozen_of_row hb hf bd;have rp:(w.setCell ⟨b,o+i,none⟩ v).heap[b]?=some (.cells (arr.setIfInBounds (o+i) v) T f):=by
   simp only[World.setCell,Array.getElem?_modify,if_true,hb,ady];simp
  obtain⟨w',hr,h⟩:=fD P b T f vs (w.setCell ⟨b,o+i,none⟩ v) (arr.setIfInBounds (o+i) v) o (i+1) rp (by simpa using hf)
   (λu hu=>hv u (adx _ hu)) (by simp at hl⊢;omega)
  refine⟨w',?_,?_⟩
  ·simp only[storeCells,ac1,addr_add,run_store P w _ v .plain (hv v adw),hc,hfz,acZ,ac5,if_false];exact hr
  ·refine⟨h.os,h.tape,h.output,h.size.trans (by simp),λk hk=>(h.other k hk).trans (RowKit.Below.heap_setCell _ _ _ _ hk),?_⟩;rw[h.row];simp only[fR,Nat.add_assoc,Array.toList_setIfInBounds]
 termination_by vs=>vs.length
def Ctx.bind (c:Ctx) (n:Nat) (s:gT):Ctx:={c with φ:=λi=>if i=n then s else c.φ i}
theorem Ctx.cr {c:Ctx} {n:Nat} {s:gT} {id:Nat} (h:id≠n):(c.bind n s).φ id=c.φ id:=by simp[Ctx.bind,h]
theorem Ctx.bind_eq {c:Ctx} {n:Nat} {s:gT}:(c.bind n s).φ n=s:=by simp[Ctx.bind]
theorem qb {c c':Ctx} {n:Nat} (hn:c.φ n=.free) (h:∀id,id≠n->c'.φ id=c.φ id):∀id,c.φ id≠.free->c'.φ id=c.φ id:=
 λid hid=>h id λe=>hid (e▸hn)
theorem J6.later {c c':Ctx} {w w':World} (hl:ia c c' w w') {id:Nat} {cells:List AV} (h:J6 c w id cells)
 (kQ:∀b,(c.φ id).bk=some b->w'.heap[b]?=w.heap[b]?/\¬c'.dm b):J6 c' w' id cells:=by
 rcases h with⟨h0,h1⟩|⟨b,arr,T,f,hb,hi,hw,hf,vs,rest,ha,hr⟩|⟨b,es,kv,hb,hi,hw,hf,hc,hr⟩;·exact .inl ⟨by rw[hl.ext id (by rw[h0];simp)];exact h0,h1⟩
 ·have hs:=kQ b (gT.gl hb);exact .inr (.inl ⟨b,arr,T,f,by rw[hl.ext id (by rw[hb];simp)];exact hb,hs.2,by rw[hs.1];exact hw,hf,vs,rest,ha,eZ hl cells vs hr⟩)
 ·have hs:=kQ b (gT.It hb);exact .inr (.inr ⟨b,es,kv,by rw[hl.ext id (by rw[hb];simp)];exact hb,hs.2,by rw[hs.1];exact hw,hf,hc,eZ hl _ _ hr⟩)
theorem MR.del {c:Ctx} {m:Mem} {w:World} (h:MR c m w) (id:Nat):MR c (aB m id) w where
 own:=λi cells hi=>by rw[eF]at hi;split at hi;· simp at hi
                      ·exact h.own i cells hi
 inj:=λi j b hi hj=>by
  rw[eF]at hi hj;split at hi;·simp at hi
  ·split at hj;·simp at hj
   ·exact h.inj i j b hi hj
 dm:=h.dm
 wX:=h.wX
theorem MR.My {c:Ctx} {m:Mem} {w:World} (h:MR c m w) {id:Nat} (hi:(ai m id).isSome):c.φ id≠.free:=by
 obtain⟨cells,hc⟩:=adv.1 hi;rcases h.own id cells hc with⟨h0,_⟩|⟨b,_,_,_,hb,_⟩|⟨b,_,_,hb,_⟩;·rw[h0];simp
 ·rw[hb];simp
 ·rw[hb];simp
theorem MR.iK {c:Ctx} {m:Mem} {w:World} (h:MR c m w) {b:Nat} (ho:gm c m b):b<w.heap.size:=by
 obtain⟨id,hid,hb⟩:=ho;obtain⟨cells,hc⟩:=adv.1 hid;have key:∀o,w.heap[b]?=some o->b<w.heap.size:=λo hw=>by
  rcases Nat.lt_or_ge b w.heap.size with h1|h1;·exact h1
  ·rw[Array.getElem?_eq_none h1]at hw;cases hw
 rcases h.own id cells hc with⟨h0,_⟩|⟨b',arr,T,f,fu,_,hw,_⟩|⟨b',es,kv,fu,_,hw,_⟩;·rw[h0]at hb;cases hb
 ·rw[fu]at hb;cases hb;exact key _ hw
 ·rw[fu]at hb;cases hb;exact key _ hw
structure js (w w':World) (arr:Array Value) (T:TypeId) (f:Nat×Nat):Prop where
 os:w'.os=w.os
 tape:w'.tape=w.tape
 output:w'.output=w.output
 size:w'.heap.size=w.heap.size+1
 old:∀k,k<w.heap.size->w'.heap[k]?=w.heap[k]?
 row:w'.heap[w.heap.size]?=some (.cells arr T f)
theorem fT {w w':World} {b:Nat} (h:w'.heap[b]?=w.heap[b]?):dc w' b=dc w b:=by simp[dc,h]
theorem rq {w:World} {b:Nat} {k:TypeId×Nat} (h:dc w b=some k):b<w.heap.size:=by
 rcases Nat.lt_or_ge b w.heap.size with h1|h1;·exact h1
 ·simp[dc,Array.getElem?_eq_none h1]at h
theorem js.rows {w w':World} {arr:Array Value} {T:TypeId} {f:Nat×Nat} (h:js w w' arr T f):∀b n,dc w b=some n->dc w' b=some n:=
 λb _ hn=>(fT (h.old b (rq hn))).trans hn
theorem js.later {c:Ctx} {m:Mem} {w w':World} {arr:Array Value} {T:TypeId} {f:Nat×Nat} (h:js w w' arr T f) (hm:MR c m w) {n:Nat} (hn:c.φ n=.free):
 ia c (c.bind n (.mP w.heap.size)) w w':=
 ⟨λ_ hb=>hb,λb hb=>h.old b (hm.dm b hb),qb hn λ_ hid=>Ctx.cr hid,h.rows⟩
theorem js.step {c:Ctx} {m:Mem} {w w':World} {arr:Array Value} {T:TypeId} {f:Nat×Nat} (h:js w w' arr T f) (n:Nat):
 Step (gm c m) c (c.bind n (.mP w.heap.size)) w w':=
 ⟨h.os,h.tape,h.output,by rw[h.size];omega,λk hk _=>h.old k hk,h.rows,λ_ hb=>hb,λ_ hb=>.inl hb⟩
theorem MR.new {c:Ctx} {m:Mem} {w w':World} {arr:Array Value} {T:TypeId} {f:Nat×Nat} (hm:MR c m w) (h:js w w' arr T f) {n:Nat} (hn:c.φ n=.free)
 (hf:Bz arr.size f) {cells:List AV} {vs rest:List Value} (ha:arr.toList=vs++rest) (hr:aU c w cells vs):
 MR (c.bind n (.mP w.heap.size)) (an m n cells) w' where
 own:=λid cs hid=>by
  have hl:=h.later hm hn;rw[bh]at hid;split at hid
  ·rename_i e;subst e;cases hid;exact .inr (.inl ⟨w.heap.size,arr,T,f,Ctx.bind_eq,λhi=>Nat.lt_irrefl _ (hm.dm _ hi),h.row,hf,vs,rest,ha,eZ hl _ _ hr⟩)
  ·refine(hm.own id cs hid).later hl λb hb=>⟨h.old b (hm.iK ⟨id,by rw[hid];rfl,hb⟩),λhi=>hm.sep hi ⟨id,by rw[hid];rfl,hb⟩⟩
 inj:=λi j b hi hj xD Ap=>by
  rw[bh]at hi hj;by_cases e1:n=i
  ·by_cases e2:n=j;·exact e1.symm.trans e2
   ·exfalso;subst e1;rw[Ctx.bind_eq]at xD;cases xD;rw[if_neg e2]at hj;rw[Ctx.cr (Ne.symm e2)]at Ap;exact Nat.lt_irrefl _ (hm.iK ⟨j,hj,Ap⟩)
  ·by_cases e2:n=j
   ·exfalso;subst e2;rw[Ctx.bind_eq]at Ap;cases Ap;rw[if_neg e1]at hi;rw[Ctx.cr (Ne.symm e1)]at xD;exact Nat.lt_irrefl _ (hm.iK ⟨i,hi,xD⟩)
   ·rw[if_neg e1]at hi;rw[if_neg e2]at hj;rw[Ctx.cr (Ne.symm e1)]at xD;rw[Ctx.cr (Ne.symm e2)]at Ap;exact hm.inj i j b hi hj xD Ap
 dm:=λb hb=>by rw[h.size];exact Nat.lt_succ_of_lt (hm.dm b hb)
 wX:=hm.lC (h.later hm hn).dm (h.later hm hn).same
theorem qc {c:Ctx} {m:Mem} {w:World} {n:Nat} {cells:List AV} {b:Nat} (h:gm (c.bind n (.mP w.heap.size)) (an m n cells) b):gm c m b\/w.heap.size<=b:=by
 obtain⟨id,hid,hb⟩:=h;rw[bh]at hid;by_cases e:n=id;·subst e;rw[Ctx.bind_eq]at hb;cases hb;exact .inr (acV _)
 ·rw[if_neg e]at hid;rw[Ctx.cr (Ne.symm e)]at hb;exact .inl ⟨id,hid,hb⟩
theorem dS (w:World) (arr:Array Value) (T:TypeId):js w (w.alloc (.cells arr T)) arr T (0,0):=
 ⟨rfl,rfl,rfl,by simp,λk hk=>RowKit.Below.heap_alloc w _ k hk,by simp only[World.alloc,Array.getElem?_push_size]⟩
theorem gh (n:Nat):Bz n (0,0):=.inl rfl
theorem xC.later {c:Ctx} {w w':World} {b:Nat} {arr qK:Array Value} {T:TypeId} {f:Nat×Nat} (h:xC w w' b qK T f)
 (hb:w.heap[b]?=some (.cells arr T f)) (hs:qK.size=arr.size) (hi:¬c.dm b):ia c c w w':=by
 refine⟨λ_ h=>h,λk hk=>h.other k λe=>hi (e▸hk),λ_ _=>rfl,λk n hn=>?_⟩;by_cases e:k=b;·subst e;rw[bO hb]at hn;rw[bO h.row,hs];exact hn
 ·rw[fT (h.other k e)];exact hn
theorem xC.step {c:Ctx} {m:Mem} {w w':World} {b:Nat} {arr qK:Array Value} {T:TypeId} {f:Nat×Nat} (h:xC w w' b qK T f)
 (hb:w.heap[b]?=some (.cells arr T f)) (hs:qK.size=arr.size) (ho:gm c m b):Step (gm c m) c c w w':=
 ⟨h.os,h.tape,h.output,by rw[h.size];exact acV _,λk _ hk=>h.other k λe=>hk (e▸ho),λk n hn=>by
  by_cases e:k=b;·subst e;rw[bO hb]at hn;rw[bO h.row,hs];exact hn
  ·rw[fT (h.other k e)];exact hn,λ_ h=>h,λ_ h=>.inl h⟩
theorem MR.put {c:Ctx} {m:Mem} {w w':World} {id b:Nat} {arr qK:Array Value} {T:TypeId} {f:Nat×Nat} {old cells:List AV} {vs rest:List Value} (hm:MR c m w)
 (hid:ai m id=some old) (eI:c.φ id=.mP b) (h:xC w w' b qK T f) (hb:w.heap[b]?=some (.cells arr T f)) (hs:qK.size=arr.size) (hi:¬c.dm b)
 (hf:Bz arr.size f) (ha:qK.toList=vs++rest) (hr:aU c w cells vs):MR c (an m id cells) w' where
 own:=λi cs gb=>by
  have hl:=h.later hb hs hi;rw[bh]at gb;split at gb
  ·rename_i e;subst e;cases gb;exact .inr (.inl ⟨b,qK,T,f,eI,hi,h.row,by rw[hs];exact hf,vs,rest,ha,eZ hl _ _ hr⟩)
  ·rename_i e;refine(hm.own i cs gb).later hl λb' fu=>⟨h.other b' λeb=>e ?_,λRv=>hm.sep Rv ⟨i,by rw[gb];rfl,fu⟩⟩;exact hm.inj id i b (by rw[hid];rfl) (by rw[gb];rfl) (gT.gl eI) (eb▸fu)
 inj:=λi j b' gb wC=>by
  rw[bh]at gb wC;refine hm.inj i j b' ?_ ?_
  ·split at gb;·rename_i e;subst e;rw[hid];rfl
   ·exact gb
  ·split at wC;·rename_i e;subst e;rw[hid];rfl
   ·exact wC
 dm:=λk hk=>by rw[h.size];exact hm.dm k hk
 wX:=hm.lC (h.later hb hs hi).dm (h.later hb hs hi).same
theorem qd {c:Ctx} {m:Mem} {id:Nat} {old cells:List AV} (hid:ai m id=some old) {b:Nat} (h:gm c (an m id cells) b):gm c m b:=by
 obtain⟨i,hi,hb⟩:=h;rw[bh]at hi;by_cases e:id=i;·subst e;exact⟨id,by rw[hid];rfl,hb⟩
 ·rw[if_neg e]at hi;exact⟨i,hi,hb⟩
theorem MR.again {c:Ctx} {m:Mem} {w:World} {id n:Nat} {cells:List AV} (hm:MR c m w) (hid:ai m id=some cells) (hn:c.φ n=.free) (s:gT) (hs:c.φ id=s):
 MR (c.bind n s) (an (aB m id) n cells) w where
 own:=λi cs hi=>by
  have hl:ia c (c.bind n s) w w:=⟨λ_ h=>h,λ_ _=>rfl,qb hn λ_ h=>Ctx.cr h,λ_ _ h=>h⟩;rw[bh]at hi;split at hi
  ·rename_i e;subst e;cases hi;have h:=hm.own id cells hid;unfold J6 at*;rw[Ctx.bind_eq];rw[hs]at h;rcases h with h|⟨b,arr,T,f,h1,h2,h3,h4,vs,rest,h5,h6⟩|⟨b,es,kv,h1,h2,h3,h4,h5,h6⟩;·exact .inl h
   ·exact .inr (.inl ⟨b,arr,T,f,h1,h2,h3,h4,vs,rest,h5,eZ hl _ _ h6⟩)
   ·exact .inr (.inr ⟨b,es,kv,h1,h2,h3,h4,h5,eZ hl _ _ h6⟩)
  ·rw[eF]at hi;split at hi;·simp at hi
   ·exact(hm.own i cs hi).later hl λb hb=>⟨rfl,λRv=>hm.sep Rv ⟨i,by rw[hi];rfl,hb⟩⟩
 inj:=λi j b hi hj xD Ap=>by
  rw[bh,eF]at hi hj;have lG:(ai m id).isSome:=by rw[hid];rfl
  by_cases e1:n=i
  ·by_cases e2:n=j;·exact e1.symm.trans e2
   ·exfalso;subst e1;rw[Ctx.bind_eq]at xD;rw[if_neg e2]at hj;rw[Ctx.cr (Ne.symm e2)]at Ap;by_cases e3:id=j;·rw[if_pos e3]at hj;simp at hj
    ·rw[if_neg e3]at hj;exact e3 (hm.inj id j b lG hj (by rw[hs];exact xD) Ap)
  ·by_cases e2:n=j
   ·exfalso;subst e2;rw[Ctx.bind_eq]at Ap;rw[if_neg e1]at hi;rw[Ctx.cr (Ne.symm e1)]at xD;by_cases e3:id=i;·rw[if_pos e3]at hi;simp at hi
    ·rw[if_neg e3]at hi;exact e3 (hm.inj id i b lG hi (by rw[hs];exact Ap) xD)
   ·rw[if_neg e1]at hi;rw[if_neg e2]at hj;rw[Ctx.cr (Ne.symm e1)]at xD;rw[Ctx.cr (Ne.symm e2)]at Ap;split at hi;·simp at hi
    ·split at hj;·simp at hj
     ·exact hm.inj i j b hi hj xD Ap
 dm:=hm.dm
 wX:=hm.wX
theorem Aq {c:Ctx} {m:Mem} {id n:Nat} {cells:List AV} (hid:(ai m id).isSome) {s:gT} (hs:c.φ id=s) {b:Nat} (h:gm (c.bind n s) (an (aB m id) n cells) b):gm c m b:=by
 obtain⟨i,hi,hb⟩:=h;rw[bh]at hi;by_cases e:n=i;·subst e;rw[Ctx.bind_eq]at hb;exact⟨id,hid,by rw[hs];exact hb⟩
 ·rw[if_neg e,eF]at hi;rw[Ctx.cr (Ne.symm e)]at hb;split at hi;·simp at hi
  ·exact⟨i,hi,hb⟩
theorem wY {c:Ctx} {m:Mem} {id b:Nat} (h:gm c (aB m id) b):gm c m b:=by
 obtain⟨i,hi,hb⟩:=h;rw[eF]at hi;split at hi;·simp at hi
 ·exact⟨i,hi,hb⟩
end Go.Jq
namespace Go.Jq
open Go
def dT (P:Program) (s:Sem Next) (c:Ctx) (m:Mem) (n:Nat) (w:World) (v:AV) (e:eX):Prop:=
 ∃r w' c',s.run P w=.ok r w'/\((∃u,r=.value u/\Rel c' w' v u)\/(r=.skip/\v=.any))/\MR c' (e.mem m n) w'/\Step (gm c m) c c' w w'/\
  (∀id,(id≠n\/e.next n=n)->c'.φ id=c.φ id)/\(∀b,gm c' (e.mem m n) b->gm c m b\/w.heap.size<=b)
section
variable{P:Program} {c:Ctx} {m:Mem} {n:Nat} {w:World} {t:Fr} {a:Act}
theorem bq {s:Sem Value} {u:Value} {v:AV} (hM:MR c m w) (hs:s.run P w=.ok u w) (hr:Rel c w v u):
 dT P (do pure (.value (<-s))) c m n w v .nil:=
 ⟨.value u,w,c,by simp[hs],.inl ⟨u,rfl,hr⟩,hM,Step.refl _ _ _,λ_ _=>rfl,λ_ h=>.inl h⟩
theorem DE {u:Value} {v:AV} (hM:MR c m w) (hr:Rel c w v u):dT P (pure (.value u)) c m n w v .nil:=
 ⟨.value u,w,c,by simp,.inl ⟨u,rfl,hr⟩,hM,Step.refl _ _ _,λ_ _=>rfl,λ_ h=>.inl h⟩
theorem pd {s:Sem Value} {u:Value} {v:AV} {w':World} {arr:Array Value} {T:TypeId} {f:Nat×Nat} {cells:List AV} {vs rest:List Value} (hM:MR c m w) (hn:c.φ n=.free)
 (hs:s.run P w=.ok u w') (h:js w w' arr T f) (hf:Bz arr.size f) (ha:arr.toList=vs++rest) (hr:aU c w cells vs)
 (hv:Rel (c.bind n (.mP w.heap.size)) w' v u):dT P (do pure (.value (<-s))) c m n w v (.new cells):=
 ⟨.value u,w',c.bind n (.mP w.heap.size),by simp[hs],.inl ⟨u,rfl,hv⟩,hM.new h hn hf ha hr,h.step n,λ_ h=>Ctx.cr (h.resolve_right (by simp[eX.next])),λ_ h=>qc h⟩
theorem Ar (v:Value):Rel c w (lE v) v:=by
 unfold lE;split<;>simp[Rel,du]
theorem fU:∀(vs:List Value),aU c w (vs.map lE) vs
 | []=>by simp[aU]
 |v::vs=>by simp only[ade,aU];exact⟨v,vs,rfl,Ar v,fU vs⟩
theorem sr (v:Value):Rel c w (DD v) v:=by
 unfold DD;split
 ·rename_i cs;simp only[Rel];exact⟨cs.toList,by simp,fU _⟩
 ·exact Ar v
theorem bx (hF:FR c w t a.tmps) (x:Operand):Rel c w (ev t (aX x)) (a.eval x):=by
 cases x with
 |tmp i=>exact hF i
 |const v=>exact sr v
 |global g=>simp[aX,ev,Rel]
 |func f=>simp only[aX,ev,Rel,Act.eval,aU];exact⟨[],by simp,rfl⟩
theorem qe (hF:FR c w t a.tmps):∀(xs:List Operand),aU c w ((xs.map aX).map (ev t)) (xs.map a.eval)
 | []=>by simp[aU]
 |x::xs=>by simp only[ade,aU];exact⟨_,_,rfl,bx hF x,qe hF xs⟩
theorem ux {x:AV} {v:Value} {cs:List AV} (h:Rel c w x v) (hc:cellsOf x=some cs):∃vs,v.cells=vs.toArray/\aU c w cs vs:=by
 cases x with
 |d x=>
  simp only[cellsOf,adh]at hc;subst hc;refine⟨[v],?_,by simp only[aU];exact⟨v,[],rfl,h,rfl⟩⟩;simp only[Rel]at h;cases x<;>simp only[du]at h
  case sl=>obtain⟨a,cap,rfl,_⟩:=h;rfl
  all_goals(subst h;rfl)
 |ptr id off=>
  simp only[cellsOf,adh]at hc;subst hc;refine⟨[v],?_,by simp only[aU];exact⟨v,[],rfl,h,rfl⟩⟩;simp only[Rel]at h;obtain⟨b,_,rfl⟩:=h;rfl
 |r8 id T=>
  simp only[cellsOf,adh]at hc;subst hc;refine⟨[v],?_,by simp only[aU];exact⟨v,[],rfl,h,rfl⟩⟩;simp only[Rel]at h;obtain⟨rfl,_⟩:=h;rfl
 |bj cells=>
  simp only[cellsOf,adh]at hc;subst hc;refine⟨[v],?_,by simp only[aU];exact⟨v,[],rfl,h,rfl⟩⟩;simp only[Rel]at h;obtain⟨b,o,_,rfl,_⟩:=h;rfl
 |sl id de off len=>
  simp only[cellsOf,adh]at hc;subst hc;refine⟨[v],?_,by simp only[aU];exact⟨v,[],rfl,h,rfl⟩⟩;simp only[Rel]at h;rcases h with⟨_,_,_,_,rfl⟩|⟨b,cap,n,_,rfl,_⟩<;>rfl
 |oZ id=>
  simp only[cellsOf,adh]at hc;subst hc;refine⟨[v],?_,by simp only[aU];exact⟨v,[],rfl,h,rfl⟩⟩;simp only[Rel]at h;obtain⟨b,_,rfl⟩:=h;rfl
 |ui z=>
  simp only[cellsOf,adh]at hc;subst hc;refine⟨[v],?_,by simp only[aU];exact⟨v,[],rfl,h,rfl⟩⟩;simp only[Rel]at h;obtain⟨a,cap,rfl,_⟩:=h;rfl
 |uh id T len=>
  simp only[cellsOf,adh]at hc;subst hc;refine⟨[v],?_,by simp only[aU];exact⟨v,[],rfl,h,rfl⟩⟩;simp only[Rel]at h;rcases h with⟨_,_,rfl⟩|⟨b,cap,n,_,rfl,_⟩<;>rfl
 |fn f cap=>
  simp only[cellsOf,adh]at hc;subst hc;refine⟨[v],?_,by simp only[aU];exact⟨v,[],rfl,h,rfl⟩⟩;simp only[Rel]at h;obtain⟨vs,rfl,_⟩:=h;rfl
 |agg cells=>
  simp only[cellsOf,adh]at hc;subst hc;simp only[Rel]at h;obtain⟨vs,rfl,h⟩:=h;exact⟨vs,rfl,h⟩
 |cu vs=>simp[cellsOf]at hc
 |any=>simp[cellsOf]at hc
theorem Rw {x:AV} {v:Value} (h:Rel c w x v) (hx:j9 x=true):v.oneCell'=true:=by
 cases x with
 |d x=>
  simp only[Rel]at h;cases x<;>simp only[du]at h
  case sl=>obtain⟨a,cap,rfl,_⟩:=h;rfl
  all_goals(subst h;rfl)
 |ptr id off=>simp only[Rel]at h;obtain⟨b,_,rfl⟩:=h;rfl
 |r8 id T=>simp only[Rel]at h;obtain⟨rfl,_⟩:=h;rfl
 |bj cells=>simp only[Rel]at h;obtain⟨b,o,_,rfl,_⟩:=h;rfl
 |sl id de off len=>simp only[Rel]at h;rcases h with⟨_,_,_,_,rfl⟩|⟨b,cap,n,_,rfl,_⟩<;>rfl
 |oZ id=>simp only[Rel]at h;obtain⟨b,_,rfl⟩:=h;rfl
 |ui z=>simp only[Rel]at h;obtain⟨a,cap,rfl,_⟩:=h;rfl
 |uh id T len=>simp only[Rel]at h;rcases h with⟨_,_,rfl⟩|⟨b,cap,n,_,rfl,_⟩<;>rfl
 |fn f cap=>simp only[Rel]at h;obtain⟨vs,rfl,_⟩:=h;rfl
 |agg cells=>simp[j9]at hx
 |cu vs=>simp[j9]at hx
 |any=>simp[j9]at hx
theorem pe {xs:List AV} {vs:List Value} (h:aU c w xs vs) (hx:xs.all j9=true):∀v∈vs,v.oneCell'=true:=by
 intro v hv;obtain⟨i,hi⟩:=List.getElem?_of_mem hv;have hl:=h.length;have bd:i<xs.length:=by
  have:=(List.getElem?_eq_some_iff.1 hi).1;omega
 obtain⟨u,hu,hr⟩:=h.get (i:=i) (x:=xs[i]) (by simp[bd]);rw[hi]at hu;cases hu;exact Rw hr (List.all_eq_true.1 hx _ (adt bd))
def wZ (c:Ctx) (w:World) (b o:Nat) (cells:List AV):Prop:=∀(i:Nat) (x:AV),cells[i]?=some x->∃u,w.cell? ⟨b,o+i,none⟩=some u/\Rel c w x u
theorem me {id b:Nat} {cells:List AV} (hM:MR c m w) (hid:ai m id=some cells) (eI:c.φ id=.mP b) (off:Nat):wZ c w b off (cells.drop off):=by
 intro i x hx;rcases hM.own id cells hid with⟨h0,_⟩|⟨b',arr,T,f,hb,_,hw,_,vs,rest,ha,hr⟩|⟨_,_,_,h0,_⟩;·rw[h0]at eI;cases eI
 ·rw[hb]at eI;cases eI;rw[List.getElem?_drop]at hx;obtain⟨v,hv,jH⟩:=hr.get hx;refine⟨v,?_,jH⟩;rw[cell_of_row hw,<-Array.getElem?_toList,ha,List.getElem?_append_left (List.getElem?_eq_some_iff.1 hv).1];exact hv
 ·rw[h0]at eI;cases eI
theorem su {b o:Nat} {cells:List DV} (h:c6 c.dm w cells b o):wZ c w b o (cells.map .d):=by
 intro i x hx;rw[List.getElem?_map]at hx;cases hc:cells[i]?with
 |none=>rw[hc]at hx;simp at hx
 |some d=>
  rw[hc]at hx;simp at hx;subst hx;obtain⟨u,hu,hr⟩:=h.get hc;exact⟨u,hu,by simp only[Rel];exact hr⟩
theorem nL {b o:Nat} {cells:List AV} (h:wZ c w b o cells) (k:Nat) (hk:k<=cells.length):
 ∃us:List Value,us.length=k/\(∀j u,us[j]?=some u->w.cell? ⟨b,o+j,none⟩=some u)/\aU c w (cells.take k) us:=by
 induction k with
 |zero=>exact⟨[],rfl,by simp,by simp[aU]⟩
 |succ k ih=>
  obtain⟨us,hl,hc,hr⟩:=ih (by omega);obtain⟨u,hu,jH⟩:=h k cells[k] (by simp);refine⟨us++[u],by simp[hl],λj v hj=>?_,?_⟩
  ·rcases Nat.lt_or_ge j us.length with h1|h1;·rw[List.getElem?_append_left h1]at hj;exact hc j v hj
   ·rw[List.getElem?_append_right h1]at hj;have:j=k:=by
     have:=(List.getElem?_eq_some_iff.1 hj).1;simp at this;omega
    subst this;rw[hl]at hj;simp at hj;rw[<-hj];exact hu
  ·rw[List.take_succ_eq_append_getElem (by omega)];exact hr.append (by simp only[aU];exact⟨u,[],rfl,jH,rfl⟩)
theorem DF {T:TypeId} {k:Option Nat} (h:o4 P T=some k):
 (∃i,P.info? T=some i/\k=some i.size/\∀w,(isAgg T).run P w=.ok true w)\/(k=none/\∀w,(isAgg T).run P w=.ok false w):=by
 unfold o4 at h;split at h
 ·rename_i i fs h1 h2;cases h;exact .inl ⟨i,h1,rfl,λw=>by simp[isAgg,underlying,h2]⟩
 ·rename_i i n e h1 h2;cases h;exact .inl ⟨i,h1,rfl,λw=>by simp[isAgg,underlying,h2]⟩
 ·rename_i i d hn1 Rx h1 h2;cases h;refine .inr ⟨rfl,λw=>?_⟩;simp only[isAgg,underlying,ac1,run_program,acZ,h2];cases d<;>first|rfl|(exact absurd rfl (hn1 _))|(exact absurd rfl (Rx _ _))|(exact absurd h2 (hn1 _ _ h1))|(exact absurd h2 (Rx _ _ _ h1))|(exact(hn1 _ _ h1 h2).elim)|(exact(Rx _ _ _ h1 h2).elim)
 ·cases h
theorem run_sizeOf {T:TypeId} {i:TypeInfo} (h:P.info? T=some i):(sizeOf T).run P w=.ok i.size w:=by
 simp[sizeOf,typeInfo,h]
theorem pf {T:TypeId} {k:Option Nat} (hk:o4 P T=some k) {b o:Nat} {cells:List AV} (h:wZ c w b o cells) {v:AV} (hv:aP k cells=some v):
 ∃u,(loadVar T ⟨b,o,none⟩).run P w=.ok u w/\Rel c w v u:=by
 rcases DF hk with⟨i,hi,rfl,mR⟩|⟨rfl,mR⟩
 ·simp only[aP]at hv;split at hv
  ·rename_i hle;cases hv;obtain⟨us,hl,hc,hr⟩:=nL h i.size hle;refine⟨.agg us.toArray,?_,by simp only[Rel];exact⟨us,rfl,hr⟩⟩;have hlc:=run_loadCells P w b o us hc;rw[hl]at hlc;simp only[loadVar,ac1,mR,acZ,if_true,run_sizeOf hi,hlc,ac0]
  ·cases hv
 ·simp only[aP]at hv;obtain⟨u,hu,hr⟩:=h 0 v hv;refine⟨u,?_,hr⟩;simp only[Nat.add_zero]at hu;simp only[loadVar,ac1,mR,acZ,run_load,hu,ac5,if_false]
theorem J9 {T:TypeId} {k:Option Nat} {x:Operand} (hk:o4 P T=some k) (hF:FR c w t a.tmps) (hM:MR c m w) {v:AV} {e:eX}
 (he:aW (.load k (aX x)) t m n=some (v,e)):dT P (do pure (.value (<-Instr.loadAt T (a.eval x)))) c m n w v e:=by
 have hx:=bx hF x;simp only[aW]at he;split at he
 ·rename_i id off mf;rw[mf]at hx;simp only[Rel]at hx;obtain⟨b,hb,hv⟩:=hx;split at he
  ·rename_i cs b9;rw[adf]at he;obtain⟨v',hl,he⟩:=he;cases he;obtain⟨u,hu,hr⟩:=pf hk (me hM b9 hb off) hl;exact bq hM (by simp only[Instr.loadAt,hv,Instr.sureAddr,ac1,ac0,acZ,hu]) hr
  ·cases he
 ·rename_i cs mf;rw[mf]at hx;simp only[Rel]at hx;obtain⟨b,o,hb,hv,hc⟩:=hx;rw[adf]at he;obtain⟨v',hl,he⟩:=he;cases he;obtain⟨u,hu,hr⟩:=pf hk (su hc) hl;exact bq hM (by simp only[Instr.loadAt,hv,Instr.sureAddr,ac1,ac0,acZ,hu]) hr
 ·cases he
theorem GA {T:TypeId} {i:TypeInfo} {x y:Operand} (hi:P.info? T=some i) (hF:FR c w t a.tmps) (hM:MR c m w) {v:AV} {e:eX}
 (he:aW (.store i.size (aX x) (aX y)) t m n=some (v,e)):dT P (do Instr.storeAt T (a.eval x) (a.eval y);pure .skip) c m n w v e:=by
 have hx:=bx hF x;have hy:=bx hF y;simp only[aW]at he;split at he
 ·rename_i id off vs mf b9;rw[mf]at hx;obtain⟨us,wD,nH⟩:=ux hy b9;simp only[Rel]at hx;obtain⟨b,hb,hv⟩:=hx;split at he
  ·rename_i cs hm;split at he
   ·rename_i cy;obtain⟨h1,h2,h3⟩:=cy;cases he;rcases hM.own id cs hm with⟨h0,_⟩|⟨b',arr,T',f,fu,gx,hw,hf,mb,rest,ha,hr⟩|⟨_,_,_,h0,_⟩
    rotate_left 2
    ·rw[h0]at hb;cases hb
    ·rw[h0]at hb;cases hb
    ·rw[fu]at hb;cases hb;have hlen:=hr.length;have acJ:=nH.length;have gU:arr.size=mb.length+rest.length:=by rw[<-Array.length_toList,ha,adk]
     obtain⟨w',dD,uk⟩:=fD P b T' f us w arr off 0 hw hf (pe nH h2) (by omega);have hs:(fR arr.toList (off+0) us).toArray.size=arr.size:=by simp[kY]
     refine⟨.skip,w',c,?_,.inr ⟨rfl,rfl⟩,?_,uk.step hw hs ⟨id,by rw[hm];rfl,gT.gl fu⟩,λ_ _=>rfl,λb hb=>.inl (qd hm hb)⟩
     ·have h4:us.length=i.size:=by omega
      simp only[Instr.storeAt,hv,Instr.sureAddr,storeVar,ac1,ac0,acZ,run_sizeOf hi,wD];simp[h4,dD]
     ·refine hM.put hm fu uk hw hs gx hf (vs:=fR mb off us) (rest:=rest) ?_ (lF vs us cs mb off hr nH);simp only[ha,Nat.add_zero];rw[kZ us mb rest off (by omega)]
   ·cases he
  ·cases he
 ·cases he
theorem MR.Wd {c:Ctx} {m:Mem} {w:World} {n:Nat} {z z':List AV} (hM:MR c (an m n z) w) (h:J6 c w n z'):MR c (an m n z') w where
 own:=λid cs hid=>by
  rw[bh]at hid;split at hid;·rename_i e;subst e;cases hid;exact h
  ·rename_i e;exact hM.own id cs (by rw[bh,if_neg e];exact hid)
 inj:=λi j b hi hj=>by
  have key:∀i,(ai (an m n z') i).isSome->(ai (an m n z) i).isSome:=λi h=>by
   rw[bh]at h⊢;split at h;·rename_i e;rw[if_pos e];rfl
   ·rename_i e;rw[if_neg e];exact h
  exact hM.inj i j b (key i hi) (key j hj)
 dm:=hM.dm
 wX:=hM.wX
theorem GB {T:TypeId} {z:List AV} (hz:zeroOf P T=some z) (hM:MR c m w) (hn:c.φ n=.free):
 dT P (do pure (.value (<-Instr.alloc T true (.tuple #[])))) c m n w (.ptr n 0) (.new (o8 n (Ao T z))):=by
 unfold zeroOf at hz;split at hz
 ·rename_i i hi;split at hz
  ·rename_i zv DG;cases hz;have ep:=dS w zv.cells T;have dD:(Instr.alloc T true (.tuple #[])).run P w=.ok (.pointer (some ⟨w.heap.size,0,none⟩)) (w.alloc (.cells zv.cells T)):=by
    simp[Instr.alloc,zeroValue,typeInfo,hi,DG,newVar,newRow]
   have xE:=hM.new (cells:=zv.cells.toList.map lE) ep hn (gh _) (vs:=zv.cells.toList) (rest:=[]) (by simp) (fU _);refine⟨.value (.pointer (some ⟨w.heap.size,0,none⟩)),w.alloc (.cells zv.cells T),c.bind n (.mP w.heap.size),by simp[dD],.inl ⟨_,rfl,by simp only[Rel];exact⟨w.heap.size,Ctx.bind_eq,rfl⟩⟩,?_,ep.step n,λ_ h=>Ctx.cr (h.resolve_right (by simp[eX.next])),λ_ h=>qc h⟩;show MR _ (an m n (o8 n (Ao T (zv.cells.toList.map lE)))) _;refine xE.Wd ?_
   have kQ:o8 n (Ao T (zv.cells.toList.map lE))=zv.cells.toList.map lE\/(zv.cells.toList.map lE=[.d .lA,.d .cE]/\o8 n (Ao T (zv.cells.toList.map lE))=[.r8 n T,.d .cE]):=by
    unfold Ao;split;·rename_i h;exact .inr ⟨h,rfl⟩
    ·refine .inl ?_;unfold o8;split
     ·rename_i id T' r h;cases hl:zv.cells.toList with
      |nil=>rw[hl]at h;cases h
      |cons v l=>
       rw[hl]at h;simp only[ade,List.cons.injEq]at h;have:=h.1;unfold lE at this
       repeat' split at this
       all_goals cases this
     ·rfl
   rcases kQ with h|⟨h1,h2⟩
   ·rw[h];exact xE.own n _ (by rw[bh,if_pos rfl])
   ·rw[h2];have hr:aU c w (zv.cells.toList.map lE) zv.cells.toList:=fU _;rw[h1]at hr;simp only[aU,Rel,du]at hr;obtain⟨v1,r1,e1,rfl,v2,r2,rfl,rfl,rfl⟩:=hr;refine .inr (.inl ⟨w.heap.size,zv.cells,T,(0,0),Ctx.bind_eq,λhi=>Nat.lt_irrefl _ (hM.dm _ hi),ep.row,gh _,[.pointer none,.slice none 0 0],[],by rw[e1];rfl,?_⟩);simp only[aU,Rel,du];refine⟨_,_,rfl,⟨rfl,w.heap.size,Ctx.bind_eq,?_⟩,_,_,rfl,rfl,rfl⟩;rw[bO ep.row];have gU:zv.cells.size=2:=by rw[<-Array.length_toList,e1];rfl
    rw[gU]
  ·cases hz
 ·cases hz
theorem Mz {T:TypeId} {x:Operand} (hF:FR c w t a.tmps) (hM:MR c m w) (hn:c.φ n=.free) {cs:List AV} (b9:cellsOf (ev t (aX x))=some cs):
 dT P (do pure (.value (<-Instr.box T (a.eval x)))) c m n w (.ptr n 0) (.new cs):=by
 obtain⟨vs,xF,hr⟩:=ux (bx hF x) b9;refine pd (u:=.pointer (some ⟨w.heap.size,0,none⟩)) hM hn ?_ (dS w (a.eval x).cells T) (gh _) (vs:=vs) (rest:=[]) (by simp[xF]) hr
  (by simp only[Rel];exact⟨w.heap.size,Ctx.bind_eq,rfl⟩)
 simp[Instr.box,newVar,newRow]
end
end Go.Jq
namespace Go.Jq
open Go
section
variable{P:Program} {c:Ctx} {m:Mem} {n:Nat} {w:World} {t:Fr} {a:Act}
theorem GC (vs:List Value):∀(cs:Array Value) (off j:Nat),
 (vs.zipIdx j).foldl (λcs (p:Value×Nat)=>cs.setIfInBounds (off+p.2) p.1) cs=(fR cs.toList (off+j) vs).toArray:=by
 induction vs with
 |nil=>intro cs off j;simp[fR]
 |cons v vs ih=>
  intro cs off j;simp only[List.zipIdx_cons,adB,fR];rw[ih,Array.toList_setIfInBounds,Nat.add_assoc]
theorem MA (cs:Array Value) (off:Nat) (vs:List Value):
 vs.toArray.zipIdx.foldl (λcs (c,j)=>cs.setIfInBounds (off+j) c) cs=(fR cs.toList off vs).toArray:=by
 rw[<-Array.foldl_toList];simp only[Array.toList_zipIdx];exact GC vs cs off 0
inductive xG (c:Ctx) (w:World) (place:Nat->Option (Nat×Nat)):List (Nat×Nat×AV)->List (Nat×Value)->Prop where
 |nil:xG c w place [] []
 |cons {i off size:Nat} {x:AV} {v:Value} {ps:List (Nat×Nat×AV)} {vs:List (Nat×Value)} (hp:place i=some (off,size)) (hx:Rel c w x v) (h:xG c w place ps vs):
  xG c w place ((off,size,x)::ps) ((i,v)::vs)
theorem qf (hF:FR c w t a.tmps) {place:Nat->Option (Nat×Nat)}:∀(ps:List (Nat×Operand)) {qs:List (Nat×Nat×cR)},partsOf place ps=some qs->
 xG c w place (nK t qs) (ps.map λp=>(p.1,a.eval p.2))
 | [],qs,h=>by simp only[partsOf,adh]at h;subst h;exact .nil
 |(i,x)::ps,qs,h=>by
  simp only[partsOf]at h;split at h
  ·rename_i off size r' h1 h2;cases h;exact .cons h1 (bx hF x) (qf hF ps h2)
  ·cases h
theorem ru {place:Nat->Option (Nat×Nat)} {ps:List (Nat×Nat×AV)} {vs:List (Nat×Value)} (hp:xG c w place ps vs):
 ∀{cs:List AV} {us:List Value} {nM:List AV},aU c w cs us->qY cs ps=some nM->∃Gm,Instr.fill place us.toArray vs=some Gm.toArray/\aU c w nM Gm:=by
 induction hp with
 |nil=>intro cs us nM hr h;simp only[qY,adh]at h;subst h;exact⟨us,rfl,hr⟩
 |cons rv hx _ ih=>
  intro cs us nM hr h;simp only[qY]at h;split at h
  ·rename_i mb hc;split at h
   ·rename_i cy;obtain⟨h1,h2⟩:=cy;obtain⟨ws,TB,nH⟩:=ux hx hc;obtain⟨Gm,hf,Ry⟩:=ih (lF mb ws cs us _ hr nH) h;refine⟨Gm,?_,Ry⟩;have Q5:=nH.length;have Dx:=hr.length;simp only[Instr.fill,rv,TB];rw[if_neg,MA];·exact hf
    ·simp;omega
   ·cases h
  ·cases h
theorem ry {z:List AV} {us:List Value} (h:aU c w z us) (k:Nat) (hz:k=0\/z.length≠0):
 aU c w ((ac7 k).map λi=>z.getD (i%z.length) .any) ((ac7 k).map λi=>us.toArray[i%us.length]!):=by
 have hl:=h.length;refine aU.o6 (by simp) λi x v hx hv=>?_;rw[List.getElem?_map]at hx hv;by_cases hi:i<k
 ·simp only[List.getElem?_range hi,ady,adh]at hx hv;have bd:i%z.length<z.length:=Nat.mod_lt _ (by omega);obtain⟨u,hu,hr⟩:=h.get (i:=i%z.length) (x:=z[i%z.length]) (by simp[bd]);rw[hl]at hv;have h1:us.toArray[i%z.length]! =u:=by
   rw[Array.getElem!_eq_getD,Array.getD_eq_getD_getElem?,List.getElem?_toArray,hu];rfl
  rw[h1]at hv;subst hv;rw[<-hx];simpa[bd]using hr
 ·rw[List.getElem?_eq_none (by simpa using Nat.le_of_not_lt hi)]at hx;simp at hx
theorem pg {T:TypeId} {z:List AV} (hz:zeroOf P T=some z):∃zv:Value,(zeroValue T).run P w=.ok zv w/\z=zv.cells.toList.map lE:=by
 unfold zeroOf at hz;split at hz
 ·rename_i i hi;split at hz
  ·rename_i zv DG;cases hz;exact⟨zv,by simp[zeroValue,typeInfo,hi,DG],rfl⟩
  ·cases hz
 ·cases hz
theorem run_places {fs:List Field} (h:∀f∈fs,(P.info? f.type).isSome):
 (fs.mapM λf=>do pure (f.offset,<-sizeOf f.type):Sem (List (Nat×Nat))).run P w=.ok (fs.map λf=>(f.offset,((P.info? f.type).map (·.size)).getD 0)) w:=by
 induction fs with
 |nil=>simp
 |cons f fs ih=>
  obtain⟨i,hi⟩:=adv.1 (h f adw);have:=ih λg hg=>h g (adx _ hg);simp only[List.mapM_cons,ac1,run_sizeOf hi,acZ,ac0,this,ade,hi,ady,adE]
theorem GD {T:TypeId} {ps:Array (Nat×Operand)} {ao:im} (hc:jG P (.build T ps)=some ao) (hF:FR c w t a.tmps) (hM:MR c m w) {v:AV} {e:eX}
 (he:aW ao t m n=some (v,e)):dT P (do pure (.value (<-Instr.build T (ps.map λ(i,x)=>(i,a.eval x))))) c m n w v e:=by
 simp only[jG]at hc;split at hc
 ·rename_i fs z hu hz;split at hc
  ·rename_i ph;rw[adf]at hc;obtain⟨qs,hq,rfl⟩:=hc;simp only[aW,adf]at he;obtain⟨cs,qZ,he⟩:=he;cases he;obtain⟨zv,DG,rfl⟩:=pg (w:=w) hz;have rv:∀i,fQ P fs i=(fs.map λf=>(f.offset,((P.info? f.type).map (·.size)).getD 0))[i]?:=by
    intro i;unfold fQ;rw[Array.getElem?_map];cases Gn:fs[i]?with
    |none=>simp
    |some fd=>
     have:=Array.all_eq_true_iff_forall_mem.1 ph fd (Array.mem_of_getElem? Gn);obtain⟨i',gb⟩:=adv.1 this;simp[gb]
   obtain⟨Gm,hf,hr⟩:=ru (qf hF ps.toList hq) (us:=zv.cells.toList) (fU _) qZ;have abn:fQ P fs=λi=>(fs.map λf=>(f.offset,((P.info? f.type).map (·.size)).getD 0))[i]?:=funext rv;rw[abn]at hf;refine bq (u:=.agg Gm.toArray) hM ?_ (by simp only[Rel];exact⟨Gm,rfl,hr⟩);have abo:(fs.mapM λf=>do pure (f.offset,<-sizeOf f.type):Sem (Array (Nat×Nat))).run P w=.ok (fs.map λf=>(f.offset,((P.info? f.type).map (·.size)).getD 0)) w:=by
    have:=run_places (P:=P) (w:=w) (fs:=fs.toList) λf hf=>Array.all_eq_true_iff_forall_mem.1 ph f (by simpa using hf);rw[<-Array.toArray_toList (xs:=fs)];rw[List.mapM_toArray];simp only[Sem.run_map,this,acZ]
    congr 1
    exact Array.ext' (by simp)
   simp only[Instr.build,ac1,DG,acZ,underlying,run_program,hu,abo,ac0];have hm:(Array.map (λx=>(x.fst,a.eval x.snd)) ps).toList=ps.toList.map λp=>(p.1,a.eval p.2):=by simp
   simp only[Array.toArray_toList]at hf;simp only[hm,hf,ac0]
  ·cases hc
 ·rename_i len e' z hu hz;split at hc
  ·rename_i i hi;rw[adf]at hc;obtain⟨qs,hq,rfl⟩:=hc;simp only[aW,adf]at he;obtain⟨cs,qZ,he⟩:=he;cases he;obtain⟨zv,DG,rfl⟩:=pg (w:=w) hz;obtain⟨Gm,hf,hr⟩:=ru (qf hF ps.toList hq) (us:=zv.cells.toList) (fU _) qZ;refine bq (u:=.agg Gm.toArray) hM ?_ (by simp only[Rel];exact⟨Gm,rfl,hr⟩);simp only[Instr.build,ac1,DG,acZ,underlying,run_program,hu,run_sizeOf hi,ac0];have hm:(Array.map (λx=>(x.fst,a.eval x.snd)) ps).toList=ps.toList.map λp=>(p.1,a.eval p.2):=by simp
   simp only[Array.toArray_toList]at hf;simp only[hm,hf,ac0]
  ·cases hc
 ·cases hc
theorem DH {T len:Nat} {ps:Array (Nat×Operand)} {ao:im} (hc:jG P (.buildSlice T len ps)=some ao) (hF:FR c w t a.tmps) (hM:MR c m w) (hn:c.φ n=.free) {v:AV} {e:eX}
 (he:aW ao t m n=some (v,e)):dT P (do pure (.value (<-Instr.buildSlice T len (ps.map λ(i,x)=>(i,a.eval x))))) c m n w v e:=by
 simp only[jG]at hc;split at hc
 ·rename_i el hu;split at hc
  ·rename_i i z hi hz;split at hc
   ·rename_i cy;obtain⟨XQ,hle⟩:=cy;rw[adf]at hc;obtain⟨qs,hq,rfl⟩:=hc;simp only[aW,adf]at he;obtain⟨cs,qZ,he⟩:=he;cases he;obtain⟨zv,DG,Yw⟩:=pg (w:=w) hz;have TC:aU c w z zv.cells.toList:=by rw[Yw];exact fU _
    have qL:=TC.length;have Yx:len*i.size=0\/z.length≠0:=by
     rcases Nat.eq_zero_or_pos (len*i.size)with h|h;·exact .inl h
     ·right;intro h0;rw[h0]at XQ;rw[<-XQ]at h;simp at h
    obtain⟨Gm,hf,hr⟩:=ru (qf hF ps.toList hq) (ry TC (len*i.size) Yx) qZ;have acB:Gm.length=cs.length:=hr.length;have nN:cs.length=len*i.size:=by
     have:∀(qs:List (Nat×Nat×AV)) (cs nM:List AV),qY cs qs=some nM->nM.length=cs.length:=by
      intro qs;induction qs with
      |nil=>intro cs nM h;simp only[qY,adh]at h;rw[h]
      |cons p qs ih=>
       obtain⟨o,s,x⟩:=p;intro cs nM h;simp only[qY]at h;split at h
       ·split at h;·rw[ih _ _ h,sq]
        ·cases h
       ·cases h
     rw[this _ _ _ qZ];simp
    refine pd (u:=.slice (some ⟨w.heap.size,0,none⟩) len len) hM hn ?_ (dS w Gm.toArray el) (gh _) (vs:=Gm) (rest:=[]) (by simp) hr ?_
    ·have hm:(Array.map (λx=>(x.fst,a.eval x.snd)) ps).toList=ps.toList.map λp=>(p.1,a.eval p.2):=by simp
     simp only[Instr.buildSlice,ac1,underlying,run_program,acZ,hu,ac0,run_sizeOf hi];rw[if_neg (by omega)];by_cases h0:len*i.size=0
     ·rw[if_pos h0];rw[h0]at hf;simp only[ac1,ac0,acZ,h0,show Array.range 0=#[] from rfl,Array.map_empty]
      simp only[List.range_zero,adu]at hf;simp only[hm,hf,ac1,newRow,run_newObj,acZ,ac0,World.alloc_eq]
     ·rw[if_neg h0];have abp:((Array.range (len*i.size)).map λx=>zv.cells[x%zv.cells.size]!)=((ac7 (len*i.size)).map λi=>zv.cells.toList.toArray[i%zv.cells.toList.length]!).toArray:=by
       apply Array.ext';simp only[Array.toList_map,Array.toList_range,Array.toArray_toList,Array.length_toList]
      simp only[ac1,DG,ac0,acZ,abp,hm,hf,newRow,run_newObj,World.alloc_eq]
    ·simp only[Rel];refine .inr ⟨w.heap.size,len,(el,len*i.size),Ctx.bind_eq,rfl,acV _,?_,by omega⟩;rw[bO (dS w Gm.toArray el).row];simp;omega
   ·cases hc
  ·cases hc
 ·cases hc
end
@[reducible]def aq (n:Int):AV:=.d (.int .i64 n)
@[reducible]def cX (n:Int):AV:=.d (.int .u64 n)
end Go.Jq
namespace Go.Jq
open Go
section
variable{P:Program} {c:Ctx} {m:Mem} {n:Nat} {w:World} {t:Fr} {a:Act}
theorem mT (k:IntKind) (x:Int):Rel c w (lD k x) (.int k (k.wrap x)):=by simp[lD,Rel,du]
theorem gV (k:IntKind) (x:Int):Rel c w (.d (.int k x)) (.int k x):=by simp[Rel,du]
theorem iX (b:Bool):Rel c w (dq b) (.bool b):=by simp[dq,Rel,du]
theorem w2 (s:List UInt8):Rel c w (.d (.str s)) (.string ⟨s.toArray⟩):=by simp[Rel,du]
theorem cA {k:IntKind} {x:Int} {v:Value} (h:Rel c w (.d (.int k x)) v):v=.int k x:=by simpa[Rel,du]using h
theorem eJ {x:Bool} {v:Value} (h:Rel c w (.d (.bool x)) v):v=.bool x:=by simpa[Rel,du]using h
theorem e7 {x:List UInt8} {v:Value} (h:Rel c w (.d (.str x)) v):v=.string ⟨x.toArray⟩:=by simpa[Rel,du]using h
theorem iY {v:Value} (h:Rel c w (.d .cE) v):v=.slice none 0 0:=by simpa[Rel,du]using h
theorem jN {v:Value} (h:Rel c w (.d .lA) v):v=.pointer none:=by simpa[Rel,du]using h
theorem qg {v:Value} (h:Rel c w (.d .Mb) v):v=.nilFunc:=by simpa[Rel,du]using h
theorem qh {id off:Nat} {v:Value} (h:Rel c w (.ptr id off) v):∃b,c.φ id=.mP b/\v=.pointer (some ⟨b,off,none⟩):=by simpa[Rel]using h
theorem pj {cs:List DV} {v:Value} (h:Rel c w (.bj cs) v):∃b o,c.dm b/\v=.pointer (some ⟨b,o,none⟩)/\c6 c.dm w cs b o:=by simpa[Rel]using h
theorem xH {f:Nat} {cs:List AV} {v:Value} (h:Rel c w (.fn f cs) v):∃vs,v=.func (.func f) #[] vs.toArray/\aU c w cs vs:=by simpa[Rel]using h
theorem mg {cs:List AV} {v:Value} (h:Rel c w (.agg cs) v):∃vs,v=.agg vs.toArray/\aU c w cs vs:=by simpa[Rel]using h
theorem Rz {cs:List AV} {v:Value} (h:Rel c w (.cu cs) v):∃vs,v=.tuple vs.toArray/\aU c w cs vs:=by simpa[Rel]using h
theorem Iw {x:Operand} (hF:FR c w t a.tmps) (hM:MR c m w):dT P (pure (.value (a.eval x))) c m n w (ev t (aX x)) .nil:=
 DE hM (bx hF x)
theorem Ka {x y z:Operand} (hF:FR c w t a.tmps) (hM:MR c m w) {v:AV} {e:eX} (he:aW (.pick (aX x) (aX y) (aX z)) t m n=some (v,e)):
 dT P (do pure (.value (if<-asBool (a.eval x)then a.eval y else a.eval z))) c m n w v e:=by
 have hx:=bx hF x;simp only[aW]at he;split at he
 ·rename_i b mf;rw[mf]at hx;cases he;have hb:=eJ hx;refine⟨.value (if b=true then a.eval y else a.eval z),w,c,by simp[hb,asBool],.inl ⟨_,rfl,?_⟩,hM,Step.refl _ _ _,λ_ _=>rfl,λ_ h=>.inl h⟩;cases b;·exact bx hF z
  ·exact bx hF y
 ·cases he
theorem GF {x:Operand} (hF:FR c w t a.tmps) {v:AV} {e:eX} (he:aW (.gu (aX x)) t m n=some (v,e)):
 ∃u,Rel c w v u/\e=.nil/\a.eval x=u/\((∃ad,u=.pointer (some ad))\/∃f cs,u=.func (.func f) #[] cs):=by
 have hx:=bx hF x;simp only[aW]at he;split at he
 ·rename_i id off mf;rw[mf]at hx;cases he;obtain⟨b,_,hv⟩:=qh hx;exact⟨_,hx,rfl,rfl,.inl ⟨_,hv⟩⟩
 ·rename_i cs mf;rw[mf]at hx;cases he;obtain⟨b,o,_,hv,_⟩:=pj hx;exact⟨_,hx,rfl,rfl,.inl ⟨_,hv⟩⟩
 ·rename_i f cs mf;rw[mf]at hx;cases he;obtain⟨vs,hv,_⟩:=xH hx;exact⟨_,hx,rfl,rfl,.inr ⟨_,_,hv⟩⟩
 ·cases he
theorem oO (op:BinOp) (T:TypeId) (x y:Operand) (k k':IntKind) (p q:Int):(eqGuard op T x y (.int k p) (.int k' q)).run P w=.ok () w:=by
 unfold eqGuard;cases op<;>rfl
theorem wE (op:BinOp) (T:TypeId) (x y:Operand) (p q:ByteArray):(eqGuard op T x y (.string p) (.string q)).run P w=.ok () w:=by
 unfold eqGuard;cases op<;>rfl
theorem mU (op:BinOp) (T:TypeId) (x y:Operand) (p q:Bool):(eqGuard op T x y (.bool p) (.bool q)).run P w=.ok () w:=by
 unfold eqGuard;cases op<;>rfl
theorem Kb {op:BinOp} {k yk:IntKind} {p q:Int} {v:AV} (h:XP op k p q=some v):∃u,(Op.shift op k p yk q).run P w=.ok u w/\Rel c w v u:=by
 unfold XP at h;split at h;·cases h
 ·rename_i hq;cases op<;>simp only[reduceCtorEq]at h<;>cases h;·exact⟨_,by simp only[Op.shift,if_neg hq,ac0],mT _ _⟩
  ·exact⟨_,by simp only[Op.shift,if_neg hq,ac0],gV _ _⟩
theorem MB {op:BinOp} {T:TypeId} {k:IntKind} {p q:Int} {v:AV} (wF:¬(op=.shl\/op=.shr)) (h:o0 op k p q=some v):
 ∃u,(binOp op T (.int k p) (.int k q)).run P w=.ok u w/\Rel c w v u:=by
 cases op<;>simp only[o0,reduceCtorEq,adh]at h
 case quo=>
  split at h;·cases h
  ·rename_i hq;cases h;exact⟨_,by simp only[binOp,ne_eq,not_true_eq_false,if_false,Op.intDiv,if_neg hq,ac0],mT _ _⟩
 case rem=>
  split at h;·cases h
  ·rename_i hq;cases h;exact⟨_,by simp only[binOp,ne_eq,not_true_eq_false,if_false,Op.intDiv,if_neg hq,ac0],gV _ _⟩
 all_goals
  subst h
  first
   |refine⟨_,?_,mT _ _⟩
   |refine⟨_,?_,gV _ _⟩
   |refine⟨_,?_,iX _⟩
  simp only[binOp,ne_eq,not_true_eq_false,if_false,Op.intArith,Op.intCmp,intBits_and,intBits_or,intBits_xor,intBits_andNot,ac0]
  try rfl
theorem MC {op:BinOp} {T:TypeId} {p q:List UInt8} {v:AV} (h:J8 op p q=some v):
 ∃u,(binOp op T (.string ⟨p.toArray⟩) (.string ⟨q.toArray⟩)).run P w=.ok u w/\Rel c w v u:=by
 cases op<;>simp only[J8,reduceCtorEq,adh]at h
 case add=>
  split at h
  ·rename_i hle;cases h;refine⟨_,?_,w2 (p++q)⟩;have gU:¬(((⟨p.toArray⟩:ByteArray).size+(⟨q.toArray⟩:ByteArray).size:Nat):Int)>ac9.max:=by
    have:ac9.max=9223372036854775807:=by rfl
    rw[this];simp only[ByteArray.size,List.size_toArray];omega
   have abq:(⟨p.toArray⟩:ByteArray)++⟨q.toArray⟩=⟨(p++q).toArray⟩:=by
    apply ByteArray.ext;rw[ByteArray.data_append];simp
   simp only[binOp,Op.stringOp,if_neg gU,abq,ac0]
  ·cases h
 all_goals
  subst h;have hd:∀x y:List UInt8,decide (x=y)=(x==y):=λx y=>by rw[Bool.eq_iff_iff];simp
  refine⟨_,?_,iX _⟩;simp only[binOp,Op.stringOp,ByteArray.toList_mk,ac0,hd]
theorem DI {op:BinOp} {T:TypeId} {x y:Operand} (hF:FR c w t a.tmps) (hM:MR c m w) {v:AV} {e:eX}
 (he:aW (.bin op (aX x) (aX y)) t m n=some (v,e)):dT P (do pure (.value (<-(do eqGuard op T x y (a.eval x) (a.eval y);binOp op T (a.eval x) (a.eval y))))) c m n w v e:=by
 have hx:=bx hF x;have hy:=bx hF y;simp only[aW,adf]at he;obtain⟨v',hv,he⟩:=he;cases he;unfold fv at hv;split at hv
 ·rename_i k p k' q h1 h2;rw[h1]at hx;rw[h2]at hy;have e1:=cA hx;have e2:=cA hy;split at hv
  ·rename_i wF;obtain⟨u,hu,hr⟩:=Kb (P:=P) (w:=w) (c:=c) (yk:=k') hv;refine bq hM ?_ hr;rw[e1,e2];simp only[ac1,oO,acZ];rcases wF with rfl|rfl<;>exact hu
  ·rename_i wF;split at hv
   ·rename_i hk;subst hk;obtain⟨u,hu,hr⟩:=MB (P:=P) (w:=w) (c:=c) (T:=T) wF hv;refine bq hM ?_ hr;rw[e1,e2];simp only[ac1,oO,acZ,hu]
   ·cases hv
 ·rename_i p q h1 h2;rw[h1]at hx;rw[h2]at hy;have e1:=e7 hx;have e2:=e7 hy;obtain⟨u,hu,hr⟩:=MC (P:=P) (w:=w) (c:=c) (T:=T) hv;refine bq hM ?_ hr;rw[e1,e2];simp only[ac1,wE,acZ,hu]
 ·cases hv
theorem DJ {op:BinOp} {neg:Bool} (wF:(op=.eql/\neg=false)\/(op=.neq/\neg=true)) {T:TypeId} (hT:P.underlying T=some .bool) {x y:Operand} (hF:FR c w t a.tmps) (hM:MR c m w)
 {v:AV} {e:eX} (he:aW (.Q1 neg (aX x) (aX y)) t m n=some (v,e)):
 dT P (do pure (.value (<-(do eqGuard op T x y (a.eval x) (a.eval y);binOp op T (a.eval x) (a.eval y))))) c m n w v e:=by
 have hx:=bx hF x;have hy:=bx hF y;simp only[aW]at he;split at he
 ·rename_i p q h1 h2;rw[h1]at hx;rw[h2]at hy;cases he;have e1:=eJ hx;have e2:=eJ hy;have heq:(Op.equal T (.bool p) (.bool q)).run P w=.ok (p==q) w:=by
   unfold Op.equal;rw[show Op.maxDepth=9999+1 from rfl,Op.equalIn];simp only[ac1,underlying,run_program,acZ,hT,ac0]
  refine bq hM ?_ (iX _);rw[e1,e2];rcases wF with⟨rfl,rfl⟩|⟨rfl,rfl⟩;·simp only[ac1,mU,acZ,binOp,heq,ac0,Bool.bne_false]
  ·simp only[ac1,mU,acZ,binOp,heq,ac0,Bool.bne_true]
 ·cases he
theorem RA {neg:Bool} {x y:AV} {u v:Value} (hx:Rel c w x u) (hy:Rel c w y v) {r:AV} (h:Rt neg x y=some r):∃b,r=dq (b !=neg)/\
 ∃p q,u=.pointer p/\v=.pointer q/\((p=none/\b=q.isNone)\/(q=none/\b=p.isNone)):=by
 unfold Rt at h;split at h<;>cases h
 ·obtain⟨b,_,rfl⟩:=qh hx;have:=jN hy;subst this;exact⟨false,by simp,_,_,rfl,rfl,.inr ⟨rfl,rfl⟩⟩
 ·obtain⟨b,_,_,rfl,_⟩:=pj hx;have:=jN hy;subst this;exact⟨false,by simp,_,_,rfl,rfl,.inr ⟨rfl,rfl⟩⟩
 ·obtain⟨b,_,rfl⟩:=qh hy;have:=jN hx;subst this;exact⟨false,by simp,_,_,rfl,rfl,.inl ⟨rfl,rfl⟩⟩
 ·obtain⟨b,_,_,rfl,_⟩:=pj hy;have:=jN hx;subst this;exact⟨false,by simp,_,_,rfl,rfl,.inl ⟨rfl,rfl⟩⟩
 ·have:=jN hx;subst this;have:=jN hy;subst this;exact⟨true,by simp,_,_,rfl,rfl,.inl ⟨rfl,rfl⟩⟩
theorem RB {neg:Bool} {x y:AV} {u v:Value} (hx:Rel c w x u) (hy:Rel c w y v) {r:AV} (h:Ru neg x y=some r):∃b,r=dq (b !=neg)/\
 ((u=.nilFunc/\v=.nilFunc/\b=true)\/(∃f g h,u=.func f g h/\v=.nilFunc/\b=false)\/(∃f g h,v=.func f g h/\u=.nilFunc/\b=false)):=by
 unfold Ru at h;split at h<;>cases h
 ·obtain⟨vs,rfl,_⟩:=xH hx;have:=qg hy;subst this;exact⟨false,by simp,.inr (.inl ⟨_,_,_,rfl,rfl,rfl⟩)⟩
 ·obtain⟨vs,rfl,_⟩:=xH hy;have:=qg hx;subst this;exact⟨false,by simp,.inr (.inr ⟨_,_,_,rfl,rfl,rfl⟩)⟩
 ·have:=qg hx;subst this;have:=qg hy;subst this;exact⟨true,by simp,.inl ⟨rfl,rfl,rfl⟩⟩
theorem RC {op:UnOp} {x:Operand} (hF:FR c w t a.tmps) (hM:MR c m w) {v:AV} {e:eX} (he:aW (.un op (aX x)) t m n=some (v,e)):
 dT P (do pure (.value (<-Op.unary op (a.eval x)))) c m n w v e:=by
 have hx:=bx hF x;simp only[aW,adf]at he;obtain⟨v',hv,he⟩:=he;cases he;unfold unA at hv;split at hv
 ·rename_i k p h1;rw[h1]at hx;have e1:=cA hx;cases op<;>simp only[reduceCtorEq]at hv<;>cases hv;·exact bq hM (by rw[e1];simp only[Op.unary,Op.intArith,ac0]) (mT _ _)
  ·exact bq hM (by rw[e1];simp only[Op.unary,intBits_xor,ac0]) (gV _ _)
 ·rename_i p h1;rw[h1]at hx;have e1:=eJ hx;cases op<;>simp only[reduceCtorEq]at hv<;>cases hv;exact bq hM (by rw[e1];simp only[Op.unary,ac0]) (iX _)
 ·cases hv
theorem MD {s d:TypeId} {k' k:IntKind} (hs:P.underlying s=some (.int k')) (hd:P.underlying d=some (.int k)) {x:Operand} (hF:FR c w t a.tmps) (hM:MR c m w) {v:AV} {e:eX}
 (he:aW (.Gz k (aX x)) t m n=some (v,e)):dT P (do pure (.value (<-convert s d (a.eval x)))) c m n w v e:=by
 have hx:=bx hF x;simp only[aW]at he;split at he
 ·rename_i k2 p h1;rw[h1]at hx;cases he;have e1:=cA hx;exact bq hM (by rw[e1];simp only[convert,ac1,underlying,run_program,acZ,hs,hd,Conv.intToInt,ac0]) (mT _ _)
 ·cases he
theorem vB {s d:TypeId} (hs:(∃k,P.underlying s=some (.int k))\/P.underlying s=some .string) (hd:P.underlying d=some .string) {x:Operand} (hF:FR c w t a.tmps) (hM:MR c m w) {v:AV} {e:eX}
 (he:aW (.mA (aX x)) t m n=some (v,e)):dT P (do pure (.value (<-convert s d (a.eval x)))) c m n w v e:=by
 have hx:=bx hF x;simp only[aW]at he;split at he
 ·rename_i k2 p h1;rw[h1]at hx;cases he;have e1:=cA hx;refine bq (u:=.string (Utf8.encode p)) hM ?_ (by simp[Rel,du]);rw[e1];rcases hs with⟨k,hs⟩|hs<;>simp only[convert,ac1,underlying,run_program,acZ,hs,hd,Conv.intToString,ac0]
 ·rename_i p h1;rw[h1]at hx;cases he;have e1:=e7 hx;refine bq (u:=.string ⟨p.toArray⟩) hM ?_ (w2 _);rw[e1];rcases hs with⟨k,hs⟩|hs<;>simp only[convert,ac1,underlying,run_program,acZ,hs,hd,ac0]
 ·cases he
theorem ME {x:Operand} {i:Nat} (hF:FR c w t a.tmps) (hM:MR c m w) {v:AV} {e:eX} (he:aW (.ext (aX x) i) t m n=some (v,e)):
 dT P (do pure (.value (<-Instr.extract (a.eval x) i))) c m n w v e:=by
 have hx:=bx hF x;simp only[aW]at he;split at he
 ·rename_i vs h1;rw[h1]at hx;obtain⟨us,hu,hr⟩:=Rz hx;rw[adf]at he;obtain⟨v',hv,he⟩:=he;cases he;obtain⟨u,RD,iL⟩:=hr.get hv;refine bq (u:=u) hM ?_ iL;rw[hu];simp only[Instr.extract,List.getElem?_toArray,RD,ac0]
 ·cases he
theorem Kc {f:Nat} {caps:Array Operand} (hF:FR c w t a.tmps) (hM:MR c m w):
 dT P (do pure (.value (<-Instr.makeFunc (.func f) #[] (caps.map a.eval)))) c m n w (.fn f ((caps.toList.map aX).map (ev t))) .nil:=by
 refine bq (u:=.func (.func f) #[] (caps.map a.eval)) hM (by simp[Instr.makeFunc]) ?_
 simp only[Rel];exact⟨caps.toList.map a.eval,congrArg _ (Array.ext' (by simp)),qe hF _⟩
theorem BC {x:AV} {v:Value} {l:Nat} (h:Rel c w x v) (hl:ir x=some l):∃p cap,v=.slice p l cap/\l<=cap:=by
 unfold ir at hl;split at hl<;>cases hl;·exact⟨_,_,iY h,acV _⟩
 ·simp only[Rel,du]at h;obtain⟨p,cap,hv,hn,_⟩:=h;exact⟨p,cap,hv,hn⟩
 ·simp only[Rel]at h;rcases h with⟨_,_,rfl,_,hv⟩|⟨b,cap,n,_,hv,hn,_⟩;·exact⟨_,_,hv,acV _⟩
  ·exact⟨_,_,hv,hn⟩
 ·simp only[Rel]at h;obtain⟨a,cap,hv,_⟩:=h;exact⟨a,cap,hv,Nat.zero_le _⟩
theorem DK {s:List UInt8} {i:Nat} {x:AV} (h:(kX s)[i]?=some x):∃b,s[i]?=some b/\x=.d (.int .u8 b.toNat):=by
 unfold kX at h;rw[List.getElem?_map,adf]at h;obtain⟨b,hb,rfl⟩:=h;exact⟨b,hb,rfl⟩
theorem xI (s:List UInt8):aU c w (kX s) (s.map λb=>.int .u8 b.toNat):=
 aU.o6 (by simp[kX]) λi x v hx hv=>by
  obtain⟨b,hb,rfl⟩:=DK hx;rw[List.getElem?_map,hb]at hv;cases hv;exact gV _ _
end
end Go.Jq
namespace Go.Jq
open Go
section
variable{P:Program} {c:Ctx} {m:Mem} {n:Nat} {w:World} {t:Fr} {a:Act}
theorem oP (op:BinOp) (T:TypeId) (x y:Operand) (p q:Option Addr):(eqGuard op T x y (.pointer p) (.pointer q)).run P w=.ok () w:=by
 unfold eqGuard;cases op<;>rfl
theorem DL {op:BinOp} {neg:Bool} (wF:(op=.eql/\neg=false)\/(op=.neq/\neg=true)) {T el:TypeId} (nO:P.underlying T=some (.pointer el)) {x y:Operand}
 (hF:FR c w t a.tmps) (hM:MR c m w) {v:AV} {e:eX} (he:aW (.Mw neg (aX x) (aX y)) t m n=some (v,e)):
 dT P (do pure (.value (<-(do eqGuard op T x y (a.eval x) (a.eval y);binOp op T (a.eval x) (a.eval y))))) c m n w v e:=by
 simp only[aW,adf]at he;obtain⟨v',Kd,he⟩:=he;cases he;obtain⟨b,rfl,p,q,h1,h2,h3⟩:=RA (bx hF x) (bx hF y) Kd;have k1:(Op.equal T (.pointer p) (.pointer q)).run P w=.ok b w:=by
  unfold Op.equal;rw[show Op.maxDepth=9999+1 from rfl,Op.equalIn];simp only[ac1,underlying,run_program,acZ,nO];rcases h3 with⟨rfl,rfl⟩|⟨rfl,rfl⟩;·cases q<;>simp
  ·cases p<;>simp
 refine bq hM ?_ (iX _);rw[h1,h2];rcases wF with⟨rfl,rfl⟩|⟨rfl,rfl⟩;·simp only[ac1,oP,acZ,binOp,k1,ac0,Bool.bne_false]
 ·simp only[ac1,oP,acZ,binOp,k1,ac0,Bool.bne_true]
theorem pn (op:BinOp) (T:TypeId) (x y:Operand) {u v:Value} (hu:u=.nilFunc\/∃f g h,u=.func f g h):(eqGuard op T x y u v).run P w=.ok () w:=by
 unfold eqGuard;rcases hu with rfl|⟨f,g,h,rfl⟩<;>cases op<;>cases v<;>rfl
theorem DM {op:BinOp} {neg:Bool} (wF:(op=.eql/\neg=false)\/(op=.neq/\neg=true)) {T:TypeId} {pp rr:Array TypeId} {vv:Bool} (nO:P.underlying T=some (.func pp rr vv)) {x y:Operand}
 (hF:FR c w t a.tmps) (hM:MR c m w) {v:AV} {e:eX} (he:aW (.Q3 neg (aX x) (aX y)) t m n=some (v,e)):
 dT P (do pure (.value (<-(do eqGuard op T x y (a.eval x) (a.eval y);binOp op T (a.eval x) (a.eval y))))) c m n w v e:=by
 simp only[aW,adf]at he;obtain⟨v',Kd,he⟩:=he;cases he;obtain⟨b,rfl,h⟩:=RB (bx hF x) (bx hF y) Kd;refine bq hM ?_ (iX _);rcases h with⟨h1,h2,rfl⟩|⟨f,g,k,h1,h2,rfl⟩|⟨f,g,k,h1,h2,rfl⟩
 all_goals
  rw[h1,h2];rcases wF with⟨rfl,rfl⟩|⟨rfl,rfl⟩
  all_goals
   simp only[ac1,pn _ _ _ _ (.inl rfl),pn _ _ _ _ (.inr ⟨_,_,_,rfl⟩),acZ,binOp,Op.equal];rw[show Op.maxDepth=9999+1 from rfl,Op.equalIn];simp only[ac1,underlying,run_program,acZ,nO,ac0];rfl
theorem vC {s:TypeId} {fs:Array Field} {f off size:Nat} (hu:P.underlying s=some (.struct fs)) (hf:fQ P fs f=some (off,size)) (hs:size≠0) (b o:Nat):
 (Instr.fieldAt s (.pointer (some ⟨b,o,none⟩)) f).run P w=.ok (.pointer (some ⟨b,o+off,none⟩)) w:=by
 unfold fQ at hf;split at hf
 ·rename_i fd hfd;split at hf
  ·rename_i i hi;cases hf;simp only[Instr.fieldAt,ac1,underlying,run_program,acZ,hu,ac0,hfd,Instr.sureAddr,fieldPlace,run_sizeOf hi,if_neg hs,addr_add]
  ·cases hf
 ·cases hf
theorem GG {s:TypeId} {fs:Array Field} {f off size:Nat} (hu:P.underlying s=some (.struct fs)) (hf:fQ P fs f=some (off,size)) (hs:size≠0) {x:Operand}
 (hF:FR c w t a.tmps) (hM:MR c m w) {v:AV} {e:eX} (he:aW (.c7 (aX x) off) t m n=some (v,e)):dT P (do pure (.value (<-Instr.fieldAt s (a.eval x) f))) c m n w v e:=by
 have hx:=bx hF x;simp only[aW]at he;split at he
 ·rename_i id o h1;rw[h1]at hx;cases he;obtain⟨b,hb,hv⟩:=qh hx;exact bq hM (by rw[hv];exact vC hu hf hs b o) (by simp only[Rel];exact⟨b,hb,rfl⟩)
 ·rename_i cs h1;rw[h1]at hx;cases he;obtain⟨b,o,hb,hv,hc⟩:=pj hx;exact bq hM (by rw[hv];exact vC hu hf hs b o) (by simp only[Rel];exact⟨b,_,hb,rfl,hc.drop off⟩)
 ·cases he
theorem DN {T:TypeId} {k:Option Nat} (hk:o4 P T=some k) {cs:List AV} {us:List Value} (hr:aU c w cs us) {off:Nat} {v:AV} (hv:aP k (cs.drop off)=some v):
 ∃u,(part T us.toArray off).run P w=.ok u w/\Rel c w v u:=by
 rcases DF hk with⟨i,hi,rfl,mR⟩|⟨rfl,mR⟩
 ·simp only[aP]at hv;split at hv
  ·cases hv;refine⟨.agg ((us.drop off).take i.size).toArray,?_,by simp only[Rel];exact⟨_,rfl,(hr.drop off).take i.size⟩⟩;simp only[part,ac1,mR,acZ,if_true,run_sizeOf hi,ac0]
   congr 2
   apply Array.ext';simp only[Array.toList_extract,List.extract_eq_take_drop];simp
  ·cases hv
 ·simp only[aP]at hv;obtain⟨u,hu,iL⟩:=(hr.drop off).get hv;refine⟨u,?_,iL⟩;have:us[off]?=some u:=by rw[<-hu,List.getElem?_drop];simp
  simp only[part,ac1,mR,acZ,ac5,if_false,List.getElem?_toArray,this,ac0]
theorem MF {s:TypeId} {fs:Array Field} {f:Nat} {fd:Field} {k:Option Nat} (hu:P.underlying s=some (.struct fs)) (hf:fs[f]?=some fd) (hk:o4 P fd.type=some k) {x:Operand}
 (hF:FR c w t a.tmps) (hM:MR c m w) {v:AV} {e:eX} (he:aW (.Rs (aX x) fd.offset k) t m n=some (v,e)):dT P (do pure (.value (<-Instr.field s (a.eval x) f))) c m n w v e:=by
 have hx:=bx hF x;simp only[aW]at he;split at he
 ·rename_i cs h1;rw[h1]at hx;rw[adf]at he;obtain⟨v',hv,he⟩:=he;cases he;obtain⟨us,zE,hr⟩:=mg hx;obtain⟨u,RD,iL⟩:=DN hk hr hv;exact bq hM (by rw[zE];simp only[Instr.field,ac1,underlying,run_program,acZ,hu,ac0,hf,asAgg,RD]) iL
 ·cases he
theorem DO {T el:TypeId} {i':TypeInfo} (hu:P.underlying T=some (.slice el)) (gb:P.info? el=some i') {x i:Operand} (hF:FR c w t a.tmps) (hM:MR c m w) {v:AV} {e:eX}
 (he:aW (.bS i'.size none (aX x) (aX i)) t m n=some (v,e)):dT P (do pure (.value (<-Instr.indexAt T (a.eval x) (a.eval i)))) c m n w v e:=by
 have hx:=bx hF x;have hi:=bx hF i;simp only[aW]at he;split at he;·cases he
 ·cases he
 ·rename_i id e' off len k j h1 h2;rw[h1]at hx;rw[h2]at hi;split at he
  ·rename_i cy;obtain⟨_,rfl,h3,h4⟩:=cy;cases he;have e2:=cA hi;simp only[Rel]at hx;rcases hx with⟨_,_,rfl,_⟩|⟨b,cap,N,hb,hv,hle,hN,fE⟩;·omega
   ·refine bq (u:=.pointer (some ⟨b,off+j.toNat*i'.size,none⟩)) hM ?_ (by simp only[Rel];exact⟨b,hb,rfl⟩);rw[hv,e2];simp only[Instr.indexAt,ac1,asIntOf,ac0,acZ,underlying,run_program,hu];rw[if_pos ⟨h3,h4⟩];simp only[ac1,run_sizeOf gb,acZ,ac0,addr_add]
  ·cases he
 ·rename_i len cs k j h1 h2;rw[h1]at hx;rw[h2]at hi;split at he
  ·rename_i cy;obtain⟨_,h3,h4,h5⟩:=cy;cases he;have e2:=cA hi;simp only[Rel,du]at hx;obtain⟨p,cap,hv,hle,hx⟩:=hx;rcases hx with⟨rfl,_⟩|⟨b,o,rfl,hb,hc⟩;·omega
   ·refine bq (u:=.pointer (some ⟨b,o+j.toNat*i'.size,none⟩)) hM ?_ (by simp only[Rel];exact⟨b,_,hb,rfl,hc.drop _⟩);rw[hv,e2];simp only[Instr.indexAt,ac1,asIntOf,ac0,acZ,underlying,run_program,hu];rw[if_pos ⟨h3,h4⟩];simp only[ac1,run_sizeOf gb,acZ,ac0,addr_add]
  ·cases he
 ·cases he
theorem sv {T el len:Nat} {i':TypeInfo} (hu:P.underlying T=some (.array len el)) (gb:P.info? el=some i') (k:IntKind) (j:Int) (h:0<=j/\j<len) (b o:Nat):
 (Instr.indexAt T (.pointer (some ⟨b,o,none⟩)) (.int k j)).run P w=.ok (.pointer (some ⟨b,o+j.toNat*i'.size,none⟩)) w:=by
 simp only[Instr.indexAt,ac1,asIntOf,ac0,acZ,underlying,run_program,hu,Instr.sureAddr];rw[if_pos h];simp only[ac1,run_sizeOf gb,acZ,ac0,addr_add]
theorem DP {T el len:Nat} {i':TypeInfo} (hu:P.underlying T=some (.array len el)) (gb:P.info? el=some i') {x i:Operand} (hF:FR c w t a.tmps) (hM:MR c m w) {v:AV} {e:eX}
 (he:aW (.bS i'.size (some len) (aX x) (aX i)) t m n=some (v,e)):dT P (do pure (.value (<-Instr.indexAt T (a.eval x) (a.eval i)))) c m n w v e:=by
 have hx:=bx hF x;have hi:=bx hF i;simp only[aW]at he;split at he
 ·rename_i id o k j h1 h2;rw[h1]at hx;rw[h2]at hi;split at he
  ·rename_i cy;cases he;obtain⟨b,hb,hv⟩:=qh hx;have e2:=cA hi;exact bq hM (by rw[hv,e2];exact sv hu gb k j cy b o) (by simp only[Rel];exact⟨b,hb,rfl⟩)
  ·cases he
 ·rename_i cs k j h1 h2;rw[h1]at hx;rw[h2]at hi;split at he
  ·rename_i cy;cases he;obtain⟨b,o,hb,hv,hc⟩:=pj hx;have e2:=cA hi;exact bq hM (by rw[hv,e2];exact sv hu gb k j cy b o) (by simp only[Rel];exact⟨b,_,hb,rfl,hc.drop _⟩)
  ·cases he
 ·rename_i id e' off abr k j h1 h2;split at he
  ·rename_i cy;obtain⟨h,_⟩:=cy;cases h
  ·cases he
 ·rename_i abr cs k j h1 h2;split at he
  ·rename_i cy;obtain⟨h,_⟩:=cy;cases h
  ·cases he
 ·cases he
theorem Ke {T:TypeId} (hu:P.underlying T=some .string) {x i:Operand} (hF:FR c w t a.tmps) (hM:MR c m w) {v:AV} {e:eX}
 (he:aW (.idxs (aX x) (aX i)) t m n=some (v,e)):dT P (do pure (.value (<-Instr.index T (a.eval x) (a.eval i)))) c m n w v e:=by
 have hx:=bx hF x;have hi:=bx hF i;simp only[aW]at he;split at he
 ·rename_i s k j h1 h2;rw[h1]at hx;rw[h2]at hi;split at he
  ·rename_i cy;cases he;have e1:=e7 hx;have e2:=cA hi;refine bq hM ?_ (gV _ _);have bd:j.toNat<s.length:=by omega
   have qM:(⟨s.toArray⟩:ByteArray)[j.toNat]?=some (s.getD j.toNat 0):=by
    have gU:j.toNat<(⟨s.toArray⟩:ByteArray).size:=by simpa[ByteArray.size]using bd
    rw[getElem?_pos (ByteArray.mk s.toArray) j.toNat gU]
    congr 1
    show s.toArray[j.toNat]=_;simp[bd]
   rw[e1,e2];simp only[Instr.index,ac1,asIntOf,ac0,acZ,underlying,run_program,hu];rw[if_pos cy.1,qM];rfl
  ·cases he
 ·cases he
theorem Kf {T el len:Nat} {i':TypeInfo} {k:Option Nat} (hu:P.underlying T=some (.array len el)) (gb:P.info? el=some i') (hk:o4 P el=some k) {x i:Operand} (hF:FR c w t a.tmps) (hM:MR c m w)
 {v:AV} {e:eX} (he:aW (.BB len i'.size k (aX x) (aX i)) t m n=some (v,e)):dT P (do pure (.value (<-Instr.index T (a.eval x) (a.eval i)))) c m n w v e:=by
 have hx:=bx hF x;have hi:=bx hF i;simp only[aW]at he;split at he
 ·rename_i cs k' j h1 h2;rw[h1]at hx;rw[h2]at hi;split at he
  ·rename_i cy;rw[adf]at he;obtain⟨v',hv,he⟩:=he;cases he;obtain⟨us,zE,hr⟩:=mg hx;have e2:=cA hi;obtain⟨u,RD,iL⟩:=DN hk hr hv;refine bq hM ?_ iL;rw[zE,e2];simp only[Instr.index,ac1,asIntOf,ac0,acZ,underlying,run_program,hu];rw[if_pos cy];simp only[ac1,run_sizeOf gb,acZ,RD]
  ·cases he
 ·cases he
theorem Kg {T:TypeId} {ts:Array TypeId} {ty:TypeId} {x:Operand} (ht:ts.toList=[T]) (hu:P.underlying T=some .string)
 (hF:FR c w t a.tmps) (hM:MR c m w) {v:AV} {e:eX} (he:aW (.lens (aX x)) t m n=some (v,e)):dT P (do pure (.value (<-Builtin.len_ ts ty #[a.eval x]))) c m n w v e:=by
 have hx:=bx hF x;simp only[aW]at he;split at he
 ·rename_i s h1;rw[h1]at hx;cases he;have e1:=e7 hx;have h0:ts[0]?=some T:=by rw[<-Array.getElem?_toList,ht];rfl
  refine bq hM ?_ (gV _ _);have gU:(ByteArray.mk s.toArray).size=s.length:=by show s.toArray.size=_;simp
  rw[e1];simp only[Builtin.len_,h0,List.getElem?_toArray,List.getElem?_cons_zero,ac1,underlying,run_program,acZ,hu,ac0,goInt,gU]
 ·cases he
theorem Kh {T el:TypeId} {ts:Array TypeId} {ty:TypeId} {x:Operand} (ht:ts.toList=[T]) (hu:P.underlying T=some (.slice el))
 (hF:FR c w t a.tmps) (hM:MR c m w) {v:AV} {e:eX} (he:aW (.xA (aX x)) t m n=some (v,e)):dT P (do pure (.value (<-Builtin.len_ ts ty #[a.eval x]))) c m n w v e:=by
 have hx:=bx hF x;simp only[aW,adf]at he;obtain⟨l,hl,he⟩:=he;cases he;obtain⟨p,cap,hv,_⟩:=BC hx hl;have h0:ts[0]?=some T:=by rw[<-Array.getElem?_toList,ht];rfl
 refine bq hM ?_ (gV _ _);rw[hv];simp[Builtin.len_,h0,underlying,hu,goInt]
theorem MG {ts:Array TypeId} {ty:TypeId} {x y:Operand} (hF:FR c w t a.tmps) (hM:MR c m w) {v:AV} {e:eX} (he:aW (.uu (aX x) (aX y)) t m n=some (v,e)):
 dT P (do pure (.value (<-Builtin.min_ ts ty #[a.eval x,a.eval y]))) c m n w v e:=by
 have hx:=bx hF x;have hy:=bx hF y;simp only[aW]at he;split at he
 ·rename_i k p k' q h1 h2;rw[h1]at hx;rw[h2]at hy;cases he;have e1:=cA hx;have e2:=cA hy;exact bq hM (by rw[e1,e2];simp[Builtin.min_,Builtin.min2]) (gV _ _)
 ·cases he
theorem MH {ts:Array TypeId} {ty:TypeId} {x y:Operand} (hF:FR c w t a.tmps) (hM:MR c m w) {v:AV} {e:eX} (he:aW (.uv (aX x) (aX y)) t m n=some (v,e)):
 dT P (do pure (.value (<-Builtin.max_ ts ty #[a.eval x,a.eval y]))) c m n w v e:=by
 have hx:=bx hF x;have hy:=bx hF y;simp only[aW]at he;split at he
 ·rename_i k p k' q h1 h2;rw[h1]at hx;rw[h2]at hy;cases he;have e1:=cA hx;have e2:=cA hy;exact bq hM (by rw[e1,e2];simp[Builtin.max_,Builtin.max2]) (gV _ _)
 ·cases he
end
end Go.Jq
namespace Go.Jq
open Go
section
variable{P:Program} {c:Ctx} {m:Mem} {n:Nat} {w:World} {t:Fr} {a:Act}
theorem jO {x:Value} {k:IntKind} {j:Int} (hx:x=.int k j) {y:Nat} (h:0<=j/\j.toNat<=y) (code:BoundsCode):(Instr.sliceBound x y code).run P w=.ok j.toNat w:=by
 subst hx;simp only[Instr.sliceBound,ac1,asIntOf,ac0,acZ];rw[if_pos ⟨h.1,by omega⟩];rfl
theorem sw {x:Option Operand} {d b:Nat} (hF:FR c w t a.tmps) (h:DC ((x.map aX).map (ev t)) d=some b):
 (x=none/\b=d)\/∃y k j,x=some y/\a.eval y=.int k j/\0<=j/\j.toNat=b:=by
 cases x with
 |none=>simp only[Option.map_none,DC,adh]at h;exact .inl ⟨rfl,h.symm⟩
 |some y=>
  have hy:=bx hF y;simp only[ady]at h;generalize mf:ev t (aX y)=av at h hy;unfold DC at h;split at h;·rename_i h0;cases h0
  ·rename_i k j h0;cases h0;split at h
   ·rename_i hj;cases h;exact .inr ⟨y,k,j,rfl,cA hy,hj,rfl⟩
   ·cases h
  ·cases h
theorem kG {isSlice:Bool} {len cap l h:Nat} {lo hi:Option Operand}
 (hlo:(lo=none/\l=0)\/∃y k j,lo=some y/\a.eval y=.int k j/\0<=j/\j.toNat=l)
 (hhi:(hi=none/\h=len)\/∃y k j,hi=some y/\a.eval y=.int k j/\0<=j/\j.toNat=h) (hlh:l<=h) (hc:h<=cap):
 (Instr.sliceBounds isSlice len cap (lo.map a.eval) (hi.map a.eval) none).run P w=.ok (l,h,cap) w:=by
 unfold Instr.sliceBounds;rcases hhi with⟨rfl,rfl⟩|⟨y,k,j,rfl,hy,hj,rfl⟩
 ·rcases hlo with⟨rfl,rfl⟩|⟨y',k',j',rfl,TD,wC,rfl⟩;·simp
  ·simp only[Option.map_none,ady,adb,ac1,ac0,acZ,jO TD ⟨wC,hlh⟩]
 ·rcases hlo with⟨rfl,rfl⟩|⟨y',k',j',rfl,TD,wC,rfl⟩;·simp only[Option.map_none,ady,ac1,ac0,acZ,jO hy ⟨hj,hc⟩]
  ·simp only[ady,adb,ac1,ac0,acZ,jO hy ⟨hj,hc⟩,jO TD ⟨wC,hlh⟩]
theorem vD (s:List UInt8) (l h:Nat):(ByteArray.mk s.toArray).extract l h=⟨((s.take h).drop l).toArray⟩:=by
 apply ByteArray.ext;rw[ByteArray.data_extract];apply Array.ext';simp only[Array.toList_extract,List.extract_eq_take_drop];rw[List.drop_take]
theorem Ki {T:TypeId} (hu:P.underlying T=some .string) {x:Operand} {lo hi:Option Operand} (hF:FR c w t a.tmps) (hM:MR c m w) {v:AV} {e:eX}
 (he:aW (.zD (aX x) (lo.map aX) (hi.map aX)) t m n=some (v,e)):dT P (do pure (.value (<-Instr.sliceAt T (a.eval x) (lo.map a.eval) (hi.map a.eval) none))) c m n w v e:=by
 have hx:=bx hF x;simp only[aW]at he;split at he
 ·rename_i s h1;rw[h1]at hx;have e1:=e7 hx;split at he
  ·rename_i l h hl hh;split at he
   ·rename_i cy;cases he;have gU:(ByteArray.mk s.toArray).size=s.length:=by show s.toArray.size=_;simp
    have hb:=kG (P:=P) (w:=w) (isSlice:=false) (cap:=s.length) (sw hF hl) (sw hF hh) cy.1 cy.2;refine bq (u:=.string ⟨((s.take h).drop l).toArray⟩) hM ?_ (w2 _);rw[e1];simp only[Instr.sliceAt,ac1,underlying,run_program,acZ,hu,Instr.slice,adb,ac5,if_false,ac0,gU,hb,vD]
   ·cases he
  ·cases he
 ·cases he
theorem Kj {T el:TypeId} {i:TypeInfo} (hu:P.underlying T=some (.slice el)) (gb:P.info? el=some i) {x:Operand} {lo hi:Option Operand} (hF:FR c w t a.tmps) (hM:MR c m w) {v:AV} {e:eX}
 (he:aW (.rm i.size (aX x) (lo.map aX) (hi.map aX)) t m n=some (v,e)):dT P (do pure (.value (<-Instr.sliceAt T (a.eval x) (lo.map a.eval) (hi.map a.eval) none))) c m n w v e:=by
 have hx:=bx hF x;simp only[aW]at he;split at he
 ·rename_i len hlen;obtain⟨p,cap,hv,hle⟩:=BC hx hlen;split at he
  ·rename_i l h hl hh;rw[adf]at he;obtain⟨v',iZ,he⟩:=he;cases he;have dD:l<=h->h<=len->(do pure (.value (<-Instr.sliceAt T (a.eval x) (lo.map a.eval) (hi.map a.eval) none)):Sem Next).run P w=.ok (.value (.slice (if cap=l then p else p.map (·.add (l*i.size))) (h-l) (cap-l))) w:=by
    intro h1 h2;have hb:=kG (P:=P) (w:=w) (isSlice:=true) (cap:=cap) (sw hF hl) (sw hF hh) h1 (Nat.le_trans h2 hle);rw[hv];simp only[Instr.sliceAt,ac1,underlying,run_program,acZ,hu,Instr.slice,hb,run_sizeOf gb,ac0]
   unfold Wa at iZ;split at iZ
   ·rename_i mf;split at iZ
    ·rename_i cy;obtain⟨rfl,rfl⟩:=cy;cases iZ;rw[mf]at hx;have:=iY hx;rw[this]at hv;cases hv;refine⟨_,w,c,dD (acV _) (Nat.zero_le _),.inl ⟨_,rfl,?_⟩,hM,Step.refl _ _ _,λ_ _=>rfl,λ_ h=>.inl h⟩;simp[Rel,du]
    ·cases iZ
   ·rename_i n' cells mf;rw[mf]at hx hlen;simp only[ir,adh]at hlen;split at iZ
    ·rename_i cy;obtain⟨h1,h2,_⟩:=cy;cases iZ;refine⟨_,w,c,dD h1 (by omega),.inl ⟨_,rfl,?_⟩,hM,Step.refl _ _ _,λ_ _=>rfl,λ_ h=>.inl h⟩;simp only[Rel,du]at hx⊢;obtain⟨p',xJ,zE,DQ,hx⟩:=hx;rw[zE]at hv;cases hv;refine⟨_,_,rfl,by omega,?_⟩;by_cases h0:h-l=0;·left;exact⟨h0,by simp[h0]⟩
     ·right;rcases hx with⟨h3,_⟩|⟨b,o,rfl,hb,hc⟩;·omega
      ·refine⟨b,o+l*i.size,?_,hb,(hc.drop _).take _⟩;rw[if_neg (by omega)];simp[addr_add]
    ·cases iZ
   ·rename_i id e' off n' mf;rw[mf]at hx hlen;simp only[ir,adh]at hlen;split at iZ
    ·rename_i cy;obtain⟨rfl,_,h1,h2⟩:=cy;refine⟨_,w,c,dD h1 (by omega),.inl ⟨_,rfl,?_⟩,hM,Step.refl _ _ _,λ_ _=>rfl,λ_ h=>.inl h⟩;simp only[Rel]at hx;split at iZ
     ·rename_i h0;subst h0;cases iZ;simp only[Rel];rcases hx with⟨h3,h4,h5,a0,h6⟩|⟨b,xJ,N,hb,zE,DQ,hN,fE⟩
      ·left;rw[h6]at hv;cases hv;refine⟨h3,h4,by omega,p,?_⟩;rw[if_pos (by omega)];simp;omega
      ·right;rw[zE]at hv;cases hv;refine⟨b,cap,N,hb,?_,by omega,hN,fE⟩;simp[addr_add]
     ·rename_i h0;split at iZ
      ·rename_i h3;cases iZ;simp only[Rel,du];exact⟨_,_,by rw[show h-l=0 by omega],by omega,.inl ⟨trivial,trivial⟩⟩
      ·cases iZ;simp only[Rel];rcases hx with⟨_,_,h5,_⟩|⟨b,xJ,N,hb,zE,DQ,hN,fE⟩;·omega
       ·right;rw[zE]at hv;cases hv;refine⟨b,cap-l,N,hb,?_,by omega,hN,?_⟩
        ·rw[if_neg (by omega)];simp[addr_add]
        ·have:l*i.size+(cap-l)*i.size=cap*i.size:=by rw[<-Nat.add_mul];congr 1;omega
         omega
    ·cases iZ
   ·cases iZ
  ·cases he
 ·cases he
theorem uy {y:AV} {de k:Nat} {new:List AV} (h:ez m de y=some (k,new)):new.length=k*de:=by
 unfold ez at h;split at h;·cases h;simp
 ·split at h;·cases h;simpa
  ·cases h
 ·split at h;·rename_i h1;cases h;subst h1;simp[kX]
  ·cases h
 ·cases h;simp
 ·split at h
  ·split at h
   ·rename_i h1;cases h;rw[List.length_take,List.length_drop];omega
   ·cases h
  ·cases h
 ·cases h
theorem uz {y:AV} {de k:Nat} {new:List AV} (h:ez m de y=some (k,new)):new.all j9=true:=by
 unfold ez at h;split at h;·cases h;rfl
 ·split at h;·cases h;simp[j9]
  ·cases h
 ·split at h;·cases h;simp[kX,j9]
  ·cases h
 ·cases h;rfl
 ·split at h
  ·split at h
   ·rename_i h1;cases h;exact h1.2.2
   ·cases h
  ·cases h
 ·cases h
theorem uA {y:AV} {v:Value} {de k:Nat} {new:List AV} (hy:Rel c w y v) (hM:MR c m w) (h:ez m de y=some (k,new)):
 (∀w',(Builtin.lenOf v).run P w'=.ok k w')/\∃us:List Value,aU c w new us/\∀w',w'.heap=w.heap->(Builtin.firstCells de k v).run P w'=.ok us.toArray w':=by
 have hlen:=uy h;have TE:∀(b o:Nat) (us:List Value),us.length=k*de->(∀j u,us[j]?=some u->w.cell? ⟨b,o+j,none⟩=some u)->∀w',w'.heap=w.heap->(loadCells ⟨b,o,none⟩ (k*de)).run P w'=.ok us.toArray w':=by
  intro b o us hl hc w' hw;rw[<-hl];exact run_loadCells P w' b o us λj u hj=>by
   have:=hc j u hj;simpa[World.cell?,hw]using this
 unfold ez at h;split at h
 ·cases h;have:=iY hy;subst this;exact⟨λ_=>rfl,[],by simp[aU],λ_ _=>rfl⟩
 ·rename_i n' cells;split at h
  ·rename_i w3;cases h;simp only[Rel,du]at hy;obtain⟨p,cap,rfl,_,hy⟩:=hy;refine⟨λ_=>rfl,?_⟩;rcases hy with⟨rfl,rfl⟩|⟨b,o,rfl,hb,hc⟩
   ·refine⟨[],by simp[aU],λw' _=>?_⟩;cases p with
    |none=>rfl
    |some p=>simp[Builtin.firstCells,loadCells,loadCellsFrom]
   ·obtain⟨us,hl,b9,hr⟩:=nL (su hc) cells.length (by simp);rw[ac8 (by simp)]at hr;exact⟨us,hr,λw' hw=>TE b o us (by omega) b9 w' hw⟩
  ·cases h
 ·rename_i s;split at h
  ·rename_i h1;subst h1;cases h;have:=e7 hy;subst this;refine⟨λw'=>?_,s.map λb=>.int .u8 b.toNat,xI s,λw' _=>?_⟩
   ·have gU:(ByteArray.mk s.toArray).size=s.length:=by show s.toArray.size=_;simp
    simp only[Builtin.lenOf,gU,ac0]
   ·have:=vD s 0 s.length;simp only[Builtin.firstCells,this,ac0]
    congr 1
    apply Array.ext';simp
  ·cases h
 ·cases h;simp only[Rel]at hy;obtain⟨p,cap,rfl,_⟩:=hy;refine⟨λ_=>rfl,[],by simp[aU],λw' _=>?_⟩;cases p with
  |none=>rfl
  |some p=>simp[Builtin.firstCells,loadCells,loadCellsFrom]
 ·rename_i id e' off len;split at h
  ·rename_i cs b9;split at h
   ·rename_i cy;obtain⟨rfl,hle,_⟩:=cy;cases h;simp only[Rel]at hy;rcases hy with⟨_,rfl,rfl,a0,rfl⟩|⟨b,cap,N,hb,rfl,_⟩;·exact⟨λ_=>rfl,[],by simp[aU],λ_ _=>by cases a0<;>simp[Builtin.firstCells,loadCells,loadCellsFrom]⟩
    ·refine⟨λ_=>rfl,?_⟩;obtain⟨us,hl,jP,hr⟩:=nL (me hM b9 hb off) (k*e') (by rw[List.length_drop];omega);exact⟨us,hr,λw' hw=>TE b off us hl jP w' hw⟩
   ·cases h
  ·cases h
 ·cases h
theorem po:∀{cs:List AV} {s:List UInt8} {us:List Value},aU c w cs us->lr cs=some s->∃ns:List Int,us=ns.map (Value.int .u8)/\s=ns.map λn=>UInt8.ofNat n.toNat
 | [],s,us,hr,h=>by
   simp only[aU]at hr;simp only[lr,adh]at h;subst hr h;exact⟨[],rfl,rfl⟩
 |x::cs,s,us,hr,h=>by
  simp only[aU]at hr;obtain⟨v,vs,rfl,hv,hr⟩:=hr;unfold lr at h;split at h;·rename_i h0;cases h0
  ·rename_i k r h0;cases h0;rw[adf]at h;obtain⟨s',DR,rfl⟩:=h;obtain⟨ns,rfl,rfl⟩:=po hr DR;have:=cA hv;subst this;exact⟨k::ns,rfl,rfl⟩
  ·cases h
theorem zF (f:Value->ByteArray->Sem (ForInStep ByteArray)) (hf:∀n s,f (.int .u8 n) s=pure (ForInStep.yield (s.push (UInt8.ofNat n.toNat)))) (ns:List Int) (w:World):∀(acc:ByteArray),
 (forIn (ns.map (Value.int .u8)) acc f:Sem ByteArray).run P w=.ok ⟨acc.data++(ns.map λn=>UInt8.ofNat n.toNat).toArray⟩ w:=by
 induction ns with
 |nil=>intro acc;simp
 |cons k ns ih=>
  intro acc;simp only[ade,List.forIn_cons,ac1,hf,ac0,acZ,ih]
  congr 2
  apply Array.ext';simp[ByteArray.data_push]
theorem Kk {s d el:TypeId} (hs:P.underlying s=some (.slice el)) (nO:P.underlying el=some (.int .u8)) (hd:P.underlying d=some .string) {x:Operand} (hF:FR c w t a.tmps) (hM:MR c m w) {v:AV} {e:eX}
 (he:aW (.xy (aX x)) t m n=some (v,e)):dT P (do pure (.value (<-convert s d (a.eval x)))) c m n w v e:=by
 have hx:=bx hF x;simp only[aW]at he;split at he;·cases he
 rename_i abt;split at he
 ·rename_i k cs b9;rw[adf]at he;obtain⟨bs,RE,he⟩:=he;cases he;obtain⟨hl,us,hr,Dy⟩:=uA (P:=P) hx hM b9;have hf:=Dy w rfl;obtain⟨ns,rfl,rfl⟩:=po hr RE;have hlen:∃p cap,a.eval x=.slice p k cap:=by
   cases mf:ev t (aX x)with
   |d y=>
    rw[mf]at hx b9;cases y with
    |cE=>have:=iY hx;simp only[ez,adh,Prod.mk.injEq]at b9;rw[this,<-b9.1];exact⟨_,_,rfl⟩
    |sl n' cells=>
     simp only[ez]at b9;split at b9
     ·cases b9;simp only[Rel,du]at hx;obtain⟨p,cap,hv,_⟩:=hx;exact⟨p,cap,hv⟩
     ·cases b9
    |str s=>exact(abt s mf).elim
    |_=>simp[ez]at b9
   |sl id e' off len=>
    rw[mf]at hx b9;simp only[ez]at b9;split at b9
    ·split at b9
     ·cases b9;simp only[Rel]at hx;rcases hx with⟨_,_,rfl,_,hv⟩|⟨b,cap,N,_,hv,_⟩;·exact⟨_,_,hv⟩
      ·exact⟨_,_,hv⟩
     ·cases b9
    ·cases b9
   |ui z=>
    rw[mf]at b9 hx;simp only[ez,adh,Prod.mk.injEq]at b9;obtain⟨rfl,_⟩:=b9;simp only[Rel]at hx;obtain⟨p,cap,hv,_⟩:=hx;exact⟨p,cap,hv⟩
   |_=>rw[mf]at b9;simp[ez]at b9
  obtain⟨p,cap,hv⟩:=hlen;rw[hv]at hf;refine bq (u:=.string ⟨(ns.map λn=>UInt8.ofNat n.toNat).toArray⟩) hM ?_ (w2 _);have Yy:(convert s d (.slice p k cap)).run P w=(Conv.bytesToString (.slice p k cap)).run P w:=by
   simp only[convert,ac1,underlying,run_program,acZ,hs,hd,ac0];cases p<;>simp[nO]
  rw[hv,Yy];cases p with
  |none=>
   simp only[Builtin.firstCells,ac0,Result.ok.injEq,and_true]at hf;have:ns=[]:=by
    have h1:=congrArg Array.size hf;simp at h1;exact adH h1.symm
   subst this;rfl
  |some p=>
   simp only[Builtin.firstCells,Nat.mul_one]at hf;simp only[Conv.bytesToString,ac1,hf,acZ,List.forIn_toArray];rw[zF (P:=P) _ (λ_ _=>rfl) ns w ByteArray.empty];simp only[acZ,ac0]
   congr 3
   simp
 ·cases he
end
end Go.Jq
namespace Go.Jq
open Go
section
variable{P:Program} {c:Ctx} {m:Mem} {n:Nat} {w:World} {t:Fr} {a:Act}
theorem GH {w:World} {b k:Nat} {arr:Array Value} {T:TypeId} (h:w.heap[b]?=some (.cells arr T (0,0))):
 (w.freeze ⟨b,k,none⟩ 1).heap[b]?=some (.cells arr T (k,k+1)):=by
 simp[World.freeze,Array.getElem?_modify,h]
theorem sx {w:World} {b k j:Nat} (h:j≠b):(w.freeze ⟨b,k,none⟩ 1).heap[j]?=w.heap[j]?:=by
 simp only[World.freeze];rw[if_neg (by omega)];simp only[Array.getElem?_modify];rw[if_neg (Ne.symm h)]
theorem vE {w:World} {b k:Nat}:(w.freeze ⟨b,k,none⟩ 1).heap.size=w.heap.size:=by
 simp only[World.freeze];rw[if_neg (by omega)];simp
theorem vF {w:World} {b k:Nat}:(w.freeze ⟨b,k,none⟩ 1).os=w.os/\(w.freeze ⟨b,k,none⟩ 1).tape=w.tape/\(w.freeze ⟨b,k,none⟩ 1).output=w.output:=by
 simp only[World.freeze];rw[if_neg (by omega)];exact⟨rfl,rfl,rfl⟩
theorem sy (s:List UInt8) (T:TypeId) (w:World):
 ∃w' arr rest cap,(Conv.stringToBytes T ⟨s.toArray⟩).run P w=.ok (.slice (some ⟨w.heap.size,0,none⟩) s.length cap) w'/\js w w' arr T (arr.size,arr.size+1)/\
  arr.toList=(s.map λb=>Value.int .u8 b.toNat)++rest/\s.length<=cap/\arr.size=cap:=by
 have gU:(ByteArray.mk s.toArray).size=s.length:=by show s.toArray.size=_;simp
 generalize fE:Question.cut (.appendCap s.length 0 T) (w.tape w.drawn (.appendCap s.length 0 T))=cap;have hle:s.length<=cap:=by rw[<-fE];simp only[Question.cut];omega
 generalize mV:(ByteArray.mk s.toArray).data.map (λb=>Value.int .u8 b.toNat)++Array.replicate (cap-s.length) (.int .u8 0)=arr;have qi:arr.toList=(s.map λb=>Value.int .u8 b.toNat)++ada (cap-s.length) (.int .u8 0):=by rw[<-mV];simp
 have abu:arr.size=cap:=by rw[<-Array.length_toList,qi];simp;omega
 have q5:(w.drew.alloc (.cells arr T)).heap[w.heap.size]?=some (.cells arr T (0,0)):=by
  have:=(dS w.drew arr T).row;simpa using this
 refine⟨(w.drew.alloc (.cells arr T)).freeze ⟨w.heap.size,arr.size,none⟩ 1,arr,ada (cap-s.length) (.int .u8 0),cap,?_,?_,qi,hle,abu⟩
 ·have Gp:(w.drew.alloc (.cells arr T)).shape? w.heap.size=some (T,arr.size):=by simp only[World.shape?,q5]
  simp only[Conv.stringToBytes,ac1,run_choose,gU,Question.forced,ac5,if_false,fE,World.drew_eq,acZ,newRow,mV,run_newObj,World.alloc_eq,World.size_drew,ac0,
   markStringish,run_shape,Gp,run_freeze]
 ·obtain⟨h1,h2,h3⟩:=@vF (w.drew.alloc (.cells arr T)) w.heap.size arr.size;refine⟨h1,h2,h3,?_,λk hk=>?_,GH q5⟩;·rw[vE];simp
  ·rw[sx (by omega)];exact(dS w.drew arr T).old k (by simpa using hk)
theorem Kl {s d el:TypeId} (hs:P.underlying s=some .string) (hd:P.underlying d=some (.slice el)) (nO:P.underlying el=some (.int .u8)) {x:Operand} (hF:FR c w t a.tmps) (hM:MR c m w) (hn:c.φ n=.free) {v:AV} {e:eX}
 (he:aW (.BA (aX x)) t m n=some (v,e)):dT P (do pure (.value (<-convert s d (a.eval x)))) c m n w v e:=by
 have hx:=bx hF x;simp only[aW]at he;split at he
 ·rename_i bs h1;rw[h1]at hx;cases he;have e1:=e7 hx;obtain⟨w',arr,rest,cap,dD,ep,qi,hle,gU⟩:=sy (P:=P) bs el w;refine pd (u:=.slice (some ⟨w.heap.size,0,none⟩) bs.length cap) hM hn ?_ ep (.inr (acV _)) qi (xI bs) ?_
  ·rw[e1];simp only[convert,ac1,underlying,run_program,acZ,hs,hd,ac0,nO,dD]
  ·simp only[Rel];exact .inr ⟨w.heap.size,cap,(_,arr.size),Ctx.bind_eq,rfl,hle,bO ep.row,by omega⟩
 ·cases he
theorem DS {w:World} {b k:Nat} {arr:Array Value} {T:TypeId} {f:Nat×Nat} (h:w.heap[b]?=some (.cells arr T f)):
 (w.freeze ⟨b,k,none⟩ 1).heap[b]?=some (.cells arr T (if f.1==f.2 then(k,k+1)else(min f.1 k,max f.2 (k+1)))):=by
 obtain⟨lo,hi⟩:=f;simp only[World.freeze];rw[if_neg (by omega)];simp only[Array.getElem?_modify,if_true,h,ady]
theorem Km {s el:TypeId} (hs:P.underlying s=some (.slice el)) (nO:P.underlying el=some (.int .u8)) {x:Operand} (hF:FR c w t a.tmps) (hM:MR c m w) {v:AV} {e:eX}
 (he:aW (.xz (aX x)) t m n=some (v,e)):dT P (do pure (.value (<-convert s s (a.eval x)))) c m n w v e:=by
 have hx:=bx hF x;simp only[aW]at he;split at he
 ·rename_i id e' off len h1;rw[h1]at hx;split at he
  ·rename_i cs b9;split at he;·cases he
   ·rename_i hl;cases he;have hx':=hx;simp only[Rel]at hx;rcases hx with⟨_,_,h2,_⟩|⟨b,cap,N,hb,hv,hle,hN,fE⟩;·exact absurd h2 hl
    ·rcases hM.own id cs b9 with⟨h0,_⟩|⟨b',arr,T,f,fu,gx,hw,hf,vs,rest,ha,hr⟩|⟨_,_,_,h0,_⟩
     rotate_left 2
     ·rw[h0]at hb;cases hb
     ·rw[h0]at hb;cases hb
     ·rw[fu]at hb;cases hb;have rp:=@DS w b arr.size arr T f hw;have uk:xC w (w.freeze ⟨b,arr.size,none⟩ 1) b arr T (if f.1==f.2 then(arr.size,arr.size+1)else(min f.1 arr.size,max f.2 (arr.size+1))):=by
       obtain⟨q1,q2,q3⟩:=@vF w b arr.size;exact⟨q1,q2,q3,vE,λk hk=>sx hk,rp⟩
      have hf':Bz arr.size (if f.1==f.2 then(arr.size,arr.size+1)else(min f.1 arr.size,max f.2 (arr.size+1))):=by
       split;·exact .inr (acV _)
       ·rename_i l6;rcases hf with h3|h3;·simp[h3]at l6
        ·exact .inr (by simp only;omega)
      have lH:∀k q,dc w k=some q->dc (w.freeze ⟨b,arr.size,none⟩ 1) k=some q:=λk q hq=>by
       by_cases ek:k=b;·subst ek;rw[bO hw]at hq;rw[bO rp];exact hq
       ·rw[fT (uk.other k ek)];exact hq
      have zx:ia c c w (w.freeze ⟨b,arr.size,none⟩ 1):=⟨λ_ h=>h,λk hk=>uk.other k λek=>gx (ek▸hk),λ_ _=>rfl,lH⟩;have rz:gm c m b:=⟨id,by rw[b9];rfl,gT.gl fu⟩;refine⟨.value (a.eval x),w.freeze ⟨b,arr.size,none⟩ 1,c,?_,.inl ⟨_,rfl,lB zx _ _ hx'⟩,?_,?_,λ_ _=>rfl,λ_ h=>.inl h⟩
      ·rw[hv];have Gp:w.shape? b=some (T,arr.size):=by simp only[World.shape?,hw]
       simp only[convert,ac1,underlying,run_program,acZ,hs,ac0,nO,BEq.rfl,markStringish,run_shape,Gp,run_freeze]
      ·refine⟨λi cells hi=>?_,hM.inj,λk hk=>by rw[uk.size];exact hM.dm k hk,hM.lC zx.dm zx.same⟩;by_cases xD:(c.φ i).bk=some b
       ·have:i=id:=hM.inj i id b (by simp only[eX.mem]at hi;rw[hi];rfl) (by rw[b9];rfl) xD (gT.gl fu);subst this;simp only[eX.mem]at hi;rw[b9]at hi;cases hi;exact .inr (.inl ⟨b,arr,T,_,fu,gx,rp,hf',vs,rest,ha,eZ zx _ _ hr⟩)
       ·exact(hM.own i cells hi).later zx λk hk=>⟨uk.other k λek=>xD (ek▸hk),λRv=>hM.sep Rv ⟨i,by simp only[eX.mem]at hi;rw[hi];rfl,hk⟩⟩
      ·exact⟨uk.os,uk.tape,uk.output,by rw[uk.size];exact acV _,λk _ hk=>uk.other k λek=>hk (ek▸rz),lH,λ_ h=>h,λ_ h=>.inl h⟩
  ·cases he
 ·cases he
theorem BD {x:Int} (h:0<=x) (h':x<=9223372036854775807):ac9.wrap x=x:=by
 unfold IntKind.wrap;have hb:ac9.bits=64:=rfl;have hs:ac9.signed=true:=rfl;simp only[hb,hs,Bool.true_and];have abv:x%2^64=x:=Int.emod_eq_of_lt h (by omega);rw[abv];have:¬(x≥2^(64-1)):=by
  have h2:(2:Int)^(64-1)=9223372036854775808:=by decide
  rw[h2];omega
 rw[if_neg (by simpa using this)]
theorem Kn {T el:TypeId} {i:TypeInfo} {z:List AV} (hu:P.underlying T=some (.slice el)) (hi:P.info? el=some i) (hz:zeroOf P el=some z) (Yx:z.length≠0) {x y:Operand}
 (hF:FR c w t a.tmps) (hM:MR c m w) (hn:c.φ n=.free) {v:AV} {e:eX} (he:aW (.zC i.size i.bytes z (aX x) (aX y)) t m n=some (v,e)):
 dT P (do pure (.value (<-Instr.makeSlice T (a.eval x) (a.eval y)))) c m n w v e:=by
 have hx:=bx hF x;have hy:=bx hF y;simp only[aW]at he;split at he
 ·rename_i p q h1 h2;rw[h1]at hx;rw[h2]at hy;have e1:=cA hx;have e2:=cA hy;split at he
  ·rename_i cy;obtain⟨hp,hpq,hb,hq⟩:=cy;cases he;obtain⟨zv,DG,Yw⟩:=pg (w:=w) hz;have TC:aU c w z zv.cells.toList:=by rw[Yw];exact fU _
   have qL:=TC.length;have XR:zv.cells.size=z.length:=by simpa using qL
   have hle:p.toNat*i.size<=q.toNat*i.size:=Nat.mul_le_mul_right _ (by omega);refine pd (u:=.slice (some ⟨w.heap.size,0,none⟩) p.toNat q.toNat) hM hn (T:=el) (arr:=(Array.range (q.toNat*i.size)).map λj=>zv.cells[j%zv.cells.size]!) ?_ (dS w _ el) (gh _)
    (vs:=(ac7 (p.toNat*i.size)).map λj=>zv.cells.toList.toArray[j%zv.cells.toList.length]!)
    (rest:=((ac7 (q.toNat*i.size)).drop (p.toNat*i.size)).map λj=>zv.cells[j%zv.cells.size]!) ?_ (ry TC _ (.inr Yx)) ?_
   ·have q5:=BD hp (Int.le_trans hpq hq);have Dz:=BD (Int.le_trans hp hpq) hq;rw[e1,e2];simp only[Instr.makeSlice,ac1,underlying,run_program,acZ,hu,ac0,asInt,asIntOf,typeInfo,hi,q5,Dz];have uB:((decide (q<0)||decide ((i.bytes:Int)*q>2^48))||decide (p<0)||decide (p>q))=false:=by
     have:¬((i.bytes:Int)*q>2^48):=by omega
     simp;omega
    rw[if_neg (by rw[uB];simp)];simp only[ac1,run_askRoom,acZ,run_sizeOf hi];by_cases h0:q.toNat*i.size=0
    ·rw[if_pos h0];simp only[ac1,ac0,acZ,newRow,run_newObj,World.alloc_eq,h0,show Array.range 0=#[] from rfl,Array.map_empty]
    ·rw[if_neg h0];simp only[ac1,DG,ac0,acZ,newRow,run_newObj,World.alloc_eq]
   ·simp only[Array.toList_map,Array.toList_range,Array.toArray_toList,Array.length_toList];rw[<-adC]
    congr 1
    have:=List.take_append_drop (p.toNat*i.size) (ac7 (q.toNat*i.size));rw[List.take_range,Nat.min_eq_left hle]at this;exact this.symm
   ·simp only[Rel];refine .inr ⟨w.heap.size,q.toNat,(el,q.toNat*i.size),Ctx.bind_eq,rfl,by omega,?_,by omega⟩;rw[bO (dS w _ el).row];simp
  ·cases he
 ·cases he
structure We (P:Program) (ts:Array TypeId) (el:TypeId) (i:TypeInfo):Prop where
 s:∃sT,ts[0]?=some sT/\P.underlying sT=some (.slice el)
 x:∃xT u,ts[1]?=some xT/\P.underlying xT=some u/\(∀k,u≠.int k)
 hi:P.info? el=some i
 z:∃zv,i.zero=some zv/\zv.cells.size=i.size
theorem GI {xT:TypeId} {u:TypeDesc} (hu:P.underlying xT=some u) (l6:∀k,u≠.int k):
 ((do pure ((<-underlying xT)matches .int _)):Sem Bool).run P w=.ok false w:=by
 simp only[underlying,ac1,run_program,acZ,hu,ac0]
theorem fl {ts:Array TypeId} {el ty:TypeId} {i:TypeInfo} (hT:We P ts el i) {base:Option Addr} {sLen cap k:Nat} {x:Value} {us:List Value} {w':World}
 (hl:∀w',(Builtin.lenOf x).run P w'=.ok k w') (hf:(Builtin.firstCells i.size k x).run P w=.ok us.toArray w) (hle:sLen+k<=cap)
 (kH:(match base with|some a=>storeCells (a.add (sLen*i.size)) us|none=>pure ()).run P w=.ok () w'):
 (Builtin.append_ ts ty #[.slice base sLen cap,x]).run P w=.ok (.slice base (sLen+k) cap) w':=by
 obtain⟨⟨sT,h0,hs⟩,⟨xT,u,h1,hu,l6⟩,hi,z,hz,XR⟩:=hT;have gx:=GI (P:=P) (w:=w) hu l6;simp only[Builtin.append_,h0,h1,List.getElem?_toArray,List.getElem?_cons_zero,List.getElem?_cons_succ,ac1,underlying,run_program,acZ,hs,ac0,run_sizeOf hi];simp only[underlying,ac1,run_program,acZ,hu,ac0]at gx;cases u<;>first
  |exact absurd rfl (l6 _)
  |(simp only[hu,ac0,ac1,acZ,hl,ac5,if_false]
    rw[if_pos hle];simp only[Bool.not_false,if_true,ac1,hf,acZ];cases base with
    |none=>simp only[ac0,Result.ok.injEq,true_and]at kH;subst kH;rfl
    |some b=>simp only[ac1,kH,acZ,ac0])
theorem run_append_grow {ts:Array TypeId} {el ty:TypeId} {i:TypeInfo} (hT:We P ts el i) {base:Option Addr} {sLen cap k:Nat} {x:Value} {vs us:List Value}
 (hl:∀w',(Builtin.lenOf x).run P w'=.ok k w') (hf:∀w',w'.heap=w.heap->(Builtin.firstCells i.size k x).run P w'=.ok us.toArray w')
 (ho:∀w',w'.heap=w.heap->(Builtin.firstCells i.size sLen (.slice base sLen cap)).run P w'=.ok vs.toArray w')
 (hle:cap<sLen+k) (hb:(sLen+k)*i.bytes<=140737488351232) (Yz:sLen+k<=9223372036854775807) (xF:vs.length=sLen*i.size) (wD:us.length=k*i.size):
 ∃w' arr rest pq,(Builtin.append_ ts ty #[.slice base sLen cap,x]).run P w=.ok (.slice (some ⟨w.heap.size,0,none⟩) (sLen+k) pq) w'/\js w w' arr el (0,0)/\
  arr.toList=(vs++us)++rest/\sLen+k<=pq/\arr.size=pq*i.size:=by
 obtain⟨⟨sT,h0,hs⟩,⟨xT,u,h1,hu,l6⟩,hi,z,hz,XR⟩:=hT;generalize fE:Question.cut (.appendCap (sLen+k) cap el) (w.tape w.drawn (.appendCap (sLen+k) cap el))=pq;have hnc:sLen+k<=pq:=by rw[<-fE];simp only[Question.cut];omega
 have pt:¬(Builtin.nextslicecap (sLen+k) cap*i.bytes>2^48):=by
  have:=growslice_fits (need:=sLen+k) (old:=cap) (bytes:=i.bytes) hle (by omega);omega
 have YA:¬(((sLen+k:Nat):Int)>ac9.max/\((false:Bool)=true\/i.bytes=0)):=by
  have:ac9.max=9223372036854775807:=by rfl
  rw[this];omega
 generalize oQ:Builtin.zeroCells z.cells (pq-(sLen+k))=rest;have nH:rest.size=(pq-(sLen+k))*i.size:=by rw[<-oQ,<-XR];simp[Builtin.zeroCells]
 refine⟨w.drew.alloc (.cells (vs.toArray++us.toArray++rest) el),vs.toArray++us.toArray++rest,rest.toList,pq,?_,?_,by simp,hnc,?_⟩
 ·simp only[Builtin.append_,h0,h1,List.getElem?_toArray,List.getElem?_cons_zero,List.getElem?_cons_succ,ac1,underlying,run_program,acZ,hs,ac0,run_sizeOf hi];cases u<;>first
   |exact absurd rfl (l6 _)
   |(simp only[hu,ac0,ac1,acZ,hl,ac5,if_false]
     rw[if_neg (Nat.not_le.2 hle)];simp only[ac1,typeInfo,run_program,acZ,hi,ac0,ac5]at YA⊢;rw[if_neg YA];simp only[ac1,run_program,acZ,hi,ac0];rw[if_neg pt];simp only[ac1,run_choose,Question.forced,ac5,if_false,fE,World.drew_eq,acZ,run_askRoom,ho w.drew rfl,Bool.not_false,if_true,hf w.drew rfl,zeroValue,typeInfo,run_program,hi,ac0,hz,oQ,
      newRow,run_newObj,World.alloc_eq,World.size_drew])
 ·have h:=dS w.drew (vs.toArray++us.toArray++rest) el;exact⟨h.os,h.tape,h.output,h.size,h.old,h.row⟩
 ·simp only[Array.size_append,List.size_toArray,xF,wD,nH];rw[<-Nat.add_mul,<-Nat.add_mul]
  congr 1
  omega
theorem mW {id b:Nat} {cs:List AV} (hM:MR c m w) (hid:ai m id=some cs) (eI:c.φ id=.mP b):
 ∃arr T f vs rest,¬c.dm b/\w.heap[b]?=some (.cells arr T f)/\Bz arr.size f/\arr.toList=vs++rest/\aU c w cs vs:=by
 rcases hM.own id cs hid with⟨h0,_⟩|⟨b',arr,T,f,hb,hi,hw,hf,vs,rest,ha,hr⟩|⟨_,_,_,h0,_⟩;·rw[h0]at eI;cases eI
 ·rw[hb]at eI;cases eI;exact⟨arr,T,f,vs,rest,hi,hw,hf,ha,hr⟩
 ·rw[h0]at eI;cases eI
theorem MI {ts:Array TypeId} {el ty:TypeId} {i:TypeInfo} (hT:We P ts el i) {x y:Operand} (hF:FR c w t a.tmps) (hM:MR c m w) (hn:c.φ n=.free) {v:AV} {e:eX}
 (hbz:i.bytes≠0)
 (he:aW (.app i.size i.bytes el (aX x) (aX y)) t m n=some (v,e)):dT P (do pure (.value (<-Builtin.append_ ts ty #[a.eval x,a.eval y]))) c m n w v e:=by
 have hx:=bx hF x;have hy:=bx hF y;have Yz:∀k len,(len+k)*i.bytes<=140737488351232->len+k<=9223372036854775807:=λk len h=>by
  have:=Nat.le_mul_of_pos_right (len+k) (Nat.pos_of_ne_zero hbz);omega
 simp only[aW]at he;split at he
 ·rename_i k new nO;obtain⟨hlen,us,wD,Dy⟩:=uA (P:=P) hy hM nO;have hnl:=uy nO;have zG:us.length=k*i.size:=by rw[wD.length,hnl]
  split at he
  ·rename_i mf;rw[mf]at hx;have e1:=iY hx;split at he
   ·rename_i hb;split at he
    ·rename_i hk;cases he;subst hk;refine bq (u:=.slice none 0 0) hM ?_ (by simp[Rel,du]);rw[e1];exact fl (us:=us) hT hlen (Dy w rfl) (acV _) rfl
    ·rename_i hk;cases he;obtain⟨w',arr,rest,cap,dD,ep,qi,hle,gU⟩:=run_append_grow (ty:=ty) (base:=none) (sLen:=0) (cap:=0) (vs:=[]) hT hlen Dy (λ_ _=>rfl) (by omega) (by simpa using hb) (Yz k 0 (by simpa using hb)) (by simp) zG;simp only[ac2,adF]at dD qi hle;refine pd hM hn ?_ ep (gh _) qi wD ?_ (u:=.slice (some ⟨w.heap.size,0,none⟩) k cap);·rw[e1];exact dD
     ·simp only[Rel];exact .inr ⟨w.heap.size,cap,(_,arr.size),Ctx.bind_eq,rfl,hle,bO ep.row,by omega⟩
   ·cases he
  ·rename_i id e' off len mf;rw[mf]at hx;split at he
   ·rename_i cs b9;split at he
    ·rename_i cy;obtain⟨rfl,nP,hb⟩:=cy;split at he
     ·rename_i hk;subst hk;cases he;simp only[Rel]at hx;rcases hx with⟨h0,rfl,rfl,a0,hv⟩|⟨b,cap,N,fu,hv,hle,hN,fE⟩
      ·refine bq (u:=.slice a0 0 0) hM ?_ (by simp only[Rel];exact .inl ⟨h0,trivial,trivial,a0,rfl⟩);have:us=[]:=adH (by rw[zG];simp);subst this;rw[hv];exact fl (us:=[]) hT hlen (Dy w rfl) (acV _) (by cases a0<;>rfl)
      ·refine bq (u:=.slice (some ⟨b,off,none⟩) len cap) hM ?_ (by simp only[Rel];exact .inr ⟨b,cap,N,fu,rfl,hle,hN,fE⟩);have:us=[]:=adH (by rw[zG];simp);subst this;rw[hv];exact fl (us:=[]) hT hlen (Dy w rfl) (by omega) rfl
     ·rename_i hk;split at he
      ·rename_i abw;subst abw;cases he;have MJ:=Yz k len hb;simp only[ac2]at nP;simp only[Rel]at hx;rcases hx with⟨h0,_,rfl,a0,hv⟩|⟨b,cap,N,fu,hv,hle,hN,fE⟩
       ·
        have GJ:cs=[]:=adH (by omega);subst GJ;obtain⟨w',arr,rest,cap,dD,ep,qi,hle,gU⟩:=run_append_grow (ty:=ty) (base:=a0) (sLen:=0) (cap:=0) (vs:=[]) hT hlen Dy (λw' _=>by cases a0<;>simp[Builtin.firstCells,loadCells,loadCellsFrom]) (by omega) hb MJ (by simp) zG;simp only[ac2,adF]at dD qi hle;refine⟨.value (.slice (some ⟨w.heap.size,0,none⟩) k cap),w',c.bind n (.mP w.heap.size),?_,.inl ⟨_,rfl,?_⟩,?_,ep.step n,λ_ h=>Ctx.cr (h.resolve_right (by simp[eX.next])),λb hb=>?_⟩;·rw[hv];simp[dD]
        ·simp only[Rel,ac2];exact .inr ⟨w.heap.size,cap,(_,arr.size),Ctx.bind_eq,rfl,hle,bO ep.row,by omega⟩
        ·exact(hM.del id).new ep hn (gh _) qi wD
        ·rcases qc hb with h|h;·exact .inl (wY h)
         ·exact .inr h
       ·obtain⟨arr,T,f,vs,rest,gx,hw,hf,ha,hr⟩:=mW hM b9 fu;have r9:vs.length=len*i.size:=by rw[hr.length];exact nP.symm
        have hNs:N=(T,arr.size):=by rw[bO hw]at hN;exact(Option.some.inj hN).symm
        subst hNs;have gU:arr.size=vs.length+rest.length:=by rw[<-Array.length_toList,ha,adk]
        by_cases pt:len+k<=cap
        ·
         have hmul:(len+k)*i.size<=cap*i.size:=Nat.mul_le_mul_right _ pt;rw[Nat.add_mul]at hmul;obtain⟨w',kH,uk⟩:=fD P b T f us w arr (len*i.size) 0 hw hf (pe wD (uz nO)) (by omega)
         ·obtain⟨mc,hp,rv⟩:=uw us vs rest (by omega);have mV:fR arr.toList (len*i.size+0) us=vs++us++mc:=by rw[ha,Nat.add_zero,<-r9];exact hp
          rw[mV]at uk;have hs:(vs++us++mc).toArray.size=arr.size:=by simp;omega
          have TF:=hM.put (cells:=cs++new) (vs:=vs++us) (rest:=mc) b9 fu uk hw hs gx hf (by simp) (hr.append wD);have RF:=TF.again (n:=n) (by rw[bh,if_pos rfl]) hn (.mP b) fu;have BE:∀j,ai (an (aB (an m id (cs++new)) id) n (cs++new)) j=ai (an (aB m id) n (cs++new)) j:=by
           intro j;simp only[bh,eF];by_cases h1:id=j<;>simp[h1]
          refine⟨.value (.slice (some ⟨b,0,none⟩) (len+k) cap),w',c.bind n (.mP b),?_,.inl ⟨_,rfl,?_⟩,?_,?_,λ_ h=>Ctx.cr (h.resolve_right (by simp[eX.next])),λb' sa=>.inl (Aq (id:=id) (by rw[b9];rfl) fu sa)⟩
          ·rw[hv];have:=fl (ty:=ty) (base:=some ⟨b,0,none⟩) hT hlen (Dy w rfl) pt (w':=w') (by simp only[addr_add,ac2];exact kH);simp[this]
          ·simp only[Rel];refine .inr ⟨b,cap,(T,arr.size),Ctx.bind_eq,rfl,pt,?_,fE⟩;rw[bO uk.row,hs]
          ·exact⟨λj cells hj=>RF.own j cells (by rw[BE];exact hj),λj j' b2 h1 h2=>RF.inj j j' b2 (by rw[BE];exact h1) (by rw[BE];exact h2),RF.dm,RF.wX⟩
          ·have:=uk.step (c:=c) hw hs ⟨id,by rw[b9];rfl,gT.gl fu⟩;exact⟨this.os,this.tape,this.output,this.size,this.cI,this.rows,this.dm,this.sk⟩
        ·
         have hold:∀w',w'.heap=w.heap->(Builtin.firstCells i.size len (.slice (some ⟨b,0,none⟩) len cap)).run P w'=.ok vs.toArray w':=by
          intro w' Q6;have:=run_loadCells P w' b 0 vs λj u hj=>by
           have h1:w'.heap[b]?=some (.cells arr T f):=by rw[Q6];exact hw
           rw[cell_of_row h1,<-Array.getElem?_toList,ha,ac2,List.getElem?_append_left (List.getElem?_eq_some_iff.1 hj).1];exact hj
          rw[r9]at this;exact this
         obtain⟨w',qK,mc,xJ,dD,ep,qi,DQ,uC⟩:=run_append_grow (ty:=ty) (base:=some ⟨b,0,none⟩) (sLen:=len) (cap:=cap) (vs:=vs) hT hlen Dy hold (by omega) hb MJ r9 zG;refine⟨.value (.slice (some ⟨w.heap.size,0,none⟩) (len+k) xJ),w',c.bind n (.mP w.heap.size),?_,.inl ⟨_,rfl,?_⟩,?_,ep.step n,λ_ h=>Ctx.cr (h.resolve_right (by simp[eX.next])),λb hb=>?_⟩;·rw[hv];simp[dD]
         ·simp only[Rel];exact .inr ⟨w.heap.size,xJ,(_,qK.size),Ctx.bind_eq,rfl,DQ,bO ep.row,by omega⟩
         ·exact(hM.del id).new ep hn (gh _) qi (hr.append wD)
         ·rcases qc hb with h|h;·exact .inl (wY h)
          ·exact .inr h
      ·cases he
    ·cases he
   ·cases he
  ·rename_i id T' len mf;rw[mf]at hx;split at he
   ·rename_i cs b9;split at he
    ·rename_i cy;obtain⟨RG,rfl,YB,hb⟩:=cy;have nP:len*i.size=cs.length:=by rw[RG,Nat.mul_one];exact YB
     split at he
     ·rename_i hk;subst hk;cases he;simp only[Rel]at hx;rcases hx with⟨h0,rfl,hv⟩|⟨b,cap,N,fu,hv,hle,hN,fE⟩
      ·refine bq (u:=.slice none 0 0) hM ?_ (by simp only[Rel];exact .inl ⟨h0,trivial,trivial⟩);rw[hv];exact fl (us:=us) hT hlen (Dy w rfl) (acV _) rfl
      ·refine bq (u:=.slice (some ⟨b,0,none⟩) len cap) hM ?_ (by simp only[Rel];exact .inr ⟨b,cap,N,fu,rfl,hle,hN,fE⟩);have:us=[]:=adH (by rw[zG];simp);subst this;rw[hv];exact fl (us:=[]) hT hlen (Dy w rfl) (by omega) rfl
     ·rename_i hk
      ·cases he;have MJ:=Yz k len hb;simp only[Rel]at hx;rcases hx with⟨h0,rfl,hv⟩|⟨b,cap,N,fu,hv,hle,hN,fE⟩
       ·
        have GJ:cs=[]:=adH (by omega);subst GJ;obtain⟨w',arr,rest,cap,dD,ep,qi,hle,gU⟩:=run_append_grow (ty:=ty) (base:=none) (sLen:=0) (cap:=0) (vs:=[]) hT hlen Dy (λ_ _=>rfl) (by omega) hb MJ (by simp) zG;simp only[ac2,adF]at dD qi hle;refine⟨.value (.slice (some ⟨w.heap.size,0,none⟩) k cap),w',c.bind n (.mP w.heap.size),?_,.inl ⟨_,rfl,?_⟩,?_,ep.step n,λ_ h=>Ctx.cr (h.resolve_right (by simp[eX.next])),λb hb=>?_⟩;·rw[hv];simp[dD]
        ·simp only[Rel,ac2];exact .inr ⟨w.heap.size,cap,arr.size,Ctx.bind_eq,rfl,hle,bO ep.row,by rw[gU,RG];omega⟩
        ·exact(hM.del id).new ep hn (gh _) qi wD
        ·rcases qc hb with h|h;·exact .inl (wY h)
         ·exact .inr h
       ·obtain⟨arr,T,f,vs,rest,gx,hw,hf,ha,hr⟩:=mW hM b9 fu;have r9:vs.length=len*i.size:=by rw[hr.length];exact nP.symm
        have hNs:(T,arr.size)=(T',N):=by rw[bO hw]at hN;exact Option.some.inj hN
        cases hNs;have acC:cap*i.size<=arr.size:=by rw[RG];omega
        have gU:arr.size=vs.length+rest.length:=by rw[<-Array.length_toList,ha,adk]
        by_cases pt:len+k<=cap
        ·
         have hmul:(len+k)*i.size<=cap*i.size:=Nat.mul_le_mul_right _ pt;rw[Nat.add_mul]at hmul;obtain⟨w',kH,uk⟩:=fD P b _ f us w arr (len*i.size) 0 hw hf (pe wD (uz nO)) (by omega)
         ·obtain⟨mc,hp,rv⟩:=uw us vs rest (by omega);have mV:fR arr.toList (len*i.size+0) us=vs++us++mc:=by rw[ha,Nat.add_zero,<-r9];exact hp
          rw[mV]at uk;have hs:(vs++us++mc).toArray.size=arr.size:=by simp;omega
          have TF:=hM.put (cells:=cs++new) (vs:=vs++us) (rest:=mc) b9 fu uk hw hs gx hf (by simp) (hr.append wD);have RF:=TF.again (n:=n) (by rw[bh,if_pos rfl]) hn (.mP b) fu;have BE:∀j,ai (an (aB (an m id (cs++new)) id) n (cs++new)) j=ai (an (aB m id) n (cs++new)) j:=by
           intro j;simp only[bh,eF];by_cases h1:id=j<;>simp[h1]
          refine⟨.value (.slice (some ⟨b,0,none⟩) (len+k) cap),w',c.bind n (.mP b),?_,.inl ⟨_,rfl,?_⟩,?_,?_,λ_ h=>Ctx.cr (h.resolve_right (by simp[eX.next])),λb' sa=>.inl (Aq (id:=id) (by rw[b9];rfl) fu sa)⟩
          ·rw[hv];have:=fl (ty:=ty) (base:=some ⟨b,0,none⟩) hT hlen (Dy w rfl) pt (w':=w') (by simp only[addr_add,ac2];exact kH);simp[this]
          ·simp only[Rel];refine .inr ⟨b,cap,arr.size,Ctx.bind_eq,rfl,pt,?_,fE⟩;rw[bO uk.row,hs]
          ·exact⟨λj cells hj=>RF.own j cells (by rw[BE];exact hj),λj j' b2 h1 h2=>RF.inj j j' b2 (by rw[BE];exact h1) (by rw[BE];exact h2),RF.dm,RF.wX⟩
          ·have:=uk.step (c:=c) hw hs ⟨id,by rw[b9];rfl,gT.gl fu⟩;exact⟨this.os,this.tape,this.output,this.size,this.cI,this.rows,this.dm,this.sk⟩
        ·
         have hold:∀w',w'.heap=w.heap->(Builtin.firstCells i.size len (.slice (some ⟨b,0,none⟩) len cap)).run P w'=.ok vs.toArray w':=by
          intro w' Q6;have:=run_loadCells P w' b 0 vs λj u hj=>by
           have h1:w'.heap[b]?=some (.cells arr T' f):=by rw[Q6];exact hw
           rw[cell_of_row h1,<-Array.getElem?_toList,ha,ac2,List.getElem?_append_left (List.getElem?_eq_some_iff.1 hj).1];exact hj
          rw[r9]at this;exact this
         obtain⟨w',qK,mc,xJ,dD,ep,qi,DQ,uC⟩:=run_append_grow (ty:=ty) (base:=some ⟨b,0,none⟩) (sLen:=len) (cap:=cap) (vs:=vs) hT hlen Dy hold (by omega) hb MJ r9 zG;refine⟨.value (.slice (some ⟨w.heap.size,0,none⟩) (len+k) xJ),w',c.bind n (.mP w.heap.size),?_,.inl ⟨_,rfl,?_⟩,?_,ep.step n,λ_ h=>Ctx.cr (h.resolve_right (by simp[eX.next])),λb hb=>?_⟩;·rw[hv];simp[dD]
         ·simp only[Rel];exact .inr ⟨w.heap.size,xJ,qK.size,Ctx.bind_eq,rfl,DQ,bO ep.row,by rw[uC,RG];omega⟩
         ·exact(hM.del id).new ep hn (gh _) qi (hr.append wD)
         ·rcases qc hb with h|h;·exact .inl (wY h)
          ·exact .inr h
    ·cases he
   ·cases he
  ·cases he
 ·cases he
end
end Go.Jq
namespace Go.Jq
open Go
section
variable{P:Program} {c:Ctx} {m:Mem} {n:Nat} {w:World} {t:Fr} {a:Act}
theorem MR.MK (hM:MR c m w) (hn:c.φ n=.free):MR (c.bind n .none) (an m n []) w/\∀b,gm (c.bind n .none) (an m n []) b->gm c m b:=by
 have hl:ia c (c.bind n .none) w w:=⟨λ_ h=>h,λ_ _=>rfl,qb hn λ_ h=>Ctx.cr h,λ_ _ h=>h⟩;have key:∀{id b},(ai (an m n []) id).isSome->((c.bind n .none).φ id).bk=some b->(ai m id).isSome/\(c.φ id).bk=some b:=λ{id b} h1 h2=>by
  by_cases e:id=n;·subst e;rw[Ctx.bind_eq]at h2;cases h2
  ·rw[Ctx.cr e]at h2;rw[bh,if_neg (Ne.symm e)]at h1;exact⟨h1,h2⟩
 refine⟨⟨λid cells hid=>?_,λid j3 b h h' hb fu=>hM.inj id j3 b (key h hb).1 (key h' fu).1 (key h hb).2 (key h' fu).2,hM.dm,hM.wX⟩,λb ⟨id,h1,h2⟩=>⟨id,key h1 h2⟩⟩;rw[bh]at hid;split at hid;·rename_i e;subst e;cases hid;exact .inl ⟨Ctx.bind_eq,rfl⟩
 ·exact(hM.own id cells hid).later hl λb hb=>⟨rfl,λhi=>hM.sep hi ⟨id,by rw[hid];rfl,hb⟩⟩
theorem uD {x:Operand} {b:Nat} (hF:FR c w t a.tmps) (h:qJ (ev t (aX x))=some b):∃k j,a.eval x=.int k j/\0<=j/\j.toNat=b:=by
 have hx:=bx (w:=w) hF x;unfold qJ at h;split at h
 ·rename_i k j h0;rw[h0]at hx;split at h
  ·rename_i hj;cases h;exact⟨k,j,cA hx,hj,rfl⟩
  ·cases h
 ·cases h
theorem xK {x:Option Operand} {d b:Nat} (hF:FR c w t a.tmps) (h:qJ (ev t ((x.map aX).getD (.c (.d (.int .i64 (d:Int))))))=some b):
 (x=none/\b=d)\/∃y k j,x=some y/\a.eval y=.int k j/\0<=j/\j.toNat=b:=by
 cases x with
 |none=>
  simp only[Option.map_none,Option.getD_none,ev,qJ]at h;split at h;·cases h;exact .inl ⟨rfl,by simp⟩
  ·cases h
 |some y=>
  obtain⟨k,j,h1,h2,h3⟩:=uD (w:=w) hF h;exact .inr ⟨y,k,j,rfl,h1,h2,h3⟩
theorem Ko {T el:TypeId} {q:Nat} {i:TypeInfo} (hu:P.underlying T=some (.array q el)) (gb:P.info? el=some i) {x:Operand} {lo hi:Option Operand} (hF:FR c w t a.tmps) (hM:MR c m w) {v:AV} {e:eX}
 (he:aW (.iW (.xw q i.size) [aX x,(lo.map aX).getD (.c (.d (.int .i64 0))),(hi.map aX).getD (.c (.d (.int .i64 (q:Int))))]) t m n=some (v,e)):
 dT P (do pure (.value (<-Instr.sliceAt T (a.eval x) (lo.map a.eval) (hi.map a.eval) none))) c m n w v e:=by
 have hx:=bx hF x;simp only[aW,ade,adu]at he;unfold kg at he;split at he<;>(try(cases‹jL.xw q i.size=_›))
 ·rename_i id off vlo vhi q6;simp only[List.cons.injEq,and_true]at q6;obtain⟨h1,rfl,rfl⟩:=q6;rw[h1]at hx;simp only[Rel]at hx;obtain⟨b,hb,hv⟩:=hx;split at he
  ·rename_i cs l h b9 hl hh;split at he
   ·rename_i cy;obtain⟨hlh,hhq,pt⟩:=cy;cases he;obtain⟨arr,T',f,vs,rest,gx,hw,hf,ha,hr⟩:=mW hM b9 hb;have r9:=hr.length;have gU:arr.size=vs.length+rest.length:=by rw[<-Array.length_toList,ha,adk]
    have XS:=kG (P:=P) (w:=w) (isSlice:=false) (cap:=q) (xK (d:=0) hF hl) (xK hF hh) hlh hhq;refine bq (u:=.slice (some (if q=l then⟨b,off,none⟩else(⟨b,off,none⟩:Addr).add (l*i.size))) (h-l) (q-l)) hM ?_ ?_;·simp only[Instr.sliceAt,ac1,underlying,run_program,acZ,hu,ac0,hv,Instr.sureAddr,XS,run_sizeOf gb]
    ·split
     ·rename_i abx;subst abx;simp only[Rel,du];exact⟨_,_,by rw[Nat.sub_self],by omega,.inl ⟨trivial,trivial⟩⟩
     ·simp only[Rel];rw[if_neg (by omega),addr_add];refine .inr ⟨b,q-l,(T',arr.size),hb,rfl,by omega,bO hw,?_⟩;have:l*i.size+(q-l)*i.size=q*i.size:=by rw[<-Nat.add_mul];congr 1;omega
      omega
   ·cases he
  ·cases he
 ·cases he
theorem Kp {T el:TypeId} {i:TypeInfo} (hu:P.underlying T=some (.slice el)) (gb:P.info? el=some i) {x hi mx:Operand} {lo:Option Operand} (hF:FR c w t a.tmps) (hM:MR c m w) (hn:c.φ n=.free) {v:AV} {e:eX}
 (he:aW (.iW (.Gy i.size) [aX x,(lo.map aX).getD (.c (.d (.int .i64 0))),aX hi,aX mx]) t m n=some (v,e)):
 dT P (do pure (.value (<-Instr.sliceAt T (a.eval x) (lo.map a.eval) (some (a.eval hi)) (some (a.eval mx))))) c m n w v e:=by
 have hx:=bx hF x;simp only[aW,ade,adu]at he;unfold kg at he;split at he<;>(try(cases‹jL.Gy i.size=_›))
 ·rename_i vx vlo vhi vmx q6;simp only[List.cons.injEq,and_true]at q6;obtain⟨rfl,rfl,rfl,rfl⟩:=q6;split at he
  ·rename_i len l h r hlen hl hh hr;obtain⟨p,cap,hv,hle⟩:=BC hx hlen;obtain⟨kh,jh,eh,h1,h2⟩:=uD (w:=w) hF hh;obtain⟨kr,jr,er,h3,h4⟩:=uD (w:=w) hF hr;have dD:l<=h->h<=r->r<=cap->(Instr.sliceAt T (a.eval x) (lo.map a.eval) (some (a.eval hi)) (some (a.eval mx))).run P w=.ok (.slice (if r=l then p else p.map (·.add (l*i.size))) (h-l) (r-l)) w:=by
    intro q1 q2 q3;have XS:(Instr.sliceBounds true len cap (lo.map a.eval) (some (a.eval hi)) (some (a.eval mx))).run P w=.ok (l,h,r) w:=by
     have b1:∀code,(Instr.sliceBound (a.eval mx) cap code).run P w=.ok r w:=λcode=>by rw[<-h4];exact jO er ⟨h3,by omega⟩ code
     have b2:∀code,(Instr.sliceBound (a.eval hi) r code).run P w=.ok h w:=λcode=>by rw[<-h2];exact jO eh ⟨h1,by omega⟩ code
     unfold Instr.sliceBounds;rcases xK (w:=w) (d:=0) hF hl with⟨rfl,rfl⟩|⟨y,k,j,rfl,hy,hj,TG⟩;·simp only[Option.map_none,ac1,ac0,acZ,b1,b2]
     ·have b3:∀code,(Instr.sliceBound (a.eval y) h code).run P w=.ok l w:=λcode=>by rw[<-TG];exact jO hy ⟨hj,by omega⟩ code
      simp only[ady,ac1,ac0,acZ,b1,b2,b3]
    rw[hv];simp only[Instr.sliceAt,ac1,underlying,run_program,acZ,hu,Instr.slice,XS,run_sizeOf gb,ac0]
   split at he
   ·rename_i cy;obtain⟨rfl,rfl,rfl⟩:=cy;cases he;obtain⟨sb,ho⟩:=hM.MK hn;refine⟨.value (.slice p 0 0),w,c.bind n .none,by simp[dD],.inl ⟨_,rfl,?_⟩,sb,⟨rfl,rfl,rfl,acV _,λ_ _ _=>rfl,λ_ _ h=>h,λ_ h=>h,λ_ h=>.inl h⟩,λ_ h=>Ctx.cr (h.resolve_right (by simp[eX.next])),λb hb=>.inl (ho b hb)⟩;simp only[Rel];exact .inl ⟨Ctx.bind_eq,trivial,trivial,p,rfl⟩
   ·split at he
    ·rename_i cy;obtain⟨rfl,e1,e2⟩:=cy;subst e1;subst e2;cases he;have hp:∀q:Nat,(if q=0 then p else p.map (·.add (0*i.size)))=p:=λq=>by
      split;·rfl
      ·cases p<;>simp[Addr.add]
     have ML:=dD (Nat.zero_le _) (acV _) hle;rw[hp,Nat.sub_zero]at ML;refine bq hM ML ?_;clear dD ML hl hh hr h2 h4 eh er;revert hx hlen;generalize ev t (aX x)=vx;intro hx hlen;unfold ir at hlen;split at hlen<;>cases hlen;·have:=iY hx;rw[this]at hv;cases hv;simp[Rel,du]
     ·simp only[Rel,du]at hx⊢;obtain⟨p',xJ,zE,hn',hx⟩:=hx;rw[zE]at hv;cases hv;exact⟨_,_,rfl,acV _,hx⟩
     ·rename_i id de off;simp only[Rel]at hx⊢;rcases hx with⟨h0,Kq,DA,_,zE⟩|⟨b,xJ,N,hb,zE,DQ,hN,fE⟩;·exact .inl ⟨h0,Kq,DA,p,by rw[DA]⟩
      ·rw[zE]at hv;cases hv;refine .inr ⟨b,_,N,hb,rfl,acV _,hN,?_⟩;have:=Nat.mul_le_mul_right de DQ;omega
     ·simp only[Rel]at hx⊢;obtain⟨p',xJ,zE,hn'⟩:=hx;rw[zE]at hv;cases hv;exact⟨_,_,rfl,hn'⟩
    ·cases he
  ·cases he
 ·exact((by assumption:∀(de:Nat) (x lo hi mx:AV),jL.Gy i.size=jL.Gy de->_=[x,lo,hi,mx]->False) _ _ _ _ _ rfl rfl).elim
theorem Kr {ts:Array TypeId} {s el ty:TypeId} {i:TypeInfo} (hs:ts[0]?=some s) (hu:P.underlying s=some (.slice el)) (gb:P.info? el=some i) {x y:Operand} (hF:FR c w t a.tmps) (hM:MR c m w) {v:AV} {e:eX}
 (he:aW (.iW (.An i.size) [aX x,aX y]) t m n=some (v,e)):dT P (do pure (.value (<-Builtin.copy_ ts ty #[a.eval x,a.eval y]))) c m n w v e:=by
 have hx:=bx hF x;have hy:=bx hF y;simp only[aW,ade,adu]at he;unfold kg at he;split at he<;>(try(cases‹jL.An i.size=_›))
 ·rename_i id e' off len vy q6;simp only[List.cons.injEq,and_true]at q6;obtain⟨h1,rfl⟩:=q6;rw[h1]at hx;split at he
  ·rename_i cs k new b9 nO;split at he
   ·rename_i cy;obtain⟨rfl,MN,Ix,pt⟩:=cy;cases he;simp only[Rel]at hx;rcases hx with⟨_,_,h2,_⟩|⟨b,cap,N,hb,hv,hle,hN,fE⟩;·exact absurd h2 Ix
    ·obtain⟨hlen,us,wD,Dy⟩:=uA (P:=P) hy hM nO;obtain⟨arr,T,f,vs,rest,gx,hw,hf,ha,hr⟩:=mW hM b9 hb;have hnl:=uy nO;have zG:=wD.length;have r9:=hr.length;have gU:arr.size=vs.length+rest.length:=by rw[<-Array.length_toList,ha,adk]
     obtain⟨w',kH,uk⟩:=fD P b T f us w arr off 0 hw hf (pe wD (uz nO)) (by omega);have uC:(fR arr.toList (off+0) us).toArray.size=arr.size:=by simp[kY]
     refine⟨.value (.int .i64 (k:Int)),w',c,?_,.inl ⟨_,rfl,gV _ _⟩,?_,uk.step hw uC ⟨id,by rw[b9];rfl,gT.gl hb⟩,λ_ _=>rfl,λb hb=>.inl (qd b9 hb)⟩
     ·have uE:Nat.min k len=k:=Nat.min_eq_left MN;simp only[Builtin.copy_,ac1,hs,List.getElem?_toArray,List.getElem?_cons_zero,List.getElem?_cons_succ,underlying,run_program,acZ,hu,hv,hlen,uE,run_sizeOf gb,Dy w rfl,kH,ac0,goInt]
     ·refine hM.put b9 hb uk hw uC gx hf (vs:=fR vs off us) (rest:=rest) ?_ (lF new us cs vs off hr wD);simp only[ha,Nat.add_zero];rw[kZ us vs rest off (by omega)]
   ·cases he
  ·cases he
 ·cases he
theorem pw (op:BinOp) (T:TypeId) (x y:Operand) {u v:Value} (hu:∃a n k,u=.slice a n k):(eqGuard op T x y u v).run P w=.ok () w:=by
 unfold eqGuard;obtain⟨a,n,k,rfl⟩:=hu;cases op<;>cases v<;>rfl
theorem MO {x:AV} {v:Value} {neg:Bool} {r:AV} {e:eX} (hx:Rel c w x v) (h:kg (.ur neg) [x,.d .cE] m n=some (r,e)):e=.nil/\∃a k cap,v=.slice a k cap/\r=dq (a.isNone !=neg):=by
 simp only[kg]at h;split at h;·cases h;have:=iY hx;exact⟨rfl,none,0,0,this,by simp⟩
 ·rename_i k cs;split at h;·cases h
  ·rename_i h0;cases h;simp only[Rel,du]at hx;obtain⟨a,cap,hv,hn,hx⟩:=hx;rcases hx with⟨h1,_⟩|⟨b,o,ha,_⟩;·exact absurd h1 h0
   ·exact⟨rfl,a,k,cap,hv,by subst ha;simp⟩
 ·rename_i z;cases h;simp only[Rel]at hx;obtain⟨a,cap,hv,hz⟩:=hx;exact⟨rfl,a,0,cap,hv,by rw[hz]⟩
 ·rename_i id de off k;split at h;·cases h
  ·rename_i h0;cases h;simp only[Rel]at hx;rcases hx with⟨_,_,h1,_⟩|⟨b,cap,N,_,hv,_⟩;·exact absurd h1 h0
   ·exact⟨rfl,_,_,cap,hv,by simp⟩
 ·cases h
theorem As {op:BinOp} {neg:Bool} (wF:(op=.eql/\neg=false)\/(op=.neq/\neg=true)) {T el:TypeId} (nO:P.underlying T=some (.slice el)) {x y:Operand}
 (hF:FR c w t a.tmps) (hM:MR c m w) {v:AV} {e:eX} (he:aW (.iW (.ur neg) [aX x,aX y]) t m n=some (v,e)):
 dT P (do pure (.value (<-(do eqGuard op T x y (a.eval x) (a.eval y);binOp op T (a.eval x) (a.eval y))))) c m n w v e:=by
 have hx:=bx hF x;have hy:=bx hF y;simp only[aW,ade,adu]at he;have hny:ev t (aX y)=.d .cE:=by
  have h:=he;unfold kg at h;split at h<;>(try(cases‹jL.ur _=_›))
  ·rename_i q6;simp only[List.cons.injEq,and_true]at q6;exact q6.2
  ·cases h
 rw[hny]at he hy;obtain⟨rfl,p,k,cap,hv,rfl⟩:=MO hx he;have hw:=iY hy;have k1:(Op.equal T (.slice p k cap) (.slice none 0 0)).run P w=.ok p.isNone w:=by
  unfold Op.equal;rw[show Op.maxDepth=9999+1 from rfl,Op.equalIn];simp only[ac1,underlying,run_program,acZ,nO];cases p<;>simp
 refine bq hM ?_ (iX _);rw[hv,hw];rcases wF with⟨rfl,rfl⟩|⟨rfl,rfl⟩;·simp only[ac1,pw _ _ _ _ ⟨_,_,_,rfl⟩,acZ,binOp,k1,ac0,Bool.bne_false]
 ·simp only[ac1,pw _ _ _ _ ⟨_,_,_,rfl⟩,acZ,binOp,k1,ac0,Bool.bne_true]
theorem GK {ts:Array TypeId} {s el ty:TypeId} {i:TypeInfo} {z:List AV} (hs:ts[0]?=some s) (hu:P.underlying s=some (.slice el)) (gb:P.info? el=some i) (hz:zeroOf P el=some z) {x:Operand} (hF:FR c w t a.tmps) (hM:MR c m w) {v:AV} {e:eX}
 (he:aW (.iW (.xx i.size z) [aX x]) t m n=some (v,e)):dT P (do pure (.value (<-Builtin.clear_ ts ty #[a.eval x]))) c m n w v e:=by
 have hx:=bx hF x;simp only[aW,ade,adu]at he;unfold kg at he;split at he<;>(try(cases‹jL.xx _ _=_›))
 ·rename_i id e' off len q6;simp only[List.cons.injEq,and_true]at q6;rw[q6]at hx;split at he
  ·rename_i cs b9;split at he
   ·rename_i cy;obtain⟨rfl,Ix,XQ,Yx,hzo,pt⟩:=cy;cases he;simp only[Rel]at hx;rcases hx with⟨_,_,h2,_⟩|⟨b,cap,N,hb,hv,hle,hN,fE⟩;·exact absurd h2 Ix
    ·obtain⟨arr,T,f,vs,rest,gx,hw,hf,ha,hr⟩:=mW hM b9 hb;obtain⟨zv,DG,Yw⟩:=pg (w:=w) hz;have TC:aU c w z zv.cells.toList:=by rw[Yw];exact fU _
     have qL:=TC.length;have r9:=hr.length;have gU:arr.size=vs.length+rest.length:=by rw[<-Array.length_toList,ha,adk]
     have wD:aU c w ((ac7 (len*i.size)).map λj=>z.getD (j%z.length) .any) ((ac7 (len*i.size)).map λj=>zv.cells.toList.toArray[j%zv.cells.toList.length]!):=ry TC _ (.inr Yx);have ep:((ac7 (len*i.size)).map λj=>z.getD (j%z.length) .any).all j9=true:=by
      rw[List.all_eq_true];intro y hy;rw[List.mem_map]at hy;obtain⟨j,_,rfl⟩:=hy;have hj:j%z.length<z.length:=Nat.mod_lt _ (by omega);rw[adl,ac6 hj];exact List.all_eq_true.1 hzo _ (adt hj)
     have zG:((ac7 (len*i.size)).map λj=>zv.cells.toList.toArray[j%zv.cells.toList.length]!).length=len*i.size:=by simp
     obtain⟨w',kH,uk⟩:=fD P b T f ((ac7 (len*i.size)).map λj=>zv.cells.toList.toArray[j%zv.cells.toList.length]!) w arr off 0 hw hf (pe wD ep) (by omega);have uC:(fR arr.toList (off+0) ((ac7 (len*i.size)).map λj=>zv.cells.toList.toArray[j%zv.cells.toList.length]!)).toArray.size=arr.size:=by simp[kY]
     have hzc:(Builtin.zeroCells zv.cells len).toList=(ac7 (len*i.size)).map λj=>zv.cells.toList.toArray[j%zv.cells.toList.length]!:=by
      have h3:zv.cells.size=i.size:=by rw[<-XQ,<-qL];simp
      simp[Builtin.zeroCells,h3]
     refine⟨.value (.tuple #[]),w',c,?_,.inl ⟨_,rfl,by simp[Rel,aU]⟩,?_,uk.step hw uC ⟨id,by rw[b9];rfl,gT.gl hb⟩,λ_ _=>rfl,λb hb=>.inl (qd b9 hb)⟩
     ·have hlen:len≠0:=Ix;obtain⟨q,rfl⟩:∃q,len=q+1:=⟨len-1,by omega⟩;simp only[Builtin.clear_,ac1,hs,List.getElem?_toArray,List.getElem?_cons_zero,underlying,run_program,acZ,hu,hv,DG,hzc,kH,ac0]
     ·refine hM.put b9 hb uk hw uC gx hf (vs:=fR vs off _) (rest:=rest) ?_ (lF _ _ cs vs off hr wD);simp only[ha,Nat.add_zero];rw[kZ _ vs rest off (by omega)]
   ·cases he
  ·cases he
 ·cases he
end
end Go.Jq
namespace Go.Jq
open Go
section
variable{P:Program} {c:Ctx} {m:Mem} {n:Nat} {w:World} {t:Fr} {a:Act}
theorem kq:∀{ks:List Nat} {xs ys:List AV} {b:Bool},b7 ks xs ys=some b->xs.length=ks.length/\ys.length=ks.length
 | [],[],[],_,_=>⟨rfl,rfl⟩
 | [],[],_::_,_,h=>by simp[b7]at h
 | [],_::_,_,_,h=>by simp[b7]at h
 |_::_,[],_,_,h=>by simp[b7]at h
 |_::_,_::_,[],_,h=>by simp[b7]at h
 |k::ks,x::xs,y::ys,b,h=>by
  simp only[b7]at h;split at h
  ·rename_i p q h1 h2;have:=kq h2;simp[this.1,this.2]
  ·cases h
theorem lI:∀{ks Iy:List Nat} {xs ys:List AV} {b:Bool},b7 (ks++Iy) xs ys=some b->
 ∃p q,b7 ks (xs.take ks.length) (ys.take ks.length)=some p/\b7 Iy (xs.drop ks.length) (ys.drop ks.length)=some q/\b=(p&&q)
 | [],Iy,xs,ys,b,h=>⟨true,b,by simp[b7],by simpa using h,rfl⟩
 |k::ks,Iy,xs,ys,b,h=>by
  cases xs with
  |nil=>simp[b7]at h
  |cons x xs=>
   cases ys with
   |nil=>simp[b7]at h
   |cons y ys=>
    simp only[List.cons_append,b7]at h;split at h
    ·rename_i p q h1 h2;cases h;obtain⟨p',q',h3,h4,rfl⟩:=lI h2;refine⟨p&&p',q',?_,by simpa using h4,by rw[Bool.and_assoc]⟩;simp only[ads,List.take_succ_cons,b7,h1,h3]
    ·cases h
def Wf (P:Program) (d:Nat) (T:TypeId) (ks:List Nat):Prop:=
 ∀(c:Ctx) (w:World) (xs ys:List AV) (us vs:List Value) (off:Nat) (b:Bool),aU c w xs us->aU c w ys vs->(P.info? T).map (·.size)=some ks.length->
  b7 ks ((xs.drop off).take ks.length) ((ys.drop off).take ks.length)=some b->
  ∃u v,(part T us.toArray off).run P w=.ok u w/\(part T vs.toArray off).run P w=.ok v w/\(Op.equalIn d T u v).run P w=.ok b w
theorem la {d:Nat} {sz:TypeId->Option (List Nat)} (gU:∀T ks,sz T=some ks->Wf P d T ks):
 ∀{fs:List Field} {acc:Nat} {ks:List Nat} {xs ys:List AV} {us vs:List Value} {b:Bool},rn P sz fs acc=some ks->aU c w xs us->aU c w ys vs->
  b7 ks ((xs.drop acc).take ks.length) ((ys.drop acc).take ks.length)=some b->(Op.eqFields d us.toArray vs.toArray fs).run P w=.ok b w
 | [],acc,ks,xs,ys,us,vs,b,h,_,_,he=>by
   simp only[rn,adh]at h;subst h;simp[b7]at he;subst he;rfl
 |f::fs,acc,ks,xs,ys,us,vs,b,h,hx,hy,he=>by
  simp only[rn]at h;split at h
  ·rename_i s hs;split at h
   ·rename_i cy;obtain⟨h1,rfl,h3⟩:=cy;rw[adf]at h;obtain⟨r,hr,rfl⟩:=h;obtain⟨p,q,hp,hq,rfl⟩:=lI he;rw[List.take_take,List.take_take,Nat.min_eq_left (by simp)]at hp;rw[List.drop_take,List.drop_take,List.drop_drop,List.drop_drop]at hq;have hle:(s++r).length-s.length=r.length:=by simp
    rw[hle]at hq;obtain⟨u,v,hu,hv,heq⟩:=gU _ _ hs c w xs ys us vs f.offset p hx hy h3 hp;have ih:=la gU hr hx hy hq;simp only[Op.eqFields,ne_eq,h1,not_false_eq_true,if_true,ac1,hu,hv,heq,acZ,Sem.run_ite,ac0,ih];cases p<;>simp
   ·cases h
  ·cases h
theorem lb {d:Nat} {e:TypeId} {s:List Nat} (hs:Wf P d e s) (hi:(P.info? e).map (·.size)=some s.length) {xs ys:List AV} {us vs:List Value} (hx:aU c w xs us) (hy:aU c w ys vs):
 ∀(n j:Nat) (b:Bool),b7 (ada n s).flatten ((xs.drop (j*s.length)).take (n*s.length)) ((ys.drop (j*s.length)).take (n*s.length))=some b->
  (Op.eqItems d e s.length us.toArray vs.toArray (List.range' j n)).run P w=.ok b w
 |0,j,b,h=>by
  simp[b7]at h;subst h;simp[Op.eqItems]
 |n+1,j,b,h=>by
  rw[List.replicate_succ,List.flatten_cons]at h;obtain⟨p,q,hp,hq,rfl⟩:=lI h;have h1:s.length<=(n+1)*s.length:=by rw[Nat.succ_mul];omega
  rw[List.take_take,List.take_take,Nat.min_eq_left h1]at hp;have h2:(n+1)*s.length-s.length=n*s.length:=by rw[Nat.succ_mul];omega
  have h3:j*s.length+s.length=(j+1)*s.length:=by rw[Nat.succ_mul]
  rw[List.drop_take,List.drop_take,List.drop_drop,List.drop_drop,h2,h3]at hq;obtain⟨u,v,hu,hv,heq⟩:=hs c w xs ys us vs (j*s.length) p hx hy hi hp;have ih:=lb hs hi hx hy n (j+1) q hq;rw[List.range'_succ];simp only[Op.eqItems,ac1,hu,hv,heq,acZ,Sem.run_ite,ac0,ih];cases p<;>simp
theorem kt (n:Nat) (s:List Nat):(ada n s).flatten.length=n*s.length:=by
 induction n with
 |zero=>simp
 |succ n ih=>rw[List.replicate_succ,List.flatten_cons,adk,ih,Nat.succ_mul];omega
theorem qj:∀(d:Nat) (T:TypeId) (ks:List Nat),fC P d T=some ks->∀D,d<=D->Wf P D T ks
 |0,T,ks,h,D,hD=>by simp[fC]at h
 |d+1,T,ks,h,0,hD=>by omega
 |d+1,T,ks,h,D+1,hD=>by
  intro c w xs ys us vs off b hx hy hi he;have scalar:∀k,ks=[k]->(isAgg T).run P w=.ok false w->(∀x y u v,Rel c w x u->Rel c w y v->o9 k x y=some b->(Op.equalIn (D+1) T u v).run P w=.ok b w)->
   ∃u v,(part T us.toArray off).run P w=.ok u w/\(part T vs.toArray off).run P w=.ok v w/\(Op.equalIn (D+1) T u v).run P w=.ok b w:=by
   intro k hk mR hsc;subst hk;have hl:=kq he;cases hxd:xs.drop off with
   |nil=>rw[hxd]at hl;simp at hl
   |cons x xr=>
    cases hyd:ys.drop off with
    |nil=>rw[hyd]at hl;simp at hl
    |cons y yr=>
     rw[hxd,hyd]at he;simp only[ads,adz,ac2,List.take_succ_cons,List.take_zero,b7]at he;split at he
     ·rename_i p q h1 h2;cases h2;cases he;obtain⟨u,hu,iL⟩:=(hx.drop off).get (i:=0) (x:=x) (by rw[hxd];rfl);obtain⟨v,hv,Ks⟩:=(hy.drop off).get (i:=0) (x:=y) (by rw[hyd];rfl);have RD:us[off]?=some u:=by rw[<-hu,List.getElem?_drop];simp
      have zE:vs[off]?=some v:=by rw[<-hv,List.getElem?_drop];simp
      refine⟨u,v,?_,?_,hsc x y u v iL Ks (by simpa using h1)⟩;·simp only[part,ac1,mR,acZ,ac5,if_false,List.getElem?_toArray,RD,ac0]
      ·simp only[part,ac1,mR,acZ,ac5,if_false,List.getElem?_toArray,zE,ac0]
     ·cases he
  simp only[fC]at h;split at h
  ·rename_i k hu;cases h;refine scalar 0 rfl (by simp[isAgg,underlying,hu]) λx y u v hx hy h=>?_;unfold o9 at h;split at h
   ·have e1:=cA hx;have e2:=cA hy;subst e1 e2;split at h
    ·rename_i Wg;subst Wg;cases h;rw[run_equalIn_int w D T _ k _ _ hu];rfl
    ·cases h
   ·cases‹(0:Nat)=1›
   ·cases‹(0:Nat)=2›
   ·cases h
  ·rename_i hu;cases h;refine scalar 1 rfl (by simp[isAgg,underlying,hu]) λx y u v hx hy h=>?_;unfold o9 at h;split at h;·cases‹(1:Nat)=0›
   ·have e1:=eJ hx;have e2:=eJ hy;subst e1 e2;cases h;rw[run_equalIn_bool' w D T _ _ hu]
   ·cases‹(1:Nat)=2›
   ·cases h
  ·rename_i hu;cases h;refine scalar 2 rfl (by simp[isAgg,underlying,hu]) λx y u v hx hy h=>?_;unfold o9 at h;split at h;·cases‹(2:Nat)=0›
   ·cases‹(2:Nat)=1›
   ·have e1:=e7 hx;have e2:=e7 hy;subst e1 e2;cases h;rw[run_equalIn_string w D T _ _ hu];simp only[ByteArray.toList_mk]
    congr 1
    rw[Bool.eq_iff_iff];simp
   ·cases h
  ·rename_i fs hu;split at h;·cases h
   ·rename_i kH;have mR:(isAgg T).run P w=.ok true w:=by simp[isAgg,underlying,hu]
    obtain⟨i,gb,MP⟩:=adf.1 hi;have TH:P.fieldsOf T=fs:=by simp[Program.fieldsOf,hu]
    have rl:∀zs:List Value,zs.toArray.extract off (off+ks.length)=((zs.drop off).take ks.length).toArray:=by
     intro zs;apply Array.ext';simp only[Array.toList_extract,List.extract_eq_take_drop];simp
    refine⟨.agg ((us.drop off).take ks.length).toArray,.agg ((vs.drop off).take ks.length).toArray,?_,?_,?_⟩;·simp only[part,ac1,mR,acZ,if_true,run_sizeOf gb,MP,ac0,rl]
    ·simp only[part,ac1,mR,acZ,if_true,run_sizeOf gb,MP,ac0,rl]
    ·rw[run_equalIn_struct w D T _ _ (by rw[TH];exact hu) (by simpa using kH),TH];refine la (λT' Iy h'=>qj d T' Iy h' D (by omega)) h ((hx.drop off).take _) ((hy.drop off).take _) ?_;rw[ac3,ac3,List.take_take,List.take_take,Nat.min_self];exact he
  ·rename_i q e hu;split at h
   ·rename_i i s zH TI;split at h
    ·rename_i gU;cases h;have mR:(isAgg T).run P w=.ok true w:=by simp[isAgg,underlying,hu]
     obtain⟨i',gb,MP⟩:=adf.1 hi;have rl:∀zs:List Value,zs.toArray.extract off (off+(ada q s).flatten.length)=((zs.drop off).take (ada q s).flatten.length).toArray:=by
      intro zs;apply Array.ext';simp only[Array.toList_extract,List.extract_eq_take_drop];simp
     refine⟨.agg ((us.drop off).take (ada q s).flatten.length).toArray,.agg ((vs.drop off).take (ada q s).flatten.length).toArray,?_,?_,?_⟩;·simp only[part,ac1,mR,acZ,if_true,run_sizeOf gb,MP,ac0,rl]
     ·simp only[part,ac1,mR,acZ,if_true,run_sizeOf gb,MP,ac0,rl]
     ·have o5:P.cellsOf e=s.length:=by simp[Program.cellsOf,zH,gU]
      rw[run_equalIn_array w D _ _ hu zH,o5,List.range_eq_range'];refine lb (qj d e s TI D (by omega)) (by rw[zH];exact congrArg some gU) ((hx.drop off).take _) ((hy.drop off).take _) q 0 b ?_;rw[Nat.zero_mul,ac3,ac3,kt,List.take_take,List.take_take,Nat.min_self];rw[kt]at he;exact he
    ·cases h
   ·cases h
  ·cases h
theorem sA {op:BinOp} {neg:Bool} (wF:(op=.eql/\neg=false)\/(op=.neq/\neg=true)) {T:TypeId} {ks:List Nat} (hu:(∃fs,P.underlying T=some (.struct fs))\/∃q e,P.underlying T=some (.array q e))
 (hk:fC P 20 T=some ks) (hg:P.eqGuardType P.depth T=false) {x y:Operand} (hF:FR c w t a.tmps) (hM:MR c m w) {v:AV} {e:eX} (he:aW (.eqs ks neg (aX x) (aX y)) t m n=some (v,e)):
 dT P (do pure (.value (<-(do eqGuard op T x y (a.eval x) (a.eval y);binOp op T (a.eval x) (a.eval y))))) c m n w v e:=by
 have hx:=bx hF x;have hy:=bx hF y;simp only[aW]at he;split at he
 ·rename_i xs ys h1 h2;rw[h1]at hx;rw[h2]at hy;rw[adf]at he;obtain⟨b,hb,he⟩:=he;cases he;obtain⟨us,e1,iL⟩:=mg hx;obtain⟨vs,e2,Ks⟩:=mg hy;have heq:(Op.equalIn 10000 T (.agg us.toArray) (.agg vs.toArray)).run P w=.ok b w:=by
   have hl:=kq hb;rcases hu with⟨fs,hu⟩|⟨q,el,hu⟩
   rotate_left
   ·rw[show(20:Nat)=19+1 from rfl,fC,hu]at hk;dsimp only at hk;split at hk
    ·rename_i i s zH TI;split at hk
     ·rename_i gU;cases hk;have o5:P.cellsOf el=s.length:=by simp[Program.cellsOf,zH,gU]
      rw[run_equalIn_array w 9999 _ _ hu zH,o5,List.range_eq_range'];refine lb (qj 19 el s TI 9999 (by omega)) (by rw[zH];exact congrArg some gU) iL Ks q 0 b ?_;rw[kt]at hl;rw[Nat.zero_mul,ac3,ac3,ac8 (by omega),ac8 (by omega)];exact hb
     ·cases hk
    ·cases hk
   have TH:P.fieldsOf T=fs:=by simp[Program.fieldsOf,hu]
   rw[show(20:Nat)=19+1 from rfl,fC,hu]at hk;dsimp only at hk;split at hk;·cases hk
   ·rename_i kH;rw[run_equalIn_struct w 9999 T _ _ (by rw[TH];exact hu) (by simpa using kH),TH];refine la (λT' Iy h'=>qj 19 T' Iy h' 9999 (by omega)) hk iL Ks ?_;have hl:=kq hb;rw[ac3,ac3,ac8 (by omega),ac8 (by omega)];exact hb
  refine bq hM ?_ (iX _);rw[e1,e2];rcases wF with⟨rfl,rfl⟩|⟨rfl,rfl⟩;·simp only[ac1,run_eqGuard_agg _ _ _ _ _ _ _ hg,acZ,run_eql_struct,heq,Bool.bne_false]
  ·simp only[ac1,run_eqGuard_agg _ _ _ _ _ _ _ hg,acZ,run_neq_struct,heq,Bool.bne_true]
 ·cases he
end
end Go.Jq
namespace Go.Jq
open Go
section
variable{P:Program} {c:Ctx} {m:Mem} {n:Nat} {w:World} {t:Fr} {a:Act}
def MQ (P:Program) (d:Nat) (T:TypeId) (ks:List Nat):Prop:=
 ∀(w:World) (em:Bool) (us:List Value) (off:Nat),off+ks.length<=us.length->(P.info? T).map (·.size)=some ks.length->
  ∃u,(part T us.toArray off).run P w=.ok u w/\(Instr.checkKey em d T u).run P w=.ok () w
theorem q7 {d:Nat} {em:Bool} {sz:TypeId->Option (List Nat)} (gU:∀T ks,sz T=some ks->MQ P d T ks) {us:List Value}:
 ∀{fs:List Field} {acc:Nat} {ks:List Nat},rn P sz fs acc=some ks->acc+ks.length<=us.length->
  (forIn fs PUnit.unit λf _=>(if f.name≠ "_"then(do Instr.checkKey em d f.type (<-part f.type us.toArray f.offset);pure (ForInStep.yield PUnit.unit))else pure (ForInStep.yield PUnit.unit):Sem (ForInStep PUnit))).run P w=.ok PUnit.unit w
 | [],acc,ks,h,_=>by simp
 |f::fs,acc,ks,h,hl=>by
  simp only[rn]at h;split at h
  ·rename_i s hs;split at h
   ·rename_i cy;obtain⟨h1,rfl,h3⟩:=cy;rw[adf]at h;obtain⟨r,hr,rfl⟩:=h;rw[adk]at hl;obtain⟨u,hu,hc⟩:=gU _ _ hs w em us f.offset (by omega) h3;have ih:=q7 (em:=em) gU hr (us:=us) (by omega);simp only[List.forIn_cons,ac1,ne_eq,h1,not_false_eq_true,if_true,hu,hc,acZ,ac0];exact ih
   ·cases h
  ·cases h
theorem sB {d:Nat} {em:Bool} {e:TypeId} {s:List Nat} {i:TypeInfo} (hs:MQ P d e s) (zH:P.info? e=some i) (hi:i.size=s.length) {us:List Value}:
 ∀(q j:Nat),(j+q)*s.length<=us.length->
  (forIn (List.range' j q) PUnit.unit λk _=>(do Instr.checkKey em d e (<-part e us.toArray (k*(<-sizeOf e)));pure (ForInStep.yield PUnit.unit):Sem (ForInStep PUnit))).run P w=.ok PUnit.unit w
 |0,j,_=>by simp
 |q+1,j,hl=>by
  have h1:j*s.length+s.length<=us.length:=by
   refine Nat.le_trans ?_ hl;rw[<-Nat.succ_mul];exact Nat.mul_le_mul_right _ (by omega)
  obtain⟨u,hu,hc⟩:=hs w em us (j*s.length) h1 (by rw[zH];exact congrArg some hi);have ih:=sB (em:=em) hs zH hi (us:=us) q (j+1) (by rw[show j+1+q=j+(q+1) by omega];exact hl);rw[List.range'_succ];simp only[List.forIn_cons,ac1,run_sizeOf zH,hi,acZ,hu,hc,ac0];exact ih
theorem xL:∀(d:Nat) (T:TypeId) (ks:List Nat),fC P d T=some ks->∀D,d<=D->MQ P D T ks
 |0,T,ks,h,D,hD=>by simp[fC]at h
 |d+1,T,ks,h,0,hD=>by omega
 |d+1,T,ks,h,D+1,hD=>by
  intro w em us off hl hi;have scalar:∀k,ks=[k]->(isAgg T).run P w=.ok false w->(∀u,(Instr.checkKey em (D+1) T u).run P w=.ok () w)->
   ∃u,(part T us.toArray off).run P w=.ok u w/\(Instr.checkKey em (D+1) T u).run P w=.ok () w:=by
   intro k hk mR hsc;subst hk;have bd:off<us.length:=by simp at hl;omega
   exact⟨us[off],by simp[part,mR,bd],hsc _⟩
  obtain⟨i',gb,MP⟩:=adf.1 hi;have rl:∀k:Nat,us.toArray.extract off (off+k)=((us.drop off).take k).toArray:=by
   intro k;apply Array.ext';simp only[Array.toList_extract,List.extract_eq_take_drop];simp
  have TJ:∀b,(isAgg T).run P w=.ok b w->b=true->(part T us.toArray off).run P w=.ok (.agg ((us.drop off).take ks.length).toArray) w:=by
   rintro b hb rfl;simp only[part,ac1,hb,acZ,if_true,run_sizeOf gb,MP,ac0,rl]
  simp only[fC]at h;split at h
  ·rename_i k hu;cases h;exact scalar 0 rfl (by simp[isAgg,underlying,hu]) λu=>by simp[Instr.checkKey,underlying,hu]
  ·rename_i hu;cases h;exact scalar 1 rfl (by simp[isAgg,underlying,hu]) λu=>by simp[Instr.checkKey,underlying,hu]
  ·rename_i hu;cases h;exact scalar 2 rfl (by simp[isAgg,underlying,hu]) λu=>by simp[Instr.checkKey,underlying,hu]
  ·rename_i fs hu;split at h;·cases h
   ·refine⟨_,TJ true (by simp[isAgg,underlying,hu]) rfl,?_⟩;have:=q7 (w:=w) (em:=em) (us:=(us.drop off).take ks.length) (λT' Iy h'=>xL d T' Iy h' D (by omega)) h (by simp;omega);simp only[Instr.checkKey,ac1,underlying,run_program,acZ,hu,ac0];rw[<-Array.forIn_toList];simp at this⊢;rw[this];rfl
  ·rename_i q e hu;split at h
   ·rename_i i s zH TI;split at h
    ·rename_i gU;cases h;refine⟨_,TJ true (by simp[isAgg,underlying,hu]) rfl,?_⟩;have:=sB (w:=w) (em:=em) (us:=(us.drop off).take (ada q s).flatten.length) (xL d e s TI D (by omega)) zH gU q 0 (by
      rw[kt]at hl⊢;simp;omega)
     simp only[Instr.checkKey,ac1,underlying,run_program,acZ,hu,ac0];simp only[Std.Legacy.Range.forIn_eq_forIn_range',Std.Legacy.Range.size,Nat.sub_zero,Nat.add_one_sub_one,Nat.div_one];simp at this⊢;rw[this];rfl
    ·cases h
   ·cases h
  ·cases h
theorem Au {T:TypeId} {ks:List Nat} (hu:(∃fs,P.underlying T=some (.struct fs))\/∃q e,P.underlying T=some (.array q e)) (hk:fC P 20 T=some ks) {xs ys:List AV} {us vs:List Value} {b:Bool}
 (iL:aU c w xs us) (Ks:aU c w ys vs) (hb:b7 ks xs ys=some b):(Op.equalIn 10000 T (.agg us.toArray) (.agg vs.toArray)).run P w=.ok b w:=by
 have hl:=kq hb;rcases hu with⟨fs,hu⟩|⟨q,el,hu⟩
 ·have TH:P.fieldsOf T=fs:=by simp[Program.fieldsOf,hu]
  rw[show(20:Nat)=19+1 from rfl,fC,hu]at hk;dsimp only at hk;split at hk;·cases hk
  ·rename_i kH;rw[run_equalIn_struct w 9999 T _ _ (by rw[TH];exact hu) (by simpa using kH),TH];refine la (λT' Iy h'=>qj 19 T' Iy h' 9999 (by omega)) hk iL Ks ?_;rw[ac3,ac3,ac8 (by omega),ac8 (by omega)];exact hb
 ·rw[show(20:Nat)=19+1 from rfl,fC,hu]at hk;dsimp only at hk;split at hk
  ·rename_i i s zH TI;split at hk
   ·rename_i gU;cases hk;have o5:P.cellsOf el=s.length:=by simp[Program.cellsOf,zH,gU]
    rw[run_equalIn_array w 9999 _ _ hu zH,o5,List.range_eq_range'];refine lb (qj 19 el s TI 9999 (by omega)) (by rw[zH];exact congrArg some gU) iL Ks q 0 b ?_;rw[kt]at hl;rw[Nat.zero_mul,ac3,ac3,ac8 (by omega),ac8 (by omega)];exact hb
   ·cases hk
  ·cases hk
theorem jQ {T:TypeId} {ks:List Nat} (hu:(∃fs,P.underlying T=some (.struct fs))\/∃q e,P.underlying T=some (.array q e)) (hk:fC P 20 T=some ks) {kc:List AV} {us:List Value} (iL:aU c w kc us):
 ∀(es:List MapEntry) (kv:List AV) (r:Option Nat) (i0:Nat),aU c w kv (es.flatMap λe=>[e.key,e.val])->iu ks kc kv=some r->
  (r=none/\(Instr.findAsking T (.agg us.toArray) es i0).run P w=.ok none w)\/
  ∃j e x Kt vs,r=some j/\es[j]?=some e/\(Instr.findAsking T (.agg us.toArray) es i0).run P w=.ok (some (i0+j,e.val)) w/\kv[2*j+1]?=some x/\Rel c w x e.val/\
   e.key=.agg vs.toArray/\aU c w Kt vs/\b7 ks kc Kt=some true
 | [],kv,r,i0,hr,h=>by
   simp only[List.flatMap_nil]at hr;have:=hr;cases kv with
   |nil=>simp only[iu,adh]at h;exact .inl ⟨h.symm,by simp[Instr.findAsking]⟩
   |cons x kv=>simp only[aU]at this;obtain⟨_,_,h0,_⟩:=this;cases h0
 |e::es,kv,r,i0,hr,h=>by
  cases kv with
  |nil=>simp[aU]at hr
  |cons k kv=>
   cases kv with
   |nil=>simp[aU]at hr
   |cons x kv=>
    simp only[adr,List.cons_append,adF,aU]at hr;obtain⟨v1,r1,h1,Ku,v2,r2,rfl,hx2,hr⟩:=hr;simp only[List.cons.injEq]at h1;obtain⟨rfl,rfl,rfl⟩:=h1;cases k with
    |agg cs=>
     simp only[iu]at h;obtain⟨vs,xF,Ks⟩:=mg Ku;split at h
     ·rename_i heq;cases h;refine .inr ⟨0,e,x,cs,vs,rfl,rfl,?_,rfl,hx2,xF,Ks,heq⟩;have:=Au (P:=P) hu hk iL Ks heq;simp only[Instr.findAsking,Op.equal,Op.maxDepth,xF,ac1,this,acZ,if_true,ac0,Nat.add_zero]
     ·rename_i heq;rw[adf]at h;obtain⟨o,ho,rfl⟩:=h;have h2:=Au (P:=P) hu hk iL Ks heq;have TK:(Instr.findAsking T (.agg us.toArray) (e::es) i0).run P w=(Instr.findAsking T (.agg us.toArray) es (i0+1)).run P w:=by
       simp only[Instr.findAsking,Op.equal,Op.maxDepth,xF,ac1,h2,acZ,ac5,if_false]
      rcases jQ hu hk iL es kv o (i0+1) hr ho with⟨rfl,h3⟩|⟨j,e',x',Kt,mb,rfl,h3,h4,h5,h6⟩;·exact .inl ⟨rfl,TK.trans h3⟩
      ·refine .inr ⟨j+1,e',x',Kt,mb,rfl,by simpa using h3,TK.trans (by rw[h4];congr 3;omega),by simpa[Nat.mul_add]using h5,h6⟩
     ·cases h
    |_=>simp[iu]at h
theorem vG:∀{ks:List Nat} {xs ys:List AV} {us vs:List Value},b7 ks xs ys=some true->aU c w xs us->aU c w ys vs->
 vs.length=us.length/\((vs.zip us).all λ(x,y)=>Instr.sameBits 9999 x y)=true
 | [],[],[],us,vs,_,hx,hy=>by simp only[aU]at hx hy;subst hx hy;simp
 | [],[],_::_,_,_,h,_,_=>by simp[b7]at h
 | [],_::_,_,_,_,h,_,_=>by simp[b7]at h
 |_::_,[],_,_,_,h,_,_=>by simp[b7]at h
 |_::_,_::_,[],_,_,h,_,_=>by simp[b7]at h
 |k::ks,x::xs,y::ys,us,vs,h,hx,hy=>by
  simp only[aU]at hx hy;obtain⟨u,us,rfl,hu,hx⟩:=hx;obtain⟨v,vs,rfl,hv,hy⟩:=hy;simp only[b7]at h;split at h
  ·rename_i a b h1 h2;simp only[adh,adn]at h;obtain⟨rfl,rfl⟩:=h;obtain⟨i1,i2⟩:=vG h2 hx hy;refine⟨by simp[i1],?_⟩;simp only[List.zip_cons_cons,List.all_cons,i2,Bool.and_true];unfold o9 at h1;split at h1
   ·have e1:=cA hu;have e2:=cA hv;subst e1 e2;split at h1
    ·simp only[adh,decide_eq_true_eq]at h1;rename_i hk;subst hk h1;simp[Instr.sameBits]
    ·cases h1
   ·have e1:=eJ hu;have e2:=eJ hv;subst e1 e2;simp only[adh,beq_iff_eq]at h1;subst h1;simp[Instr.sameBits]
   ·have e1:=e7 hu;have e2:=e7 hv;subst e1 e2;simp only[adh,decide_eq_true_eq]at h1;subst h1;simp only[Instr.sameBits];exact(MapKept.bytes_beq _ _).2 rfl
   ·cases h1
  ·cases h
theorem sC {id b:Nat} {cs:List AV} (hM:MR c m w) (hid:ai m id=some cs) (eI:c.φ id=.mp b):
 ∃es kv,¬c.dm b/\w.heap[b]?=some (.map es es.size)/\es.toList.map (·.born)=ac7 es.size/\cs=.cu []::kv/\aU c w kv (es.toList.flatMap λe=>[e.key,e.val]):=by
 rcases hM.own id cs hid with⟨h0,_⟩|⟨_,_,_,_,h0,_⟩|⟨b',es,kv,hb,hi,hw,hf,hc,hr⟩;·rw[h0]at eI;cases eI
 ·rw[h0]at eI;cases eI
 ·rw[hb]at eI;cases eI;exact⟨es,kv,hi,hw,hf,hc,hr⟩
theorem MR.xM {id b:Nat} {old uj:List AV} {es es':Array MapEntry} (hM:MR c m w) (hid:ai m id=some old) (eI:c.φ id=.mp b) (gx:¬c.dm b) (hb:w.heap[b]?=some (.map es es.size))
 (mX:es'.toList.map (·.born)=ac7 es'.size) (hr:aU c w uj (es'.toList.flatMap λe=>[e.key,e.val])):
 let w':World:={w with heap:=w.heap.setIfInBounds b (.map es' es'.size)}
 MR c (an m id (.cu []::uj)) w'/\Step (gm c m) c c w w'/\(∀k,gm c (an m id (.cu []::uj)) k->gm c m k)/\ia c c w w':=by
 intro w';obtain⟨rp,nQ⟩:=MapKept.heap_set (o':=.map es' es'.size) hb;have rz:gm c m b:=⟨id,by rw[hid];rfl,gT.It eI⟩;have lH:∀k q,dc w k=some q->dc w' k=some q:=λk q hq=>by
  by_cases ek:k=b;·subst ek;simp[dc,hb]at hq
  ·rw[fT (nQ k ek)];exact hq
 have hl:ia c c w w':=⟨λ_ h=>h,λk hk=>nQ k λek=>gx (ek▸hk),λ_ _=>rfl,lH⟩;have gU:w'.heap.size=w.heap.size:=by simp[w']
 refine⟨⟨λi cells hi=>?_,λi j k hi hj=>?_,λk hk=>by rw[gU];exact hM.dm k hk,hM.lC hl.dm hl.same⟩,⟨rfl,rfl,rfl,by rw[gU];exact acV _,λk _ hk=>nQ k λek=>hk (ek▸rz),lH,λ_ h=>h,λ_ h=>.inl h⟩,λk hk=>qd hid hk,hl⟩
 ·rw[bh]at hi;split at hi
  ·rename_i e;subst e;cases hi;exact .inr (.inr ⟨b,es',uj,eI,gx,rp,mX,rfl,eZ hl _ _ hr⟩)
  ·rename_i e;refine(hM.own i cells hi).later hl λk hk=>⟨nQ k λek=>e ?_,λRv=>hM.sep Rv ⟨i,by rw[hi];rfl,hk⟩⟩;exact hM.inj id i b (by rw[hid];rfl) (by rw[hi];rfl) (gT.It eI) (ek▸hk)
 ·have key:∀i,(ai (an m id (.cu []::uj)) i).isSome->(ai m i).isSome:=λi h=>by
   rw[bh]at h;split at h;·rename_i e;subst e;rw[hid];rfl
   ·exact h
  exact hM.inj i j k (key i hi) (key j hj)
theorem MR.Wh (hM:MR c m w) (hn:c.φ n=.free):
 MR (c.bind n (.mp w.heap.size)) (an m n [.cu []]) (w.alloc (.map #[] 0))/\Step (gm c m) c (c.bind n (.mp w.heap.size)) w (w.alloc (.map #[] 0))/\
  (∀b,gm (c.bind n (.mp w.heap.size)) (an m n [.cu []]) b->gm c m b\/w.heap.size<=b):=by
 obtain⟨rp,nQ⟩:=MapKept.heap_alloc w (.map #[] 0)
 have lH:∀k q,dc w k=some q->dc (w.alloc (.map #[] 0)) k=some q:=λk q hq=>by
  rw[fT (nQ k (rq hq))];exact hq
 have hl:ia c (c.bind n (.mp w.heap.size)) w (w.alloc (.map #[] 0)):=⟨λ_ h=>h,λk hk=>nQ k (hM.dm k hk),qb hn λ_ h=>Ctx.cr h,lH⟩
 have gU:(w.alloc (.map #[] 0)).heap.size=w.heap.size+1:=by simp
 refine⟨⟨λi cells hi=>?_,λi j b hi hj xD Ap=>?_,λb hb=>by rw[gU];exact Nat.lt_succ_of_lt (hM.dm b hb),hM.lC hl.dm hl.same⟩,⟨rfl,rfl,rfl,by rw[gU];omega,λk hk _=>nQ k hk,lH,λ_ h=>h,λ_ h=>.inl h⟩,λb hb=>?_⟩
 ·rw[bh]at hi;split at hi
  ·rename_i e;subst e;cases hi;exact .inr (.inr ⟨w.heap.size,#[],[],Ctx.bind_eq,λhi=>Nat.lt_irrefl _ (hM.dm _ hi),rp,rfl,rfl,by simp[aU]⟩)
  ·exact(hM.own i cells hi).later hl λb hb=>⟨nQ b (hM.iK ⟨i,by rw[hi];rfl,hb⟩),λRv=>hM.sep Rv ⟨i,by rw[hi];rfl,hb⟩⟩
 ·rw[bh]at hi hj;by_cases e1:n=i
  ·by_cases e2:n=j;·exact e1.symm.trans e2
   ·exfalso;subst e1;rw[Ctx.bind_eq]at xD;cases xD;rw[if_neg e2]at hj;rw[Ctx.cr (Ne.symm e2)]at Ap;exact Nat.lt_irrefl _ (hM.iK ⟨j,hj,Ap⟩)
  ·by_cases e2:n=j
   ·exfalso;subst e2;rw[Ctx.bind_eq]at Ap;cases Ap;rw[if_neg e1]at hi;rw[Ctx.cr (Ne.symm e1)]at xD;exact Nat.lt_irrefl _ (hM.iK ⟨i,hi,xD⟩)
   ·rw[if_neg e1]at hi;rw[if_neg e2]at hj;rw[Ctx.cr (Ne.symm e1)]at xD;rw[Ctx.cr (Ne.symm e2)]at Ap;exact hM.inj i j b hi hj xD Ap
 ·obtain⟨id,hid,hb⟩:=hb;rw[bh]at hid;by_cases e:n=id;·subst e;rw[Ctx.bind_eq]at hb;cases hb;exact .inr (acV _)
  ·rw[if_neg e]at hid;rw[Ctx.cr (Ne.symm e)]at hb;exact .inl ⟨id,hid,hb⟩
theorem nR {T:TypeId} {ks:List Nat} (h:mQ P T=some ks):
 ((∃fs,P.underlying T=some (.struct fs))\/∃q e,P.underlying T=some (.array q e))/\fC P 20 T=some ks/\(P.info? T).map (·.size)=some ks.length:=by
 unfold mQ at h;split at h
 ·rename_i fs hu;rw[Option.bind_eq_some_iff]at h;obtain⟨Iy,h1,h2⟩:=h;split at h2;·cases h2;exact⟨.inl ⟨_,hu⟩,h1,by assumption⟩
  ·cases h2
 ·rename_i q e hu;rw[Option.bind_eq_some_iff]at h;obtain⟨Iy,h1,h2⟩:=h;split at h2;·cases h2;exact⟨.inr ⟨_,_,hu⟩,h1,by assumption⟩
  ·cases h2
 ·cases h
theorem jR {T:TypeId} {ks:List Nat} (h:mQ P T=some ks) (em:Bool) {us:List Value} (hl:us.length=ks.length):(Instr.checkKey em 10000 T (.agg us.toArray)).run P w=.ok () w:=by
 obtain⟨hu,hk,hi⟩:=nR h;obtain⟨u,h1,h2⟩:=xL 20 T ks hk 10000 (by omega) w em us 0 (by omega) hi;have mR:(isAgg T).run P w=.ok true w:=by rcases hu with⟨fs,hu⟩|⟨q,e,hu⟩<;>simp[isAgg,underlying,hu]
 obtain⟨i,gb,MP⟩:=adf.1 hi;have hp:(part T us.toArray 0).run P w=.ok (.agg us.toArray) w:=by
  simp only[part,ac1,mR,acZ,if_true,run_sizeOf gb,MP,ac0]
  congr 2
  apply Array.ext';simp only[Array.toList_extract,List.extract_eq_take_drop];simp[<-hl]
 rw[hp]at h1;cases h1;exact h2
theorem gX {T:TypeId} (hu:(∃fs,P.underlying T=some (.struct fs))\/∃q e,P.underlying T=some (.array q e)) (k:Value) (es:List MapEntry):
 (Instr.findKey T k es).run P w=(Instr.findAsking T k es 0).run P w:=by
 have YC:∀d,P.underlying T=some d->(Instr.findKey T k es).run P w=(match Instr.findNow d k es 0 with|some r=>(pure r:Sem _)|none=>Instr.findAsking T k es 0).run P w:=λd hd=>by
  simp only[Instr.findKey,ac1,underlying,run_program,acZ,hd,ac0];cases Instr.findNow d k es 0<;>rfl
 rcases hu with⟨fs,hu⟩|⟨q,e,hu⟩
 ·rw[YC _ hu];cases es with
  |nil=>simp[Instr.findNow,Instr.findAsking]
  |cons e es=>simp[Instr.findNow,Instr.sameNow]
 ·rw[YC _ hu];cases es with
  |nil=>simp[Instr.findNow,Instr.findAsking]
  |cons e es=>simp[Instr.findNow,Instr.sameNow]
theorem GL {T:TypeId} (hM:MR c m w) (hn:c.φ n=.free):dT P (do pure (.value (<-Instr.makeMap T none))) c m n w (.oZ n) (.new [.cu []]):=by
 obtain⟨h1,h2,h3⟩:=hM.Wh hn;refine⟨.value (.map (some w.heap.size)),w.alloc (.map #[] 0),c.bind n (.mp w.heap.size),by simp[Instr.makeMap],.inl ⟨_,rfl,?_⟩,h1,h2,λ_ h=>Ctx.cr (h.resolve_right (by simp[eX.next])),h3⟩
 simp only[Rel];exact⟨_,Ctx.bind_eq,rfl⟩
theorem GM {T kT eT:TypeId} {ks:List Nat} {i:TypeInfo} {zv:Value} (hT:P.underlying T=some (.map kT eT)) (hk:mQ P kT=some ks) (hi:P.info? eT=some i) (hz:i.zero=some zv) {id:Nat} {kc kv:List AV} {us:List Value} {x:AV} {ok:Bool} {mv:Value}
 (hM:MR c m w) (hid:ai m id=some (.cu []::kv)) (Kv:Rel c w (.oZ id) mv) (iL:aU c w kc us) (h:sn ks (DD zv) kc kv=some (x,ok)) (comma:Bool):
 ∃v,(Instr.lookup T mv (.agg us.toArray) comma).run P w=.ok (if comma then .tuple #[v,.bool ok]else v) w/\Rel c w x v:=by
 simp only[Rel]at Kv;obtain⟨b,hb,rfl⟩:=Kv;obtain⟨es,uj,gx,hw,mX,b9,hr⟩:=sC hM hid hb;cases b9;obtain⟨hu,qZ,gU⟩:=nR hk;have hg:=MapKept.run_getObj_map (P:=P) hw;unfold sn at h;have hzero:(zeroValue eT).run P w=.ok zv w:=by simp[zeroValue,typeInfo,hi,hz]
 split at h
 rotate_left
 ·cases h
 rename_i hlen;have hl:us.length=ks.length:=by rw[iL.length];exact hlen
 split at h
 ·rename_i j hf;rw[adf]at h;obtain⟨y,hy,h⟩:=h;cases h;rcases jQ (P:=P) hu qZ iL es.toList kv (some j) 0 hr hf with⟨h0,_⟩|⟨j',e,x',Kt,vs,h1,h2,h3,h4,h5,h6,h7,h8⟩;·cases h0
  ·cases h1;rw[h4]at hy;cases hy;refine⟨e.val,?_,h5⟩;simp only[Instr.lookup,ac1,underlying,run_program,acZ,hT,ac0,hg,jR hk _ hl,gX hu,h3]
 ·rename_i hf;cases h;rcases jQ (P:=P) hu qZ iL es.toList kv none 0 hr hf with⟨_,h3⟩|⟨j',e,x',Kt,vs,h1,_⟩
  ·refine⟨zv,?_,sr zv⟩;simp only[Instr.lookup,ac1,underlying,run_program,acZ,hT,ac0,hg,jR hk _ hl,gX hu,h3,hzero]
  ·cases h1
 ·cases h
theorem Av {vs:List Value} {j:Nat} {v:Value} (hv:vs[j]?=some v):vs.set j v=vs:=by
 apply List.ext_getElem?;intro q;rw[List.getElem?_set];split
 ·rename_i e;subst e;split;·exact hv.symm
  ·rename_i h;rw[List.getElem?_eq_none (by omega)]
 ·rfl
theorem nS {α:Type} (f:α->α):∀(l:List α) (j:Nat) (e:α),l[j]?=some e->l.modify j f=l.set j (f e)
 | [],_,_,h=>by simp at h
 |x::l,0,e,h=>by simp at h;subst h;rfl
 |x::l,j+1,e,h=>by
  simp only[List.modify_succ_cons,List.set_cons_succ];rw[nS f l j e (by simpa using h)]
def dW (es:List MapEntry):List Value:=es.flatMap λe=>[e.key,e.val]
theorem sD:∀(es:List MapEntry) (j:Nat) (e:MapEntry),dW (es.set j e)=((dW es).set (2*j) e.key).set (2*j+1) e.val
 | [],_,_=>rfl
 |x::es,0,e=>rfl
 |x::es,j+1,e=>by
  have ih:=sD es j e;unfold dW at ih⊢;simp only[List.set_cons_succ,adr,List.cons_append,adF,ih,show 2*(j+1)=2*j+1+1 by omega]
theorem sE:∀(es:List MapEntry) (j:Nat) (e e0:MapEntry),es[j]?=some e0->e.born=e0.born->(es.set j e).map (·.born)=es.map (·.born)
 | [],_,_,_,h,_=>by simp at h
 |x::es,0,e,e0,h,hb=>by simp at h;subst h;simp[hb]
 |x::es,j+1,e,e0,h,hb=>by
  simp only[List.set_cons_succ,ade];rw[sE es j e e0 (by simpa using h) hb]
theorem sF {ks:List Nat} {kc Kt:List AV} {us vs:List Value} (iL:aU c w kc us) (Ks:aU c w Kt vs) (h:b7 ks kc Kt=some true):
 (Instr.keyThatStays (.agg vs.toArray) (.agg us.toArray)).run P w=.ok (.agg us.toArray) w:=by
 obtain⟨h1,h2⟩:=vG h iL Ks;have:Instr.sameBits 10000 (.agg vs.toArray) (.agg us.toArray)=true:=by
  simp only[Instr.sameBits,adn,beq_iff_eq,List.size_toArray];exact⟨h1,h2⟩
 simp only[Instr.keyThatStays,this,if_true,ac0]
theorem zJ {T kT eT:TypeId} {ks:List Nat} (hT:P.underlying T=some (.map kT eT)) (hk:mQ P kT=some ks) {id:Nat} {kc kv uj:List AV} {us:List Value} {x:AV} {v:Value} {mv:Value}
 (hM:MR c m w) (hid:ai m id=some (.cu []::kv)) (Kv:Rel c w (.oZ id) mv) (iL:aU c w kc us) (hx:Rel c w x v) (h:Wb ks kc x kv=some uj):
 ∃w',(Instr.mapUpdate T mv (.agg us.toArray) v).run P w=.ok () w'/\MR c (an m id (.cu []::uj)) w'/\Step (gm c m) c c w w'/\(∀k,gm c (an m id (.cu []::uj)) k->gm c m k)/\ia c c w w':=by
 simp only[Rel]at Kv;obtain⟨b,hb,rfl⟩:=Kv;obtain⟨es,kv0,gx,hw,mX,b9,hr⟩:=sC hM hid hb;cases b9;obtain⟨hu,qZ,gU⟩:=nR hk;have hg:=MapKept.run_getObj_map (P:=P) hw;have gy:=λo=>MapKept.run_setObj_map (P:=P) o hw;unfold Wb at h;split at h
 rotate_left
 ·cases h
 rename_i hlen;have hl:us.length=ks.length:=by rw[iL.length];exact hlen
 have MS:Rel c w (.agg kc) (.agg us.toArray):=by simp only[Rel];exact⟨us,rfl,iL⟩
 split at h
 ·rename_i j hf;cases h;rcases jQ (P:=P) hu qZ iL es.toList kv (some j) 0 hr hf with⟨h0,_⟩|⟨j',e,x',Kt,vs,h1,h2,h3,h4,h5,h6,h7,h8⟩;·cases h0
  ·cases h1;have Mc:(es.modify j λe=>{e with key:=.agg us.toArray,val:=v}).toList=es.toList.set j {e with key:=.agg us.toArray,val:=v}:=by
    rw[Array.toList_modify];exact nS _ _ _ _ h2
   have vH:(es.modify j λe=>{e with key:=.agg us.toArray,val:=v}).size=es.size:=by simp
   have BF:=hM.xM (es':=es.modify j λe=>{e with key:=.agg us.toArray,val:=v}) (uj:=(kv.set (2*j) (.agg kc)).set (2*j+1) x) hid hb gx hw
    (by rw[Mc,vH,sE es.toList j ⟨.agg us.toArray,v,e.born⟩ e h2 rfl];exact mX) (by
     rw[Mc];show aU c w _ (dW _);rw[sD];exact(hr.set _ MS).set _ hx)
   refine⟨_,?_,BF⟩;have hej:es[j]?=some e:=by rw[<-Array.getElem?_toList];exact h2
   simp only[Instr.mapUpdate,ac1,underlying,run_program,acZ,hT,ac0,hg,jR hk _ hl,gX hu,h3,ac2,hej,ady,adE,h6,sF iL h7 h8,gy,vH]
 ·rename_i hf;cases h;rcases jQ (P:=P) hu qZ iL es.toList kv none 0 hr hf with⟨_,h3⟩|⟨j',e,x',Kt,vs,h1,_⟩
  ·have BF:=hM.xM (es':=es.push {key:=.agg us.toArray,val:=v,born:=es.size}) (uj:=kv++[.agg kc,x]) hid hb gx hw
    (by simp[mX,List.range_succ]) (by
     rw[Array.toList_push,List.flatMap_append];refine hr.append ?_;simp only[adr,List.flatMap_nil,List.append_nil,aU];exact⟨_,_,rfl,MS,_,_,rfl,hx,rfl⟩)
   refine⟨_,?_,BF⟩;simp only[Instr.mapUpdate,ac1,underlying,run_program,acZ,hT,ac0,hg,jR hk _ hl,gX hu,h3,gy,Array.size_push]
  ·cases h1
 ·cases h
theorem Iz {es:List MapEntry} {n:Nat} (h:es.map (·.born)=ac7 n) {j:Nat} {e:MapEntry} (hj:es[j]?=some e):e.born=j:=by
 have h1:(es.map (·.born))[j]?=some e.born:=by rw[List.getElem?_map,hj];rfl
 rw[h]at h1;have h2:=(List.getElem?_eq_some_iff.1 h1);obtain⟨_,h3⟩:=h2;simpa using h3.symm
theorem nT (es:List MapEntry):(dW es).length=2*es.length:=by
 induction es with
 |nil=>rfl
 |cons e es ih=>unfold dW at ih⊢;simp only[adr,List.cons_append,adF,ads,ih];omega
theorem BG {T kT eT:TypeId} {ks:List Nat} {i:TypeInfo} {zv:Value} (hT:P.underlying T=some (.map kT eT)) (hk:mQ P kT=some ks) (hi:P.info? eT=some i) (hz:i.zero=some zv) {id:Nat} {kc kv uj:List AV} {us:List Value} {x:AV} {j:Nat} {mv:Value}
 (hM:MR c m w) (hid:ai m id=some (.cu []::kv)) (Kv:Rel c w (.oZ id) mv) (iL:aU c w kc us) (h:xB ks (DD zv) kc kv=some (x,j,uj)):
 ∃w' v,(Instr.mapEntry T mv (.agg us.toArray)).run P w=.ok (.tuple #[v,.int .i64 (j:Int)]) w'/\Rel c w' x v/\MR c (an m id (.cu []::uj)) w'/\Step (gm c m) c c w w'/\(∀k,gm c (an m id (.cu []::uj)) k->gm c m k):=by
 simp only[Rel]at Kv;obtain⟨b,hb,rfl⟩:=Kv;obtain⟨es,kv0,gx,hw,mX,b9,hr⟩:=sC hM hid hb;cases b9;obtain⟨hu,qZ,gU⟩:=nR hk;have hg:=MapKept.run_getObj_map (P:=P) hw;have gy:=λo=>MapKept.run_setObj_map (P:=P) o hw;have hzero:(zeroValue eT).run P w=.ok zv w:=by simp[zeroValue,typeInfo,hi,hz]
 unfold xB at h;split at h
 rotate_left
 ·cases h
 rename_i hlen;have hl:us.length=ks.length:=by rw[iL.length];exact hlen
 have MS:Rel c w (.agg kc) (.agg us.toArray):=by simp only[Rel];exact⟨us,rfl,iL⟩
 split at h
 ·rename_i j' hf;rw[adf]at h;obtain⟨y,hy,h⟩:=h;cases h;rcases jQ (P:=P) hu qZ iL es.toList kv (some j) 0 hr hf with⟨h0,_⟩|⟨j',e,x',Kt,vs,h1,h2,h3,h4,h5,h6,h7,h8⟩;·cases h0
  ·cases h1;rw[h4]at hy;cases hy;have Mc:(es.modify j λe=>{e with key:=.agg us.toArray}).toList=es.toList.set j {e with key:=.agg us.toArray}:=by
    rw[Array.toList_modify];exact nS _ _ _ _ h2
   have vH:(es.modify j λe=>{e with key:=.agg us.toArray}).size=es.size:=by simp
   have qN:((dW es.toList).set (2*j) (.agg us.toArray)).set (2*j+1) e.val=(dW es.toList).set (2*j) (.agg us.toArray):=by
    refine Av ?_;rw[List.getElem?_set_ne (by omega)];have:∀(l:List MapEntry) (j:Nat) (e:MapEntry),l[j]?=some e->(dW l)[2*j+1]?=some e.val:=by
     intro l;induction l with
     |nil=>intro j e h;simp at h
     |cons a l ih=>
      intro j e h;cases j with
      |zero=>simp at h;subst h;rfl
      |succ j=>have:=ih j e (by simpa using h);unfold dW at this⊢;simpa[show 2*(j+1)=2*j+1+1 by omega]using this
    exact this _ _ _ h2
   obtain⟨p1,p2,p3,p4⟩:=hM.xM (es':=es.modify j λe=>{e with key:=.agg us.toArray}) (uj:=kv.set (2*j) (.agg kc)) hid hb gx hw
    (by rw[Mc,vH,sE es.toList j ⟨.agg us.toArray,e.val,e.born⟩ e h2 rfl];exact mX) (by
     rw[Mc];show aU c w _ (dW _);rw[sD,qN];exact hr.set _ MS)
   refine⟨_,e.val,?_,lB p4 _ _ h5,p1,p2,p3⟩;have hej:es[j]?=some e:=by rw[<-Array.getElem?_toList];exact h2
   have hbj:=Iz mX h2;simp only[Instr.mapEntry,ac1,underlying,run_program,acZ,hT,ac0,hg,jR hk _ hl,gX hu,h3,ac2,hej,ady,adE,h6,sF iL h7 h8,gy,vH,hbj,goInt]
 ·rename_i hf;cases h;rcases jQ (P:=P) hu qZ iL es.toList kv none 0 hr hf with⟨_,h3⟩|⟨j',e,x',Kt,vs,h1,_⟩
  ·obtain⟨p1,p2,p3,p4⟩:=hM.xM (es':=es.push {key:=.agg us.toArray,val:=zv,born:=es.size}) (uj:=kv++[.agg kc,DD zv]) hid hb gx hw
    (by simp[mX,List.range_succ]) (by
     rw[Array.toList_push,List.flatMap_append];refine hr.append ?_;simp only[adr,List.flatMap_nil,List.append_nil,aU];exact⟨_,_,rfl,MS,_,_,rfl,sr zv,rfl⟩)
   refine⟨_,zv,?_,sr zv,p1,p2,p3⟩;have MN:kv.length/2=es.size:=by
    have:=hr.length;have h2:=nT es.toList;unfold dW at h2;simp only[Array.length_toList]at h2;omega
   simp only[Instr.mapEntry,ac1,underlying,run_program,acZ,hT,ac0,hg,jR hk _ hl,gX hu,h3,gy,Array.size_push,hzero,goInt,MN]
  ·cases h1
 ·cases h
theorem q8:∀(l:List MapEntry) (o j:Nat),(∀i e,l[i]?=some e->e.born=o+i)->j<l.length->l.findIdx? (λe=>((e.born:Nat):Int)==((o+j:Nat):Int))=some j
 | [],_,j,_,h=>by simp at h
 |e::l,o,0,hb,_=>by
  have:=hb 0 e rfl;simp[List.findIdx?_cons,this]
 |e::l,o,j+1,hb,h=>by
  have h0:=hb 0 e rfl;have l6:(((e.born:Nat):Int)==((o+(j+1):Nat):Int))=false:=by
   simp only[beq_eq_false_iff_ne,ne_eq,Int.natCast_inj,h0];omega
  have ih:=q8 l (o+1) j (λi e' hi=>by have:=hb (i+1) e' (by simpa using hi);omega) (by simpa using h);rw[List.findIdx?_cons,l6];rw[show o+(j+1)=o+1+j by omega,ih];simp
theorem xN {T:TypeId} {id:Nat} {kv:List AV} {x:AV} {v:Value} {j:Nat} {mv:Value} (hM:MR c m w) (hid:ai m id=some (.cu []::kv)) (Kv:Rel c w (.oZ id) mv) (hx:Rel c w x v) (hj:2*j+1<kv.length):
 ∃w',(Instr.entryStore T mv (.int .i64 (j:Int)) v).run P w=.ok () w'/\MR c (an m id (.cu []::kv.set (2*j+1) x)) w'/\Step (gm c m) c c w w'/\(∀k,gm c (an m id (.cu []::kv.set (2*j+1) x)) k->gm c m k):=by
 simp only[Rel]at Kv;obtain⟨b,hb,rfl⟩:=Kv;obtain⟨es,kv0,gx,hw,mX,b9,hr⟩:=sC hM hid hb;cases b9;have hg:=MapKept.run_getObj_map (P:=P) hw;have gy:=λo=>MapKept.run_setObj_map (P:=P) o hw;have MN:=hr.length;have h2:=nT es.toList;unfold dW at h2;have TG:j<es.toList.length:=by omega
 have hbj:∀{i:Nat} {e:MapEntry},es.toList[i]?=some e->e.born=i:=λh=>Iz mX h;have Gn:es.findIdx? (λe=>((e.born:Nat):Int)==((j:Nat):Int))=some j:=by
  have mV:∀(xs:Array MapEntry) (p:MapEntry->Bool),xs.findIdx? p=xs.toList.findIdx? p:=λxs p=>by cases xs;simp
  rw[mV];have:=q8 es.toList 0 j (λi e hi=>by rw[ac2];exact hbj hi) TG;simpa using this
 obtain⟨e,he⟩:∃e,es.toList[j]?=some e:=⟨es.toList[j],by simp⟩;have Mc:(es.modify j λe=>{e with val:=v}).toList=es.toList.set j {e with val:=v}:=by
  rw[Array.toList_modify];exact nS _ _ _ _ he
 have vH:(es.modify j λe=>{e with val:=v}).size=es.size:=by simp
 have Wi:∀(l:List MapEntry) (j:Nat) (e:MapEntry),l[j]?=some e->(dW l)[2*j]?=some e.key:=by
  intro l;induction l with
  |nil=>intro j e h;simp at h
  |cons a l ih=>
   intro j e h;cases j with
   |zero=>simp at h;subst h;rfl
   |succ j=>have:=ih j e (by simpa using h);unfold dW at this⊢;simpa[show 2*(j+1)=2*j+1+1 by omega]using this
 obtain⟨p1,p2,p3,p4⟩:=hM.xM (es':=es.modify j λe=>{e with val:=v}) (uj:=kv.set (2*j+1) x) hid hb gx hw
  (by rw[Mc,vH,sE es.toList j ⟨e.key,v,e.born⟩ e he rfl];exact mX) (by
   rw[Mc];show aU c w _ (dW _);rw[sD,Av (Wi _ _ _ he)];exact hr.set _ hx)
 refine⟨_,?_,p1,p2,p3⟩;simp only[Instr.entryStore,ac1,acZ,ac0,hg,asInt,asIntOf,Gn,gy,vH]
theorem gB {id:Nat} {kv:List AV} (h:mapOf m id=some kv):ai m id=some (.cu []::kv):=by
 unfold mapOf at h;split at h;·cases h;assumption
 ·cases h
theorem xO {T:TypeId} {z:AV} (h:zeroV P T=some z):∃i zv,P.info? T=some i/\i.zero=some zv/\z=DD zv:=by
 unfold zeroV at h;split at h
 ·rename_i i hi;rw[adf]at h;obtain⟨zv,h1,h2⟩:=h;exact⟨i,zv,hi,h1,h2.symm⟩
 ·cases h
theorem MT {T kT eT:TypeId} {ks:List Nat} {z:AV} {comma:Bool} {x k:Operand} (hT:P.underlying T=some (.map kT eT)) (hk:mQ P kT=some ks) (hz:zeroV P eT=some z) (hF:FR c w t a.tmps) (hM:MR c m w) {v:AV} {e:eX}
 (he:aW (.iW (.XO ks z comma) [aX x,aX k]) t m n=some (v,e)):dT P (do pure (.value (<-Instr.lookup T (a.eval x) (a.eval k) comma))) c m n w v e:=by
 have hx:=bx hF x;have hy:=bx hF k;obtain⟨i,zv,hi,DG,rfl⟩:=xO hz;simp only[aW,ade,adu]at he;unfold kg at he;split at he<;>(try(cases‹jL.XO _ _ _=_›))
 ·rename_i id kc q6;simp only[List.cons.injEq,and_true]at q6;obtain⟨h1,h2⟩:=q6;rw[h1]at hx;rw[h2]at hy;obtain⟨us,hv,iL⟩:=mg hy;split at he
  ·rename_i kv MU;rw[adf]at he;obtain⟨⟨y,ok⟩,hl,he⟩:=he;simp only[Prod.mk.injEq]at he;obtain⟨rfl,rfl⟩:=he;obtain⟨u,dD,hr⟩:=GM hT hk hi DG hM (gB MU) hx iL hl comma;refine bq hM (by rw[hv];exact dD) ?_;cases comma;·simpa using hr
   ·simp only[if_true,Rel];exact⟨[u,.bool ok],rfl,by simp only[aU];exact⟨_,_,rfl,hr,_,_,rfl,by simp[dq,Rel,du],rfl⟩⟩
  ·cases he
 ·cases he
theorem Aw {T kT eT:TypeId} {ks:List Nat} {x k y:Operand} (hT:P.underlying T=some (.map kT eT)) (hk:mQ P kT=some ks) (hF:FR c w t a.tmps) (hM:MR c m w) {v:AV} {e:eX}
 (he:aW (.iW (.Mt ks) [aX x,aX k,aX y]) t m n=some (v,e)):dT P (do Instr.mapUpdate T (a.eval x) (a.eval k) (a.eval y);pure .skip) c m n w v e:=by
 have hx:=bx hF x;have hy:=bx hF k;have hz:=bx hF y;simp only[aW,ade,adu]at he;unfold kg at he;split at he<;>(try(cases‹jL.Mt _=_›))
 ·rename_i id kc vy q6;simp only[List.cons.injEq,and_true]at q6;obtain⟨h1,h2,rfl⟩:=q6;rw[h1]at hx;rw[h2]at hy;obtain⟨us,hv,iL⟩:=mg hy;split at he
  ·rename_i kv MU;rw[adf]at he;obtain⟨uj,hl,he⟩:=he;simp only[Prod.mk.injEq]at he;obtain⟨rfl,rfl⟩:=he;obtain⟨w',dD,sb,kH,ho,_⟩:=zJ hT hk hM (gB MU) hx iL hz hl;refine⟨.skip,w',c,?_,.inr ⟨rfl,rfl⟩,sb,kH,λ_ _=>rfl,λb hb=>.inl (ho b hb)⟩;simp only[ac1,hv,dD,acZ,ac0]
  ·cases he
 ·cases he
theorem Kx {T kT eT:TypeId} {ks:List Nat} {z:AV} {x k:Operand} (hT:P.underlying T=some (.map kT eT)) (hk:mQ P kT=some ks) (hz:zeroV P eT=some z) (hF:FR c w t a.tmps) (hM:MR c m w) {v:AV} {e:eX}
 (he:aW (.iW (.Mu ks z) [aX x,aX k]) t m n=some (v,e)):dT P (do pure (.value (<-Instr.mapEntry T (a.eval x) (a.eval k)))) c m n w v e:=by
 have hx:=bx hF x;have hy:=bx hF k;obtain⟨i,zv,hi,DG,rfl⟩:=xO hz;simp only[aW,ade,adu]at he;unfold kg at he;split at he<;>(try(cases‹jL.Mu _ _=_›))
 ·rename_i id kc q6;simp only[List.cons.injEq,and_true]at q6;obtain⟨h1,h2⟩:=q6;rw[h1]at hx;rw[h2]at hy;obtain⟨us,hv,iL⟩:=mg hy;split at he
  ·rename_i kv MU;rw[adf]at he;obtain⟨⟨y,j,uj⟩,hl,he⟩:=he;simp only[Prod.mk.injEq]at he;obtain⟨rfl,rfl⟩:=he;obtain⟨w',u,dD,hr,sb,kH,ho⟩:=BG hT hk hi DG hM (gB MU) hx iL hl;refine⟨.value (.tuple #[u,.int .i64 (j:Int)]),w',c,?_,.inl ⟨_,rfl,?_⟩,sb,kH,λ_ _=>rfl,λb hb=>.inl (ho b hb)⟩
   ·simp only[ac1,hv,dD,acZ,ac0]
   ·simp only[Rel];exact⟨[u,.int .i64 (j:Int)],rfl,by simp only[aU];exact⟨_,_,rfl,hr,_,_,rfl,by simp[Rel,du],rfl⟩⟩
  ·cases he
 ·cases he
theorem Ky {T:TypeId} {x j y:Operand} (hF:FR c w t a.tmps) (hM:MR c m w) {v:AV} {e:eX}
 (he:aW (.iW .Mv [aX x,aX j,aX y]) t m n=some (v,e)):dT P (do Instr.entryStore T (a.eval x) (a.eval j) (a.eval y);pure .skip) c m n w v e:=by
 have hx:=bx hF x;have hj:=bx hF j;have hz:=bx hF y;simp only[aW,ade,adu]at he;unfold kg at he;split at he<;>(try(cases‹jL.Mv=_›))
 ·rename_i id vj vy q6;simp only[List.cons.injEq,and_true]at q6;obtain⟨h1,h2,h3⟩:=q6;rw[h1]at hx;rw[h2]at hj;rw[h3]at hz;split at he
  ·rename_i kv MU;split at he
   ·rename_i cy;obtain⟨h0,bd⟩:=cy;cases he;have hju:a.eval j=.int .i64 vj:=by simpa only[Rel,du]using hj
    obtain⟨w',dD,sb,kH,ho⟩:=xN (P:=P) (T:=T) hM (gB MU) hx hz bd;rw[Int.toNat_of_nonneg h0]at dD;refine⟨.skip,w',c,?_,.inr ⟨rfl,rfl⟩,sb,kH,λ_ _=>rfl,λb hb=>.inl (ho b hb)⟩;simp only[ac1,hju,dD,acZ,ac0]
   ·cases he
  ·cases he
 ·cases he
theorem Kz {ts:Array TypeId} {T kT eT ty:TypeId} {x:Operand} (h0:ts[0]?=some T) (hT:P.underlying T=some (.map kT eT)) (hF:FR c w t a.tmps) (hM:MR c m w) {v:AV} {e:eX}
 (he:aW (.iW .Rr [aX x]) t m n=some (v,e)):dT P (do pure (.value (<-Builtin.len_ ts ty #[a.eval x]))) c m n w v e:=by
 have hx:=bx hF x;simp only[aW,ade,adu]at he;unfold kg at he;split at he<;>(try(cases‹jL.Rr=_›))
 ·rename_i id _ q6;simp only[List.cons.injEq,and_true]at q6;rw[q6]at hx;rw[adf]at he;obtain⟨kv,MU,he⟩:=he;simp only[Prod.mk.injEq]at he;obtain⟨rfl,rfl⟩:=he;simp only[Rel]at hx;obtain⟨b,hb,hv⟩:=hx;obtain⟨es,kv0,gx,hw,mX,b9,hr⟩:=sC hM (gB MU) hb;cases b9;have hg:=MapKept.run_getObj_map (P:=P) hw;have hl:=hr.length;have h2:=nT es.toList;unfold dW at h2;have gU:es.size=kv.length/2:=by
   have:es.toList.length=es.size:=Array.length_toList;omega
  refine bq (u:=.int .i64 ((kv.length/2:Nat):Int)) hM ?_ (gV _ _);simp[Builtin.len_,h0,underlying,hT,hv,hg,goInt,gU]
 ·cases he
end
end Go.Jq
namespace Go.Jq
open Go
section
variable{P:Program} {c:Ctx} {m:Mem} {n:Nat} {w:World} {t:Fr} {a:Act}
theorem GN {op:BinOp} {T:TypeId} {x y:Operand} {yT:TypeId} {ao:im} (hc:jG P (.binOp op T x y yT)=some ao) (hF:FR c w t a.tmps) (hM:MR c m w) {v:AV} {e:eX}
 (he:aW ao t m n=some (v,e)):dT P (do pure (.value (<-(do eqGuard op T x y (a.eval x) (a.eval y);binOp op T (a.eval x) (a.eval y))))) c m n w v e:=by
 simp only[jG]at hc;split at hc;·cases hc;exact DI hF hM he
 ·cases hc;exact DI hF hM he
 ·rename_i hu;split at hc<;>cases hc;·exact DJ (.inl ⟨rfl,rfl⟩) hu hF hM he
  ·exact DJ (.inr ⟨rfl,rfl⟩) hu hF hM he
 ·rename_i el hu;split at hc<;>cases hc;·exact DL (.inl ⟨rfl,rfl⟩) hu hF hM he
  ·exact DL (.inr ⟨rfl,rfl⟩) hu hF hM he
 ·rename_i hu;split at hc<;>cases hc;·exact As (.inl ⟨rfl,rfl⟩) hu hF hM he
  ·exact As (.inr ⟨rfl,rfl⟩) hu hF hM he
 ·rename_i hu;split at hc<;>cases hc;·exact DM (.inl ⟨rfl,rfl⟩) hu hF hM he
  ·exact DM (.inr ⟨rfl,rfl⟩) hu hF hM he
 ·rename_i fs hu;split at hc
  ·rename_i ks hk;split at hc;·cases hc
   ·rename_i hg;split at hc<;>cases hc;·exact sA (.inl ⟨rfl,rfl⟩) (.inl ⟨_,hu⟩) hk (by simpa using hg) hF hM he
    ·exact sA (.inr ⟨rfl,rfl⟩) (.inl ⟨_,hu⟩) hk (by simpa using hg) hF hM he
  ·cases hc
 ·rename_i q el hu;split at hc
  ·rename_i ks hk;split at hc;·cases hc
   ·rename_i hg;split at hc<;>cases hc;·exact sA (.inl ⟨rfl,rfl⟩) (.inr ⟨_,_,hu⟩) hk (by simpa using hg) hF hM he
    ·exact sA (.inr ⟨rfl,rfl⟩) (.inr ⟨_,_,hu⟩) hk (by simpa using hg) hF hM he
  ·cases hc
 ·cases hc
theorem BH {s d:TypeId} {x:Operand} {ao:im} (hc:jG P (.convert s d x)=some ao) (hF:FR c w t a.tmps) (hM:MR c m w) (hn:c.φ n=.free) {v:AV} {e:eX}
 (he:aW ao t m n=some (v,e)):dT P (do pure (.value (<-convert s d (a.eval x)))) c m n w v e:=by
 simp only[jG]at hc;split at hc;·rename_i k k' h1 h2;cases hc;exact MD h1 h2 hF hM he
 ·rename_i k h1 h2;cases hc;exact vB (.inl ⟨k,h1⟩) h2 hF hM he
 ·rename_i h1 h2;cases hc;exact vB (.inr h1) h2 hF hM he
 ·rename_i el h1 h2;split at hc;·rename_i h3;cases hc;exact Kk h1 h3 h2 hF hM he
  ·cases hc
 ·rename_i el h1 h2;split at hc;·rename_i h3;cases hc;exact Kl h1 h2 h3 hF hM hn he
  ·cases hc
 ·rename_i e1 el h1 h2;split at hc
  ·rename_i hsd;subst hsd;split at hc;·rename_i h3;cases hc;exact Km h2 h3 hF hM he
   ·cases hc
  ·cases hc
 ·cases hc
theorem GO {T:TypeId} {x:Operand} {lo hi:Option Operand} {ao:im} (hc:jG P (.slice T x lo hi none)=some ao) (hF:FR c w t a.tmps) (hM:MR c m w) {v:AV} {e:eX}
 (he:aW ao t m n=some (v,e)):dT P (do pure (.value (<-Instr.sliceAt T (a.eval x) (lo.map a.eval) (hi.map a.eval) none))) c m n w v e:=by
 simp only[jG]at hc;split at hc;·rename_i hu;cases hc;exact Ki hu hF hM he
 ·rename_i el hu;split at hc;·rename_i i hi;cases hc;exact Kj hu hi hF hM he
  ·cases hc
 ·rename_i q el hu;split at hc;·rename_i i hi;cases hc;exact Ko hu hi hF hM he
  ·cases hc
 ·cases hc
theorem BI {b:Builtin} {ts:Array TypeId} {ty:TypeId} {cs:Array Bool} {args:Array Operand} {ao:im} (hc:pa P b ts args=some ao) (hF:FR c w t a.tmps) (hM:MR c m w) (hn:c.φ n=.free) {v:AV} {e:eX}
 (he:aW ao t m n=some (v,e)):dT P (builtin b ts ty cs (args.map a.eval)) c m n w v e:=by
 unfold pa at hc;split at hc
 ·rename_i T x MV iv;have ha:args.map a.eval=#[a.eval x]:=by rw[<-Array.toArray_toList (xs:=args),iv];simp
  rw[ha];split at hc;·rename_i hu;cases hc;exact Kg MV hu hF hM he
  ·rename_i el hu;cases hc;exact Kh MV hu hF hM he
  ·rename_i k el hu;cases hc;simp only[aW,ev,adh,Prod.mk.injEq]at he;obtain⟨rfl,rfl⟩:=he;have h0:ts[0]?=some T:=by rw[<-Array.getElem?_toList,MV];rfl
   refine bq (u:=.int .i64 k) hM ?_ (gV _ _);simp[Builtin.len_,h0,underlying,hu,goInt]
  ·rename_i kT eT hu;cases hc;have h0:ts[0]?=some T:=by rw[<-Array.getElem?_toList,MV];rfl
   exact Kz h0 hu hF hM he
  ·cases hc
 ·rename_i s xT x y MV iv;have ha:args.map a.eval=#[a.eval x,a.eval y]:=by rw[<-Array.toArray_toList (xs:=args),iv];simp
  rw[ha];split at hc
  ·rename_i el u hs hx;split at hc;·cases hc
   ·rename_i l6;split at hc
    ·rename_i i hi;split at hc
     ·rename_i z hz;split at hc
      ·rename_i XR;cases hc;have h0:ts[0]?=some s:=by rw[<-Array.getElem?_toList,MV];rfl
       have h1:ts[1]?=some xT:=by rw[<-Array.getElem?_toList,MV];rfl
       exact MI (i:=i) ⟨⟨s,h0,hs⟩,⟨xT,u,h1,hx,λk hk=>by subst hk;exact absurd rfl l6⟩,hi,z,hz,XR.1⟩ hF hM hn XR.2 he
      ·cases hc
     ·cases hc
    ·cases hc
  ·cases hc
 ·rename_i s xT x y MV iv;have ha:args.map a.eval=#[a.eval x,a.eval y]:=by rw[<-Array.toArray_toList (xs:=args),iv];simp
  rw[ha];split at hc
  ·rename_i el hs;rw[adf]at hc;obtain⟨i,hi,rfl⟩:=hc;have h0:ts[0]?=some s:=by rw[<-Array.getElem?_toList,MV];rfl
   exact Kr h0 hs hi hF hM he
  ·cases hc
 ·rename_i s x MV iv;have ha:args.map a.eval=#[a.eval x]:=by rw[<-Array.toArray_toList (xs:=args),iv];simp
  rw[ha];split at hc
  ·rename_i el hs;split at hc
   ·rename_i i z hi hz;cases hc;have h0:ts[0]?=some s:=by rw[<-Array.getElem?_toList,MV];rfl
    exact GK h0 hs hi hz hF hM he
   ·cases hc
  ·cases hc
 ·rename_i x y iv;have ha:args.map a.eval=#[a.eval x,a.eval y]:=by rw[<-Array.toArray_toList (xs:=args),iv];simp
  rw[ha];cases hc;exact MG hF hM he
 ·rename_i x y iv;have ha:args.map a.eval=#[a.eval x,a.eval y]:=by rw[<-Array.toArray_toList (xs:=args),iv];simp
  rw[ha];cases hc;exact MH hF hM he
 ·cases hc
theorem xP {o:Oper} {ao:im} (hc:jG P o.op=some ao) (hF:FR c w t a.tmps) (hM:MR c m w) (hn:c.φ n=.free) {v:AV} {e:eX}
 (he:aW ao t m n=some (v,e)):dT P (execOp a.eval o) c m n w v e:=by
 obtain⟨dst,op,ty,pos,after,guard⟩:=o;simp only at hc;cases op with
 |move x=>simp only[jG,adh]at hc;subst hc;simp only[aW,adh,Prod.mk.injEq]at he;obtain⟨rfl,rfl⟩:=he;exact Iw hF hM
 |assign x=>simp only[jG,adh]at hc;subst hc;simp only[aW,adh,Prod.mk.injEq]at he;obtain⟨rfl,rfl⟩:=he;exact Iw hF hM
 |pick x y z=>simp only[jG,adh]at hc;subst hc;exact Ka hF hM he
 |alloc T=>
  simp only[jG,adf]at hc;obtain⟨z,hz,rfl⟩:=hc;simp only[aW,adh,Prod.mk.injEq]at he;obtain⟨rfl,rfl⟩:=he;exact GB hz hM hn
 |box T x=>
  simp only[jG,adh]at hc;subst hc;simp only[aW,adf,Prod.mk.injEq]at he;obtain⟨cs,b9,rfl,rfl⟩:=he;exact Mz hF hM hn b9
 |build T ps=>exact GD hc hF hM he
 |buildSlice T len ps=>exact DH hc hF hM hn he
 |load T x=>
  simp only[jG,adf]at hc;obtain⟨k,hk,rfl⟩:=hc;exact J9 hk hF hM he
 |store T x y=>
  simp only[jG,adf]at hc;obtain⟨i,hi,rfl⟩:=hc;exact GA hi hF hM he
 |nilCheck x=>
  simp only[jG,adh]at hc;subst hc;obtain⟨u,hu,rfl,mf,Gp⟩:=GF hF he;have:execOp a.eval ⟨dst,.nilCheck x,ty,pos,after,guard⟩=pure (.value u):=by
   rcases Gp with⟨ad,rfl⟩|⟨f,cs,rfl⟩<;>simp only[execOp,mf]
  rw[this];exact DE hM hu
 |binOp op T x y yT=>exact GN hc hF hM he
 |unOp op T x=>simp only[jG,adh]at hc;subst hc;exact RC hF hM he
 |convert s d x=>exact BH hc hF hM hn he
 |makeFunc f first caps=>
  cases f with
  |func f=>
   simp only[jG]at hc;split at hc
   ·rename_i hf;cases hc;simp only[aW,adh,Prod.mk.injEq]at he;obtain⟨rfl,rfl⟩:=he;have:first=#[]:=Array.isEmpty_iff.1 hf
    subst this;have:=Kc (P:=P) (n:=n) (f:=f) (caps:=caps) hF hM;rw[<-Array.map_empty (f:=a.eval)]at this;exact this
   ·cases hc
  |_=>simp[jG]at hc
 |makeSlice T l k=>
  simp only[jG]at hc;split at hc
  ·rename_i el hu;split at hc
   ·rename_i i z hi hz;split at hc;·rename_i cy;cases hc;exact Kn hu hi hz cy.2 hF hM hn he
    ·cases hc
   ·cases hc
  ·cases hc
 |slice T x lo hi mx=>
  cases mx with
  |none=>exact GO hc hF hM he
  |some q=>
   cases hi with
   |none=>simp[jG]at hc
   |some hi=>
    simp only[jG]at hc;split at hc
    ·rename_i el hu;split at hc;·rename_i i gb;cases hc;exact Kp hu gb hF hM hn he
     ·cases hc
    ·cases hc
 |fieldAddr s x f=>
  simp only[jG]at hc;split at hc
  ·rename_i fs hu;split at hc
   ·rename_i off size hf;split at hc;·cases hc
    ·rename_i hs;cases hc;exact GG hu hf hs hF hM he
   ·cases hc
  ·cases hc
 |field s x f=>
  simp only[jG]at hc;split at hc
  ·rename_i fs hu;split at hc
   ·rename_i fd hf;rw[adf]at hc;obtain⟨k,hk,rfl⟩:=hc;exact MF hu hf hk hF hM he
   ·cases hc
  ·cases hc
 |indexAddr T x i=>
  simp only[jG]at hc;split at hc
  ·rename_i el hu;rw[adf]at hc;obtain⟨i',gb,rfl⟩:=hc;exact DO hu gb hF hM he
  ·rename_i k el hu;rw[adf]at hc;obtain⟨i',gb,rfl⟩:=hc;exact DP hu gb hF hM he
  ·cases hc
 |index T x i=>
  simp only[jG]at hc;split at hc;·rename_i hu;cases hc;exact Ke hu hF hM he
  ·rename_i k el hu;split at hc;·rename_i i' q gb hq;cases hc;exact Kf hu gb hq hF hM he
   ·cases hc
  ·cases hc
 |extract x i=>simp only[jG,adh]at hc;subst hc;exact ME hF hM he
 |makeMap T r=>
  cases r with
  |some r=>simp[jG]at hc
  |none=>
   simp only[jG,adh]at hc;subst hc;simp only[aW,adu,kg,adh,Prod.mk.injEq]at he;obtain⟨rfl,rfl⟩:=he;exact GL hM hn
 |lookup T x k comma=>
  simp only[jG]at hc;split at hc
  ·rename_i kT eT hu;split at hc;·rename_i ks z hk hz;cases hc;exact MT hu hk hz hF hM he
   ·cases hc
  ·cases hc
 |mapUpdate T x k y=>
  simp only[jG]at hc;split at hc
  ·rename_i kT eT hu;rw[adf]at hc;obtain⟨ks,hk,rfl⟩:=hc;exact Aw hu hk hF hM he
  ·cases hc
 |insert T x k y=>
  simp only[jG]at hc;split at hc
  ·rename_i kT eT hu;rw[adf]at hc;obtain⟨ks,hk,rfl⟩:=hc;exact Aw hu hk hF hM he
  ·cases hc
 |mapEntry T x k=>
  simp only[jG]at hc;split at hc
  ·rename_i kT eT hu;split at hc;·rename_i ks z hk hz;cases hc;exact Kx hu hk hz hF hM he
   ·cases hc
  ·cases hc
 |entryStore T x j y=>
  simp only[jG,adh]at hc;subst hc;exact Ky hF hM he
 |call cl=>
  obtain⟨callee,args,ts⟩:=cl;simp only[jG]at hc;cases callee with
  |builtin b=>exact BI hc hF hM hn he
  |value f=>
   cases f with
   |func f=>
    simp only at hc;split at hc;·cases hc;simp[aW]at he
    ·cases hc
   |_=>simp only[adh]at hc;subst hc;simp[aW]at he
  |invoke r mth=>simp at hc
 |_=>simp[jG]at hc
end
end Go.Jq
namespace Go.Jq
open Go
abbrev Ren:=List (Nat×Nat)
def ag:Ren->Nat->Option Nat
 | [],_=>none
 |(i,j)::r,k=>if i=k then some j else ag r k
mutual
def AV.aC (π:Nat->Option Nat):AV->AV
 |.d x=>.d x
 |.ptr id off=>match π id with
  |some j=>.ptr j off
  |none=>.any
 |.r8 id T=>match π id with
  |some j=>.r8 j T
  |none=>.any
 |.bj cs=>.bj cs
 |.sl id de off len=>match π id with
  |some j=>.sl j de off len
  |none=>.any
 |.uh id T len=>match π id with
  |some j=>.uh j T len
  |none=>.any
 |.fn f caps=>.fn f (aj π caps)
 |.agg cs=>.agg (aj π cs)
 |.cu vs=>.cu (aj π vs)
 |.oZ id=>match π id with
  |some j=>.oZ j
  |none=>.any
 |.ui z=>.ui z
 |.any=>.any
def aj (π:Nat->Option Nat):List AV->List AV
 | []=>[]
 |x::xs=>x.aC π::aj π xs
end
@[simp]theorem bG (π:Nat->Option Nat) (l:List DV):aj π (l.map .d)=l.map .d:=by
  induction l with
  |nil=>rfl
  |cons x l ih=>simp only[ade,aj,AV.aC,ih]
theorem ae (π:Nat->Option Nat) (l l':List AV):aj π (l++l')=aj π l++aj π l':=by
 induction l with
 |nil=>rfl
 |cons x l ih=>simp only[List.cons_append,aj,ih]
theorem vI (π:Nat->Option Nat) (l:List AV):(aj π l).length=l.length:=by
 induction l with
 |nil=>rfl
 |cons x l ih=>simp only[aj,ads,ih]
mutual
theorem w4 {c c':Ctx} {w:World} {π:Nat->Option Nat} (hI:∀b,c.dm b->c'.dm b) (eI:∀id j,π id=some j->c.φ id≠.free->c'.φ j=c.φ id):
 ∀(x:AV) (v:Value),Rel c w x v->Rel c' w (x.aC π) v
 |.d x,v,h=>by simp only[AV.aC,Rel]at h⊢;exact iV hI (λ_ _=>rfl) x v h
 |.ptr id off,v,h=>by
  simp only[AV.aC,Rel]at h⊢;obtain⟨b,hb,hv⟩:=h;split
  ·rename_i j hj;simp only[Rel];exact⟨b,by rw[eI id j hj (by rw[hb];simp)];exact hb,hv⟩
  ·simp[Rel]
 |.r8 id T,v,h=>by
  simp only[AV.aC,Rel]at h⊢;obtain⟨hv,b,hb,hs⟩:=h;split
  ·rename_i j hj;simp only[Rel];exact⟨hv,b,by rw[eI id j hj (by rw[hb];simp)];exact hb,hs⟩
  ·simp[Rel]
 |.bj cs,v,h=>by
  simp only[AV.aC,Rel]at h⊢;obtain⟨b,o,hb,hv,hc⟩:=h;exact⟨b,o,hI b hb,hv,iJ hI (λ_ _=>rfl) cs b o hb hc⟩
 |.sl id de off len,v,h=>by
  simp only[AV.aC,Rel]at h⊢;split
  ·rename_i j hj;simp only[Rel];rcases h with⟨h0,h⟩|⟨b,cap,n,hb,h⟩;·exact .inl ⟨by rw[eI id j hj (by rw[h0];simp)];exact h0,h⟩
   ·exact .inr ⟨b,cap,n,by rw[eI id j hj (by rw[hb];simp)];exact hb,h⟩
  ·simp[Rel]
 |.uh id T len,v,h=>by
  simp only[AV.aC,Rel]at h⊢;split
  ·rename_i j hj;simp only[Rel];rcases h with⟨h0,h⟩|⟨b,cap,n,hb,h⟩;·exact .inl ⟨by rw[eI id j hj (by rw[h0];simp)];exact h0,h⟩
   ·exact .inr ⟨b,cap,n,by rw[eI id j hj (by rw[hb];simp)];exact hb,h⟩
  ·simp[Rel]
 |.fn f caps,v,h=>by
  simp only[AV.aC,Rel]at h⊢;obtain⟨vs,hv,hl⟩:=h;exact⟨vs,hv,iw hI eI caps vs hl⟩
 |.agg cs,v,h=>by
  simp only[AV.aC,Rel]at h⊢;obtain⟨vs,hv,hl⟩:=h;exact⟨vs,hv,iw hI eI cs vs hl⟩
 |.cu cs,v,h=>by
  simp only[AV.aC,Rel]at h⊢;obtain⟨vs,hv,hl⟩:=h;exact⟨vs,hv,iw hI eI cs vs hl⟩
 |.ui z,v,h=>by simpa only[AV.aC,Rel]using h
 |.oZ id,v,h=>by
  simp only[AV.aC,Rel]at h⊢;obtain⟨b,hb,hv⟩:=h;split
  ·rename_i j hj;simp only[Rel];exact⟨b,by rw[eI id j hj (by rw[hb];simp)];exact hb,hv⟩
  ·simp[Rel]
 |.any,_,_=>by simp[AV.aC,Rel]
theorem iw {c c':Ctx} {w:World} {π:Nat->Option Nat} (hI:∀b,c.dm b->c'.dm b) (eI:∀id j,π id=some j->c.φ id≠.free->c'.φ j=c.φ id):
 ∀(xs:List AV) (vs:List Value),aU c w xs vs->aU c' w (aj π xs) vs
 | [],_,h=>by simpa[aj,aU]using h
 |x::xs,vs,h=>by
  simp only[aj,aU]at h⊢;obtain⟨v,mb,hv,hx,hl⟩:=h;exact⟨v,mb,hv,w4 hI eI x v hx,iw hI eI xs mb hl⟩
end
mutual
def bE (π:Nat->Option Nat):AV->Bool
 |.d _=>true
 |.ptr id _=>(π id).isSome
 |.r8 id _=>(π id).isSome
 |.bj _=>true
 |.sl id _ _ _=>(π id).isSome
 |.uh id _ _=>(π id).isSome
 |.fn _ caps=>bF π caps
 |.agg cs=>bF π cs
 |.cu vs=>bF π vs
 |.oZ id=>(π id).isSome
 |.ui _=>true
 |.any=>true
def bF (π:Nat->Option Nat):List AV->Bool
 | []=>true
 |x::xs=>bE π x&&bF π xs
end
@[simp]theorem cT (π:Nat->Option Nat) (l:List DV):bF π (l.map .d)=true:=by
  induction l with
  |nil=>rfl
  |cons x l ih=>simp only[ade,bF,bE,ih,adg]
mutual
theorem KD {c c':Ctx} {w:World} {π:Nat->Option Nat} (hI:∀b,c'.dm b->c.dm b) (eI:∀id j,π id=some j->c.φ id=c'.φ j):
 ∀(x:AV) (v:Value),bE π x=true->Rel c' w (x.aC π) v->Rel c w x v
 |.d x,v,_,h=>by simp only[AV.aC,Rel]at h⊢;exact iV hI (λ_ _=>rfl) x v h
 |.ptr id off,v,hn,h=>by
  simp only[AV.aC,Rel]at h⊢;simp only[bE]at hn;obtain⟨j,hj⟩:=adv.1 hn;simp only[hj,Rel]at h;obtain⟨b,hb,hv⟩:=h;exact⟨b,by rw[eI id j hj];exact hb,hv⟩
 |.r8 id T,v,hn,h=>by
  simp only[AV.aC,Rel]at h⊢;simp only[bE]at hn;obtain⟨j,hj⟩:=adv.1 hn;simp only[hj,Rel]at h;obtain⟨hv,b,hb,hs⟩:=h;exact⟨hv,b,by rw[eI id j hj];exact hb,hs⟩
 |.bj cs,v,_,h=>by
  simp only[AV.aC,Rel]at h⊢;obtain⟨b,o,hb,hv,hc⟩:=h;exact⟨b,o,hI b hb,hv,iJ hI (λ_ _=>rfl) cs b o hb hc⟩
 |.sl id de off len,v,hn,h=>by
  simp only[AV.aC,Rel]at h⊢;simp only[bE]at hn;obtain⟨j,hj⟩:=adv.1 hn;simp only[hj,Rel]at h;rcases h with⟨h0,h⟩|⟨b,cap,n,hb,h⟩;·exact .inl ⟨by rw[eI id j hj];exact h0,h⟩
  ·exact .inr ⟨b,cap,n,by rw[eI id j hj];exact hb,h⟩
 |.uh id T len,v,hn,h=>by
  simp only[AV.aC,Rel]at h⊢;simp only[bE]at hn;obtain⟨j,hj⟩:=adv.1 hn;simp only[hj,Rel]at h;rcases h with⟨h0,h⟩|⟨b,cap,n,hb,h⟩;·exact .inl ⟨by rw[eI id j hj];exact h0,h⟩
  ·exact .inr ⟨b,cap,n,by rw[eI id j hj];exact hb,h⟩
 |.fn f caps,v,hn,h=>by
  simp only[AV.aC,Rel]at h⊢;simp only[bE]at hn;obtain⟨vs,hv,hl⟩:=h;exact⟨vs,hv,iM hI eI caps vs hn hl⟩
 |.agg cs,v,hn,h=>by
  simp only[AV.aC,Rel]at h⊢;simp only[bE]at hn;obtain⟨vs,hv,hl⟩:=h;exact⟨vs,hv,iM hI eI cs vs hn hl⟩
 |.cu cs,v,hn,h=>by
  simp only[AV.aC,Rel]at h⊢;simp only[bE]at hn;obtain⟨vs,hv,hl⟩:=h;exact⟨vs,hv,iM hI eI cs vs hn hl⟩
 |.oZ id,v,hn,h=>by
  simp only[AV.aC,Rel]at h⊢;simp only[bE]at hn;obtain⟨j,hj⟩:=adv.1 hn;simp only[hj,Rel]at h;obtain⟨b,hb,hv⟩:=h;exact⟨b,by rw[eI id j hj];exact hb,hv⟩
 |.ui z,v,_,h=>by simpa only[AV.aC,Rel]using h
 |.any,_,_,_=>by simp[Rel]
theorem iM {c c':Ctx} {w:World} {π:Nat->Option Nat} (hI:∀b,c'.dm b->c.dm b) (eI:∀id j,π id=some j->c.φ id=c'.φ j):
 ∀(xs:List AV) (vs:List Value),bF π xs=true->aU c' w (aj π xs) vs->aU c w xs vs
 | [],_,_,h=>by simpa[aj,aU]using h
 |x::xs,vs,hn,h=>by
  simp only[aj,aU]at h⊢;simp only[bF,adn]at hn;obtain⟨v,mb,hv,hx,hl⟩:=h;exact⟨v,mb,hv,KD hI eI x v hn.1 hx,iM hI eI xs mb hn.2 hl⟩
end
structure St where
 t:Fr
 m:Mem
 n:Nat
structure CR (c:Ctx) (k:Nat) (S:St) (a:Act) (w:World):Prop where
 defers:a.defers=[]
 size:a.tmps.size=k
 fr:FR c w S.t a.tmps
 mr:MR c S.m w
 free:∀id,S.n<=id->c.φ id=.free
structure Env where
 c:Ctx
 m:Mem
 n:Nat
 w:World
structure wG (E:Env) (c:Ctx) (m:Mem) (w:World):Prop where
 step:Step (gm E.c E.m) E.c c E.w w
 own:∀b,gm c m b->gm E.c E.m b\/E.w.heap.size<=b
 cI:∀id,id<E.n->(ai m id).isSome->(ai E.m id).isSome/\c.φ id=E.c.φ id
def jS (E:Env) (k:Nat) (S:St) (a:Act) (w:World):Prop:=∃c,CR c k S a w/\wG E c S.m w
theorem wG.next {E:Env} {c c':Ctx} {m m':Mem} {w w':World} (h:wG E c m w) (hs:Step (gm c m) c c' w w') (ho:∀b,gm c' m' b->gm c m b\/w.heap.size<=b)
 (hk:∀id,id<E.n->(ai m' id).isSome->(ai m id).isSome/\c'.φ id=c.φ id):wG E c' m' w' where
 step:=h.step.trans hs h.own
 own:=λb hb=>by
  rcases ho b hb with h1|h1;·exact h.own b h1
  ·exact .inr (Nat.le_trans h.step.size h1)
 cI:=λid hid hm=>by
  obtain⟨h1,h2⟩:=hk id hid hm;obtain⟨h3,h4⟩:=h.cI id hid h1;exact⟨h3,h2.trans h4⟩
def aI:Ren->Nat->Option Nat
 | [],_=>none
 |(i,j)::r,k=>if j=k then some i else aI r k
def bm (π:Ren) (t:Fr):Fr->Prop
 | []=>True
 |(i,x)::r=>(ah t i).aC (ag π)=x/\bm π t r
def aL (π:Ren) (m:Mem):Mem->Prop
 | []=>True
 |(j,cs)::r=>(match aI π j with
  |some i=>match ai m i with
   |some nM=>aj (ag π) nM=cs
   |none=>False
  |none=>False)/\aL π m r
def bC (n:Nat):Ren->Bool
 | []=>true
 |(i,j)::r=>decide (j<n)&&(r.all λp=>p.1!=i&&p.2!=j)&&bC n r
def jt (n0:Nat) (π:Ren):Bool:=π.all λp=>decide (p.2<n0)==false||p.1==p.2
structure Ent (n0:Nat) (π:Ren) (S S':St):Prop where
 t:bm π S.t S'.t
 m:aL π S.m S'.m
 ok:bC S'.n π=true
 cI:jt n0 π=true
theorem ix:∀{π:Ren} {i j:Nat},ag π i=some j->(i,j)∈π
 | [],_,_,h=>by simp[ag]at h
 |(i',j')::r,i,j,h=>by
  simp only[ag]at h;split at h;·rename_i e;cases h;subst e;exact adw
  ·exact adx _ (ix h)
theorem fF:∀{π:Ren} {i j:Nat},aI π j=some i->(i,j)∈π
 | [],_,_,h=>by simp[aI]at h
 |(i',j')::r,i,j,h=>by
  simp only[aI]at h;split at h;·rename_i e;cases h;subst e;exact adw
  ·exact adx _ (fF h)
theorem eK:∀{π:Ren} {n:Nat},bC n π=true->(∀i j,(i,j)∈π->ag π i=some j/\aI π j=some i/\j<n)
 | [],_,_=>λ_ _ h=>by simp at h
 |(i',j')::r,n,h=>by
  simp only[bC,adn,decide_eq_true_eq,List.all_eq_true]at h;obtain⟨⟨h1,h2⟩,h3⟩:=h;intro i j hm;rcases List.mem_cons.1 hm with e|hm
  ·cases e;simp[ag,aI,h1]
  ·obtain⟨p1,p2,p3⟩:=eK h3 i j hm;have:=h2 (i,j) hm;simp only[bne_iff_ne,ne_eq]at this;refine⟨?_,?_,p3⟩;·simp only[ag];rw[if_neg (λe=>this.1 e.symm)];exact p1
   ·simp only[aI];rw[if_neg (λe=>this.2 e.symm)];exact p2
theorem DT {π:Ren} {t:Fr}:∀{t':Fr},bm π t t'->∀i,ah t' i=.any\/(ah t i).aC (ag π)=ah t' i
 | [],_,i=>.inl rfl
 |(k,x)::r,h,i=>by
  simp only[bm]at h;simp only[ah];split;·rename_i e;subst e;exact .inr h.1
  ·exact DT h.2 i
theorem mY {π:Ren} {m:Mem}:∀{m':Mem},aL π m m'->∀j cs,ai m' j=some cs->∃i nM,aI π j=some i/\ai m i=some nM/\aj (ag π) nM=cs
 | [],_,j,cs,h=>by simp[ai]at h
 |(k,x)::r,h,j,cs,hj=>by
  simp only[aL]at h;simp only[ai]at hj;split at hj
  ·rename_i e;subst e;cases hj;obtain⟨h,_⟩:=h;split at h
   ·rename_i i hi;split at h
    ·rename_i nM jP;exact⟨i,nM,hi,jP,h⟩
    ·exact h.elim
   ·exact h.elim
  ·exact mY h.2 j cs hj
def Ctx.aC (c:Ctx) (π:Ren):Ctx:={c with φ:=λj=>match aI π j with
 |some i=>c.φ i
 |none=>.free}
theorem lJ {c:Ctx} {π:Ren} {n:Nat} (b8:bC n π=true) {i j:Nat} (h:ag π i=some j):(c.aC π).φ j=c.φ i:=by
 obtain⟨_,h2,_⟩:=eK b8 i j (ix h);simp only[Ctx.aC,h2]
theorem MW {c:Ctx} {m m':Mem} {w:World} {π:Ren} {n:Nat} (b8:bC n π=true) (hM:MR c m w) (hm:aL π m m'):MR (c.aC π) m' w where
 own:=λj cs hj=>by
  obtain⟨i,nM,hi,b9,rfl⟩:=mY hm j cs hj;have eI:(c.aC π).φ j=c.φ i:=by simp only[Ctx.aC,hi]
  rcases hM.own i nM b9 with⟨h0,rfl⟩|⟨b,arr,T,f,hb,gx,hw,hf,vs,rest,ha,hr⟩|⟨b,es,kv,hb,gx,hw,hf,rfl,hr⟩;·exact .inl ⟨eI.trans h0,rfl⟩
  ·exact .inr (.inl ⟨b,arr,T,f,eI.trans hb,gx,hw,hf,vs,rest,ha,iw (c:=c) (c':=c.aC π) (λ_ h=>h) (λi j h _=>lJ b8 h) _ _ hr⟩)
  ·exact .inr (.inr ⟨b,es,aj (ag π) kv,eI.trans hb,gx,hw,hf,rfl,iw (c:=c) (c':=c.aC π) (λ_ h=>h) (λi j h _=>lJ b8 h) _ _ hr⟩)
 inj:=λj j' b hj wC hb fu=>by
  obtain⟨cs,b9⟩:=adv.1 hj;obtain⟨nM,jP⟩:=adv.1 wC;obtain⟨i,_,hi,MX,_⟩:=mY hm j cs b9;obtain⟨i',_,gb,Wj,_⟩:=mY hm j' nM jP;simp only[Ctx.aC,hi]at hb;simp only[Ctx.aC,gb]at fu;have:=hM.inj i i' b (by rw[MX];rfl) (by rw[Wj];rfl) hb fu;subst this;have h1:=(eK b8 i j (fF hi)).1;have h2:=(eK b8 i j' (fF gb)).1;rw[h1]at h2;exact Option.some.inj h2
 dm:=hM.dm
 wX:=hM.wX
theorem RH {c:Ctx} {m m':Mem} {π:Ren} (hm:aL π m m') {b:Nat} (h:gm (c.aC π) m' b):gm c m b:=by
 obtain⟨j,hj,hb⟩:=h;obtain⟨cs,b9⟩:=adv.1 hj;obtain⟨i,_,hi,MX,_⟩:=mY hm j cs b9;simp only[Ctx.aC,hi]at hb;exact⟨i,by rw[MX];rfl,hb⟩
theorem DU {n0:Nat} {π:Ren} (h:jt n0 π=true) {i j:Nat} (hp:aI π j=some i) (hj:j<n0):i=j:=by
 have:=List.all_eq_true.1 h (i,j) (fF hp);simp only[Bool.or_eq_true,beq_iff_eq,decide_eq_false_iff_not]at this;rcases this with h1|h1;·exact absurd hj h1
 ·exact h1
theorem Wl {c:Ctx} {w:World} {t t':Fr} {tmps:Array Value} {π:Ren} {n:Nat} (b8:bC n π=true) (hF:FR c w t tmps) (ht:bm π t t'):FR (c.aC π) w t' tmps:=by
 intro i;rcases DT ht i with h|h;·rw[h];simp[Rel]
 ·rw[<-h];exact w4 (c:=c) (c':=c.aC π) (λ_ h=>h) (λi j h _=>lJ b8 h) _ _ (hF i)
theorem DW {E:Env} {c:Ctx} {m m':Mem} {w:World} {π:Ren} {n:Nat} (acK:bC n π=true) (hk:jt E.n π=true) (hP:wG E c m w) (hm:aL π m m'):wG E (c.aC π) m' w where
 step:=⟨hP.step.os,hP.step.tape,hP.step.output,hP.step.size,hP.step.cI,hP.step.rows,hP.step.dm,hP.step.sk⟩
 own:=λb hb=>hP.own b (RH hm hb)
 cI:=λj hj YD=>by
  obtain⟨cs,b9⟩:=adv.1 YD;obtain⟨i,_,hi,MX,_⟩:=mY hm j cs b9;have:=DU hk hi hj;subst this;obtain⟨h1,h2⟩:=hP.cI i hj (by rw[MX];rfl);exact⟨h1,by simp only[Ctx.aC,hi];exact h2⟩
theorem jS.cN {E:Env} {k:Nat} {S S':St} {a:Act} {w:World} {π:Ren} (h:jS E k S a w) (he:Ent E.n π S S'):jS E k S' a w:=by
 obtain⟨c,hc,hp⟩:=h;refine⟨c.aC π,⟨hc.defers,hc.size,Wl he.ok hc.fr he.t,MW he.ok hc.mr he.m,λid hid=>?_⟩,DW he.ok he.cI hp he.m⟩;simp only[Ctx.aC];split
 ·rename_i i hi;have:=(eK he.ok i id (fF hi)).2.2;omega
 ·rfl
end Go.Jq
namespace Go.Jq
open Go
def w7 (P:Program) (n0 k:Nat) (c:Code) (S:St) (Q:Exit->St->Prop):Prop:=
 ∀(E:Env),E.n=n0->∀(a:Act) (w:World),jS E k S a w->c.wp P (λe a' w'=>∃S',Q e S'/\jS E k S' a' w') a w
def aH (n0 k:Nat) (S S':St):Prop:=∀(E:Env),E.n=n0->∀(a:Act) (w:World),jS E k S a w->jS E k S' a w
theorem aH.refl {n0 k:Nat} (S:St):aH n0 k S S:=λ_ _ _ _ h=>h
theorem aH.cN {n0 k:Nat} {S S':St} (π:Ren) (he:Ent n0 π S S'):aH n0 k S S':=λ_ hE _ _ hc=>hc.cN (hE▸he)
section
variable{P:Program} {n0 k:Nat} {S:St} {Q:Exit->St->Prop}
theorem DX {c:Code} {Q':Exit->St->Prop} (h:w7 P n0 k c S Q) (hq:∀e S,Q e S->Q' e S):w7 P n0 k c S Q':=
 λE hE a w hc=>wp_mono (h E hE a w hc) λe _ _ ⟨S',h1,h2⟩=>⟨S',hq e S' h1,h2⟩
theorem MY (h:Q .normal S):w7 P n0 k .skip S Q:=λ_ _ _ _ hc=>wp_skip ⟨S,h,hc⟩
theorem MZ {id:Nat} (h:Q (.exit id) S):w7 P n0 k (.exit id) S Q:=λ_ _ _ _ hc=>wp_exit ⟨S,h,hc⟩
theorem RI (h:Q .ret S):w7 P n0 k .ret S Q:=λ_ _ _ _ hc=>wp_ret ⟨S,h,hc⟩
def Exit.iy (next:St->Prop) (Q:Exit->St->Prop):Exit->St->Prop
 |.normal,S=>next S
 |e,S=>Q e S
theorem RJ {x y:Code} (h:w7 P n0 k x S (Exit.iy (λS'=>w7 P n0 k y S' Q) Q)):w7 P n0 k (.seq x y) S Q:=by
 intro E hE a w hc;refine wp_seq (wp_mono (h E hE a w hc) ?_);rintro e a' w' ⟨S',h1,h2⟩;cases e with
 |normal=>exact h1 E hE a' w' h2
 |_=>exact⟨S',h1,h2⟩
theorem M0 {c:Operand} {x y:Code} {b:Bool} (hc:ev S.t (aX c)=.d (.bool b)) (ht:b=true->w7 P n0 k x S Q) (hf:b=false->w7 P n0 k y S Q):w7 P n0 k (.cond c x y) S Q:=by
 intro E hE a w h;have h':=h;obtain⟨c',ic,_⟩:=h';have hv:=bx (w:=w) ic.fr c;rw[hc]at hv;have:=eJ hv;exact wp_cond_split this (λhb=>ht hb E hE a w h) (λhb=>hf hb E hE a w h)
def Exit.gC (id:Nat) (Q:Exit->St->Prop):Exit->St->Prop
 |.exit j3,S=>if j3=id then Q .normal S else Q (.exit j3) S
 |e,S=>Q e S
theorem KH {id:Nat} {c:Code} (h:w7 P n0 k c S (Exit.gC id Q)):w7 P n0 k (.block id c) S Q:=by
 intro E hE a w hc;refine wp_block (wp_mono (h E hE a w hc) ?_);rintro e a' w' ⟨S',h1,h2⟩;cases e with
 |exit j3=>
  simp only[Exit.gC]at h1;simp only[Exit.inBlock];split;·rename_i e;rw[if_pos e]at h1;exact⟨S',h1,h2⟩
  ·rename_i e;rw[if_neg e]at h1;exact⟨S',h1,h2⟩
 |_=>exact⟨S',h1,h2⟩
theorem KI {c:Code} {S':St} (he:aH n0 k S S') (h:w7 P n0 k c S' Q):w7 P n0 k c S Q:=
 λE hE a w hc=>h E hE a w (he E hE a w hc)
theorem M1 {c:Code} (I:St->Prop) (μ:St->Nat) (h0:I S)
 (round:∀S,I S->w7 P n0 k c S (Exit.iy (λS'=>∃Q7,aH n0 k S' Q7/\I Q7/\μ Q7<μ S) Q)):w7 P n0 k (.loop c) S Q:=by
 intro E hE a w hc b kk cs;have key:∀n S a w,μ S=n->I S->jS E k S a w->
  ∃e a' w',(∃S',Q e S'/\jS E k S' a' w')/\Arrives P (lone (b.at a (.code c::.inLoop c::kk)) cs w) b kk cs e a' w':=by
  intro n;induction n using Nat.strongRecOn with
  |_ n ih=>
   intro S a w hn hI hc;obtain⟨e,GP,GQ,⟨S',hq,w8⟩,mV⟩:=round S hI E hE a w hc b (.inLoop c::kk) cs;cases e with
   |normal=>
    obtain⟨Q7,he,aby,bd⟩:=hq;obtain⟨abz,abA,abB,YE,RL⟩:=ih (μ Q7) (hn▸bd) Q7 GP GQ rfl aby (he E hE GP GQ w8);exact⟨abz,abA,abB,YE,.of_steps (Steps.trans mV (.one step_inLoop)) RL⟩
   |exit id=>exact⟨_,GP,GQ,⟨S',hq,w8⟩,.pass (x:=.inLoop c) rfl (λ_ _=>.inl (by simp)) mV⟩
   |goto l=>exact⟨_,GP,GQ,⟨S',hq,w8⟩,.pass (x:=.inLoop c) rfl (λ_ _=>.inl (by simp)) mV⟩
   |ret=>exact⟨_,GP,GQ,⟨S',hq,w8⟩,.pass (x:=.inLoop c) rfl (λ_ _=>.inl (by simp)) mV⟩
   |panic ch=>exact⟨_,GP,GQ,⟨S',hq,w8⟩,.pass (x:=.inLoop c) rfl (λ_ _=>.inl (by simp)) mV⟩
   |outgrown=>exact⟨_,GP,GQ,⟨S',hq,w8⟩,.pass (x:=.inLoop c) rfl (λ_ _=>.inl (by simp)) mV⟩
 obtain⟨e,a',w',hq,mV⟩:=key _ S a w rfl h0 hc;exact⟨e,a',w',hq,.of_steps (.one step_loop) mV⟩
end
def aw (m:Mem):Nat:=m.foldr (λp b=>Nat.max (p.1+1) b) 0
theorem jT:∀{m:Mem} {i:Nat},(ai m i).isSome->i<aw m
 | [],i,h=>by simp[ai]at h
 |(j,cs)::r,i,h=>by
  simp only[ai]at h;simp only[aw,adp];split at h;·rename_i e;subst e;exact Nat.le_max_left _ _
  ·exact Nat.lt_of_lt_of_le (jT h) (Nat.le_max_right _ _)
def bT (P:Program) (f:Nat) (args:List AV) (m:Mem) (Q:AV->Mem->Prop):Prop:=
 ∀(c:Ctx) (w:World) (vs:List Value),aU c w args vs->MR c m w->(∀id,aw m<=id->c.φ id=.free)->
  Calls P f vs.toArray w λe w'=>∃v r m' c',e=.returned v/\Q r m'/\Rel c' w' r v/\MR c' m' w'/\Step (gm c m) c c' w w'/\
   (∀b,gm c' m' b->gm c m b\/w.heap.size<=b)/\(∀id,id<aw m->(ai m' id).isSome->(ai m id).isSome/\c'.φ id=c.φ id)/\
   (∀id,Nat.max (aw m) (aw m')<=id->c'.φ id=.free)
def IA:Nat->List AV->Fr
 |_,[]=>[]
 |i,x::xs=>(i,x)::IA (i+1) xs
theorem DY:∀(xs:List AV) (i j:Nat),ah (IA i xs) j=if i<=j then xs.getD (j-i) .any else .any
 | [],i,j=>by simp[IA,ah]
 |x::xs,i,j=>by
  simp only[IA,ah];by_cases h:i=j;·subst h;simp
  ·rw[if_neg h,DY xs (i+1) j];by_cases h1:i<=j
   ·rw[if_pos (by omega),if_pos h1];have:j-i=(j-(i+1))+1:=by omega
    rw[this,List.getD_cons_succ]
   ·rw[if_neg (by omega),if_neg h1]
def bK (S:St) (P:Program):ResultVar->Option AV
 |.tmp t=>some (ah S.t t)
 |.cell a T=>match ah S.t a,o4 P T with
  |.ptr id off,some kk=>match ai S.m id with
   |some cs=>aP kk (cs.drop off)
   |none=>none
  |_,_=>none
def aV (S:St) (P:Program):List ResultVar->Option (List AV)
 | []=>some []
 |r::rs=>match bK S P r,aV S P rs with
  |some v,some vs=>some (v::vs)
  |_,_=>none
def bB (P:Program) (rs:Array ResultVar) (S:St):Option AV:=
 match aV S P rs.toList with
 |some [v]=>some v
 |some vs=>some (.cu vs)
 |none=>none
theorem M3 {P:Program} {c:Ctx} {k:Nat} {S:St} {a:Act} {w:World} (hc:CR c k S a w) {r:ResultVar} {v:AV} (h:bK S P r=some v):
 ∃u,((match r with|.tmp t=>pure (a.tmps.getD t undef)|.cell ad t=>do loadVar t (<-asAddr (a.tmps.getD ad undef))):Sem Value).run P w=.ok u w/\Rel c w v u:=by
 cases r with
 |tmp t=>simp only[bK,adh]at h;subst h;exact⟨_,rfl,hc.fr t⟩
 |cell ad T=>
  simp only[bK]at h;split at h
  ·rename_i id off kk h1 h2;split at h
   ·rename_i cs b9;have hx:=hc.fr ad;rw[h1]at hx;obtain⟨b,hb,hv⟩:=qh hx;obtain⟨u,hu,hr⟩:=pf (P:=P) h2 (me hc.mr b9 hb off) h;refine⟨u,?_,hr⟩;simp only[hv,asAddr,ac1,ac0,acZ,hu]
   ·cases h
  ·cases h
theorem Ax {P:Program} {c:Ctx} {k:Nat} {S:St} {a:Act} {w:World} (hc:CR c k S a w) (f:ResultVar->Sem Value)
 (hf:∀r,f r=((match r with|.tmp t=>pure (a.tmps.getD t undef)|.cell ad t=>do loadVar t (<-asAddr (a.tmps.getD ad undef))):Sem Value)):∀{rs:List ResultVar} {vs:List AV},aV S P rs=some vs->
 ∃us,(rs.mapM f).run P w=.ok us w/\aU c w vs us
 | [],vs,h=>by simp only[aV,adh]at h;subst h;exact⟨[],by simp,by simp[aU]⟩
 |r::rs,vs,h=>by
  simp only[aV]at h;split at h
  ·rename_i v mb h1 h2;cases h;obtain⟨u,hu,hr⟩:=M3 hc h1;obtain⟨us,wD,GR⟩:=Ax hc f hf h2;refine⟨u::us,?_,by simp only[aU];exact⟨u,us,rfl,hr,GR⟩⟩;rw[List.mapM_cons];rw[<-hf]at hu;simp only[ac1,hu,acZ,wD,ac0]
  ·cases h
theorem M4 {P:Program} {c:Ctx} {k:Nat} {S:St} {a:Act} {w:World} {fn:Func} (hc:CR c k S a w) {v:AV} (h:bB P fn.results S=some v):
 ∃u,(results fn a.tmps).run P w=.ok u w/\Rel c w v u:=by
 unfold bB at h;have key:∀vs,aV S P fn.results.toList=some vs->∃us:List Value,aU c w vs us/\(results fn a.tmps).run P w=.ok (if h:us.toArray.size=1 then us.toArray[0]else .tuple us.toArray) w:=by
  intro vs xF;have dD:=λf hf=>Ax (P:=P) hc f hf xF;have hex:∃us:List Value,aU c w vs us/\(results fn a.tmps).run P w=.ok (if h:us.toArray.size=1 then us.toArray[0]else .tuple us.toArray) w:=by
   unfold results;rw[<-Array.toArray_toList (xs:=fn.results),List.mapM_toArray];simp only[ac1,Sem.run_map];obtain⟨us,wD,hr⟩:=dD (λx=>match x with
    |.tmp t=>pure (a.tmps.getD t undef)
    |.cell a_1 t=>do loadVar t (<-asAddr (a.tmps.getD a_1 undef))) (λr=>by cases r<;>rfl)
   refine⟨us,hr,?_⟩;refine(congrArg (λr=>(Result.andThen (Result.andThen r _) _)) wD).trans ?_;rfl
  exact hex
 split at h
 ·rename_i v' xF;cases h;obtain⟨us,hr,dD⟩:=key _ xF;simp only[aU]at hr;obtain⟨u,Gm,rfl,hu,rfl⟩:=hr;exact⟨u,by rw[dD];simp,hu⟩
 ·rename_i vs l6 xF;cases h;obtain⟨us,hr,dD⟩:=key _ xF;refine⟨.tuple us.toArray,?_,by simp only[Rel];exact⟨us,rfl,hr⟩⟩;rw[dD,dif_neg];intro h1;have hl:=hr.length;simp at h1;rw[h1]at hl;cases vs with
  |nil=>simp at hl
  |cons x xs=>
   cases xs with
   |nil=>exact l6 x rfl
   |cons y ys=>simp at hl
 ·cases h
def mZ (P:Program) (rs:Array ResultVar) (n0:Nat) (Q:AV->Mem->Prop):Exit->St->Prop
 |.normal,S=>∃v,bB P rs S=some v/\∃π m',bC (Nat.max n0 (aw m')) π=true/\jt n0 π=true/\aL π S.m m'/\Q (v.aC (ag π)) m'
 |.ret,S=>∃v,bB P rs S=some v/\∃π m',bC (Nat.max n0 (aw m')) π=true/\jt n0 π=true/\aL π S.m m'/\Q (v.aC (ag π)) m'
 |_,_=>False
theorem q9 {P:Program} {f:Nat} {fn:Func} {code:Code} {args:List AV} {m:Mem} {Q:AV->Mem->Prop} (hf:P.funcs[f]?=some fn) (hb:fn.body=some code)
 (hn:args.length<=fn.ntmps) (h:w7 P (aw m) fn.ntmps code ⟨IA 0 args,m,aw m⟩ (mZ P fn.results (aw m) Q)):bT P f args m Q:=by
 intro c w vs hr hM fG;have hl:=hr.length;refine calls_of_wp hf hb ?_;have vJ:jS ⟨c,m,aw m,w⟩ fn.ntmps ⟨IA 0 args,m,aw m⟩ {tmps:=vs.toArray++Array.replicate (fn.ntmps-vs.toArray.size) undef,defers:=[]} w:=by
  refine⟨c,⟨rfl,?_,?_,hM,fG⟩,⟨Step.refl _ _ _,λb hb=>.inl hb,λid _ h=>⟨h,rfl⟩⟩⟩;·simp;omega
  ·intro i;rw[DY];simp only[Nat.zero_le,if_true,Nat.sub_zero];by_cases hi:i<args.length
   ·obtain⟨v,hv,jH⟩:=hr.get (i:=i) (x:=args[i]) (by simp[hi]);have h1:(vs.toArray++Array.replicate (fn.ntmps-vs.toArray.size) undef).getD i undef=v:=by
     rw[Array.getD_eq_getD_getElem?,Array.getElem?_append_left (by simp;omega),List.getElem?_toArray,hv];rfl
    rw[h1];simpa[hi]using jH
   ·have:args.getD i .any=.any:=by simp[hi]
    rw[this];simp[Rel]
 have ck:∀(S':St) (a':Act) (w':World),(∃v,bB P fn.results S'=some v/\∃π m',bC (Nat.max (aw m) (aw m')) π=true/\jt (aw m) π=true/\aL π S'.m m'/\Q (v.aC (ag π)) m')->
  jS ⟨c,m,aw m,w⟩ fn.ntmps S' a' w'->a'.defers=[]/\∃v,(results fn a'.tmps).run P w'=.ok v w'/\
   (∃v' r m' c',Ending.returned v=.returned v'/\Q r m'/\Rel c' w' r v'/\MR c' m' w'/\Step (gm c m) c c' w w'/\
  (∀b,gm c' m' b->gm c m b\/w.heap.size<=b)/\(∀id,id<aw m->(ai m' id).isSome->(ai m id).isSome/\c'.φ id=c.φ id)/\
  (∀id,Nat.max (aw m) (aw m')<=id->c'.φ id=.free)):=by
  rintro S' a' w' ⟨v,hv,π,m',b8,hk,hm,hQ⟩ ⟨c1,ic,hp⟩;obtain⟨u,hu,jH⟩:=M4 ic hv;have GS:=DW b8 hk hp hm;refine⟨ic.defers,u,hu,u,_,m',c1.aC π,rfl,hQ,w4 (c:=c1) (c':=c1.aC π) (λ_ h=>h) (λi j h _=>lJ b8 h) _ _ jH,MW b8 ic.mr hm,GS.step,GS.own,GS.cI,λid hid=>?_⟩;simp only[Ctx.aC];split
  ·rename_i i hi;have:=(eK b8 i id (fF hi)).2.2;exact absurd hid (Nat.not_le.2 this)
  ·rfl
 refine wp_mono (h ⟨c,m,aw m,w⟩ rfl _ _ vJ) ?_;rintro e a' w' ⟨S',h1,h2⟩;cases e with
 |normal=>exact ck S' a' w' h1 h2
 |ret=>exact ck S' a' w' h1 h2
 |_=>exact h1.elim
end Go.Jq
namespace Go.Jq
open Go
def oR (P:Program) (f:Nat) (args:List AV) (m:Mem) (n:Nat) (F:Nat->Prop) (R:AV->Mem->Nat->Prop):Prop:=
 ∀(c:Ctx) (w:World) (vs:List Value),aU c w args vs->MR c m w->(∀id,F id->c.φ id=.free)->
  Calls P f vs.toArray w λe w'=>∃v r m' n' c',e=.returned v/\R r m' n'/\Rel c' w' r v/\MR c' m' w'/\Step (gm c m) c c' w w'/\
   (∀b,gm c' m' b->gm c m b\/w.heap.size<=b)/\(∀id,¬(n<=id/\id<n')->c'.φ id=c.φ id)/\(∀id,¬(n<=id/\id<n')->(ai m' id).isSome->(ai m id).isSome)/\n<=n'
theorem oR.mono {P:Program} {f:Nat} {args:List AV} {m:Mem} {n:Nat} {F:Nat->Prop} {R R':AV->Mem->Nat->Prop} (h:oR P f args m n F R) (hq:∀r m' n',R r m' n'->R' r m' n'):oR P f args m n F R':=
 λc w vs h1 h2 h3=>(h c w vs h1 h2 h3).mono λ_ _ ⟨v,r,m',n',c',a1,a2,a3⟩=>⟨v,r,m',n',c',a1,hq r m' n' a2,a3⟩
def cK (t:Fr):Option Nat->AV->Fr
 |some d,v=>(d,v)::t
 |none,_=>t
def ju (P:Program) (o:bA) (S:St) (K:St->Prop):Prop:=
 match o.op with
 |.bW f args=>∃R,oR P f (args.map (ev S.t)) S.m S.n (S.n<=·) R/\∀r m n,R r m n->K ⟨cK S.t o.dst r,m,n⟩
 |.fb x args=>match ev S.t x with
  |.fn f caps=>jo P f=true/\∃R,oR P f (args.map (ev S.t)++caps) S.m S.n (S.n<=·) R/\∀r m n,R r m n->K ⟨cK S.t o.dst r,m,n⟩
  |_=>False
 |op=>match aW op S.t S.m S.n with
  |some (v,e)=>K ⟨cK S.t o.dst v,e.mem S.m S.n,e.next S.n⟩
  |none=>False
def cz (P:Program):List bA->St->(St->Prop)->Prop
 | [],S,K=>K S
 |o::r,S,K=>match o.guard with
  |none=>ju P o S λS'=>cz P r S' K
  |some (g,want)=>match ah S.t g with
   |.d (.bool b)=>if b=want then ju P o S λS'=>cz P r S' K else cz P r ⟨cK S.t o.dst (.cu []),S.m,S.n⟩ K
   |.cu _=>cz P r ⟨cK S.t o.dst (.cu []),S.m,S.n⟩ K
   |_=>False
section
variable{P:Program} {E:Env} {k:Nat} {S:St} {a:Act} {w:World}
theorem M5 {c:Ctx} {t:Fr} {tmps:Array Value} {d:Nat} {x:AV} {v:Value} (hF:FR c w t tmps) (hd:d<tmps.size) (hx:Rel c w x v):
 FR c w ((d,x)::t) (tmps.setIfInBounds d v):=by
 intro i;simp only[ah];split
 ·rename_i e;subst e;rw[Array.getD_eq_getD_getElem?,Array.getElem?_setIfInBounds_self_of_lt hd];exact hx
 ·rename_i e;rw[Array.getD_eq_getD_getElem?,Array.getElem?_setIfInBounds_ne e,<-Array.getD_eq_getD_getElem?];exact hF i
theorem na {S':St} {dst:Option Nat} {v:AV} {u:Value} {w':World} {m':Mem} {n':Nat} {c c':Ctx} (ic:CR c k S a w) (hp:wG E c S.m w) (RM:E.n<=S.n)
 (hd:∀d,dst=some d->d<k) (hr:Rel c' w' v u\/v=.any) (hM:MR c' m' w') (hs:Step (gm c S.m) c c' w w') (ho:∀b,gm c' m' b->gm c S.m b\/w.heap.size<=b)
 (eI:∀id,id<S.n->c'.φ id=c.φ id) (Gq:∀id,id<S.n->(ai m' id).isSome->(ai S.m id).isSome) (hf:∀id,n'<=id->c'.φ id=.free)
 (hS:S'=⟨cK S.t dst v,m',n'⟩):jS E k S' (a.put dst u) w':=by
 subst hS;have rl:∀id,c.φ id≠.free->c'.φ id=c.φ id:=λid hid=>eI id (by
  rcases Nat.lt_or_ge id S.n with h|h;·exact h
  ·exact absurd (ic.free id h) hid)
 have hl:=hs.later ic.mr rl;have Wm:FR c' w' S.t a.tmps:=λi=>lB hl _ _ (ic.fr i);refine⟨c',⟨?_,?_,?_,hM,hf⟩,hp.next hs ho λid hid hm=>?_⟩;·cases dst<;>exact ic.defers
 ·cases dst with
  |none=>exact ic.size
  |some d=>simp only[Act.put,Array.size_setIfInBounds];exact ic.size
 ·cases dst with
  |none=>exact Wm
  |some d=>
   simp only[cK,Act.put];refine M5 Wm (by rw[ic.size];exact hd d rfl) ?_;rcases hr with h|rfl;·exact h
   ·simp[Rel]
 ·have:id<S.n:=Nat.lt_of_lt_of_le hid RM;exact⟨Gq id this hm,eI id this⟩
theorem M6 {e:eX} {m:Mem} {n id:Nat} (h:id<n) (hm:(ai (e.mem m n) id).isSome) (he:∀i cs,e=.put i cs->(ai m i).isSome):(ai m id).isSome:=by
 cases e with
 |nil=>exact hm
 |new cs=>simp only[eX.mem,bh]at hm;rw[if_neg (by omega)]at hm;exact hm
 |put i cs=>
  simp only[eX.mem,bh]at hm;split at hm;·rename_i e;subst e;exact he i cs rfl
  ·exact hm
 |Q4 i cs=>
  simp only[eX.mem,bh,eF]at hm;rw[if_neg (by omega)]at hm;split at hm;·simp at hm
  ·exact hm
theorem M7 {k:jL} {xs:List AV} {m:Mem} {n:Nat} {v:AV} {i:Nat} {cs:List AV} (h:kg k xs m n=some (v,.put i cs)):(ai m i).isSome:=by
 unfold kg at h;split at h
 ·split at h;·split at h<;>cases h
  ·cases h
 ·split at h
  ·split at h;·cases h
   ·split at h<;>cases h
  ·cases h
 ·split at h
  ·rename_i hm _;split at h;·cases h;rw[hm];rfl
   ·cases h
  ·cases h
 ·cases h
 ·split at h
  ·rw[adf]at h;obtain⟨_,_,h⟩:=h;cases h
  ·cases h
 ·split at h
  ·rename_i hm;rw[adf]at h;obtain⟨_,_,h⟩:=h;cases h;rw[gB hm];rfl
  ·cases h
 ·split at h
  ·rename_i hm;rw[adf]at h;obtain⟨_,_,h⟩:=h;cases h;rw[gB hm];rfl
  ·cases h
 ·split at h
  ·rename_i hm;split at h;·cases h;rw[gB hm];rfl
   ·cases h
  ·cases h
 ·split at h;·cases h
  ·split at h<;>cases h
  ·cases h
  ·split at h<;>cases h
  ·cases h
 ·split at h
  ·rename_i hm;split at h;·cases h;rw[hm];rfl
   ·cases h
  ·cases h
 ·rw[adf]at h;obtain⟨_,_,h⟩:=h;cases h
 ·cases h
theorem DZ {o:im} {t:Fr} {m:Mem} {n:Nat} {v:AV} {i:Nat} {cs:List AV} (h:aW o t m n=some (v,.put i cs)):(ai m i).isSome:=by
 have key:∀(o:im) (r:Option (AV×eX)),aW o t m n=r->∀v i cs,r=some (v,.put i cs)->(ai m i).isSome:=by
  intro o r hr v i cs hv;subst hr;cases o<;>simp only[aW]at hv
  case store k a x=>
   split at hv
   ·split at hv
    ·rename_i hm;split at hv;·cases hv;rw[hm];rfl
     ·cases hv
    ·cases hv
   ·cases hv
  case iW k xs=>exact M7 hv
  all_goals
   (repeat' split at hv)<;>simp_all
 exact key o _ rfl v i cs h
theorem jv {f:Nat} {args:Array Value} (h:jo P f=true) (w:World):(callFunc f args).run P w=.ok (.enter f args) w:=by
 unfold jo at h;split at h
 ·rename_i fn YF;simp only[adn,bne_iff_ne,ne_eq]at h;have hb:fn.body.isNone=false:=by
   cases hb:fn.body<;>simp_all
  simp only[callFunc,ac1,run_program,acZ,YF];rw[if_neg (by simpa using h.2)];simp only[hb,ac5,if_false,ac0]
 ·cases h
def nU:im->Bool
 |.bW _ _=>true
 |.fb _ _=>true
 |_=>false
theorem zK {b:Builtin} {ts:Array TypeId} {args:Array Operand} {ao:im} (h:pa P b ts args=some ao):nU ao=false:=by
 unfold pa at h;simp only[Option.map_eq_map,Option.map]at h
 repeat' split at h
 all_goals first
  |(cases h;done)
  |(cases h;rfl)
theorem sG {op:Op} {ao:im} (h:jG P op=some ao) (hc:nU ao=true):∃callee args ts,op=.call ⟨callee,args,ts⟩/\
 ((∃f,callee=.value (.func f)/\jo P f=true/\ao=.bW f (args.toList.map aX))\/(∃x,callee=.value x/\ao=.fb (aX x) (args.toList.map aX))):=by
 have no:nU ao=false->∃callee args ts,op=.call ⟨callee,args,ts⟩/\
  ((∃f,callee=.value (.func f)/\jo P f=true/\ao=.bW f (args.toList.map aX))\/(∃x,callee=.value x/\ao=.fb (aX x) (args.toList.map aX))):=λh=>by rw[h]at hc;cases hc
 have YG:∀{α:Type} {o:Option α} {f:α->im},o.map f=some ao->(∀x,nU (f x)=false)->nU ao=false:=by
  intro α o f h hf;rw[adf]at h;obtain⟨x,_,rfl⟩:=h;exact hf x
 cases op with
 |call cl=>
  obtain⟨callee,args,ts⟩:=cl;refine⟨callee,args,ts,rfl,?_⟩;cases callee with
  |builtin b=>have:=zK h;rw[this]at hc;cases hc
  |value x=>
   cases x with
   |func f=>
    simp only[jG]at h;split at h;·rename_i hg;cases h;exact .inl ⟨f,rfl,hg,rfl⟩
    ·cases h
   |tmp i=>simp only[jG,adh]at h;exact .inr ⟨_,rfl,h.symm⟩
   |const i=>simp only[jG,adh]at h;exact .inr ⟨_,rfl,h.symm⟩
   |global i=>simp only[jG,adh]at h;exact .inr ⟨_,rfl,h.symm⟩
  |invoke r mth=>simp only[jG]at h;cases h
 |makeFunc fn first caps=>
  refine no ?_;cases fn with
  |func f=>
   simp only[jG]at h;split at h<;>cases h;rfl
  |_=>simp[jG]at h
 |slice T x lo hi mx=>
  refine no ?_;cases mx with
  |none=>
   simp only[jG]at h
   repeat' split at h
   all_goals first
    |(cases h;done)
    |(cases h;rfl)
  |some q=>
   cases hi with
   |none=>simp[jG]at h
   |some hi=>
    simp only[jG]at h
    repeat' split at h
    all_goals first
     |(cases h;done)
     |(cases h;rfl)
 |makeMap T r=>
  refine no ?_;cases r with
  |none=>have h0:jG P (.makeMap T none)=some (.iW .Iu []):=rfl;rw[h0]at h;cases h;rfl
  |some r=>have h0:jG P (.makeMap T (some r))=none:=rfl;rw[h0]at h;cases h
 |go cl=>have h0:jG P (.go cl)=none:=rfl;rw[h0]at h;cases h
 |defer cl=>have h0:jG P (.defer cl)=none:=rfl;rw[h0]at h;cases h
 |_=>
  refine no ?_;simp only[jG,reduceCtorEq]at h
  try(repeat' split at h)
  all_goals first
   |(cases h;done)
   |(cases h;rfl)
   |exact YG h λ_=>rfl
theorem w9 {o:Oper} {ao:bA} {ops:Array Oper} {Q:Exit->Act->World->Prop} {K:St->Prop} {Kw:Act->World->Prop} (o5:oN P ops k o=some ao) (RM:E.n<=S.n)
 (hK:∀S' a' w',K S'->jS E k S' a' w'->S.n<=S'.n->Kw a' w') (hc:jS E k S a w) (h:ju P ao S K):o.wp P a w Kw Q:=by
 unfold oN at o5;split at o5
 ·rename_i aop g wF hg;split at o5
  ·rename_i YH;cases o5;have hd:∀d,o.dst=some d->d<k:=λd hd=>by rw[hd]at YH;simpa[Mx]using YH
   obtain⟨c,ic,hp⟩:=hc;have plain:∀v e,aW aop S.t S.m S.n=some (v,e)->K ⟨cK S.t o.dst v,e.mem S.m S.n,e.next S.n⟩->o.wp P a w Kw Q:=by
    intro v e he hk;obtain⟨r,w',c',dD,hr,hM,hs,eI,ho⟩:=xP (o:=o) wF ic.fr ic.mr (ic.free S.n (acV _)) he;have hle:S.n<=e.next S.n:=by cases e<;>simp[eX.next]
    have Wn:∀id,e.next S.n<=id->c'.φ id=.free:=by
     intro id hid;by_cases lG:id=S.n
     ·subst lG;rw[eI S.n (.inr (Nat.le_antisymm hid hle))];exact ic.free _ (acV _)
     ·rw[eI id (.inl lG)];exact ic.free id (Nat.le_trans hle hid)
    have vJ:∀u,(Rel c' w' v u\/v=.any)->jS E k ⟨cK S.t o.dst v,e.mem S.m S.n,e.next S.n⟩ (a.put o.dst u) w':=λu iL=>
     na ic hp RM hd iL hM hs ho (λid hid=>eI id (.inl (Nat.ne_of_lt hid))) (λid hid hm=>M6 hid hm λi cs Md=>DZ (Md▸he)) Wn rfl
    unfold Oper.wp;rw[dD];rcases hr with⟨u,rfl,iL⟩|⟨rfl,hv⟩;·exact hK _ _ _ hk (vJ u (.inl iL)) hle
    ·exact hK _ _ _ hk (vJ undef (.inr hv)) hle
   have enter:∀(f:Nat) (args:List AV) (vs:List Value) (R:AV->Mem->Nat->Prop),oR P f args S.m S.n (S.n<=·) R->(∀r m n,R r m n->K ⟨cK S.t o.dst r,m,n⟩)->aU c w args vs->
    (execOp a.eval o).run P w=.ok (.enter f vs.toArray) w->o.wp P a w Kw Q:=by
    intro f args vs R hR hk nH dD;unfold Oper.wp;rw[dD];rw[Oper.upon_enter];refine(hR c w vs nH ic.mr ic.free).mono ?_;rintro e' w' ⟨v,r,m',n',c',rfl,hr,iL,hM,hs,ho,eI,Gq,Q8⟩;exact hK _ _ _ (hk r m' n' hr) (na ic hp RM hd (.inl iL) hM hs ho (λid hid=>eI id (by omega)) (λid hid=>Gq id (by omega)) (λid hid=>(eI id (by omega)).trans (ic.free id (by omega))) rfl) Q8
   obtain⟨dst,op,ty,pos,after,guard⟩:=o;simp only at wF;unfold ju at h;split at h
   ·
    rename_i f args xa;simp only at xa;subst xa;obtain⟨R,hR,hk⟩:=h;obtain⟨callee,iz,ts,rfl,w3|w3⟩:=sG wF rfl
    ·obtain⟨f',rfl,RN,he⟩:=w3;cases he;refine enter f _ _ R hR hk (qe ic.fr iz.toList) ?_;have h1:(execOp a.eval ⟨dst,.call ⟨.value (.func f),iz,ts⟩,ty,pos,after,guard⟩).run P w=(callFunc f ((#[]++iz.map a.eval)++#[])).run P w:=rfl
     rw[h1,jv RN w]
     congr 2
     apply Array.ext';simp
    ·obtain⟨y,_,he⟩:=w3;cases he
   ·rename_i x args xa;simp only at xa;subst xa;split at h
    ·rename_i f caps mf;obtain⟨RN,R,hR,hk⟩:=h;obtain⟨callee,iz,ts,rfl,w3|w3⟩:=sG wF rfl
     ·obtain⟨y,_,_,he⟩:=w3;cases he
     ·obtain⟨y,rfl,he⟩:=w3;cases he;have hx:=bx (w:=w) ic.fr y;rw[mf]at hx;obtain⟨us,hu,iL⟩:=xH hx;refine enter f _ _ R hR hk ((qe ic.fr iz.toList).append iL) ?_;have h1:(execOp a.eval ⟨dst,.call ⟨.value y,iz,ts⟩,ty,pos,after,guard⟩).run P w=((Deferred.ofValue (a.eval y) (iz.map a.eval))>>=λd=>invoke d.target d.args).run P w:=rfl;rw[h1,hu];have h2:((Deferred.ofValue (.func (.func f) #[] us.toArray) (iz.map a.eval))>>=λd=>invoke d.target d.args).run P w=(callFunc f ((#[]++iz.map a.eval)++us.toArray)).run P w:=rfl
      rw[h2,jv RN w]
      congr 2
      apply Array.ext';simp
    ·exact h.elim
   ·split at h
    ·rename_i v e he;exact plain v e he h
    ·exact h.elim
  ·cases o5
 ·cases o5
end
end Go.Jq
namespace Go.Jq
open Go
section
variable{P:Program} {E:Env} {k:Nat}
theorem sH {ops:Array Oper} {o:Oper} {g:Nat} {want b:Bool} {t:Fr} {c:Ctx} {a:Act} {w:World} (hg:jq ops o.guard=some (some (g,want))) (hF:FR c w t a.tmps)
 (hb:ah t g=.d (.bool b)):Region.wanted o (yielded ops a.tmps)=(b==want):=by
 unfold jq at hg;cases ho:o.guard with
 |none=>rw[ho]at hg;cases hg
 |some jw=>
  obtain⟨j,wt⟩:=jw;rw[ho]at hg;simp only at hg;split at hg
  ·rename_i o' hj;split at hg
   ·rename_i d hd;cases hg;have hx:=hF g;rw[hb]at hx;have hv:=eJ hx;have hy:yielded ops a.tmps j=some b:=by
     unfold yielded;simp only[hj,Option.bind_some,hd];rw[Array.getD_eq_getD_getElem?]at hv;cases hq:a.tmps[g]?with
     |none=>rw[hq]at hv;cases hv
     |some u=>rw[hq]at hv;simp only[adE]at hv;subst hv;rfl
    unfold Region.wanted;rw[ho];simp only[hy];cases b<;>cases want<;>rfl
   ·cases hg
  ·cases hg
theorem Ay {ops:Array Oper} {o:Oper} {g:Nat} {want:Bool} {cs:List AV} {t:Fr} {c:Ctx} {a:Act} {w:World} (hg:jq ops o.guard=some (some (g,want))) (hF:FR c w t a.tmps)
 (hb:ah t g=.cu cs):Region.wanted o (yielded ops a.tmps)=false:=by
 unfold jq at hg;cases ho:o.guard with
 |none=>rw[ho]at hg;cases hg
 |some jw=>
  obtain⟨j,wt⟩:=jw;rw[ho]at hg;simp only at hg;split at hg
  ·rename_i o' hj;split at hg
   ·rename_i d hd;cases hg;have hx:=hF g;rw[hb]at hx;simp only[Rel]at hx;obtain⟨vs,hv,_⟩:=hx;have hy:yielded ops a.tmps j=none:=by
     unfold yielded;simp only[hj,Option.bind_some,hd];rw[Array.getD_eq_getD_getElem?]at hv;cases hq:a.tmps[g]?with
     |none=>rfl
     |some u=>rw[hq]at hv;simp only[adE]at hv;subst hv;rfl
    unfold Region.wanted;rw[ho];simp only[hy];cases want<;>rfl
   ·cases hg
  ·cases hg
theorem nc (c:Ctx) (w:World):Rel c w (.cu []) undef:=by
 simp only[Rel,aU];exact⟨[],rfl,rfl⟩
theorem xQ {ops:Array Oper} {o:Oper} (hg:jq ops o.guard=some none) (y:Nat->Option Bool):Region.wanted o y=true:=by
 unfold jq at hg;cases ho:o.guard with
 |none=>unfold Region.wanted;rw[ho]
 |some jw=>
  obtain⟨j,wt⟩:=jw;rw[ho]at hg;simp only at hg;split at hg
  ·split at hg;·cases hg
   ·cases hg
  ·cases hg
theorem ku {ops:Array Oper} {o:Oper} {ao:bA} (h:oN P ops k o=some ao):jq ops o.guard=some ao.guard/\ao.dst=o.dst/\(∀d,o.dst=some d->d<k):=by
 unfold oN at h;split at h
 ·rename_i aop g wF hg;split at h
  ·rename_i hd;cases h;exact⟨hg,rfl,λd he=>by rw[he]at hd;simpa[Mx]using hd⟩
  ·cases h
 ·cases h
theorem jx {ops:Array Oper} {Q:Exit->Act->World->Prop} {K:St->Prop} (hK:∀S' a' w',K S'->jS E k S' a' w'->Q .normal a' w'):
 ∀(l:List Oper) (al:List bA) (i:Nat) (S:St) (a:Act) (w:World),(∀j,l[j]?=ops[i+j]?)->ib P ops k l=some al->E.n<=S.n->jS E k S a w->cz P al S K->
  wpOps P ops Q (List.range' i l.length) a w
 | [],al,i,S,a,w,_,hc,_,nV,h=>by
   simp only[ib,adh]at hc;subst hc;exact hK S a w h nV
 |o::l,al,i,S,a,w,hl,hc,hn,nV,h=>by
  simp only[ib]at hc;split at hc
  ·rename_i ao r' h1 h2;cases hc;have h0:ops[i]?=some o:=by simpa using(hl 0).symm
   have zx:∀j,l[j]?=ops[i+1+j]?:=λj=>by have:=hl (j+1);simpa[Nat.add_assoc,Nat.add_comm 1 j]using this
   obtain⟨hg,hd,KJ⟩:=ku h1;simp only[ads,List.range'_succ,wpOps,h0];simp only[cz]at h;split at h
   ·rename_i YI;rw[YI]at hg;rw[if_pos (xQ hg _)];exact .inl (w9 h1 hn (λS' a' w' hs w8 hle=>jx hK l r' (i+1) S' a' w' zx h2 (Nat.le_trans hn hle) w8 hs) nV h)
   ·rename_i g want Wo;rw[Wo]at hg;split at h
    ·rename_i b hb;obtain⟨c,ic,hp⟩:=nV;have hw:=sH hg ic.fr hb;split at h
     ·rename_i BJ;rw[hw,if_pos (by simpa using BJ)];exact .inl (w9 h1 hn (λS' a' w' hs w8 hle=>jx hK l r' (i+1) S' a' w' zx h2 (Nat.le_trans hn hle) w8 hs) ⟨c,ic,hp⟩ h)
     ·rename_i BJ;rw[hw,if_neg (by simpa using BJ)];refine jx hK l r' (i+1) ⟨cK S.t ao.dst (.cu []),S.m,S.n⟩ _ _ zx h2 hn ?_ h;rw[hd];exact na ic hp hn KJ (.inl (nc _ _)) ic.mr (Step.refl _ _ _) (λ_ h=>.inl h) (λ_ _=>rfl) (λ_ _ h=>h) ic.free rfl
    ·rename_i cs hb;obtain⟨c,ic,hp⟩:=nV;have hw:=Ay hg ic.fr hb;rw[hw,if_neg (by simp)];refine jx hK l r' (i+1) ⟨cK S.t ao.dst (.cu []),S.m,S.n⟩ _ _ zx h2 hn ?_ h;rw[hd];exact na ic hp hn KJ (.inl (nc _ _)) ic.mr (Step.refl _ _ _) (λ_ h=>.inl h) (λ_ _=>rfl) (λ_ _ h=>h) ic.free rfl
    ·exact h.elim
  ·cases hc
theorem GU {n0:Nat} {S:St} {Q:Exit->St->Prop} {id:Nat} {ops:Array Oper} {al:List bA} (hc:ib P ops k ops.toList=some al) (hn:n0<=S.n)
 (h:cz P al S (λS'=>Q .normal S')):w7 P n0 k (.region id ops false) S Q:=by
 intro E hE a w nV;refine wp_region ?_;have:=jx (P:=P) (E:=E) (k:=k) (ops:=ops) (Q:=λe a' w'=>∃S',Q e S'/\jS E k S' a' w') (K:=λS'=>Q .normal S') (λS' a' w' h1 h2=>⟨S',h1,h2⟩) ops.toList al 0 S a w
  (λj=>by rw[ac2,Array.getElem?_toList]) hc (hE▸hn) nV h
 rw[List.range_eq_range'];simpa using this
end
def bX (ρ:Ren) (m0 m':Mem) (N:Nat):Nat->Option Nat:=λj=>if(ai m0 j).isSome&&(ai m' j).isSome then ag ρ j else some (N+j)
def bN (m':Mem) (π:Nat->Option Nat):Ren->Mem->Mem
 | [],m=>m
 |(j,id)::r,m=>match ai m' j with
  |some cs=>bN m' π r (an m id (aj π cs))
  |none=>bN m' π r (aB m id)
def bL (m0:Mem) (N:Nat) (π:Nat->Option Nat):Mem->Mem->Mem
 | [],m=>m
 |(j,cs)::r,m=>if(ai m0 j).isSome then bL m0 N π r m else an (bL m0 N π r m) (N+j) (aj π cs)
def handed (ρ:Ren) (m:Mem):Mem->Prop
 | []=>True
 |(j,cs)::r=>(match ag ρ j with
  |some id=>ai m id=some (aj (ag ρ) cs)/\bF (ag ρ) cs=true
  |none=>False)/\handed ρ m r
theorem gE {ρ:Ren} {m:Mem}:∀{m0:Mem},handed ρ m m0->∀j cs,ai m0 j=some cs->∃id,ag ρ j=some id/\ai m id=some (aj (ag ρ) cs)/\bF (ag ρ) cs=true
 | [],_,j,cs,h=>by simp[ai]at h
 |(k,x)::r,h,j,cs,hj=>by
  simp only[handed]at h;simp only[ai]at hj;split at hj
  ·rename_i e;subst e;cases hj;obtain⟨h,_⟩:=h;split at h
   ·rename_i id hid;exact⟨id,hid,h⟩
   ·exact h.elim
  ·exact gE h.2 j cs hj
theorem gF {m':Mem} {π:Nat->Option Nat} {n:Nat}:∀{ρ:Ren} {m:Mem} (_:bC n ρ=true) (id:Nat),
 ai (bN m' π ρ m) id=match aI ρ id with
  |some j=>(ai m' j).map (aj π)
  |none=>ai m id
 | [],m,_,id=>rfl
 |(j,i)::r,m,b8,id=>by
  have RO:=b8;simp only[bC,adn,decide_eq_true_eq,List.all_eq_true]at b8;obtain⟨⟨_,h2⟩,h3⟩:=b8;have uB:aI r i=none:=by
   cases hp:aI r i with
   |none=>rfl
   |some j'=>
    have:=h2 _ (fF hp);simp at this
  simp only[bN,aI];by_cases e:i=id
  ·subst e;rw[if_pos rfl];cases hm:ai m' j with
   |none=>simp only[gF h3,uB,eF,if_true,hm,Option.map_none]
   |some cs=>simp only[gF h3,uB,bh,if_true,hm,ady]
  ·rw[if_neg e];cases hm:ai m' j with
   |none=>simp only[gF h3,eF,if_neg e]
   |some cs=>simp only[gF h3,bh,if_neg e]
theorem kx {m0:Mem} {N:Nat} {π:Nat->Option Nat}:∀{m' m:Mem} (id:Nat),
 ai (bL m0 N π m' m) id=if N<=id/\(ai m0 (id-N))=none/\(ai m' (id-N)).isSome then(ai m' (id-N)).map (aj π)else ai m id
 | [],m,id=>by simp[bL,ai]
 |(j,cs)::r,m,id=>by
  have xR:ai ((j,cs)::r) (id-N)=if j=id-N then some cs else ai r (id-N):=rfl
  simp only[bL];by_cases h0:(ai m0 j).isSome
  ·rw[if_pos h0,kx];by_cases e:j=id-N
   ·subst e;have:ai m0 (id-N)≠none:=by intro h;rw[h]at h0;cases h0
    rw[if_neg (λh=>this h.2.1),if_neg (λh=>this h.2.1)]
   ·rw[if_neg e]at xR;simp only[xR]
  ·rw[if_neg h0,bh];by_cases e:N+j=id
   ·subst e;have h1:N+j-N=j:=by omega
    have h2:ai m0 j=none:=by simpa using h0
    rw[h1]at xR⊢;rw[if_pos rfl]at xR;simp[xR,h2]
   ·rw[if_neg e,kx];by_cases hN:N<=id
    ·have:¬j=id-N:=by omega
     rw[if_neg this]at xR;simp only[xR]
    ·simp[hN]
theorem M8 {π:Nat->Option Nat} {cs kv:List AV} (h:aj π cs=.cu []::kv):∃uj,cs=.cu []::uj/\aj π uj=kv:=by
 cases cs with
 |nil=>cases h
 |cons x cs=>
  simp only[aj,List.cons.injEq]at h;obtain⟨h1,h2⟩:=h;cases x with
  |cu vs=>
   simp only[AV.aC,AV.cu.injEq]at h1;have:=vI π vs;rw[h1]at this;have:=adH this.symm;subst this;exact⟨cs,rfl,h2⟩
  |_=>
   simp only[AV.aC]at h1
   try split at h1
   all_goals cases h1
theorem nf {P:Program} {f:Nat} {cU:List AV} {m0:Mem} {Q:AV->Mem->Prop} {m:Mem} {n:Nat} (h:bT P f cU m0 Q) (ρ:Ren) {nb:Nat} (b8:bC nb ρ=true)
 (dh:bF (ag ρ) cU=true) (hh:handed ρ m m0) (ji:∀j id,ag ρ j=some id->(ai m0 j).isSome)
 {F:Nat->Prop} (hF:∀r m',Q r m'->∀id,n<=id->id<n+Nat.max (aw m0) (aw m')->F id):
 oR P f (aj (ag ρ) cU) m n F λr m1 n1=>∃r0 m',Q r0 m'/\r=r0.aC (bX ρ m0 m' n)/\m1=bL m0 n (bX ρ m0 m' n) m' (bN m' (bX ρ m0 m' n) ρ m)/\
  n1=n+Nat.max (aw m0) (aw m'):=by
 intro c w vs hr hM fG;have IB:=eK b8
 let c0:Ctx:={φ:=λj=>match ag ρ j with|some id=>c.φ id|none=>.free,dm:=c.dm}
 have wH:∀j id,ag ρ j=some id->c0.φ j=c.φ id:=λj id h=>by simp only[c0,h]
 have Az:aU c0 w cU vs:=iM (c:=c0) (c':=c) (λ_ h=>h) wH _ _ dh hr;have Wp:MR c0 m0 w:=by
  refine⟨λj cs hj=>?_,λj j' b hj wC hb fu=>?_,hM.dm,hM.wX⟩
  ·obtain⟨id,hid,M9,Na⟩:=gE hh j cs hj;rcases hM.own id _ M9 with⟨h0,b9⟩|⟨b,arr,T,fz,hb,gx,hw,hf,us,rest,ha,jH⟩|⟨b,es,kv,hb,gx,hw,hf,MU,jH⟩
   ·refine .inl ⟨(wH j id hid).trans h0,?_⟩;have:=vI (ag ρ) cs;rw[b9]at this;exact adH this.symm
   ·exact .inr (.inl ⟨b,arr,T,fz,(wH j id hid).trans hb,gx,hw,hf,us,rest,ha,iM (c:=c0) (c':=c) (λ_ h=>h) wH _ _ Na jH⟩)
   ·obtain⟨uj,rfl,abC⟩:=M8 MU;simp only[bF,bE,Bool.true_and]at Na;rw[<-abC]at jH;exact .inr (.inr ⟨b,es,uj,(wH j id hid).trans hb,gx,hw,hf,rfl,iM (c:=c0) (c':=c) (λ_ h=>h) wH _ _ Na jH⟩)
  ·obtain⟨cs,b9⟩:=adv.1 hj;obtain⟨nM,jP⟩:=adv.1 wC;obtain⟨id,hid,M9,_⟩:=gE hh j cs b9;obtain⟨j3,lG,D0,_⟩:=gE hh j' nM jP;rw[wH j id hid]at hb;rw[wH j' j3 lG]at fu;have:=hM.inj id j3 b (by rw[M9];rfl) (by rw[D0];rfl) hb fu;subst this;have h1:=(IB j id (ix hid)).2.1;have h2:=(IB j' id (ix lG)).2.1;rw[h1]at h2;exact Option.some.inj h2
 have Wq:∀j,aw m0<=j->c0.φ j=.free:=by
  intro j hj;simp only[c0];split
  ·rename_i id hid;have:=jT (ji j id hid);omega
  ·rfl
 have AA:∀b,gm c0 m0 b->∃j id,ag ρ j=some id/\(ai m id).isSome/\(c.φ id).bk=some b:=by
  rintro b ⟨j,hj,hb⟩;obtain⟨cs,b9⟩:=adv.1 hj;obtain⟨id,hid,M9,_⟩:=gE hh j cs b9;exact⟨j,id,hid,by rw[M9];rfl,(wH j id hid)▸hb⟩
 have Nb:∀b,gm c0 m0 b->gm c m b:=λb hb=>by
  obtain⟨j,id,_,h1,h2⟩:=AA b hb;exact⟨id,h1,h2⟩
 refine(h c0 w vs Az Wp Wq).mono ?_;rintro e w' ⟨v,r0,m',c',rfl,hQ,jH,sb,hs,ho,D1,Wn⟩;have hle:n<=n+Nat.max (aw m0) (aw m'):=Nat.le_add_right _ _;have bd:∀id,(ai m id).isSome->¬(n<=id/\id<n+Nat.max (aw m0) (aw m')):=λid hid hr=>hM.My hid (fG id (hF r0 m' hQ id hr.1 hr.2));have YJ:∀j id,ag ρ j=some id->¬(n<=id/\id<n+Nat.max (aw m0) (aw m')):=λj id hj=>by
  obtain⟨cs0,GJ⟩:=adv.1 (ji j id hj);obtain⟨j3,lG,D0,_⟩:=gE hh j cs0 GJ;rw[hj]at lG;cases lG;exact bd id (by rw[D0];rfl)
 let c1:Ctx:={φ:=λid=>if n<=id/\id<n+Nat.max (aw m0) (aw m')then c'.φ (id-n)else c.φ id,dm:=c'.dm}
 have sI:∀id,¬(n<=id/\id<n+Nat.max (aw m0) (aw m'))->c1.φ id=c.φ id:=λid hid=>by simp only[c1,if_neg hid]
 have BK:∀j,j<Nat.max (aw m0) (aw m')->c1.φ (n+j)=c'.φ j:=λj hj=>by simp only[c1];rw[if_pos ⟨by omega,by omega⟩];congr 1;omega
 have BL:∀j,(ai m' j).isSome->j<Nat.max (aw m0) (aw m'):=λj hj=>Nat.lt_of_lt_of_le (jT hj) (Nat.le_max_right _ _);have BM:∀j i,bX ρ m0 m' n j=some i->c'.φ j≠.free->c1.φ i=c'.φ j:=by
  intro j i sc hnf;simp only[bX]at sc;split at sc
  ·rename_i hb;simp only[adn]at hb;rw[sI i (YJ j i sc),<-wH j i sc];exact((D1 j (jT hb.1) hb.2).2).symm
  ·cases sc;refine BK j ?_;rcases Nat.lt_or_ge j (Nat.max (aw m0) (aw m'))with h1|h1;·exact h1
   ·exact absurd (Wn j h1) hnf
 have Wr:ia c c1 w w':=by
  refine⟨hs.dm,λb hb=>hs.cI b (hM.dm b hb) (λh=>hM.sep hb (Nb b h)),λid hid=>sI id ?_,hs.rows⟩;exact λhr=>hid (fG id (hF r0 m' hQ id hr.1 hr.2))
 have um:∀id,ai (bL m0 n (bX ρ m0 m' n) m' (bN m' (bX ρ m0 m' n) ρ m)) id=
  if n<=id/\(ai m0 (id-n))=none/\(ai m' (id-n)).isSome then(ai m' (id-n)).map (aj (bX ρ m0 m' n))else
   match aI ρ id with
   |some j=>(ai m' j).map (aj (bX ρ m0 m' n))
   |none=>ai m id:=λid=>by rw[kx,gF b8]
 have kinds:∀id cells,ai (bL m0 n (bX ρ m0 m' n) m' (bN m' (bX ρ m0 m' n) ρ m)) id=some cells->
  (∃j cs,id=n+j/\ai m0 j=none/\ai m' j=some cs/\cells=aj (bX ρ m0 m' n) cs)\/
  (∃j cs,ag ρ j=some id/\¬(n<=id/\id<n+Nat.max (aw m0) (aw m'))/\(ai m0 j).isSome/\ai m' j=some cs/\cells=aj (bX ρ m0 m' n) cs/\(ai m id).isSome)\/
  (aI ρ id=none/\ai m id=some cells):=by
  intro id cells hid;rw[um]at hid;split at hid
  ·rename_i cy;rw[adf]at hid;obtain⟨cs,b9,rfl⟩:=hid;exact .inl ⟨id-n,cs,by omega,cy.2.1,b9,rfl⟩
  ·split at hid
   ·rename_i j hj;rw[adf]at hid;obtain⟨cs,b9,rfl⟩:=hid;have h1:=IB j id (fF hj);obtain⟨cs0,GJ⟩:=adv.1 (ji j id h1.1);obtain⟨j3,lG,D0,_⟩:=gE hh j cs0 GJ;rw[h1.1]at lG;cases lG;exact .inr (.inl ⟨j,cs,h1.1,YJ j id h1.1,ji j id h1.1,b9,rfl,by rw[D0];rfl⟩)
   ·rename_i hj;exact .inr (.inr ⟨hj,hid⟩)
 have BN:∀id b,aI ρ id=none->(ai m id).isSome->(c.φ id).bk=some b->¬gm c0 m0 b:=by
  intro id b hp hm hb ho;obtain⟨j,j3,hj,Ws,fu⟩:=AA b ho;have:=hM.inj id j3 b hm Ws hb fu;subst this;have:=(IB j id (ix hj)).2.1;rw[hp]at this;cases this
 refine⟨v,_,_,_,c1,rfl,⟨r0,m',hQ,rfl,rfl,rfl⟩,?_,?_,?_,?_,sI,?_,hle⟩;·exact w4 (c:=c') (c':=c1) (λ_ h=>h) BM _ _ jH
 ·refine⟨λid cells hid=>?_,λid j3 b hid lG hb fu=>?_,sb.dm,sb.wX⟩
  ·rcases kinds id cells hid with⟨j,cs,rfl,_,b9,rfl⟩|⟨j,cs,hj,aQ,Q9,b9,rfl,_⟩|⟨hp,hm⟩
   ·rcases sb.own j cs b9 with⟨h0,rfl⟩|⟨b,arr,T,fz,hb,gx,hw,hf,us,rest,ha,nH⟩|⟨b,es,kv,hb,gx,hw,hf,rfl,nH⟩;·exact .inl ⟨(BK j (BL j (by rw[b9];rfl))).trans h0,rfl⟩
    ·exact .inr (.inl ⟨b,arr,T,fz,(BK j (BL j (by rw[b9];rfl))).trans hb,gx,hw,hf,us,rest,ha,iw (c:=c') (c':=c1) (λ_ h=>h) BM _ _ nH⟩)
    ·exact .inr (.inr ⟨b,es,_,(BK j (BL j (by rw[b9];rfl))).trans hb,gx,hw,hf,rfl,iw (c:=c') (c':=c1) (λ_ h=>h) BM _ _ nH⟩)
   ·have eI:c1.φ id=c'.φ j:=by rw[sI id aQ,<-wH j id hj];exact((D1 j (jT Q9) (by rw[b9];rfl)).2).symm
    rcases sb.own j cs b9 with⟨h0,rfl⟩|⟨b,arr,T,fz,hb,gx,hw,hf,us,rest,ha,nH⟩|⟨b,es,kv,hb,gx,hw,hf,rfl,nH⟩;·exact .inl ⟨eI.trans h0,rfl⟩
    ·exact .inr (.inl ⟨b,arr,T,fz,eI.trans hb,gx,hw,hf,us,rest,ha,iw (c:=c') (c':=c1) (λ_ h=>h) BM _ _ nH⟩)
    ·exact .inr (.inr ⟨b,es,_,eI.trans hb,gx,hw,hf,rfl,iw (c:=c') (c':=c1) (λ_ h=>h) BM _ _ nH⟩)
   ·have BO:(ai m id).isSome:=by rw[hm];rfl
    refine(hM.own id cells hm).later Wr λb hb=>?_;have uB:=BN id b hp BO hb;have abD:=hM.iK ⟨id,BO,hb⟩;refine⟨hs.cI b abD uB,λhi=>?_⟩;rcases hs.sk b hi with h1|h1|h1;·exact hM.sep h1 ⟨id,BO,hb⟩
    ·exact uB h1
    ·omega
  ·obtain⟨cells,nN⟩:=adv.1 hid;obtain⟨GV,BP⟩:=adv.1 lG;have YK:∀j,(ai m' j).isSome->(c'.φ j).bk=some b->gm c0 m0 b\/w.heap.size<=b:=λj h1 h2=>ho b ⟨j,h1,h2⟩;have hB:∀j i,ag ρ j=some i->¬(n<=i/\i<n+Nat.max (aw m0) (aw m'))->(ai m0 j).isSome->(ai m' j).isSome->c1.φ i=c'.φ j:=λj i hj hi h0 h1=>by
    rw[sI i hi,<-wH j i hj];exact((D1 j (jT h0) h1).2).symm
   rcases kinds id cells nN with⟨j,cs,rfl,hj0,b9,_⟩|⟨j,cs,hj,aQ,Q9,b9,_,BO⟩|⟨hp,hm⟩
   ·rw[BK j (BL j (by rw[b9];rfl))]at hb;rcases kinds j3 GV BP with⟨j',nM,rfl,Wt,jP,_⟩|⟨j',nM,wC,D3,Nc,jP,_,sJ⟩|⟨GS,Ws⟩
    ·rw[BK j' (BL j' (by rw[jP];rfl))]at fu;rw[sb.inj j j' b (by rw[b9];rfl) (by rw[jP];rfl) hb fu]
    ·exfalso;rw[hB j' j3 wC D3 Nc (by rw[jP];rfl)]at fu;have:=sb.inj j j' b (by rw[b9];rfl) (by rw[jP];rfl) hb fu;subst this;rw[hj0]at Nc;cases Nc
    ·exfalso;have sJ:(ai m j3).isSome:=by rw[Ws];rfl
     rw[sI j3 (bd j3 sJ)]at fu;rcases YK j (by rw[b9];rfl) hb with h1|h1;·exact BN j3 b GS sJ fu h1
     ·have:=hM.iK ⟨j3,sJ,fu⟩;omega
   ·have sa:=hb;rw[hB j id hj aQ Q9 (by rw[b9];rfl)]at hb;rw[sI id aQ]at sa;rcases kinds j3 GV BP with⟨j',nM,rfl,Wt,jP,_⟩|⟨j',nM,wC,D3,Nc,jP,_,sJ⟩|⟨GS,Ws⟩
    ·exfalso;rw[BK j' (BL j' (by rw[jP];rfl))]at fu;have:=sb.inj j j' b (by rw[b9];rfl) (by rw[jP];rfl) hb fu;subst this;rw[Wt]at Q9;cases Q9
    ·rw[sI j3 D3]at fu;exact hM.inj id j3 b BO sJ sa fu
    ·have sJ:(ai m j3).isSome:=by rw[Ws];rfl
     rw[sI j3 (bd j3 sJ)]at fu;exact hM.inj id j3 b BO sJ sa fu
   ·have BO:(ai m id).isSome:=by rw[hm];rfl
    rw[sI id (bd id BO)]at hb;rcases kinds j3 GV BP with⟨j',nM,rfl,Wt,jP,_⟩|⟨j',nM,wC,D3,Nc,jP,_,sJ⟩|⟨GS,Ws⟩
    ·exfalso;rw[BK j' (BL j' (by rw[jP];rfl))]at fu;rcases YK j' (by rw[jP];rfl) fu with h1|h1;·exact BN id b hp BO hb h1
     ·have:=hM.iK ⟨id,BO,hb⟩;omega
    ·rw[sI j3 D3]at fu;exact hM.inj id j3 b BO sJ hb fu
    ·have sJ:(ai m j3).isSome:=by rw[Ws];rfl
     rw[sI j3 (bd j3 sJ)]at fu;exact hM.inj id j3 b BO sJ hb fu
 ·have:=hs.weaken Nb;exact⟨this.os,this.tape,this.output,this.size,this.cI,this.rows,this.dm,this.sk⟩
 ·rintro b ⟨id,hid,hb⟩;obtain⟨cells,nN⟩:=adv.1 hid;rcases kinds id cells nN with⟨j,cs,rfl,hj0,b9,_⟩|⟨j,cs,hj,aQ,Q9,b9,_,BO⟩|⟨hp,hm⟩
  ·rw[BK j (BL j (by rw[b9];rfl))]at hb;rcases ho b ⟨j,by rw[b9];rfl,hb⟩with h1|h1;·exact .inl (Nb b h1)
   ·exact .inr h1
  ·rw[sI id aQ]at hb;exact .inl ⟨id,BO,hb⟩
  ·have BO:(ai m id).isSome:=by rw[hm];rfl
   rw[sI id (bd id BO)]at hb;exact .inl ⟨id,BO,hb⟩
 ·intro id hid hm;obtain⟨cells,nN⟩:=adv.1 hm;rcases kinds id cells nN with⟨j,cs,rfl,_,b9,_⟩|⟨j,cs,hj,aQ,Q9,b9,_,BO⟩|⟨hp,hm⟩;·exact absurd ⟨Nat.le_add_right _ _,Nat.add_lt_add_left (BL j (by rw[b9];rfl)) n⟩ hid
  ·exact BO
  ·rw[hm];rfl
end Go.Jq
namespace Go.Jq
open Go
inductive aG where
 |skip
 |region (draw:Bool) (ops:List bA) (acD:List Nat)
 |seq (a b:aG)
 |cond (c:cR) (thn els:aG)
 |block (id:Nat) (body:aG)
 |loop (body:aG)
 |exit (id:Nat)
 |ret
@[reducible]def oM (d:Nat) (a:im):bA:=⟨some d,a,none⟩
@[reducible]def oG (d:Nat) (a:im) (g:Nat) (w:Bool):bA:=⟨some d,a,some (g,w)⟩
def eR (ops:Array Oper):List Nat:=
 ops.toList.map λo=>o.after.toList.foldl (λs e=>if Region.binds .any e then s|||2^e.on else s) 0
def cR.bJ:cR->List Nat
 |.t i=>[i]
 |.c _=>[]
def px:Option cR->List Nat
 |some x=>x.bJ
 |none=>[]
def im.bJ:im->List Nat
 |.mv x=>x.bJ
 |.pick c a b=>c.bJ++a.bJ++b.bJ
 |.alloc _=>[]
 |.box x=>x.bJ
 |.build _ ps=>ps.flatMap λp=>p.2.2.bJ
 |.dp _ _ _ ps=>ps.flatMap λp=>p.2.2.bJ
 |.load _ x=>x.bJ
 |.store _ a v=>a.bJ++v.bJ
 |.gu x=>x.bJ
 |.bin _ x y=>x.bJ++y.bJ
 |.Q1 _ x y=>x.bJ++y.bJ
 |.Mw _ x y=>x.bJ++y.bJ
 |.Q3 _ x y=>x.bJ++y.bJ
 |.eqs _ _ x y=>x.bJ++y.bJ
 |.un _ x=>x.bJ
 |.Gz _ x=>x.bJ
 |.mA x=>x.bJ
 |.xy x=>x.bJ
 |.BA x=>x.bJ
 |.xz x=>x.bJ
 |.o7 _ cs=>cs.flatMap cR.bJ
 |.zC _ _ _ l c=>l.bJ++c.bJ
 |.zD x l h=>x.bJ++px l++px h
 |.rm _ x l h=>x.bJ++px l++px h
 |.c7 x _=>x.bJ
 |.Rs x _ _=>x.bJ
 |.bS _ _ x i=>x.bJ++i.bJ
 |.idxs x i=>x.bJ++i.bJ
 |.BB _ _ _ x i=>x.bJ++i.bJ
 |.ext x _=>x.bJ
 |.lens x=>x.bJ
 |.xA x=>x.bJ
 |.uu x y=>x.bJ++y.bJ
 |.uv x y=>x.bJ++y.bJ
 |.app _ _ _ x y=>x.bJ++y.bJ
 |.iW _ as=>as.flatMap cR.bJ
 |.bW _ as=>as.flatMap cR.bJ
 |.fb x as=>x.bJ++as.flatMap cR.bJ
def xS (ops:Array Oper):List Oper->List bA->Bool
 |o::r,a::s=>a.op.bJ.all (λi=>(o.looksAt ops).contains i)&&xS ops r s
 | [],[]=>true
 |_,_=>false
def ct (P:Program) (k:Nat):Code->Option aG
 |.skip=>some .skip
 |.region _ ops draw=>match ib P ops k ops.toList with
  |some al=>if draw then(if Region.lexB .any ops&&xS ops ops.toList al then some (.region true al (eR ops))else none)else some (.region false al [])
  |none=>none
 |.seq a b=>match ct P k a,ct P k b with
  |some a',some b'=>some (.seq a' b')
  |_,_=>none
 |.cond c a b=>match ct P k a,ct P k b with
  |some a',some b'=>some (.cond (aX c) a' b')
  |_,_=>none
 |.block id b=>(ct P k b).map (.block id)
 |.loop b=>(ct P k b).map .loop
 |.exit id=>some (.exit id)
 |.ret=>some .ret
 |_=>none
def fN (P:Program) (n0 k:Nat) (c:aG) (S:St) (Q:Exit->St->Prop):Prop:=
 ∀code,ct P k code=some c->w7 P n0 k code S Q
section
variable{P:Program} {n0 k:Nat} {S:St} {Q:Exit->St->Prop}
theorem xU {c:aG} {Q':Exit->St->Prop} (h:fN P n0 k c S Q) (hq:∀e S,Q e S->Q' e S):fN P n0 k c S Q':=λcode hc=>DX (h code hc) hq
theorem ax {c:aG} {S':St} (he:aH n0 k S S') (h:fN P n0 k c S' Q):fN P n0 k c S Q:=λcode hc=>KI he (h code hc)
theorem GW {code:Code} (h:ct P k code=some .skip):code=.skip:=by
 cases code with
 |skip=>rfl
 |region id ops draw=>simp only[ct]at h;repeat' split at h
                      all_goals cases h
 |seq a b=>simp only[ct]at h;repeat' split at h
           all_goals cases h
 |cond c a b=>simp only[ct]at h;repeat' split at h
              all_goals cases h
 |block id b=>simp[ct]at h
 |loop b=>simp[ct]at h
 |_=>simp[ct]at h
theorem au (h:Q .normal S):fN P n0 k .skip S Q:=λ_ hc=>by rw[GW hc];exact MY h
theorem aZ {id:Nat} (h:Q (.exit id) S):fN P n0 k (.exit id) S Q:=by
 intro code hc;cases code with
 |exit j3=>simp only[ct,adh,aG.exit.injEq]at hc;subst hc;exact MZ h
 |region id ops draw=>simp only[ct]at hc;repeat' split at hc
                      all_goals cases hc
 |seq a b=>simp only[ct]at hc;repeat' split at hc
           all_goals cases hc
 |cond c a b=>simp only[ct]at hc;repeat' split at hc
              all_goals cases hc
 |_=>simp[ct]at hc
theorem ak (h:Q .ret S):fN P n0 k .ret S Q:=by
 intro code hc;cases code with
 |ret=>exact RI h
 |region id ops draw=>simp only[ct]at hc;repeat' split at hc
                      all_goals cases hc
 |seq a b=>simp only[ct]at hc;repeat' split at hc
           all_goals cases hc
 |cond c a b=>simp only[ct]at hc;repeat' split at hc
              all_goals cases hc
 |_=>simp[ct]at hc
theorem aa {x y:aG} (h:∀K:St->Prop,(∀S',fN P n0 k y S' Q->K S')->fN P n0 k x S (Exit.iy K Q)):fN P n0 k (.seq x y) S Q:=by
 intro code hc;cases code with
 |seq a b=>
  simp only[ct]at hc;split at hc
  ·rename_i a' b' h1 h2;cases hc;exact RJ (h (λS'=>w7 P n0 k b S' Q) (λS' hb=>hb b h2) a h1)
  ·cases hc
 |region id ops draw=>simp only[ct]at hc;repeat' split at hc
                      all_goals cases hc
 |cond c a b=>simp only[ct]at hc;repeat' split at hc
              all_goals cases hc
 |_=>simp[ct]at hc
theorem bP {c:cR} {x y:aG} (b:Bool) (hc:ev S.t c=.d (.bool b)) (ht:b=true->fN P n0 k x S Q) (hf:b=false->fN P n0 k y S Q):fN P n0 k (.cond c x y) S Q:=by
 intro code nV;cases code with
 |cond c' a' b'=>
  simp only[ct]at nV;split at nV
  ·rename_i x' y' h1 h2;cases nV;exact M0 hc (λh=>ht h a' h1) (λh=>hf h b' h2)
  ·cases nV
 |seq a b=>simp only[ct]at nV;repeat' split at nV
           all_goals cases nV
 |region id ops draw=>simp only[ct]at nV;repeat' split at nV
                      all_goals cases nV
 |_=>simp[ct]at nV
theorem aA {id:Nat} {b:aG} (h:fN P n0 k b S (Exit.gC id Q)):fN P n0 k (.block id b) S Q:=by
 intro code hc;cases code with
 |block j3 b'=>
  simp only[ct,adf]at hc;obtain⟨b'',h1,h2⟩:=hc;cases h2;exact KH (h b' h1)
 |cond c a b=>simp only[ct]at hc;repeat' split at hc
              all_goals cases hc
 |seq a b=>simp only[ct]at hc;repeat' split at hc
           all_goals cases hc
 |region id ops draw=>simp only[ct]at hc;repeat' split at hc
                      all_goals cases hc
 |_=>simp[ct]at hc
theorem xV {b:aG} (I:St->Prop) (μ:St->Nat) (h0:I S)
 (round:∀S,I S->fN P n0 k b S (Exit.iy (λS'=>∃Q7,aH n0 k S' Q7/\I Q7/\μ Q7<μ S) Q)):fN P n0 k (.loop b) S Q:=by
 intro code hc;cases code with
 |loop b'=>
  simp only[ct,adf]at hc;obtain⟨b'',h1,h2⟩:=hc;cases h2;exact M1 I μ h0 λS hI=>round S hI b' h1
 |cond c a b=>simp only[ct]at hc;repeat' split at hc
              all_goals cases hc
 |seq a b=>simp only[ct]at hc;repeat' split at hc
           all_goals cases hc
 |region id ops draw=>simp only[ct]at hc;repeat' split at hc
                      all_goals cases hc
 |_=>simp[ct]at hc
theorem af {al:List bA} {pr:List Nat} (hn:decide (n0<=S.n)=true) (h:cz P al S (λS'=>Q .normal S')):fN P n0 k (.region false al pr) S Q:=by
 intro code hc;cases code with
 |region id ops draw=>
  simp only[ct]at hc;split at hc
  ·rename_i al' qi;split at hc;·split at hc<;>cases hc
   ·rename_i hd;cases hc;have:draw=false:=by simpa using hd
    subst this;exact GU qi (of_decide_eq_true hn) h
  ·cases hc
 |cond c a b=>simp only[ct]at hc;repeat' split at hc
              all_goals cases hc
 |seq a b=>simp only[ct]at hc;repeat' split at hc
           all_goals cases hc
 |_=>simp[ct]at hc
end
theorem ay {P:Program} {f:Nat} {fn:Func} {c:aG} {args:List AV} {m:Mem} {Q:AV->Mem->Prop} {k:Nat} {rs:Array ResultVar} (hf:P.funcs[f]?=some fn)
 (hc:fn.body.bind (ct P fn.ntmps)=some c) (hk:fn.ntmps=k) (GR:fn.results=rs)
 (hn:decide (args.length<=k)=true) (h:fN P (aw m) k c ⟨IA 0 args,m,aw m⟩ (mZ P rs (aw m) Q)):bT P f args m Q:=by
 subst hk GR;rw[Option.bind_eq_some_iff]at hc;obtain⟨code,h1,h2⟩:=hc;exact q9 hf h1 (of_decide_eq_true hn) (h code h2)
@[go_sem↓]theorem acE {α:Sort _} {c:Prop} [Decidable c] {a b:α} (h:c=True):(if c then a else b)=a:=if_pos (of_eq_true h)
@[go_sem↓]theorem acF {α:Sort _} {c:Prop} [Decidable c] {a b:α} (h:c=False):(if c then a else b)=b:=if_neg (of_eq_false h)
theorem J {P:Program} {n0 k:Nat} {S:St} {Q:Exit->St->Prop} {al:List bA} {pr:List Nat} {y:aG} (h:∀K:St->Prop,(∀S',fN P n0 k y S' Q->K S')->cz P al S (λS'=>Exit.iy K Q .normal S')) (hn:decide (n0<=S.n)=true:=by exact rfl):fN P n0 k (.seq (.region false al pr) y) S Q:=aa λK hK=>af hn (h K hK)
theorem aN {P:Program} {n0 k:Nat} {S:St} {Q:Exit->St->Prop} {c:cR} {x y:aG} (ht:fN P n0 k x S Q) (hc:ev S.t c=.d (.bool true):=by simp[ev,ah]):fN P n0 k (.cond c x y) S Q:=bP true hc (λ_=>ht) (λh=>nomatch h)
theorem aK {P:Program} {n0 k:Nat} {S:St} {Q:Exit->St->Prop} {c:cR} {x y:aG} (hf:fN P n0 k y S Q) (hc:ev S.t c=.d (.bool false):=by simp[ev,ah]):fN P n0 k (.cond c x y) S Q:=bP false hc (λh=>nomatch h) (λ_=>hf)
end Go.Jq
