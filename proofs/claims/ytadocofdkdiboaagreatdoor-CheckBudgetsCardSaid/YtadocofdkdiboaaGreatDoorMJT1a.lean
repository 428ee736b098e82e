/- What the statement's proof leans on, part 1: the layer, the walks, the plain laws. Names and blanks are short to keep the claim within its limit of bytes. -/
import Derived.WalkKit
import Derived.Orders
import Derived.Below
import Derived.ChangeKeysEq
import Derived.MapKept
set_option linter.unusedSimpArgs false
set_option linter.unusedVariables false
set_option maxRecDepth 100000
open List renaming length_append → aln, drop_zero → als, length_cons → alu, getElem?_eq_getElem → alw, take_of_length_le → alx, map_cons → alz, replicate → alA, length_nil → alB, getD_eq_getElem?_getD → alC, range → alI, map_nil → alL, flatMap_cons → alO, foldr_cons → alP, getElem_mem → alR, mem_cons_self → alU, mem_cons → alW, mem_cons_of_mem → alY, map_append → al1, foldl_cons → al2, nil_append → al8, eq_nil_of_length_eq_zero → amb
open Nat renaming le_refl → ali, zero_add → alo, mul_one → alV, zero_le → alZ
open Go.Result renaming andThen_ok → alp
open Go.Sem renaming run_pure → alq, run_bind → alr
open Go.IntKind renaming i64 → alv
open Bool renaming false_eq_true → aly, and_eq_true → alE, and_self → alF, not_false → al7
open Option renaming isSome_none → alD, map_eq_some_iff → alG, isSome_iff_exists → alS, map_some → alX, getD_some → al6
open Option.some renaming injEq → alJ, inj → al9
open Prod.mk renaming injEq → ama
namespace Go.Jq
open Go
inductive DV where
 |int (k:IntKind) (n:Int)
 |bool (b:Bool)
 |str (s:List UInt8)
 |ct
 |om
 |Zx
 |nif
 |sl (n:Nat) (cells:List DV)
instance:Inhabited DV:=⟨.ct⟩
inductive AV where
 |d (x:DV)
 |ptr (id off:Nat)
 |A5 (id T:Nat)
 |bw (cells:List DV)
 |sl (id dR off len:Nat)
 |BV (id T len:Nat)
 |fn (f:Nat) (cap:List AV)
 |agg (cells:List AV)
 |cC (vs:List AV)
 |uF (id:Nat)
 |Bo (isNil:Bool)
 |any
instance:Inhabited AV:=⟨.any⟩
inductive j7 where
 |free
 |none
 |pM (b:Nat)
 |mp (b:Nat)
def j7.bk:j7->Option Nat
 |.pM b=>some b
 |.mp b=>some b
 |_=>Option.none
theorem j7.jU {s:j7} {b:Nat} (h:s=.pM b):s.bk=some b:=by rw[h];rfl
theorem j7.O5 {s:j7} {b:Nat} (h:s=.mp b):s.bk=some b:=by rw[h];rfl
structure Ctx where
 φ:Nat->j7
 dY:Nat->Prop
def dP (w:World) (b:Nat):Option (TypeId×Nat):=
 match w.heap[b]?with
 |some (.cells c T _)=>some (T,c.size)
 |_=>none
mutual
def dS (I:Nat->Prop) (w:World):DV->Value->Prop
 |.int k n,v=>v=.int k n
 |.bool b,v=>v=.bool b
 |.str s,v=>v=.string ⟨s.toArray⟩
 |.ct,v=>v=.slice none 0 0
 |.om,v=>v=.pointer none
 |.Zx,v=>v=.nilFunc
 |.nif,v=>v=.nilIface
 |.sl n cells,v=>∃a cap,v=.slice a n cap/\n<=cap/\
  ((n=0/\cells=[])\/∃b o,a=some ⟨b,o,none⟩/\I b/\dH I w cells b o)
def dH (I:Nat->Prop) (w:World):List DV->Nat->Nat->Prop
 | [],_,_=>True
 |c::cs,b,o=>(∃u,w.cell? ⟨b,o,none⟩=some u/\dS I w c u)/\dH I w cs b (o+1)
end
mutual
def Rel (c:Ctx) (w:World):AV->Value->Prop
 |.d x,v=>dS c.dY w x v
 |.ptr id off,v=>∃b,c.φ id=.pM b/\v=.pointer (some ⟨b,off,none⟩)
 |.A5 id T,v=>v=.pointer none/\∃b,c.φ id=.pM b/\dP w b=some (T,2)
 |.bw cells,v=>∃b o,c.dY b/\v=.pointer (some ⟨b,o,none⟩)/\dH c.dY w cells b o
 |.sl id dR off len,v=>(c.φ id=.none/\off=0/\len=0/\∃a,v=.slice a 0 0)\/
  ∃b cap n,c.φ id=.pM b/\v=.slice (some ⟨b,off,none⟩) len cap/\len<=cap/\dP w b=some n/\off+cap*dR<=n.2
 |.BV id T len,v=>(c.φ id=.none/\len=0/\v=.slice none 0 0)\/
  ∃b cap N,c.φ id=.pM b/\v=.slice (some ⟨b,0,none⟩) len cap/\len<=cap/\dP w b=some (T,N)/\cap<=N
 |.fn f cap,v=>∃vs,v=.func (.func f) #[] vs.toArray/\bg c w cap vs
 |.agg cs,v=>∃vs,v=.agg vs.toArray/\bg c w cs vs
 |.cC cs,v=>∃vs,v=.tuple vs.toArray/\bg c w cs vs
 |.uF id,v=>∃b,c.φ id=.mp b/\v=.map (some b)
 |.Bo z,v=>∃a cap,v=.slice a 0 cap/\a.isNone=z
 |.any,_=>True
def bg (c:Ctx) (w:World):List AV->List Value->Prop
 | [],vs=>vs=[]
 |x::xs,vs=>∃v o6,vs=v::o6/\Rel c w x v/\bg c w xs o6
end
theorem bg.length {c:Ctx} {w:World}:∀{xs:List AV} {vs:List Value},bg c w xs vs->vs.length=xs.length
 | [],_,h=>by simp only[bg]at h;subst h;rfl
 |x::xs,_,h=>by
  simp only[bg]at h;obtain⟨v,o6,rfl,_,h⟩:=h;simp[bg.length h]
theorem bg.get {c:Ctx} {w:World}:∀{xs:List AV} {vs:List Value} (_:bg c w xs vs) {i:Nat} {x:AV},xs[i]?=some x->∃v,vs[i]?=some v/\Rel c w x v
 | [],_,_,i,x,hi=>by simp at hi
 |y::xs,_,h,i,x,hi=>by
  simp only[bg]at h;obtain⟨v,o6,rfl,hv,h⟩:=h;cases i with
  |zero=>simp at hi;subst hi;exact⟨v,rfl,hv⟩
  |succ i=>simp at hi;simpa using bg.get h hi
theorem bg.sj {c:Ctx} {w:World}:∀{xs:List AV} {vs:List Value},vs.length=xs.length->
 (∀(i:Nat) (x:AV) (v:Value),xs[i]?=some x->vs[i]?=some v->Rel c w x v)->bg c w xs vs
 | [],vs,hl,_=>by simp only[bg];exact amb (by simpa using hl)
 |x::xs,[],hl,_=>by simp at hl
 |x::xs,v::vs,hl,h=>by
  simp only[bg];exact⟨v,vs,rfl,h 0 x v rfl rfl,bg.sj (by simpa using hl) λi y u hy hu=>h (i+1) y u (by simpa using hy) (by simpa using hu)⟩
theorem bg.append {c:Ctx} {w:World}:∀{xs ys:List AV} {vs us:List Value},bg c w xs vs->bg c w ys us->bg c w (xs++ys) (vs++us)
 | [],_,_,_,h,h'=>by simp only[bg]at h;subst h;simpa using h'
 |x::xs,_,_,_,h,h'=>by
  simp only[bg]at h;obtain⟨v,o6,rfl,hv,h⟩:=h;simp only[List.cons_append,bg];exact⟨v,_,rfl,hv,bg.append h h'⟩
theorem bg.take {c:Ctx} {w:World}:∀{xs:List AV} {vs:List Value} (n:Nat),bg c w xs vs->bg c w (xs.take n) (vs.take n)
 | [],_,n,h=>by simp only[bg]at h;subst h;simp[bg]
 |x::xs,_,0,h=>by simp[bg]
 |x::xs,_,n+1,h=>by
  simp only[bg]at h;obtain⟨v,o6,rfl,hv,h⟩:=h;simp only[List.take_succ_cons,bg];exact⟨v,_,rfl,hv,bg.take n h⟩
theorem bg.drop {c:Ctx} {w:World}:∀{xs:List AV} {vs:List Value} (n:Nat),bg c w xs vs->bg c w (xs.drop n) (vs.drop n)
 | [],_,n,h=>by simp only[bg]at h;subst h;simp[bg]
 |x::xs,_,0,h=>by simpa using h
 |x::xs,_,n+1,h=>by
  simp only[bg]at h;obtain⟨v,o6,rfl,hv,h⟩:=h;simpa using bg.drop n h
theorem bg.set {c:Ctx} {w:World}:∀{xs:List AV} {vs:List Value} (i:Nat) {x:AV} {v:Value},bg c w xs vs->Rel c w x v->bg c w (xs.set i x) (vs.set i v)
 | [],_,i,_,_,h,_=>by simp only[bg]at h;subst h;simp[bg]
 |y::xs,_,0,_,_,h,hx=>by
  simp only[bg]at h;obtain⟨v,o6,rfl,hv,h⟩:=h;simp only[List.set_cons_zero,bg];exact⟨_,_,rfl,hx,h⟩
 |y::xs,_,i+1,_,_,h,hx=>by
  simp only[bg]at h;obtain⟨v,o6,rfl,hv,h⟩:=h;simp only[List.set_cons_succ,bg];exact⟨_,_,rfl,hv,bg.set i h hx⟩
theorem dH.get {I:Nat->Prop} {w:World}:∀{cs:List DV} {b o:Nat} (_:dH I w cs b o) {i:Nat} {c:DV},cs[i]?=some c->
 ∃u,w.cell? ⟨b,o+i,none⟩=some u/\dS I w c u
 | [],_,_,_,i,c,hi=>by simp at hi
 |x::cs,b,o,h,i,c,hi=>by
  simp only[dH]at h;cases i with
  |zero=>simp at hi;subst hi;exact h.1
  |succ i=>
   simp at hi;obtain⟨u,hu,hr⟩:=dH.get h.2 hi;exact⟨u,by rw[<-hu];congr 2;omega,hr⟩
theorem dH.sj {I:Nat->Prop} {w:World}:∀{cs:List DV} {b o:Nat},
 (∀(i:Nat) (c:DV),cs[i]?=some c->∃u,w.cell? ⟨b,o+i,none⟩=some u/\dS I w c u)->dH I w cs b o
 | [],_,_,_=>by simp[dH]
 |x::cs,b,o,h=>by
  simp only[dH];refine⟨by simpa using h 0 x rfl,dH.sj λi c hi=>?_⟩;obtain⟨u,hu,hr⟩:=h (i+1) c (by simpa using hi);exact⟨u,by rw[<-hu];congr 2;omega,hr⟩
theorem dH.drop {I:Nat->Prop} {w:World} {cs:List DV} {b o:Nat} (h:dH I w cs b o) (n:Nat):dH I w (cs.drop n) b (o+n):=
 dH.sj λi c hi=>by
  rw[List.getElem?_drop]at hi;obtain⟨u,hu,hr⟩:=dH.get h hi;exact⟨u,by rw[<-hu];congr 2;omega,hr⟩
theorem dH.take {I:Nat->Prop} {w:World} {cs:List DV} {b o:Nat} (h:dH I w cs b o) (n:Nat):dH I w (cs.take n) b o:=
 dH.sj λi c hi=>by
  rw[List.getElem?_take]at hi;split at hi;·exact dH.get h hi
  ·simp at hi
def BW (I:Nat->Prop) (w w':World):Prop:=∀b,I b->w'.heap[b]?=w.heap[b]?
theorem BW.cell {I:Nat->Prop} {w w':World} (h:BW I w w') {b:Nat} (hb:I b) (o:Nat):w'.cell? ⟨b,o,none⟩=w.cell? ⟨b,o,none⟩:=by
 simp only[World.cell?,h b hb]
mutual
theorem lp {I I':Nat->Prop} {w w':World} (hI:∀b,I b->I' b) (hs:BW I w w'):∀(x:DV) (v:Value),dS I w x v->dS I' w' x v
 |.int _ _,_,h=>h
 |.bool _,_,h=>h
 |.str _,_,h=>h
 |.ct,_,h=>h
 |.om,_,h=>h
 |.Zx,_,h=>h
 |.nif,_,h=>h
 |.sl n cells,v,h=>by
  simp only[dS]at h⊢;obtain⟨a,cap,hv,hn,h⟩:=h;refine⟨a,cap,hv,hn,?_⟩;rcases h with h|⟨b,o,ha,hb,hc⟩;·exact .inl h
  ·exact .inr ⟨b,o,ha,hI b hb,kQ hI hs cells b o hb hc⟩
theorem kQ {I I':Nat->Prop} {w w':World} (hI:∀b,I b->I' b) (hs:BW I w w'):∀(cs:List DV) (b o:Nat),I b->dH I w cs b o->dH I' w' cs b o
 | [],_,_,_,_=>by simp[dH]
 |c::cs,b,o,hb,h=>by
  simp only[dH]at h⊢;obtain⟨⟨u,hu,hr⟩,h⟩:=h;exact⟨⟨u,by rw[hs.cell hb];exact hu,lp hI hs c u hr⟩,kQ hI hs cs b (o+1) hb h⟩
end
structure jP (c c':Ctx) (w w':World):Prop where
 dY:∀b,c.dY b->c'.dY b
 same:BW c.dY w w'
 ext:∀id,c.φ id≠.free->c'.φ id=c.φ id
 size:∀b n,dP w b=some n->dP w' b=some n
mutual
theorem oo {c c':Ctx} {w w':World} (h:jP c c' w w'):∀(x:AV) (v:Value),Rel c w x v->Rel c' w' x v
 |.d x,v,hr=>by simp only[Rel]at hr⊢;exact lp h.dY h.same x v hr
 |.ptr id off,v,hr=>by
  simp only[Rel]at hr⊢;obtain⟨b,hb,hv⟩:=hr;exact⟨b,by rw[h.ext id (by rw[hb];simp)];exact hb,hv⟩
 |.A5 id T,v,hr=>by
  simp only[Rel]at hr⊢;obtain⟨hv,b,hb,hs⟩:=hr;exact⟨hv,b,by rw[h.ext id (by rw[hb];simp)];exact hb,h.size b _ hs⟩
 |.bw cells,v,hr=>by
  simp only[Rel]at hr⊢;obtain⟨b,o,hb,hv,hc⟩:=hr;exact⟨b,o,h.dY b hb,hv,kQ h.dY h.same cells b o hb hc⟩
 |.sl id dR off len,v,hr=>by
  simp only[Rel]at hr⊢;rcases hr with⟨h0,hr⟩|⟨b,cap,n,hb,hv,hl,hn,hr⟩;·exact .inl ⟨by rw[h.ext id (by rw[h0];simp)];exact h0,hr⟩
  ·exact .inr ⟨b,cap,n,by rw[h.ext id (by rw[hb];simp)];exact hb,hv,hl,h.size b n hn,hr⟩
 |.BV id T len,v,hr=>by
  simp only[Rel]at hr⊢;rcases hr with⟨h0,hr⟩|⟨b,cap,n,hb,hv,hl,hn,hr⟩;·exact .inl ⟨by rw[h.ext id (by rw[h0];simp)];exact h0,hr⟩
  ·exact .inr ⟨b,cap,n,by rw[h.ext id (by rw[hb];simp)];exact hb,hv,hl,h.size b _ hn,hr⟩
 |.fn f cap,v,hr=>by
  simp only[Rel]at hr⊢;obtain⟨vs,hv,hl⟩:=hr;exact⟨vs,hv,gn h cap vs hl⟩
 |.agg cs,v,hr=>by
  simp only[Rel]at hr⊢;obtain⟨vs,hv,hl⟩:=hr;exact⟨vs,hv,gn h cs vs hl⟩
 |.cC cs,v,hr=>by
  simp only[Rel]at hr⊢;obtain⟨vs,hv,hl⟩:=hr;exact⟨vs,hv,gn h cs vs hl⟩
 |.uF id,v,hr=>by
  simp only[Rel]at hr⊢;obtain⟨b,hb,hv⟩:=hr;exact⟨b,by rw[h.ext id (by rw[hb];simp)];exact hb,hv⟩
 |.Bo _,v,hr=>by simpa only[Rel]using hr
 |.any,_,_=>by simp[Rel]
theorem gn {c c':Ctx} {w w':World} (h:jP c c' w w'):∀(xs:List AV) (vs:List Value),bg c w xs vs->bg c' w' xs vs
 | [],_,hr=>by simpa[bg]using hr
 |x::xs,vs,hr=>by
  simp only[bg]at hr⊢;obtain⟨v,o6,hv,hx,hl⟩:=hr;exact⟨v,o6,hv,oo h x v hx,gn h xs o6 hl⟩
end
abbrev Mem:=List (Nat×List AV)
def ai:Mem->Nat->Option (List AV)
 | [],_=>none
 |(k,c)::r,i=>if k=i then some c else ai r i
def ak:Mem->Nat->List AV->Mem
 | [],i,c=>[(i,c)]
 |(k,x)::r,i,c=>if k=i then(k,c)::r else(k,x)::ak r i c
def aG:Mem->Nat->Mem
 | [],_=>[]
 |(k,x)::r,i=>if k=i then aG r i else(k,x)::aG r i
theorem bF (m:Mem) (i j:Nat) (c:List AV):ai (ak m i c) j=if i=j then some c else ai m j:=by
 induction m with
 |nil=>simp[ak,ai]
 |cons p r ih=>
  obtain⟨k,x⟩:=p;simp only[ak];by_cases hk:k=i
  ·subst hk;rw[if_pos rfl];simp only[ai];by_cases hj:k=j<;>simp[hj]
  ·rw[if_neg hk];simp only[ai,ih];by_cases hj:k=j;·subst hj;simp[Ne.symm hk]
   ·simp[hj]
theorem fL (m:Mem) (i j:Nat):ai (aG m i) j=if i=j then none else ai m j:=by
 induction m with
 |nil=>simp[aG,ai]
 |cons p r ih=>
  obtain⟨k,x⟩:=p;simp only[aG];by_cases hk:k=i
  ·subst hk;rw[if_pos rfl,ih];simp only[ai];by_cases hj:k=j<;>simp[hj]
  ·rw[if_neg hk];simp only[ai,ih];by_cases hj:k=j;·subst hj;simp[Ne.symm hk]
   ·simp[hj]
abbrev Fr:=List (Nat×AV)
def ah:Fr->Nat->AV
 | [],_=>.any
 |(k,x)::r,i=>if k=i then x else ah r i
def Gr (n:Nat) (f:Nat×Nat):Prop:=f.1=f.2\/n<=f.1
def QN (c:Ctx) (w:World) (id:Nat) (cells:List AV):Prop:=
 (c.φ id=.none/\cells=[])\/
 (∃b arr T f,c.φ id=.pM b/\¬c.dY b/\w.heap[b]?=some (.cells arr T f)/\Gr arr.size f/\∃vs rest,arr.toList=vs++rest/\bg c w cells vs)\/
 ∃b es kv,c.φ id=.mp b/\¬c.dY b/\w.heap[b]?=some (.map es es.size)/\(es.toList.map (·.born)=alI es.size)/\cells=.cC []::kv/\bg c w kv (es.toList.flatMap λe=>[e.key,e.val])
def Mt:Nat->Option (Array Value->Prop):=λg=>if g=1 then some (λcs=>cs=#[.int .u64 1,.int .u64 10,.int .u64 100,.int .u64 1000,.int .u64 10000,.int .u64 100000,.int .u64 1000000,.int .u64 10000000,.int .u64 100000000,.int .u64 1000000000,.int .u64 10000000000,.int .u64 100000000000,.int .u64 1000000000000,.int .u64 10000000000000,.int .u64 100000000000000,.int .u64 1000000000000000,.int .u64 10000000000000000,.int .u64 100000000000000000,.int .u64 1000000000000000000,.int .u64 10000000000000000000])else if g=0 then some (λcs=>cs=#[.int .u8 0,.int .u8 1,.int .u8 56,.int .u8 2,.int .u8 57,.int .u8 49,.int .u8 28,.int .u8 3,.int .u8 61,.int .u8 58,.int .u8 42,.int .u8 50,.int .u8 38,.int .u8 29,.int .u8 17,.int .u8 4,.int .u8 62,.int .u8 47,.int .u8 59,.int .u8 36,.int .u8 45,.int .u8 43,.int .u8 51,.int .u8 22,.int .u8 53,.int .u8 39,.int .u8 33,.int .u8 30,.int .u8 24,.int .u8 18,.int .u8 12,.int .u8 5,.int .u8 63,.int .u8 55,.int .u8 48,.int .u8 27,.int .u8 60,.int .u8 41,.int .u8 37,.int .u8 16,.int .u8 46,.int .u8 35,.int .u8 44,.int .u8 21,.int .u8 52,.int .u8 32,.int .u8 23,.int .u8 11,.int .u8 54,.int .u8 26,.int .u8 40,.int .u8 15,.int .u8 34,.int .u8 20,.int .u8 31,.int .u8 10,.int .u8 25,.int .u8 14,.int .u8 19,.int .u8 9,.int .u8 13,.int .u8 8,.int .u8 7,.int .u8 6])else if g=4\/g=5 then some (λcs=>∃t p,cs=#[.iface t p])else none
structure MR (c:Ctx) (m:Mem) (w:World):Prop where
 own:∀id cells,ai m id=some cells->QN c w id cells
 inj:∀id mK b,(ai m id).isSome->(ai m mK).isSome->(c.φ id).bk=some b->(c.φ mK).bk=some b->id=mK
 dY:∀b,c.dY b->b<w.heap.size
 zZ:∀g Φ,Mt g=some Φ->c.dY g/\∃cs T f,w.heap[g]?=some (.cells cs T f)/\Φ cs
theorem MR.o7 {c c':Ctx} {m:Mem} {w w':World} (h:MR c m w) (hi:∀b,c.dY b->c'.dY b) (hk:∀b,c.dY b->w'.heap[b]?=w.heap[b]?):
 ∀g Φ,Mt g=some Φ->c'.dY g/\∃cs T f,w'.heap[g]?=some (.cells cs T f)/\Φ cs:=λg Φ hg=>by
 obtain⟨h1,cs,T,f,h2,h3⟩:=h.zZ g Φ hg;exact⟨hi g h1,cs,T,f,(hk g h1).trans h2,h3⟩
def FR (c:Ctx) (w:World) (t:Fr) (tmps:Array Value):Prop:=∀i,Rel c w (ah t i) (tmps.getD i undef)
def iV (c:Ctx) (m:Mem) (b:Nat):Prop:=∃id,(ai m id).isSome/\(c.φ id).bk=some b
structure Step (O:Nat->Prop) (c c':Ctx) (w w':World):Prop where
 os:w'.os=w.os
 tape:w'.tape=w.tape
 output:w'.output=w.output
 size:w.heap.size<=w'.heap.size
 di:∀k,k<w.heap.size->¬O k->w'.heap[k]?=w.heap[k]?
 rows:∀b n,dP w b=some n->dP w' b=some n
 dY:∀b,c.dY b->c'.dY b
 yI:∀b,c'.dY b->c.dY b\/O b\/w.heap.size<=b
theorem Step.refl (O:Nat->Prop) (c:Ctx) (w:World):Step O c c w w:=
 ⟨rfl,rfl,rfl,ali _,λ_ _ _=>rfl,λ_ _ h=>h,λ_ h=>h,λ_ h=>.inl h⟩
theorem Step.trans {O O':Nat->Prop} {c c' c'':Ctx} {w w' w'':World} (h:Step O c c' w w') (h':Step O' c' c'' w' w'')
 (hO:∀b,O' b->O b\/w.heap.size<=b):Step O c c'' w w'' where
 os:=h'.os.trans h.os
 tape:=h'.tape.trans h.tape
 output:=h'.output.trans h.output
 size:=Nat.le_trans h.size h'.size
 di:=λk hk hn=>(h'.di k (Nat.lt_of_lt_of_le hk h.size) λhO'=>by rcases hO k hO' with h1|h1;exact hn h1;omega).trans (h.di k hk hn)
 rows:=λb n hn=>h'.rows b n (h.rows b n hn)
 dY:=λb hb=>h'.dY b (h.dY b hb)
 yI:=λb hb=>by
  rcases h'.yI b hb with h1|h1|h1;·exact h.yI b h1
  ·rcases hO b h1 with h2|h2;·exact .inr (.inl h2)
   ·exact .inr (.inr h2)
  ·exact .inr (.inr (Nat.le_trans h.size h1))
theorem Step.weaken {O O':Nat->Prop} {c c':Ctx} {w w':World} (h:Step O c c' w w') (hO:∀b,O b->O' b):Step O' c c' w w':=
 {h with di:=λk hk hn=>h.di k hk λh1=>hn (hO k h1),yI:=λb hb=>(h.yI b hb).imp id λh1=>h1.imp (hO b) id}
theorem MR.sep {c:Ctx} {m:Mem} {w:World} (h:MR c m w) {b:Nat} (hi:c.dY b):¬iV c m b:=by
 rintro⟨id,hid,hb⟩;obtain⟨cells,hc⟩:=alS.1 hid;rcases h.own id cells hc with⟨h0,_⟩|⟨b',arr,T,f,gi,jj,_⟩|⟨b',es,kv,gi,jj,_⟩;·rw[h0]at hb;cases hb
 ·rw[gi]at hb;cases hb;exact jj hi
 ·rw[gi]at hb;cases hb;exact jj hi
theorem Step.later {c c':Ctx} {m:Mem} {w w':World} (hm:MR c m w) (h:Step (iV c m) c c' w w') (uY:∀id,c.φ id≠.free->c'.φ id=c.φ id):jP c c' w w':=
 ⟨h.dY,λb hb=>h.di b (hm.dY b hb) (hm.sep hb),uY,h.rows⟩
end Go.Jq
namespace Go.Jq
open Go
inductive dx where
 |t (i:Nat)
 |c (x:AV)
inductive me where
 |BX (n dR:Nat)
 |Mu (dR:Nat)
 |Fb (dR:Nat)
 |O6
 |lkp (ks:List Nat) (zero:AV) (comma:Bool)
 |TR (ks:List Nat)
 |TS (ks:List Nat) (zero:AV)
 |TT
 |ZS
 |yJ (neg:Bool)
 |BZ (dR:Nat) (zero:List AV)
inductive j5 where
 |mv (x:dx)
 |pick (c a b:dx)
 |alloc (zero:List AV)
 |box (x:dx)
 |build (zero:List AV) (parts:List (Nat×Nat×dx))
 |cF (dR len:Nat) (zero:List AV) (parts:List (Nat×Nat×dx))
 |load (k:Option Nat) (x:dx)
 |store (k:Nat) (a v:dx)
 |jc (x:dx)
 |bin (op:BinOp) (x y:dx)
 |TU (neg:Bool) (x y:dx)
 |TV (neg:Bool) (x y:dx)
 |Zy (neg:Bool) (x y:dx)
 |eqs (sz:List Nat) (neg:Bool) (x y:dx)
 |un (op:UnOp) (x:dx)
 |IJ (k:IntKind) (x:dx)
 |nz (x:dx)
 |yK (x:dx)
 |Gs (x:dx)
 |B0 (x:dx)
 |rY (f:Nat) (caps:List dx)
 |Er (dR bytes:Nat) (zero:List AV) (len cap:dx)
 |yL (x:dx) (lo hi:Option dx)
 |uZ (dR:Nat) (x:dx) (lo hi:Option dx)
 |dI (x:dx) (off:Nat)
 |ZT (x:dx) (off:Nat) (k:Option Nat)
 |cg (dR:Nat) (n:Option Nat) (x i:dx)
 |idxs (x i:dx)
 |Es (n dR:Nat) (k:Option Nat) (x i:dx)
 |ext (x:dx) (i:Nat)
 |lens (x:dx)
 |B1 (x:dx)
 |yM (x y:dx)
 |wk (x y:dx)
 |app (dR bytes el:Nat) (x y:dx)
 |j6 (k:me) (args:List dx)
 |bW (f:Nat) (args:List dx)
 |eW (x:dx) (args:List dx)
structure bC where
 dst:Option Nat
 op:j5
 guard:Option (Nat×Bool)
inductive gk where
 |nil
 |new (cells:List AV)
 |put (id:Nat) (cells:List AV)
 |Zz (id:Nat) (cells:List AV)
def gk.mem (m:Mem) (n:Nat):gk->Mem
 |.nil=>m
 |.new c=>ak m n c
 |.put id c=>ak m id c
 |.Zz id c=>ak (aG m id) n c
def gk.next (n:Nat):gk->Nat
 |.nil=>n
 |.new _=>n+1
 |.put _ _=>n
 |.Zz _ _=>n+1
def ev (t:Fr):dx->AV
 |.t i=>ah t i
 |.c x=>x
def cellsOf:AV->Option (List AV)
 |.agg cs=>some cs
 |.cC _=>none
 |.any=>none
 |x=>some [x]
def mf:AV->Bool
 |.agg _=>false
 |.cC _=>false
 |.any=>false
 |_=>true
def sk (n:Nat):List AV->List AV
 |.A5 _ T::r=>.A5 n T::r
 |z=>z
def putAt:List AV->Nat->List AV->List AV
 |l,_,[]=>l
 |l,o,v::vs=>putAt (l.set o v) (o+1) vs
def uG:List AV->List (Nat×Nat×AV)->Option (List AV)
 |cs,[]=>some cs
 |cs,(off,size,v)::r=>
  match cellsOf v with
  |some vs=>if vs.length=size/\off+size<=cs.length then uG (putAt cs off vs) r else none
  |none=>none
def qF (t:Fr) (ps:List (Nat×Nat×dx)):List (Nat×Nat×AV):=ps.map λp=>(p.1,p.2.1,ev t p.2.2)
def nQ (s:List UInt8):List AV:=s.map λb=>.d (.int .u8 b.toNat)
def fI (m:Mem) (dR:Nat):AV->Option (Nat×List AV)
 |.d .ct=>some (0,[])
 |.d (.sl n cells)=>if cells.length=n*dR then some (n,cells.map .d)else none
 |.d (.str s)=>if dR=1 then some (s.length,nQ s)else none
 |.Bo _=>some (0,[])
 |.sl id e off len=>match ai m id with
  |some cs=>if e=dR/\off+len*dR<=cs.length/\((cs.drop off).take (len*dR)).all mf=true then some (len,(cs.drop off).take (len*dR))else none
  |none=>none
 |_=>none
def oq (k:IntKind) (n:Int):AV:=.d (.int k (k.wrap n))
def dZ (b:Bool):AV:=.d (.bool b)
def rZ (op:BinOp) (k:IntKind) (a b:Int):Option AV:=
 match op with
 |.add=>some (oq k (a+b))
 |.sub=>some (oq k (a-b))
 |.mul=>some (oq k (a*b))
 |.quo=>if b=0 then none else some (oq k (a.tdiv b))
 |.rem=>if b=0 then none else some (.d (.int k (a.tmod b)))
 |.and=>some (.d (.int k (bits .and k a b)))
 |.or=>some (.d (.int k (bits .or k a b)))
 |.xor=>some (.d (.int k (bits .xor k a b)))
 |.andNot=>some (.d (.int k (bits .andNot k a b)))
 |.shl=>none
 |.shr=>none
 |.eql=>some (dZ (decide (a=b)))
 |.neq=>some (dZ (!decide (a=b)))
 |.lss=>some (dZ (decide (a<b)))
 |.leq=>some (dZ (decide (a<=b)))
 |.gtr=>some (dZ (decide (b<a)))
 |.geq=>some (dZ (decide (b<=a)))
def shI (op:BinOp) (k:IntKind) (a b:Int):Option AV:=
 if b<0 then none else
 match op with
 |.shl=>some (oq k (a*2^min b.toNat k.bits))
 |.shr=>some (.d (.int k (a.fdiv (2^min b.toNat k.bits))))
 |_=>none
def QO (op:BinOp) (a b:List UInt8):Option AV:=
 match op with
 |.add=>if a.length+b.length<=9223372036854775807 then some (.d (.str (a++b)))else none
 |.eql=>some (dZ (decide (a=b)))
 |.neq=>some (dZ (!decide (a=b)))
 |.lss=>some (dZ (Op.bytesLess a b))
 |.leq=>some (dZ (Op.bytesLess a b||decide (a=b)))
 |.gtr=>some (dZ (!(Op.bytesLess a b||decide (a=b))))
 |.geq=>some (dZ (!Op.bytesLess a b))
 |_=>none
def gT (op:BinOp):AV->AV->Option AV
 |.d (.int k a),.d (.int k' b)=>
  if op=.shl\/op=.shr then shI op k a b else if k=k' then rZ op k a b else none
 |.d (.str a),.d (.str b)=>QO op a b
 |_,_=>none
def unA (op:UnOp):AV->Option AV
 |.d (.int k a)=>match op with
  |.neg=>some (oq k (0-a))
  |.xor=>some (.d (.int k (bits .xor k (if k.signed then-1 else k.max) a)))
  |_=>none
 |.d (.bool b)=>match op with
  |.not=>some (dZ (!b))
  |_=>none
 |_=>none
def ZU (neg:Bool):AV->AV->Option AV
 |.ptr _ _,.d .om=>some (dZ neg)
 |.bw _,.d .om=>some (dZ neg)
 |.d .om,.ptr _ _=>some (dZ neg)
 |.d .om,.bw _=>some (dZ neg)
 |.d .om,.d .om=>some (dZ (!neg))
 |_,_=>none
def ZV (neg:Bool):AV->AV->Option AV
 |.fn _ _,.d .Zx=>some (dZ neg)
 |.d .Zx,.fn _ _=>some (dZ neg)
 |.d .Zx,.d .Zx=>some (dZ (!neg))
 |_,_=>none
def qG:Nat->AV->AV->Option Bool
 |0,.d (.int k a),.d (.int k' b)=>if k=k' then some (decide (a=b))else none
 |1,.d (.bool a),.d (.bool b)=>some (a==b)
 |2,.d (.str a),.d (.str b)=>some (decide (a=b))
 |_,_,_=>none
def cw:List Nat->List AV->List AV->Option Bool
 | [],[],[]=>some true
 |k::ks,x::xs,y::ys=>match qG k x y,cw ks xs ys with
  |some a,some b=>some (a&&b)
  |_,_=>none
 |_,_,_=>none
def jV:AV->Option Nat
 |.d .ct=>some 0
 |.d (.sl n _)=>some n
 |.sl _ _ _ len=>some len
 |.Bo _=>some 0
 |_=>none
def gX:List AV->Option (List UInt8)
 | []=>some []
 |.d (.int .u8 n)::r=>(gX r).map (UInt8.ofNat n.toNat::·)
 |_::_=>none
def IK (x:Option AV) (ajs:Nat):Option Nat:=
 match x with
 |none=>some ajs
 |some (.d (.int _ n))=>if 0<=n then some n.toNat else none
 |_=>none
def aN (k:Option Nat) (cells:List AV):Option AV:=
 match k with
 |none=>cells[0]?
 |some k=>if k<=cells.length then some (.agg (cells.take k))else none
def aeC (dR lo hi len:Nat):AV->Option AV
 |.d .ct=>if lo=0/\hi=0 then some (.d .ct)else none
 |.d (.sl n cells)=>if lo<=hi/\hi<=n/\n=len then some (.d (.sl (hi-lo) ((cells.drop (lo*dR)).take ((hi-lo)*dR))))else none
 |.sl id e off n=>if e=dR/\n=len/\lo<=hi/\hi<=n then
  (if lo=0 then some (.sl id dR off hi)else if lo=hi then some (.d (.sl 0 []))else some (.sl id dR (off+lo*dR) (hi-lo)))else none
 |_=>none
def j8 (ks:List Nat) (kc:List AV):List AV->Option (Option Nat)
 | []=>some none
 |.agg c::_::r=>match cw ks kc c with
  |some true=>some (some 0)
  |some false=>(j8 ks kc r).map λo=>o.map (·+1)
  |none=>none
 |_=>none
def wm (ks:List Nat) (zero:AV) (kc kv:List AV):Option (AV×Bool):=
 if kc.length=ks.length then match j8 ks kc kv with
  |some (some j)=>kv[2*j+1]?.map λx=>(x,true)
  |some none=>some (zero,false)
  |none=>none
 else none
def aeD (ks:List Nat) (kc:List AV) (x:AV) (kv:List AV):Option (List AV):=
 if kc.length=ks.length then match j8 ks kc kv with
  |some (some j)=>some ((kv.set (2*j) (.agg kc)).set (2*j+1) x)
  |some none=>some (kv++[.agg kc,x])
  |none=>none
 else none
def B2 (ks:List Nat) (zero:AV) (kc kv:List AV):Option (AV×Nat×List AV):=
 if kc.length=ks.length then match j8 ks kc kv with
  |some (some j)=>kv[2*j+1]?.map λx=>(x,j,kv.set (2*j) (.agg kc))
  |some none=>some (zero,kv.length/2,kv++[.agg kc,zero])
  |none=>none
 else none
def mapOf (m:Mem) (id:Nat):Option (List AV):=
 match ai m id with
 |some (.cC []::kv)=>some kv
 |_=>none
def uo:AV->Option Nat
 |.d (.int _ n)=>if 0<=n then some n.toNat else none
 |_=>none
def mU (k:me) (xs:List AV) (m:Mem) (n:Nat):Option (AV×gk):=
 match k,xs with
 |.BX q dR,[.ptr id off,lo,hi]=>match ai m id,uo lo,uo hi with
  |some cs,some l,some h=>if l<=h/\h<=q/\off+q*dR<=cs.length then some (if l=h then .d (.sl 0 [])else .sl id dR (off+l*dR) (h-l),.nil)else none
  |_,_,_=>none
 |.Mu dR,[x,lo,hi,mx]=>match jV x,uo lo,uo hi,uo mx with
  |some len,some l,some h,some r=>if l=0/\h=0/\r=0 then some (.sl n dR 0 0,.new [])
   else if l=0/\h=len/\r=len then some (x,.nil)else none
  |_,_,_,_=>none
 |.Fb dR,[.sl id e off len,y]=>match ai m id,fI m dR y with
  |some cs,some (k,new)=>if e=dR/\k<=len/\len≠0/\off+k*dR<=cs.length then some (.d (.int .i64 (k:Int)),.put id (putAt cs off new))else none
  |_,_=>none
 |.O6,[]=>some (.uF n,.new [.cC []])
 |.lkp ks z comma,[.uF id,.agg kc]=>match mapOf m id with
  |some kv=>(wm ks z kc kv).map λr=>(if comma=true then .cC [r.1,dZ r.2]else r.1,.nil)
  |none=>none
 |.TR ks,[.uF id,.agg kc,x]=>match mapOf m id with
  |some kv=>(aeD ks kc x kv).map λyF=>(.any,.put id (.cC []::yF))
  |none=>none
 |.TS ks z,[.uF id,.agg kc]=>match mapOf m id with
  |some kv=>(B2 ks z kc kv).map λr=>(.cC [r.1,.d (.int .i64 (r.2.1:Int))],.put id (.cC []::r.2.2))
  |none=>none
 |.TT,[.uF id,.d (.int .i64 j),x]=>match mapOf m id with
  |some kv=>if 0<=j/\2*j.toNat+1<kv.length then some (.any,.put id (.cC []::kv.set (2*j.toNat+1) x))else none
  |none=>none
 |.yJ neg,[x,.d .ct]=>match x with
  |.d .ct=>some (dZ (!neg),.nil)
  |.d (.sl k _)=>if k=0 then none else some (dZ neg,.nil)
  |.Bo z=>some (dZ (z !=neg),.nil)
  |.sl _ _ _ k=>if k=0 then none else some (dZ neg,.nil)
  |_=>none
 |.BZ dR z,[.sl id e off len]=>match ai m id with
  |some cs=>if e=dR/\len≠0/\z.length=dR/\z.length≠0/\z.all mf=true/\off+len*dR<=cs.length then
   some (.cC [],.put id (putAt cs off ((alI (len*dR)).map λi=>z.getD (i%z.length) .any)))else none
  |none=>none
 |.ZS,[.uF id]=>(mapOf m id).map λkv=>(.d (.int .i64 ((kv.length/2:Nat):Int)),.nil)
 |_,_=>none
def bq (o:j5) (t:Fr) (m:Mem) (n:Nat):Option (AV×gk):=
 match o with
 |.mv x=>some (ev t x,.nil)
 |.pick c a b=>match ev t c with
  |.d (.bool v)=>some (if v=true then ev t a else ev t b,.nil)
  |_=>none
 |.alloc z=>some (.ptr n 0,.new (sk n z))
 |.box x=>(cellsOf (ev t x)).map λcs=>(.ptr n 0,.new cs)
 |.build z ps=>(uG z (qF t ps)).map λcs=>(.agg cs,.nil)
 |.cF dR len z ps=>(uG z (qF t ps)).map λcs=>(.sl n dR 0 len,.new cs)
 |.load k x=>match ev t x with
  |.ptr id off=>match ai m id with
   |some cs=>(aN k (cs.drop off)).map λv=>(v,.nil)
   |none=>none
  |.bw cs=>(aN k (cs.map .d)).map λv=>(v,.nil)
  |_=>none
 |.store k a v=>match ev t a,cellsOf (ev t v)with
  |.ptr id off,some vs=>match ai m id with
   |some cs=>if vs.length=k/\vs.all mf=true/\off+k<=cs.length then some (.any,.put id (putAt cs off vs))else none
   |none=>none
  |_,_=>none
 |.jc x=>match ev t x with
  |.ptr id off=>some (.ptr id off,.nil)
  |.bw cs=>some (.bw cs,.nil)
  |.fn f cs=>some (.fn f cs,.nil)
  |_=>none
 |.bin op x y=>(gT op (ev t x) (ev t y)).map λv=>(v,.nil)
 |.TU neg x y=>match ev t x,ev t y with
  |.d (.bool a),.d (.bool b)=>some (dZ ((a==b)!=neg),.nil)
  |_,_=>none
 |.TV neg x y=>(ZU neg (ev t x) (ev t y)).map λv=>(v,.nil)
 |.Zy neg x y=>(ZV neg (ev t x) (ev t y)).map λv=>(v,.nil)
 |.eqs sz neg x y=>match ev t x,ev t y with
  |.agg xs,.agg ys=>(cw sz xs ys).map λb=>(dZ (b !=neg),.nil)
  |_,_=>none
 |.un op x=>(unA op (ev t x)).map λv=>(v,.nil)
 |.IJ k x=>match ev t x with
  |.d (.int _ a)=>some (oq k a,.nil)
  |_=>none
 |.nz x=>match ev t x with
  |.d (.int _ a)=>some (.d (.str (Utf8.encode a).data.toList),.nil)
  |.d (.str s)=>some (.d (.str s),.nil)
  |_=>none
 |.yK x=>match ev t x with
  |.d (.str _)=>none
  |y=>match fI m 1 y with
   |some (_,cs)=>(gX cs).map λs=>(.d (.str s),.nil)
   |none=>none
 |.Gs x=>match ev t x with
  |.d (.str s)=>some (.sl n 1 0 s.length,.new (nQ s))
  |_=>none
 |.B0 x=>match ev t x with
  |.sl id e off len=>match ai m id with
   |some _=>if len=0 then none else some (.sl id e off len,.nil)
   |none=>none
  |_=>none
 |.rY f caps=>some (.fn f (caps.map (ev t)),.nil)
 |.Er dR bytes z l c=>match ev t l,ev t c with
  |.d (.int .i64 a),.d (.int .i64 b)=>
   if 0<=a/\a<=b/\bytes*b<=140737488351232/\b<=9223372036854775807 then some (.sl n dR 0 a.toNat,.new ((alI (a.toNat*dR)).map λi=>z.getD (i%z.length) .any))else none
  |_,_=>none
 |.yL x lo hi=>match ev t x with
  |.d (.str s)=>match IK (lo.map (ev t)) 0,IK (hi.map (ev t)) s.length with
   |some l,some h=>if l<=h/\h<=s.length then some (.d (.str ((s.take h).drop l)),.nil)else none
   |_,_=>none
  |_=>none
 |.uZ dR x lo hi=>match jV (ev t x)with
  |some len=>match IK (lo.map (ev t)) 0,IK (hi.map (ev t)) len with
   |some l,some h=>(aeC dR l h len (ev t x)).map λv=>(v,.nil)
   |_,_=>none
  |none=>none
 |.dI x off=>match ev t x with
  |.ptr id o=>some (.ptr id (o+off),.nil)
  |.bw cs=>some (.bw (cs.drop off),.nil)
  |_=>none
 |.ZT x off k=>match ev t x with
  |.agg cs=>(aN k (cs.drop off)).map λv=>(v,.nil)
  |_=>none
 |.cg dR n x i=>match ev t x,ev t i with
  |.ptr id o,.d (.int _ i)=>match n with
   |some n=>if 0<=i/\i<n then some (.ptr id (o+i.toNat*dR),.nil)else none
   |none=>none
  |.bw cs,.d (.int _ i)=>match n with
   |some n=>if 0<=i/\i<n then some (.bw (cs.drop (i.toNat*dR)),.nil)else none
   |none=>none
  |.sl id e off len,.d (.int _ i)=>if n=none/\e=dR/\0<=i/\i<len then some (.ptr id (off+i.toNat*dR),.nil)else none
  |.d (.sl len cs),.d (.int _ i)=>if n=none/\0<=i/\i<len/\i.toNat*dR<cs.length then some (.bw (cs.drop (i.toNat*dR)),.nil)else none
  |_,_=>none
 |.idxs x i=>match ev t x,ev t i with
  |.d (.str s),.d (.int _ i)=>if 0<=i/\i<s.length then some (.d (.int .u8 (s.getD i.toNat 0).toNat),.nil)else none
  |_,_=>none
 |.Es n dR k x i=>match ev t x,ev t i with
  |.agg cs,.d (.int _ i)=>if 0<=i/\i<n then(aN k (cs.drop (i.toNat*dR))).map λv=>(v,.nil)else none
  |_,_=>none
 |.ext x i=>match ev t x with
  |.cC vs=>vs[i]?.map λv=>(v,.nil)
  |_=>none
 |.lens x=>match ev t x with
  |.d (.str s)=>some (.d (.int .i64 (s.length:Int)),.nil)
  |_=>none
 |.B1 x=>(jV (ev t x)).map λ(l:Nat)=>(.d (.int .i64 (l:Int)),.nil)
 |.yM x y=>match ev t x,ev t y with
  |.d (.int k a),.d (.int _ b)=>some (.d (.int k (if b<a then b else a)),.nil)
  |_,_=>none
 |.wk x y=>match ev t x,ev t y with
  |.d (.int k a),.d (.int _ b)=>some (.d (.int k (if a<b then b else a)),.nil)
  |_,_=>none
 |.app dR bytes el x y=>match fI m dR (ev t y)with
  |some (k,new)=>
   match ev t x with
   |.d .ct=>if k*bytes<=140737488351232 then(if k=0 then some (.d .ct,.nil)else some (.sl n dR 0 k,.new new))else none
   |.sl id e off len=>match ai m id with
    |some cs=>if e=dR/\off+len*dR=cs.length/\(len+k)*bytes<=140737488351232 then
     (if k=0 then some (.sl id dR off len,.nil)else if off=0 then some (.sl n dR 0 (len+k),.Zz id (cs++new))else none)else none
    |none=>none
   |.BV id T len=>match ai m id with
    |some cs=>if dR=1/\T=el/\len=cs.length/\(len+k)*bytes<=140737488351232 then
     (if k=0 then some (.BV id T len,.nil)else some (.BV n T (len+k),.Zz id (cs++new)))else none
    |none=>none
   |_=>none
  |none=>none
 |.j6 k xs=>mU k (xs.map (ev t)) m n
 |.bW _ _=>none
 |.eW _ _=>none
def ot:Value->AV
 |.bool b=>.d (.bool b)
 |.int k n=>.d (.int k n)
 |.string s=>.d (.str s.data.toList)
 |.pointer none=>.d .om
 |.slice none 0 0=>.d .ct
 |.nilFunc=>.d .Zx
 |.nilIface=>.d .nif
 |_=>.any
def IL:Value->AV
 |.agg cs=>.agg (cs.toList.map ot)
 |v=>ot v
def bm:Operand->dx
 |.tmp t=>.t t
 |.const v=>.c (IL v)
 |.func f=>.c (.fn f [])
 |.global _=>.c .any
def mV (P:Program) (t:TypeId):Option (Option Nat):=
 match P.info? t,P.underlying t with
 |some i,some (.struct _)=>some (some i.size)
 |some i,some (.array _ _)=>some (some i.size)
 |some _,some _=>some none
 |_,_=>none
def zeroOf (P:Program) (t:TypeId):Option (List AV):=
 match P.info? t with
 |some i=>match i.zero with
  |some z=>some (z.cells.toList.map ot)
  |none=>none
 |none=>none
def iu (P:Program) (fs:Array Field) (f:Nat):Option (Nat×Nat):=
 match fs[f]?with
 |some fd=>match P.info? fd.type with
  |some i=>some (fd.offset,i.size)
  |none=>none
 |none=>none
def partsOf (place:Nat->Option (Nat×Nat)):List (Nat×Operand)->Option (List (Nat×Nat×dx))
 | []=>some []
 |(i,x)::r=>match place i,partsOf place r with
  |some (off,size),some r'=>some ((off,size,bm x)::r')
  |_,_=>none
def u0 (P:Program) (sz:TypeId->Option (List Nat)):List Field->Nat->Option (List Nat)
 | [],_=>some []
 |f::r,acc=>match sz f.type with
  |some s=>if f.name≠ "_"/\f.offset=acc/\(P.info? f.type).map (·.size)=some s.length then(u0 P sz r (acc+s.length)).map (s++·)else none
  |none=>none
def gY (P:Program):Nat->TypeId->Option (List Nat)
 |0,_=>none
 |d+1,t=>match P.underlying t with
  |some (.int _)=>some [0]
  |some .bool=>some [1]
  |some .string=>some [2]
  |some (.struct fs)=>if P.stoodInHeld t then none else u0 P (gY P d) fs.toList 0
  |some (.array n e)=>match P.info? e,gY P d e with
   |some i,some s=>if i.size=s.length then some (alA n s).flatten else none
   |_,_=>none
  |_=>none
def pP (P:Program) (T:TypeId):Option (List Nat):=
 match P.underlying T with
 |some (.struct _)=>(gY P 20 T).bind λks=>if(P.info? T).map (·.size)=some ks.length then some ks else none
 |some (.array _ _)=>(gY P 20 T).bind λks=>if(P.info? T).map (·.size)=some ks.length then some ks else none
 |_=>none
def zeroV (P:Program) (T:TypeId):Option AV:=
 match P.info? T with
 |some i=>i.zero.map IL
 |none=>none
def lK (P:Program) (f:Nat):Bool:=
 match P.funcs[f]?with
 |some fn=>fn.body.isSome&& fn.name != "runtime.NumGoroutine"
 |none=>false
def aeE:TypeDesc->Bool
 |.int _=>true
 |_=>false
def sn (P:Program) (b:Builtin) (ts:Array TypeId) (args:Array Operand):Option j5:=
 match b,ts.toList,args.toList with
 |.len,[t],[x]=>match P.underlying t with
  |some .string=>some (.lens (bm x))
  |some (.slice _)=>some (.B1 (bm x))
  |some (.array n _)=>some (.mv (.c (.d (.int .i64 n))))
  |some (.map _ _)=>some (.j6 .ZS [bm x])
  |_=>none
 |.append,[s,t],[x,y]=>match P.underlying s,P.underlying t with
  |some (.slice e),some u=>if aeE u=true then none else match P.info? e with
   |some i=>match i.zero with
    |some z=>if z.cells.size=i.size/\i.bytes≠0 then some (.app i.size i.bytes e (bm x) (bm y))else none
    |none=>none
   |none=>none
  |_,_=>none
 |.copy,[s,_],[x,y]=>match P.underlying s with
  |some (.slice e)=>(P.info? e).map λi=>.j6 (.Fb i.size) [bm x,bm y]
  |_=>none
 |.clear,[s],[x]=>match P.underlying s with
  |some (.slice e)=>match P.info? e,zeroOf P e with
   |some i,some z=>some (.j6 (.BZ i.size z) [bm x])
   |_,_=>none
  |_=>none
 |.min,_,[x,y]=>some (.yM (bm x) (bm y))
 |.max,_,[x,y]=>some (.wk (bm x) (bm y))
 |_,_,_=>none
def Fc (T:Nat):List AV->List AV
 | [.d .om,.d .ct]=>[.A5 0 T,.d .ct]
 |z=>z
def l9 (P:Program):Op->Option j5
 |.move x=>some (.mv (bm x))
 |.assign x=>some (.mv (bm x))
 |.pick c a b=>some (.pick (bm c) (bm a) (bm b))
 |.alloc e=>(zeroOf P e).map λz=>.alloc (Fc e z)
 |.box _ x=>some (.box (bm x))
 |.build t ps=>match P.underlying t,zeroOf P t with
  |some (.struct fs),some z=>if(fs.all λf=>(P.info? f.type).isSome)then(partsOf (iu P fs) ps.toList).map (.build z)else none
  |some (.array _ e),some z=>match P.info? e with
   |some i=>(partsOf (λj=>some (j*i.size,i.size)) ps.toList).map (.build z)
   |none=>none
  |_,_=>none
 |.buildSlice t len ps=>match P.underlying t with
  |some (.slice e)=>match P.info? e,zeroOf P e with
   |some i,some z=>if z.length=i.size/\len*i.size<=2^24 then
    (partsOf (λj=>some (j*i.size,i.size)) ps.toList).map (.cF i.size len ((alI (len*i.size)).map λj=>z.getD (j%z.length) .any))else none
   |_,_=>none
  |_=>none
 |.load t a=>(mV P t).map λk=>.load k (bm a)
 |.store t a v=>(P.info? t).map λi=>.store i.size (bm a) (bm v)
 |.nilCheck x=>some (.jc (bm x))
 |.binOp op t x y _=>
  match P.underlying t with
  |some (.int _)=>some (.bin op (bm x) (bm y))
  |some .string=>some (.bin op (bm x) (bm y))
  |some .bool=>match op with
   |.eql=>some (.TU false (bm x) (bm y))
   |.neq=>some (.TU true (bm x) (bm y))
   |_=>none
  |some (.pointer _)=>match op with
   |.eql=>some (.TV false (bm x) (bm y))
   |.neq=>some (.TV true (bm x) (bm y))
   |_=>none
  |some (.slice _)=>match op with
   |.eql=>some (.j6 (.yJ false) [bm x,bm y])
   |.neq=>some (.j6 (.yJ true) [bm x,bm y])
   |_=>none
  |some (.func ..)=>match op with
   |.eql=>some (.Zy false (bm x) (bm y))
   |.neq=>some (.Zy true (bm x) (bm y))
   |_=>none
  |some (.struct _)=>match gY P 20 t with
   |some s=>if P.eqGuardType P.depth t then none else match op with
    |.eql=>some (.eqs s false (bm x) (bm y))
    |.neq=>some (.eqs s true (bm x) (bm y))
    |_=>none
   |none=>none
  |some (.array _ _)=>match gY P 20 t with
   |some s=>if P.eqGuardType P.depth t then none else match op with
    |.eql=>some (.eqs s false (bm x) (bm y))
    |.neq=>some (.eqs s true (bm x) (bm y))
    |_=>none
   |none=>none
  |_=>none
 |.unOp op _ x=>some (.un op (bm x))
 |.convert s d x=>match P.underlying s,P.underlying d with
  |some (.int _),some (.int k)=>some (.IJ k (bm x))
  |some (.int _),some .string=>some (.nz (bm x))
  |some .string,some .string=>some (.nz (bm x))
  |some (.slice e),some .string=>match P.underlying e with
   |some (.int .u8)=>some (.yK (bm x))
   |_=>none
  |some .string,some (.slice e)=>match P.underlying e with
   |some (.int .u8)=>some (.Gs (bm x))
   |_=>none
  |some (.slice _),some (.slice e)=>if s=d then(match P.underlying e with
   |some (.int .u8)=>some (.B0 (bm x))
   |_=>none)else none
  |_,_=>none
 |.makeFunc (.func f) first caps=>if first.isEmpty then some (.rY f (caps.toList.map bm))else none
 |.makeSlice t l c=>match P.underlying t with
  |some (.slice e)=>match P.info? e,zeroOf P e with
   |some i,some z=>if z.length=i.size/\z.length≠0 then some (.Er i.size i.bytes z (bm l) (bm c))else none
   |_,_=>none
  |_=>none
 |.slice t x lo hi none=>match P.underlying t with
  |some .string=>some (.yL (bm x) (lo.map bm) (hi.map bm))
  |some (.slice e)=>match P.info? e with
   |some i=>some (.uZ i.size (bm x) (lo.map bm) (hi.map bm))
   |none=>none
  |some (.array q e)=>match P.info? e with
   |some i=>some (.j6 (.BX q i.size) [bm x,(lo.map bm).getD (.c (.d (.int .i64 0))),(hi.map bm).getD (.c (.d (.int .i64 (q:Int))))])
   |none=>none
  |_=>none
 |.slice t x lo (some hi) (some mx)=>match P.underlying t with
  |some (.slice e)=>match P.info? e with
   |some i=>some (.j6 (.Mu i.size) [bm x,(lo.map bm).getD (.c (.d (.int .i64 0))),bm hi,bm mx])
   |none=>none
  |_=>none
 |.fieldAddr s x f=>match P.underlying s with
  |some (.struct fs)=>match iu P fs f with
   |some (off,size)=>if size=0 then none else some (.dI (bm x) off)
   |none=>none
  |_=>none
 |.field s x f=>match P.underlying s with
  |some (.struct fs)=>match fs[f]?with
   |some fd=>(mV P fd.type).map λk=>.ZT (bm x) fd.offset k
   |none=>none
  |_=>none
 |.indexAddr t x i=>match P.underlying t with
  |some (.slice e)=>(P.info? e).map λi'=>.cg i'.size none (bm x) (bm i)
  |some (.array n e)=>(P.info? e).map λi'=>.cg i'.size (some n) (bm x) (bm i)
  |_=>none
 |.index t x i=>match P.underlying t with
  |some .string=>some (.idxs (bm x) (bm i))
  |some (.array n e)=>match P.info? e,mV P e with
   |some i',some k=>some (.Es n i'.size k (bm x) (bm i))
   |_,_=>none
  |_=>none
 |.extract x i=>some (.ext (bm x) i)
 |.makeMap _ none=>some (.j6 .O6 [])
 |.lookup T x k comma=>match P.underlying T with
  |some (.map kT eT)=>match pP P kT,zeroV P eT with
   |some ks,some z=>some (.j6 (.lkp ks z comma) [bm x,bm k])
   |_,_=>none
  |_=>none
 |.mapUpdate T x k v=>match P.underlying T with
  |some (.map kT _)=>(pP P kT).map λks=>.j6 (.TR ks) [bm x,bm k,bm v]
  |_=>none
 |.insert T x k v=>match P.underlying T with
  |some (.map kT _)=>(pP P kT).map λks=>.j6 (.TR ks) [bm x,bm k,bm v]
  |_=>none
 |.mapEntry T x k=>match P.underlying T with
  |some (.map kT eT)=>match pP P kT,zeroV P eT with
   |some ks,some z=>some (.j6 (.TS ks z) [bm x,bm k])
   |_,_=>none
  |_=>none
 |.entryStore _ x j v=>some (.j6 .TT [bm x,bm j,bm v])
 |.call c=>match c.callee with
  |.builtin b=>sn P b c.argTypes c.args
  |.value (.func f)=>if lK P f then some (.bW f (c.args.toList.map bm))else none
  |.value x=>some (.eW (bm x) (c.args.toList.map bm))
  |.invoke _ _=>none
 |_=>none
def lL (ops:Array Oper):Option (Nat×Bool)->Option (Option (Nat×Bool))
 |none=>some none
 |some (j,w)=>match ops[j]?with
  |some o=>match o.dst with
   |some d=>some (some (d,w))
   |none=>none
  |none=>none
def TW (k:Nat):Option Nat->Bool
 |some d=>decide (d<k)
 |none=>true
def rN (P:Program) (ops:Array Oper) (k:Nat) (o:Oper):Option bC:=
 match l9 P o.op,lL ops o.guard with
 |some a,some g=>if TW k o.dst=true then some ⟨o.dst,a,g⟩else none
 |_,_=>none
def jW (P:Program) (ops:Array Oper) (k:Nat):List Oper->Option (List bC)
 | []=>some []
 |o::r=>match rN P ops k o,jW P ops k r with
  |some a,some r'=>some (a::r')
  |_,_=>none
end Go.Jq
namespace Go.Jq
open Go
theorem addr_add (b o n:Nat):(Addr.add ⟨b,o,none⟩ n)=⟨b,o+n,none⟩:=by
 unfold Addr.add;split;·rename_i h;subst h;rfl
 ·rfl
theorem cell_of_row {w:World} {b:Nat} {arr:Array Value} {T:TypeId} {f:Nat×Nat} (h:w.heap[b]?=some (.cells arr T f)) (o:Nat):
 w.cell? ⟨b,o,none⟩=arr[o]?:=by simp[World.cell?,h]
theorem frozen_of_row {w:World} {b:Nat} {arr:Array Value} {T:TypeId} {f:Nat×Nat} (h:w.heap[b]?=some (.cells arr T f)) (hf:Gr arr.size f) {o:Nat} (ho:o<arr.size):
 w.frozen? ⟨b,o,none⟩=false:=by
 simp only[World.frozen?,h];rcases hf with h1|h1
 ·have:¬(f.1<=o/\o<f.2):=by omega
  simp only[Bool.and_eq_false_iff,decide_eq_false_iff_not];omega
 ·simp only[Bool.and_eq_false_iff,decide_eq_false_iff_not];omega
theorem ca {w:World} {b:Nat} {arr:Array Value} {T:TypeId} {f:Nat×Nat} (h:w.heap[b]?=some (.cells arr T f)):dP w b=some (T,arr.size):=by
 simp[dP,h]
theorem run_loadCellsFrom (P:Program) (w:World) (b:Nat):∀(n o i:Nat) (acc:Array Value) (us:List Value),
 us.length=n->(∀j u,us[j]?=some u->w.cell? ⟨b,o+i+j,none⟩=some u)->(loadCellsFrom ⟨b,o,none⟩ i n acc).run P w=.ok (acc++us.toArray) w
 |0,o,i,acc,us,hl,_=>by
  have:us=[]:=amb hl;subst this;simp[loadCellsFrom]
 |n+1,o,i,acc,us,hl,h=>by
  cases us with
  |nil=>simp at hl
  |cons u us=>
   have h0:=h 0 u rfl;simp only[Nat.add_zero]at h0;have ih:=run_loadCellsFrom P w b n o (i+1) (acc.push u) us (by simpa using hl) (λj u' hj=>by
    have:=h (j+1) u' (by simpa using hj);rw[<-this];congr 2;omega)
   simp only[loadCellsFrom,alr,addr_add,run_load,h0,alp,ih]
   congr 1
   apply Array.ext';simp
theorem run_loadCells (P:Program) (w:World) (b o:Nat) (us:List Value) (h:∀j u,us[j]?=some u->w.cell? ⟨b,o+j,none⟩=some u):
 (loadCells ⟨b,o,none⟩ us.length).run P w=.ok us.toArray w:=by
 have:=run_loadCellsFrom P w b us.length o 0 #[] us rfl (by simpa using h)
 simpa[loadCells]using this
structure B3 (w w':World) (b:Nat) (uq:Array Value) (T:TypeId) (f:Nat×Nat):Prop where
 os:w'.os=w.os
 tape:w'.tape=w.tape
 output:w'.output=w.output
 size:w'.heap.size=w.heap.size
 other:∀k,k≠b->w'.heap[k]?=w.heap[k]?
 row:w'.heap[b]?=some (.cells uq T f)
def iv:List Value->Nat->List Value->List Value
 |l,_,[]=>l
 |l,o,v::vs=>iv (l.set o v) (o+1) vs
theorem nR:∀(vs l:List Value) (o:Nat),(iv l o vs).length=l.length
 | [],l,o=>rfl
 |v::vs,l,o=>by simp only[iv];rw[nR vs];simp
theorem wo:∀(vs l:List AV) (o:Nat),(putAt l o vs).length=l.length
 | [],l,o=>rfl
 |v::vs,l,o=>by simp only[putAt];rw[wo vs];simp
theorem ou {c:Ctx} {w:World}:∀(xs:List AV) (vs:List Value) (l:List AV) (us:List Value) (o:Nat),bg c w l us->bg c w xs vs->bg c w (putAt l o xs) (iv us o vs)
 | [],vs,l,us,o,h,h'=>by simp only[bg]at h';subst h';exact h
 |x::xs,vs,l,us,o,h,h'=>by
  simp only[bg]at h';obtain⟨v,o6,rfl,hv,h'⟩:=h';simp only[putAt,iv];exact ou xs o6 _ _ _ (bg.set o h hv) h'
theorem nS:∀(vs us rest:List Value) (o:Nat),o+vs.length<=us.length->iv (us++rest) o vs=iv us o vs++rest
 | [],us,rest,o,_=>rfl
 |v::vs,us,rest,o,h=>by
  simp only[alu]at h;simp only[iv];rw[List.set_append_left o v (by omega)];exact nS vs _ rest (o+1) (by simp;omega)
theorem yN:∀(vs us rest:List Value),vs.length<=rest.length->∃o8,iv (us++rest) us.length vs=us++vs++o8/\o8.length=rest.length-vs.length
 | [],us,rest,_=>⟨rest,by simp[iv],by simp⟩
 |v::vs,us,[],h=>by simp at h
 |v::vs,us,r::rest,h=>by
  simp only[iv];rw[List.set_append_right us.length v (ali _)];simp only[Nat.sub_self,List.set_cons_zero];obtain⟨o8,h1,h2⟩:=yN vs (us++[v]) rest (by simpa using h);refine⟨o8,?_,by simp;omega⟩;rw[show us++v::rest=us++[v]++rest by simp,show us.length+1=(us++[v]).length by simp,h1];simp
theorem gZ (P:Program) (b:Nat) (T:TypeId) (f:Nat×Nat):∀(vs:List Value) (w:World) (arr:Array Value) (o i:Nat),
 w.heap[b]?=some (.cells arr T f)->Gr arr.size f->(∀v∈vs,v.oneCell'=true)->o+i+vs.length<=arr.size->
 ∃w',(storeCells ⟨b,o,none⟩ vs i).run P w=.ok () w'/\B3 w w' b (iv arr.toList (o+i) vs).toArray T f
 | [],w,arr,o,i,hb,_,_,_=>⟨w,by simp[storeCells],rfl,rfl,rfl,rfl,λ_ _=>rfl,by simpa[iv]using hb⟩
 |v::vs,w,arr,o,i,hb,hf,hv,hl=>by
  have bn:o+i<arr.size:=by simp at hl;omega
  have hc:w.cell? ⟨b,o+i,none⟩=some arr[o+i]:=by rw[cell_of_row hb];simp[bn]
  have hfz:=frozen_of_row hb hf bn;have pQ:(w.setCell ⟨b,o+i,none⟩ v).heap[b]?=some (.cells (arr.setIfInBounds (o+i) v) T f):=by
   simp only[World.setCell,Array.getElem?_modify,if_true,hb,alX];simp
  obtain⟨w',hr,h⟩:=gZ P b T f vs (w.setCell ⟨b,o+i,none⟩ v) (arr.setIfInBounds (o+i) v) o (i+1) pQ (by simpa using hf)
   (λu hu=>hv u (alY _ hu)) (by simp at hl⊢;omega)
  refine⟨w',?_,?_⟩
  ·simp only[storeCells,alr,addr_add,run_store P w _ v .plain (hv v alU),hc,hfz,alp,aly,if_false];exact hr
  ·refine⟨h.os,h.tape,h.output,h.size.trans (by simp),λk hk=>(h.other k hk).trans (RowKit.Below.heap_setCell _ _ _ _ hk),?_⟩;rw[h.row];simp only[iv,Nat.add_assoc,Array.toList_setIfInBounds]
 termination_by vs=>vs.length
def Ctx.bind (c:Ctx) (n:Nat) (s:j7):Ctx:={c with φ:=λi=>if i=n then s else c.φ i}
theorem Ctx.cV {c:Ctx} {n:Nat} {s:j7} {id:Nat} (h:id≠n):(c.bind n s).φ id=c.φ id:=by simp[Ctx.bind,h]
theorem Ctx.bind_eq {c:Ctx} {n:Nat} {s:j7}:(c.bind n s).φ n=s:=by simp[Ctx.bind]
theorem tD {c c':Ctx} {n:Nat} (hn:c.φ n=.free) (h:∀id,id≠n->c'.φ id=c.φ id):∀id,c.φ id≠.free->c'.φ id=c.φ id:=
 λid hid=>h id λe=>hid (e▸hn)
theorem QN.later {c c':Ctx} {w w':World} (hl:jP c c' w w') {id:Nat} {cells:List AV} (h:QN c w id cells)
 (nK:∀b,(c.φ id).bk=some b->w'.heap[b]?=w.heap[b]?/\¬c'.dY b):QN c' w' id cells:=by
 rcases h with⟨h0,h1⟩|⟨b,arr,T,f,hb,hi,hw,hf,vs,rest,ha,hr⟩|⟨b,es,kv,hb,hi,hw,hf,hc,hr⟩;·exact .inl ⟨by rw[hl.ext id (by rw[h0];simp)];exact h0,h1⟩
 ·have hs:=nK b (j7.jU hb);exact .inr (.inl ⟨b,arr,T,f,by rw[hl.ext id (by rw[hb];simp)];exact hb,hs.2,by rw[hs.1];exact hw,hf,vs,rest,ha,gn hl cells vs hr⟩)
 ·have hs:=nK b (j7.O5 hb);exact .inr (.inr ⟨b,es,kv,by rw[hl.ext id (by rw[hb];simp)];exact hb,hs.2,by rw[hs.1];exact hw,hf,hc,gn hl _ _ hr⟩)
theorem MR.del {c:Ctx} {m:Mem} {w:World} (h:MR c m w) (id:Nat):MR c (aG m id) w where
 own:=λi cells hi=>by rw[fL]at hi;split at hi;· simp at hi
                      ·exact h.own i cells hi
 inj:=λi j b hi hj=>by
  rw[fL]at hi hj;split at hi;·simp at hi
  ·split at hj;·simp at hj
   ·exact h.inj i j b hi hj
 dY:=h.dY
 zZ:=h.zZ
theorem MR.TX {c:Ctx} {m:Mem} {w:World} (h:MR c m w) {id:Nat} (hi:(ai m id).isSome):c.φ id≠.free:=by
 obtain⟨cells,hc⟩:=alS.1 hi;rcases h.own id cells hc with⟨h0,_⟩|⟨b,_,_,_,hb,_⟩|⟨b,_,_,hb,_⟩;·rw[h0];simp
 ·rw[hb];simp
 ·rw[hb];simp
theorem MR.lM {c:Ctx} {m:Mem} {w:World} (h:MR c m w) {b:Nat} (ho:iV c m b):b<w.heap.size:=by
 obtain⟨id,hid,hb⟩:=ho;obtain⟨cells,hc⟩:=alS.1 hid;have key:∀o,w.heap[b]?=some o->b<w.heap.size:=λo hw=>by
  rcases Nat.lt_or_ge b w.heap.size with h1|h1;·exact h1
  ·rw[Array.getElem?_eq_none h1]at hw;cases hw
 rcases h.own id cells hc with⟨h0,_⟩|⟨b',arr,T,f,gi,_,hw,_⟩|⟨b',es,kv,gi,_,hw,_⟩;·rw[h0]at hb;cases hb
 ·rw[gi]at hb;cases hb;exact key _ hw
 ·rw[gi]at hb;cases hb;exact key _ hw
structure lN (w w':World) (arr:Array Value) (T:TypeId) (f:Nat×Nat):Prop where
 os:w'.os=w.os
 tape:w'.tape=w.tape
 output:w'.output=w.output
 size:w'.heap.size=w.heap.size+1
 old:∀k,k<w.heap.size->w'.heap[k]?=w.heap[k]?
 row:w'.heap[w.heap.size]?=some (.cells arr T f)
theorem iA {w w':World} {b:Nat} (h:w'.heap[b]?=w.heap[b]?):dP w' b=dP w b:=by simp[dP,h]
theorem u1 {w:World} {b:Nat} {k:TypeId×Nat} (h:dP w b=some k):b<w.heap.size:=by
 rcases Nat.lt_or_ge b w.heap.size with h1|h1;·exact h1
 ·simp[dP,Array.getElem?_eq_none h1]at h
theorem lN.rows {w w':World} {arr:Array Value} {T:TypeId} {f:Nat×Nat} (h:lN w w' arr T f):∀b n,dP w b=some n->dP w' b=some n:=
 λb _ hn=>(iA (h.old b (u1 hn))).trans hn
theorem lN.later {c:Ctx} {m:Mem} {w w':World} {arr:Array Value} {T:TypeId} {f:Nat×Nat} (h:lN w w' arr T f) (hm:MR c m w) {n:Nat} (hn:c.φ n=.free):
 jP c (c.bind n (.pM w.heap.size)) w w':=
 ⟨λ_ hb=>hb,λb hb=>h.old b (hm.dY b hb),tD hn λ_ hid=>Ctx.cV hid,h.rows⟩
theorem lN.step {c:Ctx} {m:Mem} {w w':World} {arr:Array Value} {T:TypeId} {f:Nat×Nat} (h:lN w w' arr T f) (n:Nat):
 Step (iV c m) c (c.bind n (.pM w.heap.size)) w w':=
 ⟨h.os,h.tape,h.output,by rw[h.size];omega,λk hk _=>h.old k hk,h.rows,λ_ hb=>hb,λ_ hb=>.inl hb⟩
theorem MR.new {c:Ctx} {m:Mem} {w w':World} {arr:Array Value} {T:TypeId} {f:Nat×Nat} (hm:MR c m w) (h:lN w w' arr T f) {n:Nat} (hn:c.φ n=.free)
 (hf:Gr arr.size f) {cells:List AV} {vs rest:List Value} (ha:arr.toList=vs++rest) (hr:bg c w cells vs):
 MR (c.bind n (.pM w.heap.size)) (ak m n cells) w' where
 own:=λid cs hid=>by
  have hl:=h.later hm hn;rw[bF]at hid;split at hid
  ·rename_i e;subst e;cases hid;exact .inr (.inl ⟨w.heap.size,arr,T,f,Ctx.bind_eq,λhi=>Nat.lt_irrefl _ (hm.dY _ hi),h.row,hf,vs,rest,ha,gn hl _ _ hr⟩)
  ·refine(hm.own id cs hid).later hl λb hb=>⟨h.old b (hm.lM ⟨id,by rw[hid];rfl,hb⟩),λhi=>hm.sep hi ⟨id,by rw[hid];rfl,hb⟩⟩
 inj:=λi j b hi hj B4 Fe=>by
  rw[bF]at hi hj;by_cases e1:n=i
  ·by_cases e2:n=j;·exact e1.symm.trans e2
   ·exfalso;subst e1;rw[Ctx.bind_eq]at B4;cases B4;rw[if_neg e2]at hj;rw[Ctx.cV (Ne.symm e2)]at Fe;exact Nat.lt_irrefl _ (hm.lM ⟨j,hj,Fe⟩)
  ·by_cases e2:n=j
   ·exfalso;subst e2;rw[Ctx.bind_eq]at Fe;cases Fe;rw[if_neg e1]at hi;rw[Ctx.cV (Ne.symm e1)]at B4;exact Nat.lt_irrefl _ (hm.lM ⟨i,hi,B4⟩)
   ·rw[if_neg e1]at hi;rw[if_neg e2]at hj;rw[Ctx.cV (Ne.symm e1)]at B4;rw[Ctx.cV (Ne.symm e2)]at Fe;exact hm.inj i j b hi hj B4 Fe
 dY:=λb hb=>by rw[h.size];exact Nat.lt_succ_of_lt (hm.dY b hb)
 zZ:=hm.o7 (h.later hm hn).dY (h.later hm hn).same
theorem tE {c:Ctx} {m:Mem} {w:World} {n:Nat} {cells:List AV} {b:Nat} (h:iV (c.bind n (.pM w.heap.size)) (ak m n cells) b):iV c m b\/w.heap.size<=b:=by
 obtain⟨id,hid,hb⟩:=h;rw[bF]at hid;by_cases e:n=id;·subst e;rw[Ctx.bind_eq]at hb;cases hb;exact .inr (ali _)
 ·rw[if_neg e]at hid;rw[Ctx.cV (Ne.symm e)]at hb;exact .inl ⟨id,hid,hb⟩
theorem e7 (w:World) (arr:Array Value) (T:TypeId):lN w (w.alloc (.cells arr T)) arr T (0,0):=
 ⟨rfl,rfl,rfl,by simp,λk hk=>RowKit.Below.heap_alloc w _ k hk,by simp only[World.alloc,Array.getElem?_push_size]⟩
theorem iO (n:Nat):Gr n (0,0):=.inl rfl
theorem B3.later {c:Ctx} {w w':World} {b:Nat} {arr uq:Array Value} {T:TypeId} {f:Nat×Nat} (h:B3 w w' b uq T f)
 (hb:w.heap[b]?=some (.cells arr T f)) (hs:uq.size=arr.size) (hi:¬c.dY b):jP c c w w':=by
 refine⟨λ_ h=>h,λk hk=>h.other k λe=>hi (e▸hk),λ_ _=>rfl,λk n hn=>?_⟩;by_cases e:k=b;·subst e;rw[ca hb]at hn;rw[ca h.row,hs];exact hn
 ·rw[iA (h.other k e)];exact hn
theorem B3.step {c:Ctx} {m:Mem} {w w':World} {b:Nat} {arr uq:Array Value} {T:TypeId} {f:Nat×Nat} (h:B3 w w' b uq T f)
 (hb:w.heap[b]?=some (.cells arr T f)) (hs:uq.size=arr.size) (ho:iV c m b):Step (iV c m) c c w w':=
 ⟨h.os,h.tape,h.output,by rw[h.size];exact ali _,λk _ hk=>h.other k λe=>hk (e▸ho),λk n hn=>by
  by_cases e:k=b;·subst e;rw[ca hb]at hn;rw[ca h.row,hs];exact hn
  ·rw[iA (h.other k e)];exact hn,λ_ h=>h,λ_ h=>.inl h⟩
theorem MR.put {c:Ctx} {m:Mem} {w w':World} {id b:Nat} {arr uq:Array Value} {T:TypeId} {f:Nat×Nat} {old cells:List AV} {vs rest:List Value} (hm:MR c m w)
 (hid:ai m id=some old) (fZ:c.φ id=.pM b) (h:B3 w w' b uq T f) (hb:w.heap[b]?=some (.cells arr T f)) (hs:uq.size=arr.size) (hi:¬c.dY b)
 (hf:Gr arr.size f) (ha:uq.toList=vs++rest) (hr:bg c w cells vs):MR c (ak m id cells) w' where
 own:=λi cs gK=>by
  have hl:=h.later hb hs hi;rw[bF]at gK;split at gK
  ·rename_i e;subst e;cases gK;exact .inr (.inl ⟨b,uq,T,f,fZ,hi,h.row,by rw[hs];exact hf,vs,rest,ha,gn hl _ _ hr⟩)
  ·rename_i e;refine(hm.own i cs gK).later hl λb' gi=>⟨h.other b' λeb=>e ?_,λMv=>hm.sep Mv ⟨i,by rw[gK];rfl,gi⟩⟩;exact hm.inj id i b (by rw[hid];rfl) (by rw[gK];rfl) (j7.jU fZ) (eb▸gi)
 inj:=λi j b' gK A6=>by
  rw[bF]at gK A6;refine hm.inj i j b' ?_ ?_
  ·split at gK;·rename_i e;subst e;rw[hid];rfl
   ·exact gK
  ·split at A6;·rename_i e;subst e;rw[hid];rfl
   ·exact A6
 dY:=λk hk=>by rw[h.size];exact hm.dY k hk
 zZ:=hm.o7 (h.later hb hs hi).dY (h.later hb hs hi).same
theorem tF {c:Ctx} {m:Mem} {id:Nat} {old cells:List AV} (hid:ai m id=some old) {b:Nat} (h:iV c (ak m id cells) b):iV c m b:=by
 obtain⟨i,hi,hb⟩:=h;rw[bF]at hi;by_cases e:id=i;·subst e;exact⟨id,by rw[hid];rfl,hb⟩
 ·rw[if_neg e]at hi;exact⟨i,hi,hb⟩
theorem MR.again {c:Ctx} {m:Mem} {w:World} {id n:Nat} {cells:List AV} (hm:MR c m w) (hid:ai m id=some cells) (hn:c.φ n=.free) (s:j7) (hs:c.φ id=s):
 MR (c.bind n s) (ak (aG m id) n cells) w where
 own:=λi cs hi=>by
  have hl:jP c (c.bind n s) w w:=⟨λ_ h=>h,λ_ _=>rfl,tD hn λ_ h=>Ctx.cV h,λ_ _ h=>h⟩;rw[bF]at hi;split at hi
  ·rename_i e;subst e;cases hi;have h:=hm.own id cells hid;unfold QN at*;rw[Ctx.bind_eq];rw[hs]at h;rcases h with h|⟨b,arr,T,f,h1,h2,h3,h4,vs,rest,h5,h6⟩|⟨b,es,kv,h1,h2,h3,h4,h5,h6⟩;·exact .inl h
   ·exact .inr (.inl ⟨b,arr,T,f,h1,h2,h3,h4,vs,rest,h5,gn hl _ _ h6⟩)
   ·exact .inr (.inr ⟨b,es,kv,h1,h2,h3,h4,h5,gn hl _ _ h6⟩)
  ·rw[fL]at hi;split at hi;·simp at hi
   ·exact(hm.own i cs hi).later hl λb hb=>⟨rfl,λMv=>hm.sep Mv ⟨i,by rw[hi];rfl,hb⟩⟩
 inj:=λi j b hi hj B4 Fe=>by
  rw[bF,fL]at hi hj;have ov:(ai m id).isSome:=by rw[hid];rfl
  by_cases e1:n=i
  ·by_cases e2:n=j;·exact e1.symm.trans e2
   ·exfalso;subst e1;rw[Ctx.bind_eq]at B4;rw[if_neg e2]at hj;rw[Ctx.cV (Ne.symm e2)]at Fe;by_cases e3:id=j;·rw[if_pos e3]at hj;simp at hj
    ·rw[if_neg e3]at hj;exact e3 (hm.inj id j b ov hj (by rw[hs];exact B4) Fe)
  ·by_cases e2:n=j
   ·exfalso;subst e2;rw[Ctx.bind_eq]at Fe;rw[if_neg e1]at hi;rw[Ctx.cV (Ne.symm e1)]at B4;by_cases e3:id=i;·rw[if_pos e3]at hi;simp at hi
    ·rw[if_neg e3]at hi;exact e3 (hm.inj id i b ov hi (by rw[hs];exact Fe) B4)
   ·rw[if_neg e1]at hi;rw[if_neg e2]at hj;rw[Ctx.cV (Ne.symm e1)]at B4;rw[Ctx.cV (Ne.symm e2)]at Fe;split at hi;·simp at hi
    ·split at hj;·simp at hj
     ·exact hm.inj i j b hi hj B4 Fe
 dY:=hm.dY
 zZ:=hm.zZ
theorem Ff {c:Ctx} {m:Mem} {id n:Nat} {cells:List AV} (hid:(ai m id).isSome) {s:j7} (hs:c.φ id=s) {b:Nat} (h:iV (c.bind n s) (ak (aG m id) n cells) b):iV c m b:=by
 obtain⟨i,hi,hb⟩:=h;rw[bF]at hi;by_cases e:n=i;·subst e;rw[Ctx.bind_eq]at hb;exact⟨id,hid,by rw[hs];exact hb⟩
 ·rw[if_neg e,fL]at hi;rw[Ctx.cV (Ne.symm e)]at hb;split at hi;·simp at hi
  ·exact⟨i,hi,hb⟩
theorem Bp {c:Ctx} {m:Mem} {id b:Nat} (h:iV c (aG m id) b):iV c m b:=by
 obtain⟨i,hi,hb⟩:=h;rw[fL]at hi;split at hi;·simp at hi
 ·exact⟨i,hi,hb⟩
end Go.Jq
namespace Go.Jq
open Go
def fa (P:Program) (s:Sem Next) (c:Ctx) (m:Mem) (n:Nat) (w:World) (v:AV) (e:gk):Prop:=
 ∃r w' c',s.run P w=.ok r w'/\((∃u,r=.value u/\Rel c' w' v u)\/(r=.skip/\v=.any))/\MR c' (e.mem m n) w'/\Step (iV c m) c c' w w'/\
  (∀id,(id≠n\/e.next n=n)->c'.φ id=c.φ id)/\(∀b,iV c' (e.mem m n) b->iV c m b\/w.heap.size<=b)
section
variable{P:Program} {c:Ctx} {m:Mem} {n:Nat} {w:World} {t:Fr} {a:Act}
theorem bH {s:Sem Value} {u:Value} {v:AV} (hM:MR c m w) (hs:s.run P w=.ok u w) (hr:Rel c w v u):
 fa P (do pure (.value (<-s))) c m n w v .nil:=
 ⟨.value u,w,c,by simp[hs],.inl ⟨u,rfl,hr⟩,hM,Step.refl _ _ _,λ_ _=>rfl,λ_ h=>.inl h⟩
theorem IM {u:Value} {v:AV} (hM:MR c m w) (hr:Rel c w v u):fa P (pure (.value u)) c m n w v .nil:=
 ⟨.value u,w,c,by simp,.inl ⟨u,rfl,hr⟩,hM,Step.refl _ _ _,λ_ _=>rfl,λ_ h=>.inl h⟩
theorem sq {s:Sem Value} {u:Value} {v:AV} {w':World} {arr:Array Value} {T:TypeId} {f:Nat×Nat} {cells:List AV} {vs rest:List Value} (hM:MR c m w) (hn:c.φ n=.free)
 (hs:s.run P w=.ok u w') (h:lN w w' arr T f) (hf:Gr arr.size f) (ha:arr.toList=vs++rest) (hr:bg c w cells vs)
 (hv:Rel (c.bind n (.pM w.heap.size)) w' v u):fa P (do pure (.value (<-s))) c m n w v (.new cells):=
 ⟨.value u,w',c.bind n (.pM w.heap.size),by simp[hs],.inl ⟨u,rfl,hv⟩,hM.new h hn hf ha hr,h.step n,λ_ h=>Ctx.cV (h.resolve_right (by simp[gk.next])),λ_ h=>tE h⟩
theorem Fg (v:Value):Rel c w (ot v) v:=by
 unfold ot;split<;>simp[Rel,dS]
theorem iB:∀(vs:List Value),bg c w (vs.map ot) vs
 | []=>by simp[bg]
 |v::vs=>by simp only[alz,bg];exact⟨v,vs,rfl,Fg v,iB vs⟩
theorem wq (v:Value):Rel c w (IL v) v:=by
 unfold IL;split
 ·rename_i cs;simp only[Rel];exact⟨cs.toList,by simp,iB _⟩
 ·exact Fg v
theorem bL (hF:FR c w t a.tmps) (x:Operand):Rel c w (ev t (bm x)) (a.eval x):=by
 cases x with
 |tmp i=>exact hF i
 |const v=>exact wq v
 |global g=>simp[bm,ev,Rel]
 |func f=>simp only[bm,ev,Rel,Act.eval,bg];exact⟨[],by simp,rfl⟩
theorem tG (hF:FR c w t a.tmps):∀(xs:List Operand),bg c w ((xs.map bm).map (ev t)) (xs.map a.eval)
 | []=>by simp[bg]
 |x::xs=>by simp only[alz,bg];exact⟨_,_,rfl,bL hF x,tG hF xs⟩
theorem yO {x:AV} {v:Value} {cs:List AV} (h:Rel c w x v) (hc:cellsOf x=some cs):∃vs,v.cells=vs.toArray/\bg c w cs vs:=by
 cases x with
 |d x=>
  simp only[cellsOf,alJ]at hc;subst hc;refine⟨[v],?_,by simp only[bg];exact⟨v,[],rfl,h,rfl⟩⟩;simp only[Rel]at h;cases x<;>simp only[dS]at h
  case sl=>obtain⟨a,cap,rfl,_⟩:=h;rfl
  all_goals(subst h;rfl)
 |ptr id off=>
  simp only[cellsOf,alJ]at hc;subst hc;refine⟨[v],?_,by simp only[bg];exact⟨v,[],rfl,h,rfl⟩⟩;simp only[Rel]at h;obtain⟨b,_,rfl⟩:=h;rfl
 |A5 id T=>
  simp only[cellsOf,alJ]at hc;subst hc;refine⟨[v],?_,by simp only[bg];exact⟨v,[],rfl,h,rfl⟩⟩;simp only[Rel]at h;obtain⟨rfl,_⟩:=h;rfl
 |bw cells=>
  simp only[cellsOf,alJ]at hc;subst hc;refine⟨[v],?_,by simp only[bg];exact⟨v,[],rfl,h,rfl⟩⟩;simp only[Rel]at h;obtain⟨b,o,_,rfl,_⟩:=h;rfl
 |sl id dR off len=>
  simp only[cellsOf,alJ]at hc;subst hc;refine⟨[v],?_,by simp only[bg];exact⟨v,[],rfl,h,rfl⟩⟩;simp only[Rel]at h;rcases h with⟨_,_,_,_,rfl⟩|⟨b,cap,n,_,rfl,_⟩<;>rfl
 |uF id=>
  simp only[cellsOf,alJ]at hc;subst hc;refine⟨[v],?_,by simp only[bg];exact⟨v,[],rfl,h,rfl⟩⟩;simp only[Rel]at h;obtain⟨b,_,rfl⟩:=h;rfl
 |Bo z=>
  simp only[cellsOf,alJ]at hc;subst hc;refine⟨[v],?_,by simp only[bg];exact⟨v,[],rfl,h,rfl⟩⟩;simp only[Rel]at h;obtain⟨a,cap,rfl,_⟩:=h;rfl
 |BV id T len=>
  simp only[cellsOf,alJ]at hc;subst hc;refine⟨[v],?_,by simp only[bg];exact⟨v,[],rfl,h,rfl⟩⟩;simp only[Rel]at h;rcases h with⟨_,_,rfl⟩|⟨b,cap,n,_,rfl,_⟩<;>rfl
 |fn f cap=>
  simp only[cellsOf,alJ]at hc;subst hc;refine⟨[v],?_,by simp only[bg];exact⟨v,[],rfl,h,rfl⟩⟩;simp only[Rel]at h;obtain⟨vs,rfl,_⟩:=h;rfl
 |agg cells=>
  simp only[cellsOf,alJ]at hc;subst hc;simp only[Rel]at h;obtain⟨vs,rfl,h⟩:=h;exact⟨vs,rfl,h⟩
 |cC vs=>simp[cellsOf]at hc
 |any=>simp[cellsOf]at hc
theorem ZW {x:AV} {v:Value} (h:Rel c w x v) (hx:mf x=true):v.oneCell'=true:=by
 cases x with
 |d x=>
  simp only[Rel]at h;cases x<;>simp only[dS]at h
  case sl=>obtain⟨a,cap,rfl,_⟩:=h;rfl
  all_goals(subst h;rfl)
 |ptr id off=>simp only[Rel]at h;obtain⟨b,_,rfl⟩:=h;rfl
 |A5 id T=>simp only[Rel]at h;obtain⟨rfl,_⟩:=h;rfl
 |bw cells=>simp only[Rel]at h;obtain⟨b,o,_,rfl,_⟩:=h;rfl
 |sl id dR off len=>simp only[Rel]at h;rcases h with⟨_,_,_,_,rfl⟩|⟨b,cap,n,_,rfl,_⟩<;>rfl
 |uF id=>simp only[Rel]at h;obtain⟨b,_,rfl⟩:=h;rfl
 |Bo z=>simp only[Rel]at h;obtain⟨a,cap,rfl,_⟩:=h;rfl
 |BV id T len=>simp only[Rel]at h;rcases h with⟨_,_,rfl⟩|⟨b,cap,n,_,rfl,_⟩<;>rfl
 |fn f cap=>simp only[Rel]at h;obtain⟨vs,rfl,_⟩:=h;rfl
 |agg cells=>simp[mf]at hx
 |cC vs=>simp[mf]at hx
 |any=>simp[mf]at hx
theorem sr {xs:List AV} {vs:List Value} (h:bg c w xs vs) (hx:xs.all mf=true):∀v∈vs,v.oneCell'=true:=by
 intro v hv;obtain⟨i,hi⟩:=List.getElem?_of_mem hv;have hl:=h.length;have bn:i<xs.length:=by
  have:=(List.getElem?_eq_some_iff.1 hi).1;omega
 obtain⟨u,hu,hr⟩:=h.get (i:=i) (x:=xs[i]) (by simp[bn]);rw[hi]at hu;cases hu;exact ZW hr (List.all_eq_true.1 hx _ (alR bn))
def Bq (c:Ctx) (w:World) (b o:Nat) (cells:List AV):Prop:=∀(i:Nat) (x:AV),cells[i]?=some x->∃u,w.cell? ⟨b,o+i,none⟩=some u/\Rel c w x u
theorem o9 {id b:Nat} {cells:List AV} (hM:MR c m w) (hid:ai m id=some cells) (fZ:c.φ id=.pM b) (off:Nat):Bq c w b off (cells.drop off):=by
 intro i x hx;rcases hM.own id cells hid with⟨h0,_⟩|⟨b',arr,T,f,hb,_,hw,_,vs,rest,ha,hr⟩|⟨_,_,_,h0,_⟩;·rw[h0]at fZ;cases fZ
 ·rw[hb]at fZ;cases fZ;rw[List.getElem?_drop]at hx;obtain⟨v,hv,mW⟩:=hr.get hx;refine⟨v,?_,mW⟩;rw[cell_of_row hw,<-Array.getElem?_toList,ha,List.getElem?_append_left (List.getElem?_eq_some_iff.1 hv).1];exact hv
 ·rw[h0]at fZ;cases fZ
theorem wu {b o:Nat} {cells:List DV} (h:dH c.dY w cells b o):Bq c w b o (cells.map .d):=by
 intro i x hx;rw[List.getElem?_map]at hx;cases hc:cells[i]?with
 |none=>rw[hc]at hx;simp at hx
 |some d=>
  rw[hc]at hx;simp at hx;subst hx;obtain⟨u,hu,hr⟩:=h.get hc;exact⟨u,hu,by simp only[Rel];exact hr⟩
theorem qH {b o:Nat} {cells:List AV} (h:Bq c w b o cells) (k:Nat) (hk:k<=cells.length):
 ∃us:List Value,us.length=k/\(∀j u,us[j]?=some u->w.cell? ⟨b,o+j,none⟩=some u)/\bg c w (cells.take k) us:=by
 induction k with
 |zero=>exact⟨[],rfl,by simp,by simp[bg]⟩
 |succ k ih=>
  obtain⟨us,hl,hc,hr⟩:=ih (by omega);obtain⟨u,hu,mW⟩:=h k cells[k] (by simp);refine⟨us++[u],by simp[hl],λj v hj=>?_,?_⟩
  ·rcases Nat.lt_or_ge j us.length with h1|h1;·rw[List.getElem?_append_left h1]at hj;exact hc j v hj
   ·rw[List.getElem?_append_right h1]at hj;have:j=k:=by
     have:=(List.getElem?_eq_some_iff.1 hj).1;simp at this;omega
    subst this;rw[hl]at hj;simp at hj;rw[<-hj];exact hu
  ·rw[List.take_succ_eq_append_getElem (by omega)];exact hr.append (by simp only[bg];exact⟨u,[],rfl,mW,rfl⟩)
theorem IP {T:TypeId} {k:Option Nat} (h:mV P T=some k):
 (∃i,P.info? T=some i/\k=some i.size/\∀w,(isAgg T).run P w=.ok true w)\/(k=none/\∀w,(isAgg T).run P w=.ok false w):=by
 unfold mV at h;split at h
 ·rename_i i fs h1 h2;cases h;exact .inl ⟨i,h1,rfl,λw=>by simp[isAgg,underlying,h2]⟩
 ·rename_i i n e h1 h2;cases h;exact .inl ⟨i,h1,rfl,λw=>by simp[isAgg,underlying,h2]⟩
 ·rename_i i d hn1 TY h1 h2;cases h;refine .inr ⟨rfl,λw=>?_⟩;simp only[isAgg,underlying,alr,run_program,alp,h2];cases d<;>first|rfl|(exact absurd rfl (hn1 _))|(exact absurd rfl (TY _ _))|(exact absurd h2 (hn1 _ _ h1))|(exact absurd h2 (TY _ _ _ h1))|(exact(hn1 _ _ h1 h2).elim)|(exact(TY _ _ _ h1 h2).elim)
 ·cases h
theorem run_sizeOf {T:TypeId} {i:TypeInfo} (h:P.info? T=some i):(sizeOf T).run P w=.ok i.size w:=by
 simp[sizeOf,typeInfo,h]
theorem su {T:TypeId} {k:Option Nat} (hk:mV P T=some k) {b o:Nat} {cells:List AV} (h:Bq c w b o cells) {v:AV} (hv:aN k cells=some v):
 ∃u,(loadVar T ⟨b,o,none⟩).run P w=.ok u w/\Rel c w v u:=by
 rcases IP hk with⟨i,hi,rfl,pR⟩|⟨rfl,pR⟩
 ·simp only[aN]at hv;split at hv
  ·rename_i hle;cases hv;obtain⟨us,hl,hc,hr⟩:=qH h i.size hle;refine⟨.agg us.toArray,?_,by simp only[Rel];exact⟨us,rfl,hr⟩⟩;have hlc:=run_loadCells P w b o us hc;rw[hl]at hlc;simp only[loadVar,alr,pR,alp,if_true,run_sizeOf hi,hlc,alq]
  ·cases hv
 ·simp only[aN]at hv;obtain⟨u,hu,hr⟩:=h 0 v hv;refine⟨u,?_,hr⟩;simp only[Nat.add_zero]at hu;simp only[loadVar,alr,pR,alp,run_load,hu,aly,if_false]
theorem QP {T:TypeId} {k:Option Nat} {x:Operand} (hk:mV P T=some k) (hF:FR c w t a.tmps) (hM:MR c m w) {v:AV} {e:gk}
 (he:bq (.load k (bm x)) t m n=some (v,e)):fa P (do pure (.value (<-Instr.loadAt T (a.eval x)))) c m n w v e:=by
 have hx:=bL hF x;simp only[bq]at he;split at he
 ·rename_i id off pa;rw[pa]at hx;simp only[Rel]at hx;obtain⟨b,hb,hv⟩:=hx;split at he
  ·rename_i cs cq;rw[alG]at he;obtain⟨v',hl,he⟩:=he;cases he;obtain⟨u,hu,hr⟩:=su hk (o9 hM cq hb off) hl;exact bH hM (by simp only[Instr.loadAt,hv,Instr.sureAddr,alr,alq,alp,hu]) hr
  ·cases he
 ·rename_i cs pa;rw[pa]at hx;simp only[Rel]at hx;obtain⟨b,o,hb,hv,hc⟩:=hx;rw[alG]at he;obtain⟨v',hl,he⟩:=he;cases he;obtain⟨u,hu,hr⟩:=su hk (wu hc) hl;exact bH hM (by simp only[Instr.loadAt,hv,Instr.sureAddr,alr,alq,alp,hu]) hr
 ·cases he
theorem Mw {T:TypeId} {i:TypeInfo} {x y:Operand} (hi:P.info? T=some i) (hF:FR c w t a.tmps) (hM:MR c m w) {v:AV} {e:gk}
 (he:bq (.store i.size (bm x) (bm y)) t m n=some (v,e)):fa P (do Instr.storeAt T (a.eval x) (a.eval y);pure .skip) c m n w v e:=by
 have hx:=bL hF x;have hy:=bL hF y;simp only[bq]at he;split at he
 ·rename_i id off vs pa cq;rw[pa]at hx;obtain⟨us,A7,pC⟩:=yO hy cq;simp only[Rel]at hx;obtain⟨b,hb,hv⟩:=hx;split at he
  ·rename_i cs hm;split at he
   ·rename_i cW;obtain⟨h1,h2,h3⟩:=cW;cases he;rcases hM.own id cs hm with⟨h0,_⟩|⟨b',arr,T',f,gi,jj,hw,hf,o6,rest,ha,hr⟩|⟨_,_,_,h0,_⟩
    rotate_left 2
    ·rw[h0]at hb;cases hb
    ·rw[h0]at hb;cases hb
    ·rw[gi]at hb;cases hb;have hlen:=hr.length;have ak0:=pC.length;have jH:arr.size=o6.length+rest.length:=by rw[<-Array.length_toList,ha,aln]
     obtain⟨w',dJ,wv⟩:=gZ P b T' f us w arr off 0 hw hf (sr pC h2) (by omega);have hs:(iv arr.toList (off+0) us).toArray.size=arr.size:=by simp[nR]
     refine⟨.skip,w',c,?_,.inr ⟨rfl,rfl⟩,?_,wv.step hw hs ⟨id,by rw[hm];rfl,j7.jU gi⟩,λ_ _=>rfl,λb hb=>.inl (tF hm hb)⟩
     ·have h4:us.length=i.size:=by omega
      simp only[Instr.storeAt,hv,Instr.sureAddr,storeVar,alr,alq,alp,run_sizeOf hi,A7];simp[h4,dJ]
     ·refine hM.put hm gi wv hw hs jj hf (vs:=iv o6 off us) (rest:=rest) ?_ (ou vs us cs o6 off hr pC);simp only[ha,Nat.add_zero];rw[nS us o6 rest off (by omega)]
   ·cases he
  ·cases he
 ·cases he
theorem MR.aeF {c:Ctx} {m:Mem} {w:World} {n:Nat} {z z':List AV} (hM:MR c (ak m n z) w) (h:QN c w n z'):MR c (ak m n z') w where
 own:=λid cs hid=>by
  rw[bF]at hid;split at hid;·rename_i e;subst e;cases hid;exact h
  ·rename_i e;exact hM.own id cs (by rw[bF,if_neg e];exact hid)
 inj:=λi j b hi hj=>by
  have key:∀i,(ai (ak m n z') i).isSome->(ai (ak m n z) i).isSome:=λi h=>by
   rw[bF]at h⊢;split at h;·rename_i e;rw[if_pos e];rfl
   ·rename_i e;rw[if_neg e];exact h
  exact hM.inj i j b (key i hi) (key j hj)
 dY:=hM.dY
 zZ:=hM.zZ
theorem Mx {T:TypeId} {z:List AV} (hz:zeroOf P T=some z) (hM:MR c m w) (hn:c.φ n=.free):
 fa P (do pure (.value (<-Instr.alloc T true (.tuple #[])))) c m n w (.ptr n 0) (.new (sk n (Fc T z))):=by
 unfold zeroOf at hz;split at hz
 ·rename_i i hi;split at hz
  ·rename_i zv IQ;cases hz;have fw:=e7 w zv.cells T;have dJ:(Instr.alloc T true (.tuple #[])).run P w=.ok (.pointer (some ⟨w.heap.size,0,none⟩)) (w.alloc (.cells zv.cells T)):=by
    simp[Instr.alloc,zeroValue,typeInfo,hi,IQ,newVar,newRow]
   have B5:=hM.new (cells:=zv.cells.toList.map ot) fw hn (iO _) (vs:=zv.cells.toList) (rest:=[]) (by simp) (iB _);refine⟨.value (.pointer (some ⟨w.heap.size,0,none⟩)),w.alloc (.cells zv.cells T),c.bind n (.pM w.heap.size),by simp[dJ],.inl ⟨_,rfl,by simp only[Rel];exact⟨w.heap.size,Ctx.bind_eq,rfl⟩⟩,?_,fw.step n,λ_ h=>Ctx.cV (h.resolve_right (by simp[gk.next])),λ_ h=>tE h⟩;show MR _ (ak m n (sk n (Fc T (zv.cells.toList.map ot)))) _;refine B5.aeF ?_
   have nK:sk n (Fc T (zv.cells.toList.map ot))=zv.cells.toList.map ot\/(zv.cells.toList.map ot=[.d .om,.d .ct]/\sk n (Fc T (zv.cells.toList.map ot))=[.A5 n T,.d .ct]):=by
    unfold Fc;split;·rename_i h;exact .inr ⟨h,rfl⟩
    ·refine .inl ?_;unfold sk;split
     ·rename_i id T' r h;cases hl:zv.cells.toList with
      |nil=>rw[hl]at h;cases h
      |cons v l=>
       rw[hl]at h;simp only[alz,List.cons.injEq]at h;have:=h.1;unfold ot at this
       repeat' split at this
       all_goals cases this
     ·rfl
   rcases nK with h|⟨h1,h2⟩
   ·rw[h];exact B5.own n _ (by rw[bF,if_pos rfl])
   ·rw[h2];have hr:bg c w (zv.cells.toList.map ot) zv.cells.toList:=iB _;rw[h1]at hr;simp only[bg,Rel,dS]at hr;obtain⟨v1,r1,e1,rfl,v2,r2,rfl,rfl,rfl⟩:=hr;refine .inr (.inl ⟨w.heap.size,zv.cells,T,(0,0),Ctx.bind_eq,λhi=>Nat.lt_irrefl _ (hM.dY _ hi),fw.row,iO _,[.pointer none,.slice none 0 0],[],by rw[e1];rfl,?_⟩);simp only[bg,Rel,dS];refine⟨_,_,rfl,⟨rfl,w.heap.size,Ctx.bind_eq,?_⟩,_,_,rfl,rfl,rfl⟩;rw[ca fw.row];have jH:zv.cells.size=2:=by rw[<-Array.length_toList,e1];rfl
    rw[jH]
  ·cases hz
 ·cases hz
theorem TZ {T:TypeId} {x:Operand} (hF:FR c w t a.tmps) (hM:MR c m w) (hn:c.φ n=.free) {cs:List AV} (cq:cellsOf (ev t (bm x))=some cs):
 fa P (do pure (.value (<-Instr.box T (a.eval x)))) c m n w (.ptr n 0) (.new cs):=by
 obtain⟨vs,B6,hr⟩:=yO (bL hF x) cq;refine sq (u:=.pointer (some ⟨w.heap.size,0,none⟩)) hM hn ?_ (e7 w (a.eval x).cells T) (iO _) (vs:=vs) (rest:=[]) (by simp[B6]) hr
  (by simp only[Rel];exact⟨w.heap.size,Ctx.bind_eq,rfl⟩)
 simp[Instr.box,newVar,newRow]
end
end Go.Jq
namespace Go.Jq
open Go
section
variable{P:Program} {c:Ctx} {m:Mem} {n:Nat} {w:World} {t:Fr} {a:Act}
theorem My (vs:List Value):∀(cs:Array Value) (off j:Nat),
 (vs.zipIdx j).foldl (λcs (p:Value×Nat)=>cs.setIfInBounds (off+p.2) p.1) cs=(iv cs.toList (off+j) vs).toArray:=by
 induction vs with
 |nil=>intro cs off j;simp[iv]
 |cons v vs ih=>
  intro cs off j;simp only[List.zipIdx_cons,al2,iv];rw[ih,Array.toList_setIfInBounds,Nat.add_assoc]
theorem T0 (cs:Array Value) (off:Nat) (vs:List Value):
 vs.toArray.zipIdx.foldl (λcs (c,j)=>cs.setIfInBounds (off+j) c) cs=(iv cs.toList off vs).toArray:=by
 rw[<-Array.foldl_toList];simp only[Array.toList_zipIdx];exact My vs cs off 0
inductive B7 (c:Ctx) (w:World) (place:Nat->Option (Nat×Nat)):List (Nat×Nat×AV)->List (Nat×Value)->Prop where
 |nil:B7 c w place [] []
 |cons {i off size:Nat} {x:AV} {v:Value} {ps:List (Nat×Nat×AV)} {vs:List (Nat×Value)} (hp:place i=some (off,size)) (hx:Rel c w x v) (h:B7 c w place ps vs):
  B7 c w place ((off,size,x)::ps) ((i,v)::vs)
theorem tH (hF:FR c w t a.tmps) {place:Nat->Option (Nat×Nat)}:∀(ps:List (Nat×Operand)) {qs:List (Nat×Nat×dx)},partsOf place ps=some qs->
 B7 c w place (qF t qs) (ps.map λp=>(p.1,a.eval p.2))
 | [],qs,h=>by simp only[partsOf,alJ]at h;subst h;exact .nil
 |(i,x)::ps,qs,h=>by
  simp only[partsOf]at h;split at h
  ·rename_i off size r' h1 h2;cases h;exact .cons h1 (bL hF x) (tH hF ps h2)
  ·cases h
theorem u2 {place:Nat->Option (Nat×Nat)} {ps:List (Nat×Nat×AV)} {vs:List (Nat×Value)} (hp:B7 c w place ps vs):
 ∀{cs:List AV} {us:List Value} {qI:List AV},bg c w cs us->uG cs ps=some qI->∃Mf,Instr.fill place us.toArray vs=some Mf.toArray/\bg c w qI Mf:=by
 induction hp with
 |nil=>intro cs us qI hr h;simp only[uG,alJ]at h;subst h;exact⟨us,rfl,hr⟩
 |cons u5 hx _ ih=>
  intro cs us qI hr h;simp only[uG]at h;split at h
  ·rename_i o6 hc;split at h
   ·rename_i cW;obtain⟨h1,h2⟩:=cW;obtain⟨ws,hws,pC⟩:=yO hx hc;obtain⟨Mf,hf,ZX⟩:=ih (ou o6 ws cs us _ hr pC) h;refine⟨Mf,?_,ZX⟩;have Mg:=pC.length;have Br:=hr.length;simp only[Instr.fill,u5,hws];rw[if_neg,T0];·exact hf
    ·simp;omega
   ·cases h
  ·cases h
theorem u6 {z:List AV} {us:List Value} (h:bg c w z us) (k:Nat) (hz:k=0\/z.length≠0):
 bg c w ((alI k).map λi=>z.getD (i%z.length) .any) ((alI k).map λi=>us.toArray[i%us.length]!):=by
 have hl:=h.length;refine bg.sj (by simp) λi x v hx hv=>?_;rw[List.getElem?_map]at hx hv;by_cases hi:i<k
 ·simp only[List.getElem?_range hi,alX,alJ]at hx hv;have bn:i%z.length<z.length:=Nat.mod_lt _ (by omega);obtain⟨u,hu,hr⟩:=h.get (i:=i%z.length) (x:=z[i%z.length]) (by simp[bn]);rw[hl]at hv;have h1:us.toArray[i%z.length]! =u:=by
   rw[Array.getElem!_eq_getD,Array.getD_eq_getD_getElem?,List.getElem?_toArray,hu];rfl
  rw[h1]at hv;subst hv;rw[<-hx];simpa[bn]using hr
 ·rw[List.getElem?_eq_none (by simpa using Nat.le_of_not_lt hi)]at hx;simp at hx
theorem sv {T:TypeId} {z:List AV} (hz:zeroOf P T=some z):∃zv:Value,(zeroValue T).run P w=.ok zv w/\z=zv.cells.toList.map ot:=by
 unfold zeroOf at hz;split at hz
 ·rename_i i hi;split at hz
  ·rename_i zv IQ;cases hz;exact⟨zv,by simp[zeroValue,typeInfo,hi,IQ],rfl⟩
  ·cases hz
 ·cases hz
theorem run_places {fs:List Field} (h:∀f∈fs,(P.info? f.type).isSome):
 (fs.mapM λf=>do pure (f.offset,<-sizeOf f.type):Sem (List (Nat×Nat))).run P w=.ok (fs.map λf=>(f.offset,((P.info? f.type).map (·.size)).getD 0)) w:=by
 induction fs with
 |nil=>simp
 |cons f fs ih=>
  obtain⟨i,hi⟩:=alS.1 (h f alU);have:=ih λg hg=>h g (alY _ hg);simp only[List.mapM_cons,alr,run_sizeOf hi,alp,alq,this,alz,hi,alX,al6]
theorem Mz {T:TypeId} {ps:Array (Nat×Operand)} {ao:j5} (hc:l9 P (.build T ps)=some ao) (hF:FR c w t a.tmps) (hM:MR c m w) {v:AV} {e:gk}
 (he:bq ao t m n=some (v,e)):fa P (do pure (.value (<-Instr.build T (ps.map λ(i,x)=>(i,a.eval x))))) c m n w v e:=by
 simp only[l9]at hc;split at hc
 ·rename_i fs z hu hz;split at hc
  ·rename_i sw;rw[alG]at hc;obtain⟨qs,hq,rfl⟩:=hc;simp only[bq,alG]at he;obtain⟨cs,r5,he⟩:=he;cases he;obtain⟨zv,IQ,rfl⟩:=sv (w:=w) hz;have u5:∀i,iu P fs i=(fs.map λf=>(f.offset,((P.info? f.type).map (·.size)).getD 0))[i]?:=by
    intro i;unfold iu;rw[Array.getElem?_map];cases Mh:fs[i]?with
    |none=>simp
    |some fd=>
     have:=Array.all_eq_true_iff_forall_mem.1 sw fd (Array.mem_of_getElem? Mh);obtain⟨i',gK⟩:=alS.1 this;simp[gK]
   obtain⟨Mf,hf,hr⟩:=u2 (tH hF ps.toList hq) (us:=zv.cells.toList) (iB _) r5;have ajt:iu P fs=λi=>(fs.map λf=>(f.offset,((P.info? f.type).map (·.size)).getD 0))[i]?:=funext u5;rw[ajt]at hf;refine bH (u:=.agg Mf.toArray) hM ?_ (by simp only[Rel];exact⟨Mf,rfl,hr⟩);have aju:(fs.mapM λf=>do pure (f.offset,<-sizeOf f.type):Sem (Array (Nat×Nat))).run P w=.ok (fs.map λf=>(f.offset,((P.info? f.type).map (·.size)).getD 0)) w:=by
    have:=run_places (P:=P) (w:=w) (fs:=fs.toList) λf hf=>Array.all_eq_true_iff_forall_mem.1 sw f (by simpa using hf);rw[<-Array.toArray_toList (xs:=fs)];rw[List.mapM_toArray];simp only[Sem.run_map,this,alp]
    congr 1
    exact Array.ext' (by simp)
   simp only[Instr.build,alr,IQ,alp,underlying,run_program,hu,aju,alq];have hm:(Array.map (λx=>(x.fst,a.eval x.snd)) ps).toList=ps.toList.map λp=>(p.1,a.eval p.2):=by simp
   simp only[Array.toArray_toList]at hf;simp only[hm,hf,alq]
  ·cases hc
 ·rename_i len e' z hu hz;split at hc
  ·rename_i i hi;rw[alG]at hc;obtain⟨qs,hq,rfl⟩:=hc;simp only[bq,alG]at he;obtain⟨cs,r5,he⟩:=he;cases he;obtain⟨zv,IQ,rfl⟩:=sv (w:=w) hz;obtain⟨Mf,hf,hr⟩:=u2 (tH hF ps.toList hq) (us:=zv.cells.toList) (iB _) r5;refine bH (u:=.agg Mf.toArray) hM ?_ (by simp only[Rel];exact⟨Mf,rfl,hr⟩);simp only[Instr.build,alr,IQ,alp,underlying,run_program,hu,run_sizeOf hi,alq];have hm:(Array.map (λx=>(x.fst,a.eval x.snd)) ps).toList=ps.toList.map λp=>(p.1,a.eval p.2):=by simp
   simp only[Array.toArray_toList]at hf;simp only[hm,hf,alq]
  ·cases hc
 ·cases hc
theorem IU {T len:Nat} {ps:Array (Nat×Operand)} {ao:j5} (hc:l9 P (.buildSlice T len ps)=some ao) (hF:FR c w t a.tmps) (hM:MR c m w) (hn:c.φ n=.free) {v:AV} {e:gk}
 (he:bq ao t m n=some (v,e)):fa P (do pure (.value (<-Instr.buildSlice T len (ps.map λ(i,x)=>(i,a.eval x))))) c m n w v e:=by
 simp only[l9]at hc;split at hc
 ·rename_i el hu;split at hc
  ·rename_i i z hi hz;split at hc
   ·rename_i cW;obtain⟨hzl,hle⟩:=cW;rw[alG]at hc;obtain⟨qs,hq,rfl⟩:=hc;simp only[bq,alG]at he;obtain⟨cs,r5,he⟩:=he;cases he;obtain⟨zv,IQ,hzz⟩:=sv (w:=w) hz;have hzr:bg c w z zv.cells.toList:=by rw[hzz];exact iB _
    have ur:=hzr.length;have hz0:len*i.size=0\/z.length≠0:=by
     rcases Nat.eq_zero_or_pos (len*i.size)with h|h;·exact .inl h
     ·right;intro h0;rw[h0]at hzl;rw[<-hzl]at h;simp at h
    obtain⟨Mf,hf,hr⟩:=u2 (tH hF ps.toList hq) (u6 hzr (len*i.size) hz0) r5;have akS:Mf.length=cs.length:=hr.length;have qJ:cs.length=len*i.size:=by
     have:∀(qs:List (Nat×Nat×AV)) (cs qI:List AV),uG cs qs=some qI->qI.length=cs.length:=by
      intro qs;induction qs with
      |nil=>intro cs qI h;simp only[uG,alJ]at h;rw[h]
      |cons p qs ih=>
       obtain⟨o,s,x⟩:=p;intro cs qI h;simp only[uG]at h;split at h
       ·split at h;·rw[ih _ _ h,wo]
        ·cases h
       ·cases h
     rw[this _ _ _ r5];simp
    refine sq (u:=.slice (some ⟨w.heap.size,0,none⟩) len len) hM hn ?_ (e7 w Mf.toArray el) (iO _) (vs:=Mf) (rest:=[]) (by simp) hr ?_
    ·have hm:(Array.map (λx=>(x.fst,a.eval x.snd)) ps).toList=ps.toList.map λp=>(p.1,a.eval p.2):=by simp
     simp only[Instr.buildSlice,alr,underlying,run_program,alp,hu,alq,run_sizeOf hi];rw[if_neg (by omega)];by_cases h0:len*i.size=0
     ·rw[if_pos h0];rw[h0]at hf;simp only[alr,alq,alp,h0,show Array.range 0=#[] from rfl,Array.map_empty]
      simp only[List.range_zero,alL]at hf;simp only[hm,hf,alr,newRow,run_newObj,alp,alq,World.alloc_eq]
     ·rw[if_neg h0];have ajv:((Array.range (len*i.size)).map λx=>zv.cells[x%zv.cells.size]!)=((alI (len*i.size)).map λi=>zv.cells.toList.toArray[i%zv.cells.toList.length]!).toArray:=by
       apply Array.ext';simp only[Array.toList_map,Array.toList_range,Array.toArray_toList,Array.length_toList]
      simp only[alr,IQ,alq,alp,ajv,hm,hf,newRow,run_newObj,World.alloc_eq]
    ·simp only[Rel];refine .inr ⟨w.heap.size,len,(el,len*i.size),Ctx.bind_eq,rfl,ali _,?_,by omega⟩;rw[ca (e7 w Mf.toArray el).row];simp;omega
   ·cases hc
  ·cases hc
 ·cases hc
end
@[reducible]def au (n:Int):AV:=.d (.int .i64 n)
@[reducible]def dF (n:Int):AV:=.d (.int .u64 n)
end Go.Jq
namespace Go.Jq
open Go
section
variable{P:Program} {c:Ctx} {m:Mem} {n:Nat} {w:World} {t:Fr} {a:Act}
theorem pS (k:IntKind) (x:Int):Rel c w (oq k x) (.int k (k.wrap x)):=by simp[oq,Rel,dS]
theorem jI (k:IntKind) (x:Int):Rel c w (.d (.int k x)) (.int k x):=by simp[Rel,dS]
theorem lq (b:Bool):Rel c w (dZ b) (.bool b):=by simp[dZ,Rel,dS]
theorem Bs (s:List UInt8):Rel c w (.d (.str s)) (.string ⟨s.toArray⟩):=by simp[Rel,dS]
theorem c6 {k:IntKind} {x:Int} {v:Value} (h:Rel c w (.d (.int k x)) v):v=.int k x:=by simpa[Rel,dS]using h
theorem fQ {x:Bool} {v:Value} (h:Rel c w (.d (.bool x)) v):v=.bool x:=by simpa[Rel,dS]using h
theorem gq {x:List UInt8} {v:Value} (h:Rel c w (.d (.str x)) v):v=.string ⟨x.toArray⟩:=by simpa[Rel,dS]using h
theorem lr {v:Value} (h:Rel c w (.d .ct) v):v=.slice none 0 0:=by simpa[Rel,dS]using h
theorem mg {v:Value} (h:Rel c w (.d .om) v):v=.pointer none:=by simpa[Rel,dS]using h
theorem tI {v:Value} (h:Rel c w (.d .Zx) v):v=.nilFunc:=by simpa[Rel,dS]using h
theorem tJ {id off:Nat} {v:Value} (h:Rel c w (.ptr id off) v):∃b,c.φ id=.pM b/\v=.pointer (some ⟨b,off,none⟩):=by simpa[Rel]using h
theorem sx {cs:List DV} {v:Value} (h:Rel c w (.bw cs) v):∃b o,c.dY b/\v=.pointer (some ⟨b,o,none⟩)/\dH c.dY w cs b o:=by simpa[Rel]using h
theorem B8 {f:Nat} {cs:List AV} {v:Value} (h:Rel c w (.fn f cs) v):∃vs,v=.func (.func f) #[] vs.toArray/\bg c w cs vs:=by simpa[Rel]using h
theorem pd {cs:List AV} {v:Value} (h:Rel c w (.agg cs) v):∃vs,v=.agg vs.toArray/\bg c w cs vs:=by simpa[Rel]using h
theorem ZY {cs:List AV} {v:Value} (h:Rel c w (.cC cs) v):∃vs,v=.tuple vs.toArray/\bg c w cs vs:=by simpa[Rel]using h
theorem O7 {x:Operand} (hF:FR c w t a.tmps) (hM:MR c m w):fa P (pure (.value (a.eval x))) c m n w (ev t (bm x)) .nil:=
 IM hM (bL hF x)
theorem QQ {x y z:Operand} (hF:FR c w t a.tmps) (hM:MR c m w) {v:AV} {e:gk} (he:bq (.pick (bm x) (bm y) (bm z)) t m n=some (v,e)):
 fa P (do pure (.value (if<-asBool (a.eval x)then a.eval y else a.eval z))) c m n w v e:=by
 have hx:=bL hF x;simp only[bq]at he;split at he
 ·rename_i b pa;rw[pa]at hx;cases he;have hb:=fQ hx;refine⟨.value (if b=true then a.eval y else a.eval z),w,c,by simp[hb,asBool],.inl ⟨_,rfl,?_⟩,hM,Step.refl _ _ _,λ_ _=>rfl,λ_ h=>.inl h⟩;cases b;·exact bL hF z
  ·exact bL hF y
 ·cases he
theorem MA {x:Operand} (hF:FR c w t a.tmps) {v:AV} {e:gk} (he:bq (.jc (bm x)) t m n=some (v,e)):
 ∃u,Rel c w v u/\e=.nil/\a.eval x=u/\((∃ad,u=.pointer (some ad))\/∃f cs,u=.func (.func f) #[] cs):=by
 have hx:=bL hF x;simp only[bq]at he;split at he
 ·rename_i id off pa;rw[pa]at hx;cases he;obtain⟨b,_,hv⟩:=tJ hx;exact⟨_,hx,rfl,rfl,.inl ⟨_,hv⟩⟩
 ·rename_i cs pa;rw[pa]at hx;cases he;obtain⟨b,o,_,hv,_⟩:=sx hx;exact⟨_,hx,rfl,rfl,.inl ⟨_,hv⟩⟩
 ·rename_i f cs pa;rw[pa]at hx;cases he;obtain⟨vs,hv,_⟩:=B8 hx;exact⟨_,hx,rfl,rfl,.inr ⟨_,_,hv⟩⟩
 ·cases he
theorem rO (op:BinOp) (T:TypeId) (x y:Operand) (k k':IntKind) (p q:Int):(eqGuard op T x y (.int k p) (.int k' q)).run P w=.ok () w:=by
 unfold eqGuard;cases op<;>rfl
theorem A8 (op:BinOp) (T:TypeId) (x y:Operand) (p q:ByteArray):(eqGuard op T x y (.string p) (.string q)).run P w=.ok () w:=by
 unfold eqGuard;cases op<;>rfl
theorem pT (op:BinOp) (T:TypeId) (x y:Operand) (p q:Bool):(eqGuard op T x y (.bool p) (.bool q)).run P w=.ok () w:=by
 unfold eqGuard;cases op<;>rfl
theorem QR {op:BinOp} {k yk:IntKind} {p q:Int} {v:AV} (h:shI op k p q=some v):∃u,(Op.shift op k p yk q).run P w=.ok u w/\Rel c w v u:=by
 unfold shI at h;split at h;·cases h
 ·rename_i hq;cases op<;>simp only[reduceCtorEq]at h<;>cases h;·exact⟨_,by simp only[Op.shift,if_neg hq,alq],pS _ _⟩
  ·exact⟨_,by simp only[Op.shift,if_neg hq,alq],jI _ _⟩
theorem T5 {op:BinOp} {T:TypeId} {k:IntKind} {p q:Int} {v:AV} (A9:¬(op=.shl\/op=.shr)) (h:rZ op k p q=some v):
 ∃u,(binOp op T (.int k p) (.int k q)).run P w=.ok u w/\Rel c w v u:=by
 cases op<;>simp only[rZ,reduceCtorEq,alJ]at h
 case quo=>
  split at h;·cases h
  ·rename_i hq;cases h;exact⟨_,by simp only[binOp,ne_eq,not_true_eq_false,if_false,Op.intDiv,if_neg hq,alq],pS _ _⟩
 case rem=>
  split at h;·cases h
  ·rename_i hq;cases h;exact⟨_,by simp only[binOp,ne_eq,not_true_eq_false,if_false,Op.intDiv,if_neg hq,alq],jI _ _⟩
 all_goals
  subst h
  first
   |refine⟨_,?_,pS _ _⟩
   |refine⟨_,?_,jI _ _⟩
   |refine⟨_,?_,lq _⟩
  simp only[binOp,ne_eq,not_true_eq_false,if_false,Op.intArith,Op.intCmp,intBits_and,intBits_or,intBits_xor,intBits_andNot,alq]
  try rfl
theorem T6 {op:BinOp} {T:TypeId} {p q:List UInt8} {v:AV} (h:QO op p q=some v):
 ∃u,(binOp op T (.string ⟨p.toArray⟩) (.string ⟨q.toArray⟩)).run P w=.ok u w/\Rel c w v u:=by
 cases op<;>simp only[QO,reduceCtorEq,alJ]at h
 case add=>
  split at h
  ·rename_i hle;cases h;refine⟨_,?_,Bs (p++q)⟩;have jH:¬(((⟨p.toArray⟩:ByteArray).size+(⟨q.toArray⟩:ByteArray).size:Nat):Int)>alv.max:=by
    have:alv.max=9223372036854775807:=by rfl
    rw[this];simp only[ByteArray.size,List.size_toArray];omega
   have ajw:(⟨p.toArray⟩:ByteArray)++⟨q.toArray⟩=⟨(p++q).toArray⟩:=by
    apply ByteArray.ext;rw[ByteArray.data_append];simp
   simp only[binOp,Op.stringOp,if_neg jH,ajw,alq]
  ·cases h
 all_goals
  subst h;have hd:∀x y:List UInt8,decide (x=y)=(x==y):=λx y=>by rw[Bool.eq_iff_iff];simp
  refine⟨_,?_,lq _⟩;simp only[binOp,Op.stringOp,ByteArray.toList_mk,alq,hd]
theorem IV {op:BinOp} {T:TypeId} {x y:Operand} (hF:FR c w t a.tmps) (hM:MR c m w) {v:AV} {e:gk}
 (he:bq (.bin op (bm x) (bm y)) t m n=some (v,e)):fa P (do pure (.value (<-(do eqGuard op T x y (a.eval x) (a.eval y);binOp op T (a.eval x) (a.eval y))))) c m n w v e:=by
 have hx:=bL hF x;have hy:=bL hF y;simp only[bq,alG]at he;obtain⟨v',hv,he⟩:=he;cases he;unfold gT at hv;split at hv
 ·rename_i k p k' q h1 h2;rw[h1]at hx;rw[h2]at hy;have e1:=c6 hx;have e2:=c6 hy;split at hv
  ·rename_i A9;obtain⟨u,hu,hr⟩:=QR (P:=P) (w:=w) (c:=c) (yk:=k') hv;refine bH hM ?_ hr;rw[e1,e2];simp only[alr,rO,alp];rcases A9 with rfl|rfl<;>exact hu
  ·rename_i A9;split at hv
   ·rename_i hk;subst hk;obtain⟨u,hu,hr⟩:=T5 (P:=P) (w:=w) (c:=c) (T:=T) A9 hv;refine bH hM ?_ hr;rw[e1,e2];simp only[alr,rO,alp,hu]
   ·cases hv
 ·rename_i p q h1 h2;rw[h1]at hx;rw[h2]at hy;have e1:=gq hx;have e2:=gq hy;obtain⟨u,hu,hr⟩:=T6 (P:=P) (w:=w) (c:=c) (T:=T) hv;refine bH hM ?_ hr;rw[e1,e2];simp only[alr,A8,alp,hu]
 ·cases hv
theorem IW {op:BinOp} {neg:Bool} (A9:(op=.eql/\neg=false)\/(op=.neq/\neg=true)) {T:TypeId} (hT:P.underlying T=some .bool) {x y:Operand} (hF:FR c w t a.tmps) (hM:MR c m w)
 {v:AV} {e:gk} (he:bq (.TU neg (bm x) (bm y)) t m n=some (v,e)):
 fa P (do pure (.value (<-(do eqGuard op T x y (a.eval x) (a.eval y);binOp op T (a.eval x) (a.eval y))))) c m n w v e:=by
 have hx:=bL hF x;have hy:=bL hF y;simp only[bq]at he;split at he
 ·rename_i p q h1 h2;rw[h1]at hx;rw[h2]at hy;cases he;have e1:=fQ hx;have e2:=fQ hy;have heq:(Op.equal T (.bool p) (.bool q)).run P w=.ok (p==q) w:=by
   unfold Op.equal;rw[show Op.maxDepth=9999+1 from rfl,Op.equalIn];simp only[alr,underlying,run_program,alp,hT,alq]
  refine bH hM ?_ (lq _);rw[e1,e2];rcases A9 with⟨rfl,rfl⟩|⟨rfl,rfl⟩;·simp only[alr,pT,alp,binOp,heq,alq,Bool.bne_false]
  ·simp only[alr,pT,alp,binOp,heq,alq,Bool.bne_true]
 ·cases he
theorem ZZ {neg:Bool} {x y:AV} {u v:Value} (hx:Rel c w x u) (hy:Rel c w y v) {r:AV} (h:ZU neg x y=some r):∃b,r=dZ (b !=neg)/\
 ∃p q,u=.pointer p/\v=.pointer q/\((p=none/\b=q.isNone)\/(q=none/\b=p.isNone)):=by
 unfold ZU at h;split at h<;>cases h
 ·obtain⟨b,_,rfl⟩:=tJ hx;have:=mg hy;subst this;exact⟨false,by simp,_,_,rfl,rfl,.inr ⟨rfl,rfl⟩⟩
 ·obtain⟨b,_,_,rfl,_⟩:=sx hx;have:=mg hy;subst this;exact⟨false,by simp,_,_,rfl,rfl,.inr ⟨rfl,rfl⟩⟩
 ·obtain⟨b,_,rfl⟩:=tJ hy;have:=mg hx;subst this;exact⟨false,by simp,_,_,rfl,rfl,.inl ⟨rfl,rfl⟩⟩
 ·obtain⟨b,_,_,rfl,_⟩:=sx hy;have:=mg hx;subst this;exact⟨false,by simp,_,_,rfl,rfl,.inl ⟨rfl,rfl⟩⟩
 ·have:=mg hx;subst this;have:=mg hy;subst this;exact⟨true,by simp,_,_,rfl,rfl,.inl ⟨rfl,rfl⟩⟩
theorem Z1 {neg:Bool} {x y:AV} {u v:Value} (hx:Rel c w x u) (hy:Rel c w y v) {r:AV} (h:ZV neg x y=some r):∃b,r=dZ (b !=neg)/\
 ((u=.nilFunc/\v=.nilFunc/\b=true)\/(∃f g h,u=.func f g h/\v=.nilFunc/\b=false)\/(∃f g h,v=.func f g h/\u=.nilFunc/\b=false)):=by
 unfold ZV at h;split at h<;>cases h
 ·obtain⟨vs,rfl,_⟩:=B8 hx;have:=tI hy;subst this;exact⟨false,by simp,.inr (.inl ⟨_,_,_,rfl,rfl,rfl⟩)⟩
 ·obtain⟨vs,rfl,_⟩:=B8 hy;have:=tI hx;subst this;exact⟨false,by simp,.inr (.inr ⟨_,_,_,rfl,rfl,rfl⟩)⟩
 ·have:=tI hx;subst this;have:=tI hy;subst this;exact⟨true,by simp,.inl ⟨rfl,rfl,rfl⟩⟩
theorem Z2 {op:UnOp} {x:Operand} (hF:FR c w t a.tmps) (hM:MR c m w) {v:AV} {e:gk} (he:bq (.un op (bm x)) t m n=some (v,e)):
 fa P (do pure (.value (<-Op.unary op (a.eval x)))) c m n w v e:=by
 have hx:=bL hF x;simp only[bq,alG]at he;obtain⟨v',hv,he⟩:=he;cases he;unfold unA at hv;split at hv
 ·rename_i k p h1;rw[h1]at hx;have e1:=c6 hx;cases op<;>simp only[reduceCtorEq]at hv<;>cases hv;·exact bH hM (by rw[e1];simp only[Op.unary,Op.intArith,alq]) (pS _ _)
  ·exact bH hM (by rw[e1];simp only[Op.unary,intBits_xor,alq]) (jI _ _)
 ·rename_i p h1;rw[h1]at hx;have e1:=fQ hx;cases op<;>simp only[reduceCtorEq]at hv<;>cases hv;exact bH hM (by rw[e1];simp only[Op.unary,alq]) (lq _)
 ·cases hv
theorem T7 {s d:TypeId} {k' k:IntKind} (hs:P.underlying s=some (.int k')) (hd:P.underlying d=some (.int k)) {x:Operand} (hF:FR c w t a.tmps) (hM:MR c m w) {v:AV} {e:gk}
 (he:bq (.IJ k (bm x)) t m n=some (v,e)):fa P (do pure (.value (<-convert s d (a.eval x)))) c m n w v e:=by
 have hx:=bL hF x;simp only[bq]at he;split at he
 ·rename_i k2 p h1;rw[h1]at hx;cases he;have e1:=c6 hx;exact bH hM (by rw[e1];simp only[convert,alr,underlying,run_program,alp,hs,hd,Conv.intToInt,alq]) (pS _ _)
 ·cases he
theorem z1 {s d:TypeId} (hs:(∃k,P.underlying s=some (.int k))\/P.underlying s=some .string) (hd:P.underlying d=some .string) {x:Operand} (hF:FR c w t a.tmps) (hM:MR c m w) {v:AV} {e:gk}
 (he:bq (.nz (bm x)) t m n=some (v,e)):fa P (do pure (.value (<-convert s d (a.eval x)))) c m n w v e:=by
 have hx:=bL hF x;simp only[bq]at he;split at he
 ·rename_i k2 p h1;rw[h1]at hx;cases he;have e1:=c6 hx;refine bH (u:=.string (Utf8.encode p)) hM ?_ (by simp[Rel,dS]);rw[e1];rcases hs with⟨k,hs⟩|hs<;>simp only[convert,alr,underlying,run_program,alp,hs,hd,Conv.intToString,alq]
 ·rename_i p h1;rw[h1]at hx;cases he;have e1:=gq hx;refine bH (u:=.string ⟨p.toArray⟩) hM ?_ (Bs _);rw[e1];rcases hs with⟨k,hs⟩|hs<;>simp only[convert,alr,underlying,run_program,alp,hs,hd,alq]
 ·cases he
theorem T8 {x:Operand} {i:Nat} (hF:FR c w t a.tmps) (hM:MR c m w) {v:AV} {e:gk} (he:bq (.ext (bm x) i) t m n=some (v,e)):
 fa P (do pure (.value (<-Instr.extract (a.eval x) i))) c m n w v e:=by
 have hx:=bL hF x;simp only[bq]at he;split at he
 ·rename_i vs h1;rw[h1]at hx;obtain⟨us,hu,hr⟩:=ZY hx;rw[alG]at he;obtain⟨v',hv,he⟩:=he;cases he;obtain⟨u,Z3,lJ⟩:=hr.get hv;refine bH (u:=u) hM ?_ lJ;rw[hu];simp only[Instr.extract,List.getElem?_toArray,Z3,alq]
 ·cases he
theorem QS {f:Nat} {caps:Array Operand} (hF:FR c w t a.tmps) (hM:MR c m w):
 fa P (do pure (.value (<-Instr.makeFunc (.func f) #[] (caps.map a.eval)))) c m n w (.fn f ((caps.toList.map bm).map (ev t))) .nil:=by
 refine bH (u:=.func (.func f) #[] (caps.map a.eval)) hM (by simp[Instr.makeFunc]) ?_
 simp only[Rel];exact⟨caps.toList.map a.eval,congrArg _ (Array.ext' (by simp)),tG hF _⟩
theorem Gt {x:AV} {v:Value} {l:Nat} (h:Rel c w x v) (hl:jV x=some l):∃p cap,v=.slice p l cap/\l<=cap:=by
 unfold jV at hl;split at hl<;>cases hl;·exact⟨_,_,lr h,ali _⟩
 ·simp only[Rel,dS]at h;obtain⟨p,cap,hv,hn,_⟩:=h;exact⟨p,cap,hv,hn⟩
 ·simp only[Rel]at h;rcases h with⟨_,_,rfl,_,hv⟩|⟨b,cap,n,_,hv,hn,_⟩;·exact⟨_,_,hv,ali _⟩
  ·exact⟨_,_,hv,hn⟩
 ·simp only[Rel]at h;obtain⟨a,cap,hv,_⟩:=h;exact⟨a,cap,hv,alZ _⟩
theorem IX {s:List UInt8} {i:Nat} {x:AV} (h:(nQ s)[i]?=some x):∃b,s[i]?=some b/\x=.d (.int .u8 b.toNat):=by
 unfold nQ at h;rw[List.getElem?_map,alG]at h;obtain⟨b,hb,rfl⟩:=h;exact⟨b,hb,rfl⟩
theorem B9 (s:List UInt8):bg c w (nQ s) (s.map λb=>.int .u8 b.toNat):=
 bg.sj (by simp[nQ]) λi x v hx hv=>by
  obtain⟨b,hb,rfl⟩:=IX hx;rw[List.getElem?_map,hb]at hv;cases hv;exact jI _ _
end
end Go.Jq
namespace Go.Jq
open Go
section
variable{P:Program} {c:Ctx} {m:Mem} {n:Nat} {w:World} {t:Fr} {a:Act}
theorem rP (op:BinOp) (T:TypeId) (x y:Operand) (p q:Option Addr):(eqGuard op T x y (.pointer p) (.pointer q)).run P w=.ok () w:=by
 unfold eqGuard;cases op<;>rfl
theorem IY {op:BinOp} {neg:Bool} (A9:(op=.eql/\neg=false)\/(op=.neq/\neg=true)) {T el:TypeId} (pU:P.underlying T=some (.pointer el)) {x y:Operand}
 (hF:FR c w t a.tmps) (hM:MR c m w) {v:AV} {e:gk} (he:bq (.TV neg (bm x) (bm y)) t m n=some (v,e)):
 fa P (do pure (.value (<-(do eqGuard op T x y (a.eval x) (a.eval y);binOp op T (a.eval x) (a.eval y))))) c m n w v e:=by
 simp only[bq,alG]at he;obtain⟨v',ZA,he⟩:=he;cases he;obtain⟨b,rfl,p,q,h1,h2,h3⟩:=ZZ (bL hF x) (bL hF y) ZA;have k1:(Op.equal T (.pointer p) (.pointer q)).run P w=.ok b w:=by
  unfold Op.equal;rw[show Op.maxDepth=9999+1 from rfl,Op.equalIn];simp only[alr,underlying,run_program,alp,pU];rcases h3 with⟨rfl,rfl⟩|⟨rfl,rfl⟩;·cases q<;>simp
  ·cases p<;>simp
 refine bH hM ?_ (lq _);rw[h1,h2];rcases A9 with⟨rfl,rfl⟩|⟨rfl,rfl⟩;·simp only[alr,rP,alp,binOp,k1,alq,Bool.bne_false]
 ·simp only[alr,rP,alp,binOp,k1,alq,Bool.bne_true]
theorem sy (op:BinOp) (T:TypeId) (x y:Operand) {u v:Value} (hu:u=.nilFunc\/∃f g h,u=.func f g h):(eqGuard op T x y u v).run P w=.ok () w:=by
 unfold eqGuard;rcases hu with rfl|⟨f,g,h,rfl⟩<;>cases op<;>cases v<;>rfl
theorem IZ {op:BinOp} {neg:Bool} (A9:(op=.eql/\neg=false)\/(op=.neq/\neg=true)) {T:TypeId} {pp rr:Array TypeId} {vv:Bool} (pU:P.underlying T=some (.func pp rr vv)) {x y:Operand}
 (hF:FR c w t a.tmps) (hM:MR c m w) {v:AV} {e:gk} (he:bq (.Zy neg (bm x) (bm y)) t m n=some (v,e)):
 fa P (do pure (.value (<-(do eqGuard op T x y (a.eval x) (a.eval y);binOp op T (a.eval x) (a.eval y))))) c m n w v e:=by
 simp only[bq,alG]at he;obtain⟨v',ZA,he⟩:=he;cases he;obtain⟨b,rfl,h⟩:=Z1 (bL hF x) (bL hF y) ZA;refine bH hM ?_ (lq _);rcases h with⟨h1,h2,rfl⟩|⟨f,g,k,h1,h2,rfl⟩|⟨f,g,k,h1,h2,rfl⟩
 all_goals
  rw[h1,h2];rcases A9 with⟨rfl,rfl⟩|⟨rfl,rfl⟩
  all_goals
   simp only[alr,sy _ _ _ _ (.inl rfl),sy _ _ _ _ (.inr ⟨_,_,_,rfl⟩),alp,binOp,Op.equal];rw[show Op.maxDepth=9999+1 from rfl,Op.equalIn];simp only[alr,underlying,run_program,alp,pU,alq];rfl
theorem z6 {s:TypeId} {fs:Array Field} {f off size:Nat} (hu:P.underlying s=some (.struct fs)) (hf:iu P fs f=some (off,size)) (hs:size≠0) (b o:Nat):
 (Instr.fieldAt s (.pointer (some ⟨b,o,none⟩)) f).run P w=.ok (.pointer (some ⟨b,o+off,none⟩)) w:=by
 unfold iu at hf;split at hf
 ·rename_i fd hfd;split at hf
  ·rename_i i hi;cases hf;simp only[Instr.fieldAt,alr,underlying,run_program,alp,hu,alq,hfd,Instr.sureAddr,fieldPlace,run_sizeOf hi,if_neg hs,addr_add]
  ·cases hf
 ·cases hf
theorem MB {s:TypeId} {fs:Array Field} {f off size:Nat} (hu:P.underlying s=some (.struct fs)) (hf:iu P fs f=some (off,size)) (hs:size≠0) {x:Operand}
 (hF:FR c w t a.tmps) (hM:MR c m w) {v:AV} {e:gk} (he:bq (.dI (bm x) off) t m n=some (v,e)):fa P (do pure (.value (<-Instr.fieldAt s (a.eval x) f))) c m n w v e:=by
 have hx:=bL hF x;simp only[bq]at he;split at he
 ·rename_i id o h1;rw[h1]at hx;cases he;obtain⟨b,hb,hv⟩:=tJ hx;exact bH hM (by rw[hv];exact z6 hu hf hs b o) (by simp only[Rel];exact⟨b,hb,rfl⟩)
 ·rename_i cs h1;rw[h1]at hx;cases he;obtain⟨b,o,hb,hv,hc⟩:=sx hx;exact bH hM (by rw[hv];exact z6 hu hf hs b o) (by simp only[Rel];exact⟨b,_,hb,rfl,hc.drop off⟩)
 ·cases he
theorem I0 {T:TypeId} {k:Option Nat} (hk:mV P T=some k) {cs:List AV} {us:List Value} (hr:bg c w cs us) {off:Nat} {v:AV} (hv:aN k (cs.drop off)=some v):
 ∃u,(part T us.toArray off).run P w=.ok u w/\Rel c w v u:=by
 rcases IP hk with⟨i,hi,rfl,pR⟩|⟨rfl,pR⟩
 ·simp only[aN]at hv;split at hv
  ·cases hv;refine⟨.agg ((us.drop off).take i.size).toArray,?_,by simp only[Rel];exact⟨_,rfl,(hr.drop off).take i.size⟩⟩;simp only[part,alr,pR,alp,if_true,run_sizeOf hi,alq]
   congr 2
   apply Array.ext';simp only[Array.toList_extract,List.extract_eq_take_drop];simp
  ·cases hv
 ·simp only[aN]at hv;obtain⟨u,hu,lJ⟩:=(hr.drop off).get hv;refine⟨u,?_,lJ⟩;have:us[off]?=some u:=by rw[<-hu,List.getElem?_drop];simp
  simp only[part,alr,pR,alp,aly,if_false,List.getElem?_toArray,this,alq]
theorem T9 {s:TypeId} {fs:Array Field} {f:Nat} {fd:Field} {k:Option Nat} (hu:P.underlying s=some (.struct fs)) (hf:fs[f]?=some fd) (hk:mV P fd.type=some k) {x:Operand}
 (hF:FR c w t a.tmps) (hM:MR c m w) {v:AV} {e:gk} (he:bq (.ZT (bm x) fd.offset k) t m n=some (v,e)):fa P (do pure (.value (<-Instr.field s (a.eval x) f))) c m n w v e:=by
 have hx:=bL hF x;simp only[bq]at he;split at he
 ·rename_i cs h1;rw[h1]at hx;rw[alG]at he;obtain⟨v',hv,he⟩:=he;cases he;obtain⟨us,Ek,hr⟩:=pd hx;obtain⟨u,Z3,lJ⟩:=I0 hk hr hv;exact bH hM (by rw[Ek];simp only[Instr.field,alr,underlying,run_program,alp,hu,alq,hf,asAgg,Z3]) lJ
 ·cases he
theorem I1 {T el:TypeId} {i':TypeInfo} (hu:P.underlying T=some (.slice el)) (gK:P.info? el=some i') {x i:Operand} (hF:FR c w t a.tmps) (hM:MR c m w) {v:AV} {e:gk}
 (he:bq (.cg i'.size none (bm x) (bm i)) t m n=some (v,e)):fa P (do pure (.value (<-Instr.indexAt T (a.eval x) (a.eval i)))) c m n w v e:=by
 have hx:=bL hF x;have hi:=bL hF i;simp only[bq]at he;split at he;·cases he
 ·cases he
 ·rename_i id e' off len k j h1 h2;rw[h1]at hx;rw[h2]at hi;split at he
  ·rename_i cW;obtain⟨_,rfl,h3,h4⟩:=cW;cases he;have e2:=c6 hi;simp only[Rel]at hx;rcases hx with⟨_,_,rfl,_⟩|⟨b,cap,N,hb,hv,hle,hN,hJ⟩;·omega
   ·refine bH (u:=.pointer (some ⟨b,off+j.toNat*i'.size,none⟩)) hM ?_ (by simp only[Rel];exact⟨b,hb,rfl⟩);rw[hv,e2];simp only[Instr.indexAt,alr,asIntOf,alq,alp,underlying,run_program,hu];rw[if_pos ⟨h3,h4⟩];simp only[alr,run_sizeOf gK,alp,alq,addr_add]
  ·cases he
 ·rename_i len cs k j h1 h2;rw[h1]at hx;rw[h2]at hi;split at he
  ·rename_i cW;obtain⟨_,h3,h4,h5⟩:=cW;cases he;have e2:=c6 hi;simp only[Rel,dS]at hx;obtain⟨p,cap,hv,hle,hx⟩:=hx;rcases hx with⟨rfl,_⟩|⟨b,o,rfl,hb,hc⟩;·omega
   ·refine bH (u:=.pointer (some ⟨b,o+j.toNat*i'.size,none⟩)) hM ?_ (by simp only[Rel];exact⟨b,_,hb,rfl,hc.drop _⟩);rw[hv,e2];simp only[Instr.indexAt,alr,asIntOf,alq,alp,underlying,run_program,hu];rw[if_pos ⟨h3,h4⟩];simp only[alr,run_sizeOf gK,alp,alq,addr_add]
  ·cases he
 ·cases he
theorem wx {T el len:Nat} {i':TypeInfo} (hu:P.underlying T=some (.array len el)) (gK:P.info? el=some i') (k:IntKind) (j:Int) (h:0<=j/\j<len) (b o:Nat):
 (Instr.indexAt T (.pointer (some ⟨b,o,none⟩)) (.int k j)).run P w=.ok (.pointer (some ⟨b,o+j.toNat*i'.size,none⟩)) w:=by
 simp only[Instr.indexAt,alr,asIntOf,alq,alp,underlying,run_program,hu,Instr.sureAddr];rw[if_pos h];simp only[alr,run_sizeOf gK,alp,alq,addr_add]
theorem I2 {T el len:Nat} {i':TypeInfo} (hu:P.underlying T=some (.array len el)) (gK:P.info? el=some i') {x i:Operand} (hF:FR c w t a.tmps) (hM:MR c m w) {v:AV} {e:gk}
 (he:bq (.cg i'.size (some len) (bm x) (bm i)) t m n=some (v,e)):fa P (do pure (.value (<-Instr.indexAt T (a.eval x) (a.eval i)))) c m n w v e:=by
 have hx:=bL hF x;have hi:=bL hF i;simp only[bq]at he;split at he
 ·rename_i id o k j h1 h2;rw[h1]at hx;rw[h2]at hi;split at he
  ·rename_i cW;cases he;obtain⟨b,hb,hv⟩:=tJ hx;have e2:=c6 hi;exact bH hM (by rw[hv,e2];exact wx hu gK k j cW b o) (by simp only[Rel];exact⟨b,hb,rfl⟩)
  ·cases he
 ·rename_i cs k j h1 h2;rw[h1]at hx;rw[h2]at hi;split at he
  ·rename_i cW;cases he;obtain⟨b,o,hb,hv,hc⟩:=sx hx;have e2:=c6 hi;exact bH hM (by rw[hv,e2];exact wx hu gK k j cW b o) (by simp only[Rel];exact⟨b,_,hb,rfl,hc.drop _⟩)
  ·cases he
 ·rename_i id e' off ajx k j h1 h2;split at he
  ·rename_i cW;obtain⟨h,_⟩:=cW;cases h
  ·cases he
 ·rename_i ajx cs k j h1 h2;split at he
  ·rename_i cW;obtain⟨h,_⟩:=cW;cases h
  ·cases he
 ·cases he
theorem QT {T:TypeId} (hu:P.underlying T=some .string) {x i:Operand} (hF:FR c w t a.tmps) (hM:MR c m w) {v:AV} {e:gk}
 (he:bq (.idxs (bm x) (bm i)) t m n=some (v,e)):fa P (do pure (.value (<-Instr.index T (a.eval x) (a.eval i)))) c m n w v e:=by
 have hx:=bL hF x;have hi:=bL hF i;simp only[bq]at he;split at he
 ·rename_i s k j h1 h2;rw[h1]at hx;rw[h2]at hi;split at he
  ·rename_i cW;cases he;have e1:=gq hx;have e2:=c6 hi;refine bH hM ?_ (jI _ _);have bn:j.toNat<s.length:=by omega
   have uu:(⟨s.toArray⟩:ByteArray)[j.toNat]?=some (s.getD j.toNat 0):=by
    have jH:j.toNat<(⟨s.toArray⟩:ByteArray).size:=by simpa[ByteArray.size]using bn
    rw[getElem?_pos (ByteArray.mk s.toArray) j.toNat jH]
    congr 1
    show s.toArray[j.toNat]=_;simp[bn]
   rw[e1,e2];simp only[Instr.index,alr,asIntOf,alq,alp,underlying,run_program,hu];rw[if_pos cW.1,uu];rfl
  ·cases he
 ·cases he
theorem QU {T el len:Nat} {i':TypeInfo} {k:Option Nat} (hu:P.underlying T=some (.array len el)) (gK:P.info? el=some i') (hk:mV P el=some k) {x i:Operand} (hF:FR c w t a.tmps) (hM:MR c m w)
 {v:AV} {e:gk} (he:bq (.Es len i'.size k (bm x) (bm i)) t m n=some (v,e)):fa P (do pure (.value (<-Instr.index T (a.eval x) (a.eval i)))) c m n w v e:=by
 have hx:=bL hF x;have hi:=bL hF i;simp only[bq]at he;split at he
 ·rename_i cs k' j h1 h2;rw[h1]at hx;rw[h2]at hi;split at he
  ·rename_i cW;rw[alG]at he;obtain⟨v',hv,he⟩:=he;cases he;obtain⟨us,Ek,hr⟩:=pd hx;have e2:=c6 hi;obtain⟨u,Z3,lJ⟩:=I0 hk hr hv;refine bH hM ?_ lJ;rw[Ek,e2];simp only[Instr.index,alr,asIntOf,alq,alp,underlying,run_program,hu];rw[if_pos cW];simp only[alr,run_sizeOf gK,alp,Z3]
  ·cases he
 ·cases he
theorem QV {T:TypeId} {ts:Array TypeId} {ty:TypeId} {x:Operand} (ht:ts.toList=[T]) (hu:P.underlying T=some .string)
 (hF:FR c w t a.tmps) (hM:MR c m w) {v:AV} {e:gk} (he:bq (.lens (bm x)) t m n=some (v,e)):fa P (do pure (.value (<-Builtin.len_ ts ty #[a.eval x]))) c m n w v e:=by
 have hx:=bL hF x;simp only[bq]at he;split at he
 ·rename_i s h1;rw[h1]at hx;cases he;have e1:=gq hx;have h0:ts[0]?=some T:=by rw[<-Array.getElem?_toList,ht];rfl
  refine bH hM ?_ (jI _ _);have jH:(ByteArray.mk s.toArray).size=s.length:=by show s.toArray.size=_;simp
  rw[e1];simp only[Builtin.len_,h0,List.getElem?_toArray,List.getElem?_cons_zero,alr,underlying,run_program,alp,hu,alq,goInt,jH]
 ·cases he
theorem QW {T el:TypeId} {ts:Array TypeId} {ty:TypeId} {x:Operand} (ht:ts.toList=[T]) (hu:P.underlying T=some (.slice el))
 (hF:FR c w t a.tmps) (hM:MR c m w) {v:AV} {e:gk} (he:bq (.B1 (bm x)) t m n=some (v,e)):fa P (do pure (.value (<-Builtin.len_ ts ty #[a.eval x]))) c m n w v e:=by
 have hx:=bL hF x;simp only[bq,alG]at he;obtain⟨l,hl,he⟩:=he;cases he;obtain⟨p,cap,hv,_⟩:=Gt hx hl;have h0:ts[0]?=some T:=by rw[<-Array.getElem?_toList,ht];rfl
 refine bH hM ?_ (jI _ _);rw[hv];simp[Builtin.len_,h0,underlying,hu,goInt]
theorem Ua {ts:Array TypeId} {ty:TypeId} {x y:Operand} (hF:FR c w t a.tmps) (hM:MR c m w) {v:AV} {e:gk} (he:bq (.yM (bm x) (bm y)) t m n=some (v,e)):
 fa P (do pure (.value (<-Builtin.min_ ts ty #[a.eval x,a.eval y]))) c m n w v e:=by
 have hx:=bL hF x;have hy:=bL hF y;simp only[bq]at he;split at he
 ·rename_i k p k' q h1 h2;rw[h1]at hx;rw[h2]at hy;cases he;have e1:=c6 hx;have e2:=c6 hy;exact bH hM (by rw[e1,e2];simp[Builtin.min_,Builtin.min2]) (jI _ _)
 ·cases he
theorem Ub {ts:Array TypeId} {ty:TypeId} {x y:Operand} (hF:FR c w t a.tmps) (hM:MR c m w) {v:AV} {e:gk} (he:bq (.wk (bm x) (bm y)) t m n=some (v,e)):
 fa P (do pure (.value (<-Builtin.max_ ts ty #[a.eval x,a.eval y]))) c m n w v e:=by
 have hx:=bL hF x;have hy:=bL hF y;simp only[bq]at he;split at he
 ·rename_i k p k' q h1 h2;rw[h1]at hx;rw[h2]at hy;cases he;have e1:=c6 hx;have e2:=c6 hy;exact bH hM (by rw[e1,e2];simp[Builtin.max_,Builtin.max2]) (jI _ _)
 ·cases he
end
end Go.Jq
namespace Go.Jq
open Go
section
variable{P:Program} {c:Ctx} {m:Mem} {n:Nat} {w:World} {t:Fr} {a:Act}
theorem mh {x:Value} {k:IntKind} {j:Int} (hx:x=.int k j) {y:Nat} (h:0<=j/\j.toNat<=y) (code:BoundsCode):(Instr.sliceBound x y code).run P w=.ok j.toNat w:=by
 subst hx;simp only[Instr.sliceBound,alr,asIntOf,alq,alp];rw[if_pos ⟨h.1,by omega⟩];rfl
theorem wy {x:Option Operand} {d b:Nat} (hF:FR c w t a.tmps) (h:IK ((x.map bm).map (ev t)) d=some b):
 (x=none/\b=d)\/∃y k j,x=some y/\a.eval y=.int k j/\0<=j/\j.toNat=b:=by
 cases x with
 |none=>simp only[Option.map_none,IK,alJ]at h;exact .inl ⟨rfl,h.symm⟩
 |some y=>
  have hy:=bL hF y;simp only[alX]at h;generalize pa:ev t (bm y)=av at h hy;unfold IK at h;split at h;·rename_i h0;cases h0
  ·rename_i k j h0;cases h0;split at h
   ·rename_i hj;cases h;exact .inr ⟨y,k,j,rfl,c6 hy,hj,rfl⟩
   ·cases h
  ·cases h
theorem nA {isSlice:Bool} {len cap l h:Nat} {lo hi:Option Operand}
 (hlo:(lo=none/\l=0)\/∃y k j,lo=some y/\a.eval y=.int k j/\0<=j/\j.toNat=l)
 (hhi:(hi=none/\h=len)\/∃y k j,hi=some y/\a.eval y=.int k j/\0<=j/\j.toNat=h) (hlh:l<=h) (hc:h<=cap):
 (Instr.sliceBounds isSlice len cap (lo.map a.eval) (hi.map a.eval) none).run P w=.ok (l,h,cap) w:=by
 unfold Instr.sliceBounds;rcases hhi with⟨rfl,rfl⟩|⟨y,k,j,rfl,hy,hj,rfl⟩
 ·rcases hlo with⟨rfl,rfl⟩|⟨y',k',j',rfl,Tu,A6,rfl⟩;·simp
  ·simp only[Option.map_none,alX,alD,alr,alq,alp,mh Tu ⟨A6,hlh⟩]
 ·rcases hlo with⟨rfl,rfl⟩|⟨y',k',j',rfl,Tu,A6,rfl⟩;·simp only[Option.map_none,alX,alr,alq,alp,mh hy ⟨hj,hc⟩]
  ·simp only[alX,alD,alr,alq,alp,mh hy ⟨hj,hc⟩,mh Tu ⟨A6,hlh⟩]
theorem z7 (s:List UInt8) (l h:Nat):(ByteArray.mk s.toArray).extract l h=⟨((s.take h).drop l).toArray⟩:=by
 apply ByteArray.ext;rw[ByteArray.data_extract];apply Array.ext';simp only[Array.toList_extract,List.extract_eq_take_drop];rw[List.drop_take]
theorem QX {T:TypeId} (hu:P.underlying T=some .string) {x:Operand} {lo hi:Option Operand} (hF:FR c w t a.tmps) (hM:MR c m w) {v:AV} {e:gk}
 (he:bq (.yL (bm x) (lo.map bm) (hi.map bm)) t m n=some (v,e)):fa P (do pure (.value (<-Instr.sliceAt T (a.eval x) (lo.map a.eval) (hi.map a.eval) none))) c m n w v e:=by
 have hx:=bL hF x;simp only[bq]at he;split at he
 ·rename_i s h1;rw[h1]at hx;have e1:=gq hx;split at he
  ·rename_i l h hl hh;split at he
   ·rename_i cW;cases he;have jH:(ByteArray.mk s.toArray).size=s.length:=by show s.toArray.size=_;simp
    have hb:=nA (P:=P) (w:=w) (isSlice:=false) (cap:=s.length) (wy hF hl) (wy hF hh) cW.1 cW.2;refine bH (u:=.string ⟨((s.take h).drop l).toArray⟩) hM ?_ (Bs _);rw[e1];simp only[Instr.sliceAt,alr,underlying,run_program,alp,hu,Instr.slice,alD,aly,if_false,alq,jH,hb,z7]
   ·cases he
  ·cases he
 ·cases he
theorem QY {T el:TypeId} {i:TypeInfo} (hu:P.underlying T=some (.slice el)) (gK:P.info? el=some i) {x:Operand} {lo hi:Option Operand} (hF:FR c w t a.tmps) (hM:MR c m w) {v:AV} {e:gk}
 (he:bq (.uZ i.size (bm x) (lo.map bm) (hi.map bm)) t m n=some (v,e)):fa P (do pure (.value (<-Instr.sliceAt T (a.eval x) (lo.map a.eval) (hi.map a.eval) none))) c m n w v e:=by
 have hx:=bL hF x;simp only[bq]at he;split at he
 ·rename_i len hlen;obtain⟨p,cap,hv,hle⟩:=Gt hx hlen;split at he
  ·rename_i l h hl hh;rw[alG]at he;obtain⟨v',iw,he⟩:=he;cases he;have dJ:l<=h->h<=len->(do pure (.value (<-Instr.sliceAt T (a.eval x) (lo.map a.eval) (hi.map a.eval) none)):Sem Next).run P w=.ok (.value (.slice (if cap=l then p else p.map (·.add (l*i.size))) (h-l) (cap-l))) w:=by
    intro h1 h2;have hb:=nA (P:=P) (w:=w) (isSlice:=true) (cap:=cap) (wy hF hl) (wy hF hh) h1 (Nat.le_trans h2 hle);rw[hv];simp only[Instr.sliceAt,alr,underlying,run_program,alp,hu,Instr.slice,hb,run_sizeOf gK,alq]
   unfold aeC at iw;split at iw
   ·rename_i pa;split at iw
    ·rename_i cW;obtain⟨rfl,rfl⟩:=cW;cases iw;rw[pa]at hx;have:=lr hx;rw[this]at hv;cases hv;refine⟨_,w,c,dJ (ali _) (alZ _),.inl ⟨_,rfl,?_⟩,hM,Step.refl _ _ _,λ_ _=>rfl,λ_ h=>.inl h⟩;simp[Rel,dS]
    ·cases iw
   ·rename_i n' cells pa;rw[pa]at hx hlen;simp only[jV,alJ]at hlen;split at iw
    ·rename_i cW;obtain⟨h1,h2,_⟩:=cW;cases iw;refine⟨_,w,c,dJ h1 (by omega),.inl ⟨_,rfl,?_⟩,hM,Step.refl _ _ _,λ_ _=>rfl,λ_ h=>.inl h⟩;simp only[Rel,dS]at hx⊢;obtain⟨p',Ca,Ek,I3,hx⟩:=hx;rw[Ek]at hv;cases hv;refine⟨_,_,rfl,by omega,?_⟩;by_cases h0:h-l=0;·left;exact⟨h0,by simp[h0]⟩
     ·right;rcases hx with⟨h3,_⟩|⟨b,o,rfl,hb,hc⟩;·omega
      ·refine⟨b,o+l*i.size,?_,hb,(hc.drop _).take _⟩;rw[if_neg (by omega)];simp[addr_add]
    ·cases iw
   ·rename_i id e' off n' pa;rw[pa]at hx hlen;simp only[jV,alJ]at hlen;split at iw
    ·rename_i cW;obtain⟨rfl,_,h1,h2⟩:=cW;refine⟨_,w,c,dJ h1 (by omega),.inl ⟨_,rfl,?_⟩,hM,Step.refl _ _ _,λ_ _=>rfl,λ_ h=>.inl h⟩;simp only[Rel]at hx;split at iw
     ·rename_i h0;subst h0;cases iw;simp only[Rel];rcases hx with⟨h3,h4,h5,a0,h6⟩|⟨b,Ca,N,hb,Ek,I3,hN,hJ⟩
      ·left;rw[h6]at hv;cases hv;refine⟨h3,h4,by omega,p,?_⟩;rw[if_pos (by omega)];simp;omega
      ·right;rw[Ek]at hv;cases hv;refine⟨b,cap,N,hb,?_,by omega,hN,hJ⟩;simp[addr_add]
     ·rename_i h0;split at iw
      ·rename_i h3;cases iw;simp only[Rel,dS];exact⟨_,_,by rw[show h-l=0 by omega],by omega,.inl ⟨trivial,trivial⟩⟩
      ·cases iw;simp only[Rel];rcases hx with⟨_,_,h5,_⟩|⟨b,Ca,N,hb,Ek,I3,hN,hJ⟩;·omega
       ·right;rw[Ek]at hv;cases hv;refine⟨b,cap-l,N,hb,?_,by omega,hN,?_⟩
        ·rw[if_neg (by omega)];simp[addr_add]
        ·have:l*i.size+(cap-l)*i.size=cap*i.size:=by rw[<-Nat.add_mul];congr 1;omega
         omega
    ·cases iw
   ·cases iw
  ·cases he
 ·cases he
theorem yP {y:AV} {dR k:Nat} {new:List AV} (h:fI m dR y=some (k,new)):new.length=k*dR:=by
 unfold fI at h;split at h;·cases h;simp
 ·split at h;·cases h;simpa
  ·cases h
 ·split at h;·rename_i h1;cases h;subst h1;simp[nQ]
  ·cases h
 ·cases h;simp
 ·split at h
  ·split at h
   ·rename_i h1;cases h;rw[List.length_take,List.length_drop];omega
   ·cases h
  ·cases h
 ·cases h
theorem yQ {y:AV} {dR k:Nat} {new:List AV} (h:fI m dR y=some (k,new)):new.all mf=true:=by
 unfold fI at h;split at h;·cases h;rfl
 ·split at h;·cases h;simp[mf]
  ·cases h
 ·split at h;·cases h;simp[nQ,mf]
  ·cases h
 ·cases h;rfl
 ·split at h
  ·split at h
   ·rename_i h1;cases h;exact h1.2.2
   ·cases h
  ·cases h
 ·cases h
theorem yR {y:AV} {v:Value} {dR k:Nat} {new:List AV} (hy:Rel c w y v) (hM:MR c m w) (h:fI m dR y=some (k,new)):
 (∀w',(Builtin.lenOf v).run P w'=.ok k w')/\∃us:List Value,bg c w new us/\∀w',w'.heap=w.heap->(Builtin.firstCells dR k v).run P w'=.ok us.toArray w':=by
 have hlen:=yP h;have ab8:∀(b o:Nat) (us:List Value),us.length=k*dR->(∀j u,us[j]?=some u->w.cell? ⟨b,o+j,none⟩=some u)->∀w',w'.heap=w.heap->(loadCells ⟨b,o,none⟩ (k*dR)).run P w'=.ok us.toArray w':=by
  intro b o us hl hc w' hw;rw[<-hl];exact run_loadCells P w' b o us λj u hj=>by
   have:=hc j u hj;simpa[World.cell?,hw]using this
 unfold fI at h;split at h
 ·cases h;have:=lr hy;subst this;exact⟨λ_=>rfl,[],by simp[bg],λ_ _=>rfl⟩
 ·rename_i n' cells;split at h
  ·rename_i v8;cases h;simp only[Rel,dS]at hy;obtain⟨p,cap,rfl,_,hy⟩:=hy;refine⟨λ_=>rfl,?_⟩;rcases hy with⟨rfl,rfl⟩|⟨b,o,rfl,hb,hc⟩
   ·refine⟨[],by simp[bg],λw' _=>?_⟩;cases p with
    |none=>rfl
    |some p=>simp[Builtin.firstCells,loadCells,loadCellsFrom]
   ·obtain⟨us,hl,cq,hr⟩:=qH (wu hc) cells.length (by simp);rw[alx (by simp)]at hr;exact⟨us,hr,λw' hw=>ab8 b o us (by omega) cq w' hw⟩
  ·cases h
 ·rename_i s;split at h
  ·rename_i h1;subst h1;cases h;have:=gq hy;subst this;refine⟨λw'=>?_,s.map λb=>.int .u8 b.toNat,B9 s,λw' _=>?_⟩
   ·have jH:(ByteArray.mk s.toArray).size=s.length:=by show s.toArray.size=_;simp
    simp only[Builtin.lenOf,jH,alq]
   ·have:=z7 s 0 s.length;simp only[Builtin.firstCells,this,alq]
    congr 1
    apply Array.ext';simp
  ·cases h
 ·cases h;simp only[Rel]at hy;obtain⟨p,cap,rfl,_⟩:=hy;refine⟨λ_=>rfl,[],by simp[bg],λw' _=>?_⟩;cases p with
  |none=>rfl
  |some p=>simp[Builtin.firstCells,loadCells,loadCellsFrom]
 ·rename_i id e' off len;split at h
  ·rename_i cs cq;split at h
   ·rename_i cW;obtain⟨rfl,hle,_⟩:=cW;cases h;simp only[Rel]at hy;rcases hy with⟨_,rfl,rfl,a0,rfl⟩|⟨b,cap,N,hb,rfl,_⟩;·exact⟨λ_=>rfl,[],by simp[bg],λ_ _=>by cases a0<;>simp[Builtin.firstCells,loadCells,loadCellsFrom]⟩
    ·refine⟨λ_=>rfl,?_⟩;obtain⟨us,hl,lO,hr⟩:=qH (o9 hM cq hb off) (k*e') (by rw[List.length_drop];omega);exact⟨us,hr,λw' hw=>ab8 b off us hl lO w' hw⟩
   ·cases h
  ·cases h
 ·cases h
theorem sA:∀{cs:List AV} {s:List UInt8} {us:List Value},bg c w cs us->gX cs=some s->∃ns:List Int,us=ns.map (Value.int .u8)/\s=ns.map λn=>UInt8.ofNat n.toNat
 | [],s,us,hr,h=>by
   simp only[bg]at hr;simp only[gX,alJ]at h;subst hr h;exact⟨[],rfl,rfl⟩
 |x::cs,s,us,hr,h=>by
  simp only[bg]at hr;obtain⟨v,vs,rfl,hv,hr⟩:=hr;unfold gX at h;split at h;·rename_i h0;cases h0
  ·rename_i k r h0;cases h0;rw[alG]at h;obtain⟨s',ny,rfl⟩:=h;obtain⟨ns,rfl,rfl⟩:=sA hr ny;have:=c6 hv;subst this;exact⟨k::ns,rfl,rfl⟩
  ·cases h
theorem Et (f:Value->ByteArray->Sem (ForInStep ByteArray)) (hf:∀n s,f (.int .u8 n) s=pure (ForInStep.yield (s.push (UInt8.ofNat n.toNat)))) (ns:List Int) (w:World):∀(acc:ByteArray),
 (forIn (ns.map (Value.int .u8)) acc f:Sem ByteArray).run P w=.ok ⟨acc.data++(ns.map λn=>UInt8.ofNat n.toNat).toArray⟩ w:=by
 induction ns with
 |nil=>intro acc;simp
 |cons k ns ih=>
  intro acc;simp only[alz,List.forIn_cons,alr,hf,alq,alp,ih]
  congr 2
  apply Array.ext';simp[ByteArray.data_push]
theorem QZ {s d el:TypeId} (hs:P.underlying s=some (.slice el)) (pU:P.underlying el=some (.int .u8)) (hd:P.underlying d=some .string) {x:Operand} (hF:FR c w t a.tmps) (hM:MR c m w) {v:AV} {e:gk}
 (he:bq (.yK (bm x)) t m n=some (v,e)):fa P (do pure (.value (<-convert s d (a.eval x)))) c m n w v e:=by
 have hx:=bL hF x;simp only[bq]at he;split at he;·cases he
 rename_i ajy;split at he
 ·rename_i k cs cq;rw[alG]at he;obtain⟨bs,Z4,he⟩:=he;cases he;obtain⟨hl,us,hr,IG⟩:=yR (P:=P) hx hM cq;have hf:=IG w rfl;obtain⟨ns,rfl,rfl⟩:=sA hr Z4;have hlen:∃p cap,a.eval x=.slice p k cap:=by
   cases pa:ev t (bm x)with
   |d y=>
    rw[pa]at hx cq;cases y with
    |ct=>have:=lr hx;simp only[fI,alJ,ama]at cq;rw[this,<-cq.1];exact⟨_,_,rfl⟩
    |sl n' cells=>
     simp only[fI]at cq;split at cq
     ·cases cq;simp only[Rel,dS]at hx;obtain⟨p,cap,hv,_⟩:=hx;exact⟨p,cap,hv⟩
     ·cases cq
    |str s=>exact(ajy s pa).elim
    |_=>simp[fI]at cq
   |sl id e' off len=>
    rw[pa]at hx cq;simp only[fI]at cq;split at cq
    ·split at cq
     ·cases cq;simp only[Rel]at hx;rcases hx with⟨_,_,rfl,_,hv⟩|⟨b,cap,N,_,hv,_⟩;·exact⟨_,_,hv⟩
      ·exact⟨_,_,hv⟩
     ·cases cq
    ·cases cq
   |Bo z=>
    rw[pa]at cq hx;simp only[fI,alJ,ama]at cq;obtain⟨rfl,_⟩:=cq;simp only[Rel]at hx;obtain⟨p,cap,hv,_⟩:=hx;exact⟨p,cap,hv⟩
   |_=>rw[pa]at cq;simp[fI]at cq
  obtain⟨p,cap,hv⟩:=hlen;rw[hv]at hf;refine bH (u:=.string ⟨(ns.map λn=>UInt8.ofNat n.toNat).toArray⟩) hM ?_ (Bs _);have agw:(convert s d (.slice p k cap)).run P w=(Conv.bytesToString (.slice p k cap)).run P w:=by
   simp only[convert,alr,underlying,run_program,alp,hs,hd,alq];cases p<;>simp[pU]
  rw[hv,agw];cases p with
  |none=>
   simp only[Builtin.firstCells,alq,Result.ok.injEq,and_true]at hf;have:ns=[]:=by
    have h1:=congrArg Array.size hf;simp at h1;exact amb h1.symm
   subst this;rfl
  |some p=>
   simp only[Builtin.firstCells,alV]at hf;simp only[Conv.bytesToString,alr,hf,alp,List.forIn_toArray];rw[Et (P:=P) _ (λ_ _=>rfl) ns w ByteArray.empty];simp only[alp,alq]
   congr 3
   simp
 ·cases he
end
end Go.Jq
namespace Go.Jq
open Go
section
variable{P:Program} {c:Ctx} {m:Mem} {n:Nat} {w:World} {t:Fr} {a:Act}
theorem MC {w:World} {b k:Nat} {arr:Array Value} {T:TypeId} (h:w.heap[b]?=some (.cells arr T (0,0))):
 (w.freeze ⟨b,k,none⟩ 1).heap[b]?=some (.cells arr T (k,k+1)):=by
 simp[World.freeze,Array.getElem?_modify,h]
theorem wz {w:World} {b k j:Nat} (h:j≠b):(w.freeze ⟨b,k,none⟩ 1).heap[j]?=w.heap[j]?:=by
 simp only[World.freeze];rw[if_neg (by omega)];simp only[Array.getElem?_modify];rw[if_neg (Ne.symm h)]
theorem z8 {w:World} {b k:Nat}:(w.freeze ⟨b,k,none⟩ 1).heap.size=w.heap.size:=by
 simp only[World.freeze];rw[if_neg (by omega)];simp
theorem Aa {w:World} {b k:Nat}:(w.freeze ⟨b,k,none⟩ 1).os=w.os/\(w.freeze ⟨b,k,none⟩ 1).tape=w.tape/\(w.freeze ⟨b,k,none⟩ 1).output=w.output:=by
 simp only[World.freeze];rw[if_neg (by omega)];exact⟨rfl,rfl,rfl⟩
theorem wA (s:List UInt8) (T:TypeId) (w:World):
 ∃w' arr rest cap,(Conv.stringToBytes T ⟨s.toArray⟩).run P w=.ok (.slice (some ⟨w.heap.size,0,none⟩) s.length cap) w'/\lN w w' arr T (arr.size,arr.size+1)/\
  arr.toList=(s.map λb=>Value.int .u8 b.toNat)++rest/\s.length<=cap/\arr.size=cap:=by
 have jH:(ByteArray.mk s.toArray).size=s.length:=by show s.toArray.size=_;simp
 generalize hJ:Question.cut (.appendCap s.length 0 T) (w.tape w.drawn (.appendCap s.length 0 T))=cap;have hle:s.length<=cap:=by rw[<-hJ];simp only[Question.cut];omega
 generalize pV:(ByteArray.mk s.toArray).data.map (λb=>Value.int .u8 b.toNat)++Array.replicate (cap-s.length) (.int .u8 0)=arr;have tK:arr.toList=(s.map λb=>Value.int .u8 b.toNat)++alA (cap-s.length) (.int .u8 0):=by rw[<-pV];simp
 have ajz:arr.size=cap:=by rw[<-Array.length_toList,tK];simp;omega
 have qC:(w.drew.alloc (.cells arr T)).heap[w.heap.size]?=some (.cells arr T (0,0)):=by
  have:=(e7 w.drew arr T).row;simpa using this
 refine⟨(w.drew.alloc (.cells arr T)).freeze ⟨w.heap.size,arr.size,none⟩ 1,arr,alA (cap-s.length) (.int .u8 0),cap,?_,?_,tK,hle,ajz⟩
 ·have O8:(w.drew.alloc (.cells arr T)).shape? w.heap.size=some (T,arr.size):=by simp only[World.shape?,qC]
  simp only[Conv.stringToBytes,alr,run_choose,jH,Question.forced,aly,if_false,hJ,World.drew_eq,alp,newRow,pV,run_newObj,World.alloc_eq,World.size_drew,alq,
   markStringish,run_shape,O8,run_freeze]
 ·obtain⟨h1,h2,h3⟩:=@Aa (w.drew.alloc (.cells arr T)) w.heap.size arr.size;refine⟨h1,h2,h3,?_,λk hk=>?_,MC qC⟩;·rw[z8];simp
  ·rw[wz (by omega)];exact(e7 w.drew arr T).old k (by simpa using hk)
theorem Q0 {s d el:TypeId} (hs:P.underlying s=some .string) (hd:P.underlying d=some (.slice el)) (pU:P.underlying el=some (.int .u8)) {x:Operand} (hF:FR c w t a.tmps) (hM:MR c m w) (hn:c.φ n=.free) {v:AV} {e:gk}
 (he:bq (.Gs (bm x)) t m n=some (v,e)):fa P (do pure (.value (<-convert s d (a.eval x)))) c m n w v e:=by
 have hx:=bL hF x;simp only[bq]at he;split at he
 ·rename_i bs h1;rw[h1]at hx;cases he;have e1:=gq hx;obtain⟨w',arr,rest,cap,dJ,fw,tK,hle,jH⟩:=wA (P:=P) bs el w;refine sq (u:=.slice (some ⟨w.heap.size,0,none⟩) bs.length cap) hM hn ?_ fw (.inr (ali _)) tK (B9 bs) ?_
  ·rw[e1];simp only[convert,alr,underlying,run_program,alp,hs,hd,alq,pU,dJ]
  ·simp only[Rel];exact .inr ⟨w.heap.size,cap,(_,arr.size),Ctx.bind_eq,rfl,hle,ca fw.row,by omega⟩
 ·cases he
theorem I4 {w:World} {b k:Nat} {arr:Array Value} {T:TypeId} {f:Nat×Nat} (h:w.heap[b]?=some (.cells arr T f)):
 (w.freeze ⟨b,k,none⟩ 1).heap[b]?=some (.cells arr T (if f.1==f.2 then(k,k+1)else(min f.1 k,max f.2 (k+1)))):=by
 obtain⟨lo,hi⟩:=f;simp only[World.freeze];rw[if_neg (by omega)];simp only[Array.getElem?_modify,if_true,h,alX]
theorem Q1 {s el:TypeId} (hs:P.underlying s=some (.slice el)) (pU:P.underlying el=some (.int .u8)) {x:Operand} (hF:FR c w t a.tmps) (hM:MR c m w) {v:AV} {e:gk}
 (he:bq (.B0 (bm x)) t m n=some (v,e)):fa P (do pure (.value (<-convert s s (a.eval x)))) c m n w v e:=by
 have hx:=bL hF x;simp only[bq]at he;split at he
 ·rename_i id e' off len h1;rw[h1]at hx;split at he
  ·rename_i cs cq;split at he;·cases he
   ·rename_i hl;cases he;have hx':=hx;simp only[Rel]at hx;rcases hx with⟨_,_,h2,_⟩|⟨b,cap,N,hb,hv,hle,hN,hJ⟩;·exact absurd h2 hl
    ·rcases hM.own id cs cq with⟨h0,_⟩|⟨b',arr,T,f,gi,jj,hw,hf,vs,rest,ha,hr⟩|⟨_,_,_,h0,_⟩
     rotate_left 2
     ·rw[h0]at hb;cases hb
     ·rw[h0]at hb;cases hb
     ·rw[gi]at hb;cases hb;have pQ:=@I4 w b arr.size arr T f hw;have wv:B3 w (w.freeze ⟨b,arr.size,none⟩ 1) b arr T (if f.1==f.2 then(arr.size,arr.size+1)else(min f.1 arr.size,max f.2 (arr.size+1))):=by
       obtain⟨q1,q2,q3⟩:=@Aa w b arr.size;exact⟨q1,q2,q3,z8,λk hk=>wz hk,pQ⟩
      have hf':Gr arr.size (if f.1==f.2 then(arr.size,arr.size+1)else(min f.1 arr.size,max f.2 (arr.size+1))):=by
       split;·exact .inr (ali _)
       ·rename_i pe;rcases hf with h3|h3;·simp[h3]at pe
        ·exact .inr (by simp only;omega)
      have ow:∀k q,dP w k=some q->dP (w.freeze ⟨b,arr.size,none⟩ 1) k=some q:=λk q hq=>by
       by_cases ek:k=b;·subst ek;rw[ca hw]at hq;rw[ca pQ];exact hq
       ·rw[iA (wv.other k ek)];exact hq
      have uv:jP c c w (w.freeze ⟨b,arr.size,none⟩ 1):=⟨λ_ h=>h,λk hk=>wv.other k λek=>jj (ek▸hk),λ_ _=>rfl,ow⟩;have yS:iV c m b:=⟨id,by rw[cq];rfl,j7.jU gi⟩;refine⟨.value (a.eval x),w.freeze ⟨b,arr.size,none⟩ 1,c,?_,.inl ⟨_,rfl,oo uv _ _ hx'⟩,?_,?_,λ_ _=>rfl,λ_ h=>.inl h⟩
      ·rw[hv];have O8:w.shape? b=some (T,arr.size):=by simp only[World.shape?,hw]
       simp only[convert,alr,underlying,run_program,alp,hs,alq,pU,BEq.rfl,markStringish,run_shape,O8,run_freeze]
      ·refine⟨λi cells hi=>?_,hM.inj,λk hk=>by rw[wv.size];exact hM.dY k hk,hM.o7 uv.dY uv.same⟩;by_cases B4:(c.φ i).bk=some b
       ·have:i=id:=hM.inj i id b (by simp only[gk.mem]at hi;rw[hi];rfl) (by rw[cq];rfl) B4 (j7.jU gi);subst this;simp only[gk.mem]at hi;rw[cq]at hi;cases hi;exact .inr (.inl ⟨b,arr,T,_,gi,jj,pQ,hf',vs,rest,ha,gn uv _ _ hr⟩)
       ·exact(hM.own i cells hi).later uv λk hk=>⟨wv.other k λek=>B4 (ek▸hk),λMv=>hM.sep Mv ⟨i,by simp only[gk.mem]at hi;rw[hi];rfl,hk⟩⟩
      ·exact⟨wv.os,wv.tape,wv.output,by rw[wv.size];exact ali _,λk _ hk=>wv.other k λek=>hk (ek▸yS),ow,λ_ h=>h,λ_ h=>.inl h⟩
  ·cases he
 ·cases he
theorem wB {x:Int} (h:0<=x) (h':x<=9223372036854775807):alv.wrap x=x:=by
 unfold IntKind.wrap;have hb:alv.bits=64:=rfl;have hs:alv.signed=true:=rfl;simp only[hb,hs,Bool.true_and];have agx:x%2^64=x:=Int.emod_eq_of_lt h (by omega);rw[agx];have:¬(x≥2^(64-1)):=by
  have h2:(2:Int)^(64-1)=9223372036854775808:=by decide
  rw[h2];omega
 rw[if_neg (by simpa using this)]
theorem Q3 {T el:TypeId} {i:TypeInfo} {z:List AV} (hu:P.underlying T=some (.slice el)) (hi:P.info? el=some i) (hz:zeroOf P el=some z) (hz0:z.length≠0) {x y:Operand}
 (hF:FR c w t a.tmps) (hM:MR c m w) (hn:c.φ n=.free) {v:AV} {e:gk} (he:bq (.Er i.size i.bytes z (bm x) (bm y)) t m n=some (v,e)):
 fa P (do pure (.value (<-Instr.makeSlice T (a.eval x) (a.eval y)))) c m n w v e:=by
 have hx:=bL hF x;have hy:=bL hF y;simp only[bq]at he;split at he
 ·rename_i p q h1 h2;rw[h1]at hx;rw[h2]at hy;have e1:=c6 hx;have e2:=c6 hy;split at he
  ·rename_i cW;obtain⟨hp,hpq,hb,hq⟩:=cW;cases he;obtain⟨zv,IQ,hzz⟩:=sv (w:=w) hz;have hzr:bg c w z zv.cells.toList:=by rw[hzz];exact iB _
   have ur:=hzr.length;have hzs:zv.cells.size=z.length:=by simpa using ur
   have hle:p.toNat*i.size<=q.toNat*i.size:=Nat.mul_le_mul_right _ (by omega);refine sq (u:=.slice (some ⟨w.heap.size,0,none⟩) p.toNat q.toNat) hM hn (T:=el) (arr:=(Array.range (q.toNat*i.size)).map λj=>zv.cells[j%zv.cells.size]!) ?_ (e7 w _ el) (iO _)
    (vs:=(alI (p.toNat*i.size)).map λj=>zv.cells.toList.toArray[j%zv.cells.toList.length]!)
    (rest:=((alI (q.toNat*i.size)).drop (p.toNat*i.size)).map λj=>zv.cells[j%zv.cells.size]!) ?_ (u6 hzr _ (.inr hz0)) ?_
   ·have qC:=wB hp (Int.le_trans hpq hq);have wC:=wB (Int.le_trans hp hpq) hq;rw[e1,e2];simp only[Instr.makeSlice,alr,underlying,run_program,alp,hu,alq,asInt,asIntOf,typeInfo,hi,qC,wC];have wD:((decide (q<0)||decide ((i.bytes:Int)*q>2^48))||decide (p<0)||decide (p>q))=false:=by
     have:¬((i.bytes:Int)*q>2^48):=by omega
     simp;omega
    rw[if_neg (by rw[wD];simp)];simp only[alr,run_askRoom,alp,run_sizeOf hi];by_cases h0:q.toNat*i.size=0
    ·rw[if_pos h0];simp only[alr,alq,alp,newRow,run_newObj,World.alloc_eq,h0,show Array.range 0=#[] from rfl,Array.map_empty]
    ·rw[if_neg h0];simp only[alr,IQ,alq,alp,newRow,run_newObj,World.alloc_eq]
   ·simp only[Array.toList_map,Array.toList_range,Array.toArray_toList,Array.length_toList];rw[<-al1]
    congr 1
    have:=List.take_append_drop (p.toNat*i.size) (alI (q.toNat*i.size));rw[List.take_range,Nat.min_eq_left hle]at this;exact this.symm
   ·simp only[Rel];refine .inr ⟨w.heap.size,q.toNat,(el,q.toNat*i.size),Ctx.bind_eq,rfl,by omega,?_,by omega⟩;rw[ca (e7 w _ el).row];simp
  ·cases he
 ·cases he
structure aeG (P:Program) (ts:Array TypeId) (el:TypeId) (i:TypeInfo):Prop where
 s:∃sT,ts[0]?=some sT/\P.underlying sT=some (.slice el)
 x:∃xT u,ts[1]?=some xT/\P.underlying xT=some u/\(∀k,u≠.int k)
 hi:P.info? el=some i
 z:∃zv,i.zero=some zv/\zv.cells.size=i.size
theorem MD {xT:TypeId} {u:TypeDesc} (hu:P.underlying xT=some u) (pe:∀k,u≠.int k):
 ((do pure ((<-underlying xT)matches .int _)):Sem Bool).run P w=.ok false w:=by
 simp only[underlying,alr,run_program,alp,hu,alq]
theorem gM {ts:Array TypeId} {el ty:TypeId} {i:TypeInfo} (hT:aeG P ts el i) {base:Option Addr} {sLen cap k:Nat} {x:Value} {us:List Value} {w':World}
 (hl:∀w',(Builtin.lenOf x).run P w'=.ok k w') (hf:(Builtin.firstCells i.size k x).run P w=.ok us.toArray w) (hle:sLen+k<=cap)
 (nB:(match base with|some a=>storeCells (a.add (sLen*i.size)) us|none=>pure ()).run P w=.ok () w'):
 (Builtin.append_ ts ty #[.slice base sLen cap,x]).run P w=.ok (.slice base (sLen+k) cap) w':=by
 obtain⟨⟨sT,h0,hs⟩,⟨xT,u,h1,hu,pe⟩,hi,z,hz,hzs⟩:=hT;have jj:=MD (P:=P) (w:=w) hu pe;simp only[Builtin.append_,h0,h1,List.getElem?_toArray,List.getElem?_cons_zero,List.getElem?_cons_succ,alr,underlying,run_program,alp,hs,alq,run_sizeOf hi];simp only[underlying,alr,run_program,alp,hu,alq]at jj;cases u<;>first
  |exact absurd rfl (pe _)
  |(simp only[hu,alq,alr,alp,hl,aly,if_false]
    rw[if_pos hle];simp only[al7,if_true,alr,hf,alp];cases base with
    |none=>simp only[alq,Result.ok.injEq,true_and]at nB;subst nB;rfl
    |some b=>simp only[alr,nB,alp,alq])
theorem run_append_grow {ts:Array TypeId} {el ty:TypeId} {i:TypeInfo} (hT:aeG P ts el i) {base:Option Addr} {sLen cap k:Nat} {x:Value} {vs us:List Value}
 (hl:∀w',(Builtin.lenOf x).run P w'=.ok k w') (hf:∀w',w'.heap=w.heap->(Builtin.firstCells i.size k x).run P w'=.ok us.toArray w')
 (ho:∀w',w'.heap=w.heap->(Builtin.firstCells i.size sLen (.slice base sLen cap)).run P w'=.ok vs.toArray w')
 (hle:cap<sLen+k) (hb:(sLen+k)*i.bytes<=140737488351232) (h63:sLen+k<=9223372036854775807) (B6:vs.length=sLen*i.size) (A7:us.length=k*i.size):
 ∃w' arr rest sB,(Builtin.append_ ts ty #[.slice base sLen cap,x]).run P w=.ok (.slice (some ⟨w.heap.size,0,none⟩) (sLen+k) sB) w'/\lN w w' arr el (0,0)/\
  arr.toList=(vs++us)++rest/\sLen+k<=sB/\arr.size=sB*i.size:=by
 obtain⟨⟨sT,h0,hs⟩,⟨xT,u,h1,hu,pe⟩,hi,z,hz,hzs⟩:=hT;generalize hJ:Question.cut (.appendCap (sLen+k) cap el) (w.tape w.drawn (.appendCap (sLen+k) cap el))=sB;have hnc:sLen+k<=sB:=by rw[<-hJ];simp only[Question.cut];omega
 have sC:¬(Builtin.nextslicecap (sLen+k) cap*i.bytes>2^48):=by
  have:=growslice_fits (need:=sLen+k) (old:=cap) (bytes:=i.bytes) hle (by omega);omega
 have Z5:¬(((sLen+k:Nat):Int)>alv.max/\((false:Bool)=true\/i.bytes=0)):=by
  have:alv.max=9223372036854775807:=by rfl
  rw[this];omega
 generalize rQ:Builtin.zeroCells z.cells (sB-(sLen+k))=rest;have pC:rest.size=(sB-(sLen+k))*i.size:=by rw[<-rQ,<-hzs];simp[Builtin.zeroCells]
 refine⟨w.drew.alloc (.cells (vs.toArray++us.toArray++rest) el),vs.toArray++us.toArray++rest,rest.toList,sB,?_,?_,by simp,hnc,?_⟩
 ·simp only[Builtin.append_,h0,h1,List.getElem?_toArray,List.getElem?_cons_zero,List.getElem?_cons_succ,alr,underlying,run_program,alp,hs,alq,run_sizeOf hi];cases u<;>first
   |exact absurd rfl (pe _)
   |(simp only[hu,alq,alr,alp,hl,aly,if_false]
     rw[if_neg (Nat.not_le.2 hle)];simp only[alr,typeInfo,run_program,alp,hi,alq,aly]at Z5⊢;rw[if_neg Z5];simp only[alr,run_program,alp,hi,alq];rw[if_neg sC];simp only[alr,run_choose,Question.forced,aly,if_false,hJ,World.drew_eq,alp,run_askRoom,ho w.drew rfl,al7,if_true,hf w.drew rfl,zeroValue,typeInfo,run_program,hi,alq,hz,rQ,
      newRow,run_newObj,World.alloc_eq,World.size_drew])
 ·have h:=e7 w.drew (vs.toArray++us.toArray++rest) el;exact⟨h.os,h.tape,h.output,h.size,h.old,h.row⟩
 ·simp only[Array.size_append,List.size_toArray,B6,A7,pC];rw[<-Nat.add_mul,<-Nat.add_mul]
  congr 1
  omega
theorem pW {id b:Nat} {cs:List AV} (hM:MR c m w) (hid:ai m id=some cs) (fZ:c.φ id=.pM b):
 ∃arr T f vs rest,¬c.dY b/\w.heap[b]?=some (.cells arr T f)/\Gr arr.size f/\arr.toList=vs++rest/\bg c w cs vs:=by
 rcases hM.own id cs hid with⟨h0,_⟩|⟨b',arr,T,f,hb,hi,hw,hf,vs,rest,ha,hr⟩|⟨_,_,_,h0,_⟩;·rw[h0]at fZ;cases fZ
 ·rw[hb]at fZ;cases fZ;exact⟨arr,T,f,vs,rest,hi,hw,hf,ha,hr⟩
 ·rw[h0]at fZ;cases fZ
theorem Uc {ts:Array TypeId} {el ty:TypeId} {i:TypeInfo} (hT:aeG P ts el i) {x y:Operand} (hF:FR c w t a.tmps) (hM:MR c m w) (hn:c.φ n=.free) {v:AV} {e:gk}
 (hbz:i.bytes≠0)
 (he:bq (.app i.size i.bytes el (bm x) (bm y)) t m n=some (v,e)):fa P (do pure (.value (<-Builtin.append_ ts ty #[a.eval x,a.eval y]))) c m n w v e:=by
 have hx:=bL hF x;have hy:=bL hF y;have h63:∀k len,(len+k)*i.bytes<=140737488351232->len+k<=9223372036854775807:=λk len h=>by
  have:=Nat.le_mul_of_pos_right (len+k) (Nat.pos_of_ne_zero hbz);omega
 simp only[bq]at he;split at he
 ·rename_i k new pU;obtain⟨hlen,us,A7,IG⟩:=yR (P:=P) hy hM pU;have hnl:=yP pU;have Eu:us.length=k*i.size:=by rw[A7.length,hnl]
  split at he
  ·rename_i pa;rw[pa]at hx;have e1:=lr hx;split at he
   ·rename_i hb;split at he
    ·rename_i hk;cases he;subst hk;refine bH (u:=.slice none 0 0) hM ?_ (by simp[Rel,dS]);rw[e1];exact gM (us:=us) hT hlen (IG w rfl) (ali _) rfl
    ·rename_i hk;cases he;obtain⟨w',arr,rest,cap,dJ,fw,tK,hle,jH⟩:=run_append_grow (ty:=ty) (base:=none) (sLen:=0) (cap:=0) (vs:=[]) hT hlen IG (λ_ _=>rfl) (by omega) (by simpa using hb) (h63 k 0 (by simpa using hb)) (by simp) Eu;simp only[alo,al8]at dJ tK hle;refine sq hM hn ?_ fw (iO _) tK A7 ?_ (u:=.slice (some ⟨w.heap.size,0,none⟩) k cap);·rw[e1];exact dJ
     ·simp only[Rel];exact .inr ⟨w.heap.size,cap,(_,arr.size),Ctx.bind_eq,rfl,hle,ca fw.row,by omega⟩
   ·cases he
  ·rename_i id e' off len pa;rw[pa]at hx;split at he
   ·rename_i cs cq;split at he
    ·rename_i cW;obtain⟨rfl,Z6,hb⟩:=cW;split at he
     ·rename_i hk;subst hk;cases he;simp only[Rel]at hx;rcases hx with⟨h0,rfl,rfl,a0,hv⟩|⟨b,cap,N,gi,hv,hle,hN,hJ⟩
      ·refine bH (u:=.slice a0 0 0) hM ?_ (by simp only[Rel];exact .inl ⟨h0,trivial,trivial,a0,rfl⟩);have:us=[]:=amb (by rw[Eu];simp);subst this;rw[hv];exact gM (us:=[]) hT hlen (IG w rfl) (ali _) (by cases a0<;>rfl)
      ·refine bH (u:=.slice (some ⟨b,off,none⟩) len cap) hM ?_ (by simp only[Rel];exact .inr ⟨b,cap,N,gi,rfl,hle,hN,hJ⟩);have:us=[]:=amb (by rw[Eu];simp);subst this;rw[hv];exact gM (us:=[]) hT hlen (IG w rfl) (by omega) rfl
     ·rename_i hk;split at he
      ·rename_i ajA;subst ajA;cases he;have Ud:=h63 k len hb;simp only[alo]at Z6;simp only[Rel]at hx;rcases hx with⟨h0,_,rfl,a0,hv⟩|⟨b,cap,N,gi,hv,hle,hN,hJ⟩
       ·
        have ME:cs=[]:=amb (by omega);subst ME;obtain⟨w',arr,rest,cap,dJ,fw,tK,hle,jH⟩:=run_append_grow (ty:=ty) (base:=a0) (sLen:=0) (cap:=0) (vs:=[]) hT hlen IG (λw' _=>by cases a0<;>simp[Builtin.firstCells,loadCells,loadCellsFrom]) (by omega) hb Ud (by simp) Eu;simp only[alo,al8]at dJ tK hle;refine⟨.value (.slice (some ⟨w.heap.size,0,none⟩) k cap),w',c.bind n (.pM w.heap.size),?_,.inl ⟨_,rfl,?_⟩,?_,fw.step n,λ_ h=>Ctx.cV (h.resolve_right (by simp[gk.next])),λb hb=>?_⟩;·rw[hv];simp[dJ]
        ·simp only[Rel,alo];exact .inr ⟨w.heap.size,cap,(_,arr.size),Ctx.bind_eq,rfl,hle,ca fw.row,by omega⟩
        ·exact(hM.del id).new fw hn (iO _) tK A7
        ·rcases tE hb with h|h;·exact .inl (Bp h)
         ·exact .inr h
       ·obtain⟨arr,T,f,vs,rest,jj,hw,hf,ha,hr⟩:=pW hM cq gi;have wa:vs.length=len*i.size:=by rw[hr.length];exact Z6.symm
        have hNs:N=(T,arr.size):=by rw[ca hw]at hN;exact(al9 hN).symm
        subst hNs;have jH:arr.size=vs.length+rest.length:=by rw[<-Array.length_toList,ha,aln]
        by_cases sC:len+k<=cap
        ·
         have hmul:(len+k)*i.size<=cap*i.size:=Nat.mul_le_mul_right _ sC;rw[Nat.add_mul]at hmul;obtain⟨w',nB,wv⟩:=gZ P b T f us w arr (len*i.size) 0 hw hf (sr A7 (yQ pU)) (by omega)
         ·obtain⟨o8,hp,u5⟩:=yN us vs rest (by omega);have pV:iv arr.toList (len*i.size+0) us=vs++us++o8:=by rw[ha,Nat.add_zero,<-wa];exact hp
          rw[pV]at wv;have hs:(vs++us++o8).toArray.size=arr.size:=by simp;omega
          have hM1:=hM.put (cells:=cs++new) (vs:=vs++us) (rest:=o8) cq gi wv hw hs jj hf (by simp) (hr.append A7);have Z7:=hM1.again (n:=n) (by rw[bF,if_pos rfl]) hn (.pM b) gi;have Cb:∀j,ai (ak (aG (ak m id (cs++new)) id) n (cs++new)) j=ai (ak (aG m id) n (cs++new)) j:=by
           intro j;simp only[bF,fL];by_cases h1:id=j<;>simp[h1]
          refine⟨.value (.slice (some ⟨b,0,none⟩) (len+k) cap),w',c.bind n (.pM b),?_,.inl ⟨_,rfl,?_⟩,?_,?_,λ_ h=>Ctx.cV (h.resolve_right (by simp[gk.next])),λb' iq=>.inl (Ff (id:=id) (by rw[cq];rfl) gi iq)⟩
          ·rw[hv];have:=gM (ty:=ty) (base:=some ⟨b,0,none⟩) hT hlen (IG w rfl) sC (w':=w') (by simp only[addr_add,alo];exact nB);simp[this]
          ·simp only[Rel];refine .inr ⟨b,cap,(T,arr.size),Ctx.bind_eq,rfl,sC,?_,hJ⟩;rw[ca wv.row,hs]
          ·exact⟨λj cells hj=>Z7.own j cells (by rw[Cb];exact hj),λj j' b2 h1 h2=>Z7.inj j j' b2 (by rw[Cb];exact h1) (by rw[Cb];exact h2),Z7.dY,Z7.zZ⟩
          ·have:=wv.step (c:=c) hw hs ⟨id,by rw[cq];rfl,j7.jU gi⟩;exact⟨this.os,this.tape,this.output,this.size,this.di,this.rows,this.dY,this.yI⟩
        ·
         have hold:∀w',w'.heap=w.heap->(Builtin.firstCells i.size len (.slice (some ⟨b,0,none⟩) len cap)).run P w'=.ok vs.toArray w':=by
          intro w' Tv;have:=run_loadCells P w' b 0 vs λj u hj=>by
           have h1:w'.heap[b]?=some (.cells arr T f):=by rw[Tv];exact hw
           rw[cell_of_row h1,<-Array.getElem?_toList,ha,alo,List.getElem?_append_left (List.getElem?_eq_some_iff.1 hj).1];exact hj
          rw[wa]at this;exact this
         obtain⟨w',uq,o8,Ca,dJ,fw,tK,I3,yU⟩:=run_append_grow (ty:=ty) (base:=some ⟨b,0,none⟩) (sLen:=len) (cap:=cap) (vs:=vs) hT hlen IG hold (by omega) hb Ud wa Eu;refine⟨.value (.slice (some ⟨w.heap.size,0,none⟩) (len+k) Ca),w',c.bind n (.pM w.heap.size),?_,.inl ⟨_,rfl,?_⟩,?_,fw.step n,λ_ h=>Ctx.cV (h.resolve_right (by simp[gk.next])),λb hb=>?_⟩;·rw[hv];simp[dJ]
         ·simp only[Rel];exact .inr ⟨w.heap.size,Ca,(_,uq.size),Ctx.bind_eq,rfl,I3,ca fw.row,by omega⟩
         ·exact(hM.del id).new fw hn (iO _) tK (hr.append A7)
         ·rcases tE hb with h|h;·exact .inl (Bp h)
          ·exact .inr h
      ·cases he
    ·cases he
   ·cases he
  ·rename_i id T' len pa;rw[pa]at hx;split at he
   ·rename_i cs cq;split at he
    ·rename_i cW;obtain⟨Z8,rfl,agy,hb⟩:=cW;have Z6:len*i.size=cs.length:=by rw[Z8,alV];exact agy
     split at he
     ·rename_i hk;subst hk;cases he;simp only[Rel]at hx;rcases hx with⟨h0,rfl,hv⟩|⟨b,cap,N,gi,hv,hle,hN,hJ⟩
      ·refine bH (u:=.slice none 0 0) hM ?_ (by simp only[Rel];exact .inl ⟨h0,trivial,trivial⟩);rw[hv];exact gM (us:=us) hT hlen (IG w rfl) (ali _) rfl
      ·refine bH (u:=.slice (some ⟨b,0,none⟩) len cap) hM ?_ (by simp only[Rel];exact .inr ⟨b,cap,N,gi,rfl,hle,hN,hJ⟩);have:us=[]:=amb (by rw[Eu];simp);subst this;rw[hv];exact gM (us:=[]) hT hlen (IG w rfl) (by omega) rfl
     ·rename_i hk
      ·cases he;have Ud:=h63 k len hb;simp only[Rel]at hx;rcases hx with⟨h0,rfl,hv⟩|⟨b,cap,N,gi,hv,hle,hN,hJ⟩
       ·
        have ME:cs=[]:=amb (by omega);subst ME;obtain⟨w',arr,rest,cap,dJ,fw,tK,hle,jH⟩:=run_append_grow (ty:=ty) (base:=none) (sLen:=0) (cap:=0) (vs:=[]) hT hlen IG (λ_ _=>rfl) (by omega) hb Ud (by simp) Eu;simp only[alo,al8]at dJ tK hle;refine⟨.value (.slice (some ⟨w.heap.size,0,none⟩) k cap),w',c.bind n (.pM w.heap.size),?_,.inl ⟨_,rfl,?_⟩,?_,fw.step n,λ_ h=>Ctx.cV (h.resolve_right (by simp[gk.next])),λb hb=>?_⟩;·rw[hv];simp[dJ]
        ·simp only[Rel,alo];exact .inr ⟨w.heap.size,cap,arr.size,Ctx.bind_eq,rfl,hle,ca fw.row,by rw[jH,Z8];omega⟩
        ·exact(hM.del id).new fw hn (iO _) tK A7
        ·rcases tE hb with h|h;·exact .inl (Bp h)
         ·exact .inr h
       ·obtain⟨arr,T,f,vs,rest,jj,hw,hf,ha,hr⟩:=pW hM cq gi;have wa:vs.length=len*i.size:=by rw[hr.length];exact Z6.symm
        have hNs:(T,arr.size)=(T',N):=by rw[ca hw]at hN;exact al9 hN
        cases hNs;have akT:cap*i.size<=arr.size:=by rw[Z8];omega
        have jH:arr.size=vs.length+rest.length:=by rw[<-Array.length_toList,ha,aln]
        by_cases sC:len+k<=cap
        ·
         have hmul:(len+k)*i.size<=cap*i.size:=Nat.mul_le_mul_right _ sC;rw[Nat.add_mul]at hmul;obtain⟨w',nB,wv⟩:=gZ P b _ f us w arr (len*i.size) 0 hw hf (sr A7 (yQ pU)) (by omega)
         ·obtain⟨o8,hp,u5⟩:=yN us vs rest (by omega);have pV:iv arr.toList (len*i.size+0) us=vs++us++o8:=by rw[ha,Nat.add_zero,<-wa];exact hp
          rw[pV]at wv;have hs:(vs++us++o8).toArray.size=arr.size:=by simp;omega
          have hM1:=hM.put (cells:=cs++new) (vs:=vs++us) (rest:=o8) cq gi wv hw hs jj hf (by simp) (hr.append A7);have Z7:=hM1.again (n:=n) (by rw[bF,if_pos rfl]) hn (.pM b) gi;have Cb:∀j,ai (ak (aG (ak m id (cs++new)) id) n (cs++new)) j=ai (ak (aG m id) n (cs++new)) j:=by
           intro j;simp only[bF,fL];by_cases h1:id=j<;>simp[h1]
          refine⟨.value (.slice (some ⟨b,0,none⟩) (len+k) cap),w',c.bind n (.pM b),?_,.inl ⟨_,rfl,?_⟩,?_,?_,λ_ h=>Ctx.cV (h.resolve_right (by simp[gk.next])),λb' iq=>.inl (Ff (id:=id) (by rw[cq];rfl) gi iq)⟩
          ·rw[hv];have:=gM (ty:=ty) (base:=some ⟨b,0,none⟩) hT hlen (IG w rfl) sC (w':=w') (by simp only[addr_add,alo];exact nB);simp[this]
          ·simp only[Rel];refine .inr ⟨b,cap,arr.size,Ctx.bind_eq,rfl,sC,?_,hJ⟩;rw[ca wv.row,hs]
          ·exact⟨λj cells hj=>Z7.own j cells (by rw[Cb];exact hj),λj j' b2 h1 h2=>Z7.inj j j' b2 (by rw[Cb];exact h1) (by rw[Cb];exact h2),Z7.dY,Z7.zZ⟩
          ·have:=wv.step (c:=c) hw hs ⟨id,by rw[cq];rfl,j7.jU gi⟩;exact⟨this.os,this.tape,this.output,this.size,this.di,this.rows,this.dY,this.yI⟩
        ·
         have hold:∀w',w'.heap=w.heap->(Builtin.firstCells i.size len (.slice (some ⟨b,0,none⟩) len cap)).run P w'=.ok vs.toArray w':=by
          intro w' Tv;have:=run_loadCells P w' b 0 vs λj u hj=>by
           have h1:w'.heap[b]?=some (.cells arr T' f):=by rw[Tv];exact hw
           rw[cell_of_row h1,<-Array.getElem?_toList,ha,alo,List.getElem?_append_left (List.getElem?_eq_some_iff.1 hj).1];exact hj
          rw[wa]at this;exact this
         obtain⟨w',uq,o8,Ca,dJ,fw,tK,I3,yU⟩:=run_append_grow (ty:=ty) (base:=some ⟨b,0,none⟩) (sLen:=len) (cap:=cap) (vs:=vs) hT hlen IG hold (by omega) hb Ud wa Eu;refine⟨.value (.slice (some ⟨w.heap.size,0,none⟩) (len+k) Ca),w',c.bind n (.pM w.heap.size),?_,.inl ⟨_,rfl,?_⟩,?_,fw.step n,λ_ h=>Ctx.cV (h.resolve_right (by simp[gk.next])),λb hb=>?_⟩;·rw[hv];simp[dJ]
         ·simp only[Rel];exact .inr ⟨w.heap.size,Ca,uq.size,Ctx.bind_eq,rfl,I3,ca fw.row,by rw[yU,Z8];omega⟩
         ·exact(hM.del id).new fw hn (iO _) tK (hr.append A7)
         ·rcases tE hb with h|h;·exact .inl (Bp h)
          ·exact .inr h
    ·cases he
   ·cases he
  ·cases he
 ·cases he
end
end Go.Jq
namespace Go.Jq
open Go
section
variable{P:Program} {c:Ctx} {m:Mem} {n:Nat} {w:World} {t:Fr} {a:Act}
theorem MR.Ue (hM:MR c m w) (hn:c.φ n=.free):MR (c.bind n .none) (ak m n []) w/\∀b,iV (c.bind n .none) (ak m n []) b->iV c m b:=by
 have hl:jP c (c.bind n .none) w w:=⟨λ_ h=>h,λ_ _=>rfl,tD hn λ_ h=>Ctx.cV h,λ_ _ h=>h⟩;have key:∀{id b},(ai (ak m n []) id).isSome->((c.bind n .none).φ id).bk=some b->(ai m id).isSome/\(c.φ id).bk=some b:=λ{id b} h1 h2=>by
  by_cases e:id=n;·subst e;rw[Ctx.bind_eq]at h2;cases h2
  ·rw[Ctx.cV e]at h2;rw[bF,if_neg (Ne.symm e)]at h1;exact⟨h1,h2⟩
 refine⟨⟨λid cells hid=>?_,λid mK b h h' hb gi=>hM.inj id mK b (key h hb).1 (key h' gi).1 (key h hb).2 (key h' gi).2,hM.dY,hM.zZ⟩,λb ⟨id,h1,h2⟩=>⟨id,key h1 h2⟩⟩;rw[bF]at hid;split at hid;·rename_i e;subst e;cases hid;exact .inl ⟨Ctx.bind_eq,rfl⟩
 ·exact(hM.own id cells hid).later hl λb hb=>⟨rfl,λhi=>hM.sep hi ⟨id,by rw[hid];rfl,hb⟩⟩
theorem yV {x:Operand} {b:Nat} (hF:FR c w t a.tmps) (h:uo (ev t (bm x))=some b):∃k j,a.eval x=.int k j/\0<=j/\j.toNat=b:=by
 have hx:=bL (w:=w) hF x;unfold uo at h;split at h
 ·rename_i k j h0;rw[h0]at hx;split at h
  ·rename_i hj;cases h;exact⟨k,j,c6 hx,hj,rfl⟩
  ·cases h
 ·cases h
theorem Cc {x:Option Operand} {d b:Nat} (hF:FR c w t a.tmps) (h:uo (ev t ((x.map bm).getD (.c (.d (.int .i64 (d:Int))))))=some b):
 (x=none/\b=d)\/∃y k j,x=some y/\a.eval y=.int k j/\0<=j/\j.toNat=b:=by
 cases x with
 |none=>
  simp only[Option.map_none,Option.getD_none,ev,uo]at h;split at h;·cases h;exact .inl ⟨rfl,by simp⟩
  ·cases h
 |some y=>
  obtain⟨k,j,h1,h2,h3⟩:=yV (w:=w) hF h;exact .inr ⟨y,k,j,rfl,h1,h2,h3⟩
theorem Q4 {T el:TypeId} {q:Nat} {i:TypeInfo} (hu:P.underlying T=some (.array q el)) (gK:P.info? el=some i) {x:Operand} {lo hi:Option Operand} (hF:FR c w t a.tmps) (hM:MR c m w) {v:AV} {e:gk}
 (he:bq (.j6 (.BX q i.size) [bm x,(lo.map bm).getD (.c (.d (.int .i64 0))),(hi.map bm).getD (.c (.d (.int .i64 (q:Int))))]) t m n=some (v,e)):
 fa P (do pure (.value (<-Instr.sliceAt T (a.eval x) (lo.map a.eval) (hi.map a.eval) none))) c m n w v e:=by
 have hx:=bL hF x;simp only[bq,alz,alL]at he;unfold mU at he;split at he<;>(try(cases‹me.BX q i.size=_›))
 ·rename_i id off vlo vhi uH;simp only[List.cons.injEq,and_true]at uH;obtain⟨h1,rfl,rfl⟩:=uH;rw[h1]at hx;simp only[Rel]at hx;obtain⟨b,hb,hv⟩:=hx;split at he
  ·rename_i cs l h cq hl hh;split at he
   ·rename_i cW;obtain⟨hlh,hhq,sC⟩:=cW;cases he;obtain⟨arr,T',f,vs,rest,jj,hw,hf,ha,hr⟩:=pW hM cq hb;have wa:=hr.length;have jH:arr.size=vs.length+rest.length:=by rw[<-Array.length_toList,ha,aln]
    have hbn:=nA (P:=P) (w:=w) (isSlice:=false) (cap:=q) (Cc (d:=0) hF hl) (Cc hF hh) hlh hhq;refine bH (u:=.slice (some (if q=l then⟨b,off,none⟩else(⟨b,off,none⟩:Addr).add (l*i.size))) (h-l) (q-l)) hM ?_ ?_;·simp only[Instr.sliceAt,alr,underlying,run_program,alp,hu,alq,hv,Instr.sureAddr,hbn,run_sizeOf gK]
    ·split
     ·rename_i ajB;subst ajB;simp only[Rel,dS];exact⟨_,_,by rw[Nat.sub_self],by omega,.inl ⟨trivial,trivial⟩⟩
     ·simp only[Rel];rw[if_neg (by omega),addr_add];refine .inr ⟨b,q-l,(T',arr.size),hb,rfl,by omega,ca hw,?_⟩;have:l*i.size+(q-l)*i.size=q*i.size:=by rw[<-Nat.add_mul];congr 1;omega
      omega
   ·cases he
  ·cases he
 ·cases he
theorem Q5 {T el:TypeId} {i:TypeInfo} (hu:P.underlying T=some (.slice el)) (gK:P.info? el=some i) {x hi mx:Operand} {lo:Option Operand} (hF:FR c w t a.tmps) (hM:MR c m w) (hn:c.φ n=.free) {v:AV} {e:gk}
 (he:bq (.j6 (.Mu i.size) [bm x,(lo.map bm).getD (.c (.d (.int .i64 0))),bm hi,bm mx]) t m n=some (v,e)):
 fa P (do pure (.value (<-Instr.sliceAt T (a.eval x) (lo.map a.eval) (some (a.eval hi)) (some (a.eval mx))))) c m n w v e:=by
 have hx:=bL hF x;simp only[bq,alz,alL]at he;unfold mU at he;split at he<;>(try(cases‹me.Mu i.size=_›))
 ·rename_i vx vlo vhi vmx uH;simp only[List.cons.injEq,and_true]at uH;obtain⟨rfl,rfl,rfl,rfl⟩:=uH;split at he
  ·rename_i len l h r hlen hl hh hr;obtain⟨p,cap,hv,hle⟩:=Gt hx hlen;obtain⟨kh,jh,eh,h1,h2⟩:=yV (w:=w) hF hh;obtain⟨kr,jr,er,h3,h4⟩:=yV (w:=w) hF hr;have dJ:l<=h->h<=r->r<=cap->(Instr.sliceAt T (a.eval x) (lo.map a.eval) (some (a.eval hi)) (some (a.eval mx))).run P w=.ok (.slice (if r=l then p else p.map (·.add (l*i.size))) (h-l) (r-l)) w:=by
    intro q1 q2 q3;have hbn:(Instr.sliceBounds true len cap (lo.map a.eval) (some (a.eval hi)) (some (a.eval mx))).run P w=.ok (l,h,r) w:=by
     have b1:∀code,(Instr.sliceBound (a.eval mx) cap code).run P w=.ok r w:=λcode=>by rw[<-h4];exact mh er ⟨h3,by omega⟩ code
     have b2:∀code,(Instr.sliceBound (a.eval hi) r code).run P w=.ok h w:=λcode=>by rw[<-h2];exact mh eh ⟨h1,by omega⟩ code
     unfold Instr.sliceBounds;rcases Cc (w:=w) (d:=0) hF hl with⟨rfl,rfl⟩|⟨y,k,j,rfl,hy,hj,hjl⟩;·simp only[Option.map_none,alr,alq,alp,b1,b2]
     ·have b3:∀code,(Instr.sliceBound (a.eval y) h code).run P w=.ok l w:=λcode=>by rw[<-hjl];exact mh hy ⟨hj,by omega⟩ code
      simp only[alX,alr,alq,alp,b1,b2,b3]
    rw[hv];simp only[Instr.sliceAt,alr,underlying,run_program,alp,hu,Instr.slice,hbn,run_sizeOf gK,alq]
   split at he
   ·rename_i cW;obtain⟨rfl,rfl,rfl⟩:=cW;cases he;obtain⟨yG,ho⟩:=hM.Ue hn;refine⟨.value (.slice p 0 0),w,c.bind n .none,by simp[dJ],.inl ⟨_,rfl,?_⟩,yG,⟨rfl,rfl,rfl,ali _,λ_ _ _=>rfl,λ_ _ h=>h,λ_ h=>h,λ_ h=>.inl h⟩,λ_ h=>Ctx.cV (h.resolve_right (by simp[gk.next])),λb hb=>.inl (ho b hb)⟩;simp only[Rel];exact .inl ⟨Ctx.bind_eq,trivial,trivial,p,rfl⟩
   ·split at he
    ·rename_i cW;obtain⟨rfl,e1,e2⟩:=cW;subst e1;subst e2;cases he;have hp:∀q:Nat,(if q=0 then p else p.map (·.add (0*i.size)))=p:=λq=>by
      split;·rfl
      ·cases p<;>simp[Addr.add]
     have Uf:=dJ (alZ _) (ali _) hle;rw[hp,Nat.sub_zero]at Uf;refine bH hM Uf ?_;clear dJ Uf hl hh hr h2 h4 eh er;revert hx hlen;generalize ev t (bm x)=vx;intro hx hlen;unfold jV at hlen;split at hlen<;>cases hlen;·have:=lr hx;rw[this]at hv;cases hv;simp[Rel,dS]
     ·simp only[Rel,dS]at hx⊢;obtain⟨p',Ca,Ek,hn',hx⟩:=hx;rw[Ek]at hv;cases hv;exact⟨_,_,rfl,ali _,hx⟩
     ·rename_i id dR off;simp only[Rel]at hx⊢;rcases hx with⟨h0,Q6,Ba,_,Ek⟩|⟨b,Ca,N,hb,Ek,I3,hN,hJ⟩;·exact .inl ⟨h0,Q6,Ba,p,by rw[Ba]⟩
      ·rw[Ek]at hv;cases hv;refine .inr ⟨b,_,N,hb,rfl,ali _,hN,?_⟩;have:=Nat.mul_le_mul_right dR I3;omega
     ·simp only[Rel]at hx⊢;obtain⟨p',Ca,Ek,hn'⟩:=hx;rw[Ek]at hv;cases hv;exact⟨_,_,rfl,hn'⟩
    ·cases he
  ·cases he
 ·exact((by assumption:∀(dR:Nat) (x lo hi mx:AV),me.Mu i.size=me.Mu dR->_=[x,lo,hi,mx]->False) _ _ _ _ _ rfl rfl).elim
theorem Q7 {ts:Array TypeId} {s el ty:TypeId} {i:TypeInfo} (hs:ts[0]?=some s) (hu:P.underlying s=some (.slice el)) (gK:P.info? el=some i) {x y:Operand} (hF:FR c w t a.tmps) (hM:MR c m w) {v:AV} {e:gk}
 (he:bq (.j6 (.Fb i.size) [bm x,bm y]) t m n=some (v,e)):fa P (do pure (.value (<-Builtin.copy_ ts ty #[a.eval x,a.eval y]))) c m n w v e:=by
 have hx:=bL hF x;have hy:=bL hF y;simp only[bq,alz,alL]at he;unfold mU at he;split at he<;>(try(cases‹me.Fb i.size=_›))
 ·rename_i id e' off len vy uH;simp only[List.cons.injEq,and_true]at uH;obtain⟨h1,rfl⟩:=uH;rw[h1]at hx;split at he
  ·rename_i cs k new cq pU;split at he
   ·rename_i cW;obtain⟨rfl,Ug,El,sC⟩:=cW;cases he;simp only[Rel]at hx;rcases hx with⟨_,_,h2,_⟩|⟨b,cap,N,hb,hv,hle,hN,hJ⟩;·exact absurd h2 El
    ·obtain⟨hlen,us,A7,IG⟩:=yR (P:=P) hy hM pU;obtain⟨arr,T,f,vs,rest,jj,hw,hf,ha,hr⟩:=pW hM cq hb;have hnl:=yP pU;have Eu:=A7.length;have wa:=hr.length;have jH:arr.size=vs.length+rest.length:=by rw[<-Array.length_toList,ha,aln]
     obtain⟨w',nB,wv⟩:=gZ P b T f us w arr off 0 hw hf (sr A7 (yQ pU)) (by omega);have yU:(iv arr.toList (off+0) us).toArray.size=arr.size:=by simp[nR]
     refine⟨.value (.int .i64 (k:Int)),w',c,?_,.inl ⟨_,rfl,jI _ _⟩,?_,wv.step hw yU ⟨id,by rw[cq];rfl,j7.jU hb⟩,λ_ _=>rfl,λb hb=>.inl (tF cq hb)⟩
     ·have yW:Nat.min k len=k:=Nat.min_eq_left Ug;simp only[Builtin.copy_,alr,hs,List.getElem?_toArray,List.getElem?_cons_zero,List.getElem?_cons_succ,underlying,run_program,alp,hu,hv,hlen,yW,run_sizeOf gK,IG w rfl,nB,alq,goInt]
     ·refine hM.put cq hb wv hw yU jj hf (vs:=iv vs off us) (rest:=rest) ?_ (ou new us cs vs off hr A7);simp only[ha,Nat.add_zero];rw[nS us vs rest off (by omega)]
   ·cases he
  ·cases he
 ·cases he
theorem sD (op:BinOp) (T:TypeId) (x y:Operand) {u v:Value} (hu:∃a n k,u=.slice a n k):(eqGuard op T x y u v).run P w=.ok () w:=by
 unfold eqGuard;obtain⟨a,n,k,rfl⟩:=hu;cases op<;>cases v<;>rfl
theorem Uh {x:AV} {v:Value} {neg:Bool} {r:AV} {e:gk} (hx:Rel c w x v) (h:mU (.yJ neg) [x,.d .ct] m n=some (r,e)):e=.nil/\∃a k cap,v=.slice a k cap/\r=dZ (a.isNone !=neg):=by
 simp only[mU]at h;split at h;·cases h;have:=lr hx;exact⟨rfl,none,0,0,this,by simp⟩
 ·rename_i k cs;split at h;·cases h
  ·rename_i h0;cases h;simp only[Rel,dS]at hx;obtain⟨a,cap,hv,hn,hx⟩:=hx;rcases hx with⟨h1,_⟩|⟨b,o,ha,_⟩;·exact absurd h1 h0
   ·exact⟨rfl,a,k,cap,hv,by subst ha;simp⟩
 ·rename_i z;cases h;simp only[Rel]at hx;obtain⟨a,cap,hv,hz⟩:=hx;exact⟨rfl,a,0,cap,hv,by rw[hz]⟩
 ·rename_i id dR off k;split at h;·cases h
  ·rename_i h0;cases h;simp only[Rel]at hx;rcases hx with⟨_,_,h1,_⟩|⟨b,cap,N,_,hv,_⟩;·exact absurd h1 h0
   ·exact⟨rfl,_,_,cap,hv,by simp⟩
 ·cases h
theorem Fh {op:BinOp} {neg:Bool} (A9:(op=.eql/\neg=false)\/(op=.neq/\neg=true)) {T el:TypeId} (pU:P.underlying T=some (.slice el)) {x y:Operand}
 (hF:FR c w t a.tmps) (hM:MR c m w) {v:AV} {e:gk} (he:bq (.j6 (.yJ neg) [bm x,bm y]) t m n=some (v,e)):
 fa P (do pure (.value (<-(do eqGuard op T x y (a.eval x) (a.eval y);binOp op T (a.eval x) (a.eval y))))) c m n w v e:=by
 have hx:=bL hF x;have hy:=bL hF y;simp only[bq,alz,alL]at he;have hny:ev t (bm y)=.d .ct:=by
  have h:=he;unfold mU at h;split at h<;>(try(cases‹me.yJ _=_›))
  ·rename_i uH;simp only[List.cons.injEq,and_true]at uH;exact uH.2
  ·cases h
 rw[hny]at he hy;obtain⟨rfl,p,k,cap,hv,rfl⟩:=Uh hx he;have hw:=lr hy;have k1:(Op.equal T (.slice p k cap) (.slice none 0 0)).run P w=.ok p.isNone w:=by
  unfold Op.equal;rw[show Op.maxDepth=9999+1 from rfl,Op.equalIn];simp only[alr,underlying,run_program,alp,pU];cases p<;>simp
 refine bH hM ?_ (lq _);rw[hv,hw];rcases A9 with⟨rfl,rfl⟩|⟨rfl,rfl⟩;·simp only[alr,sD _ _ _ _ ⟨_,_,_,rfl⟩,alp,binOp,k1,alq,Bool.bne_false]
 ·simp only[alr,sD _ _ _ _ ⟨_,_,_,rfl⟩,alp,binOp,k1,alq,Bool.bne_true]
theorem MF {ts:Array TypeId} {s el ty:TypeId} {i:TypeInfo} {z:List AV} (hs:ts[0]?=some s) (hu:P.underlying s=some (.slice el)) (gK:P.info? el=some i) (hz:zeroOf P el=some z) {x:Operand} (hF:FR c w t a.tmps) (hM:MR c m w) {v:AV} {e:gk}
 (he:bq (.j6 (.BZ i.size z) [bm x]) t m n=some (v,e)):fa P (do pure (.value (<-Builtin.clear_ ts ty #[a.eval x]))) c m n w v e:=by
 have hx:=bL hF x;simp only[bq,alz,alL]at he;unfold mU at he;split at he<;>(try(cases‹me.BZ _ _=_›))
 ·rename_i id e' off len uH;simp only[List.cons.injEq,and_true]at uH;rw[uH]at hx;split at he
  ·rename_i cs cq;split at he
   ·rename_i cW;obtain⟨rfl,El,hzl,hz0,hzo,sC⟩:=cW;cases he;simp only[Rel]at hx;rcases hx with⟨_,_,h2,_⟩|⟨b,cap,N,hb,hv,hle,hN,hJ⟩;·exact absurd h2 El
    ·obtain⟨arr,T,f,vs,rest,jj,hw,hf,ha,hr⟩:=pW hM cq hb;obtain⟨zv,IQ,hzz⟩:=sv (w:=w) hz;have hzr:bg c w z zv.cells.toList:=by rw[hzz];exact iB _
     have ur:=hzr.length;have wa:=hr.length;have jH:arr.size=vs.length+rest.length:=by rw[<-Array.length_toList,ha,aln]
     have A7:bg c w ((alI (len*i.size)).map λj=>z.getD (j%z.length) .any) ((alI (len*i.size)).map λj=>zv.cells.toList.toArray[j%zv.cells.toList.length]!):=u6 hzr _ (.inr hz0);have fw:((alI (len*i.size)).map λj=>z.getD (j%z.length) .any).all mf=true:=by
      rw[List.all_eq_true];intro y hy;rw[List.mem_map]at hy;obtain⟨j,_,rfl⟩:=hy;have hj:j%z.length<z.length:=Nat.mod_lt _ (by omega);rw[alC,alw hj];exact List.all_eq_true.1 hzo _ (alR hj)
     have Eu:((alI (len*i.size)).map λj=>zv.cells.toList.toArray[j%zv.cells.toList.length]!).length=len*i.size:=by simp
     obtain⟨w',nB,wv⟩:=gZ P b T f ((alI (len*i.size)).map λj=>zv.cells.toList.toArray[j%zv.cells.toList.length]!) w arr off 0 hw hf (sr A7 fw) (by omega);have yU:(iv arr.toList (off+0) ((alI (len*i.size)).map λj=>zv.cells.toList.toArray[j%zv.cells.toList.length]!)).toArray.size=arr.size:=by simp[nR]
     have hzc:(Builtin.zeroCells zv.cells len).toList=(alI (len*i.size)).map λj=>zv.cells.toList.toArray[j%zv.cells.toList.length]!:=by
      have h3:zv.cells.size=i.size:=by rw[<-hzl,<-ur];simp
      simp[Builtin.zeroCells,h3]
     refine⟨.value (.tuple #[]),w',c,?_,.inl ⟨_,rfl,by simp[Rel,bg]⟩,?_,wv.step hw yU ⟨id,by rw[cq];rfl,j7.jU hb⟩,λ_ _=>rfl,λb hb=>.inl (tF cq hb)⟩
     ·have hlen:len≠0:=El;obtain⟨q,rfl⟩:∃q,len=q+1:=⟨len-1,by omega⟩;simp only[Builtin.clear_,alr,hs,List.getElem?_toArray,List.getElem?_cons_zero,underlying,run_program,alp,hu,hv,IQ,hzc,nB,alq]
     ·refine hM.put cq hb wv hw yU jj hf (vs:=iv vs off _) (rest:=rest) ?_ (ou _ _ cs vs off hr A7);simp only[ha,Nat.add_zero];rw[nS _ vs rest off (by omega)]
   ·cases he
  ·cases he
 ·cases he
end
end Go.Jq
namespace Go.Jq
open Go
section
variable{P:Program} {c:Ctx} {m:Mem} {n:Nat} {w:World} {t:Fr} {a:Act}
theorem mX:∀{ks:List Nat} {xs ys:List AV} {b:Bool},cw ks xs ys=some b->xs.length=ks.length/\ys.length=ks.length
 | [],[],[],_,_=>⟨rfl,rfl⟩
 | [],[],_::_,_,h=>by simp[cw]at h
 | [],_::_,_,_,h=>by simp[cw]at h
 |_::_,[],_,_,h=>by simp[cw]at h
 |_::_,_::_,[],_,h=>by simp[cw]at h
 |k::ks,x::xs,y::ys,b,h=>by
  simp only[cw]at h;split at h
  ·rename_i p q h1 h2;have:=mX h2;simp[this.1,this.2]
  ·cases h
theorem ox:∀{ks O9:List Nat} {xs ys:List AV} {b:Bool},cw (ks++O9) xs ys=some b->
 ∃p q,cw ks (xs.take ks.length) (ys.take ks.length)=some p/\cw O9 (xs.drop ks.length) (ys.drop ks.length)=some q/\b=(p&&q)
 | [],O9,xs,ys,b,h=>⟨true,b,by simp[cw],by simpa using h,rfl⟩
 |k::ks,O9,xs,ys,b,h=>by
  cases xs with
  |nil=>simp[cw]at h
  |cons x xs=>
   cases ys with
   |nil=>simp[cw]at h
   |cons y ys=>
    simp only[List.cons_append,cw]at h;split at h
    ·rename_i p q h1 h2;cases h;obtain⟨p',q',h3,h4,rfl⟩:=ox h2;refine⟨p&&p',q',?_,by simpa using h4,by rw[Bool.and_assoc]⟩;simp only[alu,List.take_succ_cons,cw,h1,h3]
    ·cases h
def aeH (P:Program) (d:Nat) (T:TypeId) (ks:List Nat):Prop:=
 ∀(c:Ctx) (w:World) (xs ys:List AV) (us vs:List Value) (off:Nat) (b:Bool),bg c w xs us->bg c w ys vs->(P.info? T).map (·.size)=some ks.length->
  cw ks ((xs.drop off).take ks.length) ((ys.drop off).take ks.length)=some b->
  ∃u v,(part T us.toArray off).run P w=.ok u w/\(part T vs.toArray off).run P w=.ok v w/\(Op.equalIn d T u v).run P w=.ok b w
theorem nT {d:Nat} {sz:TypeId->Option (List Nat)} (jH:∀T ks,sz T=some ks->aeH P d T ks):
 ∀{fs:List Field} {acc:Nat} {ks:List Nat} {xs ys:List AV} {us vs:List Value} {b:Bool},u0 P sz fs acc=some ks->bg c w xs us->bg c w ys vs->
  cw ks ((xs.drop acc).take ks.length) ((ys.drop acc).take ks.length)=some b->(Op.eqFields d us.toArray vs.toArray fs).run P w=.ok b w
 | [],acc,ks,xs,ys,us,vs,b,h,_,_,he=>by
   simp only[u0,alJ]at h;subst h;simp[cw]at he;subst he;rfl
 |f::fs,acc,ks,xs,ys,us,vs,b,h,hx,hy,he=>by
  simp only[u0]at h;split at h
  ·rename_i s hs;split at h
   ·rename_i cW;obtain⟨h1,rfl,h3⟩:=cW;rw[alG]at h;obtain⟨r,hr,rfl⟩:=h;obtain⟨p,q,hp,hq,rfl⟩:=ox he;rw[List.take_take,List.take_take,Nat.min_eq_left (by simp)]at hp;rw[List.drop_take,List.drop_take,List.drop_drop,List.drop_drop]at hq;have hle:(s++r).length-s.length=r.length:=by simp
    rw[hle]at hq;obtain⟨u,v,hu,hv,heq⟩:=jH _ _ hs c w xs ys us vs f.offset p hx hy h3 hp;have ih:=nT jH hr hx hy hq;simp only[Op.eqFields,ne_eq,h1,not_false_eq_true,if_true,alr,hu,hv,heq,alp,Sem.run_ite,alq,ih];cases p<;>simp
   ·cases h
  ·cases h
theorem nU {d:Nat} {e:TypeId} {s:List Nat} (hs:aeH P d e s) (hi:(P.info? e).map (·.size)=some s.length) {xs ys:List AV} {us vs:List Value} (hx:bg c w xs us) (hy:bg c w ys vs):
 ∀(n j:Nat) (b:Bool),cw (alA n s).flatten ((xs.drop (j*s.length)).take (n*s.length)) ((ys.drop (j*s.length)).take (n*s.length))=some b->
  (Op.eqItems d e s.length us.toArray vs.toArray (List.range' j n)).run P w=.ok b w
 |0,j,b,h=>by
  simp[cw]at h;subst h;simp[Op.eqItems]
 |n+1,j,b,h=>by
  rw[List.replicate_succ,List.flatten_cons]at h;obtain⟨p,q,hp,hq,rfl⟩:=ox h;have h1:s.length<=(n+1)*s.length:=by rw[Nat.succ_mul];omega
  rw[List.take_take,List.take_take,Nat.min_eq_left h1]at hp;have h2:(n+1)*s.length-s.length=n*s.length:=by rw[Nat.succ_mul];omega
  have h3:j*s.length+s.length=(j+1)*s.length:=by rw[Nat.succ_mul]
  rw[List.drop_take,List.drop_take,List.drop_drop,List.drop_drop,h2,h3]at hq;obtain⟨u,v,hu,hv,heq⟩:=hs c w xs ys us vs (j*s.length) p hx hy hi hp;have ih:=nU hs hi hx hy n (j+1) q hq;rw[List.range'_succ];simp only[Op.eqItems,alr,hu,hv,heq,alp,Sem.run_ite,alq,ih];cases p<;>simp
theorem mY (n:Nat) (s:List Nat):(alA n s).flatten.length=n*s.length:=by
 induction n with
 |zero=>simp
 |succ n ih=>rw[List.replicate_succ,List.flatten_cons,aln,ih,Nat.succ_mul];omega
theorem tL:∀(d:Nat) (T:TypeId) (ks:List Nat),gY P d T=some ks->∀D,d<=D->aeH P D T ks
 |0,T,ks,h,D,hD=>by simp[gY]at h
 |d+1,T,ks,h,0,hD=>by omega
 |d+1,T,ks,h,D+1,hD=>by
  intro c w xs ys us vs off b hx hy hi he;have scalar:∀k,ks=[k]->(isAgg T).run P w=.ok false w->(∀x y u v,Rel c w x u->Rel c w y v->qG k x y=some b->(Op.equalIn (D+1) T u v).run P w=.ok b w)->
   ∃u v,(part T us.toArray off).run P w=.ok u w/\(part T vs.toArray off).run P w=.ok v w/\(Op.equalIn (D+1) T u v).run P w=.ok b w:=by
   intro k hk pR hsc;subst hk;have hl:=mX he;cases hxd:xs.drop off with
   |nil=>rw[hxd]at hl;simp at hl
   |cons x xr=>
    cases hyd:ys.drop off with
    |nil=>rw[hyd]at hl;simp at hl
    |cons y yr=>
     rw[hxd,hyd]at he;simp only[alu,alB,alo,List.take_succ_cons,List.take_zero,cw]at he;split at he
     ·rename_i p q h1 h2;cases h2;cases he;obtain⟨u,hu,lJ⟩:=(hx.drop off).get (i:=0) (x:=x) (by rw[hxd];rfl);obtain⟨v,hv,Q8⟩:=(hy.drop off).get (i:=0) (x:=y) (by rw[hyd];rfl);have Z3:us[off]?=some u:=by rw[<-hu,List.getElem?_drop];simp
      have Ek:vs[off]?=some v:=by rw[<-hv,List.getElem?_drop];simp
      refine⟨u,v,?_,?_,hsc x y u v lJ Q8 (by simpa using h1)⟩;·simp only[part,alr,pR,alp,aly,if_false,List.getElem?_toArray,Z3,alq]
      ·simp only[part,alr,pR,alp,aly,if_false,List.getElem?_toArray,Ek,alq]
     ·cases he
  simp only[gY]at h;split at h
  ·rename_i k hu;cases h;refine scalar 0 rfl (by simp[isAgg,underlying,hu]) λx y u v hx hy h=>?_;unfold qG at h;split at h
   ·have e1:=c6 hx;have e2:=c6 hy;subst e1 e2;split at h
    ·rename_i hkk;subst hkk;cases h;rw[run_equalIn_int w D T _ k _ _ hu];rfl
    ·cases h
   ·cases‹(0:Nat)=1›
   ·cases‹(0:Nat)=2›
   ·cases h
  ·rename_i hu;cases h;refine scalar 1 rfl (by simp[isAgg,underlying,hu]) λx y u v hx hy h=>?_;unfold qG at h;split at h;·cases‹(1:Nat)=0›
   ·have e1:=fQ hx;have e2:=fQ hy;subst e1 e2;cases h;rw[run_equalIn_bool' w D T _ _ hu]
   ·cases‹(1:Nat)=2›
   ·cases h
  ·rename_i hu;cases h;refine scalar 2 rfl (by simp[isAgg,underlying,hu]) λx y u v hx hy h=>?_;unfold qG at h;split at h;·cases‹(2:Nat)=0›
   ·cases‹(2:Nat)=1›
   ·have e1:=gq hx;have e2:=gq hy;subst e1 e2;cases h;rw[run_equalIn_string w D T _ _ hu];simp only[ByteArray.toList_mk]
    congr 1
    rw[Bool.eq_iff_iff];simp
   ·cases h
  ·rename_i fs hu;split at h;·cases h
   ·rename_i nB;have pR:(isAgg T).run P w=.ok true w:=by simp[isAgg,underlying,hu]
    obtain⟨i,gK,Ui⟩:=alG.1 hi;have hfo:P.fieldsOf T=fs:=by simp[Program.fieldsOf,hu]
    have uY:∀zs:List Value,zs.toArray.extract off (off+ks.length)=((zs.drop off).take ks.length).toArray:=by
     intro zs;apply Array.ext';simp only[Array.toList_extract,List.extract_eq_take_drop];simp
    refine⟨.agg ((us.drop off).take ks.length).toArray,.agg ((vs.drop off).take ks.length).toArray,?_,?_,?_⟩;·simp only[part,alr,pR,alp,if_true,run_sizeOf gK,Ui,alq,uY]
    ·simp only[part,alr,pR,alp,if_true,run_sizeOf gK,Ui,alq,uY]
    ·rw[run_equalIn_struct w D T _ _ (by rw[hfo];exact hu) (by simpa using nB),hfo];refine nT (λT' O9 h'=>tL d T' O9 h' D (by omega)) h ((hx.drop off).take _) ((hy.drop off).take _) ?_;rw[als,als,List.take_take,List.take_take,Nat.min_self];exact he
  ·rename_i q e hu;split at h
   ·rename_i i s Ev hse;split at h
    ·rename_i jH;cases h;have pR:(isAgg T).run P w=.ok true w:=by simp[isAgg,underlying,hu]
     obtain⟨i',gK,Ui⟩:=alG.1 hi;have uY:∀zs:List Value,zs.toArray.extract off (off+(alA q s).flatten.length)=((zs.drop off).take (alA q s).flatten.length).toArray:=by
      intro zs;apply Array.ext';simp only[Array.toList_extract,List.extract_eq_take_drop];simp
     refine⟨.agg ((us.drop off).take (alA q s).flatten.length).toArray,.agg ((vs.drop off).take (alA q s).flatten.length).toArray,?_,?_,?_⟩;·simp only[part,alr,pR,alp,if_true,run_sizeOf gK,Ui,alq,uY]
     ·simp only[part,alr,pR,alp,if_true,run_sizeOf gK,Ui,alq,uY]
     ·have sf:P.cellsOf e=s.length:=by simp[Program.cellsOf,Ev,jH]
      rw[run_equalIn_array w D _ _ hu Ev,sf,List.range_eq_range'];refine nU (tL d e s hse D (by omega)) (by rw[Ev];exact congrArg some jH) ((hx.drop off).take _) ((hy.drop off).take _) q 0 b ?_;rw[Nat.zero_mul,als,als,mY,List.take_take,List.take_take,Nat.min_self];rw[mY]at he;exact he
    ·cases h
   ·cases h
  ·cases h
theorem wE {op:BinOp} {neg:Bool} (A9:(op=.eql/\neg=false)\/(op=.neq/\neg=true)) {T:TypeId} {ks:List Nat} (hu:(∃fs,P.underlying T=some (.struct fs))\/∃q e,P.underlying T=some (.array q e))
 (hk:gY P 20 T=some ks) (hg:P.eqGuardType P.depth T=false) {x y:Operand} (hF:FR c w t a.tmps) (hM:MR c m w) {v:AV} {e:gk} (he:bq (.eqs ks neg (bm x) (bm y)) t m n=some (v,e)):
 fa P (do pure (.value (<-(do eqGuard op T x y (a.eval x) (a.eval y);binOp op T (a.eval x) (a.eval y))))) c m n w v e:=by
 have hx:=bL hF x;have hy:=bL hF y;simp only[bq]at he;split at he
 ·rename_i xs ys h1 h2;rw[h1]at hx;rw[h2]at hy;rw[alG]at he;obtain⟨b,hb,he⟩:=he;cases he;obtain⟨us,e1,lJ⟩:=pd hx;obtain⟨vs,e2,Q8⟩:=pd hy;have heq:(Op.equalIn 10000 T (.agg us.toArray) (.agg vs.toArray)).run P w=.ok b w:=by
   have hl:=mX hb;rcases hu with⟨fs,hu⟩|⟨q,el,hu⟩
   rotate_left
   ·rw[show(20:Nat)=19+1 from rfl,gY,hu]at hk;dsimp only at hk;split at hk
    ·rename_i i s Ev hse;split at hk
     ·rename_i jH;cases hk;have sf:P.cellsOf el=s.length:=by simp[Program.cellsOf,Ev,jH]
      rw[run_equalIn_array w 9999 _ _ hu Ev,sf,List.range_eq_range'];refine nU (tL 19 el s hse 9999 (by omega)) (by rw[Ev];exact congrArg some jH) lJ Q8 q 0 b ?_;rw[mY]at hl;rw[Nat.zero_mul,als,als,alx (by omega),alx (by omega)];exact hb
     ·cases hk
    ·cases hk
   have hfo:P.fieldsOf T=fs:=by simp[Program.fieldsOf,hu]
   rw[show(20:Nat)=19+1 from rfl,gY,hu]at hk;dsimp only at hk;split at hk;·cases hk
   ·rename_i nB;rw[run_equalIn_struct w 9999 T _ _ (by rw[hfo];exact hu) (by simpa using nB),hfo];refine nT (λT' O9 h'=>tL 19 T' O9 h' 9999 (by omega)) hk lJ Q8 ?_;have hl:=mX hb;rw[als,als,alx (by omega),alx (by omega)];exact hb
  refine bH hM ?_ (lq _);rw[e1,e2];rcases A9 with⟨rfl,rfl⟩|⟨rfl,rfl⟩;·simp only[alr,run_eqGuard_agg _ _ _ _ _ _ _ hg,alp,run_eql_struct,heq,Bool.bne_false]
  ·simp only[alr,run_eqGuard_agg _ _ _ _ _ _ _ hg,alp,run_neq_struct,heq,Bool.bne_true]
 ·cases he
end
end Go.Jq
namespace Go.Jq
open Go
section
variable{P:Program} {c:Ctx} {m:Mem} {n:Nat} {w:World} {t:Fr} {a:Act}
def Uj (P:Program) (d:Nat) (T:TypeId) (ks:List Nat):Prop:=
 ∀(w:World) (em:Bool) (us:List Value) (off:Nat),off+ks.length<=us.length->(P.info? T).map (·.size)=some ks.length->
  ∃u,(part T us.toArray off).run P w=.ok u w/\(Instr.checkKey em d T u).run P w=.ok () w
theorem uI {d:Nat} {em:Bool} {sz:TypeId->Option (List Nat)} (jH:∀T ks,sz T=some ks->Uj P d T ks) {us:List Value}:
 ∀{fs:List Field} {acc:Nat} {ks:List Nat},u0 P sz fs acc=some ks->acc+ks.length<=us.length->
  (forIn fs PUnit.unit λf _=>(if f.name≠ "_"then(do Instr.checkKey em d f.type (<-part f.type us.toArray f.offset);pure (ForInStep.yield PUnit.unit))else pure (ForInStep.yield PUnit.unit):Sem (ForInStep PUnit))).run P w=.ok PUnit.unit w
 | [],acc,ks,h,_=>by simp
 |f::fs,acc,ks,h,hl=>by
  simp only[u0]at h;split at h
  ·rename_i s hs;split at h
   ·rename_i cW;obtain⟨h1,rfl,h3⟩:=cW;rw[alG]at h;obtain⟨r,hr,rfl⟩:=h;rw[aln]at hl;obtain⟨u,hu,hc⟩:=jH _ _ hs w em us f.offset (by omega) h3;have ih:=uI (em:=em) jH hr (us:=us) (by omega);simp only[List.forIn_cons,alr,ne_eq,h1,not_false_eq_true,if_true,hu,hc,alp,alq];exact ih
   ·cases h
  ·cases h
theorem wF {d:Nat} {em:Bool} {e:TypeId} {s:List Nat} {i:TypeInfo} (hs:Uj P d e s) (Ev:P.info? e=some i) (hi:i.size=s.length) {us:List Value}:
 ∀(q j:Nat),(j+q)*s.length<=us.length->
  (forIn (List.range' j q) PUnit.unit λk _=>(do Instr.checkKey em d e (<-part e us.toArray (k*(<-sizeOf e)));pure (ForInStep.yield PUnit.unit):Sem (ForInStep PUnit))).run P w=.ok PUnit.unit w
 |0,j,_=>by simp
 |q+1,j,hl=>by
  have h1:j*s.length+s.length<=us.length:=by
   refine Nat.le_trans ?_ hl;rw[<-Nat.succ_mul];exact Nat.mul_le_mul_right _ (by omega)
  obtain⟨u,hu,hc⟩:=hs w em us (j*s.length) h1 (by rw[Ev];exact congrArg some hi);have ih:=wF (em:=em) hs Ev hi (us:=us) q (j+1) (by rw[show j+1+q=j+(q+1) by omega];exact hl);rw[List.range'_succ];simp only[List.forIn_cons,alr,run_sizeOf Ev,hi,alp,hu,hc,alq];exact ih
theorem Cd:∀(d:Nat) (T:TypeId) (ks:List Nat),gY P d T=some ks->∀D,d<=D->Uj P D T ks
 |0,T,ks,h,D,hD=>by simp[gY]at h
 |d+1,T,ks,h,0,hD=>by omega
 |d+1,T,ks,h,D+1,hD=>by
  intro w em us off hl hi;have scalar:∀k,ks=[k]->(isAgg T).run P w=.ok false w->(∀u,(Instr.checkKey em (D+1) T u).run P w=.ok () w)->
   ∃u,(part T us.toArray off).run P w=.ok u w/\(Instr.checkKey em (D+1) T u).run P w=.ok () w:=by
   intro k hk pR hsc;subst hk;have bn:off<us.length:=by simp at hl;omega
   exact⟨us[off],by simp[part,pR,bn],hsc _⟩
  obtain⟨i',gK,Ui⟩:=alG.1 hi;have uY:∀k:Nat,us.toArray.extract off (off+k)=((us.drop off).take k).toArray:=by
   intro k;apply Array.ext';simp only[Array.toList_extract,List.extract_eq_take_drop];simp
  have ab9:∀b,(isAgg T).run P w=.ok b w->b=true->(part T us.toArray off).run P w=.ok (.agg ((us.drop off).take ks.length).toArray) w:=by
   rintro b hb rfl;simp only[part,alr,hb,alp,if_true,run_sizeOf gK,Ui,alq,uY]
  simp only[gY]at h;split at h
  ·rename_i k hu;cases h;exact scalar 0 rfl (by simp[isAgg,underlying,hu]) λu=>by simp[Instr.checkKey,underlying,hu]
  ·rename_i hu;cases h;exact scalar 1 rfl (by simp[isAgg,underlying,hu]) λu=>by simp[Instr.checkKey,underlying,hu]
  ·rename_i hu;cases h;exact scalar 2 rfl (by simp[isAgg,underlying,hu]) λu=>by simp[Instr.checkKey,underlying,hu]
  ·rename_i fs hu;split at h;·cases h
   ·refine⟨_,ab9 true (by simp[isAgg,underlying,hu]) rfl,?_⟩;have:=uI (w:=w) (em:=em) (us:=(us.drop off).take ks.length) (λT' O9 h'=>Cd d T' O9 h' D (by omega)) h (by simp;omega);simp only[Instr.checkKey,alr,underlying,run_program,alp,hu,alq];rw[<-Array.forIn_toList];simp at this⊢;rw[this];rfl
  ·rename_i q e hu;split at h
   ·rename_i i s Ev hse;split at h
    ·rename_i jH;cases h;refine⟨_,ab9 true (by simp[isAgg,underlying,hu]) rfl,?_⟩;have:=wF (w:=w) (em:=em) (us:=(us.drop off).take (alA q s).flatten.length) (Cd d e s hse D (by omega)) Ev jH q 0 (by
      rw[mY]at hl⊢;simp;omega)
     simp only[Instr.checkKey,alr,underlying,run_program,alp,hu,alq];simp only[Std.Legacy.Range.forIn_eq_forIn_range',Std.Legacy.Range.size,Nat.sub_zero,Nat.add_one_sub_one,Nat.div_one];simp at this⊢;rw[this];rfl
    ·cases h
   ·cases h
  ·cases h
theorem Fi {T:TypeId} {ks:List Nat} (hu:(∃fs,P.underlying T=some (.struct fs))\/∃q e,P.underlying T=some (.array q e)) (hk:gY P 20 T=some ks) {xs ys:List AV} {us vs:List Value} {b:Bool}
 (lJ:bg c w xs us) (Q8:bg c w ys vs) (hb:cw ks xs ys=some b):(Op.equalIn 10000 T (.agg us.toArray) (.agg vs.toArray)).run P w=.ok b w:=by
 have hl:=mX hb;rcases hu with⟨fs,hu⟩|⟨q,el,hu⟩
 ·have hfo:P.fieldsOf T=fs:=by simp[Program.fieldsOf,hu]
  rw[show(20:Nat)=19+1 from rfl,gY,hu]at hk;dsimp only at hk;split at hk;·cases hk
  ·rename_i nB;rw[run_equalIn_struct w 9999 T _ _ (by rw[hfo];exact hu) (by simpa using nB),hfo];refine nT (λT' O9 h'=>tL 19 T' O9 h' 9999 (by omega)) hk lJ Q8 ?_;rw[als,als,alx (by omega),alx (by omega)];exact hb
 ·rw[show(20:Nat)=19+1 from rfl,gY,hu]at hk;dsimp only at hk;split at hk
  ·rename_i i s Ev hse;split at hk
   ·rename_i jH;cases hk;have sf:P.cellsOf el=s.length:=by simp[Program.cellsOf,Ev,jH]
    rw[run_equalIn_array w 9999 _ _ hu Ev,sf,List.range_eq_range'];refine nU (tL 19 el s hse 9999 (by omega)) (by rw[Ev];exact congrArg some jH) lJ Q8 q 0 b ?_;rw[mY]at hl;rw[Nat.zero_mul,als,als,alx (by omega),alx (by omega)];exact hb
   ·cases hk
  ·cases hk
theorem mi {T:TypeId} {ks:List Nat} (hu:(∃fs,P.underlying T=some (.struct fs))\/∃q e,P.underlying T=some (.array q e)) (hk:gY P 20 T=some ks) {kc:List AV} {us:List Value} (lJ:bg c w kc us):
 ∀(es:List MapEntry) (kv:List AV) (r:Option Nat) (i0:Nat),bg c w kv (es.flatMap λe=>[e.key,e.val])->j8 ks kc kv=some r->
  (r=none/\(Instr.findAsking T (.agg us.toArray) es i0).run P w=.ok none w)\/
  ∃j e x Q9 vs,r=some j/\es[j]?=some e/\(Instr.findAsking T (.agg us.toArray) es i0).run P w=.ok (some (i0+j,e.val)) w/\kv[2*j+1]?=some x/\Rel c w x e.val/\
   e.key=.agg vs.toArray/\bg c w Q9 vs/\cw ks kc Q9=some true
 | [],kv,r,i0,hr,h=>by
   simp only[List.flatMap_nil]at hr;have:=hr;cases kv with
   |nil=>simp only[j8,alJ]at h;exact .inl ⟨h.symm,by simp[Instr.findAsking]⟩
   |cons x kv=>simp only[bg]at this;obtain⟨_,_,h0,_⟩:=this;cases h0
 |e::es,kv,r,i0,hr,h=>by
  cases kv with
  |nil=>simp[bg]at hr
  |cons k kv=>
   cases kv with
   |nil=>simp[bg]at hr
   |cons x kv=>
    simp only[alO,List.cons_append,al8,bg]at hr;obtain⟨v1,r1,h1,I5,v2,r2,rfl,hx2,hr⟩:=hr;simp only[List.cons.injEq]at h1;obtain⟨rfl,rfl,rfl⟩:=h1;cases k with
    |agg cs=>
     simp only[j8]at h;obtain⟨vs,B6,Q8⟩:=pd I5;split at h
     ·rename_i heq;cases h;refine .inr ⟨0,e,x,cs,vs,rfl,rfl,?_,rfl,hx2,B6,Q8,heq⟩;have:=Fi (P:=P) hu hk lJ Q8 heq;simp only[Instr.findAsking,Op.equal,Op.maxDepth,B6,alr,this,alp,if_true,alq,Nat.add_zero]
     ·rename_i heq;rw[alG]at h;obtain⟨o,ho,rfl⟩:=h;have h2:=Fi (P:=P) hu hk lJ Q8 heq;have aca:(Instr.findAsking T (.agg us.toArray) (e::es) i0).run P w=(Instr.findAsking T (.agg us.toArray) es (i0+1)).run P w:=by
       simp only[Instr.findAsking,Op.equal,Op.maxDepth,B6,alr,h2,alp,aly,if_false]
      rcases mi hu hk lJ es kv o (i0+1) hr ho with⟨rfl,h3⟩|⟨j,e',x',Q9,o6,rfl,h3,h4,h5,h6⟩;·exact .inl ⟨rfl,aca.trans h3⟩
      ·refine .inr ⟨j+1,e',x',Q9,o6,rfl,by simpa using h3,aca.trans (by rw[h4];congr 3;omega),by simpa[Nat.mul_add]using h5,h6⟩
     ·cases h
    |_=>simp[j8]at h
theorem Ab:∀{ks:List Nat} {xs ys:List AV} {us vs:List Value},cw ks xs ys=some true->bg c w xs us->bg c w ys vs->
 vs.length=us.length/\((vs.zip us).all λ(x,y)=>Instr.sameBits 9999 x y)=true
 | [],[],[],us,vs,_,hx,hy=>by simp only[bg]at hx hy;subst hx hy;simp
 | [],[],_::_,_,_,h,_,_=>by simp[cw]at h
 | [],_::_,_,_,_,h,_,_=>by simp[cw]at h
 |_::_,[],_,_,_,h,_,_=>by simp[cw]at h
 |_::_,_::_,[],_,_,h,_,_=>by simp[cw]at h
 |k::ks,x::xs,y::ys,us,vs,h,hx,hy=>by
  simp only[bg]at hx hy;obtain⟨u,us,rfl,hu,hx⟩:=hx;obtain⟨v,vs,rfl,hv,hy⟩:=hy;simp only[cw]at h;split at h
  ·rename_i a b h1 h2;simp only[alJ,alE]at h;obtain⟨rfl,rfl⟩:=h;obtain⟨i1,i2⟩:=Ab h2 hx hy;refine⟨by simp[i1],?_⟩;simp only[List.zip_cons_cons,List.all_cons,i2,Bool.and_true];unfold qG at h1;split at h1
   ·have e1:=c6 hu;have e2:=c6 hv;subst e1 e2;split at h1
    ·simp only[alJ,decide_eq_true_eq]at h1;rename_i hk;subst hk h1;simp[Instr.sameBits]
    ·cases h1
   ·have e1:=fQ hu;have e2:=fQ hv;subst e1 e2;simp only[alJ,beq_iff_eq]at h1;subst h1;simp[Instr.sameBits]
   ·have e1:=gq hu;have e2:=gq hv;subst e1 e2;simp only[alJ,decide_eq_true_eq]at h1;subst h1;simp only[Instr.sameBits];exact(MapKept.bytes_beq _ _).2 rfl
   ·cases h1
  ·cases h
theorem wG {id b:Nat} {cs:List AV} (hM:MR c m w) (hid:ai m id=some cs) (fZ:c.φ id=.mp b):
 ∃es kv,¬c.dY b/\w.heap[b]?=some (.map es es.size)/\es.toList.map (·.born)=alI es.size/\cs=.cC []::kv/\bg c w kv (es.toList.flatMap λe=>[e.key,e.val]):=by
 rcases hM.own id cs hid with⟨h0,_⟩|⟨_,_,_,_,h0,_⟩|⟨b',es,kv,hb,hi,hw,hf,hc,hr⟩;·rw[h0]at fZ;cases fZ
 ·rw[h0]at fZ;cases fZ
 ·rw[hb]at fZ;cases fZ;exact⟨es,kv,hi,hw,hf,hc,hr⟩
theorem MR.Ce {id b:Nat} {old yF:List AV} {es es':Array MapEntry} (hM:MR c m w) (hid:ai m id=some old) (fZ:c.φ id=.mp b) (jj:¬c.dY b) (hb:w.heap[b]?=some (.map es es.size))
 (pX:es'.toList.map (·.born)=alI es'.size) (hr:bg c w yF (es'.toList.flatMap λe=>[e.key,e.val])):
 let w':World:={w with heap:=w.heap.setIfInBounds b (.map es' es'.size)}
 MR c (ak m id (.cC []::yF)) w'/\Step (iV c m) c c w w'/\(∀k,iV c (ak m id (.cC []::yF)) k->iV c m k)/\jP c c w w':=by
 intro w';obtain⟨pQ,qK⟩:=MapKept.heap_set (o':=.map es' es'.size) hb;have yS:iV c m b:=⟨id,by rw[hid];rfl,j7.O5 fZ⟩;have ow:∀k q,dP w k=some q->dP w' k=some q:=λk q hq=>by
  by_cases ek:k=b;·subst ek;simp[dP,hb]at hq
  ·rw[iA (qK k ek)];exact hq
 have hl:jP c c w w':=⟨λ_ h=>h,λk hk=>qK k λek=>jj (ek▸hk),λ_ _=>rfl,ow⟩;have jH:w'.heap.size=w.heap.size:=by simp[w']
 refine⟨⟨λi cells hi=>?_,λi j k hi hj=>?_,λk hk=>by rw[jH];exact hM.dY k hk,hM.o7 hl.dY hl.same⟩,⟨rfl,rfl,rfl,by rw[jH];exact ali _,λk _ hk=>qK k λek=>hk (ek▸yS),ow,λ_ h=>h,λ_ h=>.inl h⟩,λk hk=>tF hid hk,hl⟩
 ·rw[bF]at hi;split at hi
  ·rename_i e;subst e;cases hi;exact .inr (.inr ⟨b,es',yF,fZ,jj,pQ,pX,rfl,gn hl _ _ hr⟩)
  ·rename_i e;refine(hM.own i cells hi).later hl λk hk=>⟨qK k λek=>e ?_,λMv=>hM.sep Mv ⟨i,by rw[hi];rfl,hk⟩⟩;exact hM.inj id i b (by rw[hid];rfl) (by rw[hi];rfl) (j7.O5 fZ) (ek▸hk)
 ·have key:∀i,(ai (ak m id (.cC []::yF)) i).isSome->(ai m i).isSome:=λi h=>by
   rw[bF]at h;split at h;·rename_i e;subst e;rw[hid];rfl
   ·exact h
  exact hM.inj i j k (key i hi) (key j hj)
theorem MR.aeI (hM:MR c m w) (hn:c.φ n=.free):
 MR (c.bind n (.mp w.heap.size)) (ak m n [.cC []]) (w.alloc (.map #[] 0))/\Step (iV c m) c (c.bind n (.mp w.heap.size)) w (w.alloc (.map #[] 0))/\
  (∀b,iV (c.bind n (.mp w.heap.size)) (ak m n [.cC []]) b->iV c m b\/w.heap.size<=b):=by
 obtain⟨pQ,qK⟩:=MapKept.heap_alloc w (.map #[] 0)
 have ow:∀k q,dP w k=some q->dP (w.alloc (.map #[] 0)) k=some q:=λk q hq=>by
  rw[iA (qK k (u1 hq))];exact hq
 have hl:jP c (c.bind n (.mp w.heap.size)) w (w.alloc (.map #[] 0)):=⟨λ_ h=>h,λk hk=>qK k (hM.dY k hk),tD hn λ_ h=>Ctx.cV h,ow⟩
 have jH:(w.alloc (.map #[] 0)).heap.size=w.heap.size+1:=by simp
 refine⟨⟨λi cells hi=>?_,λi j b hi hj B4 Fe=>?_,λb hb=>by rw[jH];exact Nat.lt_succ_of_lt (hM.dY b hb),hM.o7 hl.dY hl.same⟩,⟨rfl,rfl,rfl,by rw[jH];omega,λk hk _=>qK k hk,ow,λ_ h=>h,λ_ h=>.inl h⟩,λb hb=>?_⟩
 ·rw[bF]at hi;split at hi
  ·rename_i e;subst e;cases hi;exact .inr (.inr ⟨w.heap.size,#[],[],Ctx.bind_eq,λhi=>Nat.lt_irrefl _ (hM.dY _ hi),pQ,rfl,rfl,by simp[bg]⟩)
  ·exact(hM.own i cells hi).later hl λb hb=>⟨qK b (hM.lM ⟨i,by rw[hi];rfl,hb⟩),λMv=>hM.sep Mv ⟨i,by rw[hi];rfl,hb⟩⟩
 ·rw[bF]at hi hj;by_cases e1:n=i
  ·by_cases e2:n=j;·exact e1.symm.trans e2
   ·exfalso;subst e1;rw[Ctx.bind_eq]at B4;cases B4;rw[if_neg e2]at hj;rw[Ctx.cV (Ne.symm e2)]at Fe;exact Nat.lt_irrefl _ (hM.lM ⟨j,hj,Fe⟩)
  ·by_cases e2:n=j
   ·exfalso;subst e2;rw[Ctx.bind_eq]at Fe;cases Fe;rw[if_neg e1]at hi;rw[Ctx.cV (Ne.symm e1)]at B4;exact Nat.lt_irrefl _ (hM.lM ⟨i,hi,B4⟩)
   ·rw[if_neg e1]at hi;rw[if_neg e2]at hj;rw[Ctx.cV (Ne.symm e1)]at B4;rw[Ctx.cV (Ne.symm e2)]at Fe;exact hM.inj i j b hi hj B4 Fe
 ·obtain⟨id,hid,hb⟩:=hb;rw[bF]at hid;by_cases e:n=id;·subst e;rw[Ctx.bind_eq]at hb;cases hb;exact .inr (ali _)
  ·rw[if_neg e]at hid;rw[Ctx.cV (Ne.symm e)]at hb;exact .inl ⟨id,hid,hb⟩
theorem qL {T:TypeId} {ks:List Nat} (h:pP P T=some ks):
 ((∃fs,P.underlying T=some (.struct fs))\/∃q e,P.underlying T=some (.array q e))/\gY P 20 T=some ks/\(P.info? T).map (·.size)=some ks.length:=by
 unfold pP at h;split at h
 ·rename_i fs hu;rw[Option.bind_eq_some_iff]at h;obtain⟨O9,h1,h2⟩:=h;split at h2;·cases h2;exact⟨.inl ⟨_,hu⟩,h1,by assumption⟩
  ·cases h2
 ·rename_i q e hu;rw[Option.bind_eq_some_iff]at h;obtain⟨O9,h1,h2⟩:=h;split at h2;·cases h2;exact⟨.inr ⟨_,_,hu⟩,h1,by assumption⟩
  ·cases h2
 ·cases h
theorem mj {T:TypeId} {ks:List Nat} (h:pP P T=some ks) (em:Bool) {us:List Value} (hl:us.length=ks.length):(Instr.checkKey em 10000 T (.agg us.toArray)).run P w=.ok () w:=by
 obtain⟨hu,hk,hi⟩:=qL h;obtain⟨u,h1,h2⟩:=Cd 20 T ks hk 10000 (by omega) w em us 0 (by omega) hi;have pR:(isAgg T).run P w=.ok true w:=by rcases hu with⟨fs,hu⟩|⟨q,e,hu⟩<;>simp[isAgg,underlying,hu]
 obtain⟨i,gK,Ui⟩:=alG.1 hi;have hp:(part T us.toArray 0).run P w=.ok (.agg us.toArray) w:=by
  simp only[part,alr,pR,alp,if_true,run_sizeOf gK,Ui,alq]
  congr 2
  apply Array.ext';simp only[Array.toList_extract,List.extract_eq_take_drop];simp[<-hl]
 rw[hp]at h1;cases h1;exact h2
theorem jJ {T:TypeId} (hu:(∃fs,P.underlying T=some (.struct fs))\/∃q e,P.underlying T=some (.array q e)) (k:Value) (es:List MapEntry):
 (Instr.findKey T k es).run P w=(Instr.findAsking T k es 0).run P w:=by
 have agz:∀d,P.underlying T=some d->(Instr.findKey T k es).run P w=(match Instr.findNow d k es 0 with|some r=>(pure r:Sem _)|none=>Instr.findAsking T k es 0).run P w:=λd hd=>by
  simp only[Instr.findKey,alr,underlying,run_program,alp,hd,alq];cases Instr.findNow d k es 0<;>rfl
 rcases hu with⟨fs,hu⟩|⟨q,e,hu⟩
 ·rw[agz _ hu];cases es with
  |nil=>simp[Instr.findNow,Instr.findAsking]
  |cons e es=>simp[Instr.findNow,Instr.sameNow]
 ·rw[agz _ hu];cases es with
  |nil=>simp[Instr.findNow,Instr.findAsking]
  |cons e es=>simp[Instr.findNow,Instr.sameNow]
theorem MG {T:TypeId} (hM:MR c m w) (hn:c.φ n=.free):fa P (do pure (.value (<-Instr.makeMap T none))) c m n w (.uF n) (.new [.cC []]):=by
 obtain⟨h1,h2,h3⟩:=hM.aeI hn;refine⟨.value (.map (some w.heap.size)),w.alloc (.map #[] 0),c.bind n (.mp w.heap.size),by simp[Instr.makeMap],.inl ⟨_,rfl,?_⟩,h1,h2,λ_ h=>Ctx.cV (h.resolve_right (by simp[gk.next])),h3⟩
 simp only[Rel];exact⟨_,Ctx.bind_eq,rfl⟩
theorem MH {T kT eT:TypeId} {ks:List Nat} {i:TypeInfo} {zv:Value} (hT:P.underlying T=some (.map kT eT)) (hk:pP P kT=some ks) (hi:P.info? eT=some i) (hz:i.zero=some zv) {id:Nat} {kc kv:List AV} {us:List Value} {x:AV} {ok:Bool} {mv:Value}
 (hM:MR c m w) (hid:ai m id=some (.cC []::kv)) (Ra:Rel c w (.uF id) mv) (lJ:bg c w kc us) (h:wm ks (IL zv) kc kv=some (x,ok)) (comma:Bool):
 ∃v,(Instr.lookup T mv (.agg us.toArray) comma).run P w=.ok (if comma then .tuple #[v,.bool ok]else v) w/\Rel c w x v:=by
 simp only[Rel]at Ra;obtain⟨b,hb,rfl⟩:=Ra;obtain⟨es,yF,jj,hw,pX,cq,hr⟩:=wG hM hid hb;cases cq;obtain⟨hu,r5,jH⟩:=qL hk;have hg:=MapKept.run_getObj_map (P:=P) hw;unfold wm at h;have hzero:(zeroValue eT).run P w=.ok zv w:=by simp[zeroValue,typeInfo,hi,hz]
 split at h
 rotate_left
 ·cases h
 rename_i hlen;have hl:us.length=ks.length:=by rw[lJ.length];exact hlen
 split at h
 ·rename_i j hf;rw[alG]at h;obtain⟨y,hy,h⟩:=h;cases h;rcases mi (P:=P) hu r5 lJ es.toList kv (some j) 0 hr hf with⟨h0,_⟩|⟨j',e,x',Q9,vs,h1,h2,h3,h4,h5,h6,h7,h8⟩;·cases h0
  ·cases h1;rw[h4]at hy;cases hy;refine⟨e.val,?_,h5⟩;simp only[Instr.lookup,alr,underlying,run_program,alp,hT,alq,hg,mj hk _ hl,jJ hu,h3]
 ·rename_i hf;cases h;rcases mi (P:=P) hu r5 lJ es.toList kv none 0 hr hf with⟨_,h3⟩|⟨j',e,x',Q9,vs,h1,_⟩
  ·refine⟨zv,?_,wq zv⟩;simp only[Instr.lookup,alr,underlying,run_program,alp,hT,alq,hg,mj hk _ hl,jJ hu,h3,hzero]
  ·cases h1
 ·cases h
theorem Fj {vs:List Value} {j:Nat} {v:Value} (hv:vs[j]?=some v):vs.set j v=vs:=by
 apply List.ext_getElem?;intro q;rw[List.getElem?_set];split
 ·rename_i e;subst e;split;·exact hv.symm
  ·rename_i h;rw[List.getElem?_eq_none (by omega)]
 ·rfl
theorem qM {α:Type} (f:α->α):∀(l:List α) (j:Nat) (e:α),l[j]?=some e->l.modify j f=l.set j (f e)
 | [],_,_,h=>by simp at h
 |x::l,0,e,h=>by simp at h;subst h;rfl
 |x::l,j+1,e,h=>by
  simp only[List.modify_succ_cons,List.set_cons_succ];rw[qM f l j e (by simpa using h)]
def fh (es:List MapEntry):List Value:=es.flatMap λe=>[e.key,e.val]
theorem wH:∀(es:List MapEntry) (j:Nat) (e:MapEntry),fh (es.set j e)=((fh es).set (2*j) e.key).set (2*j+1) e.val
 | [],_,_=>rfl
 |x::es,0,e=>rfl
 |x::es,j+1,e=>by
  have ih:=wH es j e;unfold fh at ih⊢;simp only[List.set_cons_succ,alO,List.cons_append,al8,ih,show 2*(j+1)=2*j+1+1 by omega]
theorem wI:∀(es:List MapEntry) (j:Nat) (e e0:MapEntry),es[j]?=some e0->e.born=e0.born->(es.set j e).map (·.born)=es.map (·.born)
 | [],_,_,_,h,_=>by simp at h
 |x::es,0,e,e0,h,hb=>by simp at h;subst h;simp[hb]
 |x::es,j+1,e,e0,h,hb=>by
  simp only[List.set_cons_succ,alz];rw[wI es j e e0 (by simpa using h) hb]
theorem wJ {ks:List Nat} {kc Q9:List AV} {us vs:List Value} (lJ:bg c w kc us) (Q8:bg c w Q9 vs) (h:cw ks kc Q9=some true):
 (Instr.keyThatStays (.agg vs.toArray) (.agg us.toArray)).run P w=.ok (.agg us.toArray) w:=by
 obtain⟨h1,h2⟩:=Ab h lJ Q8;have:Instr.sameBits 10000 (.agg vs.toArray) (.agg us.toArray)=true:=by
  simp only[Instr.sameBits,alE,beq_iff_eq,List.size_toArray];exact⟨h1,h2⟩
 simp only[Instr.keyThatStays,this,if_true,alq]
theorem Ew {T kT eT:TypeId} {ks:List Nat} (hT:P.underlying T=some (.map kT eT)) (hk:pP P kT=some ks) {id:Nat} {kc kv yF:List AV} {us:List Value} {x:AV} {v:Value} {mv:Value}
 (hM:MR c m w) (hid:ai m id=some (.cC []::kv)) (Ra:Rel c w (.uF id) mv) (lJ:bg c w kc us) (hx:Rel c w x v) (h:aeD ks kc x kv=some yF):
 ∃w',(Instr.mapUpdate T mv (.agg us.toArray) v).run P w=.ok () w'/\MR c (ak m id (.cC []::yF)) w'/\Step (iV c m) c c w w'/\(∀k,iV c (ak m id (.cC []::yF)) k->iV c m k)/\jP c c w w':=by
 simp only[Rel]at Ra;obtain⟨b,hb,rfl⟩:=Ra;obtain⟨es,kv0,jj,hw,pX,cq,hr⟩:=wG hM hid hb;cases cq;obtain⟨hu,r5,jH⟩:=qL hk;have hg:=MapKept.run_getObj_map (P:=P) hw;have jk:=λo=>MapKept.run_setObj_map (P:=P) o hw;unfold aeD at h;split at h
 rotate_left
 ·cases h
 rename_i hlen;have hl:us.length=ks.length:=by rw[lJ.length];exact hlen
 have Uk:Rel c w (.agg kc) (.agg us.toArray):=by simp only[Rel];exact⟨us,rfl,lJ⟩
 split at h
 ·rename_i j hf;cases h;rcases mi (P:=P) hu r5 lJ es.toList kv (some j) 0 hr hf with⟨h0,_⟩|⟨j',e,x',Q9,vs,h1,h2,h3,h4,h5,h6,h7,h8⟩;·cases h0
  ·cases h1;have Tw:(es.modify j λe=>{e with key:=.agg us.toArray,val:=v}).toList=es.toList.set j {e with key:=.agg us.toArray,val:=v}:=by
    rw[Array.toList_modify];exact qM _ _ _ _ h2
   have Ac:(es.modify j λe=>{e with key:=.agg us.toArray,val:=v}).size=es.size:=by simp
   have Gu:=hM.Ce (es':=es.modify j λe=>{e with key:=.agg us.toArray,val:=v}) (yF:=(kv.set (2*j) (.agg kc)).set (2*j+1) x) hid hb jj hw
    (by rw[Tw,Ac,wI es.toList j ⟨.agg us.toArray,v,e.born⟩ e h2 rfl];exact pX) (by
     rw[Tw];show bg c w _ (fh _);rw[wH];exact(hr.set _ Uk).set _ hx)
   refine⟨_,?_,Gu⟩;have hej:es[j]?=some e:=by rw[<-Array.getElem?_toList];exact h2
   simp only[Instr.mapUpdate,alr,underlying,run_program,alp,hT,alq,hg,mj hk _ hl,jJ hu,h3,alo,hej,alX,al6,h6,wJ lJ h7 h8,jk,Ac]
 ·rename_i hf;cases h;rcases mi (P:=P) hu r5 lJ es.toList kv none 0 hr hf with⟨_,h3⟩|⟨j',e,x',Q9,vs,h1,_⟩
  ·have Gu:=hM.Ce (es':=es.push {key:=.agg us.toArray,val:=v,born:=es.size}) (yF:=kv++[.agg kc,x]) hid hb jj hw
    (by simp[pX,List.range_succ]) (by
     rw[Array.toList_push,List.flatMap_append];refine hr.append ?_;simp only[alO,List.flatMap_nil,List.append_nil,bg];exact⟨_,_,rfl,Uk,_,_,rfl,hx,rfl⟩)
   refine⟨_,?_,Gu⟩;simp only[Instr.mapUpdate,alr,underlying,run_program,alp,hT,alq,hg,mj hk _ hl,jJ hu,h3,jk,Array.size_push]
  ·cases h1
 ·cases h
theorem Pa {es:List MapEntry} {n:Nat} (h:es.map (·.born)=alI n) {j:Nat} {e:MapEntry} (hj:es[j]?=some e):e.born=j:=by
 have h1:(es.map (·.born))[j]?=some e.born:=by rw[List.getElem?_map,hj];rfl
 rw[h]at h1;have h2:=(List.getElem?_eq_some_iff.1 h1);obtain⟨_,h3⟩:=h2;simpa using h3.symm
theorem qN (es:List MapEntry):(fh es).length=2*es.length:=by
 induction es with
 |nil=>rfl
 |cons e es ih=>unfold fh at ih⊢;simp only[alO,List.cons_append,al8,alu,ih];omega
theorem Gv {T kT eT:TypeId} {ks:List Nat} {i:TypeInfo} {zv:Value} (hT:P.underlying T=some (.map kT eT)) (hk:pP P kT=some ks) (hi:P.info? eT=some i) (hz:i.zero=some zv) {id:Nat} {kc kv yF:List AV} {us:List Value} {x:AV} {j:Nat} {mv:Value}
 (hM:MR c m w) (hid:ai m id=some (.cC []::kv)) (Ra:Rel c w (.uF id) mv) (lJ:bg c w kc us) (h:B2 ks (IL zv) kc kv=some (x,j,yF)):
 ∃w' v,(Instr.mapEntry T mv (.agg us.toArray)).run P w=.ok (.tuple #[v,.int .i64 (j:Int)]) w'/\Rel c w' x v/\MR c (ak m id (.cC []::yF)) w'/\Step (iV c m) c c w w'/\(∀k,iV c (ak m id (.cC []::yF)) k->iV c m k):=by
 simp only[Rel]at Ra;obtain⟨b,hb,rfl⟩:=Ra;obtain⟨es,kv0,jj,hw,pX,cq,hr⟩:=wG hM hid hb;cases cq;obtain⟨hu,r5,jH⟩:=qL hk;have hg:=MapKept.run_getObj_map (P:=P) hw;have jk:=λo=>MapKept.run_setObj_map (P:=P) o hw;have hzero:(zeroValue eT).run P w=.ok zv w:=by simp[zeroValue,typeInfo,hi,hz]
 unfold B2 at h;split at h
 rotate_left
 ·cases h
 rename_i hlen;have hl:us.length=ks.length:=by rw[lJ.length];exact hlen
 have Uk:Rel c w (.agg kc) (.agg us.toArray):=by simp only[Rel];exact⟨us,rfl,lJ⟩
 split at h
 ·rename_i j' hf;rw[alG]at h;obtain⟨y,hy,h⟩:=h;cases h;rcases mi (P:=P) hu r5 lJ es.toList kv (some j) 0 hr hf with⟨h0,_⟩|⟨j',e,x',Q9,vs,h1,h2,h3,h4,h5,h6,h7,h8⟩;·cases h0
  ·cases h1;rw[h4]at hy;cases hy;have Tw:(es.modify j λe=>{e with key:=.agg us.toArray}).toList=es.toList.set j {e with key:=.agg us.toArray}:=by
    rw[Array.toList_modify];exact qM _ _ _ _ h2
   have Ac:(es.modify j λe=>{e with key:=.agg us.toArray}).size=es.size:=by simp
   have r6:((fh es.toList).set (2*j) (.agg us.toArray)).set (2*j+1) e.val=(fh es.toList).set (2*j) (.agg us.toArray):=by
    refine Fj ?_;rw[List.getElem?_set_ne (by omega)];have:∀(l:List MapEntry) (j:Nat) (e:MapEntry),l[j]?=some e->(fh l)[2*j+1]?=some e.val:=by
     intro l;induction l with
     |nil=>intro j e h;simp at h
     |cons a l ih=>
      intro j e h;cases j with
      |zero=>simp at h;subst h;rfl
      |succ j=>have:=ih j e (by simpa using h);unfold fh at this⊢;simpa[show 2*(j+1)=2*j+1+1 by omega]using this
    exact this _ _ _ h2
   obtain⟨p1,p2,p3,p4⟩:=hM.Ce (es':=es.modify j λe=>{e with key:=.agg us.toArray}) (yF:=kv.set (2*j) (.agg kc)) hid hb jj hw
    (by rw[Tw,Ac,wI es.toList j ⟨.agg us.toArray,e.val,e.born⟩ e h2 rfl];exact pX) (by
     rw[Tw];show bg c w _ (fh _);rw[wH,r6];exact hr.set _ Uk)
   refine⟨_,e.val,?_,oo p4 _ _ h5,p1,p2,p3⟩;have hej:es[j]?=some e:=by rw[<-Array.getElem?_toList];exact h2
   have hbj:=Pa pX h2;simp only[Instr.mapEntry,alr,underlying,run_program,alp,hT,alq,hg,mj hk _ hl,jJ hu,h3,alo,hej,alX,al6,h6,wJ lJ h7 h8,jk,Ac,hbj,goInt]
 ·rename_i hf;cases h;rcases mi (P:=P) hu r5 lJ es.toList kv none 0 hr hf with⟨_,h3⟩|⟨j',e,x',Q9,vs,h1,_⟩
  ·obtain⟨p1,p2,p3,p4⟩:=hM.Ce (es':=es.push {key:=.agg us.toArray,val:=zv,born:=es.size}) (yF:=kv++[.agg kc,IL zv]) hid hb jj hw
    (by simp[pX,List.range_succ]) (by
     rw[Array.toList_push,List.flatMap_append];refine hr.append ?_;simp only[alO,List.flatMap_nil,List.append_nil,bg];exact⟨_,_,rfl,Uk,_,_,rfl,wq zv,rfl⟩)
   refine⟨_,zv,?_,wq zv,p1,p2,p3⟩;have Ug:kv.length/2=es.size:=by
    have:=hr.length;have h2:=qN es.toList;unfold fh at h2;simp only[Array.length_toList]at h2;omega
   simp only[Instr.mapEntry,alr,underlying,run_program,alp,hT,alq,hg,mj hk _ hl,jJ hu,h3,jk,Array.size_push,hzero,goInt,Ug]
  ·cases h1
 ·cases h
theorem uJ:∀(l:List MapEntry) (o j:Nat),(∀i e,l[i]?=some e->e.born=o+i)->j<l.length->l.findIdx? (λe=>((e.born:Nat):Int)==((o+j:Nat):Int))=some j
 | [],_,j,_,h=>by simp at h
 |e::l,o,0,hb,_=>by
  have:=hb 0 e rfl;simp[List.findIdx?_cons,this]
 |e::l,o,j+1,hb,h=>by
  have h0:=hb 0 e rfl;have pe:(((e.born:Nat):Int)==((o+(j+1):Nat):Int))=false:=by
   simp only[beq_eq_false_iff_ne,ne_eq,Int.natCast_inj,h0];omega
  have ih:=uJ l (o+1) j (λi e' hi=>by have:=hb (i+1) e' (by simpa using hi);omega) (by simpa using h);rw[List.findIdx?_cons,pe];rw[show o+(j+1)=o+1+j by omega,ih];simp
theorem Cf {T:TypeId} {id:Nat} {kv:List AV} {x:AV} {v:Value} {j:Nat} {mv:Value} (hM:MR c m w) (hid:ai m id=some (.cC []::kv)) (Ra:Rel c w (.uF id) mv) (hx:Rel c w x v) (hj:2*j+1<kv.length):
 ∃w',(Instr.entryStore T mv (.int .i64 (j:Int)) v).run P w=.ok () w'/\MR c (ak m id (.cC []::kv.set (2*j+1) x)) w'/\Step (iV c m) c c w w'/\(∀k,iV c (ak m id (.cC []::kv.set (2*j+1) x)) k->iV c m k):=by
 simp only[Rel]at Ra;obtain⟨b,hb,rfl⟩:=Ra;obtain⟨es,kv0,jj,hw,pX,cq,hr⟩:=wG hM hid hb;cases cq;have hg:=MapKept.run_getObj_map (P:=P) hw;have jk:=λo=>MapKept.run_setObj_map (P:=P) o hw;have Ug:=hr.length;have h2:=qN es.toList;unfold fh at h2;have hjl:j<es.toList.length:=by omega
 have hbj:∀{i:Nat} {e:MapEntry},es.toList[i]?=some e->e.born=i:=λh=>Pa pX h;have Mh:es.findIdx? (λe=>((e.born:Nat):Int)==((j:Nat):Int))=some j:=by
  have pV:∀(xs:Array MapEntry) (p:MapEntry->Bool),xs.findIdx? p=xs.toList.findIdx? p:=λxs p=>by cases xs;simp
  rw[pV];have:=uJ es.toList 0 j (λi e hi=>by rw[alo];exact hbj hi) hjl;simpa using this
 obtain⟨e,he⟩:∃e,es.toList[j]?=some e:=⟨es.toList[j],by simp⟩;have Tw:(es.modify j λe=>{e with val:=v}).toList=es.toList.set j {e with val:=v}:=by
  rw[Array.toList_modify];exact qM _ _ _ _ he
 have Ac:(es.modify j λe=>{e with val:=v}).size=es.size:=by simp
 have aeJ:∀(l:List MapEntry) (j:Nat) (e:MapEntry),l[j]?=some e->(fh l)[2*j]?=some e.key:=by
  intro l;induction l with
  |nil=>intro j e h;simp at h
  |cons a l ih=>
   intro j e h;cases j with
   |zero=>simp at h;subst h;rfl
   |succ j=>have:=ih j e (by simpa using h);unfold fh at this⊢;simpa[show 2*(j+1)=2*j+1+1 by omega]using this
 obtain⟨p1,p2,p3,p4⟩:=hM.Ce (es':=es.modify j λe=>{e with val:=v}) (yF:=kv.set (2*j+1) x) hid hb jj hw
  (by rw[Tw,Ac,wI es.toList j ⟨e.key,v,e.born⟩ e he rfl];exact pX) (by
   rw[Tw];show bg c w _ (fh _);rw[wH,Fj (aeJ _ _ _ he)];exact hr.set _ hx)
 refine⟨_,?_,p1,p2,p3⟩;simp only[Instr.entryStore,alr,alp,alq,hg,asInt,asIntOf,Mh,jk,Ac]
theorem jq {id:Nat} {kv:List AV} (h:mapOf m id=some kv):ai m id=some (.cC []::kv):=by
 unfold mapOf at h;split at h;·cases h;assumption
 ·cases h
theorem Cg {T:TypeId} {z:AV} (h:zeroV P T=some z):∃i zv,P.info? T=some i/\i.zero=some zv/\z=IL zv:=by
 unfold zeroV at h;split at h
 ·rename_i i hi;rw[alG]at h;obtain⟨zv,h1,h2⟩:=h;exact⟨i,zv,hi,h1,h2.symm⟩
 ·cases h
theorem Ul {T kT eT:TypeId} {ks:List Nat} {z:AV} {comma:Bool} {x k:Operand} (hT:P.underlying T=some (.map kT eT)) (hk:pP P kT=some ks) (hz:zeroV P eT=some z) (hF:FR c w t a.tmps) (hM:MR c m w) {v:AV} {e:gk}
 (he:bq (.j6 (.lkp ks z comma) [bm x,bm k]) t m n=some (v,e)):fa P (do pure (.value (<-Instr.lookup T (a.eval x) (a.eval k) comma))) c m n w v e:=by
 have hx:=bL hF x;have hy:=bL hF k;obtain⟨i,zv,hi,IQ,rfl⟩:=Cg hz;simp only[bq,alz,alL]at he;unfold mU at he;split at he<;>(try(cases‹me.lkp _ _ _=_›))
 ·rename_i id kc uH;simp only[List.cons.injEq,and_true]at uH;obtain⟨h1,h2⟩:=uH;rw[h1]at hx;rw[h2]at hy;obtain⟨us,hv,lJ⟩:=pd hy;split at he
  ·rename_i kv Um;rw[alG]at he;obtain⟨⟨y,ok⟩,hl,he⟩:=he;simp only[ama]at he;obtain⟨rfl,rfl⟩:=he;obtain⟨u,dJ,hr⟩:=MH hT hk hi IQ hM (jq Um) hx lJ hl comma;refine bH hM (by rw[hv];exact dJ) ?_;cases comma;·simpa using hr
   ·simp only[if_true,Rel];exact⟨[u,.bool ok],rfl,by simp only[bg];exact⟨_,_,rfl,hr,_,_,rfl,by simp[dZ,Rel,dS],rfl⟩⟩
  ·cases he
 ·cases he
theorem Fk {T kT eT:TypeId} {ks:List Nat} {x k y:Operand} (hT:P.underlying T=some (.map kT eT)) (hk:pP P kT=some ks) (hF:FR c w t a.tmps) (hM:MR c m w) {v:AV} {e:gk}
 (he:bq (.j6 (.TR ks) [bm x,bm k,bm y]) t m n=some (v,e)):fa P (do Instr.mapUpdate T (a.eval x) (a.eval k) (a.eval y);pure .skip) c m n w v e:=by
 have hx:=bL hF x;have hy:=bL hF k;have hz:=bL hF y;simp only[bq,alz,alL]at he;unfold mU at he;split at he<;>(try(cases‹me.TR _=_›))
 ·rename_i id kc vy uH;simp only[List.cons.injEq,and_true]at uH;obtain⟨h1,h2,rfl⟩:=uH;rw[h1]at hx;rw[h2]at hy;obtain⟨us,hv,lJ⟩:=pd hy;split at he
  ·rename_i kv Um;rw[alG]at he;obtain⟨yF,hl,he⟩:=he;simp only[ama]at he;obtain⟨rfl,rfl⟩:=he;obtain⟨w',dJ,yG,nB,ho,_⟩:=Ew hT hk hM (jq Um) hx lJ hz hl;refine⟨.skip,w',c,?_,.inr ⟨rfl,rfl⟩,yG,nB,λ_ _=>rfl,λb hb=>.inl (ho b hb)⟩;simp only[alr,hv,dJ,alp,alq]
  ·cases he
 ·cases he
theorem Rb {T kT eT:TypeId} {ks:List Nat} {z:AV} {x k:Operand} (hT:P.underlying T=some (.map kT eT)) (hk:pP P kT=some ks) (hz:zeroV P eT=some z) (hF:FR c w t a.tmps) (hM:MR c m w) {v:AV} {e:gk}
 (he:bq (.j6 (.TS ks z) [bm x,bm k]) t m n=some (v,e)):fa P (do pure (.value (<-Instr.mapEntry T (a.eval x) (a.eval k)))) c m n w v e:=by
 have hx:=bL hF x;have hy:=bL hF k;obtain⟨i,zv,hi,IQ,rfl⟩:=Cg hz;simp only[bq,alz,alL]at he;unfold mU at he;split at he<;>(try(cases‹me.TS _ _=_›))
 ·rename_i id kc uH;simp only[List.cons.injEq,and_true]at uH;obtain⟨h1,h2⟩:=uH;rw[h1]at hx;rw[h2]at hy;obtain⟨us,hv,lJ⟩:=pd hy;split at he
  ·rename_i kv Um;rw[alG]at he;obtain⟨⟨y,j,yF⟩,hl,he⟩:=he;simp only[ama]at he;obtain⟨rfl,rfl⟩:=he;obtain⟨w',u,dJ,hr,yG,nB,ho⟩:=Gv hT hk hi IQ hM (jq Um) hx lJ hl;refine⟨.value (.tuple #[u,.int .i64 (j:Int)]),w',c,?_,.inl ⟨_,rfl,?_⟩,yG,nB,λ_ _=>rfl,λb hb=>.inl (ho b hb)⟩
   ·simp only[alr,hv,dJ,alp,alq]
   ·simp only[Rel];exact⟨[u,.int .i64 (j:Int)],rfl,by simp only[bg];exact⟨_,_,rfl,hr,_,_,rfl,by simp[Rel,dS],rfl⟩⟩
  ·cases he
 ·cases he
theorem Rc {T:TypeId} {x j y:Operand} (hF:FR c w t a.tmps) (hM:MR c m w) {v:AV} {e:gk}
 (he:bq (.j6 .TT [bm x,bm j,bm y]) t m n=some (v,e)):fa P (do Instr.entryStore T (a.eval x) (a.eval j) (a.eval y);pure .skip) c m n w v e:=by
 have hx:=bL hF x;have hj:=bL hF j;have hz:=bL hF y;simp only[bq,alz,alL]at he;unfold mU at he;split at he<;>(try(cases‹me.TT=_›))
 ·rename_i id vj vy uH;simp only[List.cons.injEq,and_true]at uH;obtain⟨h1,h2,h3⟩:=uH;rw[h1]at hx;rw[h2]at hj;rw[h3]at hz;split at he
  ·rename_i kv Um;split at he
   ·rename_i cW;obtain⟨h0,bn⟩:=cW;cases he;have hju:a.eval j=.int .i64 vj:=by simpa only[Rel,dS]using hj
    obtain⟨w',dJ,yG,nB,ho⟩:=Cf (P:=P) (T:=T) hM (jq Um) hx hz bn;rw[Int.toNat_of_nonneg h0]at dJ;refine⟨.skip,w',c,?_,.inr ⟨rfl,rfl⟩,yG,nB,λ_ _=>rfl,λb hb=>.inl (ho b hb)⟩;simp only[alr,hju,dJ,alp,alq]
   ·cases he
  ·cases he
 ·cases he
theorem Re {ts:Array TypeId} {T kT eT ty:TypeId} {x:Operand} (h0:ts[0]?=some T) (hT:P.underlying T=some (.map kT eT)) (hF:FR c w t a.tmps) (hM:MR c m w) {v:AV} {e:gk}
 (he:bq (.j6 .ZS [bm x]) t m n=some (v,e)):fa P (do pure (.value (<-Builtin.len_ ts ty #[a.eval x]))) c m n w v e:=by
 have hx:=bL hF x;simp only[bq,alz,alL]at he;unfold mU at he;split at he<;>(try(cases‹me.ZS=_›))
 ·rename_i id _ uH;simp only[List.cons.injEq,and_true]at uH;rw[uH]at hx;rw[alG]at he;obtain⟨kv,Um,he⟩:=he;simp only[ama]at he;obtain⟨rfl,rfl⟩:=he;simp only[Rel]at hx;obtain⟨b,hb,hv⟩:=hx;obtain⟨es,kv0,jj,hw,pX,cq,hr⟩:=wG hM (jq Um) hb;cases cq;have hg:=MapKept.run_getObj_map (P:=P) hw;have hl:=hr.length;have h2:=qN es.toList;unfold fh at h2;have jH:es.size=kv.length/2:=by
   have:es.toList.length=es.size:=Array.length_toList;omega
  refine bH (u:=.int .i64 ((kv.length/2:Nat):Int)) hM ?_ (jI _ _);simp[Builtin.len_,h0,underlying,hT,hv,hg,goInt,jH]
 ·cases he
end
end Go.Jq
namespace Go.Jq
open Go
section
variable{P:Program} {c:Ctx} {m:Mem} {n:Nat} {w:World} {t:Fr} {a:Act}
theorem MJ {op:BinOp} {T:TypeId} {x y:Operand} {yT:TypeId} {ao:j5} (hc:l9 P (.binOp op T x y yT)=some ao) (hF:FR c w t a.tmps) (hM:MR c m w) {v:AV} {e:gk}
 (he:bq ao t m n=some (v,e)):fa P (do pure (.value (<-(do eqGuard op T x y (a.eval x) (a.eval y);binOp op T (a.eval x) (a.eval y))))) c m n w v e:=by
 simp only[l9]at hc;split at hc;·cases hc;exact IV hF hM he
 ·cases hc;exact IV hF hM he
 ·rename_i hu;split at hc<;>cases hc;·exact IW (.inl ⟨rfl,rfl⟩) hu hF hM he
  ·exact IW (.inr ⟨rfl,rfl⟩) hu hF hM he
 ·rename_i el hu;split at hc<;>cases hc;·exact IY (.inl ⟨rfl,rfl⟩) hu hF hM he
  ·exact IY (.inr ⟨rfl,rfl⟩) hu hF hM he
 ·rename_i hu;split at hc<;>cases hc;·exact Fh (.inl ⟨rfl,rfl⟩) hu hF hM he
  ·exact Fh (.inr ⟨rfl,rfl⟩) hu hF hM he
 ·rename_i hu;split at hc<;>cases hc;·exact IZ (.inl ⟨rfl,rfl⟩) hu hF hM he
  ·exact IZ (.inr ⟨rfl,rfl⟩) hu hF hM he
 ·rename_i fs hu;split at hc
  ·rename_i ks hk;split at hc;·cases hc
   ·rename_i hg;split at hc<;>cases hc;·exact wE (.inl ⟨rfl,rfl⟩) (.inl ⟨_,hu⟩) hk (by simpa using hg) hF hM he
    ·exact wE (.inr ⟨rfl,rfl⟩) (.inl ⟨_,hu⟩) hk (by simpa using hg) hF hM he
  ·cases hc
 ·rename_i q el hu;split at hc
  ·rename_i ks hk;split at hc;·cases hc
   ·rename_i hg;split at hc<;>cases hc;·exact wE (.inl ⟨rfl,rfl⟩) (.inr ⟨_,_,hu⟩) hk (by simpa using hg) hF hM he
    ·exact wE (.inr ⟨rfl,rfl⟩) (.inr ⟨_,_,hu⟩) hk (by simpa using hg) hF hM he
  ·cases hc
 ·cases hc
theorem Gw {s d:TypeId} {x:Operand} {ao:j5} (hc:l9 P (.convert s d x)=some ao) (hF:FR c w t a.tmps) (hM:MR c m w) (hn:c.φ n=.free) {v:AV} {e:gk}
 (he:bq ao t m n=some (v,e)):fa P (do pure (.value (<-convert s d (a.eval x)))) c m n w v e:=by
 simp only[l9]at hc;split at hc;·rename_i k k' h1 h2;cases hc;exact T7 h1 h2 hF hM he
 ·rename_i k h1 h2;cases hc;exact z1 (.inl ⟨k,h1⟩) h2 hF hM he
 ·rename_i h1 h2;cases hc;exact z1 (.inr h1) h2 hF hM he
 ·rename_i el h1 h2;split at hc;·rename_i h3;cases hc;exact QZ h1 h3 h2 hF hM he
  ·cases hc
 ·rename_i el h1 h2;split at hc;·rename_i h3;cases hc;exact Q0 h1 h2 h3 hF hM hn he
  ·cases hc
 ·rename_i e1 el h1 h2;split at hc
  ·rename_i hsd;subst hsd;split at hc;·rename_i h3;cases hc;exact Q1 h2 h3 hF hM he
   ·cases hc
  ·cases hc
 ·cases hc
theorem MK {T:TypeId} {x:Operand} {lo hi:Option Operand} {ao:j5} (hc:l9 P (.slice T x lo hi none)=some ao) (hF:FR c w t a.tmps) (hM:MR c m w) {v:AV} {e:gk}
 (he:bq ao t m n=some (v,e)):fa P (do pure (.value (<-Instr.sliceAt T (a.eval x) (lo.map a.eval) (hi.map a.eval) none))) c m n w v e:=by
 simp only[l9]at hc;split at hc;·rename_i hu;cases hc;exact QX hu hF hM he
 ·rename_i el hu;split at hc;·rename_i i hi;cases hc;exact QY hu hi hF hM he
  ·cases hc
 ·rename_i q el hu;split at hc;·rename_i i hi;cases hc;exact Q4 hu hi hF hM he
  ·cases hc
 ·cases hc
theorem Gx {b:Builtin} {ts:Array TypeId} {ty:TypeId} {cs:Array Bool} {args:Array Operand} {ao:j5} (hc:sn P b ts args=some ao) (hF:FR c w t a.tmps) (hM:MR c m w) (hn:c.φ n=.free) {v:AV} {e:gk}
 (he:bq ao t m n=some (v,e)):fa P (builtin b ts ty cs (args.map a.eval)) c m n w v e:=by
 unfold sn at hc;split at hc
 ·rename_i T x I6 j9;have ha:args.map a.eval=#[a.eval x]:=by rw[<-Array.toArray_toList (xs:=args),j9];simp
  rw[ha];split at hc;·rename_i hu;cases hc;exact QV I6 hu hF hM he
  ·rename_i el hu;cases hc;exact QW I6 hu hF hM he
  ·rename_i k el hu;cases hc;simp only[bq,ev,alJ,ama]at he;obtain⟨rfl,rfl⟩:=he;have h0:ts[0]?=some T:=by rw[<-Array.getElem?_toList,I6];rfl
   refine bH (u:=.int .i64 k) hM ?_ (jI _ _);simp[Builtin.len_,h0,underlying,hu,goInt]
  ·rename_i kT eT hu;cases hc;have h0:ts[0]?=some T:=by rw[<-Array.getElem?_toList,I6];rfl
   exact Re h0 hu hF hM he
  ·cases hc
 ·rename_i s xT x y I6 j9;have ha:args.map a.eval=#[a.eval x,a.eval y]:=by rw[<-Array.toArray_toList (xs:=args),j9];simp
  rw[ha];split at hc
  ·rename_i el u hs hx;split at hc;·cases hc
   ·rename_i pe;split at hc
    ·rename_i i hi;split at hc
     ·rename_i z hz;split at hc
      ·rename_i hzs;cases hc;have h0:ts[0]?=some s:=by rw[<-Array.getElem?_toList,I6];rfl
       have h1:ts[1]?=some xT:=by rw[<-Array.getElem?_toList,I6];rfl
       exact Uc (i:=i) ⟨⟨s,h0,hs⟩,⟨xT,u,h1,hx,λk hk=>by subst hk;exact absurd rfl pe⟩,hi,z,hz,hzs.1⟩ hF hM hn hzs.2 he
      ·cases hc
     ·cases hc
    ·cases hc
  ·cases hc
 ·rename_i s xT x y I6 j9;have ha:args.map a.eval=#[a.eval x,a.eval y]:=by rw[<-Array.toArray_toList (xs:=args),j9];simp
  rw[ha];split at hc
  ·rename_i el hs;rw[alG]at hc;obtain⟨i,hi,rfl⟩:=hc;have h0:ts[0]?=some s:=by rw[<-Array.getElem?_toList,I6];rfl
   exact Q7 h0 hs hi hF hM he
  ·cases hc
 ·rename_i s x I6 j9;have ha:args.map a.eval=#[a.eval x]:=by rw[<-Array.toArray_toList (xs:=args),j9];simp
  rw[ha];split at hc
  ·rename_i el hs;split at hc
   ·rename_i i z hi hz;cases hc;have h0:ts[0]?=some s:=by rw[<-Array.getElem?_toList,I6];rfl
    exact MF h0 hs hi hz hF hM he
   ·cases hc
  ·cases hc
 ·rename_i x y j9;have ha:args.map a.eval=#[a.eval x,a.eval y]:=by rw[<-Array.toArray_toList (xs:=args),j9];simp
  rw[ha];cases hc;exact Ua hF hM he
 ·rename_i x y j9;have ha:args.map a.eval=#[a.eval x,a.eval y]:=by rw[<-Array.toArray_toList (xs:=args),j9];simp
  rw[ha];cases hc;exact Ub hF hM he
 ·cases hc
theorem Ch {o:Oper} {ao:j5} (hc:l9 P o.op=some ao) (hF:FR c w t a.tmps) (hM:MR c m w) (hn:c.φ n=.free) {v:AV} {e:gk}
 (he:bq ao t m n=some (v,e)):fa P (execOp a.eval o) c m n w v e:=by
 obtain⟨dst,op,ty,pos,after,guard⟩:=o;simp only at hc;cases op with
 |move x=>simp only[l9,alJ]at hc;subst hc;simp only[bq,alJ,ama]at he;obtain⟨rfl,rfl⟩:=he;exact O7 hF hM
 |assign x=>simp only[l9,alJ]at hc;subst hc;simp only[bq,alJ,ama]at he;obtain⟨rfl,rfl⟩:=he;exact O7 hF hM
 |pick x y z=>simp only[l9,alJ]at hc;subst hc;exact QQ hF hM he
 |alloc T=>
  simp only[l9,alG]at hc;obtain⟨z,hz,rfl⟩:=hc;simp only[bq,alJ,ama]at he;obtain⟨rfl,rfl⟩:=he;exact Mx hz hM hn
 |box T x=>
  simp only[l9,alJ]at hc;subst hc;simp only[bq,alG,ama]at he;obtain⟨cs,cq,rfl,rfl⟩:=he;exact TZ hF hM hn cq
 |build T ps=>exact Mz hc hF hM he
 |buildSlice T len ps=>exact IU hc hF hM hn he
 |load T x=>
  simp only[l9,alG]at hc;obtain⟨k,hk,rfl⟩:=hc;exact QP hk hF hM he
 |store T x y=>
  simp only[l9,alG]at hc;obtain⟨i,hi,rfl⟩:=hc;exact Mw hi hF hM he
 |nilCheck x=>
  simp only[l9,alJ]at hc;subst hc;obtain⟨u,hu,rfl,pa,O8⟩:=MA hF he;have:execOp a.eval ⟨dst,.nilCheck x,ty,pos,after,guard⟩=pure (.value u):=by
   rcases O8 with⟨ad,rfl⟩|⟨f,cs,rfl⟩<;>simp only[execOp,pa]
  rw[this];exact IM hM hu
 |binOp op T x y yT=>exact MJ hc hF hM he
 |unOp op T x=>simp only[l9,alJ]at hc;subst hc;exact Z2 hF hM he
 |convert s d x=>exact Gw hc hF hM hn he
 |makeFunc f first caps=>
  cases f with
  |func f=>
   simp only[l9]at hc;split at hc
   ·rename_i hf;cases hc;simp only[bq,alJ,ama]at he;obtain⟨rfl,rfl⟩:=he;have:first=#[]:=Array.isEmpty_iff.1 hf
    subst this;have:=QS (P:=P) (n:=n) (f:=f) (caps:=caps) hF hM;rw[<-Array.map_empty (f:=a.eval)]at this;exact this
   ·cases hc
  |_=>simp[l9]at hc
 |makeSlice T l k=>
  simp only[l9]at hc;split at hc
  ·rename_i el hu;split at hc
   ·rename_i i z hi hz;split at hc;·rename_i cW;cases hc;exact Q3 hu hi hz cW.2 hF hM hn he
    ·cases hc
   ·cases hc
  ·cases hc
 |slice T x lo hi mx=>
  cases mx with
  |none=>exact MK hc hF hM he
  |some q=>
   cases hi with
   |none=>simp[l9]at hc
   |some hi=>
    simp only[l9]at hc;split at hc
    ·rename_i el hu;split at hc;·rename_i i gK;cases hc;exact Q5 hu gK hF hM hn he
     ·cases hc
    ·cases hc
 |fieldAddr s x f=>
  simp only[l9]at hc;split at hc
  ·rename_i fs hu;split at hc
   ·rename_i off size hf;split at hc;·cases hc
    ·rename_i hs;cases hc;exact MB hu hf hs hF hM he
   ·cases hc
  ·cases hc
 |field s x f=>
  simp only[l9]at hc;split at hc
  ·rename_i fs hu;split at hc
   ·rename_i fd hf;rw[alG]at hc;obtain⟨k,hk,rfl⟩:=hc;exact T9 hu hf hk hF hM he
   ·cases hc
  ·cases hc
 |indexAddr T x i=>
  simp only[l9]at hc;split at hc
  ·rename_i el hu;rw[alG]at hc;obtain⟨i',gK,rfl⟩:=hc;exact I1 hu gK hF hM he
  ·rename_i k el hu;rw[alG]at hc;obtain⟨i',gK,rfl⟩:=hc;exact I2 hu gK hF hM he
  ·cases hc
 |index T x i=>
  simp only[l9]at hc;split at hc;·rename_i hu;cases hc;exact QT hu hF hM he
  ·rename_i k el hu;split at hc;·rename_i i' q gK hq;cases hc;exact QU hu gK hq hF hM he
   ·cases hc
  ·cases hc
 |extract x i=>simp only[l9,alJ]at hc;subst hc;exact T8 hF hM he
 |makeMap T r=>
  cases r with
  |some r=>simp[l9]at hc
  |none=>
   simp only[l9,alJ]at hc;subst hc;simp only[bq,alL,mU,alJ,ama]at he;obtain⟨rfl,rfl⟩:=he;exact MG hM hn
 |lookup T x k comma=>
  simp only[l9]at hc;split at hc
  ·rename_i kT eT hu;split at hc;·rename_i ks z hk hz;cases hc;exact Ul hu hk hz hF hM he
   ·cases hc
  ·cases hc
 |mapUpdate T x k y=>
  simp only[l9]at hc;split at hc
  ·rename_i kT eT hu;rw[alG]at hc;obtain⟨ks,hk,rfl⟩:=hc;exact Fk hu hk hF hM he
  ·cases hc
 |insert T x k y=>
  simp only[l9]at hc;split at hc
  ·rename_i kT eT hu;rw[alG]at hc;obtain⟨ks,hk,rfl⟩:=hc;exact Fk hu hk hF hM he
  ·cases hc
 |mapEntry T x k=>
  simp only[l9]at hc;split at hc
  ·rename_i kT eT hu;split at hc;·rename_i ks z hk hz;cases hc;exact Rb hu hk hz hF hM he
   ·cases hc
  ·cases hc
 |entryStore T x j y=>
  simp only[l9,alJ]at hc;subst hc;exact Rc hF hM he
 |call cl=>
  obtain⟨callee,args,ts⟩:=cl;simp only[l9]at hc;cases callee with
  |builtin b=>exact Gx hc hF hM hn he
  |value f=>
   cases f with
   |func f=>
    simp only at hc;split at hc;·cases hc;simp[bq]at he
    ·cases hc
   |_=>simp only[alJ]at hc;subst hc;simp[bq]at he
  |invoke r mth=>simp at hc
 |_=>simp[l9]at hc
end
end Go.Jq
namespace Go.Jq
open Go
abbrev Ren:=List (Nat×Nat)
def af:Ren->Nat->Option Nat
 | [],_=>none
 |(i,j)::r,k=>if i=k then some j else af r k
mutual
def AV.aA (π:Nat->Option Nat):AV->AV
 |.d x=>.d x
 |.ptr id off=>match π id with
  |some j=>.ptr j off
  |none=>.any
 |.A5 id T=>match π id with
  |some j=>.A5 j T
  |none=>.any
 |.bw cs=>.bw cs
 |.sl id dR off len=>match π id with
  |some j=>.sl j dR off len
  |none=>.any
 |.BV id T len=>match π id with
  |some j=>.BV j T len
  |none=>.any
 |.fn f caps=>.fn f (aj π caps)
 |.agg cs=>.agg (aj π cs)
 |.cC vs=>.cC (aj π vs)
 |.uF id=>match π id with
  |some j=>.uF j
  |none=>.any
 |.Bo z=>.Bo z
 |.any=>.any
def aj (π:Nat->Option Nat):List AV->List AV
 | []=>[]
 |x::xs=>x.aA π::aj π xs
end
@[simp]theorem bQ (π:Nat->Option Nat) (l:List DV):aj π (l.map .d)=l.map .d:=by
  induction l with
  |nil=>rfl
  |cons x l ih=>simp only[alz,aj,AV.aA,ih]
theorem ae (π:Nat->Option Nat) (l l':List AV):aj π (l++l')=aj π l++aj π l':=by
 induction l with
 |nil=>rfl
 |cons x l ih=>simp only[List.cons_append,aj,ih]
theorem Ad (π:Nat->Option Nat) (l:List AV):(aj π l).length=l.length:=by
 induction l with
 |nil=>rfl
 |cons x l ih=>simp only[aj,alu,ih]
mutual
theorem Bt {c c':Ctx} {w:World} {π:Nat->Option Nat} (hI:∀b,c.dY b->c'.dY b) (fZ:∀id j,π id=some j->c.φ id≠.free->c'.φ j=c.φ id):
 ∀(x:AV) (v:Value),Rel c w x v->Rel c' w (x.aA π) v
 |.d x,v,h=>by simp only[AV.aA,Rel]at h⊢;exact lp hI (λ_ _=>rfl) x v h
 |.ptr id off,v,h=>by
  simp only[AV.aA,Rel]at h⊢;obtain⟨b,hb,hv⟩:=h;split
  ·rename_i j hj;simp only[Rel];exact⟨b,by rw[fZ id j hj (by rw[hb];simp)];exact hb,hv⟩
  ·simp[Rel]
 |.A5 id T,v,h=>by
  simp only[AV.aA,Rel]at h⊢;obtain⟨hv,b,hb,hs⟩:=h;split
  ·rename_i j hj;simp only[Rel];exact⟨hv,b,by rw[fZ id j hj (by rw[hb];simp)];exact hb,hs⟩
  ·simp[Rel]
 |.bw cs,v,h=>by
  simp only[AV.aA,Rel]at h⊢;obtain⟨b,o,hb,hv,hc⟩:=h;exact⟨b,o,hI b hb,hv,kQ hI (λ_ _=>rfl) cs b o hb hc⟩
 |.sl id dR off len,v,h=>by
  simp only[AV.aA,Rel]at h⊢;split
  ·rename_i j hj;simp only[Rel];rcases h with⟨h0,h⟩|⟨b,cap,n,hb,h⟩;·exact .inl ⟨by rw[fZ id j hj (by rw[h0];simp)];exact h0,h⟩
   ·exact .inr ⟨b,cap,n,by rw[fZ id j hj (by rw[hb];simp)];exact hb,h⟩
  ·simp[Rel]
 |.BV id T len,v,h=>by
  simp only[AV.aA,Rel]at h⊢;split
  ·rename_i j hj;simp only[Rel];rcases h with⟨h0,h⟩|⟨b,cap,n,hb,h⟩;·exact .inl ⟨by rw[fZ id j hj (by rw[h0];simp)];exact h0,h⟩
   ·exact .inr ⟨b,cap,n,by rw[fZ id j hj (by rw[hb];simp)];exact hb,h⟩
  ·simp[Rel]
 |.fn f caps,v,h=>by
  simp only[AV.aA,Rel]at h⊢;obtain⟨vs,hv,hl⟩:=h;exact⟨vs,hv,kg hI fZ caps vs hl⟩
 |.agg cs,v,h=>by
  simp only[AV.aA,Rel]at h⊢;obtain⟨vs,hv,hl⟩:=h;exact⟨vs,hv,kg hI fZ cs vs hl⟩
 |.cC cs,v,h=>by
  simp only[AV.aA,Rel]at h⊢;obtain⟨vs,hv,hl⟩:=h;exact⟨vs,hv,kg hI fZ cs vs hl⟩
 |.Bo z,v,h=>by simpa only[AV.aA,Rel]using h
 |.uF id,v,h=>by
  simp only[AV.aA,Rel]at h⊢;obtain⟨b,hb,hv⟩:=h;split
  ·rename_i j hj;simp only[Rel];exact⟨b,by rw[fZ id j hj (by rw[hb];simp)];exact hb,hv⟩
  ·simp[Rel]
 |.any,_,_=>by simp[AV.aA,Rel]
theorem kg {c c':Ctx} {w:World} {π:Nat->Option Nat} (hI:∀b,c.dY b->c'.dY b) (fZ:∀id j,π id=some j->c.φ id≠.free->c'.φ j=c.φ id):
 ∀(xs:List AV) (vs:List Value),bg c w xs vs->bg c' w (aj π xs) vs
 | [],_,h=>by simpa[aj,bg]using h
 |x::xs,vs,h=>by
  simp only[aj,bg]at h⊢;obtain⟨v,o6,hv,hx,hl⟩:=h;exact⟨v,o6,hv,Bt hI fZ x v hx,kg hI fZ xs o6 hl⟩
end
mutual
def cd (π:Nat->Option Nat):AV->Bool
 |.d _=>true
 |.ptr id _=>(π id).isSome
 |.A5 id _=>(π id).isSome
 |.bw _=>true
 |.sl id _ _ _=>(π id).isSome
 |.BV id _ _=>(π id).isSome
 |.fn _ caps=>bZ π caps
 |.agg cs=>bZ π cs
 |.cC vs=>bZ π vs
 |.uF id=>(π id).isSome
 |.Bo _=>true
 |.any=>true
def bZ (π:Nat->Option Nat):List AV->Bool
 | []=>true
 |x::xs=>cd π x&&bZ π xs
end
@[simp]theorem dL (π:Nat->Option Nat) (l:List DV):bZ π (l.map .d)=true:=by
  induction l with
  |nil=>rfl
  |cons x l ih=>simp only[alz,bZ,cd,ih,alF]
mutual
theorem Rf {c c':Ctx} {w:World} {π:Nat->Option Nat} (hI:∀b,c'.dY b->c.dY b) (fZ:∀id j,π id=some j->c.φ id=c'.φ j):
 ∀(x:AV) (v:Value),cd π x=true->Rel c' w (x.aA π) v->Rel c w x v
 |.d x,v,_,h=>by simp only[AV.aA,Rel]at h⊢;exact lp hI (λ_ _=>rfl) x v h
 |.ptr id off,v,hn,h=>by
  simp only[AV.aA,Rel]at h⊢;simp only[cd]at hn;obtain⟨j,hj⟩:=alS.1 hn;simp only[hj,Rel]at h;obtain⟨b,hb,hv⟩:=h;exact⟨b,by rw[fZ id j hj];exact hb,hv⟩
 |.A5 id T,v,hn,h=>by
  simp only[AV.aA,Rel]at h⊢;simp only[cd]at hn;obtain⟨j,hj⟩:=alS.1 hn;simp only[hj,Rel]at h;obtain⟨hv,b,hb,hs⟩:=h;exact⟨hv,b,by rw[fZ id j hj];exact hb,hs⟩
 |.bw cs,v,_,h=>by
  simp only[AV.aA,Rel]at h⊢;obtain⟨b,o,hb,hv,hc⟩:=h;exact⟨b,o,hI b hb,hv,kQ hI (λ_ _=>rfl) cs b o hb hc⟩
 |.sl id dR off len,v,hn,h=>by
  simp only[AV.aA,Rel]at h⊢;simp only[cd]at hn;obtain⟨j,hj⟩:=alS.1 hn;simp only[hj,Rel]at h;rcases h with⟨h0,h⟩|⟨b,cap,n,hb,h⟩;·exact .inl ⟨by rw[fZ id j hj];exact h0,h⟩
  ·exact .inr ⟨b,cap,n,by rw[fZ id j hj];exact hb,h⟩
 |.BV id T len,v,hn,h=>by
  simp only[AV.aA,Rel]at h⊢;simp only[cd]at hn;obtain⟨j,hj⟩:=alS.1 hn;simp only[hj,Rel]at h;rcases h with⟨h0,h⟩|⟨b,cap,n,hb,h⟩;·exact .inl ⟨by rw[fZ id j hj];exact h0,h⟩
  ·exact .inr ⟨b,cap,n,by rw[fZ id j hj];exact hb,h⟩
 |.fn f caps,v,hn,h=>by
  simp only[AV.aA,Rel]at h⊢;simp only[cd]at hn;obtain⟨vs,hv,hl⟩:=h;exact⟨vs,hv,kU hI fZ caps vs hn hl⟩
 |.agg cs,v,hn,h=>by
  simp only[AV.aA,Rel]at h⊢;simp only[cd]at hn;obtain⟨vs,hv,hl⟩:=h;exact⟨vs,hv,kU hI fZ cs vs hn hl⟩
 |.cC cs,v,hn,h=>by
  simp only[AV.aA,Rel]at h⊢;simp only[cd]at hn;obtain⟨vs,hv,hl⟩:=h;exact⟨vs,hv,kU hI fZ cs vs hn hl⟩
 |.uF id,v,hn,h=>by
  simp only[AV.aA,Rel]at h⊢;simp only[cd]at hn;obtain⟨j,hj⟩:=alS.1 hn;simp only[hj,Rel]at h;obtain⟨b,hb,hv⟩:=h;exact⟨b,by rw[fZ id j hj];exact hb,hv⟩
 |.Bo z,v,_,h=>by simpa only[AV.aA,Rel]using h
 |.any,_,_,_=>by simp[Rel]
theorem kU {c c':Ctx} {w:World} {π:Nat->Option Nat} (hI:∀b,c'.dY b->c.dY b) (fZ:∀id j,π id=some j->c.φ id=c'.φ j):
 ∀(xs:List AV) (vs:List Value),bZ π xs=true->bg c' w (aj π xs) vs->bg c w xs vs
 | [],_,_,h=>by simpa[aj,bg]using h
 |x::xs,vs,hn,h=>by
  simp only[aj,bg]at h⊢;simp only[bZ,alE]at hn;obtain⟨v,o6,hv,hx,hl⟩:=h;exact⟨v,o6,hv,Rf hI fZ x v hn.1 hx,kU hI fZ xs o6 hn.2 hl⟩
end
structure St where
 t:Fr
 m:Mem
 n:Nat
structure CR (c:Ctx) (k:Nat) (S:St) (a:Act) (w:World):Prop where
 defers:a.defers=[]
 size:a.tmps.size=k
 fr:FR c w S.t a.tmps
 mr:MR c S.m w
 free:∀id,S.n<=id->c.φ id=.free
structure Env where
 c:Ctx
 m:Mem
 n:Nat
 w:World
structure Bb (E:Env) (c:Ctx) (m:Mem) (w:World):Prop where
 step:Step (iV E.c E.m) E.c c E.w w
 own:∀b,iV c m b->iV E.c E.m b\/E.w.heap.size<=b
 di:∀id,id<E.n->(ai m id).isSome->(ai E.m id).isSome/\c.φ id=E.c.φ id
def ml (E:Env) (k:Nat) (S:St) (a:Act) (w:World):Prop:=∃c,CR c k S a w/\Bb E c S.m w
theorem Bb.next {E:Env} {c c':Ctx} {m m':Mem} {w w':World} (h:Bb E c m w) (hs:Step (iV c m) c c' w w') (ho:∀b,iV c' m' b->iV c m b\/w.heap.size<=b)
 (hk:∀id,id<E.n->(ai m' id).isSome->(ai m id).isSome/\c'.φ id=c.φ id):Bb E c' m' w' where
 step:=h.step.trans hs h.own
 own:=λb hb=>by
  rcases ho b hb with h1|h1;·exact h.own b h1
  ·exact .inr (Nat.le_trans h.step.size h1)
 di:=λid hid hm=>by
  obtain⟨h1,h2⟩:=hk id hid hm;obtain⟨h3,h4⟩:=h.di id hid h1;exact⟨h3,h2.trans h4⟩
def aF:Ren->Nat->Option Nat
 | [],_=>none
 |(i,j)::r,k=>if j=k then some i else aF r k
def aV (π:Ren) (t:Fr):Fr->Prop
 | []=>True
 |(i,x)::r=>(ah t i).aA (af π)=x/\aV π t r
def aL (π:Ren) (m:Mem):Mem->Prop
 | []=>True
 |(j,cs)::r=>(match aF π j with
  |some i=>match ai m i with
   |some qI=>aj (af π) qI=cs
   |none=>False
  |none=>False)/\aL π m r
def bX (n:Nat):Ren->Bool
 | []=>true
 |(i,j)::r=>decide (j<n)&&(r.all λp=>p.1!=i&&p.2!=j)&&bX n r
def nV (n0:Nat) (π:Ren):Bool:=π.all λp=>decide (p.2<n0)==false||p.1==p.2
structure Ent (n0:Nat) (π:Ren) (S S':St):Prop where
 t:aV π S.t S'.t
 m:aL π S.m S'.m
 ok:bX S'.n π=true
 di:nV n0 π=true
theorem lP:∀{π:Ren} {i j:Nat},af π i=some j->(i,j)∈π
 | [],_,_,h=>by simp[af]at h
 |(i',j')::r,i,j,h=>by
  simp only[af]at h;split at h;·rename_i e;cases h;subst e;exact alU
  ·exact alY _ (lP h)
theorem hU:∀{π:Ren} {i j:Nat},aF π j=some i->(i,j)∈π
 | [],_,_,h=>by simp[aF]at h
 |(i',j')::r,i,j,h=>by
  simp only[aF]at h;split at h;·rename_i e;cases h;subst e;exact alU
  ·exact alY _ (hU h)
theorem fR:∀{π:Ren} {n:Nat},bX n π=true->(∀i j,(i,j)∈π->af π i=some j/\aF π j=some i/\j<n)
 | [],_,_=>λ_ _ h=>by simp at h
 |(i',j')::r,n,h=>by
  simp only[bX,alE,decide_eq_true_eq,List.all_eq_true]at h;obtain⟨⟨h1,h2⟩,h3⟩:=h;intro i j hm;rcases alW.1 hm with e|hm
  ·cases e;simp[af,aF,h1]
  ·obtain⟨p1,p2,p3⟩:=fR h3 i j hm;have:=h2 (i,j) hm;simp only[bne_iff_ne,ne_eq]at this;refine⟨?_,?_,p3⟩;·simp only[af];rw[if_neg (λe=>this.1 e.symm)];exact p1
   ·simp only[aF];rw[if_neg (λe=>this.2 e.symm)];exact p2
theorem I7 {π:Ren} {t:Fr}:∀{t':Fr},aV π t t'->∀i,ah t' i=.any\/(ah t i).aA (af π)=ah t' i
 | [],_,i=>.inl rfl
 |(k,x)::r,h,i=>by
  simp only[aV]at h;simp only[ah];split;·rename_i e;subst e;exact .inr h.1
  ·exact I7 h.2 i
theorem pY {π:Ren} {m:Mem}:∀{m':Mem},aL π m m'->∀j cs,ai m' j=some cs->∃i qI,aF π j=some i/\ai m i=some qI/\aj (af π) qI=cs
 | [],_,j,cs,h=>by simp[ai]at h
 |(k,x)::r,h,j,cs,hj=>by
  simp only[aL]at h;simp only[ai]at hj;split at hj
  ·rename_i e;subst e;cases hj;obtain⟨h,_⟩:=h;split at h
   ·rename_i i hi;split at h
    ·rename_i qI lO;exact⟨i,qI,hi,lO,h⟩
    ·exact h.elim
   ·exact h.elim
  ·exact pY h.2 j cs hj
def Ctx.aA (c:Ctx) (π:Ren):Ctx:={c with φ:=λj=>match aF π j with
 |some i=>c.φ i
 |none=>.free}
theorem oy {c:Ctx} {π:Ren} {n:Nat} (cI:bX n π=true) {i j:Nat} (h:af π i=some j):(c.aA π).φ j=c.φ i:=by
 obtain⟨_,h2,_⟩:=fR cI i j (lP h);simp only[Ctx.aA,h2]
theorem Un {c:Ctx} {m m':Mem} {w:World} {π:Ren} {n:Nat} (cI:bX n π=true) (hM:MR c m w) (hm:aL π m m'):MR (c.aA π) m' w where
 own:=λj cs hj=>by
  obtain⟨i,qI,hi,cq,rfl⟩:=pY hm j cs hj;have fZ:(c.aA π).φ j=c.φ i:=by simp only[Ctx.aA,hi]
  rcases hM.own i qI cq with⟨h0,rfl⟩|⟨b,arr,T,f,hb,jj,hw,hf,vs,rest,ha,hr⟩|⟨b,es,kv,hb,jj,hw,hf,rfl,hr⟩;·exact .inl ⟨fZ.trans h0,rfl⟩
  ·exact .inr (.inl ⟨b,arr,T,f,fZ.trans hb,jj,hw,hf,vs,rest,ha,kg (c:=c) (c':=c.aA π) (λ_ h=>h) (λi j h _=>oy cI h) _ _ hr⟩)
  ·exact .inr (.inr ⟨b,es,aj (af π) kv,fZ.trans hb,jj,hw,hf,rfl,kg (c:=c) (c':=c.aA π) (λ_ h=>h) (λi j h _=>oy cI h) _ _ hr⟩)
 inj:=λj j' b hj A6 hb gi=>by
  obtain⟨cs,cq⟩:=alS.1 hj;obtain⟨qI,lO⟩:=alS.1 A6;obtain⟨i,_,hi,Uo,_⟩:=pY hm j cs cq;obtain⟨i',_,gK,aeK,_⟩:=pY hm j' qI lO;simp only[Ctx.aA,hi]at hb;simp only[Ctx.aA,gK]at gi;have:=hM.inj i i' b (by rw[Uo];rfl) (by rw[aeK];rfl) hb gi;subst this;have h1:=(fR cI i j (hU hi)).1;have h2:=(fR cI i j' (hU gK)).1;rw[h1]at h2;exact al9 h2
 dY:=hM.dY
 zZ:=hM.zZ
theorem Z9 {c:Ctx} {m m':Mem} {π:Ren} (hm:aL π m m') {b:Nat} (h:iV (c.aA π) m' b):iV c m b:=by
 obtain⟨j,hj,hb⟩:=h;obtain⟨cs,cq⟩:=alS.1 hj;obtain⟨i,_,hi,Uo,_⟩:=pY hm j cs cq;simp only[Ctx.aA,hi]at hb;exact⟨i,by rw[Uo];rfl,hb⟩
theorem I8 {n0:Nat} {π:Ren} (h:nV n0 π=true) {i j:Nat} (hp:aF π j=some i) (hj:j<n0):i=j:=by
 have:=List.all_eq_true.1 h (i,j) (hU hp);simp only[Bool.or_eq_true,beq_iff_eq,decide_eq_false_iff_not]at this;rcases this with h1|h1;·exact absurd hj h1
 ·exact h1
theorem aeL {c:Ctx} {w:World} {t t':Fr} {tmps:Array Value} {π:Ren} {n:Nat} (cI:bX n π=true) (hF:FR c w t tmps) (ht:aV π t t'):FR (c.aA π) w t' tmps:=by
 intro i;rcases I7 ht i with h|h;·rw[h];simp[Rel]
 ·rw[<-h];exact Bt (c:=c) (c':=c.aA π) (λ_ h=>h) (λi j h _=>oy cI h) _ _ (hF i)
theorem I9 {E:Env} {c:Ctx} {m m':Mem} {w:World} {π:Ren} {n:Nat} (ak1:bX n π=true) (hk:nV E.n π=true) (hP:Bb E c m w) (hm:aL π m m'):Bb E (c.aA π) m' w where
 step:=⟨hP.step.os,hP.step.tape,hP.step.output,hP.step.size,hP.step.di,hP.step.rows,hP.step.dY,hP.step.yI⟩
 own:=λb hb=>hP.own b (Z9 hm hb)
 di:=λj hj hmj=>by
  obtain⟨cs,cq⟩:=alS.1 hmj;obtain⟨i,_,hi,Uo,_⟩:=pY hm j cs cq;have:=I8 hk hi hj;subst this;obtain⟨h1,h2⟩:=hP.di i hj (by rw[Uo];rfl);exact⟨h1,by simp only[Ctx.aA,hi];exact h2⟩
theorem ml.cj {E:Env} {k:Nat} {S S':St} {a:Act} {w:World} {π:Ren} (h:ml E k S a w) (he:Ent E.n π S S'):ml E k S' a w:=by
 obtain⟨c,hc,hp⟩:=h;refine⟨c.aA π,⟨hc.defers,hc.size,aeL he.ok hc.fr he.t,Un he.ok hc.mr he.m,λid hid=>?_⟩,I9 he.ok he.di hp he.m⟩;simp only[Ctx.aA];split
 ·rename_i i hi;have:=(fR he.ok i id (hU hi)).2.2;omega
 ·rfl
end Go.Jq
namespace Go.Jq
open Go
def Ci (P:Program) (n0 k:Nat) (c:Code) (S:St) (Q:Exit->St->Prop):Prop:=
 ∀(E:Env),E.n=n0->∀(a:Act) (w:World),ml E k S a w->c.wp P (λe a' w'=>∃S',Q e S'/\ml E k S' a' w') a w
def aB (n0 k:Nat) (S S':St):Prop:=∀(E:Env),E.n=n0->∀(a:Act) (w:World),ml E k S a w->ml E k S' a w
theorem aB.cj {n0 k:Nat} {S S':St} (π:Ren) (he:Ent n0 π S S'):aB n0 k S S':=λ_ hE _ _ hc=>hc.cj (hE▸he)
section
variable{P:Program} {n0 k:Nat} {S:St} {Q:Exit->St->Prop}
theorem Up {c:Code} {Q':Exit->St->Prop} (h:Ci P n0 k c S Q) (hq:∀e S,Q e S->Q' e S):Ci P n0 k c S Q':=
 λE hE a w hc=>wp_mono (h E hE a w hc) λe _ _ ⟨S',h1,h2⟩=>⟨S',hq e S' h1,h2⟩
theorem Uq (h:Q .normal S):Ci P n0 k .skip S Q:=λ_ _ _ _ hc=>wp_skip ⟨S,h,hc⟩
theorem Ur {id:Nat} (h:Q (.exit id) S):Ci P n0 k (.exit id) S Q:=λ_ _ _ _ hc=>wp_exit ⟨S,h,hc⟩
theorem aaa (h:Q .ret S):Ci P n0 k .ret S Q:=λ_ _ _ _ hc=>wp_ret ⟨S,h,hc⟩
def Exit.jQ (next:St->Prop) (Q:Exit->St->Prop):Exit->St->Prop
 |.normal,S=>next S
 |e,S=>Q e S
theorem aab {x y:Code} (h:Ci P n0 k x S (Exit.jQ (λS'=>Ci P n0 k y S' Q) Q)):Ci P n0 k (.seq x y) S Q:=by
 intro E hE a w hc;refine wp_seq (wp_mono (h E hE a w hc) ?_);rintro e a' w' ⟨S',h1,h2⟩;cases e with
 |normal=>exact h1 E hE a' w' h2
 |_=>exact⟨S',h1,h2⟩
theorem Us {c:Operand} {x y:Code} {b:Bool} (hc:ev S.t (bm c)=.d (.bool b)) (ht:b=true->Ci P n0 k x S Q) (hf:b=false->Ci P n0 k y S Q):Ci P n0 k (.cond c x y) S Q:=by
 intro E hE a w h;have h':=h;obtain⟨c',iW,_⟩:=h';have hv:=bL (w:=w) iW.fr c;rw[hc]at hv;have:=fQ hv;exact wp_cond_split this (λhb=>ht hb E hE a w h) (λhb=>hf hb E hE a w h)
def Exit.kq (id:Nat) (Q:Exit->St->Prop):Exit->St->Prop
 |.exit mK,S=>if mK=id then Q .normal S else Q (.exit mK) S
 |e,S=>Q e S
theorem Rg {id:Nat} {c:Code} (h:Ci P n0 k c S (Exit.kq id Q)):Ci P n0 k (.block id c) S Q:=by
 intro E hE a w hc;refine wp_block (wp_mono (h E hE a w hc) ?_);rintro e a' w' ⟨S',h1,h2⟩;cases e with
 |exit mK=>
  simp only[Exit.kq]at h1;simp only[Exit.inBlock];split;·rename_i e;rw[if_pos e]at h1;exact⟨S',h1,h2⟩
  ·rename_i e;rw[if_neg e]at h1;exact⟨S',h1,h2⟩
 |_=>exact⟨S',h1,h2⟩
theorem Rh {c:Code} {S':St} (he:aB n0 k S S') (h:Ci P n0 k c S' Q):Ci P n0 k c S Q:=
 λE hE a w hc=>h E hE a w (he E hE a w hc)
theorem Ut {c:Code} (I:St->Prop) (μ:St->Nat) (h0:I S)
 (round:∀S,I S->Ci P n0 k c S (Exit.jQ (λS'=>∃ZB,aB n0 k S' ZB/\I ZB/\μ ZB<μ S) Q)):Ci P n0 k (.loop c) S Q:=by
 intro E hE a w hc b kk cs;have key:∀n S a w,μ S=n->I S->ml E k S a w->
  ∃e a' w',(∃S',Q e S'/\ml E k S' a' w')/\Arrives P (lone (b.at a (.code c::.inLoop c::kk)) cs w) b kk cs e a' w':=by
  intro n;induction n using Nat.strongRecOn with
  |_ n ih=>
   intro S a w hn hI hc;obtain⟨e,ML,MN,⟨S',hq,Bu⟩,pV⟩:=round S hI E hE a w hc b (.inLoop c::kk) cs;cases e with
   |normal=>
    obtain⟨ZB,he,ajC,bn⟩:=hq;obtain⟨ajD,ajE,ajF,agA,aac⟩:=ih (μ ZB) (hn▸bn) ZB ML MN rfl ajC (he E hE ML MN Bu);exact⟨ajD,ajE,ajF,agA,.of_steps (Steps.trans pV (.one step_inLoop)) aac⟩
   |exit id=>exact⟨_,ML,MN,⟨S',hq,Bu⟩,.pass (x:=.inLoop c) rfl (λ_ _=>.inl (by simp)) pV⟩
   |goto l=>exact⟨_,ML,MN,⟨S',hq,Bu⟩,.pass (x:=.inLoop c) rfl (λ_ _=>.inl (by simp)) pV⟩
   |ret=>exact⟨_,ML,MN,⟨S',hq,Bu⟩,.pass (x:=.inLoop c) rfl (λ_ _=>.inl (by simp)) pV⟩
   |panic ch=>exact⟨_,ML,MN,⟨S',hq,Bu⟩,.pass (x:=.inLoop c) rfl (λ_ _=>.inl (by simp)) pV⟩
   |outgrown=>exact⟨_,ML,MN,⟨S',hq,Bu⟩,.pass (x:=.inLoop c) rfl (λ_ _=>.inl (by simp)) pV⟩
 obtain⟨e,a',w',hq,pV⟩:=key _ S a w rfl h0 hc;exact⟨e,a',w',hq,.of_steps (.one step_loop) pV⟩
end
def aE (m:Mem):Nat:=m.foldr (λp b=>Nat.max (p.1+1) b) 0
theorem mn:∀{m:Mem} {i:Nat},(ai m i).isSome->i<aE m
 | [],i,h=>by simp[ai]at h
 |(j,cs)::r,i,h=>by
  simp only[ai]at h;simp only[aE,alP];split at h;·rename_i e;subst e;exact Nat.le_max_left _ _
  ·exact Nat.lt_of_lt_of_le (mn h) (Nat.le_max_right _ _)
def bB (P:Program) (f:Nat) (args:List AV) (m:Mem) (Q:AV->Mem->Prop):Prop:=
 ∀(c:Ctx) (w:World) (vs:List Value),bg c w args vs->MR c m w->(∀id,aE m<=id->c.φ id=.free)->
  Calls P f vs.toArray w λe w'=>∃v r m' c',e=.returned v/\Q r m'/\Rel c' w' r v/\MR c' m' w'/\Step (iV c m) c c' w w'/\
   (∀b,iV c' m' b->iV c m b\/w.heap.size<=b)/\(∀id,id<aE m->(ai m' id).isSome->(ai m id).isSome/\c'.φ id=c.φ id)/\
   (∀id,Nat.max (aE m) (aE m')<=id->c'.φ id=.free)
theorem bB.mono {P:Program} {f:Nat} {args:List AV} {m:Mem} {Q Q':AV->Mem->Prop} (h:bB P f args m Q) (hq:∀r m',Q r m'->Q' r m'):bB P f args m Q':=
 λc w vs h1 h2 h3=>(h c w vs h1 h2 h3).mono λ_ _ ⟨v,r,m',c',a1,a2,a3⟩=>⟨v,r,m',c',a1,hq r m' a2,a3⟩
def MO:Nat->List AV->Fr
 |_,[]=>[]
 |i,x::xs=>(i,x)::MO (i+1) xs
theorem Ja:∀(xs:List AV) (i j:Nat),ah (MO i xs) j=if i<=j then xs.getD (j-i) .any else .any
 | [],i,j=>by simp[MO,ah]
 |x::xs,i,j=>by
  simp only[MO,ah];by_cases h:i=j;·subst h;simp
  ·rw[if_neg h,Ja xs (i+1) j];by_cases h1:i<=j
   ·rw[if_pos (by omega),if_pos h1];have:j-i=(j-(i+1))+1:=by omega
    rw[this,List.getD_cons_succ]
   ·rw[if_neg (by omega),if_neg h1]
def bt (S:St) (P:Program):ResultVar->Option AV
 |.tmp t=>some (ah S.t t)
 |.cell a T=>match ah S.t a,mV P T with
  |.ptr id off,some kk=>match ai S.m id with
   |some cs=>aN kk (cs.drop off)
   |none=>none
  |_,_=>none
def aP (S:St) (P:Program):List ResultVar->Option (List AV)
 | []=>some []
 |r::rs=>match bt S P r,aP S P rs with
  |some v,some vs=>some (v::vs)
  |_,_=>none
def bj (P:Program) (rs:Array ResultVar) (S:St):Option AV:=
 match aP S P rs.toList with
 |some [v]=>some v
 |some vs=>some (.cC vs)
 |none=>none
theorem Uu {P:Program} {c:Ctx} {k:Nat} {S:St} {a:Act} {w:World} (hc:CR c k S a w) {r:ResultVar} {v:AV} (h:bt S P r=some v):
 ∃u,((match r with|.tmp t=>pure (a.tmps.getD t undef)|.cell ad t=>do loadVar t (<-asAddr (a.tmps.getD ad undef))):Sem Value).run P w=.ok u w/\Rel c w v u:=by
 cases r with
 |tmp t=>simp only[bt,alJ]at h;subst h;exact⟨_,rfl,hc.fr t⟩
 |cell ad T=>
  simp only[bt]at h;split at h
  ·rename_i id off kk h1 h2;split at h
   ·rename_i cs cq;have hx:=hc.fr ad;rw[h1]at hx;obtain⟨b,hb,hv⟩:=tJ hx;obtain⟨u,hu,hr⟩:=su (P:=P) h2 (o9 hc.mr cq hb off) h;refine⟨u,?_,hr⟩;simp only[hv,asAddr,alr,alq,alp,hu]
   ·cases h
  ·cases h
theorem Fl {P:Program} {c:Ctx} {k:Nat} {S:St} {a:Act} {w:World} (hc:CR c k S a w) (f:ResultVar->Sem Value)
 (hf:∀r,f r=((match r with|.tmp t=>pure (a.tmps.getD t undef)|.cell ad t=>do loadVar t (<-asAddr (a.tmps.getD ad undef))):Sem Value)):∀{rs:List ResultVar} {vs:List AV},aP S P rs=some vs->
 ∃us,(rs.mapM f).run P w=.ok us w/\bg c w vs us
 | [],vs,h=>by simp only[aP,alJ]at h;subst h;exact⟨[],by simp,by simp[bg]⟩
 |r::rs,vs,h=>by
  simp only[aP]at h;split at h
  ·rename_i v o6 h1 h2;cases h;obtain⟨u,hu,hr⟩:=Uu hc h1;obtain⟨us,A7,Tx⟩:=Fl hc f hf h2;refine⟨u::us,?_,by simp only[bg];exact⟨u,us,rfl,hr,Tx⟩⟩;rw[List.mapM_cons];rw[<-hf]at hu;simp only[alr,hu,alp,A7,alq]
  ·cases h
theorem Uv {P:Program} {c:Ctx} {k:Nat} {S:St} {a:Act} {w:World} {fn:Func} (hc:CR c k S a w) {v:AV} (h:bj P fn.results S=some v):
 ∃u,(results fn a.tmps).run P w=.ok u w/\Rel c w v u:=by
 unfold bj at h;have key:∀vs,aP S P fn.results.toList=some vs->∃us:List Value,bg c w vs us/\(results fn a.tmps).run P w=.ok (if h:us.toArray.size=1 then us.toArray[0]else .tuple us.toArray) w:=by
  intro vs B6;have dJ:=λf hf=>Fl (P:=P) hc f hf B6;have hex:∃us:List Value,bg c w vs us/\(results fn a.tmps).run P w=.ok (if h:us.toArray.size=1 then us.toArray[0]else .tuple us.toArray) w:=by
   unfold results;rw[<-Array.toArray_toList (xs:=fn.results),List.mapM_toArray];simp only[alr,Sem.run_map];obtain⟨us,A7,hr⟩:=dJ (λx=>match x with
    |.tmp t=>pure (a.tmps.getD t undef)
    |.cell a_1 t=>do loadVar t (<-asAddr (a.tmps.getD a_1 undef))) (λr=>by cases r<;>rfl)
   refine⟨us,hr,?_⟩;refine(congrArg (λr=>(Result.andThen (Result.andThen r _) _)) A7).trans ?_;rfl
  exact hex
 split at h
 ·rename_i v' B6;cases h;obtain⟨us,hr,dJ⟩:=key _ B6;simp only[bg]at hr;obtain⟨u,Mf,rfl,hu,rfl⟩:=hr;exact⟨u,by rw[dJ];simp,hu⟩
 ·rename_i vs pe B6;cases h;obtain⟨us,hr,dJ⟩:=key _ B6;refine⟨.tuple us.toArray,?_,by simp only[Rel];exact⟨us,rfl,hr⟩⟩;rw[dJ,dif_neg];intro h1;have hl:=hr.length;simp at h1;rw[h1]at hl;cases vs with
  |nil=>simp at hl
  |cons x xs=>
   cases xs with
   |nil=>exact pe x rfl
   |cons y ys=>simp at hl
 ·cases h
def nC (P:Program) (rs:Array ResultVar) (n0:Nat) (Q:AV->Mem->Prop):Exit->St->Prop
 |.normal,S=>∃v,bj P rs S=some v/\∃π m',bX (Nat.max n0 (aE m')) π=true/\nV n0 π=true/\aL π S.m m'/\Q (v.aA (af π)) m'
 |.ret,S=>∃v,bj P rs S=some v/\∃π m',bX (Nat.max n0 (aE m')) π=true/\nV n0 π=true/\aL π S.m m'/\Q (v.aA (af π)) m'
 |_,_=>False
theorem Ex {P:Program} {f:Nat} {fn:Func} {code:Code} {args:List AV} {m:Mem} {Q:AV->Mem->Prop} (hf:P.funcs[f]?=some fn) (hb:fn.body=some code)
 (hn:args.length<=fn.ntmps) (h:Ci P (aE m) fn.ntmps code ⟨MO 0 args,m,aE m⟩ (nC P fn.results (aE m) Q)):bB P f args m Q:=by
 intro c w vs hr hM js;have hl:=hr.length;refine calls_of_wp hf hb ?_;have Ae:ml ⟨c,m,aE m,w⟩ fn.ntmps ⟨MO 0 args,m,aE m⟩ {tmps:=vs.toArray++Array.replicate (fn.ntmps-vs.toArray.size) undef,defers:=[]} w:=by
  refine⟨c,⟨rfl,?_,?_,hM,js⟩,⟨Step.refl _ _ _,λb hb=>.inl hb,λid _ h=>⟨h,rfl⟩⟩⟩;·simp;omega
  ·intro i;rw[Ja];simp only[alZ,if_true,Nat.sub_zero];by_cases hi:i<args.length
   ·obtain⟨v,hv,mW⟩:=hr.get (i:=i) (x:=args[i]) (by simp[hi]);have h1:(vs.toArray++Array.replicate (fn.ntmps-vs.toArray.size) undef).getD i undef=v:=by
     rw[Array.getD_eq_getD_getElem?,Array.getElem?_append_left (by simp;omega),List.getElem?_toArray,hv];rfl
    rw[h1];simpa[hi]using mW
   ·have:args.getD i .any=.any:=by simp[hi]
    rw[this];simp[Rel]
 have cP:∀(S':St) (a':Act) (w':World),(∃v,bj P fn.results S'=some v/\∃π m',bX (Nat.max (aE m) (aE m')) π=true/\nV (aE m) π=true/\aL π S'.m m'/\Q (v.aA (af π)) m')->
  ml ⟨c,m,aE m,w⟩ fn.ntmps S' a' w'->a'.defers=[]/\∃v,(results fn a'.tmps).run P w'=.ok v w'/\
   (∃v' r m' c',Ending.returned v=.returned v'/\Q r m'/\Rel c' w' r v'/\MR c' m' w'/\Step (iV c m) c c' w w'/\
  (∀b,iV c' m' b->iV c m b\/w.heap.size<=b)/\(∀id,id<aE m->(ai m' id).isSome->(ai m id).isSome/\c'.φ id=c.φ id)/\
  (∀id,Nat.max (aE m) (aE m')<=id->c'.φ id=.free)):=by
  rintro S' a' w' ⟨v,hv,π,m',cI,hk,hm,hQ⟩ ⟨c1,iW,hp⟩;obtain⟨u,hu,mW⟩:=Uv iW hv;have MP:=I9 cI hk hp hm;refine⟨iW.defers,u,hu,u,_,m',c1.aA π,rfl,hQ,Bt (c:=c1) (c':=c1.aA π) (λ_ h=>h) (λi j h _=>oy cI h) _ _ mW,Un cI iW.mr hm,MP.step,MP.own,MP.di,λid hid=>?_⟩;simp only[Ctx.aA];split
  ·rename_i i hi;have:=(fR cI i id (hU hi)).2.2;exact absurd hid (Nat.not_le.2 this)
  ·rfl
 refine wp_mono (h ⟨c,m,aE m,w⟩ rfl _ _ Ae) ?_;rintro e a' w' ⟨S',h1,h2⟩;cases e with
 |normal=>exact cP S' a' w' h1 h2
 |ret=>exact cP S' a' w' h1 h2
 |_=>exact h1.elim
end Go.Jq
namespace Go.Jq
open Go
def Jb (P:Program) (f:Nat) (args:List AV) (m:Mem) (n:Nat) (F:Nat->Prop) (R:AV->Mem->Nat->Prop):Prop:=
 ∀(c:Ctx) (w:World) (vs:List Value),bg c w args vs->MR c m w->(∀id,F id->c.φ id=.free)->
  Calls P f vs.toArray w λe w'=>∃v r m' n' c',e=.returned v/\R r m' n'/\Rel c' w' r v/\MR c' m' w'/\Step (iV c m) c c' w w'/\
   (∀b,iV c' m' b->iV c m b\/w.heap.size<=b)/\(∀id,¬(n<=id/\id<n')->c'.φ id=c.φ id)/\(∀id,¬(n<=id/\id<n')->(ai m' id).isSome->(ai m id).isSome)/\n<=n'
def cG (t:Fr):Option Nat->AV->Fr
 |some d,v=>(d,v)::t
 |none,_=>t
def nD (P:Program) (o:bC) (S:St) (K:St->Prop):Prop:=
 match o.op with
 |.bW f args=>∃R,Jb P f (args.map (ev S.t)) S.m S.n (S.n<=·) R/\∀r m n,R r m n->K ⟨cG S.t o.dst r,m,n⟩
 |.eW x args=>match ev S.t x with
  |.fn f caps=>lK P f=true/\∃R,Jb P f (args.map (ev S.t)++caps) S.m S.n (S.n<=·) R/\∀r m n,R r m n->K ⟨cG S.t o.dst r,m,n⟩
  |_=>False
 |op=>match bq op S.t S.m S.n with
  |some (v,e)=>K ⟨cG S.t o.dst v,e.mem S.m S.n,e.next S.n⟩
  |none=>False
def bN (P:Program):List bC->St->(St->Prop)->Prop
 | [],S,K=>K S
 |o::r,S,K=>match o.guard with
  |none=>nD P o S λS'=>bN P r S' K
  |some (g,want)=>match ah S.t g with
   |.d (.bool b)=>if b=want then nD P o S λS'=>bN P r S' K else bN P r ⟨cG S.t o.dst (.cC []),S.m,S.n⟩ K
   |.cC _=>bN P r ⟨cG S.t o.dst (.cC []),S.m,S.n⟩ K
   |_=>False
section
variable{P:Program} {E:Env} {k:Nat} {S:St} {a:Act} {w:World}
theorem Uw {c:Ctx} {t:Fr} {tmps:Array Value} {d:Nat} {x:AV} {v:Value} (hF:FR c w t tmps) (hd:d<tmps.size) (hx:Rel c w x v):
 FR c w ((d,x)::t) (tmps.setIfInBounds d v):=by
 intro i;simp only[ah];split
 ·rename_i e;subst e;rw[Array.getD_eq_getD_getElem?,Array.getElem?_setIfInBounds_self_of_lt hd];exact hx
 ·rename_i e;rw[Array.getD_eq_getD_getElem?,Array.getElem?_setIfInBounds_ne e,<-Array.getD_eq_getD_getElem?];exact hF i
theorem pZ {S':St} {dst:Option Nat} {v:AV} {u:Value} {w':World} {m':Mem} {n':Nat} {c c':Ctx} (iW:CR c k S a w) (hp:Bb E c S.m w) (hEn:E.n<=S.n)
 (hd:∀d,dst=some d->d<k) (hr:Rel c' w' v u\/v=.any) (hM:MR c' m' w') (hs:Step (iV c S.m) c c' w w') (ho:∀b,iV c' m' b->iV c S.m b\/w.heap.size<=b)
 (fZ:∀id,id<S.n->c'.φ id=c.φ id) (MQ:∀id,id<S.n->(ai m' id).isSome->(ai S.m id).isSome) (hf:∀id,n'<=id->c'.φ id=.free)
 (hS:S'=⟨cG S.t dst v,m',n'⟩):ml E k S' (a.put dst u) w':=by
 subst hS;have uY:∀id,c.φ id≠.free->c'.φ id=c.φ id:=λid hid=>fZ id (by
  rcases Nat.lt_or_ge id S.n with h|h;·exact h
  ·exact absurd (iW.free id h) hid)
 have hl:=hs.later iW.mr uY;have hF':FR c' w' S.t a.tmps:=λi=>oo hl _ _ (iW.fr i);refine⟨c',⟨?_,?_,?_,hM,hf⟩,hp.next hs ho λid hid hm=>?_⟩;·cases dst<;>exact iW.defers
 ·cases dst with
  |none=>exact iW.size
  |some d=>simp only[Act.put,Array.size_setIfInBounds];exact iW.size
 ·cases dst with
  |none=>exact hF'
  |some d=>
   simp only[cG,Act.put];refine Uw hF' (by rw[iW.size];exact hd d rfl) ?_;rcases hr with h|rfl;·exact h
   ·simp[Rel]
 ·have:id<S.n:=Nat.lt_of_lt_of_le hid hEn;exact⟨MQ id this hm,fZ id this⟩
theorem Ux {e:gk} {m:Mem} {n id:Nat} (h:id<n) (hm:(ai (e.mem m n) id).isSome) (he:∀i cs,e=.put i cs->(ai m i).isSome):(ai m id).isSome:=by
 cases e with
 |nil=>exact hm
 |new cs=>simp only[gk.mem,bF]at hm;rw[if_neg (by omega)]at hm;exact hm
 |put i cs=>
  simp only[gk.mem,bF]at hm;split at hm;·rename_i e;subst e;exact he i cs rfl
  ·exact hm
 |Zz i cs=>
  simp only[gk.mem,bF,fL]at hm;rw[if_neg (by omega)]at hm;split at hm;·simp at hm
  ·exact hm
theorem Uy {k:me} {xs:List AV} {m:Mem} {n:Nat} {v:AV} {i:Nat} {cs:List AV} (h:mU k xs m n=some (v,.put i cs)):(ai m i).isSome:=by
 unfold mU at h;split at h
 ·split at h;·split at h<;>cases h
  ·cases h
 ·split at h
  ·split at h;·cases h
   ·split at h<;>cases h
  ·cases h
 ·split at h
  ·rename_i hm _;split at h;·cases h;rw[hm];rfl
   ·cases h
  ·cases h
 ·cases h
 ·split at h
  ·rw[alG]at h;obtain⟨_,_,h⟩:=h;cases h
  ·cases h
 ·split at h
  ·rename_i hm;rw[alG]at h;obtain⟨_,_,h⟩:=h;cases h;rw[jq hm];rfl
  ·cases h
 ·split at h
  ·rename_i hm;rw[alG]at h;obtain⟨_,_,h⟩:=h;cases h;rw[jq hm];rfl
  ·cases h
 ·split at h
  ·rename_i hm;split at h;·cases h;rw[jq hm];rfl
   ·cases h
  ·cases h
 ·split at h;·cases h
  ·split at h<;>cases h
  ·cases h
  ·split at h<;>cases h
  ·cases h
 ·split at h
  ·rename_i hm;split at h;·cases h;rw[hm];rfl
   ·cases h
  ·cases h
 ·rw[alG]at h;obtain⟨_,_,h⟩:=h;cases h
 ·cases h
theorem Jc {o:j5} {t:Fr} {m:Mem} {n:Nat} {v:AV} {i:Nat} {cs:List AV} (h:bq o t m n=some (v,.put i cs)):(ai m i).isSome:=by
 have key:∀(o:j5) (r:Option (AV×gk)),bq o t m n=r->∀v i cs,r=some (v,.put i cs)->(ai m i).isSome:=by
  intro o r hr v i cs hv;subst hr;cases o<;>simp only[bq]at hv
  case store k a x=>
   split at hv
   ·split at hv
    ·rename_i hm;split at hv;·cases hv;rw[hm];rfl
     ·cases hv
    ·cases hv
   ·cases hv
  case j6 k xs=>exact Uy hv
  all_goals
   (repeat' split at hv)<;>simp_all
 exact key o _ rfl v i cs h
theorem lQ {f:Nat} {args:Array Value} (h:lK P f=true) (w:World):(callFunc f args).run P w=.ok (.enter f args) w:=by
 unfold lK at h;split at h
 ·rename_i fn hfn;simp only[alE,bne_iff_ne,ne_eq]at h;have hb:fn.body.isNone=false:=by
   cases hb:fn.body<;>simp_all
  simp only[callFunc,alr,run_program,alp,hfn];rw[if_neg (by simpa using h.2)];simp only[hb,aly,if_false,alq]
 ·cases h
def qO:j5->Bool
 |.bW _ _=>true
 |.eW _ _=>true
 |_=>false
theorem Ey {b:Builtin} {ts:Array TypeId} {args:Array Operand} {ao:j5} (h:sn P b ts args=some ao):qO ao=false:=by
 unfold sn at h;simp only[Option.map_eq_map,Option.map]at h
 repeat' split at h
 all_goals first
  |(cases h;done)
  |(cases h;rfl)
theorem wK {op:Op} {ao:j5} (h:l9 P op=some ao) (hc:qO ao=true):∃callee args ts,op=.call ⟨callee,args,ts⟩/\
 ((∃f,callee=.value (.func f)/\lK P f=true/\ao=.bW f (args.toList.map bm))\/(∃x,callee=.value x/\ao=.eW (bm x) (args.toList.map bm))):=by
 have no:qO ao=false->∃callee args ts,op=.call ⟨callee,args,ts⟩/\
  ((∃f,callee=.value (.func f)/\lK P f=true/\ao=.bW f (args.toList.map bm))\/(∃x,callee=.value x/\ao=.eW (bm x) (args.toList.map bm))):=λh=>by rw[h]at hc;cases hc
 have agB:∀{α:Type} {o:Option α} {f:α->j5},o.map f=some ao->(∀x,qO (f x)=false)->qO ao=false:=by
  intro α o f h hf;rw[alG]at h;obtain⟨x,_,rfl⟩:=h;exact hf x
 cases op with
 |call cl=>
  obtain⟨callee,args,ts⟩:=cl;refine⟨callee,args,ts,rfl,?_⟩;cases callee with
  |builtin b=>have:=Ey h;rw[this]at hc;cases hc
  |value x=>
   cases x with
   |func f=>
    simp only[l9]at h;split at h;·rename_i hg;cases h;exact .inl ⟨f,rfl,hg,rfl⟩
    ·cases h
   |tmp i=>simp only[l9,alJ]at h;exact .inr ⟨_,rfl,h.symm⟩
   |const i=>simp only[l9,alJ]at h;exact .inr ⟨_,rfl,h.symm⟩
   |global i=>simp only[l9,alJ]at h;exact .inr ⟨_,rfl,h.symm⟩
  |invoke r mth=>simp only[l9]at h;cases h
 |makeFunc fn first caps=>
  refine no ?_;cases fn with
  |func f=>
   simp only[l9]at h;split at h<;>cases h;rfl
  |_=>simp[l9]at h
 |slice T x lo hi mx=>
  refine no ?_;cases mx with
  |none=>
   simp only[l9]at h
   repeat' split at h
   all_goals first
    |(cases h;done)
    |(cases h;rfl)
  |some q=>
   cases hi with
   |none=>simp[l9]at h
   |some hi=>
    simp only[l9]at h
    repeat' split at h
    all_goals first
     |(cases h;done)
     |(cases h;rfl)
 |makeMap T r=>
  refine no ?_;cases r with
  |none=>have h0:l9 P (.makeMap T none)=some (.j6 .O6 []):=rfl;rw[h0]at h;cases h;rfl
  |some r=>have h0:l9 P (.makeMap T (some r))=none:=rfl;rw[h0]at h;cases h
 |go cl=>have h0:l9 P (.go cl)=none:=rfl;rw[h0]at h;cases h
 |defer cl=>have h0:l9 P (.defer cl)=none:=rfl;rw[h0]at h;cases h
 |_=>
  refine no ?_;simp only[l9,reduceCtorEq]at h
  try(repeat' split at h)
  all_goals first
   |(cases h;done)
   |(cases h;rfl)
   |exact agB h λ_=>rfl
theorem Bv {o:Oper} {ao:bC} {ops:Array Oper} {Q:Exit->Act->World->Prop} {K:St->Prop} {Kw:Act->World->Prop} (sf:rN P ops k o=some ao) (hEn:E.n<=S.n)
 (hK:∀S' a' w',K S'->ml E k S' a' w'->S.n<=S'.n->Kw a' w') (hc:ml E k S a w) (h:nD P ao S K):o.wp P a w Kw Q:=by
 unfold rN at sf;split at sf
 ·rename_i aop g A9 hg;split at sf
  ·rename_i agC;cases sf;have hd:∀d,o.dst=some d->d<k:=λd hd=>by rw[hd]at agC;simpa[TW]using agC
   obtain⟨c,iW,hp⟩:=hc;have plain:∀v e,bq aop S.t S.m S.n=some (v,e)->K ⟨cG S.t o.dst v,e.mem S.m S.n,e.next S.n⟩->o.wp P a w Kw Q:=by
    intro v e he hk;obtain⟨r,w',c',dJ,hr,hM,hs,fZ,ho⟩:=Ch (o:=o) A9 iW.fr iW.mr (iW.free S.n (ali _)) he;have hle:S.n<=e.next S.n:=by cases e<;>simp[gk.next]
    have hfr:∀id,e.next S.n<=id->c'.φ id=.free:=by
     intro id hid;by_cases ov:id=S.n
     ·subst ov;rw[fZ S.n (.inr (Nat.le_antisymm hid hle))];exact iW.free _ (ali _)
     ·rw[fZ id (.inl ov)];exact iW.free id (Nat.le_trans hle hid)
    have Ae:∀u,(Rel c' w' v u\/v=.any)->ml E k ⟨cG S.t o.dst v,e.mem S.m S.n,e.next S.n⟩ (a.put o.dst u) w':=λu lJ=>
     pZ iW hp hEn hd lJ hM hs ho (λid hid=>fZ id (.inl (Nat.ne_of_lt hid))) (λid hid hm=>Ux hid hm λi cs Ty=>Jc (Ty▸he)) hfr rfl
    unfold Oper.wp;rw[dJ];rcases hr with⟨u,rfl,lJ⟩|⟨rfl,hv⟩;·exact hK _ _ _ hk (Ae u (.inl lJ)) hle
    ·exact hK _ _ _ hk (Ae undef (.inr hv)) hle
   have enter:∀(f:Nat) (args:List AV) (vs:List Value) (R:AV->Mem->Nat->Prop),Jb P f args S.m S.n (S.n<=·) R->(∀r m n,R r m n->K ⟨cG S.t o.dst r,m,n⟩)->bg c w args vs->
    (execOp a.eval o).run P w=.ok (.enter f vs.toArray) w->o.wp P a w Kw Q:=by
    intro f args vs R hR hk pC dJ;unfold Oper.wp;rw[dJ];rw[Oper.upon_enter];refine(hR c w vs pC iW.mr iW.free).mono ?_;rintro e' w' ⟨v,r,m',n',c',rfl,hr,lJ,hM,hs,ho,fZ,MQ,hnn⟩;exact hK _ _ _ (hk r m' n' hr) (pZ iW hp hEn hd (.inl lJ) hM hs ho (λid hid=>fZ id (by omega)) (λid hid=>MQ id (by omega)) (λid hid=>(fZ id (by omega)).trans (iW.free id (by omega))) rfl) hnn
   obtain⟨dst,op,ty,pos,after,guard⟩:=o;simp only at A9;unfold nD at h;split at h
   ·
    rename_i f args Bw;simp only at Bw;subst Bw;obtain⟨R,hR,hk⟩:=h;obtain⟨callee,ku,ts,rfl,v8|v8⟩:=wK A9 rfl
    ·obtain⟨f',rfl,hg',he⟩:=v8;cases he;refine enter f _ _ R hR hk (tG iW.fr ku.toList) ?_;have h1:(execOp a.eval ⟨dst,.call ⟨.value (.func f),ku,ts⟩,ty,pos,after,guard⟩).run P w=(callFunc f ((#[]++ku.map a.eval)++#[])).run P w:=rfl
     rw[h1,lQ hg' w]
     congr 2
     apply Array.ext';simp
    ·obtain⟨y,_,he⟩:=v8;cases he
   ·rename_i x args Bw;simp only at Bw;subst Bw;split at h
    ·rename_i f caps pa;obtain⟨hg',R,hR,hk⟩:=h;obtain⟨callee,ku,ts,rfl,v8|v8⟩:=wK A9 rfl
     ·obtain⟨y,_,_,he⟩:=v8;cases he
     ·obtain⟨y,rfl,he⟩:=v8;cases he;have hx:=bL (w:=w) iW.fr y;rw[pa]at hx;obtain⟨us,hu,lJ⟩:=B8 hx;refine enter f _ _ R hR hk ((tG iW.fr ku.toList).append lJ) ?_;have h1:(execOp a.eval ⟨dst,.call ⟨.value y,ku,ts⟩,ty,pos,after,guard⟩).run P w=((Deferred.ofValue (a.eval y) (ku.map a.eval))>>=λd=>invoke d.target d.args).run P w:=rfl;rw[h1,hu];have h2:((Deferred.ofValue (.func (.func f) #[] us.toArray) (ku.map a.eval))>>=λd=>invoke d.target d.args).run P w=(callFunc f ((#[]++ku.map a.eval)++us.toArray)).run P w:=rfl
      rw[h2,lQ hg' w]
      congr 2
      apply Array.ext';simp
    ·exact h.elim
   ·split at h
    ·rename_i v e he;exact plain v e he h
    ·exact h.elim
  ·cases sf
 ·cases sf
end
end Go.Jq
namespace Go.Jq
open Go
section
variable{P:Program} {E:Env} {k:Nat}
theorem wL {ops:Array Oper} {o:Oper} {g:Nat} {want b:Bool} {t:Fr} {c:Ctx} {a:Act} {w:World} (hg:lL ops o.guard=some (some (g,want))) (hF:FR c w t a.tmps)
 (hb:ah t g=.d (.bool b)):Region.wanted o (yielded ops a.tmps)=(b==want):=by
 unfold lL at hg;cases ho:o.guard with
 |none=>rw[ho]at hg;cases hg
 |some jw=>
  obtain⟨j,wt⟩:=jw;rw[ho]at hg;simp only at hg;split at hg
  ·rename_i o' hj;split at hg
   ·rename_i d hd;cases hg;have hx:=hF g;rw[hb]at hx;have hv:=fQ hx;have hy:yielded ops a.tmps j=some b:=by
     unfold yielded;simp only[hj,Option.bind_some,hd];rw[Array.getD_eq_getD_getElem?]at hv;cases hq:a.tmps[g]?with
     |none=>rw[hq]at hv;cases hv
     |some u=>rw[hq]at hv;simp only[al6]at hv;subst hv;rfl
    unfold Region.wanted;rw[ho];simp only[hy];cases b<;>cases want<;>rfl
   ·cases hg
  ·cases hg
theorem Fo {ops:Array Oper} {o:Oper} {g:Nat} {want:Bool} {cs:List AV} {t:Fr} {c:Ctx} {a:Act} {w:World} (hg:lL ops o.guard=some (some (g,want))) (hF:FR c w t a.tmps)
 (hb:ah t g=.cC cs):Region.wanted o (yielded ops a.tmps)=false:=by
 unfold lL at hg;cases ho:o.guard with
 |none=>rw[ho]at hg;cases hg
 |some jw=>
  obtain⟨j,wt⟩:=jw;rw[ho]at hg;simp only at hg;split at hg
  ·rename_i o' hj;split at hg
   ·rename_i d hd;cases hg;have hx:=hF g;rw[hb]at hx;simp only[Rel]at hx;obtain⟨vs,hv,_⟩:=hx;have hy:yielded ops a.tmps j=none:=by
     unfold yielded;simp only[hj,Option.bind_some,hd];rw[Array.getD_eq_getD_getElem?]at hv;cases hq:a.tmps[g]?with
     |none=>rfl
     |some u=>rw[hq]at hv;simp only[al6]at hv;subst hv;rfl
    unfold Region.wanted;rw[ho];simp only[hy];cases want<;>rfl
   ·cases hg
  ·cases hg
theorem p8 (c:Ctx) (w:World):Rel c w (.cC []) undef:=by
 simp only[Rel,bg];exact⟨[],rfl,rfl⟩
theorem Cj {ops:Array Oper} {o:Oper} (hg:lL ops o.guard=some none) (y:Nat->Option Bool):Region.wanted o y=true:=by
 unfold lL at hg;cases ho:o.guard with
 |none=>unfold Region.wanted;rw[ho]
 |some jw=>
  obtain⟨j,wt⟩:=jw;rw[ho]at hg;simp only at hg;split at hg
  ·split at hg;·cases hg
   ·cases hg
  ·cases hg
theorem mZ {ops:Array Oper} {o:Oper} {ao:bC} (h:rN P ops k o=some ao):lL ops o.guard=some ao.guard/\ao.dst=o.dst/\(∀d,o.dst=some d->d<k):=by
 unfold rN at h;split at h
 ·rename_i aop g A9 hg;split at h
  ·rename_i hd;cases h;exact⟨hg,rfl,λd he=>by rw[he]at hd;simpa[TW]using hd⟩
  ·cases h
 ·cases h
theorem lR {ops:Array Oper} {Q:Exit->Act->World->Prop} {K:St->Prop} (hK:∀S' a' w',K S'->ml E k S' a' w'->Q .normal a' w'):
 ∀(l:List Oper) (al:List bC) (i:Nat) (S:St) (a:Act) (w:World),(∀j,l[j]?=ops[i+j]?)->jW P ops k l=some al->E.n<=S.n->ml E k S a w->bN P al S K->
  wpOps P ops Q (List.range' i l.length) a w
 | [],al,i,S,a,w,_,hc,_,r7,h=>by
   simp only[jW,alJ]at hc;subst hc;exact hK S a w h r7
 |o::l,al,i,S,a,w,hl,hc,hn,r7,h=>by
  simp only[jW]at hc;split at hc
  ·rename_i ao r' h1 h2;cases hc;have h0:ops[i]?=some o:=by simpa using(hl 0).symm
   have uv:∀j,l[j]?=ops[i+1+j]?:=λj=>by have:=hl (j+1);simpa[Nat.add_assoc,Nat.add_comm 1 j]using this
   obtain⟨hg,hd,Ri⟩:=mZ h1;simp only[alu,List.range'_succ,wpOps,h0];simp only[bN]at h;split at h
   ·rename_i hgn;rw[hgn]at hg;rw[if_pos (Cj hg _)];exact .inl (Bv h1 hn (λS' a' w' hs Bu hle=>lR hK l r' (i+1) S' a' w' uv h2 (Nat.le_trans hn hle) Bu hs) r7 h)
   ·rename_i g want hgs;rw[hgs]at hg;split at h
    ·rename_i b hb;obtain⟨c,iW,hp⟩:=r7;have hw:=wL hg iW.fr hb;split at h
     ·rename_i Uz;rw[hw,if_pos (by simpa using Uz)];exact .inl (Bv h1 hn (λS' a' w' hs Bu hle=>lR hK l r' (i+1) S' a' w' uv h2 (Nat.le_trans hn hle) Bu hs) ⟨c,iW,hp⟩ h)
     ·rename_i Uz;rw[hw,if_neg (by simpa using Uz)];refine lR hK l r' (i+1) ⟨cG S.t ao.dst (.cC []),S.m,S.n⟩ _ _ uv h2 hn ?_ h;rw[hd];exact pZ iW hp hn Ri (.inl (p8 _ _)) iW.mr (Step.refl _ _ _) (λ_ h=>.inl h) (λ_ _=>rfl) (λ_ _ h=>h) iW.free rfl
    ·rename_i cs hb;obtain⟨c,iW,hp⟩:=r7;have hw:=Fo hg iW.fr hb;rw[hw,if_neg (by simp)];refine lR hK l r' (i+1) ⟨cG S.t ao.dst (.cC []),S.m,S.n⟩ _ _ uv h2 hn ?_ h;rw[hd];exact pZ iW hp hn Ri (.inl (p8 _ _)) iW.mr (Step.refl _ _ _) (λ_ h=>.inl h) (λ_ _=>rfl) (λ_ _ h=>h) iW.free rfl
    ·exact h.elim
  ·cases hc
theorem MS {n0:Nat} {S:St} {Q:Exit->St->Prop} {id:Nat} {ops:Array Oper} {al:List bC} (hc:jW P ops k ops.toList=some al) (hn:n0<=S.n)
 (h:bN P al S (λS'=>Q .normal S')):Ci P n0 k (.region id ops false) S Q:=by
 intro E hE a w r7;refine wp_region ?_;have:=lR (P:=P) (E:=E) (k:=k) (ops:=ops) (Q:=λe a' w'=>∃S',Q e S'/\ml E k S' a' w') (K:=λS'=>Q .normal S') (λS' a' w' h1 h2=>⟨S',h1,h2⟩) ops.toList al 0 S a w
  (λj=>by rw[alo,Array.getElem?_toList]) hc (hE▸hn) r7 h
 rw[List.range_eq_range'];simpa using this
end
def cf (ρ:Ren) (m0 m':Mem) (N:Nat):Nat->Option Nat:=λj=>if(ai m0 j).isSome&&(ai m' j).isSome then af ρ j else some (N+j)
def bU (m':Mem) (π:Nat->Option Nat):Ren->Mem->Mem
 | [],m=>m
 |(j,id)::r,m=>match ai m' j with
  |some cs=>bU m' π r (ak m id (aj π cs))
  |none=>bU m' π r (aG m id)
def bR (m0:Mem) (N:Nat) (π:Nat->Option Nat):Mem->Mem->Mem
 | [],m=>m
 |(j,cs)::r,m=>if(ai m0 j).isSome then bR m0 N π r m else ak (bR m0 N π r m) (N+j) (aj π cs)
def handed (ρ:Ren) (m:Mem):Mem->Prop
 | []=>True
 |(j,cs)::r=>(match af ρ j with
  |some id=>ai m id=some (aj (af ρ) cs)/\bZ (af ρ) cs=true
  |none=>False)/\handed ρ m r
theorem jt {ρ:Ren} {m:Mem}:∀{m0:Mem},handed ρ m m0->∀j cs,ai m0 j=some cs->∃id,af ρ j=some id/\ai m id=some (aj (af ρ) cs)/\bZ (af ρ) cs=true
 | [],_,j,cs,h=>by simp[ai]at h
 |(k,x)::r,h,j,cs,hj=>by
  simp only[handed]at h;simp only[ai]at hj;split at hj
  ·rename_i e;subst e;cases hj;obtain⟨h,_⟩:=h;split at h
   ·rename_i id hid;exact⟨id,hid,h⟩
   ·exact h.elim
  ·exact jt h.2 j cs hj
theorem ju {m':Mem} {π:Nat->Option Nat} {n:Nat}:∀{ρ:Ren} {m:Mem} (_:bX n ρ=true) (id:Nat),
 ai (bU m' π ρ m) id=match aF ρ id with
  |some j=>(ai m' j).map (aj π)
  |none=>ai m id
 | [],m,_,id=>rfl
 |(j,i)::r,m,cI,id=>by
  have aad:=cI;simp only[bX,alE,decide_eq_true_eq,List.all_eq_true]at cI;obtain⟨⟨_,h2⟩,h3⟩:=cI;have wD:aF r i=none:=by
   cases hp:aF r i with
   |none=>rfl
   |some j'=>
    have:=h2 _ (hU hp);simp at this
  simp only[bU,aF];by_cases e:i=id
  ·subst e;rw[if_pos rfl];cases hm:ai m' j with
   |none=>simp only[ju h3,wD,fL,if_true,hm,Option.map_none]
   |some cs=>simp only[ju h3,wD,bF,if_true,hm,alX]
  ·rw[if_neg e];cases hm:ai m' j with
   |none=>simp only[ju h3,fL,if_neg e]
   |some cs=>simp only[ju h3,bF,if_neg e]
theorem na {m0:Mem} {N:Nat} {π:Nat->Option Nat}:∀{m' m:Mem} (id:Nat),
 ai (bR m0 N π m' m) id=if N<=id/\(ai m0 (id-N))=none/\(ai m' (id-N)).isSome then(ai m' (id-N)).map (aj π)else ai m id
 | [],m,id=>by simp[bR,ai]
 |(j,cs)::r,m,id=>by
  have Ck:ai ((j,cs)::r) (id-N)=if j=id-N then some cs else ai r (id-N):=rfl
  simp only[bR];by_cases h0:(ai m0 j).isSome
  ·rw[if_pos h0,na];by_cases e:j=id-N
   ·subst e;have:ai m0 (id-N)≠none:=by intro h;rw[h]at h0;cases h0
    rw[if_neg (λh=>this h.2.1),if_neg (λh=>this h.2.1)]
   ·rw[if_neg e]at Ck;simp only[Ck]
  ·rw[if_neg h0,bF];by_cases e:N+j=id
   ·subst e;have h1:N+j-N=j:=by omega
    have h2:ai m0 j=none:=by simpa using h0
    rw[h1]at Ck⊢;rw[if_pos rfl]at Ck;simp[Ck,h2]
   ·rw[if_neg e,na];by_cases hN:N<=id
    ·have:¬j=id-N:=by omega
     rw[if_neg this]at Ck;simp only[Ck]
    ·simp[hN]
theorem UA {π:Nat->Option Nat} {cs kv:List AV} (h:aj π cs=.cC []::kv):∃yF,cs=.cC []::yF/\aj π yF=kv:=by
 cases cs with
 |nil=>cases h
 |cons x cs=>
  simp only[aj,List.cons.injEq]at h;obtain⟨h1,h2⟩:=h;cases x with
  |cC vs=>
   simp only[AV.aA,AV.cC.injEq]at h1;have:=Ad π vs;rw[h1]at this;have:=amb this.symm;subst this;exact⟨cs,rfl,h2⟩
  |_=>
   simp only[AV.aA]at h1
   try split at h1
   all_goals cases h1
theorem yX {P:Program} {f:Nat} {dV:List AV} {m0:Mem} {Q:AV->Mem->Prop} {m:Mem} {n:Nat} (h:bB P f dV m0 Q) (ρ:Ren) {nb:Nat} (cI:bX nb ρ=true)
 (du:bZ (af ρ) dV=true) (hh:handed ρ m m0) (o0:∀j id,af ρ j=some id->(ai m0 j).isSome)
 {F:Nat->Prop} (hF:∀r m',Q r m'->∀id,n<=id->id<n+Nat.max (aE m0) (aE m')->F id):
 Jb P f (aj (af ρ) dV) m n F λr m1 n1=>∃r0 m',Q r0 m'/\r=r0.aA (cf ρ m0 m' n)/\m1=bR m0 n (cf ρ m0 m' n) m' (bU m' (cf ρ m0 m' n) ρ m)/\
  n1=n+Nat.max (aE m0) (aE m'):=by
 intro c w vs hr hM js;have Pb:=fR cI
 let c0:Ctx:={φ:=λj=>match af ρ j with|some id=>c.φ id|none=>.free,dY:=c.dY}
 have Bc:∀j id,af ρ j=some id->c0.φ j=c.φ id:=λj id h=>by simp only[c0,h]
 have Cl:bg c0 w dV vs:=kU (c:=c0) (c':=c) (λ_ h=>h) Bc _ _ du hr;have hM0:MR c0 m0 w:=by
  refine⟨λj cs hj=>?_,λj j' b hj A6 hb gi=>?_,hM.dY,hM.zZ⟩
  ·obtain⟨id,hid,UB,UC⟩:=jt hh j cs hj;rcases hM.own id _ UB with⟨h0,cq⟩|⟨b,arr,T,fz,hb,jj,hw,hf,us,rest,ha,mW⟩|⟨b,es,kv,hb,jj,hw,hf,Um,mW⟩
   ·refine .inl ⟨(Bc j id hid).trans h0,?_⟩;have:=Ad (af ρ) cs;rw[cq]at this;exact amb this.symm
   ·exact .inr (.inl ⟨b,arr,T,fz,(Bc j id hid).trans hb,jj,hw,hf,us,rest,ha,kU (c:=c0) (c':=c) (λ_ h=>h) Bc _ _ UC mW⟩)
   ·obtain⟨yF,rfl,ajG⟩:=UA Um;simp only[bZ,cd,Bool.true_and]at UC;rw[<-ajG]at mW;exact .inr (.inr ⟨b,es,yF,(Bc j id hid).trans hb,jj,hw,hf,rfl,kU (c:=c0) (c':=c) (λ_ h=>h) Bc _ _ UC mW⟩)
  ·obtain⟨cs,cq⟩:=alS.1 hj;obtain⟨qI,lO⟩:=alS.1 A6;obtain⟨id,hid,UB,_⟩:=jt hh j cs cq;obtain⟨mK,ov,Jd,_⟩:=jt hh j' qI lO;rw[Bc j id hid]at hb;rw[Bc j' mK ov]at gi;have:=hM.inj id mK b (by rw[UB];rfl) (by rw[Jd];rfl) hb gi;subst this;have h1:=(Pb j id (lP hid)).2.1;have h2:=(Pb j' id (lP ov)).2.1;rw[h1]at h2;exact al9 h2
 have aeM:∀j,aE m0<=j->c0.φ j=.free:=by
  intro j hj;simp only[c0];split
  ·rename_i id hid;have:=mn (o0 j id hid);omega
  ·rfl
 have Fp:∀b,iV c0 m0 b->∃j id,af ρ j=some id/\(ai m id).isSome/\(c.φ id).bk=some b:=by
  rintro b ⟨j,hj,hb⟩;obtain⟨cs,cq⟩:=alS.1 hj;obtain⟨id,hid,UB,_⟩:=jt hh j cs cq;exact⟨j,id,hid,by rw[UB];rfl,(Bc j id hid)▸hb⟩
 have UD:∀b,iV c0 m0 b->iV c m b:=λb hb=>by
  obtain⟨j,id,_,h1,h2⟩:=Fp b hb;exact⟨id,h1,h2⟩
 refine(h c0 w vs Cl hM0 aeM).mono ?_;rintro e w' ⟨v,r0,m',c',rfl,hQ,mW,yG,hs,ho,Je,hfr⟩;have hle:n<=n+Nat.max (aE m0) (aE m'):=Nat.le_add_right _ _;have bn:∀id,(ai m id).isSome->¬(n<=id/\id<n+Nat.max (aE m0) (aE m')):=λid hid hr=>hM.TX hid (js id (hF r0 m' hQ id hr.1 hr.2));have agD:∀j id,af ρ j=some id->¬(n<=id/\id<n+Nat.max (aE m0) (aE m')):=λj id hj=>by
  obtain⟨cs0,ME⟩:=alS.1 (o0 j id hj);obtain⟨mK,ov,Jd,_⟩:=jt hh j cs0 ME;rw[hj]at ov;cases ov;exact bn id (by rw[Jd];rfl)
 let c1:Ctx:={φ:=λid=>if n<=id/\id<n+Nat.max (aE m0) (aE m')then c'.φ (id-n)else c.φ id,dY:=c'.dY}
 have wM:∀id,¬(n<=id/\id<n+Nat.max (aE m0) (aE m'))->c1.φ id=c.φ id:=λid hid=>by simp only[c1,if_neg hid]
 have Gy:∀j,j<Nat.max (aE m0) (aE m')->c1.φ (n+j)=c'.φ j:=λj hj=>by simp only[c1];rw[if_pos ⟨by omega,by omega⟩];congr 1;omega
 have Gz:∀j,(ai m' j).isSome->j<Nat.max (aE m0) (aE m'):=λj hj=>Nat.lt_of_lt_of_le (mn hj) (Nat.le_max_right _ _);have hπ:∀j i,cf ρ m0 m' n j=some i->c'.φ j≠.free->c1.φ i=c'.φ j:=by
  intro j i wb hnf;simp only[cf]at wb;split at wb
  ·rename_i hb;simp only[alE]at hb;rw[wM i (agD j i wb),<-Bc j i wb];exact((Je j (mn hb.1) hb.2).2).symm
  ·cases wb;refine Gy j ?_;rcases Nat.lt_or_ge j (Nat.max (aE m0) (aE m'))with h1|h1;·exact h1
   ·exact absurd (hfr j h1) hnf
 have aeN:jP c c1 w w':=by
  refine⟨hs.dY,λb hb=>hs.di b (hM.dY b hb) (λh=>hM.sep hb (UD b h)),λid hid=>wM id ?_,hs.rows⟩;exact λhr=>hid (js id (hF r0 m' hQ id hr.1 hr.2))
 have jX:∀id,ai (bR m0 n (cf ρ m0 m' n) m' (bU m' (cf ρ m0 m' n) ρ m)) id=
  if n<=id/\(ai m0 (id-n))=none/\(ai m' (id-n)).isSome then(ai m' (id-n)).map (aj (cf ρ m0 m' n))else
   match aF ρ id with
   |some j=>(ai m' j).map (aj (cf ρ m0 m' n))
   |none=>ai m id:=λid=>by rw[na,ju cI]
 have kinds:∀id cells,ai (bR m0 n (cf ρ m0 m' n) m' (bU m' (cf ρ m0 m' n) ρ m)) id=some cells->
  (∃j cs,id=n+j/\ai m0 j=none/\ai m' j=some cs/\cells=aj (cf ρ m0 m' n) cs)\/
  (∃j cs,af ρ j=some id/\¬(n<=id/\id<n+Nat.max (aE m0) (aE m'))/\(ai m0 j).isSome/\ai m' j=some cs/\cells=aj (cf ρ m0 m' n) cs/\(ai m id).isSome)\/
  (aF ρ id=none/\ai m id=some cells):=by
  intro id cells hid;rw[jX]at hid;split at hid
  ·rename_i cW;rw[alG]at hid;obtain⟨cs,cq,rfl⟩:=hid;exact .inl ⟨id-n,cs,by omega,cW.2.1,cq,rfl⟩
  ·split at hid
   ·rename_i j hj;rw[alG]at hid;obtain⟨cs,cq,rfl⟩:=hid;have h1:=Pb j id (hU hj);obtain⟨cs0,ME⟩:=alS.1 (o0 j id h1.1);obtain⟨mK,ov,Jd,_⟩:=jt hh j cs0 ME;rw[h1.1]at ov;cases ov;exact .inr (.inl ⟨j,cs,h1.1,agD j id h1.1,o0 j id h1.1,cq,rfl,by rw[Jd];rfl⟩)
   ·rename_i hj;exact .inr (.inr ⟨hj,hid⟩)
 have GA:∀id b,aF ρ id=none->(ai m id).isSome->(c.φ id).bk=some b->¬iV c0 m0 b:=by
  intro id b hp hm hb ho;obtain⟨j,mK,hj,hm',gi⟩:=Fp b ho;have:=hM.inj id mK b hm hm' hb gi;subst this;have:=(Pb j id (lP hj)).2.1;rw[hp]at this;cases this
 refine⟨v,_,_,_,c1,rfl,⟨r0,m',hQ,rfl,rfl,rfl⟩,?_,?_,?_,?_,wM,?_,hle⟩;·exact Bt (c:=c') (c':=c1) (λ_ h=>h) hπ _ _ mW
 ·refine⟨λid cells hid=>?_,λid mK b hid ov hb gi=>?_,yG.dY,yG.zZ⟩
  ·rcases kinds id cells hid with⟨j,cs,rfl,_,cq,rfl⟩|⟨j,cs,hj,aQ,oc,cq,rfl,_⟩|⟨hp,hm⟩
   ·rcases yG.own j cs cq with⟨h0,rfl⟩|⟨b,arr,T,fz,hb,jj,hw,hf,us,rest,ha,pC⟩|⟨b,es,kv,hb,jj,hw,hf,rfl,pC⟩;·exact .inl ⟨(Gy j (Gz j (by rw[cq];rfl))).trans h0,rfl⟩
    ·exact .inr (.inl ⟨b,arr,T,fz,(Gy j (Gz j (by rw[cq];rfl))).trans hb,jj,hw,hf,us,rest,ha,kg (c:=c') (c':=c1) (λ_ h=>h) hπ _ _ pC⟩)
    ·exact .inr (.inr ⟨b,es,_,(Gy j (Gz j (by rw[cq];rfl))).trans hb,jj,hw,hf,rfl,kg (c:=c') (c':=c1) (λ_ h=>h) hπ _ _ pC⟩)
   ·have fZ:c1.φ id=c'.φ j:=by rw[wM id aQ,<-Bc j id hj];exact((Je j (mn oc) (by rw[cq];rfl)).2).symm
    rcases yG.own j cs cq with⟨h0,rfl⟩|⟨b,arr,T,fz,hb,jj,hw,hf,us,rest,ha,pC⟩|⟨b,es,kv,hb,jj,hw,hf,rfl,pC⟩;·exact .inl ⟨fZ.trans h0,rfl⟩
    ·exact .inr (.inl ⟨b,arr,T,fz,fZ.trans hb,jj,hw,hf,us,rest,ha,kg (c:=c') (c':=c1) (λ_ h=>h) hπ _ _ pC⟩)
    ·exact .inr (.inr ⟨b,es,_,fZ.trans hb,jj,hw,hf,rfl,kg (c:=c') (c':=c1) (λ_ h=>h) hπ _ _ pC⟩)
   ·have GB:(ai m id).isSome:=by rw[hm];rfl
    refine(hM.own id cells hm).later aeN λb hb=>?_;have wD:=GA id b hp GB hb;have ajH:=hM.lM ⟨id,GB,hb⟩;refine⟨hs.di b ajH wD,λhi=>?_⟩;rcases hs.yI b hi with h1|h1|h1;·exact hM.sep h1 ⟨id,GB,hb⟩
    ·exact wD h1
    ·omega
  ·obtain⟨cells,qJ⟩:=alS.1 hid;obtain⟨MT,GC⟩:=alS.1 ov;have agE:∀j,(ai m' j).isSome->(c'.φ j).bk=some b->iV c0 m0 b\/w.heap.size<=b:=λj h1 h2=>ho b ⟨j,h1,h2⟩;have hB:∀j i,af ρ j=some i->¬(n<=i/\i<n+Nat.max (aE m0) (aE m'))->(ai m0 j).isSome->(ai m' j).isSome->c1.φ i=c'.φ j:=λj i hj hi h0 h1=>by
    rw[wM i hi,<-Bc j i hj];exact((Je j (mn h0) h1).2).symm
   rcases kinds id cells qJ with⟨j,cs,rfl,hj0,cq,_⟩|⟨j,cs,hj,aQ,oc,cq,_,GB⟩|⟨hp,hm⟩
   ·rw[Gy j (Gz j (by rw[cq];rfl))]at hb;rcases kinds mK MT GC with⟨j',qI,rfl,aeO,lO,_⟩|⟨j',qI,A6,Jf,UE,lO,_,wN⟩|⟨MP,hm'⟩
    ·rw[Gy j' (Gz j' (by rw[lO];rfl))]at gi;rw[yG.inj j j' b (by rw[cq];rfl) (by rw[lO];rfl) hb gi]
    ·exfalso;rw[hB j' mK A6 Jf UE (by rw[lO];rfl)]at gi;have:=yG.inj j j' b (by rw[cq];rfl) (by rw[lO];rfl) hb gi;subst this;rw[hj0]at UE;cases UE
    ·exfalso;have wN:(ai m mK).isSome:=by rw[hm'];rfl
     rw[wM mK (bn mK wN)]at gi;rcases agE j (by rw[cq];rfl) hb with h1|h1;·exact GA mK b MP wN gi h1
     ·have:=hM.lM ⟨mK,wN,gi⟩;omega
   ·have iq:=hb;rw[hB j id hj aQ oc (by rw[cq];rfl)]at hb;rw[wM id aQ]at iq;rcases kinds mK MT GC with⟨j',qI,rfl,aeO,lO,_⟩|⟨j',qI,A6,Jf,UE,lO,_,wN⟩|⟨MP,hm'⟩
    ·exfalso;rw[Gy j' (Gz j' (by rw[lO];rfl))]at gi;have:=yG.inj j j' b (by rw[cq];rfl) (by rw[lO];rfl) hb gi;subst this;rw[aeO]at oc;cases oc
    ·rw[wM mK Jf]at gi;exact hM.inj id mK b GB wN iq gi
    ·have wN:(ai m mK).isSome:=by rw[hm'];rfl
     rw[wM mK (bn mK wN)]at gi;exact hM.inj id mK b GB wN iq gi
   ·have GB:(ai m id).isSome:=by rw[hm];rfl
    rw[wM id (bn id GB)]at hb;rcases kinds mK MT GC with⟨j',qI,rfl,aeO,lO,_⟩|⟨j',qI,A6,Jf,UE,lO,_,wN⟩|⟨MP,hm'⟩
    ·exfalso;rw[Gy j' (Gz j' (by rw[lO];rfl))]at gi;rcases agE j' (by rw[lO];rfl) gi with h1|h1;·exact GA id b hp GB hb h1
     ·have:=hM.lM ⟨id,GB,hb⟩;omega
    ·rw[wM mK Jf]at gi;exact hM.inj id mK b GB wN hb gi
    ·have wN:(ai m mK).isSome:=by rw[hm'];rfl
     rw[wM mK (bn mK wN)]at gi;exact hM.inj id mK b GB wN hb gi
 ·have:=hs.weaken UD;exact⟨this.os,this.tape,this.output,this.size,this.di,this.rows,this.dY,this.yI⟩
 ·rintro b ⟨id,hid,hb⟩;obtain⟨cells,qJ⟩:=alS.1 hid;rcases kinds id cells qJ with⟨j,cs,rfl,hj0,cq,_⟩|⟨j,cs,hj,aQ,oc,cq,_,GB⟩|⟨hp,hm⟩
  ·rw[Gy j (Gz j (by rw[cq];rfl))]at hb;rcases ho b ⟨j,by rw[cq];rfl,hb⟩with h1|h1;·exact .inl (UD b h1)
   ·exact .inr h1
  ·rw[wM id aQ]at hb;exact .inl ⟨id,GB,hb⟩
  ·have GB:(ai m id).isSome:=by rw[hm];rfl
   rw[wM id (bn id GB)]at hb;exact .inl ⟨id,GB,hb⟩
 ·intro id hid hm;obtain⟨cells,qJ⟩:=alS.1 hm;rcases kinds id cells qJ with⟨j,cs,rfl,_,cq,_⟩|⟨j,cs,hj,aQ,oc,cq,_,GB⟩|⟨hp,hm⟩;·exact absurd ⟨Nat.le_add_right _ _,Nat.add_lt_add_left (Gz j (by rw[cq];rfl)) n⟩ hid
  ·exact GB
  ·rw[hm];rfl
end Go.Jq
namespace Go.Jq
open Go
inductive aJ where
 |skip
 |region (draw:Bool) (ops:List bC) (akU:List Nat)
 |seq (a b:aJ)
 |cond (c:dx) (dM els:aJ)
 |block (id:Nat) (body:aJ)
 |loop (body:aJ)
 |exit (id:Nat)
 |ret
@[reducible]def oM (d:Nat) (a:j5):bC:=⟨some d,a,none⟩
@[reducible]def oG (d:Nat) (a:j5) (g:Nat) (w:Bool):bC:=⟨some d,a,some (g,w)⟩
def ga (ops:Array Oper):List Nat:=
 ops.toList.map λo=>o.after.toList.foldl (λs e=>if Region.binds .any e then s|||2^e.on else s) 0
def dx.b6:dx->List Nat
 |.t i=>[i]
 |.c _=>[]
def sE:Option dx->List Nat
 |some x=>x.b6
 |none=>[]
def j5.b6:j5->List Nat
 |.mv x=>x.b6
 |.pick c a b=>c.b6++a.b6++b.b6
 |.alloc _=>[]
 |.box x=>x.b6
 |.build _ ps=>ps.flatMap λp=>p.2.2.b6
 |.cF _ _ _ ps=>ps.flatMap λp=>p.2.2.b6
 |.load _ x=>x.b6
 |.store _ a v=>a.b6++v.b6
 |.jc x=>x.b6
 |.bin _ x y=>x.b6++y.b6
 |.TU _ x y=>x.b6++y.b6
 |.TV _ x y=>x.b6++y.b6
 |.Zy _ x y=>x.b6++y.b6
 |.eqs _ _ x y=>x.b6++y.b6
 |.un _ x=>x.b6
 |.IJ _ x=>x.b6
 |.nz x=>x.b6
 |.yK x=>x.b6
 |.Gs x=>x.b6
 |.B0 x=>x.b6
 |.rY _ cs=>cs.flatMap dx.b6
 |.Er _ _ _ l c=>l.b6++c.b6
 |.yL x l h=>x.b6++sE l++sE h
 |.uZ _ x l h=>x.b6++sE l++sE h
 |.dI x _=>x.b6
 |.ZT x _ _=>x.b6
 |.cg _ _ x i=>x.b6++i.b6
 |.idxs x i=>x.b6++i.b6
 |.Es _ _ _ x i=>x.b6++i.b6
 |.ext x _=>x.b6
 |.lens x=>x.b6
 |.B1 x=>x.b6
 |.yM x y=>x.b6++y.b6
 |.wk x y=>x.b6++y.b6
 |.app _ _ _ x y=>x.b6++y.b6
 |.j6 _ as=>as.flatMap dx.b6
 |.bW _ as=>as.flatMap dx.b6
 |.eW x as=>x.b6++as.flatMap dx.b6
def Cm (ops:Array Oper):List Oper->List bC->Bool
 |o::r,a::s=>a.op.b6.all (λi=>(o.looksAt ops).contains i)&&Cm ops r s
 | [],[]=>true
 |_,_=>false
def cX (P:Program) (k:Nat):Code->Option aJ
 |.skip=>some .skip
 |.region _ ops draw=>match jW P ops k ops.toList with
  |some al=>if draw then(if Region.lexB .any ops&&Cm ops ops.toList al then some (.region true al (ga ops))else none)else some (.region false al [])
  |none=>none
 |.seq a b=>match cX P k a,cX P k b with
  |some a',some b'=>some (.seq a' b')
  |_,_=>none
 |.cond c a b=>match cX P k a,cX P k b with
  |some a',some b'=>some (.cond (bm c) a' b')
  |_,_=>none
 |.block id b=>(cX P k b).map (.block id)
 |.loop b=>(cX P k b).map .loop
 |.exit id=>some (.exit id)
 |.ret=>some .ret
 |_=>none
def fP (P:Program) (n0 k:Nat) (c:aJ) (S:St) (Q:Exit->St->Prop):Prop:=
 ∀code,cX P k code=some c->Ci P n0 k code S Q
section
variable{P:Program} {n0 k:Nat} {S:St} {Q:Exit->St->Prop}
theorem Cn {c:aJ} {Q':Exit->St->Prop} (h:fP P n0 k c S Q) (hq:∀e S,Q e S->Q' e S):fP P n0 k c S Q':=λcode hc=>Up (h code hc) hq
theorem aw {c:aJ} {S':St} (he:aB n0 k S S') (h:fP P n0 k c S' Q):fP P n0 k c S Q:=λcode hc=>Rh he (h code hc)
theorem MU {code:Code} (h:cX P k code=some .skip):code=.skip:=by
 cases code with
 |skip=>rfl
 |region id ops draw=>simp only[cX]at h;repeat' split at h
                      all_goals cases h
 |seq a b=>simp only[cX]at h;repeat' split at h
           all_goals cases h
 |cond c a b=>simp only[cX]at h;repeat' split at h
              all_goals cases h
 |block id b=>simp[cX]at h
 |loop b=>simp[cX]at h
 |_=>simp[cX]at h
theorem ar (h:Q .normal S):fP P n0 k .skip S Q:=λ_ hc=>by rw[MU hc];exact Uq h
theorem aW {id:Nat} (h:Q (.exit id) S):fP P n0 k (.exit id) S Q:=by
 intro code hc;cases code with
 |exit mK=>simp only[cX,alJ,aJ.exit.injEq]at hc;subst hc;exact Ur h
 |region id ops draw=>simp only[cX]at hc;repeat' split at hc
                      all_goals cases hc
 |seq a b=>simp only[cX]at hc;repeat' split at hc
           all_goals cases hc
 |cond c a b=>simp only[cX]at hc;repeat' split at hc
              all_goals cases hc
 |_=>simp[cX]at hc
theorem an (h:Q .ret S):fP P n0 k .ret S Q:=by
 intro code hc;cases code with
 |ret=>exact aaa h
 |region id ops draw=>simp only[cX]at hc;repeat' split at hc
                      all_goals cases hc
 |seq a b=>simp only[cX]at hc;repeat' split at hc
           all_goals cases hc
 |cond c a b=>simp only[cX]at hc;repeat' split at hc
              all_goals cases hc
 |_=>simp[cX]at hc
theorem aa {x y:aJ} (h:∀K:St->Prop,(∀S',fP P n0 k y S' Q->K S')->fP P n0 k x S (Exit.jQ K Q)):fP P n0 k (.seq x y) S Q:=by
 intro code hc;cases code with
 |seq a b=>
  simp only[cX]at hc;split at hc
  ·rename_i a' b' h1 h2;cases hc;exact aab (h (λS'=>Ci P n0 k b S' Q) (λS' hb=>hb b h2) a h1)
  ·cases hc
 |region id ops draw=>simp only[cX]at hc;repeat' split at hc
                      all_goals cases hc
 |cond c a b=>simp only[cX]at hc;repeat' split at hc
              all_goals cases hc
 |_=>simp[cX]at hc
theorem cm {c:dx} {x y:aJ} (b:Bool) (hc:ev S.t c=.d (.bool b)) (ht:b=true->fP P n0 k x S Q) (hf:b=false->fP P n0 k y S Q):fP P n0 k (.cond c x y) S Q:=by
 intro code r7;cases code with
 |cond c' a' b'=>
  simp only[cX]at r7;split at r7
  ·rename_i x' y' h1 h2;cases r7;exact Us hc (λh=>ht h a' h1) (λh=>hf h b' h2)
  ·cases r7
 |seq a b=>simp only[cX]at r7;repeat' split at r7
           all_goals cases r7
 |region id ops draw=>simp only[cX]at r7;repeat' split at r7
                      all_goals cases r7
 |_=>simp[cX]at r7
theorem ax {id:Nat} {b:aJ} (h:fP P n0 k b S (Exit.kq id Q)):fP P n0 k (.block id b) S Q:=by
 intro code hc;cases code with
 |block mK b'=>
  simp only[cX,alG]at hc;obtain⟨b'',h1,h2⟩:=hc;cases h2;exact Rg (h b' h1)
 |cond c a b=>simp only[cX]at hc;repeat' split at hc
              all_goals cases hc
 |seq a b=>simp only[cX]at hc;repeat' split at hc
           all_goals cases hc
 |region id ops draw=>simp only[cX]at hc;repeat' split at hc
                      all_goals cases hc
 |_=>simp[cX]at hc
theorem sF {b:aJ} (I:St->Prop) (μ:St->Nat) (h0:I S)
 (round:∀S,I S->fP P n0 k b S (Exit.jQ (λS'=>∃ZB,aB n0 k S' ZB/\I ZB/\μ ZB<μ S) Q)):fP P n0 k (.loop b) S Q:=by
 intro code hc;cases code with
 |loop b'=>
  simp only[cX,alG]at hc;obtain⟨b'',h1,h2⟩:=hc;cases h2;exact Ut I μ h0 λS hI=>round S hI b' h1
 |cond c a b=>simp only[cX]at hc;repeat' split at hc
              all_goals cases hc
 |seq a b=>simp only[cX]at hc;repeat' split at hc
           all_goals cases hc
 |region id ops draw=>simp only[cX]at hc;repeat' split at hc
                      all_goals cases hc
 |_=>simp[cX]at hc
theorem ag {al:List bC} {pr:List Nat} (hn:decide (n0<=S.n)=true) (h:bN P al S (λS'=>Q .normal S')):fP P n0 k (.region false al pr) S Q:=by
 intro code hc;cases code with
 |region id ops draw=>
  simp only[cX]at hc;split at hc
  ·rename_i al' tK;split at hc;·split at hc<;>cases hc
   ·rename_i hd;cases hc;have:draw=false:=by simpa using hd
    subst this;exact MS tK (of_decide_eq_true hn) h
  ·cases hc
 |cond c a b=>simp only[cX]at hc;repeat' split at hc
              all_goals cases hc
 |seq a b=>simp only[cX]at hc;repeat' split at hc
           all_goals cases hc
 |_=>simp[cX]at hc
end
theorem ay {P:Program} {f:Nat} {fn:Func} {c:aJ} {args:List AV} {m:Mem} {Q:AV->Mem->Prop} {k:Nat} {rs:Array ResultVar} (hf:P.funcs[f]?=some fn)
 (hc:fn.body.bind (cX P fn.ntmps)=some c) (hk:fn.ntmps=k) (Tx:fn.results=rs)
 (hn:decide (args.length<=k)=true) (h:fP P (aE m) k c ⟨MO 0 args,m,aE m⟩ (nC P rs (aE m) Q)):bB P f args m Q:=by
 subst hk Tx;rw[Option.bind_eq_some_iff]at hc;obtain⟨code,h1,h2⟩:=hc;exact Ex hf h1 (of_decide_eq_true hn) (h code h2)
@[go_sem↓]theorem akV {α:Sort _} {c:Prop} [Decidable c] {a b:α} (h:c=True):(if c then a else b)=a:=if_pos (of_eq_true h)
@[go_sem↓]theorem akW {α:Sort _} {c:Prop} [Decidable c] {a b:α} (h:c=False):(if c then a else b)=b:=if_neg (of_eq_false h)
theorem J {P:Program} {n0 k:Nat} {S:St} {Q:Exit->St->Prop} {al:List bC} {pr:List Nat} {y:aJ} (h:∀K:St->Prop,(∀S',fP P n0 k y S' Q->K S')->bN P al S (λS'=>Exit.jQ K Q .normal S')) (hn:decide (n0<=S.n)=true:=by exact rfl):fP P n0 k (.seq (.region false al pr) y) S Q:=aa λK hK=>ag hn (h K hK)
theorem aM {P:Program} {n0 k:Nat} {S:St} {Q:Exit->St->Prop} {c:dx} {x y:aJ} (ht:fP P n0 k x S Q) (hc:ev S.t c=.d (.bool true):=by simp[ev,ah]):fP P n0 k (.cond c x y) S Q:=cm true hc (λ_=>ht) (λh=>nomatch h)
theorem aH {P:Program} {n0 k:Nat} {S:St} {Q:Exit->St->Prop} {c:dx} {x y:aJ} (hf:fP P n0 k y S Q) (hc:ev S.t c=.d (.bool false):=by simp[ev,ah]):fP P n0 k (.cond c x y) S Q:=cm false hc (λh=>nomatch h) (λ_=>hf)
end Go.Jq
