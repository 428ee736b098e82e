/- The abstract layer: the rules; regions that draw their order. -/
import Derived.Test.YtpfbljkfbjjlkaaDoorXD
/-! The abstract layer, part 17: the rules by which simp goes through a region. -/
namespace Go.Jq
open Go

/-- One operation, then the others. -/
def opK (P : Program) (dst : Option Nat) (op : AOp) (r : List AOper) (K : St → Prop) (t : Fr) (m : Mem) (n : Nat) : Prop :=
  stepOp P ⟨dst, op, none⟩ ⟨t, m, n⟩ fun S' => runOps P r S' K

def contK (P : Program) (dst : Option Nat) (r : List AOper) (K : St → Prop) (t : Fr) (m : Mem) (n : Nat) : Option (AV × Eff) → Prop
  | some (v, e) => runOps P r ⟨putF t dst v, e.mem m n, e.next n⟩ K
  | none => False

def gateK (P : Program) (dst : Option Nat) (op : AOp) (r : List AOper) (K : St → Prop) (t : Fr) (m : Mem) (n : Nat) (want : Bool) : AV → Prop
  | .d (.bool b) => if b = want then opK P dst op r K t m n else runOps P r ⟨putF t dst (.tup []), m, n⟩ K
  | .tup _ => runOps P r ⟨putF t dst (.tup []), m, n⟩ K
  | _ => False

/-- A call, then the other operations. -/
def callK (P : Program) (f : Nat) (args : List AV) (dst : Option Nat) (r : List AOper) (K : St → Prop) (t : Fr) (m : Mem) (n : Nat) : Prop :=
  ∃ R, CallR P f args m n (n ≤ ·) R ∧ ∀ v m' n', R v m' n' → runOps P r ⟨putF t dst v, m', n'⟩ K

def callvK (P : Program) (args : List AV) (dst : Option Nat) (r : List AOper) (K : St → Prop) (t : Fr) (m : Mem) (n : Nat) : AV → Prop
  | .fn f caps => goesB P f = true ∧ callK P f (args ++ caps) dst r K t m n
  | _ => False

section
variable {P : Program} {dst : Option Nat} {op : AOp} {r : List AOper} {K : St → Prop} {t : Fr} {m : Mem} {n : Nat}

@[go_sem] theorem runOps_nil {S : St} : runOps P [] S K = K S := rfl
@[go_sem] theorem runOps_cons : runOps P (⟨dst, op, none⟩ :: r) ⟨t, m, n⟩ K = opK P dst op r K t m n := by
  simp only [runOps, opK, stepOp]
@[go_sem] theorem runOps_guard {g : Nat} {want : Bool} : runOps P (⟨dst, op, some (g, want)⟩ :: r) ⟨t, m, n⟩ K = gateK P dst op r K t m n want (fget t g) := by
  simp only [runOps]
  generalize fget t g = x
  cases x with
  | d x => cases x <;> simp only [gateK, opK, stepOp]
  | _ => simp only [gateK]
@[go_sem] theorem gateK_tt : gateK P dst op r K t m n true (.d (.bool true)) = opK P dst op r K t m n := rfl
@[go_sem] theorem gateK_ff : gateK P dst op r K t m n false (.d (.bool false)) = opK P dst op r K t m n := rfl
@[go_sem] theorem gateK_tf : gateK P dst op r K t m n true (.d (.bool false)) = runOps P r ⟨putF t dst (.tup []), m, n⟩ K := rfl
@[go_sem] theorem gateK_ft : gateK P dst op r K t m n false (.d (.bool true)) = runOps P r ⟨putF t dst (.tup []), m, n⟩ K := rfl
@[go_sem] theorem gateK_tup {want : Bool} {cs : List AV} : gateK P dst op r K t m n want (.tup cs) = runOps P r ⟨putF t dst (.tup []), m, n⟩ K := rfl
theorem opK_aev (h : isCall op = false) : opK P dst op r K t m n = contK P dst r K t m n (aevN op t m n) := by
  have : stepOp P ⟨dst, op, none⟩ ⟨t, m, n⟩ (fun S' => runOps P r S' K) = contK P dst r K t m n (aevN op t m n) := by
    cases op <;> first
      | (simp [isCall] at h; done)
      | (simp only [stepOp]
         generalize aevN _ t m n = x
         cases x with
         | none => rfl
         | some p => obtain ⟨v, e⟩ := p; rfl)
  exact this
@[go_sem] theorem contK_some {v : AV} {e : Eff} : contK P dst r K t m n (some (v, e)) = runOps P r ⟨putF t dst v, e.mem m n, e.next n⟩ K := rfl
@[go_sem] theorem contK_none : contK P dst r K t m n none = False := rfl
@[go_sem] theorem opK_callf {f : Nat} {args : List Opd} : opK P dst (.callf f args) r K t m n = callK P f (args.map (ev t)) dst r K t m n := rfl
@[go_sem] theorem opK_callv {x : Opd} {args : List Opd} : opK P dst (.callv x args) r K t m n = callvK P (args.map (ev t)) dst r K t m n (ev t x) := by
  unfold opK
  simp only [stepOp]
  generalize ev t x = y
  cases y <;> rfl
@[go_sem] theorem callvK_fn {f : Nat} {caps args : List AV} : callvK P args dst r K t m n (.fn f caps) = (goesB P f = true ∧ callK P f (args ++ caps) dst r K t m n) := rfl

/-! The plain operations, each on its own: what simp is to rewrite by. -/
@[go_sem] theorem opK_mv {x : Opd} : opK P dst (.mv x) r K t m n = runOps P r ⟨putF t dst (ev t x), m, n⟩ K := rfl
@[go_sem] theorem opK_pick {a b c : Opd} : opK P dst (.pick a b c) r K t m n = contK P dst r K t m n (aevN (.pick a b c) t m n) := opK_aev rfl
@[go_sem] theorem fixZ_d {n : Nat} {x : DV} {r : List AV} : fixZ n (.d x :: r) = .d x :: r := rfl
@[go_sem] theorem fixZ_npt {n i T : Nat} {r : List AV} : fixZ n (.npt i T :: r) = .npt n T :: r := rfl
@[go_sem] theorem fixZ_nil {n : Nat} : fixZ n [] = [] := rfl
@[go_sem] theorem opK_alloc {z : List AV} : opK P dst (.alloc z) r K t m n = runOps P r ⟨putF t dst (.ptr n 0), mset m n (fixZ n z), n + 1⟩ K := rfl
@[go_sem] theorem opK_box {x : Opd} : opK P dst (.box x) r K t m n = contK P dst r K t m n (aevN (.box x) t m n) := opK_aev rfl
@[go_sem] theorem opK_build {z : List AV} {p : List (Nat × Nat × Opd)} : opK P dst (.build z p) r K t m n = contK P dst r K t m n (aevN (.build z p) t m n) := opK_aev rfl
@[go_sem] theorem opK_bslice {a b : Nat} {z : List AV} {p : List (Nat × Nat × Opd)} : opK P dst (.bslice a b z p) r K t m n = contK P dst r K t m n (aevN (.bslice a b z p) t m n) := opK_aev rfl
@[go_sem] theorem opK_load {k : Option Nat} {x : Opd} : opK P dst (.load k x) r K t m n = contK P dst r K t m n (aevN (.load k x) t m n) := opK_aev rfl
@[go_sem] theorem opK_store {k : Nat} {x y : Opd} : opK P dst (.store k x y) r K t m n = contK P dst r K t m n (aevN (.store k x y) t m n) := opK_aev rfl
@[go_sem] theorem opK_nilck {x : Opd} : opK P dst (.nilck x) r K t m n = contK P dst r K t m n (aevN (.nilck x) t m n) := opK_aev rfl
@[go_sem] theorem opK_bin {o : BinOp} {x y : Opd} : opK P dst (.bin o x y) r K t m n = contK P dst r K t m n (aevN (.bin o x y) t m n) := opK_aev rfl
@[go_sem] theorem opK_eqb {o : Bool} {x y : Opd} : opK P dst (.eqb o x y) r K t m n = contK P dst r K t m n (aevN (.eqb o x y) t m n) := opK_aev rfl
@[go_sem] theorem opK_eqp {o : Bool} {x y : Opd} : opK P dst (.eqp o x y) r K t m n = contK P dst r K t m n (aevN (.eqp o x y) t m n) := opK_aev rfl
@[go_sem] theorem opK_eqf {o : Bool} {x y : Opd} : opK P dst (.eqf o x y) r K t m n = contK P dst r K t m n (aevN (.eqf o x y) t m n) := opK_aev rfl
@[go_sem] theorem opK_eqs {k : List Nat} {o : Bool} {x y : Opd} : opK P dst (.eqs k o x y) r K t m n = contK P dst r K t m n (aevN (.eqs k o x y) t m n) := opK_aev rfl
@[go_sem] theorem opK_un {o : UnOp} {x : Opd} : opK P dst (.un o x) r K t m n = contK P dst r K t m n (aevN (.un o x) t m n) := opK_aev rfl
@[go_sem] theorem opK_cvi {k : IntKind} {x : Opd} : opK P dst (.cvi k x) r K t m n = contK P dst r K t m n (aevN (.cvi k x) t m n) := opK_aev rfl
@[go_sem] theorem opK_cvrune {x : Opd} : opK P dst (.cvrune x) r K t m n = contK P dst r K t m n (aevN (.cvrune x) t m n) := opK_aev rfl
@[go_sem] theorem opK_cvbs {x : Opd} : opK P dst (.cvbs x) r K t m n = contK P dst r K t m n (aevN (.cvbs x) t m n) := opK_aev rfl
@[go_sem] theorem opK_cvsb {x : Opd} : opK P dst (.cvsb x) r K t m n = contK P dst r K t m n (aevN (.cvsb x) t m n) := opK_aev rfl
@[go_sem] theorem opK_cvll {x : Opd} : opK P dst (.cvll x) r K t m n = contK P dst r K t m n (aevN (.cvll x) t m n) := opK_aev rfl
@[go_sem] theorem opK_mkfn {f : Nat} {c : List Opd} : opK P dst (.mkfn f c) r K t m n = runOps P r ⟨putF t dst (.fn f (c.map (ev t))), m, n⟩ K := rfl
@[go_sem] theorem opK_mksl {a b : Nat} {z : List AV} {x y : Opd} : opK P dst (.mksl a b z x y) r K t m n = contK P dst r K t m n (aevN (.mksl a b z x y) t m n) := opK_aev rfl
@[go_sem] theorem opK_slcs {x : Opd} {l h : Option Opd} : opK P dst (.slcs x l h) r K t m n = contK P dst r K t m n (aevN (.slcs x l h) t m n) := opK_aev rfl
@[go_sem] theorem opK_slcl {a : Nat} {x : Opd} {l h : Option Opd} : opK P dst (.slcl a x l h) r K t m n = contK P dst r K t m n (aevN (.slcl a x l h) t m n) := opK_aev rfl
@[go_sem] theorem opK_faddr {x : Opd} {o : Nat} : opK P dst (.faddr x o) r K t m n = contK P dst r K t m n (aevN (.faddr x o) t m n) := opK_aev rfl
@[go_sem] theorem opK_fld {x : Opd} {o : Nat} {k : Option Nat} : opK P dst (.fld x o k) r K t m n = contK P dst r K t m n (aevN (.fld x o k) t m n) := opK_aev rfl
@[go_sem] theorem opK_iaddr {e : Nat} {k : Option Nat} {x i : Opd} : opK P dst (.iaddr e k x i) r K t m n = contK P dst r K t m n (aevN (.iaddr e k x i) t m n) := opK_aev rfl
@[go_sem] theorem opK_idxs {x i : Opd} : opK P dst (.idxs x i) r K t m n = contK P dst r K t m n (aevN (.idxs x i) t m n) := opK_aev rfl
@[go_sem] theorem opK_idxa {a e : Nat} {k : Option Nat} {x i : Opd} : opK P dst (.idxa a e k x i) r K t m n = contK P dst r K t m n (aevN (.idxa a e k x i) t m n) := opK_aev rfl
@[go_sem] theorem opK_ext {x : Opd} {i : Nat} : opK P dst (.ext x i) r K t m n = contK P dst r K t m n (aevN (.ext x i) t m n) := opK_aev rfl
@[go_sem] theorem opK_lens {x : Opd} : opK P dst (.lens x) r K t m n = contK P dst r K t m n (aevN (.lens x) t m n) := opK_aev rfl
@[go_sem] theorem opK_lenl {x : Opd} : opK P dst (.lenl x) r K t m n = contK P dst r K t m n (aevN (.lenl x) t m n) := opK_aev rfl
@[go_sem] theorem opK_minI {x y : Opd} : opK P dst (.minI x y) r K t m n = contK P dst r K t m n (aevN (.minI x y) t m n) := opK_aev rfl
@[go_sem] theorem opK_maxI {x y : Opd} : opK P dst (.maxI x y) r K t m n = contK P dst r K t m n (aevN (.maxI x y) t m n) := opK_aev rfl
@[go_sem] theorem opK_app {a b e : Nat} {x y : Opd} : opK P dst (.app a b e x y) r K t m n = contK P dst r K t m n (aevN (.app a b e x y) t m n) := opK_aev rfl

end

attribute [go_sem] aevN ev fget putF Eff.mem Eff.next mget mset mdel shI unA eqpA eqfA eqCell eqCells bndA slcA cellsOf oneB putAt fillA evParts bytesAV elemsOf wrapI boolA frm cellBytes

section
variable {k : IntKind} {a b : Int}
@[go_sem] theorem binA_add : binA .add (.d (.int k a)) (.d (.int k b)) = some (.d (.int k (k.wrap (a + b)))) := by simp [binA, binI, wrapI]
@[go_sem] theorem binA_sub : binA .sub (.d (.int k a)) (.d (.int k b)) = some (.d (.int k (k.wrap (a - b)))) := by simp [binA, binI, wrapI]
@[go_sem] theorem binA_mul : binA .mul (.d (.int k a)) (.d (.int k b)) = some (.d (.int k (k.wrap (a * b)))) := by simp [binA, binI, wrapI]
@[go_sem] theorem binA_quo : binA .quo (.d (.int k a)) (.d (.int k b)) = if b = 0 then none else some (.d (.int k (k.wrap (a.tdiv b)))) := by simp [binA, binI, wrapI]
@[go_sem] theorem binA_rem : binA .rem (.d (.int k a)) (.d (.int k b)) = if b = 0 then none else some (.d (.int k (a.tmod b))) := by simp [binA, binI]
@[go_sem] theorem binA_and : binA .and (.d (.int k a)) (.d (.int k b)) = some (.d (.int k (bits .and k a b))) := by simp [binA, binI]
@[go_sem] theorem binA_or : binA .or (.d (.int k a)) (.d (.int k b)) = some (.d (.int k (bits .or k a b))) := by simp [binA, binI]
@[go_sem] theorem binA_xor : binA .xor (.d (.int k a)) (.d (.int k b)) = some (.d (.int k (bits .xor k a b))) := by simp [binA, binI]
@[go_sem] theorem binA_andNot : binA .andNot (.d (.int k a)) (.d (.int k b)) = some (.d (.int k (bits .andNot k a b))) := by simp [binA, binI]
@[go_sem] theorem binA_shl {k' : IntKind} : binA .shl (.d (.int k a)) (.d (.int k' b)) = if b < 0 then none else some (.d (.int k (k.wrap (a * 2 ^ min b.toNat k.bits)))) := by simp [binA, shI, wrapI]
@[go_sem] theorem binA_shr {k' : IntKind} : binA .shr (.d (.int k a)) (.d (.int k' b)) = if b < 0 then none else some (.d (.int k (a.fdiv (2 ^ min b.toNat k.bits)))) := by simp [binA, shI]
@[go_sem] theorem binA_eql : binA .eql (.d (.int k a)) (.d (.int k b)) = some (.d (.bool (decide (a = b)))) := by simp [binA, binI, boolA]
@[go_sem] theorem binA_neq : binA .neq (.d (.int k a)) (.d (.int k b)) = some (.d (.bool (!decide (a = b)))) := by simp [binA, binI, boolA]
@[go_sem] theorem binA_lss : binA .lss (.d (.int k a)) (.d (.int k b)) = some (.d (.bool (decide (a < b)))) := by simp [binA, binI, boolA]
@[go_sem] theorem binA_leq : binA .leq (.d (.int k a)) (.d (.int k b)) = some (.d (.bool (decide (a ≤ b)))) := by simp [binA, binI, boolA]
@[go_sem] theorem binA_gtr : binA .gtr (.d (.int k a)) (.d (.int k b)) = some (.d (.bool (decide (b < a)))) := by simp [binA, binI, boolA]
@[go_sem] theorem binA_geq : binA .geq (.d (.int k a)) (.d (.int k b)) = some (.d (.bool (decide (b ≤ a)))) := by simp [binA, binI, boolA]
end

section
variable {a b : List UInt8}
@[go_sem] theorem binA_sadd : binA .add (.d (.str a)) (.d (.str b)) = if a.length + b.length ≤ 9223372036854775807 then some (.d (.str (a ++ b))) else none := by simp [binA, binS]
@[go_sem] theorem binA_seql : binA .eql (.d (.str a)) (.d (.str b)) = some (.d (.bool (decide (a = b)))) := by simp [binA, binS, boolA]
@[go_sem] theorem binA_sneq : binA .neq (.d (.str a)) (.d (.str b)) = some (.d (.bool (!decide (a = b)))) := by simp [binA, binS, boolA]
end

attribute [go_sem] Int.cast_ofNat_Int true_and and_true and_self Nat.mul_one Nat.add_zero Nat.zero_add Nat.zero_mul Option.map_some Option.map_none List.map_cons List.map_nil decide_eq_true_eq decide_eq_false_iff_not

theorem wrap_i64 {n : Int} (h0 : -9223372036854775808 ≤ n) (h1 : n ≤ 9223372036854775807) : IntKind.i64.wrap n = n := by
  have e1 : (2 ^ (64 - 1) : Int) = 9223372036854775808 := rfl
  have e2 : (2 ^ 64 : Int) = 18446744073709551616 := rfl
  simp only [IntKind.wrap, IntKind.signed, IntKind.bits, e1, e2, Bool.true_and, decide_eq_true_eq]
  split <;> omega

theorem wrap_u8 {n : Int} (h0 : 0 ≤ n) (h1 : n ≤ 255) : IntKind.u8.wrap n = n := by
  have e2 : (2 ^ 8 : Int) = 256 := rfl
  simp only [IntKind.wrap, IntKind.signed, IntKind.bits, e2, Bool.false_and, Bool.false_eq_true, if_false]
  omega

@[go_sem] theorem thenA_normal {N : St → Prop} {Q : Exit → St → Prop} {S : St} : Exit.thenA N Q .normal S = N S := rfl
@[go_sem] theorem thenA_ret {N : St → Prop} {Q : Exit → St → Prop} {S : St} : Exit.thenA N Q .ret S = Q .ret S := rfl
@[go_sem] theorem thenA_exit {N : St → Prop} {Q : Exit → St → Prop} {S : St} {i : Nat} : Exit.thenA N Q (.exit i) S = Q (.exit i) S := rfl
@[go_sem] theorem inBlockA_normal {j : Nat} {Q : Exit → St → Prop} {S : St} : Exit.inBlockA j Q .normal S = Q .normal S := rfl
@[go_sem] theorem inBlockA_ret {j : Nat} {Q : Exit → St → Prop} {S : St} : Exit.inBlockA j Q .ret S = Q .ret S := rfl
@[go_sem] theorem inBlockA_exit {j i : Nat} {Q : Exit → St → Prop} {S : St} : Exit.inBlockA j Q (.exit i) S = if i = j then Q .normal S else Q (.exit i) S := rfl
@[go_sem] theorem lenA_nsl : lenA (.d .nsl) = some 0 := rfl
@[go_sem] theorem lenA_d {n : Nat} {cs : List DV} : lenA (.d (.sl n cs)) = some n := rfl
@[go_sem] theorem lenA_sl {i e o n : Nat} : lenA (.sl i e o n) = some n := rfl
@[go_sem] theorem loadA_none {cs : List AV} : loadA none cs = cs[0]? := rfl
@[go_sem] theorem loadA_some {k : Nat} {cs : List AV} : loadA (some k) cs = if k ≤ cs.length then some (.agg (cs.take k)) else none := rfl
@[go_sem] theorem natMax_def {a b : Nat} : Nat.max a b = if a ≤ b then b else a := Nat.max_def
@[go_sem] theorem mbound_nil : mbound [] = 0 := rfl
@[go_sem] theorem mbound_cons {i : Nat} {c : List AV} {r : Mem} : mbound ((i, c) :: r) = Nat.max (i + 1) (mbound r) := rfl

/-- The end of a function that hands back data and leaves no own block. -/
theorem aend_ret {P : Program} {rs : Array ResultVar} {n0 : Nat} {Q : AV → Mem → Prop} {S : St} (v : AV) (hv : resA P rs S = some v) (hc : v.ren (fun _ => none) = v) (hq : Q v []) : AEnd P rs n0 Q .ret S :=
  ⟨v, hv, [], [], rfl, rfl, trivial, by
    have : pget [] = fun _ => none := rfl
    rw [this, hc]
    exact hq⟩

end Go.Jq

/-! The abstract layer, part 18: regions that draw their order: the text's order serves for all, if what may come up in either order does not meddle. -/
namespace Go.Jq
open Go

/-- What an operation comes to, wherever it comes up: its value, what it does to memory (as a function, and number by number), the numbers that it turns, those that it looks at, and the new ones that it may use. -/
structure Out where
  v : AV
  act : Mem → Mem
  U : Nat → Option (Option (List AV))
  keys : List Nat
  F : List Nat
  lo : Nat
  hi : Nat

def Out.ok (o : Out) : Prop :=
  (∀ m id, mget (o.act m) id = match o.U id with
    | some x => x
    | none => mget m id) ∧ (∀ id, o.U id ≠ none → id ∈ o.keys)

section
variable {P : Program} {k : Nat} {ops : Array Oper}

/-- The operation does so in this state. -/
def LStep (P : Program) (k : Nat) (o : Oper) (t : Fr) (m : Mem) (out : Out) : Prop :=
  ∀ (c : Ctx) (a : Act) (w : World), a.defers = [] → a.tmps.size = k → FR c w t a.tmps → MR c m w → (∀ id, out.lo ≤ id → id < out.hi → c.φ id = .free) →
    ∀ (Kw : Act → World → Prop) (Q : Exit → Act → World → Prop),
      (∀ u w' c', (Rel c' w' out.v u ∨ out.v = .any) → MR c' (out.act m) w' → Step (Own c m) c c' w w' → (∀ b, Own c' (out.act m) b → Own c m b ∨ w.heap.size ≤ b) →
        (∀ id, ¬ (out.lo ≤ id ∧ id < out.hi) → c'.φ id = c.φ id) → (∀ id, ¬ (out.lo ≤ id ∧ id < out.hi) → (mget (out.act m) id).isSome → (mget m id).isSome) → Kw (a.put o.dst u) w') →
      o.wp P a w Kw Q

/-- And in every state that agrees with this one where it looks. -/
def LocalOut (P : Program) (k : Nat) (ops : Array Oper) (o : Oper) (t : Fr) (m : Mem) (out : Out) : Prop :=
  ∀ t' m', (∀ s ∈ o.looksAt ops, fget t' s = fget t s) → (∀ id ∈ out.F, mget m' id = mget m id) → LStep P k o t' m' out

/-- Is it carried out? -/
def wantA (ops : Array Oper) (o : Oper) (t : Fr) : Option Bool :=
  match o.guard with
  | none => some true
  | some (j, w) => match (ops[j]?).bind (·.dst) with
    | some d => match fget t d with
      | .d (.bool b) => some (b == w)
      | .tup _ => some false
      | _ => none
    | none => none

def WantOK (P : Program) (k : Nat) (ops : Array Oper) (o : Oper) (t : Fr) (m : Mem) (out : Out) : Prop :=
  (wantA ops o t = some true ∧ LocalOut P k ops o t m out) ∨ (wantA ops o t = some false ∧ out.v = .tup [] ∧ (∀ id, out.U id = none))

theorem wantA_same {o : Oper} {t t' : Fr} (h : ∀ s ∈ o.looksAt ops, fget t' s = fget t s) : wantA ops o t' = wantA ops o t := by
  unfold wantA
  cases hg : o.guard with
  | none => rfl
  | some jw =>
    obtain ⟨j, w⟩ := jw
    simp only
    cases hd : (ops[j]?).bind (·.dst) with
    | none => rfl
    | some d =>
      have := h d (by simp [Oper.looksAt, hg, hd])
      simp only [this]

theorem WantOK.same {o : Oper} {t t' : Fr} {m m' : Mem} {out : Out} (h : WantOK P k ops o t m out) (ht : ∀ s ∈ o.looksAt ops, fget t' s = fget t s) (hm : ∀ id ∈ out.F, mget m' id = mget m id) :
    WantOK P k ops o t' m' out := by
  have hw := wantA_same ht
  rcases h with ⟨h1, h2⟩ | ⟨h1, h2⟩
  · exact .inl ⟨hw.trans h1, fun t2 m2 ht2 hm2 => h2 t2 m2 (fun s hs => (ht2 s hs).trans (ht s hs)) (fun id hid => (hm2 id hid).trans (hm id hid))⟩
  · exact .inr ⟨hw.trans h1, h2⟩

/-- Two states that are read alike. -/
def Alk (t : Fr) (m : Mem) (t' : Fr) (m' : Mem) : Prop := (∀ i, fget t' i = fget t i) ∧ (∀ id, mget m' id = mget m id)

theorem fget_putF (t : Fr) (dst : Option Nat) (v : AV) (i : Nat) : fget (putF t dst v) i = if dst = some i then v else fget t i := by
  cases dst with
  | none => simp [putF]
  | some d => by_cases h : d = i <;> simp [putF, fget, h]

theorem Alk.next {t t' : Fr} {m m' : Mem} {out : Out} (h : Alk t m t' m') (hok : out.ok) (dst : Option Nat) : Alk (putF t dst out.v) (out.act m) (putF t' dst out.v) (out.act m') := by
  refine ⟨fun i => ?_, fun id => ?_⟩
  · rw [fget_putF, fget_putF, h.1 i]
  · rw [hok.1, hok.1, h.2 id]

/-- Operation i, with what it comes to. -/
def aOp (P : Program) (k : Nat) (ops : Array Oper) (outs : List Out) (i : Nat) (K : Fr → Mem → Prop) (t : Fr) (m : Mem) : Prop :=
  ∃ o out, ops[i]? = some o ∧ outs[i]? = some out ∧ WantOK P k ops o t m out ∧ K (putF t o.dst out.v) (out.act m)

def wpAnyA (P : Program) (k : Nat) (ops : Array Oper) (outs : List Out) (K : Fr → Mem → Prop) : Nat → Array Bool → Fr → Mem → Prop
  | 0, listed, t, m => Region.ready .any ops listed = [] ∧ K t m
  | fuel + 1, listed, t, m => (Region.ready .any ops listed = [] → K t m) ∧ ∀ i ∈ Region.ready .any ops listed, aOp P k ops outs i (wpAnyA P k ops outs K fuel (listed.setIfInBounds i true)) t m

theorem wpAnyA_alk {outs : List Out} (hok : ∀ (i : Nat) (o : Out), outs[i]? = some o → o.ok) {K : Fr → Mem → Prop} (hK : ∀ t m t' m', Alk t m t' m' → K t m → K t' m') :
    ∀ (fuel : Nat) (listed : Array Bool) (t : Fr) (m : Mem) (t' : Fr) (m' : Mem), Alk t m t' m' → wpAnyA P k ops outs K fuel listed t m → wpAnyA P k ops outs K fuel listed t' m'
  | 0, _, t, m, t', m', ha, h => ⟨h.1, hK t m t' m' ha h.2⟩
  | fuel + 1, listed, t, m, t', m', ha, h => by
    refine ⟨fun h0 => hK t m t' m' ha (h.1 h0), fun i hi => ?_⟩
    obtain ⟨o, out, h1, h2, h3, h4⟩ := h.2 i hi
    exact ⟨o, out, h1, h2, h3.same (fun s _ => ha.1 s) (fun id _ => ha.2 id), wpAnyA_alk hok hK fuel _ _ _ _ _ (ha.next (hok i out h2) o.dst) h4⟩

/-- Two operations do not meddle with each other's memory. -/
def indep (x y : Out) : Prop := (∀ id ∈ x.keys, id ∉ y.F) ∧ (∀ id ∈ y.keys, id ∉ x.F) ∧ (∀ id ∈ x.keys, id ∉ y.keys)

theorem act_same {x : Out} (hx : x.ok) {m : Mem} {id : Nat} (h : id ∉ x.keys) : mget (x.act m) id = mget m id := by
  rw [hx.1]
  cases hu : x.U id with
  | none => rfl
  | some y => exact absurd (hx.2 id (by rw [hu]; simp)) h

theorem looks_put {oi oj : Oper} (hap : ∀ d, oi.dst = some d → d ∉ oj.looksAt ops) (t : Fr) (v : AV) : ∀ s ∈ oj.looksAt ops, fget (putF t oi.dst v) s = fget t s := by
  intro s hs
  rw [fget_putF]
  split
  · rename_i e; exact absurd hs (hap s e)
  · rfl

theorem swap_alk {oi oj : Oper} {x y : Out} (hx : x.ok) (hy : y.ok) (hd : ∀ d, oi.dst = some d → oj.dst ≠ some d) (hk : ∀ id ∈ x.keys, id ∉ y.keys) (t : Fr) (m : Mem) :
    Alk (putF (putF t oi.dst x.v) oj.dst y.v) (y.act (x.act m)) (putF (putF t oj.dst y.v) oi.dst x.v) (x.act (y.act m)) := by
  refine ⟨fun s => ?_, fun id => ?_⟩
  · simp only [fget_putF]
    by_cases h1 : oi.dst = some s
    · rw [if_pos h1, if_neg (hd s h1), if_pos h1]
    · rw [if_neg h1, if_neg h1]
  · rw [hx.1, hy.1, hy.1, hx.1]
    cases hu : x.U id with
    | none => rfl
    | some q =>
      have : y.U id = none := by
        cases hu' : y.U id with
        | none => rfl
        | some q' => exact absurd (hy.2 id (by rw [hu']; simp)) (hk id (hx.2 id (by rw [hu]; simp)))
      rw [this]

/-- An operation ahead of another one, by binding edges, directly or through others. -/
inductive Anc (ops : Array Oper) : Nat → Nat → Prop
  | one {i j : Nat} {oj : Oper} {e : Edge} : ops[j]? = some oj → e ∈ oj.after → Region.binds .any e = true → e.on = i → Anc ops i j
  | more {i k j : Nat} {oj : Oper} {e : Edge} : ops[j]? = some oj → e ∈ oj.after → Region.binds .any e = true → e.on = k → Anc ops i k → Anc ops i j

theorem Anc.trans {i k j : Nat} (h : Anc ops i k) (h' : Anc ops k j) : Anc ops i j := by
  induction h' with
  | one ho he hb heq => exact .more ho he hb heq h
  | more ho he hb heq _ ih => exact .more ho he hb heq ih

/-- With an operation all that is ahead of it was taken. -/
def Down (ops : Array Oper) (listed : Array Bool) : Prop :=
  ∀ (a : Nat) (oa : Oper), ops[a]? = some oa → listed.getD a false = true → ∀ e ∈ oa.after, Region.binds .any e = true → listed.getD e.on false = true

theorem Down.anc {listed : Array Bool} (h : Down ops listed) {i j : Nat} (ha : Anc ops i j) : listed.getD j false = true → listed.getD i false = true := by
  induction ha with
  | one ho he hb heq => intro hj; rw [← heq]; exact h _ _ ho hj _ he hb
  | more ho he hb heq _ ih => intro hj; refine ih ?_; rw [← heq]; exact h _ _ ho hj _ he hb

theorem Down.not_anc {listed : Array Bool} (h : Down ops listed) {i j : Nat} (hi : i ∈ Region.ready .any ops listed) (hj : j ∈ Region.ready .any ops listed) : ¬ Anc ops i j := by
  intro ha
  have h0 : listed.getD i false = false := by
    have := (mem_ready.1 hi).1
    rcases Nat.lt_or_ge i listed.size with h' | h'
    · simp [h'] at this ⊢; exact this
    · simp [Array.getElem?_eq_none h'] at this
  obtain ⟨_, oj, hoj, hall⟩ := mem_ready.1 hj
  have h1 : listed.getD i false = true := by
    cases ha with
    | one ho he hb heq =>
      rw [hoj] at ho; cases ho
      rw [← heq]; exact hall _ he hb
    | more ho he hb heq ha' =>
      rw [hoj] at ho; cases ho
      refine h.anc ha' ?_
      rw [← heq]; exact hall _ he hb
  rw [h1] at h0
  cases h0

theorem Down.next {listed : Array Bool} (h : Down ops listed) {j : Nat} (hj : j ∈ Region.ready .any ops listed) : Down ops (listed.setIfInBounds j true) := by
  intro a oa hoa hl e he hb
  obtain ⟨_, oj, hoj, hall⟩ := mem_ready.1 hj
  refine getD_set_true ?_
  by_cases haj : j = a
  · subst haj
    rw [hoj] at hoa; cases hoa
    exact hall e he hb
  · rw [getD_set_ne false haj] at hl
    exact h a oa hoa hl e he hb

/-- An operation that may come up now may be taken first. -/
theorem wpAnyA_first {outs : List Out} (hok : ∀ (i : Nat) (o : Out), outs[i]? = some o → o.ok) {K : Fr → Mem → Prop} (hK : ∀ t m t' m', Alk t m t' m' → K t m → K t' m') {i : Nat} {oi : Oper} {x : Out}
    (hi : ops[i]? = some oi) (hx : outs[i]? = some x) :
    ∀ (fuel : Nat) (listed : Array Bool) (t : Fr) (m : Mem),
      (∀ (j : Nat) (oj : Oper) (y : Out), ops[j]? = some oj → outs[j]? = some y → j ≠ i → listed.getD j true = false → ¬ Anc ops i j → oi.apart ops oj = true ∧ indep x y) →
      Down ops listed → i ∈ Region.ready .any ops listed → WantOK P k ops oi t m x →
      wpAnyA P k ops outs K fuel (listed.setIfInBounds i true) (putF t oi.dst x.v) (x.act m) → wpAnyA P k ops outs K (fuel + 1) listed t m := by
  intro fuel
  induction fuel with
  | zero =>
    intro listed t m _ _ hr hy H
    refine ⟨fun h => (by rw [h] at hr; cases hr), fun j hj => ?_⟩
    by_cases hji : j = i
    · subst hji; exact ⟨oi, x, hi, hx, hy, H⟩
    · have := ready_mono hj hji
      rw [H.1] at this
      cases this
  | succ fuel ih =>
    intro listed t m hfree hdn hr hy H
    refine ⟨fun h => (by rw [h] at hr; cases hr), fun j hj => ?_⟩
    by_cases hji : j = i
    · subst hji; exact ⟨oi, x, hi, hx, hy, H⟩
    · obtain ⟨oj, y, hoj, hyj, hwant, hrest⟩ := H.2 j (ready_mono hj hji)
      have hjun := (mem_ready.1 hj).1
      have hnot := hdn.not_anc hr hj
      obtain ⟨hap, hind1, hind2, hind3⟩ := hfree j oj y hoj hyj hji hjun hnot
      obtain ⟨a1, a2, a3⟩ := Oper.apart_spec hap
      have hxok := hok i x hx
      have hyok := hok j y hyj
      have hwj : WantOK P k ops oj t m y := hwant.same (fun s hs => (looks_put a1 t x.v s hs).symm) (fun id hid => (act_same hxok (fun h => hind1 id h hid)).symm)
      refine ⟨oj, y, hoj, hyj, hwj, ?_⟩
      have hfree' : ∀ (l : Nat) (ol : Oper) (z : Out), ops[l]? = some ol → outs[l]? = some z → l ≠ i → (listed.setIfInBounds j true).getD l true = false →
          ¬ Anc ops i l → oi.apart ops ol = true ∧ indep x z := fun l ol z hl hz hli hun hno => by
        refine hfree l ol z hl hz hli ?_ hno
        by_cases hjl : j = l
        · subst hjl; exact hjun
        · rw [getD_set_ne true hjl] at hun; exact hun
      have hwi : WantOK P k ops oi (putF t oj.dst y.v) (y.act m) x := hy.same (looks_put a3 t y.v) (fun id hid => act_same hyok (fun h => hind2 id h hid))
      refine ih (listed.setIfInBounds j true) _ _ hfree' (hdn.next hj) (ready_mono hr (Ne.symm hji)) hwi ?_
      rw [Array.setIfInBounds_comm _ _ hji]
      exact wpAnyA_alk hok hK _ _ _ _ _ _ (swap_alk hxok hyok a2 hind3 t m) hrest

/-- The text's order. -/
def RunOuts (P : Program) (k : Nat) (ops : Array Oper) (K : Fr → Mem → Prop) : List Oper → List Out → Fr → Mem → Prop
  | [], [], t, m => K t m
  | o :: r, x :: xs, t, m => WantOK P k ops o t m x ∧ RunOuts P k ops K r xs (putF t o.dst x.v) (x.act m)
  | _, _, _, _ => False

theorem wpAnyA_lex {outs : List Out} (hok : ∀ (i : Nat) (o : Out), outs[i]? = some o → o.ok) {K : Fr → Mem → Prop} (hK : ∀ t m t' m', Alk t m t' m' → K t m → K t' m')
    (hind : ∀ (i j : Nat) (oj : Oper) (x y : Out), i < j → ops[j]? = some oj → outs[i]? = some x → outs[j]? = some y → ¬ Anc ops i j → indep x y) :
    ∀ (l : List Oper) (xs : List Out) (i : Nat) (listed : Array Bool) (t : Fr) (m : Mem), (∀ j, l[j]? = ops[i + j]?) → (∀ j, xs[j]? = outs[i + j]?) → (∀ j, j < i → listed.getD j true = true) → Down ops listed →
      Region.lexFrom .any ops l.length i listed = true → RunOuts P k ops K l xs t m → wpAnyA P k ops outs K l.length listed t m
  | [], [], _, _, _, _, _, _, _, _, hB, h => ⟨by simpa [Region.lexFrom] using hB, h⟩
  | [], _ :: _, _, _, _, _, _, _, _, _, _, h => h.elim
  | _ :: _, [], _, _, _, _, _, _, _, _, _, h => h.elim
  | o :: l, x :: xs, i, listed, t, m, hl, hxs, hpre, hdn, hB, h => by
    have h0 : ops[i]? = some o := by simpa using (hl 0).symm
    have hx0 : outs[i]? = some x := by simpa using (hxs 0).symm
    simp only [List.length_cons, Region.lexFrom, Bool.and_eq_true] at hB
    obtain ⟨⟨hr, hf⟩, hB'⟩ := hB
    obtain ⟨hw, hrest⟩ := h
    refine wpAnyA_first hok hK h0 hx0 l.length listed t m (fun j oj y hoj hyj hji hun hno => ?_) hdn (by simpa using hr) hw
      (wpAnyA_lex hok hK hind l xs (i + 1) _ _ _ (fun j => by have := hl (j + 1); simpa [Nat.add_assoc, Nat.add_comm 1 j] using this) (fun j => by have := hxs (j + 1); simpa [Nat.add_assoc, Nat.add_comm 1 j] using this)
        (fun j hj => ?_) (hdn.next (by simpa using hr)) hB' hrest)
    · have hlt : i < j := by
        rcases Nat.lt_or_ge i j with h1 | h1
        · exact h1
        · have : j < i := by omega
          rw [hpre j this] at hun
          cases hun
      exact ⟨Region.free_spec h0 hf j oj hoj hji hun (fun e he hb heq => hno (.one hoj he hb heq)), hind i j oj x y hlt hoj hx0 hyj hno⟩
    · by_cases hji : j = i
      · subst hji
        rcases Nat.lt_or_ge j listed.size with h1 | h1
        · simp [h1]
        · simp [Nat.not_lt.2 (by simpa using h1 : listed.size ≤ j)]
      · rw [getD_set_ne true (Ne.symm hji)]
        exact hpre j (by omega)

end
end Go.Jq

/-! The abstract layer, part 19: regions that draw their order, gone through in the text's order, with a check that what is not ordered does not meddle. -/
namespace Go.Jq
open Go

structure Foot where
  keys : List Nat
  F : List Nat

def indep2 (x y : Foot) : Bool := x.keys.all (fun i => !y.F.contains i && !y.keys.contains i) && y.keys.all (fun i => !x.F.contains i)

def chkF (f : Foot) (m : Nat) : Nat → List Foot → Bool
  | _, [] => true
  | i, g :: r => (m.testBit i || indep2 g f) && chkF f m (i + 1) r

def indepFrom (early : List Foot) : List Foot → List Nat → Bool
  | [], _ => true
  | f :: r, m :: ms => chkF f m 0 early && indepFrom (early ++ [f]) r ms
  | _ :: _, [] => false

theorem chkF_spec {f : Foot} {m : Nat} : ∀ {l : List Foot} {k : Nat}, chkF f m k l = true → ∀ i g, l[i]? = some g → m.testBit (k + i) = false → indep2 g f = true
  | [], _, _, i, g, hi, _ => by simp at hi
  | x :: l, k, h, i, g, hi, hb => by
    simp only [chkF, Bool.and_eq_true, Bool.or_eq_true] at h
    cases i with
    | zero => simp at hi; subst hi; rw [Nat.add_zero] at hb; rcases h.1 with h1 | h1
              · rw [hb] at h1; cases h1
              · exact h1
    | succ i => exact chkF_spec h.2 i g (by simpa using hi) (by rw [← hb]; congr 1; omega)

theorem indepFrom_spec : ∀ {l early : List Foot} {ms : List Nat}, indepFrom early l ms = true → ∀ i j fi fj, i < early.length + j → (early ++ l)[i]? = some fi → l[j]? = some fj →
    ∃ m, ms[j]? = some m ∧ (m.testBit i = false → indep2 fi fj = true)
  | [], _, _, _, i, j, fi, fj, _, _, hj => by simp at hj
  | f :: l, early, [], h, i, j, fi, fj, _, _, _ => by simp [indepFrom] at h
  | f :: l, early, m :: ms, h, i, j, fi, fj, hlt, hi, hj => by
    simp only [indepFrom, Bool.and_eq_true] at h
    cases j with
    | zero =>
      simp at hj
      subst hj
      refine ⟨m, rfl, fun hb => chkF_spec h.1 i fi ?_ (by simpa using hb)⟩
      rw [List.getElem?_append_left (by simpa using hlt)] at hi
      exact hi
    | succ j =>
      obtain ⟨m', h1, h2⟩ := indepFrom_spec h.2 i j fi fj (by simp; omega) (by simpa using hi) (by simpa using hj)
      exact ⟨m', by simpa using h1, h2⟩

/-- Masks closed: what is ahead of an operation through others. -/
def orM (m : Nat) : Nat → List Nat → Nat
  | _, [] => 0
  | i, c :: r => (if m.testBit i then c else 0) ||| orM m (i + 1) r
def closeM (done : List Nat) : List Nat → List Nat
  | [] => []
  | m :: ms => (m ||| orM m 0 done) :: closeM (done ++ [m ||| orM m 0 done]) ms

theorem orM_spec {m b : Nat} : ∀ {l : List Nat} {i : Nat}, (orM m i l).testBit b = true → ∃ k c, l[k]? = some c ∧ m.testBit (i + k) = true ∧ c.testBit b = true
  | [], _, h => by simp [orM] at h
  | c :: r, i, h => by
    rw [orM, Nat.testBit_or, Bool.or_eq_true] at h
    rcases h with h | h
    · split at h
      · rename_i hm; exact ⟨0, c, rfl, hm, h⟩
      · simp at h
    · obtain ⟨k, c', h1, h2, h3⟩ := orM_spec h
      exact ⟨k + 1, c', by simpa using h1, by rw [← h2]; congr 1; omega, h3⟩

theorem closeM_spec {R : Nat → Nat → Prop} (hR : ∀ {i k j}, R i k → R k j → R i j) : ∀ {ms done : List Nat}, (∀ k c b, done[k]? = some c → c.testBit b = true → R b k) → (∀ j m b, ms[j]? = some m → m.testBit b = true → R b (done.length + j)) →
    ∀ j c b, (closeM done ms)[j]? = some c → c.testBit b = true → R b (done.length + j)
  | [], _, _, _, j, c, b, h, _ => by simp [closeM] at h
  | m :: ms, done, hd, hm, j, c, b, h, hb => by
    have hm0 : ∀ b, (m ||| orM m 0 done).testBit b = true → R b done.length := by
      intro b hb
      rw [Nat.testBit_or, Bool.or_eq_true] at hb
      rcases hb with hb | hb
      · simpa using hm 0 m b rfl hb
      · obtain ⟨k, c', h1, h2, h3⟩ := orM_spec hb
        exact hR (hd k c' b h1 h3) (by simpa using hm 0 m k rfl (by simpa using h2))
    cases j with
    | zero =>
      simp only [closeM, List.getElem?_cons_zero, Option.some.injEq] at h
      subst h
      exact hm0 b hb
    | succ j =>
      simp only [closeM, List.getElem?_cons_succ] at h
      have := closeM_spec (R := R) hR (ms := ms) (done := done ++ [m ||| orM m 0 done]) (fun k c' b' h1 h2 => by
        rcases Nat.lt_or_ge k done.length with hk | hk
        · rw [List.getElem?_append_left hk] at h1
          exact hd k c' b' h1 h2
        · rw [List.getElem?_append_right hk] at h1
          have hk0 : k - done.length = 0 := by
            rcases Nat.eq_zero_or_pos (k - done.length) with h0 | h0
            · exact h0
            · rw [List.getElem?_eq_none (by simp; omega)] at h1; cases h1
          rw [hk0] at h1
          simp only [List.getElem?_cons_zero, Option.some.injEq] at h1
          subst h1
          have : k = done.length := by omega
          rw [this]
          exact hm0 b' h2) (fun j' m' b' h1 h2 => by
            have := hm (j' + 1) m' b' (by simpa using h1) h2
            rw [List.length_append, List.length_cons, List.length_nil]
            rw [show done.length + (0 + 1) + j' = done.length + (j' + 1) by omega]
            exact this) j c b h hb
      rw [List.length_append, List.length_cons, List.length_nil] at this
      rw [show done.length + (j + 1) = done.length + (0 + 1) + j by omega]
      exact this

/-! ### Where an operation looks -/

def idOf : AV → List Nat
  | .ptr id _ => [id]
  | .sl id _ _ _ => [id]
  | .slT id _ _ => [id]
  | _ => []

def footF (t : Fr) : AOp → List Nat
  | .load _ x => idOf (ev t x)
  | .store _ a _ => idOf (ev t a)
  | .cvbs x => idOf (ev t x)
  | .cvll x => idOf (ev t x)
  | .app _ _ _ x y => idOf (ev t x) ++ idOf (ev t y)
  | _ => []

def keysOf (n : Nat) : Eff → List Nat
  | .nil => []
  | .new _ => [n]
  | .put id _ => [id]
  | .mov id _ => [id, n]

theorem ev_same {t t' : Fr} {x : Opd} (h : ∀ s ∈ x.slots, fget t' s = fget t s) : ev t' x = ev t x := by
  cases x with
  | t i => exact h i (by simp [Opd.slots])
  | c x => rfl

theorem evs_same {t t' : Fr} : ∀ {xs : List Opd}, (∀ s ∈ xs.flatMap Opd.slots, fget t' s = fget t s) → xs.map (ev t') = xs.map (ev t)
  | [], _ => rfl
  | x :: xs, h => by
    simp only [List.map_cons]
    rw [ev_same fun s hs => h s (by simp [List.flatMap_cons, hs]), evs_same fun s hs => h s (by rw [List.flatMap_cons]; exact List.mem_append_right _ hs)]

theorem evParts_same {t t' : Fr} : ∀ {ps : List (Nat × Nat × Opd)}, (∀ s ∈ ps.flatMap (fun p => p.2.2.slots), fget t' s = fget t s) → evParts t' ps = evParts t ps
  | [], _ => rfl
  | p :: ps, h => by
    have ih := evParts_same (t := t) (t' := t') (ps := ps) fun s hs => h s (by rw [List.flatMap_cons]; exact List.mem_append_right _ hs)
    simp only [evParts] at ih ⊢
    simp only [List.map_cons]
    rw [ev_same fun s hs => h s (by rw [List.flatMap_cons]; exact List.mem_append_left _ hs), ih]

theorem opt_same {t t' : Fr} {x : Option Opd} (h : ∀ s ∈ optSlots x, fget t' s = fget t s) : x.map (ev t') = x.map (ev t) := by
  cases x with
  | none => rfl
  | some x => simp only [Option.map_some]; rw [ev_same h]

theorem elemsOf_same {m m' : Mem} {esz : Nat} {y : AV} (h : ∀ id ∈ idOf y, mget m' id = mget m id) : elemsOf m' esz y = elemsOf m esz y := by
  cases y with
  | sl id e off len => simp only [elemsOf, h id (by simp [idOf])]
  | d x => cases x <;> rfl
  | _ => rfl

theorem aevN_local {o : AOp} {t t' : Fr} {m m' : Mem} {n : Nat} (ht : ∀ s ∈ o.slots, fget t' s = fget t s) (hm : ∀ id ∈ footF t o, mget m' id = mget m id) : aevN o t' m' n = aevN o t m n := by
  have one : ∀ {x : Opd}, (∀ s ∈ x.slots, s ∈ o.slots) → ev t' x = ev t x := fun h => ev_same fun s hs => ht s (h s hs)
  cases o with
  | alloc z => rfl
  | callf f as => rfl
  | callv x as => rfl
  | build z ps => simp only [aevN, evParts_same ht]
  | bslice a b z ps => simp only [aevN, evParts_same ht]
  | mkfn f cs => simp only [aevN, evs_same ht]
  | pick c a b => simp only [aevN]; rw [one (x := c) (by simp +contextual [AOp.slots]), one (x := a) (by simp +contextual [AOp.slots]), one (x := b) (by simp +contextual [AOp.slots])]
  | slcs x l h => simp only [aevN]; rw [one (x := x) (by simp +contextual [AOp.slots]), opt_same (x := l) fun s hs => ht s (by simp [AOp.slots, hs]), opt_same (x := h) fun s hs => ht s (by simp [AOp.slots, hs])]
  | slcl a x l h => simp only [aevN]; rw [one (x := x) (by simp +contextual [AOp.slots]), opt_same (x := l) fun s hs => ht s (by simp [AOp.slots, hs]), opt_same (x := h) fun s hs => ht s (by simp [AOp.slots, hs])]
  | load k x =>
    simp only [aevN]
    rw [one (x := x) (by simp [AOp.slots])]
    simp only [footF] at hm
    split
    · rename_i id off he
      rw [hm id (by rw [he]; simp [idOf])]
    all_goals rfl
  | store k a v =>
    simp only [aevN]
    rw [one (x := a) (by simp +contextual [AOp.slots]), one (x := v) (by simp +contextual [AOp.slots])]
    simp only [footF] at hm
    split
    · rename_i id off vs he hv
      rw [hm id (by rw [he]; simp [idOf])]
    · rfl
  | cvbs x =>
    simp only [aevN]
    rw [one (x := x) (by simp [AOp.slots])]
    simp only [footF] at hm
    generalize ev t x = y at hm ⊢
    split
    · rfl
    · rw [elemsOf_same hm]
  | cvll x =>
    simp only [aevN]
    rw [one (x := x) (by simp [AOp.slots])]
    simp only [footF] at hm
    split
    · rename_i id e off len he
      rw [hm id (by rw [he]; simp [idOf])]
    · rfl
  | app a b el x y =>
    simp only [aevN]
    rw [one (x := x) (by simp +contextual [AOp.slots]), one (x := y) (by simp +contextual [AOp.slots])]
    simp only [footF] at hm
    rw [elemsOf_same fun id hid => hm id (List.mem_append_right _ hid)]
    split
    · split
      · rfl
      · rename_i id e off len he
        rw [hm id (by rw [he]; simp [idOf])]
      · rename_i id T len he
        rw [hm id (by rw [he]; simp [idOf])]
      · rfl
    · rfl
  | _ =>
    simp only [aevN]
    first
      | rw [ev_same ht]
      | (rename_i x y; rw [one (x := x) (by simp +contextual [AOp.slots]), one (x := y) (by simp +contextual [AOp.slots])])

/-! ### What a plain operation comes to -/

def effU (n : Nat) : Eff → Nat → Option (Option (List AV))
  | .nil => fun _ => none
  | .new cs => fun j => if n = j then some (some cs) else none
  | .put id cs => fun j => if id = j then some (some cs) else none
  | .mov id cs => fun j => if n = j then some (some cs) else if id = j then some none else none

def plainOut (v : AV) (e : Eff) (n : Nat) (F : List Nat) : Out := ⟨v, fun m => e.mem m n, effU n e, keysOf n e, F, n, n + 1⟩

theorem plainOut_ok (v : AV) (e : Eff) (n : Nat) (F : List Nat) : (plainOut v e n F).ok := by
  refine ⟨fun m id => ?_, fun id h => ?_⟩
  · cases e with
    | nil => rfl
    | new cs => simp only [plainOut, Eff.mem, effU, mget_mset]; split <;> rfl
    | put i cs => simp only [plainOut, Eff.mem, effU, mget_mset]; split <;> rfl
    | mov i cs =>
      simp only [plainOut, Eff.mem, effU, mget_mset, mget_mdel]
      split
      · rfl
      · split <;> rfl
  · cases e with
    | nil => simp [plainOut, effU] at h
    | new cs => simp only [plainOut, effU] at h; split at h
                · simp [plainOut, keysOf, *]
                · cases h rfl
    | put i cs => simp only [plainOut, effU] at h; split at h
                  · simp [plainOut, keysOf, *]
                  · cases h rfl
    | mov i cs =>
      simp only [plainOut, effU] at h
      split at h
      · simp [plainOut, keysOf, *]
      · split at h
        · simp [plainOut, keysOf, *]
        · cases h rfl

def skipOut (n : Nat) : Out := ⟨.tup [], fun m => m, fun _ => none, [], [], n, n + 1⟩

theorem skipOut_ok (n : Nat) : (skipOut n).ok := ⟨fun _ _ => rfl, fun _ h => (h rfl).elim⟩

def callU (ρ : Ren) (m0 m1 : Mem) (n : Nat) (id : Nat) : Option (Option (List AV)) :=
  if n ≤ id ∧ (mget m0 (id - n)) = none ∧ (mget m1 (id - n)).isSome then some ((mget m1 (id - n)).map (renL (renOf ρ m0 m1 n))) else
    match pinv ρ id with
    | some j => some ((mget m1 j).map (renL (renOf ρ m0 m1 n)))
    | none => none

def callMem (ρ : Ren) (m0 m1 : Mem) (n : Nat) (m : Mem) : Mem := updNew m0 n (renOf ρ m0 m1 n) m1 (updOld m1 (renOf ρ m0 m1 n) ρ m)

def callKeys (ρ : Ren) (m1 : Mem) (n : Nat) : List Nat := ρ.map (·.2) ++ m1.map fun p => n + p.1

def callOut (ρ : Ren) (m0 m1 : Mem) (r0 : AV) (n : Nat) : Out :=
  ⟨r0.ren (renOf ρ m0 m1 n), callMem ρ m0 m1 n, callU ρ m0 m1 n, callKeys ρ m1 n, ρ.map (·.2), n, n + Nat.max (mbound m0) (mbound m1)⟩

theorem mget_mem : ∀ {m : Mem} {i : Nat}, (mget m i).isSome → ∃ p ∈ m, p.1 = i
  | [], i, h => by simp [mget] at h
  | (k, x) :: r, i, h => by
    simp only [mget] at h
    split at h
    · rename_i e; exact ⟨_, List.mem_cons_self, e⟩
    · obtain ⟨p, h1, h2⟩ := mget_mem h
      exact ⟨p, List.mem_cons_of_mem _ h1, h2⟩

theorem callOut_ok {ρ : Ren} {nb : Nat} (hok : okRen nb ρ = true) (m0 m1 : Mem) (r0 : AV) (n : Nat) : (callOut ρ m0 m1 r0 n).ok := by
  refine ⟨fun m id => ?_, fun id h => ?_⟩
  · simp only [callOut, callMem, callU]
    rw [mget_updNew, mget_updOld hok]
    split
    · rfl
    · split
      · rename_i j hj; simp only [hj]
      · rename_i hj; simp only [hj]
  · simp only [callOut, callU] at h
    simp only [callOut, callKeys]
    split at h
    · rename_i hc
      obtain ⟨p, h1, h2⟩ := mget_mem hc.2.2
      exact List.mem_append_right _ (List.mem_map.2 ⟨p, h1, by omega⟩)
    · split at h
      · rename_i j hj
        exact List.mem_append_left _ (List.mem_map.2 ⟨_, pinv_mem hj, rfl⟩)
      · exact (h rfl).elim

/-! ### Through the region -/

/-- A call in a region that draws its order: what it comes to is one value, one memory. -/
def CallD (P : Program) (f : Nat) (args : List AV) (m : Mem) (n : Nat) (K : AV → Mem → Nat → Foot → Prop) : Prop :=
  ∃ ρ m0 args0 r0 m1 nb, okRen nb ρ = true ∧ args = renL (pget ρ) args0 ∧ inL (pget ρ) args0 = true ∧ handed ρ m m0 ∧ (∀ j id, pget ρ j = some id → (mget m0 j).isSome) ∧
    ACalls P f args0 m0 (fun r m' => r = r0 ∧ m' = m1) ∧
    K (r0.ren (renOf ρ m0 m1 n)) (callMem ρ m0 m1 n m) (n + Nat.max (mbound m0) (mbound m1)) ⟨callKeys ρ m1 n, ρ.map (·.2)⟩

def dStep (P : Program) (dst : Option Nat) (op : AOp) (S : St) (K : St → Foot → Prop) : Prop :=
  match op with
  | .callf f args => CallD P f (args.map (ev S.t)) S.m S.n fun v m n F => K ⟨putF S.t dst v, m, n⟩ F
  | .callv x args => match ev S.t x with
    | .fn f caps => goesB P f = true ∧ CallD P f (args.map (ev S.t) ++ caps) S.m S.n fun v m n F => K ⟨putF S.t dst v, m, n⟩ F
    | _ => False
  | op => match aevN op S.t S.m S.n with
    | some (v, e) => K ⟨putF S.t dst v, e.mem S.m S.n, S.n + 1⟩ ⟨keysOf S.n e, footF S.t op⟩
    | none => False

def runDA (P : Program) : List AOper → List Foot → List Nat → St → (St → Prop) → Prop
  | [], acc, ms, S, K => indepFrom [] acc.reverse (closeM [] ms) = true ∧ K S
  | o :: r, acc, ms, S, K => match o.guard with
    | none => dStep P o.dst o.op S fun S' f => runDA P r (f :: acc) ms S' K
    | some (g, want) => match fget S.t g with
      | .d (.bool b) => if b = want then dStep P o.dst o.op S (fun S' f => runDA P r (f :: acc) ms S' K) else runDA P r (⟨[], []⟩ :: acc) ms ⟨putF S.t o.dst (.tup []), S.m, S.n + 1⟩ K
      | .tup _ => runDA P r (⟨[], []⟩ :: acc) ms ⟨putF S.t o.dst (.tup []), S.m, S.n + 1⟩ K
      | _ => False

end Go.Jq

/-! The abstract layer, part 20: regions that draw their order: soundness. -/
namespace Go.Jq
open Go

section
variable {P : Program} {k : Nat} {ops : Array Oper}

theorem Later.of_heap {c : Ctx} {w w' : World} (h : w'.heap = w.heap) : Later c c w w' :=
  ⟨fun _ h => h, fun b _ => by rw [h], fun _ _ => rfl, fun b n hn => by rw [← hn]; exact rowSize_eq (by rw [h])⟩

theorem MR.of_heap {c : Ctx} {m : Mem} {w w' : World} (hM : MR c m w) (h : w'.heap = w.heap) : MR c m w' where
  own := fun id cells hid => (hM.own id cells hid).later (Later.of_heap h) fun b hb => ⟨by rw [h], fun hi => hM.sep hi ⟨id, by rw [hid]; rfl, hb⟩⟩
  inj := hM.inj
  imm := fun b hb => by rw [h]; exact hM.imm b hb
  tab := hM.tabTo (fun _ h => h) fun b _ => by rw [h]

theorem MR.of_mget {c : Ctx} {m m' : Mem} {w : World} (hM : MR c m w) (h : ∀ id, mget m' id = mget m id) : MR c m' w where
  own := fun id cells hid => hM.own id cells (by rw [← h]; exact hid)
  inj := fun id id' b h1 h2 => hM.inj id id' b (by rw [← h]; exact h1) (by rw [← h]; exact h2)
  imm := hM.imm
  tab := hM.tab

theorem Prov.of_mget {E : Env} {c : Ctx} {m m' : Mem} {w : World} (hp : Prov E c m w) (h : ∀ id, mget m' id = mget m id) : Prov E c m' w where
  step := hp.step
  own := fun b ⟨id, h1, h2⟩ => hp.own b ⟨id, by rw [← h]; exact h1, h2⟩
  keep := fun id hid hm => hp.keep id hid (by rw [← h]; exact hm)

theorem conc_drew {E : Env} {S : St} {a : Act} {w w' : World} (h : Conc E k S a w) (hh : w'.heap = w.heap) (ho : w'.os = w.os) (ht : w'.tape = w.tape) (hu : w'.output = w.output) : Conc E k S a w' := by
  obtain ⟨c, hc, hp⟩ := h
  refine ⟨c, ⟨hc.defers, hc.size, fun i => rel_mono (Later.of_heap hh) _ _ (hc.fr i), hc.mr.of_heap hh, hc.free⟩, ⟨?_, fun b hb => hp.own b hb, hp.keep⟩⟩
  have := hp.step
  exact ⟨ho.trans this.os, ht.trans this.tape, hu.trans this.output, by rw [hh]; exact this.size, fun b hb hn => by rw [hh]; exact this.keep b hb hn,
    fun b n hn => by rw [rowSize_eq (by rw [hh] : w'.heap[b]? = w.heap[b]?)]; exact this.rows b n hn, this.imm, this.imm'⟩

theorem wantA_wanted {o : Oper} {t : Fr} {c : Ctx} {a : Act} {w : World} {b : Bool} (h : wantA ops o t = some b) (hF : FR c w t a.tmps) : Region.wanted o (yielded ops a.tmps) = b := by
  unfold wantA at h
  unfold Region.wanted
  cases ho : o.guard with
  | none => rw [ho] at h; cases h; rfl
  | some jw =>
    obtain ⟨j, wt⟩ := jw
    rw [ho] at h
    simp only at h
    split at h
    · rename_i d hd
      split at h
      · rename_i b' hb
        cases h
        have hx := hF d
        rw [hb] at hx
        have hv := rel_d_bool hx
        have hy : yielded ops a.tmps j = some b' := by
          unfold yielded
          cases hj : ops[j]? with
          | none => rw [hj] at hd; cases hd
          | some o' =>
            rw [hj] at hd
            simp only [Option.bind_some] at hd
            simp only [Option.bind_some, hd]
            rw [Array.getD_eq_getD_getElem?] at hv
            cases hq : a.tmps[d]? with
            | none => rw [hq] at hv; cases hv
            | some u => rw [hq] at hv; simp only [Option.getD_some] at hv; subst hv; rfl
        simp only [hy]
        cases b' <;> cases wt <;> rfl
      · rename_i cs hb
        cases h
        have hx := hF d
        rw [hb] at hx
        simp only [Rel] at hx
        obtain ⟨vs, hv, _⟩ := hx
        have hy : yielded ops a.tmps j = none := by
          unfold yielded
          cases hj : ops[j]? with
          | none => rfl
          | some o' =>
            rw [hj] at hd
            simp only [Option.bind_some] at hd
            simp only [Option.bind_some, hd]
            rw [Array.getD_eq_getD_getElem?] at hv
            cases hq : a.tmps[d]? with
            | none => rfl
            | some u => rw [hq] at hv; simp only [Option.getD_some] at hv; subst hv; rfl
        simp only [hy]
        cases wt <;> rfl
      · cases h
    · cases h

/-- How the frame and the world stand, in the middle of the region. -/
def Inv (E : Env) (k : Nat) (outs : List Out) (N : Nat) (listed : Array Bool) (t : Fr) (m : Mem) (a : Act) (w : World) : Prop :=
  ∃ c, a.defers = [] ∧ a.tmps.size = k ∧ FR c w t a.tmps ∧ MR c m w ∧ Prov E c m w ∧ (∀ id, N ≤ id → c.φ id = .free) ∧
    ∀ (j : Nat) (x : Out), outs[j]? = some x → listed.getD j true = false → ∀ id, x.lo ≤ id → id < x.hi → c.φ id = .free

def Ranges : Nat → List Out → Nat → Prop
  | n, [], N => n = N
  | n, x :: xs, N => x.lo = n ∧ n ≤ x.hi ∧ Ranges x.hi xs N

theorem Ranges.spec : ∀ {l : List Out} {n N : Nat}, Ranges n l N → n ≤ N ∧ ∀ (j : Nat) (x : Out), l[j]? = some x → n ≤ x.lo ∧ x.lo ≤ x.hi ∧ x.hi ≤ N
  | [], n, N, h => ⟨by simp only [Ranges] at h; omega, fun j x hj => by simp at hj⟩
  | y :: l, n, N, h => by
    simp only [Ranges] at h
    obtain ⟨h1, h2, h3⟩ := h
    obtain ⟨h4, h5⟩ := Ranges.spec h3
    refine ⟨by omega, fun j x hj => ?_⟩
    cases j with
    | zero => simp at hj; subst hj; omega
    | succ j => have := h5 j x (by simpa using hj); omega

theorem Ranges.apart : ∀ {l : List Out} {n N : Nat}, Ranges n l N → ∀ (i j : Nat) (x y : Out), i < j → l[i]? = some x → l[j]? = some y → x.hi ≤ y.lo
  | [], n, N, h, i, j, x, y, _, hi, _ => by simp at hi
  | z :: l, n, N, h, i, j, x, y, hlt, hi, hj => by
    simp only [Ranges] at h
    cases j with
    | zero => omega
    | succ j =>
      cases i with
      | zero => simp at hi; subst hi; exact (h.2.2.spec.2 j y (by simpa using hj)).1
      | succ i => exact Ranges.apart h.2.2 i j x y (by omega) (by simpa using hi) (by simpa using hj)

theorem wpAny_of_A {E : Env} {outs : List Out} {n N : Nat} (hrg : Ranges n outs N) (hEn : E.n ≤ n) (hok : ∀ (i : Nat) (o : Out), outs[i]? = some o → o.ok) (hdk : ∀ (i : Nat) (o : Oper), ops[i]? = some o → ∀ d, o.dst = some d → d < k)
    {K : Fr → Mem → Prop} {Q : Exit → Act → World → Prop} (hK : ∀ t m a w, K t m → Conc E k ⟨t, m, N⟩ a w → Q .normal a w) :
    ∀ (fuel : Nat) (listed : Array Bool) (t : Fr) (m : Mem) (a : Act) (w : World), Inv E k outs N listed t m a w → wpAnyA P k ops outs K fuel listed t m → wpAny P .any ops Q fuel listed a w
  | 0, listed, t, m, a, w, ⟨c, h1, h2, h3, h4, h5, h6, _⟩, h => ⟨h.1, hK t m a w h.2 ⟨c, ⟨h1, h2, h3, h4, h6⟩, h5⟩⟩
  | fuel + 1, listed, t, m, a, w, ⟨c, h1, h2, h3, h4, h5, h6, h7⟩, h => by
    refine ⟨fun h0 => hK t m a w (h.1 h0) ⟨c, ⟨h1, h2, h3, h4, h6⟩, h5⟩, fun i hi => ?_⟩
    obtain ⟨o, out, ho, hout, hw, hrest⟩ := h.2 i hi
    have hun := (mem_ready.1 hi).1
    have hx := hrg.spec.2 i out hout
    have hxok := hok i out hout
    unfold wpOp
    simp only [ho]
    have put : ∀ (c' : Ctx) (w' : World) (u : Value), (Rel c' w' out.v u ∨ out.v = .any) → MR c' (out.act m) w' → Step (Own c m) c c' w w' → (∀ b, Own c' (out.act m) b → Own c m b ∨ w.heap.size ≤ b) →
        (∀ id, ¬ (out.lo ≤ id ∧ id < out.hi) → c'.φ id = c.φ id) → (∀ id, ¬ (out.lo ≤ id ∧ id < out.hi) → (mget (out.act m) id).isSome → (mget m id).isSome) →
        Inv E k outs N (listed.setIfInBounds i true) (putF t o.dst out.v) (out.act m) (a.put o.dst u) w' := by
      intro c' w' u hr hM' hs hown hφ hmk
      have hext : ∀ id, c.φ id ≠ .free → c'.φ id = c.φ id := fun id hid => hφ id fun hr => hid (h7 i out hout hun id hr.1 hr.2)
      have hl := hs.later h4 hext
      have hF' : FR c' w' t a.tmps := fun i => rel_mono hl _ _ (h3 i)
      refine ⟨c', ?_, ?_, ?_, hM', h5.next hs hown fun id hid hm => ?_, fun id hid => ?_, fun j y hy hl' id hid1 hid2 => ?_⟩
      · cases o.dst <;> exact h1
      · cases o.dst with
        | none => exact h2
        | some d => simp only [Act.put, Array.size_setIfInBounds]; exact h2
      · cases hd : o.dst with
        | none => exact hF'
        | some d =>
          simp only [putF, Act.put]
          refine fr_put hF' (by rw [h2]; exact hdk i o ho d hd) ?_
          rcases hr with h | h
          · exact h
          · rw [h]; simp [Rel]
      · exact ⟨hmk id (by omega) hm, hφ id (by omega)⟩
      · rw [hφ id (by omega)]; exact h6 id hid
      · by_cases hji : j = i
        · subst hji
          exfalso
          rcases Nat.lt_or_ge j listed.size with h' | h'
          · simp [h'] at hl'
          · simp [Array.getElem?_eq_none h'] at hun
        · have hy' := hrg.spec.2 j y hy
          rw [getD_set_ne true (Ne.symm hji)] at hl'
          rw [hφ id ?_]
          · exact h7 j y hy hl' id hid1 hid2
          · rcases Nat.lt_or_gt_of_ne hji with h' | h'
            · have := hrg.apart j i y out h' hy hout; omega
            · have := hrg.apart i j out y h' hout hy; omega
    rcases hw with ⟨hw1, hw2⟩ | ⟨hw1, hw2, hw3⟩
    · rw [wantA_wanted hw1 h3, if_pos rfl]
      refine .inl (hw2 t m (fun _ _ => rfl) (fun _ _ => rfl) c a w h1 h2 h3 h4 (h7 i out hout hun) _ _ ?_)
      intro u w' c' hr hM' hs hown hφ hmk
      exact wpAny_of_A hrg hEn hok hdk hK fuel _ _ _ _ _ (put c' w' u hr hM' hs hown hφ hmk) hrest
    · rw [wantA_wanted hw1 h3]
      simp only [Bool.false_eq_true, if_false]
      have hm : ∀ id, mget (out.act m) id = mget m id := fun id => by rw [hxok.1, hw3 id]
      refine wpAny_of_A hrg hEn hok hdk hK fuel _ _ _ _ _ (put c w undef (.inl (by rw [hw2]; exact rel_undef _ _)) (h4.of_mget hm) (Step.refl _ _ _) (fun b ⟨id, h8, h9⟩ => .inl ⟨id, by rw [← hm]; exact h8, h9⟩) (fun _ _ => rfl) (fun id _ h => by rw [← hm]; exact h)) hrest

/-! ### The operations' outs -/

theorem local_plain {o : Oper} {ao : AOper} (hco : cOper P ops k o = some ao) (hsl : ao.op.slots.all (fun i => (o.looksAt ops).contains i) = true) {t : Fr} {m : Mem} {n : Nat} {v : AV} {e : Eff}
    (he : aevN ao.op t m n = some (v, e)) : LocalOut P k ops o t m (plainOut v e n (footF t ao.op)) := by
  intro t' m' ht hm c a w _ _ hF hM hfree Kw Q hKw
  have hcop : cOp P o.op = some ao.op := by
    unfold cOper at hco
    split at hco
    · rename_i h1 _
      split at hco
      · cases hco; exact h1
      · cases hco
    · cases hco
  have he' : aevN ao.op t' m' n = some (v, e) := by
    rw [aevN_local (fun s hs => ht s ?_) hm]
    · exact he
    · have := List.all_eq_true.1 hsl s hs
      simpa using this
  have hn : c.φ n = .free := hfree n (Nat.le_refl _) (Nat.lt_succ_self _)
  obtain ⟨r, w', c', hrun, hr, hM', hs, hφ, ho⟩ := aevN_sound (o := o) hcop hF hM hn he'
  have hmk : ∀ id, ¬ (n ≤ id ∧ id < n + 1) → (mget (e.mem m' n) id).isSome → (mget m' id).isSome := by
    intro id hid h
    have hne : n ≠ id := by omega
    cases e with
    | nil => exact h
    | new cs => simp only [Eff.mem, mget_mset] at h; rw [if_neg hne] at h; exact h
    | put i cs =>
      simp only [Eff.mem, mget_mset] at h
      split at h
      · rename_i e; subst e; exact aevN_put he'
      · exact h
    | mov i cs =>
      simp only [Eff.mem, mget_mset, mget_mdel] at h
      rw [if_neg hne] at h
      split at h
      · simp at h
      · exact h
  have hφ' : ∀ id, ¬ (n ≤ id ∧ id < n + 1) → c'.φ id = c.φ id := fun id hid => hφ id (.inl (by omega))
  unfold Oper.wp
  rw [hrun]
  rcases hr with ⟨u, rfl, hru⟩ | ⟨rfl, hv⟩
  · exact hKw u w' c' (.inl hru) hM' hs ho hφ' hmk
  · exact hKw undef w' c' (.inr hv) hM' hs ho hφ' hmk

theorem handed_same {ρ : Ren} {m m' : Mem} (h : ∀ id ∈ ρ.map (·.2), mget m' id = mget m id) : ∀ {m0 : Mem}, handed ρ m m0 → handed ρ m' m0
  | [], _ => trivial
  | (j, cs) :: r, hh => by
    simp only [handed] at hh ⊢
    refine ⟨?_, handed_same h hh.2⟩
    have h1 := hh.1
    split at h1
    · rename_i id hid
      rw [h id (List.mem_map.2 ⟨_, pget_mem hid, rfl⟩)]
      exact h1
    · exact h1.elim

theorem local_enter {o : Oper} {f : Nat} {args0 : List AV} {ρ : Ren} {m0 m1 : Mem} {r0 : AV} {nb n : Nat} {t : Fr} {m : Mem} (hok : okRen nb ρ = true) (hin : inL (pget ρ) args0 = true) (hh : handed ρ m m0)
    (hdom : ∀ j id, pget ρ j = some id → (mget m0 j).isSome) (hA : ACalls P f args0 m0 (fun r m' => r = r0 ∧ m' = m1))
    (hent : ∀ (t' : Fr), (∀ s ∈ o.looksAt ops, fget t' s = fget t s) → ∀ (c : Ctx) (a : Act) (w : World), FR c w t' a.tmps → ∃ vs, RelL c w (renL (pget ρ) args0) vs ∧ (execOp a.eval o).run P w = .ok (.enter f vs.toArray) w) :
    LocalOut P k ops o t m (callOut ρ m0 m1 r0 n) := by
  intro t' m' ht hm c a w _ _ hF hM hfree Kw Q hKw
  obtain ⟨vs, hrl, hrun⟩ := hent t' ht c a w hF
  have hR := callR_gen (n := n) hA ρ hok hin (handed_same hm hh) hdom (F := fun id => n ≤ id ∧ id < n + Nat.max (mbound m0) (mbound m1)) (fun r m2 hq id h1 h2 => by obtain ⟨rfl, rfl⟩ := hq; exact ⟨h1, h2⟩)
  unfold Oper.wp
  rw [hrun, Oper.upon_enter]
  refine (hR c w vs hrl hM (fun id hid => hfree id hid.1 hid.2)).mono ?_
  rintro e' w' ⟨v, r, m2, n', c', rfl, ⟨r1, m3, ⟨rfl, rfl⟩, rfl, rfl, rfl⟩, hru, hM', hs, ho, hφ, hmk, hnn⟩
  exact hKw v w' c' (.inl hru) hM' hs ho hφ hmk

theorem cOper_op {o : Oper} {ao : AOper} (hco : cOper P ops k o = some ao) : cOp P o.op = some ao.op := by
  unfold cOper at hco
  split at hco
  · rename_i h1 _
    split at hco
    · cases hco; exact h1
    · cases hco
  · cases hco

theorem dStep_out {o : Oper} {ao : AOper} (hco : cOper P ops k o = some ao) (hsl : ao.op.slots.all (fun i => (o.looksAt ops).contains i) = true) {S : St} {K : St → Foot → Prop} (h : dStep P ao.dst ao.op S K) :
    ∃ out : Out, out.ok ∧ out.lo = S.n ∧ S.n ≤ out.hi ∧ LocalOut P k ops o S.t S.m out ∧ K ⟨putF S.t o.dst out.v, out.act S.m, out.hi⟩ ⟨out.keys, out.F⟩ := by
  have hd : ao.dst = o.dst := (cOper_guard hco).2.1
  have hop := cOper_op hco
  have hsl' : ∀ {t' : Fr}, (∀ s ∈ o.looksAt ops, fget t' s = fget S.t s) → ∀ s ∈ ao.op.slots, fget t' s = fget S.t s := fun ht s hs => ht s (by simpa using List.all_eq_true.1 hsl s hs)
  rw [hd] at h
  unfold dStep at h
  split at h
  · rename_i f args hao
    obtain ⟨ρ, m0, args0, r0, m1, nb, hok, hargs, hin, hh, hdom, hA, hk⟩ := h
    rw [hao] at hop hsl'
    refine ⟨callOut ρ m0 m1 r0 S.n, callOut_ok hok _ _ _ _, rfl, Nat.le_add_right _ _, local_enter hok hin hh hdom hA fun t' ht c a w hF => ?_, hk⟩
    obtain ⟨callee, cargs, ts, hopc, hcl | hcl⟩ := cOp_call hop rfl
    · obtain ⟨f', rfl, hg', he⟩ := hcl
      cases he
      refine ⟨cargs.toList.map a.eval, ?_, ?_⟩
      · rw [← hargs, ← evs_same (t' := t') (hsl' ht)]
        exact relL_ev hF cargs.toList
      · obtain ⟨dst, op, ty, pos, after, guard⟩ := o
        simp only at hopc
        subst hopc
        have h1 : (execOp a.eval ⟨dst, .call ⟨.value (.func f), cargs, ts⟩, ty, pos, after, guard⟩).run P w = (callFunc f ((#[] ++ cargs.map a.eval) ++ #[])).run P w := rfl
        rw [h1, run_callFunc hg' w]
        congr 2
        apply Array.ext'
        simp
    · obtain ⟨y, _, he⟩ := hcl
      cases he
  · rename_i x args hao
    split at h
    · rename_i f caps hev
      obtain ⟨hg', ρ, m0, args0, r0, m1, nb, hok, hargs, hin, hh, hdom, hA, hk⟩ := h
      rw [hao] at hop hsl'
      refine ⟨callOut ρ m0 m1 r0 S.n, callOut_ok hok _ _ _ _, rfl, Nat.le_add_right _ _, local_enter hok hin hh hdom hA fun t' ht c a w hF => ?_, hk⟩
      obtain ⟨callee, cargs, ts, hopc, hcl | hcl⟩ := cOp_call hop rfl
      · obtain ⟨f', _, _, he⟩ := hcl
        cases he
      · obtain ⟨y, rfl, he⟩ := hcl
        cases he
        have hx := rel_ev (w := w) hF y
        rw [ev_same (t := S.t) (fun s hs => hsl' ht s (by simp only [AOp.slots]; exact List.mem_append_left _ hs)), hev] at hx
        obtain ⟨us, hu, hru⟩ := rel_fn hx
        refine ⟨cargs.toList.map a.eval ++ us, ?_, ?_⟩
        · rw [← hargs, ← evs_same (t' := t') (fun s hs => hsl' ht s (by simp only [AOp.slots]; exact List.mem_append_right _ hs))]
          exact (relL_ev hF cargs.toList).append hru
        · obtain ⟨dst, op, ty, pos, after, guard⟩ := o
          simp only at hopc
          subst hopc
          have h1 : (execOp a.eval ⟨dst, .call ⟨.value y, cargs, ts⟩, ty, pos, after, guard⟩).run P w = ((Deferred.ofValue (a.eval y) (cargs.map a.eval)) >>= fun d => invoke d.target d.args).run P w := rfl
          rw [h1, hu]
          have h2 : ((Deferred.ofValue (.func (.func f) #[] us.toArray) (cargs.map a.eval)) >>= fun d => invoke d.target d.args).run P w = (callFunc f ((#[] ++ cargs.map a.eval) ++ us.toArray)).run P w := rfl
          rw [h2, run_callFunc hg' w]
          congr 2
          apply Array.ext'
          simp
    · exact h.elim
  · split at h
    · rename_i v e he
      exact ⟨plainOut v e S.n (footF S.t ao.op), plainOut_ok _ _ _ _, rfl, Nat.le_succ _, local_plain hco hsl he, h⟩
    · exact h.elim

theorem cGuard_want {o : Oper} {g : Nat} {want : Bool} {t : Fr} {b : Bool} (hg : cGuard ops o.guard = some (some (g, want))) (hb : fget t g = .d (.bool b)) : wantA ops o t = some (b == want) := by
  unfold cGuard at hg
  unfold wantA
  cases ho : o.guard with
  | none => rw [ho] at hg; cases hg
  | some jw =>
    obtain ⟨j, wt⟩ := jw
    rw [ho] at hg
    simp only at hg ⊢
    split at hg
    · rename_i o' hj
      split at hg
      · rename_i d hd
        cases hg
        simp only [hj, Option.bind_some, hd, hb]
      · cases hg
    · cases hg

theorem cGuard_wantT {o : Oper} {g : Nat} {want : Bool} {t : Fr} {cs : List AV} (hg : cGuard ops o.guard = some (some (g, want))) (hb : fget t g = .tup cs) : wantA ops o t = some false := by
  unfold cGuard at hg
  unfold wantA
  cases ho : o.guard with
  | none => rw [ho] at hg; cases hg
  | some jw =>
    obtain ⟨j, wt⟩ := jw
    rw [ho] at hg
    simp only at hg ⊢
    split at hg
    · rename_i o' hj
      split at hg
      · rename_i d hd
        cases hg
        simp only [hj, Option.bind_some, hd, hb]
      · cases hg
    · cases hg

theorem cGuard_wantN {o : Oper} {t : Fr} (hg : cGuard ops o.guard = some none) : wantA ops o t = some true := by
  unfold cGuard at hg
  unfold wantA
  cases ho : o.guard with
  | none => rfl
  | some jw =>
    obtain ⟨j, wt⟩ := jw
    rw [ho] at hg
    simp only at hg
    split at hg
    · split at hg
      · cases hg
      · cases hg
    · cases hg

theorem runDA_outs {K : St → Prop} {ms : List Nat} : ∀ (l : List Oper) (al : List AOper) (acc : List Foot) (S : St), cOpers P ops k l = some al → slotsB ops l al = true → runDA P al acc ms S K →
    ∃ (outs : List Out) (Sf : St), K Sf ∧ RunOuts P k ops (fun t m => t = Sf.t ∧ m = Sf.m) l outs S.t S.m ∧ outs.length = l.length ∧ (∀ x ∈ outs, x.ok) ∧ Ranges S.n outs Sf.n ∧
      indepFrom [] (acc.reverse ++ outs.map fun x => ⟨x.keys, x.F⟩) (closeM [] ms) = true
  | [], al, acc, S, hc, _, h => by
    simp only [cOpers, Option.some.injEq] at hc
    subst hc
    simp only [runDA] at h
    exact ⟨[], S, h.2, ⟨rfl, rfl⟩, rfl, fun x hx => by simp at hx, rfl, by simpa using h.1⟩
  | o :: l, al, acc, S, hc, hs, h => by
    simp only [cOpers] at hc
    split at hc
    · rename_i ao r' h1 h2
      cases hc
      simp only [slotsB, Bool.and_eq_true] at hs
      obtain ⟨hg, hd, hdk⟩ := cOper_guard h1
      have doit : wantA ops o S.t = some true → dStep P ao.dst ao.op S (fun S' f => runDA P r' (f :: acc) ms S' K) → ∃ (outs : List Out) (Sf : St), K Sf ∧ RunOuts P k ops (fun t m => t = Sf.t ∧ m = Sf.m) (o :: l) outs S.t S.m ∧ outs.length = (o :: l).length ∧ (∀ x ∈ outs, x.ok) ∧ Ranges S.n outs Sf.n ∧
          indepFrom [] (acc.reverse ++ outs.map fun x => ⟨x.keys, x.F⟩) (closeM [] ms) = true := by
        intro hw h
        obtain ⟨out, hok, hlo, hhi, hloc, hk⟩ := dStep_out h1 hs.1 h
        obtain ⟨outs, Sf, hK, hrun, hlen, hoks, hrg, hind⟩ := runDA_outs l r' _ _ h2 hs.2 hk
        refine ⟨out :: outs, Sf, hK, ⟨.inl ⟨hw, hloc⟩, hrun⟩, by simp [hlen], fun x hx => ?_, ⟨hlo, hhi, hrg⟩, by simpa using hind⟩
        rcases List.mem_cons.1 hx with rfl | hx
        · exact hok
        · exact hoks x hx
      simp only [runDA] at h
      split at h
      · rename_i hgn
        rw [hgn] at hg
        exact doit (cGuard_wantN hg) h
      · rename_i g want hgs
        rw [hgs] at hg
        split at h
        · rename_i b hb
          have hw := cGuard_want hg hb
          split at h
          · rename_i hbw
            subst hbw
            exact doit (by rw [hw]; simp) h
          · rename_i hbw
            rw [hd] at h
            obtain ⟨outs, Sf, hK, hrun, hlen, hoks, hrg, hind⟩ := runDA_outs l r' _ _ h2 hs.2 h
            refine ⟨skipOut S.n :: outs, Sf, hK, ⟨.inr ⟨by rw [hw]; simpa using hbw, rfl, fun _ => rfl⟩, hrun⟩, by simp [hlen], fun x hx => ?_, ⟨rfl, Nat.le_succ _, hrg⟩, by simpa [skipOut] using hind⟩
            rcases List.mem_cons.1 hx with rfl | hx
            · exact skipOut_ok _
            · exact hoks x hx
        · rename_i cs hb
          have hw := cGuard_wantT hg hb
          rw [hd] at h
          obtain ⟨outs, Sf, hK, hrun, hlen, hoks, hrg, hind⟩ := runDA_outs l r' _ _ h2 hs.2 h
          refine ⟨skipOut S.n :: outs, Sf, hK, ⟨.inr ⟨hw, rfl, fun _ => rfl⟩, hrun⟩, by simp [hlen], fun x hx => ?_, ⟨rfl, Nat.le_succ _, hrg⟩, by simpa [skipOut] using hind⟩
          rcases List.mem_cons.1 hx with rfl | hx
          · exact skipOut_ok _
          · exact hoks x hx
        · exact h.elim
    · cases hc

theorem RunOuts.mono {K K' : Fr → Mem → Prop} (hK : ∀ t m, K t m → K' t m) : ∀ {l : List Oper} {outs : List Out} {t : Fr} {m : Mem}, RunOuts P k ops K l outs t m → RunOuts P k ops K' l outs t m
  | [], [], _, _, h => hK _ _ h
  | [], _ :: _, _, _, h => h.elim
  | _ :: _, [], _, _, h => h.elim
  | _ :: _, _ :: _, _, _, h => ⟨h.1, RunOuts.mono hK h.2⟩

theorem indep2_spec {x y : Out} (h : indep2 ⟨x.keys, x.F⟩ ⟨y.keys, y.F⟩ = true) : indep x y := by
  simp only [indep2, Bool.and_eq_true, List.all_eq_true, Bool.not_eq_true', List.contains_eq_mem, decide_eq_false_iff_not] at h
  exact ⟨fun id hid => (h.1 id hid).1, fun id hid => h.2 id hid, fun id hid => (h.1 id hid).2⟩

theorem mask_spec (i : Nat) : ∀ (l : List Edge) (s : Nat), (l.foldl (fun s e => if Region.binds .any e then s ||| 2 ^ e.on else s) s).testBit i = true → s.testBit i = true ∨ ∃ e ∈ l, Region.binds .any e = true ∧ e.on = i
  | [], s, h => .inl h
  | e :: l, s, h => by
    simp only [List.foldl_cons] at h
    rcases mask_spec i l _ h with h1 | ⟨e', h1, h2⟩
    · split at h1
      · rename_i hb
        rw [Nat.testBit_or, Bool.or_eq_true, Nat.testBit_two_pow] at h1
        rcases h1 with h1 | h1
        · exact .inl h1
        · exact .inr ⟨e, List.mem_cons_self, hb, by simpa using h1⟩
      · exact .inl h1
    · exact .inr ⟨e', List.mem_cons_of_mem _ h1, h2⟩

theorem awp_region_draw {n0 : Nat} {S : St} {Q : Exit → St → Prop} {id : Nat} {al : List AOper} (hm : P.follows .mixedOrders = true) (hc : cOpers P ops k ops.toList = some al) (hs : slotsB ops ops.toList al = true)
    (hlex : Region.lexB .any ops = true) (hn : n0 ≤ S.n) (h : runDA P al [] (masksOf ops) S (fun S' => Q .normal S')) : AWP P n0 k (.region id ops true) S Q := by
  intro E hE a w hcc
  obtain ⟨outs, Sf, hK, hrun, hlen, hoks, hrg, hind⟩ := runDA_outs (k := k) (ops := ops) ops.toList al [] S hc hs h
  have hoks' : ∀ (i : Nat) (o : Out), outs[i]? = some o → o.ok := fun i o h => hoks o (List.mem_of_getElem? h)
  have hl : outs.length = ops.size := by rw [hlen, Array.length_toList]
  have hdk : ∀ (i : Nat) (o : Oper), ops[i]? = some o → ∀ d, o.dst = some d → d < k := by
    have key : ∀ (l : List Oper) (al : List AOper), cOpers P ops k l = some al → ∀ o ∈ l, ∀ d, o.dst = some d → d < k := by
      intro l
      induction l with
      | nil => intro al _ o ho; simp at ho
      | cons x l ih =>
        intro al hc o ho
        simp only [cOpers] at hc
        split at hc
        · rename_i ao r' h1 h2
          rcases List.mem_cons.1 ho with rfl | ho
          · exact (cOper_guard h1).2.2
          · exact ih r' h2 o ho
        · cases hc
    exact fun i o ho => key _ _ hc o (by rw [← Array.getElem?_toList] at ho; exact List.mem_of_getElem? ho)
  refine wp_region_any hm ?_
  have hconc : Conc E k S a { w with drawn := w.drawn + 1 } := conc_drew hcc rfl rfl rfl rfl
  obtain ⟨c, hcr, hp⟩ := hconc
  unfold Region.lexB at hlex
  simp only [Bool.and_eq_true] at hlex
  have hA := wpAnyA_lex (P := P) (k := k) (ops := ops) (outs := outs) hoks' (K := fun t m => Alk Sf.t Sf.m t m)
    (fun t m t' m' h1 h2 => ⟨fun i => (h1.1 i).trans (h2.1 i), fun i => (h1.2 i).trans (h2.2 i)⟩) ?_ ops.toList outs 0 (Array.replicate ops.size false) S.t S.m
    (fun j => by rw [Nat.zero_add, Array.getElem?_toList]) (fun j => by rw [Nat.zero_add]) (fun j hj => absurd hj (Nat.not_lt_zero j)) (fun a oa hoa hl => by
      have : a < ops.size := (Array.getElem?_eq_some_iff.1 hoa).1
      simp [this] at hl) (by rw [Array.length_toList]; exact hlex.2)
    (hrun.mono fun t m ⟨h1, h2⟩ => by subst h1 h2; exact ⟨fun _ => rfl, fun _ => rfl⟩)
  · rw [Array.length_toList] at hA
    refine wpAny_of_A hrg (hE ▸ hn) hoks' hdk (K := fun t m => Alk Sf.t Sf.m t m) ?_ _ _ _ _ _ _ ⟨c, hcr.defers, hcr.size, hcr.fr, hcr.mr, hp, fun id hid => hcr.free id (Nat.le_trans hrg.spec.1 hid), fun j x hx _ id h1 _ => hcr.free id (Nat.le_trans (hrg.spec.2 j x hx).1 h1)⟩ hA
    rintro t m a' w' hal ⟨c', hc', hp'⟩
    refine ⟨Sf, hK, c', ⟨hc'.defers, hc'.size, fun i => by rw [← hal.1 i]; exact hc'.fr i, hc'.mr.of_mget fun id => (hal.2 id).symm, hc'.free⟩, hp'.of_mget fun id => (hal.2 id).symm⟩
  · intro i j oj x y hij hoj hx hy hno
    have hi' : (outs.map fun x => (⟨x.keys, x.F⟩ : Foot))[i]? = some ⟨x.keys, x.F⟩ := by simp [hx]
    have hj' : (outs.map fun x => (⟨x.keys, x.F⟩ : Foot))[j]? = some ⟨y.keys, y.F⟩ := by simp [hy]
    obtain ⟨mk, hmk, hb⟩ := indepFrom_spec hind i j ⟨x.keys, x.F⟩ ⟨y.keys, y.F⟩ (by simpa using hij) hi' hj'
    refine indep2_spec (hb ?_)
    cases hbit : mk.testBit i with
    | false => rfl
    | true =>
      refine absurd ?_ hno
      have := closeM_spec (R := Anc ops) (fun h h' => h.trans h') (ms := masksOf ops) (done := []) (fun k c b h => by simp at h) (fun j' m' b' h1 h2 => ?_) j mk i hmk hbit
      · simpa using this
      · unfold masksOf at h1
        rw [List.getElem?_map, Array.getElem?_toList, Option.map_eq_some_iff] at h1
        obtain ⟨oj', ho', rfl⟩ := h1
        rcases mask_spec b' _ _ h2 with h3 | ⟨e, h3, h4, h5⟩
        · simp at h3
        · simp only [List.length_nil, Nat.zero_add]
          exact .one ho' (by simpa using h3) h4 h5

theorem bwp_region_draw {n0 : Nat} {S : St} {Q : Exit → St → Prop} {al : List AOper} {ms : List Nat} (hm : P.follows .mixedOrders = true) (hn : decide (n0 ≤ S.n) = true) (h : runDA P al [] ms S (fun S' => Q .normal S')) :
    BWP P n0 k (.region true al ms) S Q := by
  intro code hc
  cases code with
  | region id ops draw =>
    simp only [cCode] at hc
    split at hc
    · rename_i al' hal
      split at hc
      · rename_i hd
        split at hc
        · rename_i hlex
          cases hc
          simp only [Bool.and_eq_true] at hlex
          subst hd
          exact awp_region_draw hm hal hlex.2 hlex.1 (of_decide_eq_true hn) h
        · cases hc
      · cases hc
    · cases hc
  | cond c a b => simp only [cCode] at hc; repeat' split at hc
                  all_goals cases hc
  | seq a b => simp only [cCode] at hc; repeat' split at hc
               all_goals cases hc
  | _ => simp [cCode] at hc

end
end Go.Jq
