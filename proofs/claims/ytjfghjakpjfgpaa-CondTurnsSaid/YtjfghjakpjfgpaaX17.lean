/- The abstract layer, part 17: the rules by which simp goes through a region. -/
import Derived.Test.YtjfghjakpjfgpaaX16
namespace Go.Jq
open Go

/-- One operation, then the others. -/
def opK (P : Program) (dst : Option Nat) (op : AOp) (r : List AOper) (K : St → Prop) (t : Fr) (m : Mem) (n : Nat) : Prop :=
  stepOp P ⟨dst, op, none⟩ ⟨t, m, n⟩ fun S' => runOps P r S' K

def contK (P : Program) (dst : Option Nat) (r : List AOper) (K : St → Prop) (t : Fr) (m : Mem) (n : Nat) : Option (AV × Eff) → Prop
  | some (v, e) => runOps P r ⟨putF t dst v, e.mem m n, e.next n⟩ K
  | none => False

def gateK (P : Program) (dst : Option Nat) (op : AOp) (r : List AOper) (K : St → Prop) (t : Fr) (m : Mem) (n : Nat) (want : Bool) : AV → Prop
  | .d (.bool b) => if b = want then opK P dst op r K t m n else runOps P r ⟨putF t dst .any, m, n⟩ K
  | _ => False

/-- A call, then the other operations. -/
def callK (P : Program) (f : Nat) (args : List AV) (dst : Option Nat) (r : List AOper) (K : St → Prop) (t : Fr) (m : Mem) (n : Nat) : Prop :=
  ∃ R, CallR P f args m n (n ≤ ·) R ∧ ∀ v m' n', R v m' n' → runOps P r ⟨putF t dst v, m', n'⟩ K

def callvK (P : Program) (args : List AV) (dst : Option Nat) (r : List AOper) (K : St → Prop) (t : Fr) (m : Mem) (n : Nat) : AV → Prop
  | .fn f caps => goesB P f = true ∧ callK P f (args ++ caps) dst r K t m n
  | _ => False

section
variable {P : Program} {dst : Option Nat} {op : AOp} {r : List AOper} {K : St → Prop} {t : Fr} {m : Mem} {n : Nat}

@[go_sem] theorem runOps_nil {S : St} : runOps P [] S K = K S := rfl
@[go_sem] theorem runOps_cons : runOps P (⟨dst, op, none⟩ :: r) ⟨t, m, n⟩ K = opK P dst op r K t m n := by
  simp only [runOps, opK, stepOp]
@[go_sem] theorem runOps_guard {g : Nat} {want : Bool} : runOps P (⟨dst, op, some (g, want)⟩ :: r) ⟨t, m, n⟩ K = gateK P dst op r K t m n want (fget t g) := by
  simp only [runOps]
  generalize fget t g = x
  cases x with
  | d x => cases x <;> simp only [gateK, opK, stepOp]
  | _ => simp only [gateK]
@[go_sem] theorem gateK_tt : gateK P dst op r K t m n true (.d (.bool true)) = opK P dst op r K t m n := rfl
@[go_sem] theorem gateK_ff : gateK P dst op r K t m n false (.d (.bool false)) = opK P dst op r K t m n := rfl
@[go_sem] theorem gateK_tf : gateK P dst op r K t m n true (.d (.bool false)) = runOps P r ⟨putF t dst .any, m, n⟩ K := rfl
@[go_sem] theorem gateK_ft : gateK P dst op r K t m n false (.d (.bool true)) = runOps P r ⟨putF t dst .any, m, n⟩ K := rfl
theorem opK_aev (h : isCall op = false) : opK P dst op r K t m n = contK P dst r K t m n (aevN op t m n) := by
  have : stepOp P ⟨dst, op, none⟩ ⟨t, m, n⟩ (fun S' => runOps P r S' K) = contK P dst r K t m n (aevN op t m n) := by
    cases op <;> first
      | (simp [isCall] at h; done)
      | (simp only [stepOp]
         generalize aevN _ t m n = x
         cases x with
         | none => rfl
         | some p => obtain ⟨v, e⟩ := p; rfl)
  exact this
@[go_sem] theorem contK_some {v : AV} {e : Eff} : contK P dst r K t m n (some (v, e)) = runOps P r ⟨putF t dst v, e.mem m n, e.next n⟩ K := rfl
@[go_sem] theorem contK_none : contK P dst r K t m n none = False := rfl
@[go_sem] theorem opK_callf {f : Nat} {args : List Opd} : opK P dst (.callf f args) r K t m n = callK P f (args.map (ev t)) dst r K t m n := rfl
@[go_sem] theorem opK_callv {x : Opd} {args : List Opd} : opK P dst (.callv x args) r K t m n = callvK P (args.map (ev t)) dst r K t m n (ev t x) := by
  unfold opK
  simp only [stepOp]
  generalize ev t x = y
  cases y <;> rfl
@[go_sem] theorem callvK_fn {f : Nat} {caps args : List AV} : callvK P args dst r K t m n (.fn f caps) = (goesB P f = true ∧ callK P f (args ++ caps) dst r K t m n) := rfl

/-! The plain operations, each on its own: what simp is to rewrite by. -/
@[go_sem] theorem opK_mv {x : Opd} : opK P dst (.mv x) r K t m n = runOps P r ⟨putF t dst (ev t x), m, n⟩ K := rfl
@[go_sem] theorem opK_pick {a b c : Opd} : opK P dst (.pick a b c) r K t m n = contK P dst r K t m n (aevN (.pick a b c) t m n) := opK_aev rfl
@[go_sem] theorem opK_alloc {z : List AV} : opK P dst (.alloc z) r K t m n = runOps P r ⟨putF t dst (.ptr n 0), mset m n z, n + 1⟩ K := rfl
@[go_sem] theorem opK_box {x : Opd} : opK P dst (.box x) r K t m n = contK P dst r K t m n (aevN (.box x) t m n) := opK_aev rfl
@[go_sem] theorem opK_build {z : List AV} {p : List (Nat × Nat × Opd)} : opK P dst (.build z p) r K t m n = contK P dst r K t m n (aevN (.build z p) t m n) := opK_aev rfl
@[go_sem] theorem opK_bslice {a b : Nat} {z : List AV} {p : List (Nat × Nat × Opd)} : opK P dst (.bslice a b z p) r K t m n = contK P dst r K t m n (aevN (.bslice a b z p) t m n) := opK_aev rfl
@[go_sem] theorem opK_load {k : Option Nat} {x : Opd} : opK P dst (.load k x) r K t m n = contK P dst r K t m n (aevN (.load k x) t m n) := opK_aev rfl
@[go_sem] theorem opK_store {k : Nat} {x y : Opd} : opK P dst (.store k x y) r K t m n = contK P dst r K t m n (aevN (.store k x y) t m n) := opK_aev rfl
@[go_sem] theorem opK_nilck {x : Opd} : opK P dst (.nilck x) r K t m n = contK P dst r K t m n (aevN (.nilck x) t m n) := opK_aev rfl
@[go_sem] theorem opK_bin {o : BinOp} {x y : Opd} : opK P dst (.bin o x y) r K t m n = contK P dst r K t m n (aevN (.bin o x y) t m n) := opK_aev rfl
@[go_sem] theorem opK_eqb {o : Bool} {x y : Opd} : opK P dst (.eqb o x y) r K t m n = contK P dst r K t m n (aevN (.eqb o x y) t m n) := opK_aev rfl
@[go_sem] theorem opK_eqp {o : Bool} {x y : Opd} : opK P dst (.eqp o x y) r K t m n = contK P dst r K t m n (aevN (.eqp o x y) t m n) := opK_aev rfl
@[go_sem] theorem opK_eqf {o : Bool} {x y : Opd} : opK P dst (.eqf o x y) r K t m n = contK P dst r K t m n (aevN (.eqf o x y) t m n) := opK_aev rfl
@[go_sem] theorem opK_eqs {k : List Nat} {o : Bool} {x y : Opd} : opK P dst (.eqs k o x y) r K t m n = contK P dst r K t m n (aevN (.eqs k o x y) t m n) := opK_aev rfl
@[go_sem] theorem opK_un {o : UnOp} {x : Opd} : opK P dst (.un o x) r K t m n = contK P dst r K t m n (aevN (.un o x) t m n) := opK_aev rfl
@[go_sem] theorem opK_cvi {k : IntKind} {x : Opd} : opK P dst (.cvi k x) r K t m n = contK P dst r K t m n (aevN (.cvi k x) t m n) := opK_aev rfl
@[go_sem] theorem opK_cvrune {x : Opd} : opK P dst (.cvrune x) r K t m n = contK P dst r K t m n (aevN (.cvrune x) t m n) := opK_aev rfl
@[go_sem] theorem opK_cvbs {x : Opd} : opK P dst (.cvbs x) r K t m n = contK P dst r K t m n (aevN (.cvbs x) t m n) := opK_aev rfl
@[go_sem] theorem opK_cvsb {x : Opd} : opK P dst (.cvsb x) r K t m n = contK P dst r K t m n (aevN (.cvsb x) t m n) := opK_aev rfl
@[go_sem] theorem opK_cvll {x : Opd} : opK P dst (.cvll x) r K t m n = contK P dst r K t m n (aevN (.cvll x) t m n) := opK_aev rfl
@[go_sem] theorem opK_mkfn {f : Nat} {c : List Opd} : opK P dst (.mkfn f c) r K t m n = runOps P r ⟨putF t dst (.fn f (c.map (ev t))), m, n⟩ K := rfl
@[go_sem] theorem opK_mksl {a b : Nat} {z : List AV} {x y : Opd} : opK P dst (.mksl a b z x y) r K t m n = contK P dst r K t m n (aevN (.mksl a b z x y) t m n) := opK_aev rfl
@[go_sem] theorem opK_slcs {x : Opd} {l h : Option Opd} : opK P dst (.slcs x l h) r K t m n = contK P dst r K t m n (aevN (.slcs x l h) t m n) := opK_aev rfl
@[go_sem] theorem opK_slcl {a : Nat} {x : Opd} {l h : Option Opd} : opK P dst (.slcl a x l h) r K t m n = contK P dst r K t m n (aevN (.slcl a x l h) t m n) := opK_aev rfl
@[go_sem] theorem opK_faddr {x : Opd} {o : Nat} : opK P dst (.faddr x o) r K t m n = contK P dst r K t m n (aevN (.faddr x o) t m n) := opK_aev rfl
@[go_sem] theorem opK_fld {x : Opd} {o : Nat} {k : Option Nat} : opK P dst (.fld x o k) r K t m n = contK P dst r K t m n (aevN (.fld x o k) t m n) := opK_aev rfl
@[go_sem] theorem opK_iaddr {e : Nat} {k : Option Nat} {x i : Opd} : opK P dst (.iaddr e k x i) r K t m n = contK P dst r K t m n (aevN (.iaddr e k x i) t m n) := opK_aev rfl
@[go_sem] theorem opK_idxs {x i : Opd} : opK P dst (.idxs x i) r K t m n = contK P dst r K t m n (aevN (.idxs x i) t m n) := opK_aev rfl
@[go_sem] theorem opK_idxa {a e : Nat} {k : Option Nat} {x i : Opd} : opK P dst (.idxa a e k x i) r K t m n = contK P dst r K t m n (aevN (.idxa a e k x i) t m n) := opK_aev rfl
@[go_sem] theorem opK_ext {x : Opd} {i : Nat} : opK P dst (.ext x i) r K t m n = contK P dst r K t m n (aevN (.ext x i) t m n) := opK_aev rfl
@[go_sem] theorem opK_lens {x : Opd} : opK P dst (.lens x) r K t m n = contK P dst r K t m n (aevN (.lens x) t m n) := opK_aev rfl
@[go_sem] theorem opK_lenl {x : Opd} : opK P dst (.lenl x) r K t m n = contK P dst r K t m n (aevN (.lenl x) t m n) := opK_aev rfl
@[go_sem] theorem opK_minI {x y : Opd} : opK P dst (.minI x y) r K t m n = contK P dst r K t m n (aevN (.minI x y) t m n) := opK_aev rfl
@[go_sem] theorem opK_maxI {x y : Opd} : opK P dst (.maxI x y) r K t m n = contK P dst r K t m n (aevN (.maxI x y) t m n) := opK_aev rfl
@[go_sem] theorem opK_app {a b : Nat} {x y : Opd} : opK P dst (.app a b x y) r K t m n = contK P dst r K t m n (aevN (.app a b x y) t m n) := opK_aev rfl

end

attribute [go_sem] aevN ev fget putF Eff.mem Eff.next mget mset mdel shI unA eqpA eqfA eqCell eqCells bndA slcA cellsOf oneB putAt fillA evParts bytesAV elemsOf wrapI boolA frm cellBytes

section
variable {k : IntKind} {a b : Int}
@[go_sem] theorem binA_add : binA .add (.d (.int k a)) (.d (.int k b)) = some (.d (.int k (k.wrap (a + b)))) := by simp [binA, binI, wrapI]
@[go_sem] theorem binA_sub : binA .sub (.d (.int k a)) (.d (.int k b)) = some (.d (.int k (k.wrap (a - b)))) := by simp [binA, binI, wrapI]
@[go_sem] theorem binA_mul : binA .mul (.d (.int k a)) (.d (.int k b)) = some (.d (.int k (k.wrap (a * b)))) := by simp [binA, binI, wrapI]
@[go_sem] theorem binA_quo : binA .quo (.d (.int k a)) (.d (.int k b)) = if b = 0 then none else some (.d (.int k (k.wrap (a.tdiv b)))) := by simp [binA, binI, wrapI]
@[go_sem] theorem binA_rem : binA .rem (.d (.int k a)) (.d (.int k b)) = if b = 0 then none else some (.d (.int k (a.tmod b))) := by simp [binA, binI]
@[go_sem] theorem binA_and : binA .and (.d (.int k a)) (.d (.int k b)) = some (.d (.int k (bits .and k a b))) := by simp [binA, binI]
@[go_sem] theorem binA_or : binA .or (.d (.int k a)) (.d (.int k b)) = some (.d (.int k (bits .or k a b))) := by simp [binA, binI]
@[go_sem] theorem binA_xor : binA .xor (.d (.int k a)) (.d (.int k b)) = some (.d (.int k (bits .xor k a b))) := by simp [binA, binI]
@[go_sem] theorem binA_andNot : binA .andNot (.d (.int k a)) (.d (.int k b)) = some (.d (.int k (bits .andNot k a b))) := by simp [binA, binI]
@[go_sem] theorem binA_shl {k' : IntKind} : binA .shl (.d (.int k a)) (.d (.int k' b)) = if b < 0 then none else some (.d (.int k (k.wrap (a * 2 ^ min b.toNat k.bits)))) := by simp [binA, shI, wrapI]
@[go_sem] theorem binA_shr {k' : IntKind} : binA .shr (.d (.int k a)) (.d (.int k' b)) = if b < 0 then none else some (.d (.int k (a.fdiv (2 ^ min b.toNat k.bits)))) := by simp [binA, shI]
@[go_sem] theorem binA_eql : binA .eql (.d (.int k a)) (.d (.int k b)) = some (.d (.bool (decide (a = b)))) := by simp [binA, binI, boolA]
@[go_sem] theorem binA_neq : binA .neq (.d (.int k a)) (.d (.int k b)) = some (.d (.bool (!decide (a = b)))) := by simp [binA, binI, boolA]
@[go_sem] theorem binA_lss : binA .lss (.d (.int k a)) (.d (.int k b)) = some (.d (.bool (decide (a < b)))) := by simp [binA, binI, boolA]
@[go_sem] theorem binA_leq : binA .leq (.d (.int k a)) (.d (.int k b)) = some (.d (.bool (decide (a ≤ b)))) := by simp [binA, binI, boolA]
@[go_sem] theorem binA_gtr : binA .gtr (.d (.int k a)) (.d (.int k b)) = some (.d (.bool (decide (b < a)))) := by simp [binA, binI, boolA]
@[go_sem] theorem binA_geq : binA .geq (.d (.int k a)) (.d (.int k b)) = some (.d (.bool (decide (b ≤ a)))) := by simp [binA, binI, boolA]
end

section
variable {a b : List UInt8}
@[go_sem] theorem binA_sadd : binA .add (.d (.str a)) (.d (.str b)) = if a.length + b.length ≤ 9223372036854775807 then some (.d (.str (a ++ b))) else none := by simp [binA, binS]
@[go_sem] theorem binA_seql : binA .eql (.d (.str a)) (.d (.str b)) = some (.d (.bool (decide (a = b)))) := by simp [binA, binS, boolA]
@[go_sem] theorem binA_sneq : binA .neq (.d (.str a)) (.d (.str b)) = some (.d (.bool (!decide (a = b)))) := by simp [binA, binS, boolA]
end

attribute [go_sem] Int.cast_ofNat_Int true_and and_true and_self Nat.mul_one Nat.add_zero Nat.zero_add Nat.zero_mul Option.map_some Option.map_none List.map_cons List.map_nil decide_eq_true_eq decide_eq_false_iff_not

theorem wrap_i64 {n : Int} (h0 : -9223372036854775808 ≤ n) (h1 : n ≤ 9223372036854775807) : IntKind.i64.wrap n = n := by
  have e1 : (2 ^ (64 - 1) : Int) = 9223372036854775808 := rfl
  have e2 : (2 ^ 64 : Int) = 18446744073709551616 := rfl
  simp only [IntKind.wrap, IntKind.signed, IntKind.bits, e1, e2, Bool.true_and, decide_eq_true_eq]
  split <;> omega

theorem wrap_u8 {n : Int} (h0 : 0 ≤ n) (h1 : n ≤ 255) : IntKind.u8.wrap n = n := by
  have e2 : (2 ^ 8 : Int) = 256 := rfl
  simp only [IntKind.wrap, IntKind.signed, IntKind.bits, e2, Bool.false_and, Bool.false_eq_true, if_false]
  omega

@[go_sem] theorem thenA_normal {N : St → Prop} {Q : Exit → St → Prop} {S : St} : Exit.thenA N Q .normal S = N S := rfl
@[go_sem] theorem thenA_ret {N : St → Prop} {Q : Exit → St → Prop} {S : St} : Exit.thenA N Q .ret S = Q .ret S := rfl
@[go_sem] theorem thenA_exit {N : St → Prop} {Q : Exit → St → Prop} {S : St} {i : Nat} : Exit.thenA N Q (.exit i) S = Q (.exit i) S := rfl
@[go_sem] theorem inBlockA_normal {j : Nat} {Q : Exit → St → Prop} {S : St} : Exit.inBlockA j Q .normal S = Q .normal S := rfl
@[go_sem] theorem inBlockA_ret {j : Nat} {Q : Exit → St → Prop} {S : St} : Exit.inBlockA j Q .ret S = Q .ret S := rfl
@[go_sem] theorem inBlockA_exit {j i : Nat} {Q : Exit → St → Prop} {S : St} : Exit.inBlockA j Q (.exit i) S = if i = j then Q .normal S else Q (.exit i) S := rfl
@[go_sem] theorem lenA_nsl : lenA (.d .nsl) = some 0 := rfl
@[go_sem] theorem lenA_d {n : Nat} {cs : List DV} : lenA (.d (.sl n cs)) = some n := rfl
@[go_sem] theorem lenA_sl {i e o n : Nat} : lenA (.sl i e o n) = some n := rfl
@[go_sem] theorem loadA_none {cs : List AV} : loadA none cs = cs[0]? := rfl
@[go_sem] theorem loadA_some {k : Nat} {cs : List AV} : loadA (some k) cs = if k ≤ cs.length then some (.agg (cs.take k)) else none := rfl
@[go_sem] theorem natMax_def {a b : Nat} : Nat.max a b = if a ≤ b then b else a := Nat.max_def
@[go_sem] theorem mbound_nil : mbound [] = 0 := rfl
@[go_sem] theorem mbound_cons {i : Nat} {c : List AV} {r : Mem} : mbound ((i, c) :: r) = Nat.max (i + 1) (mbound r) := rfl

/-- The end of a function that hands back data and leaves no own block. -/
theorem aend_ret {P : Program} {rs : Array ResultVar} {n0 : Nat} {Q : AV → Mem → Prop} {S : St} (v : AV) (hv : resA P rs S = some v) (hc : v.ren (fun _ => none) = v) (hq : Q v []) : AEnd P rs n0 Q .ret S :=
  ⟨v, hv, [], [], rfl, rfl, trivial, by
    have : pget [] = fun _ => none := rfl
    rw [this, hc]
    exact hq⟩

end Go.Jq
