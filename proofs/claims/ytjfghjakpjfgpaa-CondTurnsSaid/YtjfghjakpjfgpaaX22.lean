/- The abstract layer, part 22: calls at a region's call; the simp rules for regions that draw their order. -/
import Derived.Test.YtjfghjakpjfgpaaX21
namespace Go.Jq
open Go

/-- From these values (and no own block) the function comes to just this value, and leaves no own block. -/
def Pure (P : Program) (f : Nat) (args : List AV) (v : AV) : Prop := ACalls P f args [] fun r m' => r = v ∧ m' = []

mutual
theorem ren_noId {π : Nat → Option Nat} : ∀ (x : AV), inB (fun _ => none) x = true → x.ren π = x
  | .d x, _ => rfl
  | .ptr id off, h => by simp [inB] at h
  | .dptr cs, _ => rfl
  | .sl id esz off len, h => by simp [inB] at h
  | .fn f caps, h => by simp only [inB] at h; simp only [AV.ren, renL_noId caps h]
  | .agg cs, h => by simp only [inB] at h; simp only [AV.ren, renL_noId cs h]
  | .tup cs, h => by simp only [inB] at h; simp only [AV.ren, renL_noId cs h]
  | .any, _ => rfl
theorem renL_noId {π : Nat → Option Nat} : ∀ (xs : List AV), inL (fun _ => none) xs = true → renL π xs = xs
  | [], _ => rfl
  | x :: xs, h => by
    simp only [inL, Bool.and_eq_true] at h
    simp only [renL, ren_noId x h.1, renL_noId xs h.2]
end

mutual
theorem inB_mono {π π' : Nat → Option Nat} (hp : ∀ i, (π i).isSome → (π' i).isSome) : ∀ (x : AV), inB π x = true → inB π' x = true
  | .d _, _ => rfl
  | .ptr id _, h => hp id h
  | .dptr _, _ => rfl
  | .sl id _ _ _, h => hp id h
  | .fn _ caps, h => inL_mono hp caps h
  | .agg cs, h => inL_mono hp cs h
  | .tup cs, h => inL_mono hp cs h
  | .any, _ => rfl
theorem inL_mono {π π' : Nat → Option Nat} (hp : ∀ i, (π i).isSome → (π' i).isSome) : ∀ (xs : List AV), inL π xs = true → inL π' xs = true
  | [], _ => rfl
  | x :: xs, h => by
    simp only [inL, Bool.and_eq_true] at h ⊢
    exact ⟨inB_mono hp x h.1, inL_mono hp xs h.2⟩
end

@[go_sem] theorem inL_append (π : Nat → Option Nat) (l l' : List AV) : inL π (l ++ l') = (inL π l && inL π l') := by
  induction l with
  | nil => rfl
  | cons x l ih => simp only [List.cons_append, inL, ih, Bool.and_assoc]

section
variable {P : Program} {f : Nat} {args : List AV} {v : AV} {dst : Option Nat} {r : List AOper} {K : St → Prop} {t : Fr} {m : Mem} {n : Nat}

/-- Any contract at a call. -/
theorem callK_gen (ρ : Ren) (args0 : List AV) (m0 : Mem) {Q : AV → Mem → Prop} {nb : Nat} (h : ACalls P f args0 m0 Q) (hok : okRen nb ρ = true) (hargs : renL (pget ρ) args0 = args) (hin : inL (pget ρ) args0 = true)
    (hh : handed ρ m m0) (hdom : (ρ.all fun p => (mget m0 p.1).isSome) = true)
    (hk : ∀ r0 m', Q r0 m' → runOps P r ⟨putF t dst (r0.ren (renOf ρ m0 m' n)), callMem ρ m0 m' n m, n + Nat.max (mbound m0) (mbound m')⟩ K) : callK P f args dst r K t m n := by
  subst hargs
  have hdom' : ∀ j id, pget ρ j = some id → (mget m0 j).isSome := fun j id hj => List.all_eq_true.1 hdom _ (pget_mem hj)
  refine ⟨_, callR_gen (n := n) h ρ hok hin hh hdom' (F := (n ≤ ·)) (fun _ _ _ _ h _ => h), ?_⟩
  rintro v m' n' ⟨r0, m1, hQ, rfl, rfl, rfl⟩
  exact hk r0 m1 hQ

theorem callK_pure (h : Pure P f args v) (ha : inL (fun _ => none) args = true) (hv : inB (fun _ => none) v = true) (hk : runOps P r ⟨putF t dst v, m, n⟩ K) : callK P f args dst r K t m n := by
  refine callK_gen [] args [] (nb := 0) h rfl (renL_noId _ ha) (inL_mono (fun _ h => by cases h) _ ha) trivial rfl ?_
  rintro r0 m' ⟨rfl, rfl⟩
  rw [ren_noId _ hv]
  exact hk

/-- Of nothing but data: whatever it comes to. -/
theorem callK_pureQ {Q : AV → Prop} (h : ACalls P f args [] fun r m' => Q r ∧ m' = []) (ha : inL (fun _ => none) args = true) (hv : ∀ v, Q v → inB (fun _ => none) v = true) (hk : ∀ v, Q v → runOps P r ⟨putF t dst v, m, n⟩ K) :
    callK P f args dst r K t m n := by
  refine callK_gen [] args [] (nb := 0) h rfl (renL_noId _ ha) (inL_mono (fun _ h => by cases h) _ ha) trivial rfl ?_
  rintro r0 m' ⟨hq, rfl⟩
  rw [ren_noId _ (hv _ hq)]
  exact hk r0 hq

/-! ### Lending -/

def flatD : DV → Bool
  | .sl _ _ => false
  | _ => true

mutual
def flatV : AV → Bool
  | .d x => flatD x
  | .agg cs => flatVs cs
  | .tup cs => flatVs cs
  | .any => true
  | _ => false
def flatVs : List AV → Bool
  | [] => true
  | x :: xs => flatV x && flatVs xs
end

theorem relD_flat {I I' : Nat → Prop} {w w' : World} {x : DV} {v : Value} (hx : flatD x = true) (h : RelD I w x v) : RelD I' w' x v := by
  cases x with
  | sl n cs => simp [flatD] at hx
  | _ => exact h

mutual
theorem rel_flat {c c' : Ctx} {w w' : World} : ∀ (x : AV) (v : Value), flatV x = true → Rel c w x v → Rel c' w' x v
  | .d x, v, hx, h => by simp only [Rel] at h ⊢; exact relD_flat hx h
  | .ptr _ _, _, hx, _ => by simp [flatV] at hx
  | .dptr _, _, hx, _ => by simp [flatV] at hx
  | .sl _ _ _ _, _, hx, _ => by simp [flatV] at hx
  | .fn _ _, _, hx, _ => by simp [flatV] at hx
  | .agg cs, v, hx, h => by
    simp only [Rel, flatV] at h hx ⊢
    obtain ⟨vs, hv, hl⟩ := h
    exact ⟨vs, hv, relL_flat cs vs hx hl⟩
  | .tup cs, v, hx, h => by
    simp only [Rel, flatV] at h hx ⊢
    obtain ⟨vs, hv, hl⟩ := h
    exact ⟨vs, hv, relL_flat cs vs hx hl⟩
  | .any, _, _, _ => by simp [Rel]
theorem relL_flat {c c' : Ctx} {w w' : World} : ∀ (xs : List AV) (vs : List Value), flatVs xs = true → RelL c w xs vs → RelL c' w' xs vs
  | [], _, _, h => by simpa [RelL] using h
  | x :: xs, vs, hx, h => by
    simp only [RelL, flatVs, Bool.and_eq_true] at h hx ⊢
    obtain ⟨v, vs', hv, h1, h2⟩ := h
    exact ⟨v, vs', hv, rel_flat x v hx.1 h1, relL_flat xs vs' hx.2 h2⟩
end

/-- Own blocks (Z) told to the callee as data; what it comes to refers to none. -/
theorem callK_lend (Z : Zs) (args0 : List AV) {Q : AV → Prop} (h : ACalls P f args0 [] fun r m' => Q r ∧ m' = []) (hz : zokFrom m Z Z) (hargs : cvL (fun _ => none) (zget Z) args = args0) (hv : ∀ v, Q v → flatV v = true)
    (hk : ∀ v, Q v → runOps P r ⟨putF t dst v, m, n⟩ K) : callK P f args dst r K t m n := by
  refine ⟨fun v m' n' => Q v ∧ m' = m ∧ n' = n, ?_, fun v m' n' h => by obtain ⟨h1, rfl, rfl⟩ := h; exact hk v h1⟩
  intro c w vs hr hM hfree
  have hown0 : ∀ (c' : Ctx) b, ¬ Own c' [] b := fun c' b ⟨id, h1, _⟩ => by simp [mget] at h1
  have hzi : ∀ id, (zget Z id).isSome → (mget m id).isSome := fun id h => by
    obtain ⟨ds, hds⟩ := Option.isSome_iff_exists.1 h
    obtain ⟨cs, hcs, _⟩ := zok_get hz id ds hds
    rw [hcs]; rfl
  have hr0 : RelL (c.frz [] Z) w args0 vs := by rw [← hargs]; exact relL_cv (π := []) (nb := 0) rfl hM hz _ _ hr
  have hM0 : MR (c.frz [] Z) [] w := ⟨fun id cells h => by simp [mget] at h, fun id id' b h => by simp [mget] at h, fun b hb => by
    rcases hb with h1 | ⟨id, h1, h2⟩
    · exact hM.imm b h1
    · exact hM.blk_lt ⟨id, hzi id h1, h2⟩⟩
  refine (h (c.frz [] Z) w vs hr0 hM0 fun id _ => rfl).mono ?_
  rintro e w' ⟨v, r0, m', c', rfl, ⟨hQ, rfl⟩, hrel, hM', hs, ho, hpers, hfr⟩
  have hkeep : ∀ b, b < w.heap.size → w'.heap[b]? = w.heap[b]? := fun b hb => hs.keep b hb (hown0 _ b)
  have hl : Later c c w w' := ⟨fun _ h => h, fun b hb => hkeep b (hM.imm b hb), fun _ _ => rfl, hs.rows⟩
  refine ⟨v, r0, m, n, c, rfl, ⟨hQ, rfl, rfl⟩, rel_flat _ _ (hv _ hQ) hrel, ⟨fun id cells hid => ?_, hM.inj, fun b hb => Nat.lt_of_lt_of_le (hM.imm b hb) hs.size⟩,
    ⟨hs.os, hs.tape, hs.output, hs.size, fun b hb _ => hkeep b hb, hs.rows, fun _ h => h, fun b hb => .inl hb⟩, fun b hb => .inl hb, fun _ _ => rfl, fun _ _ h => h, Nat.le_refl _⟩
  have hS : (mget m id).isSome := by rw [hid]; rfl
  exact (hM.own id cells hid).later hl fun b hb => ⟨hkeep b (hM.blk_lt ⟨id, hS, hb⟩), fun hi => hM.sep hi ⟨id, hS, hb⟩⟩

/-! ### Regions that draw their order -/

def dK (P : Program) (dst : Option Nat) (op : AOp) (r : List AOper) (acc : List Foot) (ms : List Nat) (K : St → Prop) (t : Fr) (m : Mem) (n : Nat) : Prop :=
  dStep P dst op ⟨t, m, n⟩ fun S' f => runDA P r (f :: acc) ms S' K

def dContK (P : Program) (dst : Option Nat) (F : List Nat) (r : List AOper) (acc : List Foot) (ms : List Nat) (K : St → Prop) (t : Fr) (m : Mem) (n : Nat) : Option (AV × Eff) → Prop
  | some (v, e) => runDA P r (⟨keysOf n e, F⟩ :: acc) ms ⟨putF t dst v, e.mem m n, n + 1⟩ K
  | none => False

def dGateK (P : Program) (dst : Option Nat) (op : AOp) (r : List AOper) (acc : List Foot) (ms : List Nat) (K : St → Prop) (t : Fr) (m : Mem) (n : Nat) (want : Bool) : AV → Prop
  | .d (.bool b) => if b = want then dK P dst op r acc ms K t m n else runDA P r (⟨[], []⟩ :: acc) ms ⟨putF t dst .any, m, n + 1⟩ K
  | _ => False

def dCallK (P : Program) (f : Nat) (args : List AV) (dst : Option Nat) (r : List AOper) (acc : List Foot) (ms : List Nat) (K : St → Prop) (t : Fr) (m : Mem) (n : Nat) : Prop :=
  CallD P f args m n fun v m n F => runDA P r (F :: acc) ms ⟨putF t dst v, m, n⟩ K

def dCallvK (P : Program) (args : List AV) (dst : Option Nat) (r : List AOper) (acc : List Foot) (ms : List Nat) (K : St → Prop) (t : Fr) (m : Mem) (n : Nat) : AV → Prop
  | .fn f caps => goesB P f = true ∧ dCallK P f (args ++ caps) dst r acc ms K t m n
  | _ => False

variable {acc : List Foot} {ms : List Nat} {op : AOp}

@[go_sem] theorem runDA_nil {S : St} : runDA P [] acc ms S K = (indepFrom [] acc.reverse ms = true ∧ K S) := rfl
@[go_sem] theorem runDA_cons : runDA P (⟨dst, op, none⟩ :: r) acc ms ⟨t, m, n⟩ K = dK P dst op r acc ms K t m n := by simp only [runDA, dK]
@[go_sem] theorem runDA_guard {g : Nat} {want : Bool} : runDA P (⟨dst, op, some (g, want)⟩ :: r) acc ms ⟨t, m, n⟩ K = dGateK P dst op r acc ms K t m n want (fget t g) := by
  simp only [runDA]
  generalize fget t g = x
  cases x with
  | d x => cases x <;> simp only [dGateK, dK]
  | _ => simp only [dGateK]
@[go_sem] theorem dGateK_tt : dGateK P dst op r acc ms K t m n true (.d (.bool true)) = dK P dst op r acc ms K t m n := rfl
@[go_sem] theorem dGateK_ff : dGateK P dst op r acc ms K t m n false (.d (.bool false)) = dK P dst op r acc ms K t m n := rfl
@[go_sem] theorem dGateK_tf : dGateK P dst op r acc ms K t m n true (.d (.bool false)) = runDA P r (⟨[], []⟩ :: acc) ms ⟨putF t dst .any, m, n + 1⟩ K := rfl
@[go_sem] theorem dGateK_ft : dGateK P dst op r acc ms K t m n false (.d (.bool true)) = runDA P r (⟨[], []⟩ :: acc) ms ⟨putF t dst .any, m, n + 1⟩ K := rfl
theorem dK_plain (h : isCall op = false) : dK P dst op r acc ms K t m n = dContK P dst (footF t op) r acc ms K t m n (aevN op t m n) := by
  cases op <;> first
    | (simp [isCall] at h; done)
    | (simp only [dK, dStep]
       generalize aevN _ t m n = x
       cases x with
       | none => rfl
       | some p => obtain ⟨v, e⟩ := p; rfl)
@[go_sem] theorem dK_mv {x : Opd} : dK P dst (.mv x) r acc ms K t m n = dContK P dst (footF t (.mv x)) r acc ms K t m n (aevN (.mv x) t m n) := dK_plain rfl
@[go_sem] theorem dK_pick {a b c : Opd} : dK P dst (.pick a b c) r acc ms K t m n = dContK P dst (footF t (.pick a b c)) r acc ms K t m n (aevN (.pick a b c) t m n) := dK_plain rfl
@[go_sem] theorem dK_alloc {z : List AV} : dK P dst (.alloc z) r acc ms K t m n = dContK P dst (footF t (.alloc z)) r acc ms K t m n (aevN (.alloc z) t m n) := dK_plain rfl
@[go_sem] theorem dK_box {x : Opd} : dK P dst (.box x) r acc ms K t m n = dContK P dst (footF t (.box x)) r acc ms K t m n (aevN (.box x) t m n) := dK_plain rfl
@[go_sem] theorem dK_build {z : List AV} {p : List (Nat × Nat × Opd)} : dK P dst (.build z p) r acc ms K t m n = dContK P dst (footF t (.build z p)) r acc ms K t m n (aevN (.build z p) t m n) := dK_plain rfl
@[go_sem] theorem dK_bslice {a b : Nat} {z : List AV} {p : List (Nat × Nat × Opd)} : dK P dst (.bslice a b z p) r acc ms K t m n = dContK P dst (footF t (.bslice a b z p)) r acc ms K t m n (aevN (.bslice a b z p) t m n) := dK_plain rfl
@[go_sem] theorem dK_load {k : Option Nat} {x : Opd} : dK P dst (.load k x) r acc ms K t m n = dContK P dst (footF t (.load k x)) r acc ms K t m n (aevN (.load k x) t m n) := dK_plain rfl
@[go_sem] theorem dK_store {k : Nat} {x y : Opd} : dK P dst (.store k x y) r acc ms K t m n = dContK P dst (footF t (.store k x y)) r acc ms K t m n (aevN (.store k x y) t m n) := dK_plain rfl
@[go_sem] theorem dK_nilck {x : Opd} : dK P dst (.nilck x) r acc ms K t m n = dContK P dst (footF t (.nilck x)) r acc ms K t m n (aevN (.nilck x) t m n) := dK_plain rfl
@[go_sem] theorem dK_bin {o : BinOp} {x y : Opd} : dK P dst (.bin o x y) r acc ms K t m n = dContK P dst (footF t (.bin o x y)) r acc ms K t m n (aevN (.bin o x y) t m n) := dK_plain rfl
@[go_sem] theorem dK_eqb {o : Bool} {x y : Opd} : dK P dst (.eqb o x y) r acc ms K t m n = dContK P dst (footF t (.eqb o x y)) r acc ms K t m n (aevN (.eqb o x y) t m n) := dK_plain rfl
@[go_sem] theorem dK_eqp {o : Bool} {x y : Opd} : dK P dst (.eqp o x y) r acc ms K t m n = dContK P dst (footF t (.eqp o x y)) r acc ms K t m n (aevN (.eqp o x y) t m n) := dK_plain rfl
@[go_sem] theorem dK_eqf {o : Bool} {x y : Opd} : dK P dst (.eqf o x y) r acc ms K t m n = dContK P dst (footF t (.eqf o x y)) r acc ms K t m n (aevN (.eqf o x y) t m n) := dK_plain rfl
@[go_sem] theorem dK_eqs {k : List Nat} {o : Bool} {x y : Opd} : dK P dst (.eqs k o x y) r acc ms K t m n = dContK P dst (footF t (.eqs k o x y)) r acc ms K t m n (aevN (.eqs k o x y) t m n) := dK_plain rfl
@[go_sem] theorem dK_un {o : UnOp} {x : Opd} : dK P dst (.un o x) r acc ms K t m n = dContK P dst (footF t (.un o x)) r acc ms K t m n (aevN (.un o x) t m n) := dK_plain rfl
@[go_sem] theorem dK_cvi {k : IntKind} {x : Opd} : dK P dst (.cvi k x) r acc ms K t m n = dContK P dst (footF t (.cvi k x)) r acc ms K t m n (aevN (.cvi k x) t m n) := dK_plain rfl
@[go_sem] theorem dK_cvrune {x : Opd} : dK P dst (.cvrune x) r acc ms K t m n = dContK P dst (footF t (.cvrune x)) r acc ms K t m n (aevN (.cvrune x) t m n) := dK_plain rfl
@[go_sem] theorem dK_cvbs {x : Opd} : dK P dst (.cvbs x) r acc ms K t m n = dContK P dst (footF t (.cvbs x)) r acc ms K t m n (aevN (.cvbs x) t m n) := dK_plain rfl
@[go_sem] theorem dK_cvsb {x : Opd} : dK P dst (.cvsb x) r acc ms K t m n = dContK P dst (footF t (.cvsb x)) r acc ms K t m n (aevN (.cvsb x) t m n) := dK_plain rfl
@[go_sem] theorem dK_cvll {x : Opd} : dK P dst (.cvll x) r acc ms K t m n = dContK P dst (footF t (.cvll x)) r acc ms K t m n (aevN (.cvll x) t m n) := dK_plain rfl
@[go_sem] theorem dK_mkfn {f : Nat} {c : List Opd} : dK P dst (.mkfn f c) r acc ms K t m n = dContK P dst (footF t (.mkfn f c)) r acc ms K t m n (aevN (.mkfn f c) t m n) := dK_plain rfl
@[go_sem] theorem dK_mksl {a b : Nat} {z : List AV} {x y : Opd} : dK P dst (.mksl a b z x y) r acc ms K t m n = dContK P dst (footF t (.mksl a b z x y)) r acc ms K t m n (aevN (.mksl a b z x y) t m n) := dK_plain rfl
@[go_sem] theorem dK_slcs {x : Opd} {l h : Option Opd} : dK P dst (.slcs x l h) r acc ms K t m n = dContK P dst (footF t (.slcs x l h)) r acc ms K t m n (aevN (.slcs x l h) t m n) := dK_plain rfl
@[go_sem] theorem dK_slcl {a : Nat} {x : Opd} {l h : Option Opd} : dK P dst (.slcl a x l h) r acc ms K t m n = dContK P dst (footF t (.slcl a x l h)) r acc ms K t m n (aevN (.slcl a x l h) t m n) := dK_plain rfl
@[go_sem] theorem dK_faddr {x : Opd} {o : Nat} : dK P dst (.faddr x o) r acc ms K t m n = dContK P dst (footF t (.faddr x o)) r acc ms K t m n (aevN (.faddr x o) t m n) := dK_plain rfl
@[go_sem] theorem dK_fld {x : Opd} {o : Nat} {k : Option Nat} : dK P dst (.fld x o k) r acc ms K t m n = dContK P dst (footF t (.fld x o k)) r acc ms K t m n (aevN (.fld x o k) t m n) := dK_plain rfl
@[go_sem] theorem dK_iaddr {e : Nat} {k : Option Nat} {x i : Opd} : dK P dst (.iaddr e k x i) r acc ms K t m n = dContK P dst (footF t (.iaddr e k x i)) r acc ms K t m n (aevN (.iaddr e k x i) t m n) := dK_plain rfl
@[go_sem] theorem dK_idxs {x i : Opd} : dK P dst (.idxs x i) r acc ms K t m n = dContK P dst (footF t (.idxs x i)) r acc ms K t m n (aevN (.idxs x i) t m n) := dK_plain rfl
@[go_sem] theorem dK_idxa {a e : Nat} {k : Option Nat} {x i : Opd} : dK P dst (.idxa a e k x i) r acc ms K t m n = dContK P dst (footF t (.idxa a e k x i)) r acc ms K t m n (aevN (.idxa a e k x i) t m n) := dK_plain rfl
@[go_sem] theorem dK_ext {x : Opd} {i : Nat} : dK P dst (.ext x i) r acc ms K t m n = dContK P dst (footF t (.ext x i)) r acc ms K t m n (aevN (.ext x i) t m n) := dK_plain rfl
@[go_sem] theorem dK_lens {x : Opd} : dK P dst (.lens x) r acc ms K t m n = dContK P dst (footF t (.lens x)) r acc ms K t m n (aevN (.lens x) t m n) := dK_plain rfl
@[go_sem] theorem dK_lenl {x : Opd} : dK P dst (.lenl x) r acc ms K t m n = dContK P dst (footF t (.lenl x)) r acc ms K t m n (aevN (.lenl x) t m n) := dK_plain rfl
@[go_sem] theorem dK_minI {x y : Opd} : dK P dst (.minI x y) r acc ms K t m n = dContK P dst (footF t (.minI x y)) r acc ms K t m n (aevN (.minI x y) t m n) := dK_plain rfl
@[go_sem] theorem dK_maxI {x y : Opd} : dK P dst (.maxI x y) r acc ms K t m n = dContK P dst (footF t (.maxI x y)) r acc ms K t m n (aevN (.maxI x y) t m n) := dK_plain rfl
@[go_sem] theorem dK_app {a b : Nat} {x y : Opd} : dK P dst (.app a b x y) r acc ms K t m n = dContK P dst (footF t (.app a b x y)) r acc ms K t m n (aevN (.app a b x y) t m n) := dK_plain rfl
@[go_sem] theorem dContK_some {F : List Nat} {v : AV} {e : Eff} : dContK P dst F r acc ms K t m n (some (v, e)) = runDA P r (⟨keysOf n e, F⟩ :: acc) ms ⟨putF t dst v, e.mem m n, n + 1⟩ K := rfl
@[go_sem] theorem dContK_none {F : List Nat} : dContK P dst F r acc ms K t m n none = False := rfl
@[go_sem] theorem dK_callf {f : Nat} {args : List Opd} : dK P dst (.callf f args) r acc ms K t m n = dCallK P f (args.map (ev t)) dst r acc ms K t m n := rfl
@[go_sem] theorem dK_callv {x : Opd} {args : List Opd} : dK P dst (.callv x args) r acc ms K t m n = dCallvK P (args.map (ev t)) dst r acc ms K t m n (ev t x) := by
  unfold dK
  simp only [dStep]
  generalize ev t x = y
  cases y <;> rfl
@[go_sem] theorem dCallvK_fn {f : Nat} {caps args : List AV} : dCallvK P args dst r acc ms K t m n (.fn f caps) = (goesB P f = true ∧ dCallK P f (args ++ caps) dst r acc ms K t m n) := rfl

theorem dCallK_pure (h : Pure P f args v) (ha : inL (fun _ => none) args = true) (hv : inB (fun _ => none) v = true) (hk : runDA P r (⟨[], []⟩ :: acc) ms ⟨putF t dst v, m, n⟩ K) : dCallK P f args dst r acc ms K t m n := by
  refine ⟨[], [], args, v, [], 0, rfl, (renL_noId _ ha).symm, inL_mono (fun _ h => by cases h) _ ha, trivial, fun _ _ h => by simp [pget] at h, h, ?_⟩
  rw [ren_noId _ hv]
  exact hk

end

attribute [go_sem] footF keysOf idOf

end Go.Jq
