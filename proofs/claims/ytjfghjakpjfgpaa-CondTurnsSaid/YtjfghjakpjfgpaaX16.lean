/- The abstract layer, part 16: a function's code with its types resolved. -/
import Derived.Test.YtjfghjakpjfgpaaX15
namespace Go.Jq
open Go

/-- masks: of a region that draws its order: for each operation, as a number's bits, which operations it waits for by an edge of its own. -/
inductive ACode where
  | skip
  | region (draw : Bool) (ops : List AOper) (masks : List Nat)
  | seq (a b : ACode)
  | cond (c : Opd) (thn els : ACode)
  | block (id : Nat) (body : ACode)
  | loop (body : ACode)
  | exit (id : Nat)
  | ret

def masksOf (ops : Array Oper) : List Nat :=
  ops.toList.map fun o => o.after.toList.foldl (fun s e => if Region.binds .any e then s ||| 2 ^ e.on else s) 0

def Opd.slots : Opd → List Nat
  | .t i => [i]
  | .c _ => []

def optSlots : Option Opd → List Nat
  | some x => x.slots
  | none => []

/-- The slots that an operation reads. -/
def AOp.slots : AOp → List Nat
  | .mv x => x.slots
  | .pick c a b => c.slots ++ a.slots ++ b.slots
  | .alloc _ => []
  | .box x => x.slots
  | .build _ ps => ps.flatMap fun p => p.2.2.slots
  | .bslice _ _ _ ps => ps.flatMap fun p => p.2.2.slots
  | .load _ x => x.slots
  | .store _ a v => a.slots ++ v.slots
  | .nilck x => x.slots
  | .bin _ x y => x.slots ++ y.slots
  | .eqb _ x y => x.slots ++ y.slots
  | .eqp _ x y => x.slots ++ y.slots
  | .eqf _ x y => x.slots ++ y.slots
  | .eqs _ _ x y => x.slots ++ y.slots
  | .un _ x => x.slots
  | .cvi _ x => x.slots
  | .cvrune x => x.slots
  | .cvbs x => x.slots
  | .cvsb x => x.slots
  | .cvll x => x.slots
  | .mkfn _ cs => cs.flatMap Opd.slots
  | .mksl _ _ _ l c => l.slots ++ c.slots
  | .slcs x l h => x.slots ++ optSlots l ++ optSlots h
  | .slcl _ x l h => x.slots ++ optSlots l ++ optSlots h
  | .faddr x _ => x.slots
  | .fld x _ _ => x.slots
  | .iaddr _ _ x i => x.slots ++ i.slots
  | .idxs x i => x.slots ++ i.slots
  | .idxa _ _ _ x i => x.slots ++ i.slots
  | .ext x _ => x.slots
  | .lens x => x.slots
  | .lenl x => x.slots
  | .minI x y => x.slots ++ y.slots
  | .maxI x y => x.slots ++ y.slots
  | .app _ _ x y => x.slots ++ y.slots
  | .callf _ as => as.flatMap Opd.slots
  | .callv x as => x.slots ++ as.flatMap Opd.slots

def slotsB (ops : Array Oper) : List Oper → List AOper → Bool
  | o :: r, a :: s => a.op.slots.all (fun i => (o.looksAt ops).contains i) && slotsB ops r s
  | [], [] => true
  | _, _ => false

def cCode (P : Program) (k : Nat) : Code → Option ACode
  | .skip => some .skip
  | .region _ ops draw => match cOpers P ops k ops.toList with
    | some al => if draw then (if Region.lexB .any ops && slotsB ops ops.toList al then some (.region true al (masksOf ops)) else none) else some (.region false al [])
    | none => none
  | .seq a b => match cCode P k a, cCode P k b with
    | some a', some b' => some (.seq a' b')
    | _, _ => none
  | .cond c a b => match cCode P k a, cCode P k b with
    | some a', some b' => some (.cond (cOpd c) a' b')
    | _, _ => none
  | .block id b => (cCode P k b).map (.block id)
  | .loop b => (cCode P k b).map .loop
  | .exit id => some (.exit id)
  | .ret => some .ret
  | _ => none

/-- Code that is so resolved, from a state, comes to an exit and a state of Q. -/
def BWP (P : Program) (n0 k : Nat) (c : ACode) (S : St) (Q : Exit → St → Prop) : Prop :=
  ∀ code, cCode P k code = some c → AWP P n0 k code S Q

section
variable {P : Program} {n0 k : Nat} {S : St} {Q : Exit → St → Prop}

theorem bwp_mono {c : ACode} {Q' : Exit → St → Prop} (h : BWP P n0 k c S Q) (hq : ∀ e S, Q e S → Q' e S) : BWP P n0 k c S Q' := fun code hc => awp_mono (h code hc) hq

theorem bwp_ent {c : ACode} {S' : St} (π : Ren) (he : Ent n0 π S S') (h : BWP P n0 k c S' Q) : BWP P n0 k c S Q := fun code hc => awp_ent he (h code hc)

theorem bwp_leads {c : ACode} {S' : St} (he : Leads n0 k S S') (h : BWP P n0 k c S' Q) : BWP P n0 k c S Q := fun code hc => awp_leads he (h code hc)

theorem cCode_skip {code : Code} (h : cCode P k code = some .skip) : code = .skip := by
  cases code with
  | skip => rfl
  | region id ops draw => simp only [cCode] at h; repeat' split at h
                          all_goals cases h
  | seq a b => simp only [cCode] at h; repeat' split at h
               all_goals cases h
  | cond c a b => simp only [cCode] at h; repeat' split at h
                  all_goals cases h
  | block id b => simp [cCode] at h
  | loop b => simp [cCode] at h
  | _ => simp [cCode] at h

theorem bwp_skip (h : Q .normal S) : BWP P n0 k .skip S Q := fun _ hc => by rw [cCode_skip hc]; exact awp_skip h

theorem bwp_exit {id : Nat} (h : Q (.exit id) S) : BWP P n0 k (.exit id) S Q := by
  intro code hc
  cases code with
  | exit id' => simp only [cCode, Option.some.injEq, ACode.exit.injEq] at hc; subst hc; exact awp_exit h
  | region id ops draw => simp only [cCode] at hc; repeat' split at hc
                          all_goals cases hc
  | seq a b => simp only [cCode] at hc; repeat' split at hc
               all_goals cases hc
  | cond c a b => simp only [cCode] at hc; repeat' split at hc
                  all_goals cases hc
  | _ => simp [cCode] at hc

theorem bwp_ret (h : Q .ret S) : BWP P n0 k .ret S Q := by
  intro code hc
  cases code with
  | ret => exact awp_ret h
  | region id ops draw => simp only [cCode] at hc; repeat' split at hc
                          all_goals cases hc
  | seq a b => simp only [cCode] at hc; repeat' split at hc
               all_goals cases hc
  | cond c a b => simp only [cCode] at hc; repeat' split at hc
                  all_goals cases hc
  | _ => simp [cCode] at hc

theorem bwp_seq {x y : ACode} (h : ∀ K : St → Prop, (∀ S', BWP P n0 k y S' Q → K S') → BWP P n0 k x S (Exit.thenA K Q)) : BWP P n0 k (.seq x y) S Q := by
  intro code hc
  cases code with
  | seq a b =>
    simp only [cCode] at hc
    split at hc
    · rename_i a' b' h1 h2
      cases hc
      exact awp_seq (h (fun S' => AWP P n0 k b S' Q) (fun S' hb => hb b h2) a h1)
    · cases hc
  | region id ops draw => simp only [cCode] at hc; repeat' split at hc
                          all_goals cases hc
  | cond c a b => simp only [cCode] at hc; repeat' split at hc
                  all_goals cases hc
  | _ => simp [cCode] at hc

theorem bwp_cond {c : Opd} {x y : ACode} (b : Bool) (hc : ev S.t c = .d (.bool b)) (ht : b = true → BWP P n0 k x S Q) (hf : b = false → BWP P n0 k y S Q) : BWP P n0 k (.cond c x y) S Q := by
  intro code hcc
  cases code with
  | cond c' a' b' =>
    simp only [cCode] at hcc
    split at hcc
    · rename_i x' y' h1 h2
      cases hcc
      exact awp_cond hc (fun h => ht h a' h1) (fun h => hf h b' h2)
    · cases hcc
  | seq a b => simp only [cCode] at hcc; repeat' split at hcc
               all_goals cases hcc
  | region id ops draw => simp only [cCode] at hcc; repeat' split at hcc
                          all_goals cases hcc
  | _ => simp [cCode] at hcc

theorem bwp_block {id : Nat} {b : ACode} (h : BWP P n0 k b S (Exit.inBlockA id Q)) : BWP P n0 k (.block id b) S Q := by
  intro code hc
  cases code with
  | block id' b' =>
    simp only [cCode, Option.map_eq_some_iff] at hc
    obtain ⟨b'', h1, h2⟩ := hc
    cases h2
    exact awp_block (h b' h1)
  | cond c a b => simp only [cCode] at hc; repeat' split at hc
                  all_goals cases hc
  | seq a b => simp only [cCode] at hc; repeat' split at hc
               all_goals cases hc
  | region id ops draw => simp only [cCode] at hc; repeat' split at hc
                          all_goals cases hc
  | _ => simp [cCode] at hc

theorem bwp_loop {b : ACode} (I : St → Prop) (μ : St → Nat) (h0 : I S)
    (round : ∀ S, I S → BWP P n0 k b S (Exit.thenA (fun S' => ∃ S'', Leads n0 k S' S'' ∧ I S'' ∧ μ S'' < μ S) Q)) : BWP P n0 k (.loop b) S Q := by
  intro code hc
  cases code with
  | loop b' =>
    simp only [cCode, Option.map_eq_some_iff] at hc
    obtain ⟨b'', h1, h2⟩ := hc
    cases h2
    exact awp_loop I μ h0 fun S hI => round S hI b' h1
  | cond c a b => simp only [cCode] at hc; repeat' split at hc
                  all_goals cases hc
  | seq a b => simp only [cCode] at hc; repeat' split at hc
               all_goals cases hc
  | region id ops draw => simp only [cCode] at hc; repeat' split at hc
                          all_goals cases hc
  | _ => simp [cCode] at hc

theorem bwp_region {al : List AOper} {pr : List Nat} (hn : decide (n0 ≤ S.n) = true) (h : runOps P al S (fun S' => Q .normal S')) : BWP P n0 k (.region false al pr) S Q := by
  intro code hc
  cases code with
  | region id ops draw =>
    simp only [cCode] at hc
    split at hc
    · rename_i al' hal
      split at hc
      · split at hc <;> cases hc
      · rename_i hd
        cases hc
        have : draw = false := by simpa using hd
        subst this
        exact awp_region hal (of_decide_eq_true hn) h
    · cases hc
  | cond c a b => simp only [cCode] at hc; repeat' split at hc
                  all_goals cases hc
  | seq a b => simp only [cCode] at hc; repeat' split at hc
               all_goals cases hc
  | _ => simp [cCode] at hc

end

/-- A function: its code resolved. -/
theorem acalls_of {P : Program} {f : Nat} {fn : Func} {c : ACode} {args : List AV} {m : Mem} {Q : AV → Mem → Prop} {k : Nat} {rs : Array ResultVar} (hf : P.funcs[f]? = some fn)
    (hc : fn.body.bind (cCode P fn.ntmps) = some c) (hk : fn.ntmps = k) (hrs : fn.results = rs)
    (hn : decide (args.length ≤ k) = true) (h : BWP P (mbound m) k c ⟨frm 0 args, m, mbound m⟩ (AEnd P rs (mbound m) Q)) : ACalls P f args m Q := by
  subst hk hrs
  rw [Option.bind_eq_some_iff] at hc
  obtain ⟨code, h1, h2⟩ := hc
  exact acalls_of_awp hf h1 (of_decide_eq_true hn) (h code h2)

end Go.Jq
