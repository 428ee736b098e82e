/- The abstract layer, part 14: regions in the text's order; calls inside them. -/
import Derived.Test.YtjfghjakpjfgpaaX13
namespace Go.Jq
open Go

/-- A call out of a state: from the arguments' values it comes to a value, a memory and a next number of R. -/
def CallR (P : Program) (f : Nat) (args : List AV) (m : Mem) (n : Nat) (F : Nat → Prop) (R : AV → Mem → Nat → Prop) : Prop :=
  ∀ (c : Ctx) (w : World) (vs : List Value), RelL c w args vs → MR c m w → (∀ id, F id → c.φ id = .free) →
    Calls P f vs.toArray w fun e w' => ∃ v r m' n' c', e = .returned v ∧ R r m' n' ∧ Rel c' w' r v ∧ MR c' m' w' ∧ Step (Own c m) c c' w w' ∧
      (∀ b, Own c' m' b → Own c m b ∨ w.heap.size ≤ b) ∧ (∀ id, ¬ (n ≤ id ∧ id < n') → c'.φ id = c.φ id) ∧ (∀ id, ¬ (n ≤ id ∧ id < n') → (mget m' id).isSome → (mget m id).isSome) ∧ n ≤ n'

theorem CallR.mono {P : Program} {f : Nat} {args : List AV} {m : Mem} {n : Nat} {F : Nat → Prop} {R R' : AV → Mem → Nat → Prop} (h : CallR P f args m n F R) (hq : ∀ r m' n', R r m' n' → R' r m' n') : CallR P f args m n F R' :=
  fun c w vs h1 h2 h3 => (h c w vs h1 h2 h3).mono fun _ _ ⟨v, r, m', n', c', a1, a2, a3⟩ => ⟨v, r, m', n', c', a1, hq r m' n' a2, a3⟩

def putF (t : Fr) : Option Nat → AV → Fr
  | some d, v => (d, v) :: t
  | none, _ => t

/-- One operation. -/
def stepOp (P : Program) (o : AOper) (S : St) (K : St → Prop) : Prop :=
  match o.op with
  | .callf f args => ∃ R, CallR P f (args.map (ev S.t)) S.m S.n (S.n ≤ ·) R ∧ ∀ r m n, R r m n → K ⟨putF S.t o.dst r, m, n⟩
  | .callv x args => match ev S.t x with
    | .fn f caps => goesB P f = true ∧ ∃ R, CallR P f (args.map (ev S.t) ++ caps) S.m S.n (S.n ≤ ·) R ∧ ∀ r m n, R r m n → K ⟨putF S.t o.dst r, m, n⟩
    | _ => False
  | op => match aevN op S.t S.m S.n with
    | some (v, e) => K ⟨putF S.t o.dst v, e.mem S.m S.n, e.next S.n⟩
    | none => False

/-- A region's operations, in the text's order. -/
def runOps (P : Program) : List AOper → St → (St → Prop) → Prop
  | [], S, K => K S
  | o :: r, S, K => match o.guard with
    | none => stepOp P o S fun S' => runOps P r S' K
    | some (g, want) => match fget S.t g with
      | .d (.bool b) => if b = want then stepOp P o S fun S' => runOps P r S' K else runOps P r ⟨putF S.t o.dst .any, S.m, S.n⟩ K
      | _ => False

section
variable {P : Program} {E : Env} {k : Nat} {S : St} {a : Act} {w : World}

theorem fr_put {c : Ctx} {t : Fr} {tmps : Array Value} {d : Nat} {x : AV} {v : Value} (hF : FR c w t tmps) (hd : d < tmps.size) (hx : Rel c w x v) :
    FR c w ((d, x) :: t) (tmps.setIfInBounds d v) := by
  intro i
  simp only [fget]
  split
  · rename_i e
    subst e
    rw [Array.getD_eq_getD_getElem?, Array.getElem?_setIfInBounds_self_of_lt hd]
    exact hx
  · rename_i e
    rw [Array.getD_eq_getD_getElem?, Array.getElem?_setIfInBounds_ne e, ← Array.getD_eq_getD_getElem?]
    exact hF i

theorem conc_put {S' : St} {dst : Option Nat} {v : AV} {u : Value} {w' : World} {m' : Mem} {n' : Nat} {c c' : Ctx} (hcr : CR c k S a w) (hp : Prov E c S.m w) (hEn : E.n ≤ S.n)
    (hd : ∀ d, dst = some d → d < k) (hr : Rel c' w' v u ∨ v = .any) (hM : MR c' m' w') (hs : Step (Own c S.m) c c' w w') (ho : ∀ b, Own c' m' b → Own c S.m b ∨ w.heap.size ≤ b)
    (hφ : ∀ id, id < S.n → c'.φ id = c.φ id) (hmk : ∀ id, id < S.n → (mget m' id).isSome → (mget S.m id).isSome) (hf : ∀ id, n' ≤ id → c'.φ id = .free)
    (hS : S' = ⟨putF S.t dst v, m', n'⟩) : Conc E k S' (a.put dst u) w' := by
  subst hS
  have hext : ∀ id, c.φ id ≠ .free → c'.φ id = c.φ id := fun id hid => hφ id (by
    rcases Nat.lt_or_ge id S.n with h | h
    · exact h
    · exact absurd (hcr.free id h) hid)
  have hl := hs.later hcr.mr hext
  have hF' : FR c' w' S.t a.tmps := fun i => rel_mono hl _ _ (hcr.fr i)
  refine ⟨c', ⟨?_, ?_, ?_, hM, hf⟩, hp.next hs ho fun id hid hm => ?_⟩
  · cases dst <;> exact hcr.defers
  · cases dst with
    | none => exact hcr.size
    | some d => simp only [Act.put, Array.size_setIfInBounds]; exact hcr.size
  · cases dst with
    | none => exact hF'
    | some d =>
      simp only [putF, Act.put]
      refine fr_put hF' (by rw [hcr.size]; exact hd d rfl) ?_
      rcases hr with h | rfl
      · exact h
      · simp [Rel]
  · have : id < S.n := Nat.lt_of_lt_of_le hid hEn
    exact ⟨hmk id this hm, hφ id this⟩

theorem mget_eff {e : Eff} {m : Mem} {n id : Nat} (h : id < n) (hm : (mget (e.mem m n) id).isSome) (he : ∀ i cs, e = .put i cs → (mget m i).isSome) : (mget m id).isSome := by
  cases e with
  | nil => exact hm
  | new cs => simp only [Eff.mem, mget_mset] at hm; rw [if_neg (by omega)] at hm; exact hm
  | put i cs =>
    simp only [Eff.mem, mget_mset] at hm
    split at hm
    · rename_i e; subst e; exact he i cs rfl
    · exact hm
  | mov i cs =>
    simp only [Eff.mem, mget_mset, mget_mdel] at hm
    rw [if_neg (by omega)] at hm
    split at hm
    · simp at hm
    · exact hm

theorem aevN_put {o : AOp} {t : Fr} {m : Mem} {n : Nat} {v : AV} {i : Nat} {cs : List AV} (h : aevN o t m n = some (v, .put i cs)) : (mget m i).isSome := by
  have key : ∀ (o : AOp) (r : Option (AV × Eff)), aevN o t m n = r → ∀ v i cs, r = some (v, .put i cs) → (mget m i).isSome := by
    intro o r hr v i cs hv
    subst hr
    cases o <;> simp only [aevN] at hv
    case store k a x =>
      split at hv
      · split at hv
        · rename_i hm
          split at hv
          · cases hv; rw [hm]; rfl
          · cases hv
        · cases hv
      · cases hv
    all_goals
      (repeat' split at hv) <;> simp_all
  exact key o _ rfl v i cs h

/-! ### One operation's wp -/

theorem run_callFunc {f : Nat} {args : Array Value} (h : goesB P f = true) (w : World) : (callFunc f args).run P w = .ok (.enter f args) w := by
  unfold goesB at h
  split at h
  · rename_i fn hfn
    simp only [Bool.and_eq_true, bne_iff_ne, ne_eq] at h
    have hb : fn.body.isNone = false := by
      cases hb : fn.body <;> simp_all
    simp only [callFunc, Sem.run_bind, run_program, Result.andThen_ok, hfn]
    rw [if_neg (by simpa using h.2)]
    simp only [hb, Bool.false_eq_true, if_false, Sem.run_pure]
  · cases h

def isCall : AOp → Bool
  | .callf _ _ => true
  | .callv _ _ => true
  | _ => false

theorem cBuiltin_call {b : Builtin} {ts : Array TypeId} {args : Array Operand} {ao : AOp} (h : cBuiltin P b ts args = some ao) : isCall ao = false := by
  unfold cBuiltin at h
  repeat' split at h
  all_goals first
    | (cases h; done)
    | (cases h; rfl)

theorem cOp_call {op : Op} {ao : AOp} (h : cOp P op = some ao) (hc : isCall ao = true) : ∃ callee args ts, op = .call ⟨callee, args, ts⟩ ∧
    ((∃ f, callee = .value (.func f) ∧ goesB P f = true ∧ ao = .callf f (args.toList.map cOpd)) ∨ (∃ x, callee = .value x ∧ ao = .callv (cOpd x) (args.toList.map cOpd))) := by
  have no : isCall ao = false → ∃ callee args ts, op = .call ⟨callee, args, ts⟩ ∧
    ((∃ f, callee = .value (.func f) ∧ goesB P f = true ∧ ao = .callf f (args.toList.map cOpd)) ∨ (∃ x, callee = .value x ∧ ao = .callv (cOpd x) (args.toList.map cOpd))) := fun h => by rw [h] at hc; cases hc
  have mapNo : ∀ {α : Type} {o : Option α} {f : α → AOp}, o.map f = some ao → (∀ x, isCall (f x) = false) → isCall ao = false := by
    intro α o f h hf
    rw [Option.map_eq_some_iff] at h
    obtain ⟨x, _, rfl⟩ := h
    exact hf x
  cases op with
  | call cl =>
    obtain ⟨callee, args, ts⟩ := cl
    refine ⟨callee, args, ts, rfl, ?_⟩
    cases callee with
    | builtin b => have := cBuiltin_call h; rw [this] at hc; cases hc
    | value x =>
      cases x with
      | func f =>
        simp only [cOp] at h
        split at h
        · rename_i hg; cases h; exact .inl ⟨f, rfl, hg, rfl⟩
        · cases h
      | tmp i => simp only [cOp, Option.some.injEq] at h; exact .inr ⟨_, rfl, h.symm⟩
      | const i => simp only [cOp, Option.some.injEq] at h; exact .inr ⟨_, rfl, h.symm⟩
      | global i => simp only [cOp, Option.some.injEq] at h; exact .inr ⟨_, rfl, h.symm⟩
    | invoke r mth => simp only [cOp] at h; cases h
  | makeFunc fn first caps =>
    refine no ?_
    cases fn with
    | func f =>
      simp only [cOp] at h
      split at h <;> cases h
      rfl
    | _ => simp [cOp] at h
  | slice T x lo hi mx =>
    refine no ?_
    cases mx with
    | none =>
      simp only [cOp] at h
      repeat' split at h
      all_goals first
        | (cases h; done)
        | (cases h; rfl)
    | some q => simp [cOp] at h
  | go cl => have h0 : cOp P (.go cl) = none := rfl; rw [h0] at h; cases h
  | defer cl => have h0 : cOp P (.defer cl) = none := rfl; rw [h0] at h; cases h
  | _ =>
    refine no ?_
    simp only [cOp, reduceCtorEq] at h
    try (repeat' split at h)
    all_goals first
      | (cases h; done)
      | (cases h; rfl)
      | exact mapNo h fun _ => rfl

theorem wp_step {o : Oper} {ao : AOper} {ops : Array Oper} {Q : Exit → Act → World → Prop} {K : St → Prop} {Kw : Act → World → Prop} (hco : cOper P ops k o = some ao) (hEn : E.n ≤ S.n)
    (hK : ∀ S' a' w', K S' → Conc E k S' a' w' → S.n ≤ S'.n → Kw a' w') (hc : Conc E k S a w) (h : stepOp P ao S K) : o.wp P a w Kw Q := by
  unfold cOper at hco
  split at hco
  · rename_i aop g hop hg
    split at hco
    · rename_i hdst
      cases hco
      have hd : ∀ d, o.dst = some d → d < k := fun d hd => by rw [hd] at hdst; simpa [dstOk] using hdst
      obtain ⟨c, hcr, hp⟩ := hc
      have plain : ∀ v e, aevN aop S.t S.m S.n = some (v, e) → K ⟨putF S.t o.dst v, e.mem S.m S.n, e.next S.n⟩ → o.wp P a w Kw Q := by
        intro v e he hk
        obtain ⟨r, w', c', hrun, hr, hM, hs, hφ, ho⟩ := aevN_sound (o := o) hop hcr.fr hcr.mr (hcr.free S.n (Nat.le_refl _)) he
        have hle : S.n ≤ e.next S.n := by cases e <;> simp [Eff.next]
        have hfr : ∀ id, e.next S.n ≤ id → c'.φ id = .free := by
          intro id hid
          by_cases hid' : id = S.n
          · subst hid'
            rw [hφ S.n (.inr (Nat.le_antisymm hid hle))]
            exact hcr.free _ (Nat.le_refl _)
          · rw [hφ id (.inl hid')]; exact hcr.free id (Nat.le_trans hle hid)
        have hconc : ∀ u, (Rel c' w' v u ∨ v = .any) → Conc E k ⟨putF S.t o.dst v, e.mem S.m S.n, e.next S.n⟩ (a.put o.dst u) w' := fun u hru =>
          conc_put hcr hp hEn hd hru hM hs ho (fun id hid => hφ id (.inl (Nat.ne_of_lt hid))) (fun id hid hm => mget_eff hid hm fun i cs he' => aevN_put (he' ▸ he)) hfr rfl
        unfold Oper.wp
        rw [hrun]
        rcases hr with ⟨u, rfl, hru⟩ | ⟨rfl, hv⟩
        · exact hK _ _ _ hk (hconc u (.inl hru)) hle
        · exact hK _ _ _ hk (hconc undef (.inr hv)) hle
      have enter : ∀ (f : Nat) (args : List AV) (vs : List Value) (R : AV → Mem → Nat → Prop), CallR P f args S.m S.n (S.n ≤ ·) R → (∀ r m n, R r m n → K ⟨putF S.t o.dst r, m, n⟩) → RelL c w args vs →
          (execOp a.eval o).run P w = .ok (.enter f vs.toArray) w → o.wp P a w Kw Q := by
        intro f args vs R hR hk hrl hrun
        unfold Oper.wp
        rw [hrun]
        rw [Oper.upon_enter]
        refine (hR c w vs hrl hcr.mr hcr.free).mono ?_
        rintro e' w' ⟨v, r, m', n', c', rfl, hr, hru, hM, hs, ho, hφ, hmk, hnn⟩
        exact hK _ _ _ (hk r m' n' hr) (conc_put hcr hp hEn hd (.inl hru) hM hs ho (fun id hid => hφ id (by omega)) (fun id hid => hmk id (by omega)) (fun id hid => (hφ id (by omega)).trans (hcr.free id (by omega))) rfl) hnn
      obtain ⟨dst, op, ty, pos, after, guard⟩ := o
      simp only at hop
      unfold stepOp at h
      split at h
      · -- a function called by its name
        rename_i f args hao
        simp only at hao
        subst hao
        obtain ⟨R, hR, hk⟩ := h
        obtain ⟨callee, cargs, ts, rfl, hcl | hcl⟩ := cOp_call hop rfl
        · obtain ⟨f', rfl, hg', he⟩ := hcl
          cases he
          refine enter f _ _ R hR hk (relL_ev hcr.fr cargs.toList) ?_
          have h1 : (execOp a.eval ⟨dst, .call ⟨.value (.func f), cargs, ts⟩, ty, pos, after, guard⟩).run P w = (callFunc f ((#[] ++ cargs.map a.eval) ++ #[])).run P w := rfl
          rw [h1, run_callFunc hg' w]
          congr 2
          apply Array.ext'
          simp
        · obtain ⟨y, _, he⟩ := hcl
          cases he
      · rename_i x args hao
        simp only at hao
        subst hao
        split at h
        · rename_i f caps hev
          obtain ⟨hg', R, hR, hk⟩ := h
          obtain ⟨callee, cargs, ts, rfl, hcl | hcl⟩ := cOp_call hop rfl
          · obtain ⟨y, _, _, he⟩ := hcl
            cases he
          · obtain ⟨y, rfl, he⟩ := hcl
            cases he
            have hx := rel_ev (w := w) hcr.fr y
            rw [hev] at hx
            obtain ⟨us, hu, hru⟩ := rel_fn hx
            refine enter f _ _ R hR hk ((relL_ev hcr.fr cargs.toList).append hru) ?_
            have h1 : (execOp a.eval ⟨dst, .call ⟨.value y, cargs, ts⟩, ty, pos, after, guard⟩).run P w = ((Deferred.ofValue (a.eval y) (cargs.map a.eval)) >>= fun d => invoke d.target d.args).run P w := rfl
            rw [h1, hu]
            have h2 : ((Deferred.ofValue (.func (.func f) #[] us.toArray) (cargs.map a.eval)) >>= fun d => invoke d.target d.args).run P w = (callFunc f ((#[] ++ cargs.map a.eval) ++ us.toArray)).run P w := rfl
            rw [h2, run_callFunc hg' w]
            congr 2
            apply Array.ext'
            simp
        · exact h.elim
      · split at h
        · rename_i v e he
          exact plain v e he h
        · exact h.elim
    · cases hco
  · cases hco

end
end Go.Jq
