/- The abstract layer: regions, calls, the code resolved. -/
import Derived.Test.YtpfbljkfbjjlkaaDoorXC
/-! The abstract layer, part 14: regions in the text's order; calls inside them. -/
namespace Go.Jq
open Go

/-- A call out of a state: from the arguments' values it comes to a value, a memory and a next number of R. -/
def CallR (P : Program) (f : Nat) (args : List AV) (m : Mem) (n : Nat) (F : Nat → Prop) (R : AV → Mem → Nat → Prop) : Prop :=
  ∀ (c : Ctx) (w : World) (vs : List Value), RelL c w args vs → MR c m w → (∀ id, F id → c.φ id = .free) →
    Calls P f vs.toArray w fun e w' => ∃ v r m' n' c', e = .returned v ∧ R r m' n' ∧ Rel c' w' r v ∧ MR c' m' w' ∧ Step (Own c m) c c' w w' ∧
      (∀ b, Own c' m' b → Own c m b ∨ w.heap.size ≤ b) ∧ (∀ id, ¬ (n ≤ id ∧ id < n') → c'.φ id = c.φ id) ∧ (∀ id, ¬ (n ≤ id ∧ id < n') → (mget m' id).isSome → (mget m id).isSome) ∧ n ≤ n'

theorem CallR.mono {P : Program} {f : Nat} {args : List AV} {m : Mem} {n : Nat} {F : Nat → Prop} {R R' : AV → Mem → Nat → Prop} (h : CallR P f args m n F R) (hq : ∀ r m' n', R r m' n' → R' r m' n') : CallR P f args m n F R' :=
  fun c w vs h1 h2 h3 => (h c w vs h1 h2 h3).mono fun _ _ ⟨v, r, m', n', c', a1, a2, a3⟩ => ⟨v, r, m', n', c', a1, hq r m' n' a2, a3⟩

def putF (t : Fr) : Option Nat → AV → Fr
  | some d, v => (d, v) :: t
  | none, _ => t

/-- One operation. -/
def stepOp (P : Program) (o : AOper) (S : St) (K : St → Prop) : Prop :=
  match o.op with
  | .callf f args => ∃ R, CallR P f (args.map (ev S.t)) S.m S.n (S.n ≤ ·) R ∧ ∀ r m n, R r m n → K ⟨putF S.t o.dst r, m, n⟩
  | .callv x args => match ev S.t x with
    | .fn f caps => goesB P f = true ∧ ∃ R, CallR P f (args.map (ev S.t) ++ caps) S.m S.n (S.n ≤ ·) R ∧ ∀ r m n, R r m n → K ⟨putF S.t o.dst r, m, n⟩
    | _ => False
  | op => match aevN op S.t S.m S.n with
    | some (v, e) => K ⟨putF S.t o.dst v, e.mem S.m S.n, e.next S.n⟩
    | none => False

/-- A region's operations, in the text's order. -/
def runOps (P : Program) : List AOper → St → (St → Prop) → Prop
  | [], S, K => K S
  | o :: r, S, K => match o.guard with
    | none => stepOp P o S fun S' => runOps P r S' K
    | some (g, want) => match fget S.t g with
      | .d (.bool b) => if b = want then stepOp P o S fun S' => runOps P r S' K else runOps P r ⟨putF S.t o.dst (.tup []), S.m, S.n⟩ K
      | .tup _ => runOps P r ⟨putF S.t o.dst (.tup []), S.m, S.n⟩ K
      | _ => False

section
variable {P : Program} {E : Env} {k : Nat} {S : St} {a : Act} {w : World}

theorem fr_put {c : Ctx} {t : Fr} {tmps : Array Value} {d : Nat} {x : AV} {v : Value} (hF : FR c w t tmps) (hd : d < tmps.size) (hx : Rel c w x v) :
    FR c w ((d, x) :: t) (tmps.setIfInBounds d v) := by
  intro i
  simp only [fget]
  split
  · rename_i e
    subst e
    rw [Array.getD_eq_getD_getElem?, Array.getElem?_setIfInBounds_self_of_lt hd]
    exact hx
  · rename_i e
    rw [Array.getD_eq_getD_getElem?, Array.getElem?_setIfInBounds_ne e, ← Array.getD_eq_getD_getElem?]
    exact hF i

theorem conc_put {S' : St} {dst : Option Nat} {v : AV} {u : Value} {w' : World} {m' : Mem} {n' : Nat} {c c' : Ctx} (hcr : CR c k S a w) (hp : Prov E c S.m w) (hEn : E.n ≤ S.n)
    (hd : ∀ d, dst = some d → d < k) (hr : Rel c' w' v u ∨ v = .any) (hM : MR c' m' w') (hs : Step (Own c S.m) c c' w w') (ho : ∀ b, Own c' m' b → Own c S.m b ∨ w.heap.size ≤ b)
    (hφ : ∀ id, id < S.n → c'.φ id = c.φ id) (hmk : ∀ id, id < S.n → (mget m' id).isSome → (mget S.m id).isSome) (hf : ∀ id, n' ≤ id → c'.φ id = .free)
    (hS : S' = ⟨putF S.t dst v, m', n'⟩) : Conc E k S' (a.put dst u) w' := by
  subst hS
  have hext : ∀ id, c.φ id ≠ .free → c'.φ id = c.φ id := fun id hid => hφ id (by
    rcases Nat.lt_or_ge id S.n with h | h
    · exact h
    · exact absurd (hcr.free id h) hid)
  have hl := hs.later hcr.mr hext
  have hF' : FR c' w' S.t a.tmps := fun i => rel_mono hl _ _ (hcr.fr i)
  refine ⟨c', ⟨?_, ?_, ?_, hM, hf⟩, hp.next hs ho fun id hid hm => ?_⟩
  · cases dst <;> exact hcr.defers
  · cases dst with
    | none => exact hcr.size
    | some d => simp only [Act.put, Array.size_setIfInBounds]; exact hcr.size
  · cases dst with
    | none => exact hF'
    | some d =>
      simp only [putF, Act.put]
      refine fr_put hF' (by rw [hcr.size]; exact hd d rfl) ?_
      rcases hr with h | rfl
      · exact h
      · simp [Rel]
  · have : id < S.n := Nat.lt_of_lt_of_le hid hEn
    exact ⟨hmk id this hm, hφ id this⟩

theorem mget_eff {e : Eff} {m : Mem} {n id : Nat} (h : id < n) (hm : (mget (e.mem m n) id).isSome) (he : ∀ i cs, e = .put i cs → (mget m i).isSome) : (mget m id).isSome := by
  cases e with
  | nil => exact hm
  | new cs => simp only [Eff.mem, mget_mset] at hm; rw [if_neg (by omega)] at hm; exact hm
  | put i cs =>
    simp only [Eff.mem, mget_mset] at hm
    split at hm
    · rename_i e; subst e; exact he i cs rfl
    · exact hm
  | mov i cs =>
    simp only [Eff.mem, mget_mset, mget_mdel] at hm
    rw [if_neg (by omega)] at hm
    split at hm
    · simp at hm
    · exact hm

theorem aevN_put {o : AOp} {t : Fr} {m : Mem} {n : Nat} {v : AV} {i : Nat} {cs : List AV} (h : aevN o t m n = some (v, .put i cs)) : (mget m i).isSome := by
  have key : ∀ (o : AOp) (r : Option (AV × Eff)), aevN o t m n = r → ∀ v i cs, r = some (v, .put i cs) → (mget m i).isSome := by
    intro o r hr v i cs hv
    subst hr
    cases o <;> simp only [aevN] at hv
    case store k a x =>
      split at hv
      · split at hv
        · rename_i hm
          split at hv
          · cases hv; rw [hm]; rfl
          · cases hv
        · cases hv
      · cases hv
    all_goals
      (repeat' split at hv) <;> simp_all
  exact key o _ rfl v i cs h

/-! ### One operation's wp -/

theorem run_callFunc {f : Nat} {args : Array Value} (h : goesB P f = true) (w : World) : (callFunc f args).run P w = .ok (.enter f args) w := by
  unfold goesB at h
  split at h
  · rename_i fn hfn
    simp only [Bool.and_eq_true, bne_iff_ne, ne_eq] at h
    have hb : fn.body.isNone = false := by
      cases hb : fn.body <;> simp_all
    simp only [callFunc, Sem.run_bind, run_program, Result.andThen_ok, hfn]
    rw [if_neg (by simpa using h.2)]
    simp only [hb, Bool.false_eq_true, if_false, Sem.run_pure]
  · cases h

def isCall : AOp → Bool
  | .callf _ _ => true
  | .callv _ _ => true
  | _ => false

theorem cBuiltin_call {b : Builtin} {ts : Array TypeId} {args : Array Operand} {ao : AOp} (h : cBuiltin P b ts args = some ao) : isCall ao = false := by
  unfold cBuiltin at h
  repeat' split at h
  all_goals first
    | (cases h; done)
    | (cases h; rfl)

theorem cOp_call {op : Op} {ao : AOp} (h : cOp P op = some ao) (hc : isCall ao = true) : ∃ callee args ts, op = .call ⟨callee, args, ts⟩ ∧
    ((∃ f, callee = .value (.func f) ∧ goesB P f = true ∧ ao = .callf f (args.toList.map cOpd)) ∨ (∃ x, callee = .value x ∧ ao = .callv (cOpd x) (args.toList.map cOpd))) := by
  have no : isCall ao = false → ∃ callee args ts, op = .call ⟨callee, args, ts⟩ ∧
    ((∃ f, callee = .value (.func f) ∧ goesB P f = true ∧ ao = .callf f (args.toList.map cOpd)) ∨ (∃ x, callee = .value x ∧ ao = .callv (cOpd x) (args.toList.map cOpd))) := fun h => by rw [h] at hc; cases hc
  have mapNo : ∀ {α : Type} {o : Option α} {f : α → AOp}, o.map f = some ao → (∀ x, isCall (f x) = false) → isCall ao = false := by
    intro α o f h hf
    rw [Option.map_eq_some_iff] at h
    obtain ⟨x, _, rfl⟩ := h
    exact hf x
  cases op with
  | call cl =>
    obtain ⟨callee, args, ts⟩ := cl
    refine ⟨callee, args, ts, rfl, ?_⟩
    cases callee with
    | builtin b => have := cBuiltin_call h; rw [this] at hc; cases hc
    | value x =>
      cases x with
      | func f =>
        simp only [cOp] at h
        split at h
        · rename_i hg; cases h; exact .inl ⟨f, rfl, hg, rfl⟩
        · cases h
      | tmp i => simp only [cOp, Option.some.injEq] at h; exact .inr ⟨_, rfl, h.symm⟩
      | const i => simp only [cOp, Option.some.injEq] at h; exact .inr ⟨_, rfl, h.symm⟩
      | global i => simp only [cOp, Option.some.injEq] at h; exact .inr ⟨_, rfl, h.symm⟩
    | invoke r mth => simp only [cOp] at h; cases h
  | makeFunc fn first caps =>
    refine no ?_
    cases fn with
    | func f =>
      simp only [cOp] at h
      split at h <;> cases h
      rfl
    | _ => simp [cOp] at h
  | slice T x lo hi mx =>
    refine no ?_
    cases mx with
    | none =>
      simp only [cOp] at h
      repeat' split at h
      all_goals first
        | (cases h; done)
        | (cases h; rfl)
    | some q => simp [cOp] at h
  | go cl => have h0 : cOp P (.go cl) = none := rfl; rw [h0] at h; cases h
  | defer cl => have h0 : cOp P (.defer cl) = none := rfl; rw [h0] at h; cases h
  | _ =>
    refine no ?_
    simp only [cOp, reduceCtorEq] at h
    try (repeat' split at h)
    all_goals first
      | (cases h; done)
      | (cases h; rfl)
      | exact mapNo h fun _ => rfl

theorem wp_step {o : Oper} {ao : AOper} {ops : Array Oper} {Q : Exit → Act → World → Prop} {K : St → Prop} {Kw : Act → World → Prop} (hco : cOper P ops k o = some ao) (hEn : E.n ≤ S.n)
    (hK : ∀ S' a' w', K S' → Conc E k S' a' w' → S.n ≤ S'.n → Kw a' w') (hc : Conc E k S a w) (h : stepOp P ao S K) : o.wp P a w Kw Q := by
  unfold cOper at hco
  split at hco
  · rename_i aop g hop hg
    split at hco
    · rename_i hdst
      cases hco
      have hd : ∀ d, o.dst = some d → d < k := fun d hd => by rw [hd] at hdst; simpa [dstOk] using hdst
      obtain ⟨c, hcr, hp⟩ := hc
      have plain : ∀ v e, aevN aop S.t S.m S.n = some (v, e) → K ⟨putF S.t o.dst v, e.mem S.m S.n, e.next S.n⟩ → o.wp P a w Kw Q := by
        intro v e he hk
        obtain ⟨r, w', c', hrun, hr, hM, hs, hφ, ho⟩ := aevN_sound (o := o) hop hcr.fr hcr.mr (hcr.free S.n (Nat.le_refl _)) he
        have hle : S.n ≤ e.next S.n := by cases e <;> simp [Eff.next]
        have hfr : ∀ id, e.next S.n ≤ id → c'.φ id = .free := by
          intro id hid
          by_cases hid' : id = S.n
          · subst hid'
            rw [hφ S.n (.inr (Nat.le_antisymm hid hle))]
            exact hcr.free _ (Nat.le_refl _)
          · rw [hφ id (.inl hid')]; exact hcr.free id (Nat.le_trans hle hid)
        have hconc : ∀ u, (Rel c' w' v u ∨ v = .any) → Conc E k ⟨putF S.t o.dst v, e.mem S.m S.n, e.next S.n⟩ (a.put o.dst u) w' := fun u hru =>
          conc_put hcr hp hEn hd hru hM hs ho (fun id hid => hφ id (.inl (Nat.ne_of_lt hid))) (fun id hid hm => mget_eff hid hm fun i cs he' => aevN_put (he' ▸ he)) hfr rfl
        unfold Oper.wp
        rw [hrun]
        rcases hr with ⟨u, rfl, hru⟩ | ⟨rfl, hv⟩
        · exact hK _ _ _ hk (hconc u (.inl hru)) hle
        · exact hK _ _ _ hk (hconc undef (.inr hv)) hle
      have enter : ∀ (f : Nat) (args : List AV) (vs : List Value) (R : AV → Mem → Nat → Prop), CallR P f args S.m S.n (S.n ≤ ·) R → (∀ r m n, R r m n → K ⟨putF S.t o.dst r, m, n⟩) → RelL c w args vs →
          (execOp a.eval o).run P w = .ok (.enter f vs.toArray) w → o.wp P a w Kw Q := by
        intro f args vs R hR hk hrl hrun
        unfold Oper.wp
        rw [hrun]
        rw [Oper.upon_enter]
        refine (hR c w vs hrl hcr.mr hcr.free).mono ?_
        rintro e' w' ⟨v, r, m', n', c', rfl, hr, hru, hM, hs, ho, hφ, hmk, hnn⟩
        exact hK _ _ _ (hk r m' n' hr) (conc_put hcr hp hEn hd (.inl hru) hM hs ho (fun id hid => hφ id (by omega)) (fun id hid => hmk id (by omega)) (fun id hid => (hφ id (by omega)).trans (hcr.free id (by omega))) rfl) hnn
      obtain ⟨dst, op, ty, pos, after, guard⟩ := o
      simp only at hop
      unfold stepOp at h
      split at h
      · -- a function called by its name
        rename_i f args hao
        simp only at hao
        subst hao
        obtain ⟨R, hR, hk⟩ := h
        obtain ⟨callee, cargs, ts, rfl, hcl | hcl⟩ := cOp_call hop rfl
        · obtain ⟨f', rfl, hg', he⟩ := hcl
          cases he
          refine enter f _ _ R hR hk (relL_ev hcr.fr cargs.toList) ?_
          have h1 : (execOp a.eval ⟨dst, .call ⟨.value (.func f), cargs, ts⟩, ty, pos, after, guard⟩).run P w = (callFunc f ((#[] ++ cargs.map a.eval) ++ #[])).run P w := rfl
          rw [h1, run_callFunc hg' w]
          congr 2
          apply Array.ext'
          simp
        · obtain ⟨y, _, he⟩ := hcl
          cases he
      · rename_i x args hao
        simp only at hao
        subst hao
        split at h
        · rename_i f caps hev
          obtain ⟨hg', R, hR, hk⟩ := h
          obtain ⟨callee, cargs, ts, rfl, hcl | hcl⟩ := cOp_call hop rfl
          · obtain ⟨y, _, _, he⟩ := hcl
            cases he
          · obtain ⟨y, rfl, he⟩ := hcl
            cases he
            have hx := rel_ev (w := w) hcr.fr y
            rw [hev] at hx
            obtain ⟨us, hu, hru⟩ := rel_fn hx
            refine enter f _ _ R hR hk ((relL_ev hcr.fr cargs.toList).append hru) ?_
            have h1 : (execOp a.eval ⟨dst, .call ⟨.value y, cargs, ts⟩, ty, pos, after, guard⟩).run P w = ((Deferred.ofValue (a.eval y) (cargs.map a.eval)) >>= fun d => invoke d.target d.args).run P w := rfl
            rw [h1, hu]
            have h2 : ((Deferred.ofValue (.func (.func f) #[] us.toArray) (cargs.map a.eval)) >>= fun d => invoke d.target d.args).run P w = (callFunc f ((#[] ++ cargs.map a.eval) ++ us.toArray)).run P w := rfl
            rw [h2, run_callFunc hg' w]
            congr 2
            apply Array.ext'
            simp
        · exact h.elim
      · split at h
        · rename_i v e he
          exact plain v e he h
        · exact h.elim
    · cases hco
  · cases hco

end
end Go.Jq

/-! The abstract layer, part 15: regions; a call's contract at a call. -/
namespace Go.Jq
open Go

section
variable {P : Program} {E : Env} {k : Nat}

theorem guard_wanted {ops : Array Oper} {o : Oper} {g : Nat} {want b : Bool} {t : Fr} {c : Ctx} {a : Act} {w : World} (hg : cGuard ops o.guard = some (some (g, want))) (hF : FR c w t a.tmps)
    (hb : fget t g = .d (.bool b)) : Region.wanted o (yielded ops a.tmps) = (b == want) := by
  unfold cGuard at hg
  cases ho : o.guard with
  | none => rw [ho] at hg; cases hg
  | some jw =>
    obtain ⟨j, wt⟩ := jw
    rw [ho] at hg
    simp only at hg
    split at hg
    · rename_i o' hj
      split at hg
      · rename_i d hd
        cases hg
        have hx := hF g
        rw [hb] at hx
        have hv := rel_d_bool hx
        have hy : yielded ops a.tmps j = some b := by
          unfold yielded
          simp only [hj, Option.bind_some, hd]
          rw [Array.getD_eq_getD_getElem?] at hv
          cases hq : a.tmps[g]? with
          | none => rw [hq] at hv; cases hv
          | some u => rw [hq] at hv; simp only [Option.getD_some] at hv; subst hv; rfl
        unfold Region.wanted
        rw [ho]
        simp only [hy]
        cases b <;> cases want <;> rfl
      · cases hg
    · cases hg

/-- A guard that was not carried out itself. -/
theorem guard_tup {ops : Array Oper} {o : Oper} {g : Nat} {want : Bool} {cs : List AV} {t : Fr} {c : Ctx} {a : Act} {w : World} (hg : cGuard ops o.guard = some (some (g, want))) (hF : FR c w t a.tmps)
    (hb : fget t g = .tup cs) : Region.wanted o (yielded ops a.tmps) = false := by
  unfold cGuard at hg
  cases ho : o.guard with
  | none => rw [ho] at hg; cases hg
  | some jw =>
    obtain ⟨j, wt⟩ := jw
    rw [ho] at hg
    simp only at hg
    split at hg
    · rename_i o' hj
      split at hg
      · rename_i d hd
        cases hg
        have hx := hF g
        rw [hb] at hx
        simp only [Rel] at hx
        obtain ⟨vs, hv, _⟩ := hx
        have hy : yielded ops a.tmps j = none := by
          unfold yielded
          simp only [hj, Option.bind_some, hd]
          rw [Array.getD_eq_getD_getElem?] at hv
          cases hq : a.tmps[g]? with
          | none => rfl
          | some u => rw [hq] at hv; simp only [Option.getD_some] at hv; subst hv; rfl
        unfold Region.wanted
        rw [ho]
        simp only [hy]
        cases want <;> rfl
      · cases hg
    · cases hg

theorem rel_undef (c : Ctx) (w : World) : Rel c w (.tup []) undef := by
  simp only [Rel, RelL]
  exact ⟨[], rfl, rfl⟩

theorem guard_none {ops : Array Oper} {o : Oper} (hg : cGuard ops o.guard = some none) (y : Nat → Option Bool) : Region.wanted o y = true := by
  unfold cGuard at hg
  cases ho : o.guard with
  | none => unfold Region.wanted; rw [ho]
  | some jw =>
    obtain ⟨j, wt⟩ := jw
    rw [ho] at hg
    simp only at hg
    split at hg
    · split at hg
      · cases hg
      · cases hg
    · cases hg

theorem cOper_guard {ops : Array Oper} {o : Oper} {ao : AOper} (h : cOper P ops k o = some ao) : cGuard ops o.guard = some ao.guard ∧ ao.dst = o.dst ∧ (∀ d, o.dst = some d → d < k) := by
  unfold cOper at h
  split at h
  · rename_i aop g hop hg
    split at h
    · rename_i hd
      cases h
      exact ⟨hg, rfl, fun d he => by rw [he] at hd; simpa [dstOk] using hd⟩
    · cases h
  · cases h

theorem runOps_sound {ops : Array Oper} {Q : Exit → Act → World → Prop} {K : St → Prop} (hK : ∀ S' a' w', K S' → Conc E k S' a' w' → Q .normal a' w') :
    ∀ (l : List Oper) (al : List AOper) (i : Nat) (S : St) (a : Act) (w : World), (∀ j, l[j]? = ops[i + j]?) → cOpers P ops k l = some al → E.n ≤ S.n → Conc E k S a w → runOps P al S K →
      wpOps P ops Q (List.range' i l.length) a w
  | [], al, i, S, a, w, _, hc, _, hcc, h => by
    simp only [cOpers, Option.some.injEq] at hc
    subst hc
    exact hK S a w h hcc
  | o :: l, al, i, S, a, w, hl, hc, hn, hcc, h => by
    simp only [cOpers] at hc
    split at hc
    · rename_i ao r' h1 h2
      cases hc
      have h0 : ops[i]? = some o := by simpa using (hl 0).symm
      have hl' : ∀ j, l[j]? = ops[i + 1 + j]? := fun j => by have := hl (j + 1); simpa [Nat.add_assoc, Nat.add_comm 1 j] using this
      obtain ⟨hg, hd, hdk⟩ := cOper_guard h1
      simp only [List.length_cons, List.range'_succ, wpOps, h0]
      simp only [runOps] at h
      split at h
      · rename_i hgn
        rw [hgn] at hg
        rw [if_pos (guard_none hg _)]
        exact .inl (wp_step h1 hn (fun S' a' w' hs hc' hle => runOps_sound hK l r' (i + 1) S' a' w' hl' h2 (Nat.le_trans hn hle) hc' hs) hcc h)
      · rename_i g want hgs
        rw [hgs] at hg
        split at h
        · rename_i b hb
          obtain ⟨c, hcr, hp⟩ := hcc
          have hw := guard_wanted hg hcr.fr hb
          split at h
          · rename_i hbw
            rw [hw, if_pos (by simpa using hbw)]
            exact .inl (wp_step h1 hn (fun S' a' w' hs hc' hle => runOps_sound hK l r' (i + 1) S' a' w' hl' h2 (Nat.le_trans hn hle) hc' hs) ⟨c, hcr, hp⟩ h)
          · rename_i hbw
            rw [hw, if_neg (by simpa using hbw)]
            refine runOps_sound hK l r' (i + 1) ⟨putF S.t ao.dst (.tup []), S.m, S.n⟩ _ _ hl' h2 hn ?_ h
            rw [hd]
            exact conc_put hcr hp hn hdk (.inl (rel_undef _ _)) hcr.mr (Step.refl _ _ _) (fun _ h => .inl h) (fun _ _ => rfl) (fun _ _ h => h) hcr.free rfl
        · rename_i cs hb
          obtain ⟨c, hcr, hp⟩ := hcc
          have hw := guard_tup hg hcr.fr hb
          rw [hw, if_neg (by simp)]
          refine runOps_sound hK l r' (i + 1) ⟨putF S.t ao.dst (.tup []), S.m, S.n⟩ _ _ hl' h2 hn ?_ h
          rw [hd]
          exact conc_put hcr hp hn hdk (.inl (rel_undef _ _)) hcr.mr (Step.refl _ _ _) (fun _ h => .inl h) (fun _ _ => rfl) (fun _ _ h => h) hcr.free rfl
        · exact h.elim
    · cases hc

theorem awp_region {n0 : Nat} {S : St} {Q : Exit → St → Prop} {id : Nat} {ops : Array Oper} {al : List AOper} (hc : cOpers P ops k ops.toList = some al) (hn : n0 ≤ S.n)
    (h : runOps P al S (fun S' => Q .normal S')) : AWP P n0 k (.region id ops false) S Q := by
  intro E hE a w hcc
  refine wp_region ?_
  have := runOps_sound (P := P) (E := E) (k := k) (ops := ops) (Q := fun e a' w' => ∃ S', Q e S' ∧ Conc E k S' a' w') (K := fun S' => Q .normal S') (fun S' a' w' h1 h2 => ⟨S', h1, h2⟩) ops.toList al 0 S a w
    (fun j => by rw [Nat.zero_add, Array.getElem?_toList]) hc (hE ▸ hn) hcc h
  rw [List.range_eq_range']
  simpa using this

end

/-! ### A contract at a call -/

/-- What the caller's memory becomes: the callee's blocks that it was handed (ρ: callee's number, caller's number), then the new ones, from N on. -/
def renOf (ρ : Ren) (m0 m' : Mem) (N : Nat) : Nat → Option Nat := fun j => if (mget m0 j).isSome && (mget m' j).isSome then pget ρ j else some (N + j)

def updOld (m' : Mem) (π : Nat → Option Nat) : Ren → Mem → Mem
  | [], m => m
  | (j, id) :: r, m => match mget m' j with
    | some cs => updOld m' π r (mset m id (renL π cs))
    | none => updOld m' π r (mdel m id)

def updNew (m0 : Mem) (N : Nat) (π : Nat → Option Nat) : Mem → Mem → Mem
  | [], m => m
  | (j, cs) :: r, m => if (mget m0 j).isSome then updNew m0 N π r m else mset (updNew m0 N π r m) (N + j) (renL π cs)

/-- The blocks that are handed over stand in the caller's memory under the names that ρ gives. -/
def handed (ρ : Ren) (m : Mem) : Mem → Prop
  | [] => True
  | (j, cs) :: r => (match pget ρ j with
    | some id => mget m id = some (renL (pget ρ) cs) ∧ inL (pget ρ) cs = true
    | none => False) ∧ handed ρ m r

theorem handed_get {ρ : Ren} {m : Mem} : ∀ {m0 : Mem}, handed ρ m m0 → ∀ j cs, mget m0 j = some cs → ∃ id, pget ρ j = some id ∧ mget m id = some (renL (pget ρ) cs) ∧ inL (pget ρ) cs = true
  | [], _, j, cs, h => by simp [mget] at h
  | (k, x) :: r, h, j, cs, hj => by
    simp only [handed] at h
    simp only [mget] at hj
    split at hj
    · rename_i e
      subst e
      cases hj
      obtain ⟨h, _⟩ := h
      split at h
      · rename_i id hid
        exact ⟨id, hid, h⟩
      · exact h.elim
    · exact handed_get h.2 j cs hj

theorem mget_updOld {m' : Mem} {π : Nat → Option Nat} {n : Nat} : ∀ {ρ : Ren} {m : Mem} (_ : okRen n ρ = true) (id : Nat),
    mget (updOld m' π ρ m) id = match pinv ρ id with
      | some j => (mget m' j).map (renL π)
      | none => mget m id
  | [], m, _, id => rfl
  | (j, i) :: r, m, hok, id => by
    have hok' := hok
    simp only [okRen, Bool.and_eq_true, decide_eq_true_eq, List.all_eq_true] at hok
    obtain ⟨⟨_, h2⟩, h3⟩ := hok
    have hno : pinv r i = none := by
      cases hp : pinv r i with
      | none => rfl
      | some j' =>
        have := h2 _ (pinv_mem hp)
        simp at this
    simp only [updOld, pinv]
    by_cases e : i = id
    · subst e
      rw [if_pos rfl]
      cases hm : mget m' j with
      | none => simp only [mget_updOld h3, hno, mget_mdel, if_true, hm, Option.map_none]
      | some cs => simp only [mget_updOld h3, hno, mget_mset, if_true, hm, Option.map_some]
    · rw [if_neg e]
      cases hm : mget m' j with
      | none => simp only [mget_updOld h3, mget_mdel, if_neg e]
      | some cs => simp only [mget_updOld h3, mget_mset, if_neg e]

theorem mget_updNew {m0 : Mem} {N : Nat} {π : Nat → Option Nat} : ∀ {m' m : Mem} (id : Nat),
    mget (updNew m0 N π m' m) id = if N ≤ id ∧ (mget m0 (id - N)) = none ∧ (mget m' (id - N)).isSome then (mget m' (id - N)).map (renL π) else mget m id
  | [], m, id => by simp [updNew, mget]
  | (j, cs) :: r, m, id => by
    have hcons : mget ((j, cs) :: r) (id - N) = if j = id - N then some cs else mget r (id - N) := rfl
    simp only [updNew]
    by_cases h0 : (mget m0 j).isSome
    · rw [if_pos h0, mget_updNew]
      by_cases e : j = id - N
      · subst e
        have : mget m0 (id - N) ≠ none := by intro h; rw [h] at h0; cases h0
        rw [if_neg (fun h => this h.2.1), if_neg (fun h => this h.2.1)]
      · rw [if_neg e] at hcons
        simp only [hcons]
    · rw [if_neg h0, mget_mset]
      by_cases e : N + j = id
      · subst e
        have h1 : N + j - N = j := by omega
        have h2 : mget m0 j = none := by simpa using h0
        rw [h1] at hcons ⊢
        rw [if_pos rfl] at hcons
        simp [hcons, h2]
      · rw [if_neg e, mget_updNew]
        by_cases hN : N ≤ id
        · have : ¬ j = id - N := by omega
          rw [if_neg this] at hcons
          simp only [hcons]
        · simp [hN]

theorem callR_gen {P : Program} {f : Nat} {args0 : List AV} {m0 : Mem} {Q : AV → Mem → Prop} {m : Mem} {n : Nat} (h : ACalls P f args0 m0 Q) (ρ : Ren) {nb : Nat} (hok : okRen nb ρ = true)
    (hin : inL (pget ρ) args0 = true) (hh : handed ρ m m0) (hdom : ∀ j id, pget ρ j = some id → (mget m0 j).isSome)
    {F : Nat → Prop} (hF : ∀ r m', Q r m' → ∀ id, n ≤ id → id < n + Nat.max (mbound m0) (mbound m') → F id) :
    CallR P f (renL (pget ρ) args0) m n F fun r m1 n1 => ∃ r0 m', Q r0 m' ∧ r = r0.ren (renOf ρ m0 m' n) ∧ m1 = updNew m0 n (renOf ρ m0 m' n) m' (updOld m' (renOf ρ m0 m' n) ρ m) ∧
      n1 = n + Nat.max (mbound m0) (mbound m') := by
  intro c w vs hr hM hfree
  have hspec := okRen_spec hok
  let c0 : Ctx := { φ := fun j => match pget ρ j with | some id => c.φ id | none => .free, imm := c.imm }
  have hφ0 : ∀ j id, pget ρ j = some id → c0.φ j = c.φ id := fun j id h => by simp only [c0, h]
  have hr0 : RelL c0 w args0 vs := relL_unren (c := c0) (c' := c) (fun _ h => h) hφ0 _ _ hin hr
  have hM0 : MR c0 m0 w := by
    refine ⟨fun j cs hj => ?_, fun j j' b hj hj' hb hb' => ?_, hM.imm, hM.tab⟩
    · obtain ⟨id, hid, hmid, hincs⟩ := handed_get hh j cs hj
      rcases hM.own id _ hmid with ⟨h0, hcs⟩ | ⟨b, arr, T, fz, hb, hni, hw, hf, us, rest, ha, hrel⟩
      · refine .inl ⟨(hφ0 j id hid).trans h0, ?_⟩
        have := renL_length (pget ρ) cs
        rw [hcs] at this
        exact List.eq_nil_of_length_eq_zero this.symm
      · exact .inr ⟨b, arr, T, fz, (hφ0 j id hid).trans hb, hni, hw, hf, us, rest, ha, relL_unren (c := c0) (c' := c) (fun _ h => h) hφ0 _ _ hincs hrel⟩
    · obtain ⟨cs, hcs⟩ := Option.isSome_iff_exists.1 hj
      obtain ⟨cs', hcs'⟩ := Option.isSome_iff_exists.1 hj'
      obtain ⟨id, hid, hmid, _⟩ := handed_get hh j cs hcs
      obtain ⟨id', hid', hmid', _⟩ := handed_get hh j' cs' hcs'
      rw [hφ0 j id hid] at hb
      rw [hφ0 j' id' hid'] at hb'
      have := hM.inj id id' b (by rw [hmid]; rfl) (by rw [hmid']; rfl) hb hb'
      subst this
      have h1 := (hspec j id (pget_mem hid)).2.1
      have h2 := (hspec j' id (pget_mem hid')).2.1
      rw [h1] at h2
      exact Option.some.inj h2
  have hfree0 : ∀ j, mbound m0 ≤ j → c0.φ j = .free := by
    intro j hj
    simp only [c0]
    split
    · rename_i id hid
      have := mget_bound (hdom j id hid)
      omega
    · rfl
  have hown0 : ∀ b, Own c0 m0 b → ∃ j id, pget ρ j = some id ∧ (mget m id).isSome ∧ c.φ id = .blk b := by
    rintro b ⟨j, hj, hb⟩
    obtain ⟨cs, hcs⟩ := Option.isSome_iff_exists.1 hj
    obtain ⟨id, hid, hmid, _⟩ := handed_get hh j cs hcs
    exact ⟨j, id, hid, by rw [hmid]; rfl, (hφ0 j id hid) ▸ hb⟩
  have hownc : ∀ b, Own c0 m0 b → Own c m b := fun b hb => by
    obtain ⟨j, id, _, h1, h2⟩ := hown0 b hb
    exact ⟨id, h1, h2⟩
  refine (h c0 w vs hr0 hM0 hfree0).mono ?_
  rintro e w' ⟨v, r0, m', c', rfl, hQ, hrel, hM', hs, ho, hpers, hfr⟩
  have hle : n ≤ n + Nat.max (mbound m0) (mbound m') := Nat.le_add_right _ _
  have hlt : ∀ id, (mget m id).isSome → ¬ (n ≤ id ∧ id < n + Nat.max (mbound m0) (mbound m')) := fun id hid hr => hM.not_free hid (hfree id (hF r0 m' hQ id hr.1 hr.2))
  have hρl : ∀ j id, pget ρ j = some id → ¬ (n ≤ id ∧ id < n + Nat.max (mbound m0) (mbound m')) := fun j id hj => by
    obtain ⟨cs0, hcs0⟩ := Option.isSome_iff_exists.1 (hdom j id hj)
    obtain ⟨id', hid', hmid', _⟩ := handed_get hh j cs0 hcs0
    rw [hj] at hid'
    cases hid'
    exact hlt id (by rw [hmid']; rfl)
  let c1 : Ctx := { φ := fun id => if n ≤ id ∧ id < n + Nat.max (mbound m0) (mbound m') then c'.φ (id - n) else c.φ id, imm := c'.imm }
  have hc1o : ∀ id, ¬ (n ≤ id ∧ id < n + Nat.max (mbound m0) (mbound m')) → c1.φ id = c.φ id := fun id hid => by simp only [c1, if_neg hid]
  have hc1n : ∀ j, j < Nat.max (mbound m0) (mbound m') → c1.φ (n + j) = c'.φ j := fun j hj => by simp only [c1]; rw [if_pos ⟨by omega, by omega⟩]; congr 1; omega
  have hjlt : ∀ j, (mget m' j).isSome → j < Nat.max (mbound m0) (mbound m') := fun j hj => Nat.lt_of_lt_of_le (mget_bound hj) (Nat.le_max_right _ _)
  have hπ : ∀ j i, renOf ρ m0 m' n j = some i → c'.φ j ≠ .free → c1.φ i = c'.φ j := by
    intro j i hji hnf
    simp only [renOf] at hji
    split at hji
    · rename_i hb
      simp only [Bool.and_eq_true] at hb
      rw [hc1o i (hρl j i hji), ← hφ0 j i hji]
      exact ((hpers j (mget_bound hb.1) hb.2).2).symm
    · cases hji
      refine hc1n j ?_
      rcases Nat.lt_or_ge j (Nat.max (mbound m0) (mbound m')) with h1 | h1
      · exact h1
      · exact absurd (hfr j h1) hnf
  have hlater : Later c c1 w w' := by
    refine ⟨hs.imm, fun b hb => hs.keep b (hM.imm b hb) (fun h => hM.sep hb (hownc b h)), fun id hid => hc1o id ?_, hs.rows⟩
    exact fun hr => hid (hfree id (hF r0 m' hQ id hr.1 hr.2))
  have hm1 : ∀ id, mget (updNew m0 n (renOf ρ m0 m' n) m' (updOld m' (renOf ρ m0 m' n) ρ m)) id =
      if n ≤ id ∧ (mget m0 (id - n)) = none ∧ (mget m' (id - n)).isSome then (mget m' (id - n)).map (renL (renOf ρ m0 m' n)) else
        match pinv ρ id with
        | some j => (mget m' j).map (renL (renOf ρ m0 m' n))
        | none => mget m id := fun id => by rw [mget_updNew, mget_updOld hok]
  -- the three kinds of a number in the memory behind the call
  have kinds : ∀ id cells, mget (updNew m0 n (renOf ρ m0 m' n) m' (updOld m' (renOf ρ m0 m' n) ρ m)) id = some cells →
      (∃ j cs, id = n + j ∧ mget m0 j = none ∧ mget m' j = some cs ∧ cells = renL (renOf ρ m0 m' n) cs) ∨
      (∃ j cs, pget ρ j = some id ∧ ¬ (n ≤ id ∧ id < n + Nat.max (mbound m0) (mbound m')) ∧ (mget m0 j).isSome ∧ mget m' j = some cs ∧ cells = renL (renOf ρ m0 m' n) cs ∧ (mget m id).isSome) ∨
      (pinv ρ id = none ∧ mget m id = some cells) := by
    intro id cells hid
    rw [hm1] at hid
    split at hid
    · rename_i hcond
      rw [Option.map_eq_some_iff] at hid
      obtain ⟨cs, hcs, rfl⟩ := hid
      exact .inl ⟨id - n, cs, by omega, hcond.2.1, hcs, rfl⟩
    · split at hid
      · rename_i j hj
        rw [Option.map_eq_some_iff] at hid
        obtain ⟨cs, hcs, rfl⟩ := hid
        have h1 := hspec j id (pinv_mem hj)
        obtain ⟨cs0, hcs0⟩ := Option.isSome_iff_exists.1 (hdom j id h1.1)
        obtain ⟨id', hid', hmid', _⟩ := handed_get hh j cs0 hcs0
        rw [h1.1] at hid'
        cases hid'
        exact .inr (.inl ⟨j, cs, h1.1, hρl j id h1.1, hdom j id h1.1, hcs, rfl, by rw [hmid']; rfl⟩)
      · rename_i hj
        exact .inr (.inr ⟨hj, hid⟩)
  have notOwn0 : ∀ id b, pinv ρ id = none → (mget m id).isSome → c.φ id = .blk b → ¬ Own c0 m0 b := by
    intro id b hp hm hb ho
    obtain ⟨j, id', hj, hm', hb'⟩ := hown0 b ho
    have := hM.inj id id' b hm hm' hb hb'
    subst this
    have := (hspec j id (pget_mem hj)).2.1
    rw [hp] at this
    cases this
  refine ⟨v, _, _, _, c1, rfl, ⟨r0, m', hQ, rfl, rfl, rfl⟩, ?_, ?_, ?_, ?_, hc1o, ?_, hle⟩
  · exact rel_ren (c := c') (c' := c1) (fun _ h => h) hπ _ _ hrel
  · refine ⟨fun id cells hid => ?_, fun id id' b hid hid' hb hb' => ?_, hM'.imm, hM'.tab⟩
    · rcases kinds id cells hid with ⟨j, cs, rfl, _, hcs, rfl⟩ | ⟨j, cs, hj, hlt', hm0, hcs, rfl, _⟩ | ⟨hp, hm⟩
      · rcases hM'.own j cs hcs with ⟨h0, rfl⟩ | ⟨b, arr, T, fz, hb, hni, hw, hf, us, rest, ha, hrl⟩
        · exact .inl ⟨(hc1n j (hjlt j (by rw [hcs]; rfl))).trans h0, rfl⟩
        · exact .inr ⟨b, arr, T, fz, (hc1n j (hjlt j (by rw [hcs]; rfl))).trans hb, hni, hw, hf, us, rest, ha, relL_ren (c := c') (c' := c1) (fun _ h => h) hπ _ _ hrl⟩
      · have hφ : c1.φ id = c'.φ j := by rw [hc1o id hlt', ← hφ0 j id hj]; exact ((hpers j (mget_bound hm0) (by rw [hcs]; rfl)).2).symm
        rcases hM'.own j cs hcs with ⟨h0, rfl⟩ | ⟨b, arr, T, fz, hb, hni, hw, hf, us, rest, ha, hrl⟩
        · exact .inl ⟨hφ.trans h0, rfl⟩
        · exact .inr ⟨b, arr, T, fz, hφ.trans hb, hni, hw, hf, us, rest, ha, relL_ren (c := c') (c' := c1) (fun _ h => h) hπ _ _ hrl⟩
      · have hmS : (mget m id).isSome := by rw [hm]; rfl
        refine (hM.own id cells hm).later hlater fun b hb => ?_
        have hno := notOwn0 id b hp hmS hb
        have hblt := hM.blk_lt ⟨id, hmS, hb⟩
        refine ⟨hs.keep b hblt hno, fun hi => ?_⟩
        rcases hs.imm' b hi with h1 | h1 | h1
        · exact hM.sep h1 ⟨id, hmS, hb⟩
        · exact hno h1
        · omega
    · obtain ⟨cells, hcells⟩ := Option.isSome_iff_exists.1 hid
      obtain ⟨cells', hcells'⟩ := Option.isSome_iff_exists.1 hid'
      have own' : ∀ j, (mget m' j).isSome → c'.φ j = .blk b → Own c0 m0 b ∨ w.heap.size ≤ b := fun j h1 h2 => ho b ⟨j, h1, h2⟩
      have hB : ∀ j i, pget ρ j = some i → ¬ (n ≤ i ∧ i < n + Nat.max (mbound m0) (mbound m')) → (mget m0 j).isSome → (mget m' j).isSome → c1.φ i = c'.φ j := fun j i hj hi h0 h1 => by
        rw [hc1o i hi, ← hφ0 j i hj]; exact ((hpers j (mget_bound h0) h1).2).symm
      rcases kinds id cells hcells with ⟨j, cs, rfl, hj0, hcs, _⟩ | ⟨j, cs, hj, hlt', hm0, hcs, _, hmS⟩ | ⟨hp, hm⟩
      · rw [hc1n j (hjlt j (by rw [hcs]; rfl))] at hb
        rcases kinds id' cells' hcells' with ⟨j', cs', rfl, hj0', hcs', _⟩ | ⟨j', cs', hj', hlt'', hm0', hcs', _, hmS'⟩ | ⟨hp', hm'⟩
        · rw [hc1n j' (hjlt j' (by rw [hcs']; rfl))] at hb'
          rw [hM'.inj j j' b (by rw [hcs]; rfl) (by rw [hcs']; rfl) hb hb']
        · exfalso
          rw [hB j' id' hj' hlt'' hm0' (by rw [hcs']; rfl)] at hb'
          have := hM'.inj j j' b (by rw [hcs]; rfl) (by rw [hcs']; rfl) hb hb'
          subst this
          rw [hj0] at hm0'
          cases hm0'
        · exfalso
          have hmS' : (mget m id').isSome := by rw [hm']; rfl
          rw [hc1o id' (hlt id' hmS')] at hb'
          rcases own' j (by rw [hcs]; rfl) hb with h1 | h1
          · exact notOwn0 id' b hp' hmS' hb' h1
          · have := hM.blk_lt ⟨id', hmS', hb'⟩; omega
      · have hb2 := hb
        rw [hB j id hj hlt' hm0 (by rw [hcs]; rfl)] at hb
        rw [hc1o id hlt'] at hb2
        rcases kinds id' cells' hcells' with ⟨j', cs', rfl, hj0', hcs', _⟩ | ⟨j', cs', hj', hlt'', hm0', hcs', _, hmS'⟩ | ⟨hp', hm'⟩
        · exfalso
          rw [hc1n j' (hjlt j' (by rw [hcs']; rfl))] at hb'
          have := hM'.inj j j' b (by rw [hcs]; rfl) (by rw [hcs']; rfl) hb hb'
          subst this
          rw [hj0'] at hm0
          cases hm0
        · rw [hc1o id' hlt''] at hb'
          exact hM.inj id id' b hmS hmS' hb2 hb'
        · have hmS' : (mget m id').isSome := by rw [hm']; rfl
          rw [hc1o id' (hlt id' hmS')] at hb'
          exact hM.inj id id' b hmS hmS' hb2 hb'
      · have hmS : (mget m id).isSome := by rw [hm]; rfl
        rw [hc1o id (hlt id hmS)] at hb
        rcases kinds id' cells' hcells' with ⟨j', cs', rfl, hj0', hcs', _⟩ | ⟨j', cs', hj', hlt'', hm0', hcs', _, hmS'⟩ | ⟨hp', hm'⟩
        · exfalso
          rw [hc1n j' (hjlt j' (by rw [hcs']; rfl))] at hb'
          rcases own' j' (by rw [hcs']; rfl) hb' with h1 | h1
          · exact notOwn0 id b hp hmS hb h1
          · have := hM.blk_lt ⟨id, hmS, hb⟩; omega
        · rw [hc1o id' hlt''] at hb'
          exact hM.inj id id' b hmS hmS' hb hb'
        · have hmS' : (mget m id').isSome := by rw [hm']; rfl
          rw [hc1o id' (hlt id' hmS')] at hb'
          exact hM.inj id id' b hmS hmS' hb hb'
  · have := hs.weaken hownc
    exact ⟨this.os, this.tape, this.output, this.size, this.keep, this.rows, this.imm, this.imm'⟩
  · rintro b ⟨id, hid, hb⟩
    obtain ⟨cells, hcells⟩ := Option.isSome_iff_exists.1 hid
    rcases kinds id cells hcells with ⟨j, cs, rfl, hj0, hcs, _⟩ | ⟨j, cs, hj, hlt', hm0, hcs, _, hmS⟩ | ⟨hp, hm⟩
    · rw [hc1n j (hjlt j (by rw [hcs]; rfl))] at hb
      rcases ho b ⟨j, by rw [hcs]; rfl, hb⟩ with h1 | h1
      · exact .inl (hownc b h1)
      · exact .inr h1
    · rw [hc1o id hlt'] at hb
      exact .inl ⟨id, hmS, hb⟩
    · have hmS : (mget m id).isSome := by rw [hm]; rfl
      rw [hc1o id (hlt id hmS)] at hb
      exact .inl ⟨id, hmS, hb⟩
  · intro id hid hm
    obtain ⟨cells, hcells⟩ := Option.isSome_iff_exists.1 hm
    rcases kinds id cells hcells with ⟨j, cs, rfl, _, hcs, _⟩ | ⟨j, cs, hj, hlt', hm0, hcs, _, hmS⟩ | ⟨hp, hm⟩
    · exact absurd ⟨Nat.le_add_right _ _, Nat.add_lt_add_left (hjlt j (by rw [hcs]; rfl)) n⟩ hid
    · exact hmS
    · rw [hm]; rfl

end Go.Jq

/-! The abstract layer, part 16: a function's code with its types resolved. -/
namespace Go.Jq
open Go

/-- masks: of a region that draws its order: for each operation, as a number's bits, which operations it waits for by an edge of its own. -/
inductive ACode where
  | skip
  | region (draw : Bool) (ops : List AOper) (masks : List Nat)
  | seq (a b : ACode)
  | cond (c : Opd) (thn els : ACode)
  | block (id : Nat) (body : ACode)
  | loop (body : ACode)
  | exit (id : Nat)
  | ret

def masksOf (ops : Array Oper) : List Nat :=
  ops.toList.map fun o => o.after.toList.foldl (fun s e => if Region.binds .any e then s ||| 2 ^ e.on else s) 0

def Opd.slots : Opd → List Nat
  | .t i => [i]
  | .c _ => []

def optSlots : Option Opd → List Nat
  | some x => x.slots
  | none => []

/-- The slots that an operation reads. -/
def AOp.slots : AOp → List Nat
  | .mv x => x.slots
  | .pick c a b => c.slots ++ a.slots ++ b.slots
  | .alloc _ => []
  | .box x => x.slots
  | .build _ ps => ps.flatMap fun p => p.2.2.slots
  | .bslice _ _ _ ps => ps.flatMap fun p => p.2.2.slots
  | .load _ x => x.slots
  | .store _ a v => a.slots ++ v.slots
  | .nilck x => x.slots
  | .bin _ x y => x.slots ++ y.slots
  | .eqb _ x y => x.slots ++ y.slots
  | .eqp _ x y => x.slots ++ y.slots
  | .eqf _ x y => x.slots ++ y.slots
  | .eqs _ _ x y => x.slots ++ y.slots
  | .un _ x => x.slots
  | .cvi _ x => x.slots
  | .cvrune x => x.slots
  | .cvbs x => x.slots
  | .cvsb x => x.slots
  | .cvll x => x.slots
  | .mkfn _ cs => cs.flatMap Opd.slots
  | .mksl _ _ _ l c => l.slots ++ c.slots
  | .slcs x l h => x.slots ++ optSlots l ++ optSlots h
  | .slcl _ x l h => x.slots ++ optSlots l ++ optSlots h
  | .faddr x _ => x.slots
  | .fld x _ _ => x.slots
  | .iaddr _ _ x i => x.slots ++ i.slots
  | .idxs x i => x.slots ++ i.slots
  | .idxa _ _ _ x i => x.slots ++ i.slots
  | .ext x _ => x.slots
  | .lens x => x.slots
  | .lenl x => x.slots
  | .minI x y => x.slots ++ y.slots
  | .maxI x y => x.slots ++ y.slots
  | .app _ _ _ x y => x.slots ++ y.slots
  | .callf _ as => as.flatMap Opd.slots
  | .callv x as => x.slots ++ as.flatMap Opd.slots

def slotsB (ops : Array Oper) : List Oper → List AOper → Bool
  | o :: r, a :: s => a.op.slots.all (fun i => (o.looksAt ops).contains i) && slotsB ops r s
  | [], [] => true
  | _, _ => false

def cCode (P : Program) (k : Nat) : Code → Option ACode
  | .skip => some .skip
  | .region _ ops draw => match cOpers P ops k ops.toList with
    | some al => if draw then (if Region.lexB .any ops && slotsB ops ops.toList al then some (.region true al (masksOf ops)) else none) else some (.region false al [])
    | none => none
  | .seq a b => match cCode P k a, cCode P k b with
    | some a', some b' => some (.seq a' b')
    | _, _ => none
  | .cond c a b => match cCode P k a, cCode P k b with
    | some a', some b' => some (.cond (cOpd c) a' b')
    | _, _ => none
  | .block id b => (cCode P k b).map (.block id)
  | .loop b => (cCode P k b).map .loop
  | .exit id => some (.exit id)
  | .ret => some .ret
  | _ => none

/-- Code that is so resolved, from a state, comes to an exit and a state of Q. -/
def BWP (P : Program) (n0 k : Nat) (c : ACode) (S : St) (Q : Exit → St → Prop) : Prop :=
  ∀ code, cCode P k code = some c → AWP P n0 k code S Q

section
variable {P : Program} {n0 k : Nat} {S : St} {Q : Exit → St → Prop}

theorem bwp_mono {c : ACode} {Q' : Exit → St → Prop} (h : BWP P n0 k c S Q) (hq : ∀ e S, Q e S → Q' e S) : BWP P n0 k c S Q' := fun code hc => awp_mono (h code hc) hq

theorem bwp_ent {c : ACode} {S' : St} (π : Ren) (he : Ent n0 π S S') (h : BWP P n0 k c S' Q) : BWP P n0 k c S Q := fun code hc => awp_ent he (h code hc)

theorem bwp_leads {c : ACode} {S' : St} (he : Leads n0 k S S') (h : BWP P n0 k c S' Q) : BWP P n0 k c S Q := fun code hc => awp_leads he (h code hc)

theorem cCode_skip {code : Code} (h : cCode P k code = some .skip) : code = .skip := by
  cases code with
  | skip => rfl
  | region id ops draw => simp only [cCode] at h; repeat' split at h
                          all_goals cases h
  | seq a b => simp only [cCode] at h; repeat' split at h
               all_goals cases h
  | cond c a b => simp only [cCode] at h; repeat' split at h
                  all_goals cases h
  | block id b => simp [cCode] at h
  | loop b => simp [cCode] at h
  | _ => simp [cCode] at h

theorem bwp_skip (h : Q .normal S) : BWP P n0 k .skip S Q := fun _ hc => by rw [cCode_skip hc]; exact awp_skip h

theorem bwp_exit {id : Nat} (h : Q (.exit id) S) : BWP P n0 k (.exit id) S Q := by
  intro code hc
  cases code with
  | exit id' => simp only [cCode, Option.some.injEq, ACode.exit.injEq] at hc; subst hc; exact awp_exit h
  | region id ops draw => simp only [cCode] at hc; repeat' split at hc
                          all_goals cases hc
  | seq a b => simp only [cCode] at hc; repeat' split at hc
               all_goals cases hc
  | cond c a b => simp only [cCode] at hc; repeat' split at hc
                  all_goals cases hc
  | _ => simp [cCode] at hc

theorem bwp_ret (h : Q .ret S) : BWP P n0 k .ret S Q := by
  intro code hc
  cases code with
  | ret => exact awp_ret h
  | region id ops draw => simp only [cCode] at hc; repeat' split at hc
                          all_goals cases hc
  | seq a b => simp only [cCode] at hc; repeat' split at hc
               all_goals cases hc
  | cond c a b => simp only [cCode] at hc; repeat' split at hc
                  all_goals cases hc
  | _ => simp [cCode] at hc

theorem bwp_seq {x y : ACode} (h : ∀ K : St → Prop, (∀ S', BWP P n0 k y S' Q → K S') → BWP P n0 k x S (Exit.thenA K Q)) : BWP P n0 k (.seq x y) S Q := by
  intro code hc
  cases code with
  | seq a b =>
    simp only [cCode] at hc
    split at hc
    · rename_i a' b' h1 h2
      cases hc
      exact awp_seq (h (fun S' => AWP P n0 k b S' Q) (fun S' hb => hb b h2) a h1)
    · cases hc
  | region id ops draw => simp only [cCode] at hc; repeat' split at hc
                          all_goals cases hc
  | cond c a b => simp only [cCode] at hc; repeat' split at hc
                  all_goals cases hc
  | _ => simp [cCode] at hc

theorem bwp_cond {c : Opd} {x y : ACode} (b : Bool) (hc : ev S.t c = .d (.bool b)) (ht : b = true → BWP P n0 k x S Q) (hf : b = false → BWP P n0 k y S Q) : BWP P n0 k (.cond c x y) S Q := by
  intro code hcc
  cases code with
  | cond c' a' b' =>
    simp only [cCode] at hcc
    split at hcc
    · rename_i x' y' h1 h2
      cases hcc
      exact awp_cond hc (fun h => ht h a' h1) (fun h => hf h b' h2)
    · cases hcc
  | seq a b => simp only [cCode] at hcc; repeat' split at hcc
               all_goals cases hcc
  | region id ops draw => simp only [cCode] at hcc; repeat' split at hcc
                          all_goals cases hcc
  | _ => simp [cCode] at hcc

theorem bwp_block {id : Nat} {b : ACode} (h : BWP P n0 k b S (Exit.inBlockA id Q)) : BWP P n0 k (.block id b) S Q := by
  intro code hc
  cases code with
  | block id' b' =>
    simp only [cCode, Option.map_eq_some_iff] at hc
    obtain ⟨b'', h1, h2⟩ := hc
    cases h2
    exact awp_block (h b' h1)
  | cond c a b => simp only [cCode] at hc; repeat' split at hc
                  all_goals cases hc
  | seq a b => simp only [cCode] at hc; repeat' split at hc
               all_goals cases hc
  | region id ops draw => simp only [cCode] at hc; repeat' split at hc
                          all_goals cases hc
  | _ => simp [cCode] at hc

theorem bwp_loop {b : ACode} (I : St → Prop) (μ : St → Nat) (h0 : I S)
    (round : ∀ S, I S → BWP P n0 k b S (Exit.thenA (fun S' => ∃ S'', Leads n0 k S' S'' ∧ I S'' ∧ μ S'' < μ S) Q)) : BWP P n0 k (.loop b) S Q := by
  intro code hc
  cases code with
  | loop b' =>
    simp only [cCode, Option.map_eq_some_iff] at hc
    obtain ⟨b'', h1, h2⟩ := hc
    cases h2
    exact awp_loop I μ h0 fun S hI => round S hI b' h1
  | cond c a b => simp only [cCode] at hc; repeat' split at hc
                  all_goals cases hc
  | seq a b => simp only [cCode] at hc; repeat' split at hc
               all_goals cases hc
  | region id ops draw => simp only [cCode] at hc; repeat' split at hc
                          all_goals cases hc
  | _ => simp [cCode] at hc

theorem bwp_region {al : List AOper} {pr : List Nat} (hn : decide (n0 ≤ S.n) = true) (h : runOps P al S (fun S' => Q .normal S')) : BWP P n0 k (.region false al pr) S Q := by
  intro code hc
  cases code with
  | region id ops draw =>
    simp only [cCode] at hc
    split at hc
    · rename_i al' hal
      split at hc
      · split at hc <;> cases hc
      · rename_i hd
        cases hc
        have : draw = false := by simpa using hd
        subst this
        exact awp_region hal (of_decide_eq_true hn) h
    · cases hc
  | cond c a b => simp only [cCode] at hc; repeat' split at hc
                  all_goals cases hc
  | seq a b => simp only [cCode] at hc; repeat' split at hc
               all_goals cases hc
  | _ => simp [cCode] at hc

end

/-- A function: its code resolved. -/
theorem acalls_of {P : Program} {f : Nat} {fn : Func} {c : ACode} {args : List AV} {m : Mem} {Q : AV → Mem → Prop} {k : Nat} {rs : Array ResultVar} (hf : P.funcs[f]? = some fn)
    (hc : fn.body.bind (cCode P fn.ntmps) = some c) (hk : fn.ntmps = k) (hrs : fn.results = rs)
    (hn : decide (args.length ≤ k) = true) (h : BWP P (mbound m) k c ⟨frm 0 args, m, mbound m⟩ (AEnd P rs (mbound m) Q)) : ACalls P f args m Q := by
  subst hk hrs
  rw [Option.bind_eq_some_iff] at hc
  obtain ⟨code, h1, h2⟩ := hc
  exact acalls_of_awp hf h1 (of_decide_eq_true hn) (h code h2)

end Go.Jq
