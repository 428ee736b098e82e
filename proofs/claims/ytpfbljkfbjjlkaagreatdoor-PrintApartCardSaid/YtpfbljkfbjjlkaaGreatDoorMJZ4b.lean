/- What the statement's proof leans on, part 2: the layer, the walks, the plain laws. -/
import Derived.Test.YtpfbljkfbjjlkaaGreatDoorMJZ4a
set_option linter.unusedSimpArgs false
set_option linter.unusedVariables false

/- The abstract layer: regions, calls, the code resolved. -/
namespace Go.Jq
open Go
def CallR (P : Program) (f : Nat) (args : List AV) (m : Mem) (n : Nat) (F : Nat → Prop) (R : AV → Mem → Nat → Prop) : Prop :=
  ∀ (c : Ctx) (w : World) (vs : List Value), RelL c w args vs → MR c m w → (∀ id, F id → c.φ id = .free) →
    Calls P f vs.toArray w fun e w' => ∃ v r m' n' c', e = .returned v ∧ R r m' n' ∧ Rel c' w' r v ∧ MR c' m' w' ∧ Step (Own c m) c c' w w' ∧
      (∀ b, Own c' m' b → Own c m b ∨ w.heap.size ≤ b) ∧ (∀ id, ¬ (n ≤ id ∧ id < n') → c'.φ id = c.φ id) ∧ (∀ id, ¬ (n ≤ id ∧ id < n') → (mget m' id).isSome → (mget m id).isSome) ∧ n ≤ n'
def putF (t : Fr) : Option Nat → AV → Fr
  | some d, v => (d, v) :: t
  | none, _ => t
def stepOp (P : Program) (o : AOper) (S : St) (K : St → Prop) : Prop :=
  match o.op with
  | .callf f args => ∃ R, CallR P f (args.map (ev S.t)) S.m S.n (S.n ≤ ·) R ∧ ∀ r m n, R r m n → K ⟨putF S.t o.dst r, m, n⟩
  | .callv x args => match ev S.t x with
    | .fn f caps => goesB P f = true ∧ ∃ R, CallR P f (args.map (ev S.t) ++ caps) S.m S.n (S.n ≤ ·) R ∧ ∀ r m n, R r m n → K ⟨putF S.t o.dst r, m, n⟩
    | _ => False
  | op => match aevN op S.t S.m S.n with
    | some (v, e) => K ⟨putF S.t o.dst v, e.mem S.m S.n, e.next S.n⟩
    | none => False
def runOps (P : Program) : List AOper → St → (St → Prop) → Prop
  | [], S, K => K S
  | o :: r, S, K => match o.guard with
    | none => stepOp P o S fun S' => runOps P r S' K
    | some (g, want) => match fget S.t g with
      | .d (.bool b) => if b = want then stepOp P o S fun S' => runOps P r S' K else runOps P r ⟨putF S.t o.dst (.tup []), S.m, S.n⟩ K
      | .tup _ => runOps P r ⟨putF S.t o.dst (.tup []), S.m, S.n⟩ K
      | _ => False
section
variable {P : Program} {E : Env} {k : Nat} {S : St} {a : Act} {w : World}
theorem fr_put {c : Ctx} {t : Fr} {tmps : Array Value} {d : Nat} {x : AV} {v : Value} (hF : FR c w t tmps) (hd : d < tmps.size) (hx : Rel c w x v) :
    FR c w ((d, x) :: t) (tmps.setIfInBounds d v) := by
  intro i
  simp only [fget]
  split
  · rename_i e
    subst e
    rw [Array.getD_eq_getD_getElem?, Array.getElem?_setIfInBounds_self_of_lt hd]
    exact hx
  · rename_i e
    rw [Array.getD_eq_getD_getElem?, Array.getElem?_setIfInBounds_ne e, ← Array.getD_eq_getD_getElem?]
    exact hF i
theorem conc_put {S' : St} {dst : Option Nat} {v : AV} {u : Value} {w' : World} {m' : Mem} {n' : Nat} {c c' : Ctx} (hcr : CR c k S a w) (hp : Prov E c S.m w) (hEn : E.n ≤ S.n)
    (hd : ∀ d, dst = some d → d < k) (hr : Rel c' w' v u ∨ v = .any) (hM : MR c' m' w') (hs : Step (Own c S.m) c c' w w') (ho : ∀ b, Own c' m' b → Own c S.m b ∨ w.heap.size ≤ b)
    (hφ : ∀ id, id < S.n → c'.φ id = c.φ id) (hmk : ∀ id, id < S.n → (mget m' id).isSome → (mget S.m id).isSome) (hf : ∀ id, n' ≤ id → c'.φ id = .free)
    (hS : S' = ⟨putF S.t dst v, m', n'⟩) : Conc E k S' (a.put dst u) w' := by
  subst hS
  have hext : ∀ id, c.φ id ≠ .free → c'.φ id = c.φ id := fun id hid => hφ id (by
    rcases Nat.lt_or_ge id S.n with h | h
    · exact h
    · exact absurd (hcr.free id h) hid)
  have hl := hs.later hcr.mr hext
  have hF' : FR c' w' S.t a.tmps := fun i => rel_mono hl _ _ (hcr.fr i)
  refine ⟨c', ⟨?_, ?_, ?_, hM, hf⟩, hp.next hs ho fun id hid hm => ?_⟩
  · cases dst <;> exact hcr.defers
  · cases dst with
    | none => exact hcr.size
    | some d => simp only [Act.put, Array.size_setIfInBounds]; exact hcr.size
  · cases dst with
    | none => exact hF'
    | some d =>
      simp only [putF, Act.put]
      refine fr_put hF' (by rw [hcr.size]; exact hd d rfl) ?_
      rcases hr with h | rfl
      · exact h
      · simp [Rel]
  · have : id < S.n := Nat.lt_of_lt_of_le hid hEn
    exact ⟨hmk id this hm, hφ id this⟩
theorem mget_eff {e : Eff} {m : Mem} {n id : Nat} (h : id < n) (hm : (mget (e.mem m n) id).isSome) (he : ∀ i cs, e = .put i cs → (mget m i).isSome) : (mget m id).isSome := by
  cases e with
  | nil => exact hm
  | new cs => simp only [Eff.mem, mget_mset] at hm; rw [if_neg (by omega)] at hm; exact hm
  | put i cs =>
    simp only [Eff.mem, mget_mset] at hm
    split at hm
    · rename_i e; subst e; exact he i cs rfl
    · exact hm
  | mov i cs =>
    simp only [Eff.mem, mget_mset, mget_mdel] at hm
    rw [if_neg (by omega)] at hm
    split at hm
    · simp at hm
    · exact hm
theorem aevN_put {o : AOp} {t : Fr} {m : Mem} {n : Nat} {v : AV} {i : Nat} {cs : List AV} (h : aevN o t m n = some (v, .put i cs)) : (mget m i).isSome := by
  have key : ∀ (o : AOp) (r : Option (AV × Eff)), aevN o t m n = r → ∀ v i cs, r = some (v, .put i cs) → (mget m i).isSome := by
    intro o r hr v i cs hv
    subst hr
    cases o <;> simp only [aevN] at hv
    case store k a x =>
      split at hv
      · split at hv
        · rename_i hm
          split at hv
          · cases hv; rw [hm]; rfl
          · cases hv
        · cases hv
      · cases hv
    all_goals
      (repeat' split at hv) <;> simp_all
  exact key o _ rfl v i cs h
theorem run_callFunc {f : Nat} {args : Array Value} (h : goesB P f = true) (w : World) : (callFunc f args).run P w = .ok (.enter f args) w := by
  unfold goesB at h
  split at h
  · rename_i fn hfn
    simp only [Bool.and_eq_true, bne_iff_ne, ne_eq] at h
    have hb : fn.body.isNone = false := by
      cases hb : fn.body <;> simp_all
    simp only [callFunc, Sem.run_bind, run_program, Result.andThen_ok, hfn]
    rw [if_neg (by simpa using h.2)]
    simp only [hb, Bool.false_eq_true, if_false, Sem.run_pure]
  · cases h
def isCall : AOp → Bool
  | .callf _ _ => true
  | .callv _ _ => true
  | _ => false
theorem cBuiltin_call {b : Builtin} {ts : Array TypeId} {args : Array Operand} {ao : AOp} (h : cBuiltin P b ts args = some ao) : isCall ao = false := by
  unfold cBuiltin at h
  repeat' split at h
  all_goals first
    | (cases h; done)
    | (cases h; rfl)
theorem cOp_call {op : Op} {ao : AOp} (h : cOp P op = some ao) (hc : isCall ao = true) : ∃ callee args ts, op = .call ⟨callee, args, ts⟩ ∧
    ((∃ f, callee = .value (.func f) ∧ goesB P f = true ∧ ao = .callf f (args.toList.map cOpd)) ∨ (∃ x, callee = .value x ∧ ao = .callv (cOpd x) (args.toList.map cOpd))) := by
  have no : isCall ao = false → ∃ callee args ts, op = .call ⟨callee, args, ts⟩ ∧
    ((∃ f, callee = .value (.func f) ∧ goesB P f = true ∧ ao = .callf f (args.toList.map cOpd)) ∨ (∃ x, callee = .value x ∧ ao = .callv (cOpd x) (args.toList.map cOpd))) := fun h => by rw [h] at hc; cases hc
  have mapNo : ∀ {α : Type} {o : Option α} {f : α → AOp}, o.map f = some ao → (∀ x, isCall (f x) = false) → isCall ao = false := by
    intro α o f h hf
    rw [Option.map_eq_some_iff] at h
    obtain ⟨x, _, rfl⟩ := h
    exact hf x
  cases op with
  | call cl =>
    obtain ⟨callee, args, ts⟩ := cl
    refine ⟨callee, args, ts, rfl, ?_⟩
    cases callee with
    | builtin b => have := cBuiltin_call h; rw [this] at hc; cases hc
    | value x =>
      cases x with
      | func f =>
        simp only [cOp] at h
        split at h
        · rename_i hg; cases h; exact .inl ⟨f, rfl, hg, rfl⟩
        · cases h
      | tmp i => simp only [cOp, Option.some.injEq] at h; exact .inr ⟨_, rfl, h.symm⟩
      | const i => simp only [cOp, Option.some.injEq] at h; exact .inr ⟨_, rfl, h.symm⟩
      | global i => simp only [cOp, Option.some.injEq] at h; exact .inr ⟨_, rfl, h.symm⟩
    | invoke r mth => simp only [cOp] at h; cases h
  | makeFunc fn first caps =>
    refine no ?_
    cases fn with
    | func f =>
      simp only [cOp] at h
      split at h <;> cases h
      rfl
    | _ => simp [cOp] at h
  | slice T x lo hi mx =>
    refine no ?_
    cases mx with
    | none =>
      simp only [cOp] at h
      repeat' split at h
      all_goals first
        | (cases h; done)
        | (cases h; rfl)
    | some q => simp [cOp] at h
  | go cl => have h0 : cOp P (.go cl) = none := rfl; rw [h0] at h; cases h
  | defer cl => have h0 : cOp P (.defer cl) = none := rfl; rw [h0] at h; cases h
  | _ =>
    refine no ?_
    simp only [cOp, reduceCtorEq] at h
    try (repeat' split at h)
    all_goals first
      | (cases h; done)
      | (cases h; rfl)
      | exact mapNo h fun _ => rfl
theorem wp_step {o : Oper} {ao : AOper} {ops : Array Oper} {Q : Exit → Act → World → Prop} {K : St → Prop} {Kw : Act → World → Prop} (hco : cOper P ops k o = some ao) (hEn : E.n ≤ S.n)
    (hK : ∀ S' a' w', K S' → Conc E k S' a' w' → S.n ≤ S'.n → Kw a' w') (hc : Conc E k S a w) (h : stepOp P ao S K) : o.wp P a w Kw Q := by
  unfold cOper at hco
  split at hco
  · rename_i aop g hop hg
    split at hco
    · rename_i hdst
      cases hco
      have hd : ∀ d, o.dst = some d → d < k := fun d hd => by rw [hd] at hdst; simpa [dstOk] using hdst
      obtain ⟨c, hcr, hp⟩ := hc
      have plain : ∀ v e, aevN aop S.t S.m S.n = some (v, e) → K ⟨putF S.t o.dst v, e.mem S.m S.n, e.next S.n⟩ → o.wp P a w Kw Q := by
        intro v e he hk
        obtain ⟨r, w', c', hrun, hr, hM, hs, hφ, ho⟩ := aevN_sound (o := o) hop hcr.fr hcr.mr (hcr.free S.n (Nat.le_refl _)) he
        have hle : S.n ≤ e.next S.n := by cases e <;> simp [Eff.next]
        have hfr : ∀ id, e.next S.n ≤ id → c'.φ id = .free := by
          intro id hid
          by_cases hid' : id = S.n
          · subst hid'
            rw [hφ S.n (.inr (Nat.le_antisymm hid hle))]
            exact hcr.free _ (Nat.le_refl _)
          · rw [hφ id (.inl hid')]; exact hcr.free id (Nat.le_trans hle hid)
        have hconc : ∀ u, (Rel c' w' v u ∨ v = .any) → Conc E k ⟨putF S.t o.dst v, e.mem S.m S.n, e.next S.n⟩ (a.put o.dst u) w' := fun u hru =>
          conc_put hcr hp hEn hd hru hM hs ho (fun id hid => hφ id (.inl (Nat.ne_of_lt hid))) (fun id hid hm => mget_eff hid hm fun i cs he' => aevN_put (he' ▸ he)) hfr rfl
        unfold Oper.wp
        rw [hrun]
        rcases hr with ⟨u, rfl, hru⟩ | ⟨rfl, hv⟩
        · exact hK _ _ _ hk (hconc u (.inl hru)) hle
        · exact hK _ _ _ hk (hconc undef (.inr hv)) hle
      have enter : ∀ (f : Nat) (args : List AV) (vs : List Value) (R : AV → Mem → Nat → Prop), CallR P f args S.m S.n (S.n ≤ ·) R → (∀ r m n, R r m n → K ⟨putF S.t o.dst r, m, n⟩) → RelL c w args vs →
          (execOp a.eval o).run P w = .ok (.enter f vs.toArray) w → o.wp P a w Kw Q := by
        intro f args vs R hR hk hrl hrun
        unfold Oper.wp
        rw [hrun]
        rw [Oper.upon_enter]
        refine (hR c w vs hrl hcr.mr hcr.free).mono ?_
        rintro e' w' ⟨v, r, m', n', c', rfl, hr, hru, hM, hs, ho, hφ, hmk, hnn⟩
        exact hK _ _ _ (hk r m' n' hr) (conc_put hcr hp hEn hd (.inl hru) hM hs ho (fun id hid => hφ id (by omega)) (fun id hid => hmk id (by omega)) (fun id hid => (hφ id (by omega)).trans (hcr.free id (by omega))) rfl) hnn
      obtain ⟨dst, op, ty, pos, after, guard⟩ := o
      simp only at hop
      unfold stepOp at h
      split at h
      · -- a function called by its name
        rename_i f args hao
        simp only at hao
        subst hao
        obtain ⟨R, hR, hk⟩ := h
        obtain ⟨callee, cargs, ts, rfl, hcl | hcl⟩ := cOp_call hop rfl
        · obtain ⟨f', rfl, hg', he⟩ := hcl
          cases he
          refine enter f _ _ R hR hk (relL_ev hcr.fr cargs.toList) ?_
          have h1 : (execOp a.eval ⟨dst, .call ⟨.value (.func f), cargs, ts⟩, ty, pos, after, guard⟩).run P w = (callFunc f ((#[] ++ cargs.map a.eval) ++ #[])).run P w := rfl
          rw [h1, run_callFunc hg' w]
          congr 2
          apply Array.ext'
          simp
        · obtain ⟨y, _, he⟩ := hcl
          cases he
      · rename_i x args hao
        simp only at hao
        subst hao
        split at h
        · rename_i f caps hev
          obtain ⟨hg', R, hR, hk⟩ := h
          obtain ⟨callee, cargs, ts, rfl, hcl | hcl⟩ := cOp_call hop rfl
          · obtain ⟨y, _, _, he⟩ := hcl
            cases he
          · obtain ⟨y, rfl, he⟩ := hcl
            cases he
            have hx := rel_ev (w := w) hcr.fr y
            rw [hev] at hx
            obtain ⟨us, hu, hru⟩ := rel_fn hx
            refine enter f _ _ R hR hk ((relL_ev hcr.fr cargs.toList).append hru) ?_
            have h1 : (execOp a.eval ⟨dst, .call ⟨.value y, cargs, ts⟩, ty, pos, after, guard⟩).run P w = ((Deferred.ofValue (a.eval y) (cargs.map a.eval)) >>= fun d => invoke d.target d.args).run P w := rfl
            rw [h1, hu]
            have h2 : ((Deferred.ofValue (.func (.func f) #[] us.toArray) (cargs.map a.eval)) >>= fun d => invoke d.target d.args).run P w = (callFunc f ((#[] ++ cargs.map a.eval) ++ us.toArray)).run P w := rfl
            rw [h2, run_callFunc hg' w]
            congr 2
            apply Array.ext'
            simp
        · exact h.elim
      · split at h
        · rename_i v e he
          exact plain v e he h
        · exact h.elim
    · cases hco
  · cases hco
end
end Go.Jq
namespace Go.Jq
open Go
section
variable {P : Program} {E : Env} {k : Nat}
theorem guard_wanted {ops : Array Oper} {o : Oper} {g : Nat} {want b : Bool} {t : Fr} {c : Ctx} {a : Act} {w : World} (hg : cGuard ops o.guard = some (some (g, want))) (hF : FR c w t a.tmps)
    (hb : fget t g = .d (.bool b)) : Region.wanted o (yielded ops a.tmps) = (b == want) := by
  unfold cGuard at hg
  cases ho : o.guard with
  | none => rw [ho] at hg; cases hg
  | some jw =>
    obtain ⟨j, wt⟩ := jw
    rw [ho] at hg
    simp only at hg
    split at hg
    · rename_i o' hj
      split at hg
      · rename_i d hd
        cases hg
        have hx := hF g
        rw [hb] at hx
        have hv := rel_d_bool hx
        have hy : yielded ops a.tmps j = some b := by
          unfold yielded
          simp only [hj, Option.bind_some, hd]
          rw [Array.getD_eq_getD_getElem?] at hv
          cases hq : a.tmps[g]? with
          | none => rw [hq] at hv; cases hv
          | some u => rw [hq] at hv; simp only [Option.getD_some] at hv; subst hv; rfl
        unfold Region.wanted
        rw [ho]
        simp only [hy]
        cases b <;> cases want <;> rfl
      · cases hg
    · cases hg
theorem guard_tup {ops : Array Oper} {o : Oper} {g : Nat} {want : Bool} {cs : List AV} {t : Fr} {c : Ctx} {a : Act} {w : World} (hg : cGuard ops o.guard = some (some (g, want))) (hF : FR c w t a.tmps)
    (hb : fget t g = .tup cs) : Region.wanted o (yielded ops a.tmps) = false := by
  unfold cGuard at hg
  cases ho : o.guard with
  | none => rw [ho] at hg; cases hg
  | some jw =>
    obtain ⟨j, wt⟩ := jw
    rw [ho] at hg
    simp only at hg
    split at hg
    · rename_i o' hj
      split at hg
      · rename_i d hd
        cases hg
        have hx := hF g
        rw [hb] at hx
        simp only [Rel] at hx
        obtain ⟨vs, hv, _⟩ := hx
        have hy : yielded ops a.tmps j = none := by
          unfold yielded
          simp only [hj, Option.bind_some, hd]
          rw [Array.getD_eq_getD_getElem?] at hv
          cases hq : a.tmps[g]? with
          | none => rfl
          | some u => rw [hq] at hv; simp only [Option.getD_some] at hv; subst hv; rfl
        unfold Region.wanted
        rw [ho]
        simp only [hy]
        cases want <;> rfl
      · cases hg
    · cases hg
theorem rel_undef (c : Ctx) (w : World) : Rel c w (.tup []) undef := by
  simp only [Rel, RelL]
  exact ⟨[], rfl, rfl⟩
theorem guard_none {ops : Array Oper} {o : Oper} (hg : cGuard ops o.guard = some none) (y : Nat → Option Bool) : Region.wanted o y = true := by
  unfold cGuard at hg
  cases ho : o.guard with
  | none => unfold Region.wanted; rw [ho]
  | some jw =>
    obtain ⟨j, wt⟩ := jw
    rw [ho] at hg
    simp only at hg
    split at hg
    · split at hg
      · cases hg
      · cases hg
    · cases hg
theorem cOper_guard {ops : Array Oper} {o : Oper} {ao : AOper} (h : cOper P ops k o = some ao) : cGuard ops o.guard = some ao.guard ∧ ao.dst = o.dst ∧ (∀ d, o.dst = some d → d < k) := by
  unfold cOper at h
  split at h
  · rename_i aop g hop hg
    split at h
    · rename_i hd
      cases h
      exact ⟨hg, rfl, fun d he => by rw [he] at hd; simpa [dstOk] using hd⟩
    · cases h
  · cases h
theorem runOps_sound {ops : Array Oper} {Q : Exit → Act → World → Prop} {K : St → Prop} (hK : ∀ S' a' w', K S' → Conc E k S' a' w' → Q .normal a' w') :
    ∀ (l : List Oper) (al : List AOper) (i : Nat) (S : St) (a : Act) (w : World), (∀ j, l[j]? = ops[i + j]?) → cOpers P ops k l = some al → E.n ≤ S.n → Conc E k S a w → runOps P al S K →
      wpOps P ops Q (List.range' i l.length) a w
  | [], al, i, S, a, w, _, hc, _, hcc, h => by
    simp only [cOpers, Option.some.injEq] at hc
    subst hc
    exact hK S a w h hcc
  | o :: l, al, i, S, a, w, hl, hc, hn, hcc, h => by
    simp only [cOpers] at hc
    split at hc
    · rename_i ao r' h1 h2
      cases hc
      have h0 : ops[i]? = some o := by simpa using (hl 0).symm
      have hl' : ∀ j, l[j]? = ops[i + 1 + j]? := fun j => by have := hl (j + 1); simpa [Nat.add_assoc, Nat.add_comm 1 j] using this
      obtain ⟨hg, hd, hdk⟩ := cOper_guard h1
      simp only [List.length_cons, List.range'_succ, wpOps, h0]
      simp only [runOps] at h
      split at h
      · rename_i hgn
        rw [hgn] at hg
        rw [if_pos (guard_none hg _)]
        exact .inl (wp_step h1 hn (fun S' a' w' hs hc' hle => runOps_sound hK l r' (i + 1) S' a' w' hl' h2 (Nat.le_trans hn hle) hc' hs) hcc h)
      · rename_i g want hgs
        rw [hgs] at hg
        split at h
        · rename_i b hb
          obtain ⟨c, hcr, hp⟩ := hcc
          have hw := guard_wanted hg hcr.fr hb
          split at h
          · rename_i hbw
            rw [hw, if_pos (by simpa using hbw)]
            exact .inl (wp_step h1 hn (fun S' a' w' hs hc' hle => runOps_sound hK l r' (i + 1) S' a' w' hl' h2 (Nat.le_trans hn hle) hc' hs) ⟨c, hcr, hp⟩ h)
          · rename_i hbw
            rw [hw, if_neg (by simpa using hbw)]
            refine runOps_sound hK l r' (i + 1) ⟨putF S.t ao.dst (.tup []), S.m, S.n⟩ _ _ hl' h2 hn ?_ h
            rw [hd]
            exact conc_put hcr hp hn hdk (.inl (rel_undef _ _)) hcr.mr (Step.refl _ _ _) (fun _ h => .inl h) (fun _ _ => rfl) (fun _ _ h => h) hcr.free rfl
        · rename_i cs hb
          obtain ⟨c, hcr, hp⟩ := hcc
          have hw := guard_tup hg hcr.fr hb
          rw [hw, if_neg (by simp)]
          refine runOps_sound hK l r' (i + 1) ⟨putF S.t ao.dst (.tup []), S.m, S.n⟩ _ _ hl' h2 hn ?_ h
          rw [hd]
          exact conc_put hcr hp hn hdk (.inl (rel_undef _ _)) hcr.mr (Step.refl _ _ _) (fun _ h => .inl h) (fun _ _ => rfl) (fun _ _ h => h) hcr.free rfl
        · exact h.elim
    · cases hc
theorem awp_region {n0 : Nat} {S : St} {Q : Exit → St → Prop} {id : Nat} {ops : Array Oper} {al : List AOper} (hc : cOpers P ops k ops.toList = some al) (hn : n0 ≤ S.n)
    (h : runOps P al S (fun S' => Q .normal S')) : AWP P n0 k (.region id ops false) S Q := by
  intro E hE a w hcc
  refine wp_region ?_
  have := runOps_sound (P := P) (E := E) (k := k) (ops := ops) (Q := fun e a' w' => ∃ S', Q e S' ∧ Conc E k S' a' w') (K := fun S' => Q .normal S') (fun S' a' w' h1 h2 => ⟨S', h1, h2⟩) ops.toList al 0 S a w
    (fun j => by rw [Nat.zero_add, Array.getElem?_toList]) hc (hE ▸ hn) hcc h
  rw [List.range_eq_range']
  simpa using this
end
def renOf (ρ : Ren) (m0 m' : Mem) (N : Nat) : Nat → Option Nat := fun j => if (mget m0 j).isSome && (mget m' j).isSome then pget ρ j else some (N + j)
def updOld (m' : Mem) (π : Nat → Option Nat) : Ren → Mem → Mem
  | [], m => m
  | (j, id) :: r, m => match mget m' j with
    | some cs => updOld m' π r (mset m id (renL π cs))
    | none => updOld m' π r (mdel m id)
def updNew (m0 : Mem) (N : Nat) (π : Nat → Option Nat) : Mem → Mem → Mem
  | [], m => m
  | (j, cs) :: r, m => if (mget m0 j).isSome then updNew m0 N π r m else mset (updNew m0 N π r m) (N + j) (renL π cs)
def handed (ρ : Ren) (m : Mem) : Mem → Prop
  | [] => True
  | (j, cs) :: r => (match pget ρ j with
    | some id => mget m id = some (renL (pget ρ) cs) ∧ inL (pget ρ) cs = true
    | none => False) ∧ handed ρ m r
theorem handed_get {ρ : Ren} {m : Mem} : ∀ {m0 : Mem}, handed ρ m m0 → ∀ j cs, mget m0 j = some cs → ∃ id, pget ρ j = some id ∧ mget m id = some (renL (pget ρ) cs) ∧ inL (pget ρ) cs = true
  | [], _, j, cs, h => by simp [mget] at h
  | (k, x) :: r, h, j, cs, hj => by
    simp only [handed] at h
    simp only [mget] at hj
    split at hj
    · rename_i e
      subst e
      cases hj
      obtain ⟨h, _⟩ := h
      split at h
      · rename_i id hid
        exact ⟨id, hid, h⟩
      · exact h.elim
    · exact handed_get h.2 j cs hj
theorem mget_updOld {m' : Mem} {π : Nat → Option Nat} {n : Nat} : ∀ {ρ : Ren} {m : Mem} (_ : okRen n ρ = true) (id : Nat),
    mget (updOld m' π ρ m) id = match pinv ρ id with
      | some j => (mget m' j).map (renL π)
      | none => mget m id
  | [], m, _, id => rfl
  | (j, i) :: r, m, hok, id => by
    have hok' := hok
    simp only [okRen, Bool.and_eq_true, decide_eq_true_eq, List.all_eq_true] at hok
    obtain ⟨⟨_, h2⟩, h3⟩ := hok
    have hno : pinv r i = none := by
      cases hp : pinv r i with
      | none => rfl
      | some j' =>
        have := h2 _ (pinv_mem hp)
        simp at this
    simp only [updOld, pinv]
    by_cases e : i = id
    · subst e
      rw [if_pos rfl]
      cases hm : mget m' j with
      | none => simp only [mget_updOld h3, hno, mget_mdel, if_true, hm, Option.map_none]
      | some cs => simp only [mget_updOld h3, hno, mget_mset, if_true, hm, Option.map_some]
    · rw [if_neg e]
      cases hm : mget m' j with
      | none => simp only [mget_updOld h3, mget_mdel, if_neg e]
      | some cs => simp only [mget_updOld h3, mget_mset, if_neg e]
theorem mget_updNew {m0 : Mem} {N : Nat} {π : Nat → Option Nat} : ∀ {m' m : Mem} (id : Nat),
    mget (updNew m0 N π m' m) id = if N ≤ id ∧ (mget m0 (id - N)) = none ∧ (mget m' (id - N)).isSome then (mget m' (id - N)).map (renL π) else mget m id
  | [], m, id => by simp [updNew, mget]
  | (j, cs) :: r, m, id => by
    have hcons : mget ((j, cs) :: r) (id - N) = if j = id - N then some cs else mget r (id - N) := rfl
    simp only [updNew]
    by_cases h0 : (mget m0 j).isSome
    · rw [if_pos h0, mget_updNew]
      by_cases e : j = id - N
      · subst e
        have : mget m0 (id - N) ≠ none := by intro h; rw [h] at h0; cases h0
        rw [if_neg (fun h => this h.2.1), if_neg (fun h => this h.2.1)]
      · rw [if_neg e] at hcons
        simp only [hcons]
    · rw [if_neg h0, mget_mset]
      by_cases e : N + j = id
      · subst e
        have h1 : N + j - N = j := by omega
        have h2 : mget m0 j = none := by simpa using h0
        rw [h1] at hcons ⊢
        rw [if_pos rfl] at hcons
        simp [hcons, h2]
      · rw [if_neg e, mget_updNew]
        by_cases hN : N ≤ id
        · have : ¬ j = id - N := by omega
          rw [if_neg this] at hcons
          simp only [hcons]
        · simp [hN]
theorem callR_gen {P : Program} {f : Nat} {args0 : List AV} {m0 : Mem} {Q : AV → Mem → Prop} {m : Mem} {n : Nat} (h : ACalls P f args0 m0 Q) (ρ : Ren) {nb : Nat} (hok : okRen nb ρ = true)
    (hin : inL (pget ρ) args0 = true) (hh : handed ρ m m0) (hdom : ∀ j id, pget ρ j = some id → (mget m0 j).isSome)
    {F : Nat → Prop} (hF : ∀ r m', Q r m' → ∀ id, n ≤ id → id < n + Nat.max (mbound m0) (mbound m') → F id) :
    CallR P f (renL (pget ρ) args0) m n F fun r m1 n1 => ∃ r0 m', Q r0 m' ∧ r = r0.ren (renOf ρ m0 m' n) ∧ m1 = updNew m0 n (renOf ρ m0 m' n) m' (updOld m' (renOf ρ m0 m' n) ρ m) ∧
      n1 = n + Nat.max (mbound m0) (mbound m') := by
  intro c w vs hr hM hfree
  have hspec := okRen_spec hok
  let c0 : Ctx := { φ := fun j => match pget ρ j with | some id => c.φ id | none => .free, imm := c.imm }
  have hφ0 : ∀ j id, pget ρ j = some id → c0.φ j = c.φ id := fun j id h => by simp only [c0, h]
  have hr0 : RelL c0 w args0 vs := relL_unren (c := c0) (c' := c) (fun _ h => h) hφ0 _ _ hin hr
  have hM0 : MR c0 m0 w := by
    refine ⟨fun j cs hj => ?_, fun j j' b hj hj' hb hb' => ?_, hM.imm, hM.tab⟩
    · obtain ⟨id, hid, hmid, hincs⟩ := handed_get hh j cs hj
      rcases hM.own id _ hmid with ⟨h0, hcs⟩ | ⟨b, arr, T, fz, hb, hni, hw, hf, us, rest, ha, hrel⟩
      · refine .inl ⟨(hφ0 j id hid).trans h0, ?_⟩
        have := renL_length (pget ρ) cs
        rw [hcs] at this
        exact List.eq_nil_of_length_eq_zero this.symm
      · exact .inr ⟨b, arr, T, fz, (hφ0 j id hid).trans hb, hni, hw, hf, us, rest, ha, relL_unren (c := c0) (c' := c) (fun _ h => h) hφ0 _ _ hincs hrel⟩
    · obtain ⟨cs, hcs⟩ := Option.isSome_iff_exists.1 hj
      obtain ⟨cs', hcs'⟩ := Option.isSome_iff_exists.1 hj'
      obtain ⟨id, hid, hmid, _⟩ := handed_get hh j cs hcs
      obtain ⟨id', hid', hmid', _⟩ := handed_get hh j' cs' hcs'
      rw [hφ0 j id hid] at hb
      rw [hφ0 j' id' hid'] at hb'
      have := hM.inj id id' b (by rw [hmid]; rfl) (by rw [hmid']; rfl) hb hb'
      subst this
      have h1 := (hspec j id (pget_mem hid)).2.1
      have h2 := (hspec j' id (pget_mem hid')).2.1
      rw [h1] at h2
      exact Option.some.inj h2
  have hfree0 : ∀ j, mbound m0 ≤ j → c0.φ j = .free := by
    intro j hj
    simp only [c0]
    split
    · rename_i id hid
      have := mget_bound (hdom j id hid)
      omega
    · rfl
  have hown0 : ∀ b, Own c0 m0 b → ∃ j id, pget ρ j = some id ∧ (mget m id).isSome ∧ c.φ id = .blk b := by
    rintro b ⟨j, hj, hb⟩
    obtain ⟨cs, hcs⟩ := Option.isSome_iff_exists.1 hj
    obtain ⟨id, hid, hmid, _⟩ := handed_get hh j cs hcs
    exact ⟨j, id, hid, by rw [hmid]; rfl, (hφ0 j id hid) ▸ hb⟩
  have hownc : ∀ b, Own c0 m0 b → Own c m b := fun b hb => by
    obtain ⟨j, id, _, h1, h2⟩ := hown0 b hb
    exact ⟨id, h1, h2⟩
  refine (h c0 w vs hr0 hM0 hfree0).mono ?_
  rintro e w' ⟨v, r0, m', c', rfl, hQ, hrel, hM', hs, ho, hpers, hfr⟩
  have hle : n ≤ n + Nat.max (mbound m0) (mbound m') := Nat.le_add_right _ _
  have hlt : ∀ id, (mget m id).isSome → ¬ (n ≤ id ∧ id < n + Nat.max (mbound m0) (mbound m')) := fun id hid hr => hM.not_free hid (hfree id (hF r0 m' hQ id hr.1 hr.2))
  have hρl : ∀ j id, pget ρ j = some id → ¬ (n ≤ id ∧ id < n + Nat.max (mbound m0) (mbound m')) := fun j id hj => by
    obtain ⟨cs0, hcs0⟩ := Option.isSome_iff_exists.1 (hdom j id hj)
    obtain ⟨id', hid', hmid', _⟩ := handed_get hh j cs0 hcs0
    rw [hj] at hid'
    cases hid'
    exact hlt id (by rw [hmid']; rfl)
  let c1 : Ctx := { φ := fun id => if n ≤ id ∧ id < n + Nat.max (mbound m0) (mbound m') then c'.φ (id - n) else c.φ id, imm := c'.imm }
  have hc1o : ∀ id, ¬ (n ≤ id ∧ id < n + Nat.max (mbound m0) (mbound m')) → c1.φ id = c.φ id := fun id hid => by simp only [c1, if_neg hid]
  have hc1n : ∀ j, j < Nat.max (mbound m0) (mbound m') → c1.φ (n + j) = c'.φ j := fun j hj => by simp only [c1]; rw [if_pos ⟨by omega, by omega⟩]; congr 1; omega
  have hjlt : ∀ j, (mget m' j).isSome → j < Nat.max (mbound m0) (mbound m') := fun j hj => Nat.lt_of_lt_of_le (mget_bound hj) (Nat.le_max_right _ _)
  have hπ : ∀ j i, renOf ρ m0 m' n j = some i → c'.φ j ≠ .free → c1.φ i = c'.φ j := by
    intro j i hji hnf
    simp only [renOf] at hji
    split at hji
    · rename_i hb
      simp only [Bool.and_eq_true] at hb
      rw [hc1o i (hρl j i hji), ← hφ0 j i hji]
      exact ((hpers j (mget_bound hb.1) hb.2).2).symm
    · cases hji
      refine hc1n j ?_
      rcases Nat.lt_or_ge j (Nat.max (mbound m0) (mbound m')) with h1 | h1
      · exact h1
      · exact absurd (hfr j h1) hnf
  have hlater : Later c c1 w w' := by
    refine ⟨hs.imm, fun b hb => hs.keep b (hM.imm b hb) (fun h => hM.sep hb (hownc b h)), fun id hid => hc1o id ?_, hs.rows⟩
    exact fun hr => hid (hfree id (hF r0 m' hQ id hr.1 hr.2))
  have hm1 : ∀ id, mget (updNew m0 n (renOf ρ m0 m' n) m' (updOld m' (renOf ρ m0 m' n) ρ m)) id =
      if n ≤ id ∧ (mget m0 (id - n)) = none ∧ (mget m' (id - n)).isSome then (mget m' (id - n)).map (renL (renOf ρ m0 m' n)) else
        match pinv ρ id with
        | some j => (mget m' j).map (renL (renOf ρ m0 m' n))
        | none => mget m id := fun id => by rw [mget_updNew, mget_updOld hok]
  -- the three kinds of a number in the memory behind the call
  have kinds : ∀ id cells, mget (updNew m0 n (renOf ρ m0 m' n) m' (updOld m' (renOf ρ m0 m' n) ρ m)) id = some cells →
      (∃ j cs, id = n + j ∧ mget m0 j = none ∧ mget m' j = some cs ∧ cells = renL (renOf ρ m0 m' n) cs) ∨
      (∃ j cs, pget ρ j = some id ∧ ¬ (n ≤ id ∧ id < n + Nat.max (mbound m0) (mbound m')) ∧ (mget m0 j).isSome ∧ mget m' j = some cs ∧ cells = renL (renOf ρ m0 m' n) cs ∧ (mget m id).isSome) ∨
      (pinv ρ id = none ∧ mget m id = some cells) := by
    intro id cells hid
    rw [hm1] at hid
    split at hid
    · rename_i hcond
      rw [Option.map_eq_some_iff] at hid
      obtain ⟨cs, hcs, rfl⟩ := hid
      exact .inl ⟨id - n, cs, by omega, hcond.2.1, hcs, rfl⟩
    · split at hid
      · rename_i j hj
        rw [Option.map_eq_some_iff] at hid
        obtain ⟨cs, hcs, rfl⟩ := hid
        have h1 := hspec j id (pinv_mem hj)
        obtain ⟨cs0, hcs0⟩ := Option.isSome_iff_exists.1 (hdom j id h1.1)
        obtain ⟨id', hid', hmid', _⟩ := handed_get hh j cs0 hcs0
        rw [h1.1] at hid'
        cases hid'
        exact .inr (.inl ⟨j, cs, h1.1, hρl j id h1.1, hdom j id h1.1, hcs, rfl, by rw [hmid']; rfl⟩)
      · rename_i hj
        exact .inr (.inr ⟨hj, hid⟩)
  have notOwn0 : ∀ id b, pinv ρ id = none → (mget m id).isSome → c.φ id = .blk b → ¬ Own c0 m0 b := by
    intro id b hp hm hb ho
    obtain ⟨j, id', hj, hm', hb'⟩ := hown0 b ho
    have := hM.inj id id' b hm hm' hb hb'
    subst this
    have := (hspec j id (pget_mem hj)).2.1
    rw [hp] at this
    cases this
  refine ⟨v, _, _, _, c1, rfl, ⟨r0, m', hQ, rfl, rfl, rfl⟩, ?_, ?_, ?_, ?_, hc1o, ?_, hle⟩
  · exact rel_ren (c := c') (c' := c1) (fun _ h => h) hπ _ _ hrel
  · refine ⟨fun id cells hid => ?_, fun id id' b hid hid' hb hb' => ?_, hM'.imm, hM'.tab⟩
    · rcases kinds id cells hid with ⟨j, cs, rfl, _, hcs, rfl⟩ | ⟨j, cs, hj, hlt', hm0, hcs, rfl, _⟩ | ⟨hp, hm⟩
      · rcases hM'.own j cs hcs with ⟨h0, rfl⟩ | ⟨b, arr, T, fz, hb, hni, hw, hf, us, rest, ha, hrl⟩
        · exact .inl ⟨(hc1n j (hjlt j (by rw [hcs]; rfl))).trans h0, rfl⟩
        · exact .inr ⟨b, arr, T, fz, (hc1n j (hjlt j (by rw [hcs]; rfl))).trans hb, hni, hw, hf, us, rest, ha, relL_ren (c := c') (c' := c1) (fun _ h => h) hπ _ _ hrl⟩
      · have hφ : c1.φ id = c'.φ j := by rw [hc1o id hlt', ← hφ0 j id hj]; exact ((hpers j (mget_bound hm0) (by rw [hcs]; rfl)).2).symm
        rcases hM'.own j cs hcs with ⟨h0, rfl⟩ | ⟨b, arr, T, fz, hb, hni, hw, hf, us, rest, ha, hrl⟩
        · exact .inl ⟨hφ.trans h0, rfl⟩
        · exact .inr ⟨b, arr, T, fz, hφ.trans hb, hni, hw, hf, us, rest, ha, relL_ren (c := c') (c' := c1) (fun _ h => h) hπ _ _ hrl⟩
      · have hmS : (mget m id).isSome := by rw [hm]; rfl
        refine (hM.own id cells hm).later hlater fun b hb => ?_
        have hno := notOwn0 id b hp hmS hb
        have hblt := hM.blk_lt ⟨id, hmS, hb⟩
        refine ⟨hs.keep b hblt hno, fun hi => ?_⟩
        rcases hs.imm' b hi with h1 | h1 | h1
        · exact hM.sep h1 ⟨id, hmS, hb⟩
        · exact hno h1
        · omega
    · obtain ⟨cells, hcells⟩ := Option.isSome_iff_exists.1 hid
      obtain ⟨cells', hcells'⟩ := Option.isSome_iff_exists.1 hid'
      have own' : ∀ j, (mget m' j).isSome → c'.φ j = .blk b → Own c0 m0 b ∨ w.heap.size ≤ b := fun j h1 h2 => ho b ⟨j, h1, h2⟩
      have hB : ∀ j i, pget ρ j = some i → ¬ (n ≤ i ∧ i < n + Nat.max (mbound m0) (mbound m')) → (mget m0 j).isSome → (mget m' j).isSome → c1.φ i = c'.φ j := fun j i hj hi h0 h1 => by
        rw [hc1o i hi, ← hφ0 j i hj]; exact ((hpers j (mget_bound h0) h1).2).symm
      rcases kinds id cells hcells with ⟨j, cs, rfl, hj0, hcs, _⟩ | ⟨j, cs, hj, hlt', hm0, hcs, _, hmS⟩ | ⟨hp, hm⟩
      · rw [hc1n j (hjlt j (by rw [hcs]; rfl))] at hb
        rcases kinds id' cells' hcells' with ⟨j', cs', rfl, hj0', hcs', _⟩ | ⟨j', cs', hj', hlt'', hm0', hcs', _, hmS'⟩ | ⟨hp', hm'⟩
        · rw [hc1n j' (hjlt j' (by rw [hcs']; rfl))] at hb'
          rw [hM'.inj j j' b (by rw [hcs]; rfl) (by rw [hcs']; rfl) hb hb']
        · exfalso
          rw [hB j' id' hj' hlt'' hm0' (by rw [hcs']; rfl)] at hb'
          have := hM'.inj j j' b (by rw [hcs]; rfl) (by rw [hcs']; rfl) hb hb'
          subst this
          rw [hj0] at hm0'
          cases hm0'
        · exfalso
          have hmS' : (mget m id').isSome := by rw [hm']; rfl
          rw [hc1o id' (hlt id' hmS')] at hb'
          rcases own' j (by rw [hcs]; rfl) hb with h1 | h1
          · exact notOwn0 id' b hp' hmS' hb' h1
          · have := hM.blk_lt ⟨id', hmS', hb'⟩; omega
      · have hb2 := hb
        rw [hB j id hj hlt' hm0 (by rw [hcs]; rfl)] at hb
        rw [hc1o id hlt'] at hb2
        rcases kinds id' cells' hcells' with ⟨j', cs', rfl, hj0', hcs', _⟩ | ⟨j', cs', hj', hlt'', hm0', hcs', _, hmS'⟩ | ⟨hp', hm'⟩
        · exfalso
          rw [hc1n j' (hjlt j' (by rw [hcs']; rfl))] at hb'
          have := hM'.inj j j' b (by rw [hcs]; rfl) (by rw [hcs']; rfl) hb hb'
          subst this
          rw [hj0'] at hm0
          cases hm0
        · rw [hc1o id' hlt''] at hb'
          exact hM.inj id id' b hmS hmS' hb2 hb'
        · have hmS' : (mget m id').isSome := by rw [hm']; rfl
          rw [hc1o id' (hlt id' hmS')] at hb'
          exact hM.inj id id' b hmS hmS' hb2 hb'
      · have hmS : (mget m id).isSome := by rw [hm]; rfl
        rw [hc1o id (hlt id hmS)] at hb
        rcases kinds id' cells' hcells' with ⟨j', cs', rfl, hj0', hcs', _⟩ | ⟨j', cs', hj', hlt'', hm0', hcs', _, hmS'⟩ | ⟨hp', hm'⟩
        · exfalso
          rw [hc1n j' (hjlt j' (by rw [hcs']; rfl))] at hb'
          rcases own' j' (by rw [hcs']; rfl) hb' with h1 | h1
          · exact notOwn0 id b hp hmS hb h1
          · have := hM.blk_lt ⟨id, hmS, hb⟩; omega
        · rw [hc1o id' hlt''] at hb'
          exact hM.inj id id' b hmS hmS' hb hb'
        · have hmS' : (mget m id').isSome := by rw [hm']; rfl
          rw [hc1o id' (hlt id' hmS')] at hb'
          exact hM.inj id id' b hmS hmS' hb hb'
  · have := hs.weaken hownc
    exact ⟨this.os, this.tape, this.output, this.size, this.keep, this.rows, this.imm, this.imm'⟩
  · rintro b ⟨id, hid, hb⟩
    obtain ⟨cells, hcells⟩ := Option.isSome_iff_exists.1 hid
    rcases kinds id cells hcells with ⟨j, cs, rfl, hj0, hcs, _⟩ | ⟨j, cs, hj, hlt', hm0, hcs, _, hmS⟩ | ⟨hp, hm⟩
    · rw [hc1n j (hjlt j (by rw [hcs]; rfl))] at hb
      rcases ho b ⟨j, by rw [hcs]; rfl, hb⟩ with h1 | h1
      · exact .inl (hownc b h1)
      · exact .inr h1
    · rw [hc1o id hlt'] at hb
      exact .inl ⟨id, hmS, hb⟩
    · have hmS : (mget m id).isSome := by rw [hm]; rfl
      rw [hc1o id (hlt id hmS)] at hb
      exact .inl ⟨id, hmS, hb⟩
  · intro id hid hm
    obtain ⟨cells, hcells⟩ := Option.isSome_iff_exists.1 hm
    rcases kinds id cells hcells with ⟨j, cs, rfl, _, hcs, _⟩ | ⟨j, cs, hj, hlt', hm0, hcs, _, hmS⟩ | ⟨hp, hm⟩
    · exact absurd ⟨Nat.le_add_right _ _, Nat.add_lt_add_left (hjlt j (by rw [hcs]; rfl)) n⟩ hid
    · exact hmS
    · rw [hm]; rfl
end Go.Jq
namespace Go.Jq
open Go
inductive ACode where
  | skip
  | region (draw : Bool) (ops : List AOper) (masks : List Nat)
  | seq (a b : ACode)
  | cond (c : Opd) (thn els : ACode)
  | block (id : Nat) (body : ACode)
  | loop (body : ACode)
  | exit (id : Nat)
  | ret
@[reducible] def oM (d : Nat) (a : AOp) : AOper := ⟨some d, a, none⟩
@[reducible] def oG (d : Nat) (a : AOp) (g : Nat) (w : Bool) : AOper := ⟨some d, a, some (g, w)⟩
def masksOf (ops : Array Oper) : List Nat :=
  ops.toList.map fun o => o.after.toList.foldl (fun s e => if Region.binds .any e then s ||| 2 ^ e.on else s) 0
def Opd.slots : Opd → List Nat
  | .t i => [i]
  | .c _ => []
def optSlots : Option Opd → List Nat
  | some x => x.slots
  | none => []
def AOp.slots : AOp → List Nat
  | .mv x => x.slots
  | .pick c a b => c.slots ++ a.slots ++ b.slots
  | .alloc _ => []
  | .box x => x.slots
  | .build _ ps => ps.flatMap fun p => p.2.2.slots
  | .bslice _ _ _ ps => ps.flatMap fun p => p.2.2.slots
  | .load _ x => x.slots
  | .store _ a v => a.slots ++ v.slots
  | .nilck x => x.slots
  | .bin _ x y => x.slots ++ y.slots
  | .eqb _ x y => x.slots ++ y.slots
  | .eqp _ x y => x.slots ++ y.slots
  | .eqf _ x y => x.slots ++ y.slots
  | .eqs _ _ x y => x.slots ++ y.slots
  | .un _ x => x.slots
  | .cvi _ x => x.slots
  | .cvrune x => x.slots
  | .cvbs x => x.slots
  | .cvsb x => x.slots
  | .cvll x => x.slots
  | .mkfn _ cs => cs.flatMap Opd.slots
  | .mksl _ _ _ l c => l.slots ++ c.slots
  | .slcs x l h => x.slots ++ optSlots l ++ optSlots h
  | .slcl _ x l h => x.slots ++ optSlots l ++ optSlots h
  | .faddr x _ => x.slots
  | .fld x _ _ => x.slots
  | .iaddr _ _ x i => x.slots ++ i.slots
  | .idxs x i => x.slots ++ i.slots
  | .idxa _ _ _ x i => x.slots ++ i.slots
  | .ext x _ => x.slots
  | .lens x => x.slots
  | .lenl x => x.slots
  | .minI x y => x.slots ++ y.slots
  | .maxI x y => x.slots ++ y.slots
  | .app _ _ _ x y => x.slots ++ y.slots
  | .callf _ as => as.flatMap Opd.slots
  | .callv x as => x.slots ++ as.flatMap Opd.slots
def slotsB (ops : Array Oper) : List Oper → List AOper → Bool
  | o :: r, a :: s => a.op.slots.all (fun i => (o.looksAt ops).contains i) && slotsB ops r s
  | [], [] => true
  | _, _ => false
def cCode (P : Program) (k : Nat) : Code → Option ACode
  | .skip => some .skip
  | .region _ ops draw => match cOpers P ops k ops.toList with
    | some al => if draw then (if Region.lexB .any ops && slotsB ops ops.toList al then some (.region true al (masksOf ops)) else none) else some (.region false al [])
    | none => none
  | .seq a b => match cCode P k a, cCode P k b with
    | some a', some b' => some (.seq a' b')
    | _, _ => none
  | .cond c a b => match cCode P k a, cCode P k b with
    | some a', some b' => some (.cond (cOpd c) a' b')
    | _, _ => none
  | .block id b => (cCode P k b).map (.block id)
  | .loop b => (cCode P k b).map .loop
  | .exit id => some (.exit id)
  | .ret => some .ret
  | _ => none
def BWP (P : Program) (n0 k : Nat) (c : ACode) (S : St) (Q : Exit → St → Prop) : Prop :=
  ∀ code, cCode P k code = some c → AWP P n0 k code S Q
section
variable {P : Program} {n0 k : Nat} {S : St} {Q : Exit → St → Prop}
theorem bwp_mono {c : ACode} {Q' : Exit → St → Prop} (h : BWP P n0 k c S Q) (hq : ∀ e S, Q e S → Q' e S) : BWP P n0 k c S Q' := fun code hc => awp_mono (h code hc) hq
theorem bwp_leads {c : ACode} {S' : St} (he : Leads n0 k S S') (h : BWP P n0 k c S' Q) : BWP P n0 k c S Q := fun code hc => awp_leads he (h code hc)
theorem cCode_skip {code : Code} (h : cCode P k code = some .skip) : code = .skip := by
  cases code with
  | skip => rfl
  | region id ops draw => simp only [cCode] at h; repeat' split at h
                          all_goals cases h
  | seq a b => simp only [cCode] at h; repeat' split at h
               all_goals cases h
  | cond c a b => simp only [cCode] at h; repeat' split at h
                  all_goals cases h
  | block id b => simp [cCode] at h
  | loop b => simp [cCode] at h
  | _ => simp [cCode] at h
theorem bwp_skip (h : Q .normal S) : BWP P n0 k .skip S Q := fun _ hc => by rw [cCode_skip hc]; exact awp_skip h
theorem bwp_exit {id : Nat} (h : Q (.exit id) S) : BWP P n0 k (.exit id) S Q := by
  intro code hc
  cases code with
  | exit id' => simp only [cCode, Option.some.injEq, ACode.exit.injEq] at hc; subst hc; exact awp_exit h
  | region id ops draw => simp only [cCode] at hc; repeat' split at hc
                          all_goals cases hc
  | seq a b => simp only [cCode] at hc; repeat' split at hc
               all_goals cases hc
  | cond c a b => simp only [cCode] at hc; repeat' split at hc
                  all_goals cases hc
  | _ => simp [cCode] at hc
theorem bwp_ret (h : Q .ret S) : BWP P n0 k .ret S Q := by
  intro code hc
  cases code with
  | ret => exact awp_ret h
  | region id ops draw => simp only [cCode] at hc; repeat' split at hc
                          all_goals cases hc
  | seq a b => simp only [cCode] at hc; repeat' split at hc
               all_goals cases hc
  | cond c a b => simp only [cCode] at hc; repeat' split at hc
                  all_goals cases hc
  | _ => simp [cCode] at hc
theorem bwp_seq {x y : ACode} (h : ∀ K : St → Prop, (∀ S', BWP P n0 k y S' Q → K S') → BWP P n0 k x S (Exit.thenA K Q)) : BWP P n0 k (.seq x y) S Q := by
  intro code hc
  cases code with
  | seq a b =>
    simp only [cCode] at hc
    split at hc
    · rename_i a' b' h1 h2
      cases hc
      exact awp_seq (h (fun S' => AWP P n0 k b S' Q) (fun S' hb => hb b h2) a h1)
    · cases hc
  | region id ops draw => simp only [cCode] at hc; repeat' split at hc
                          all_goals cases hc
  | cond c a b => simp only [cCode] at hc; repeat' split at hc
                  all_goals cases hc
  | _ => simp [cCode] at hc
theorem bwp_cond {c : Opd} {x y : ACode} (b : Bool) (hc : ev S.t c = .d (.bool b)) (ht : b = true → BWP P n0 k x S Q) (hf : b = false → BWP P n0 k y S Q) : BWP P n0 k (.cond c x y) S Q := by
  intro code hcc
  cases code with
  | cond c' a' b' =>
    simp only [cCode] at hcc
    split at hcc
    · rename_i x' y' h1 h2
      cases hcc
      exact awp_cond hc (fun h => ht h a' h1) (fun h => hf h b' h2)
    · cases hcc
  | seq a b => simp only [cCode] at hcc; repeat' split at hcc
               all_goals cases hcc
  | region id ops draw => simp only [cCode] at hcc; repeat' split at hcc
                          all_goals cases hcc
  | _ => simp [cCode] at hcc
theorem bwp_block {id : Nat} {b : ACode} (h : BWP P n0 k b S (Exit.inBlockA id Q)) : BWP P n0 k (.block id b) S Q := by
  intro code hc
  cases code with
  | block id' b' =>
    simp only [cCode, Option.map_eq_some_iff] at hc
    obtain ⟨b'', h1, h2⟩ := hc
    cases h2
    exact awp_block (h b' h1)
  | cond c a b => simp only [cCode] at hc; repeat' split at hc
                  all_goals cases hc
  | seq a b => simp only [cCode] at hc; repeat' split at hc
               all_goals cases hc
  | region id ops draw => simp only [cCode] at hc; repeat' split at hc
                          all_goals cases hc
  | _ => simp [cCode] at hc
theorem bwp_loop {b : ACode} (I : St → Prop) (μ : St → Nat) (h0 : I S)
    (round : ∀ S, I S → BWP P n0 k b S (Exit.thenA (fun S' => ∃ S'', Leads n0 k S' S'' ∧ I S'' ∧ μ S'' < μ S) Q)) : BWP P n0 k (.loop b) S Q := by
  intro code hc
  cases code with
  | loop b' =>
    simp only [cCode, Option.map_eq_some_iff] at hc
    obtain ⟨b'', h1, h2⟩ := hc
    cases h2
    exact awp_loop I μ h0 fun S hI => round S hI b' h1
  | cond c a b => simp only [cCode] at hc; repeat' split at hc
                  all_goals cases hc
  | seq a b => simp only [cCode] at hc; repeat' split at hc
               all_goals cases hc
  | region id ops draw => simp only [cCode] at hc; repeat' split at hc
                          all_goals cases hc
  | _ => simp [cCode] at hc
theorem bwp_region {al : List AOper} {pr : List Nat} (hn : decide (n0 ≤ S.n) = true) (h : runOps P al S (fun S' => Q .normal S')) : BWP P n0 k (.region false al pr) S Q := by
  intro code hc
  cases code with
  | region id ops draw =>
    simp only [cCode] at hc
    split at hc
    · rename_i al' hal
      split at hc
      · split at hc <;> cases hc
      · rename_i hd
        cases hc
        have : draw = false := by simpa using hd
        subst this
        exact awp_region hal (of_decide_eq_true hn) h
    · cases hc
  | cond c a b => simp only [cCode] at hc; repeat' split at hc
                  all_goals cases hc
  | seq a b => simp only [cCode] at hc; repeat' split at hc
               all_goals cases hc
  | _ => simp [cCode] at hc
end
theorem acalls_of {P : Program} {f : Nat} {fn : Func} {c : ACode} {args : List AV} {m : Mem} {Q : AV → Mem → Prop} {k : Nat} {rs : Array ResultVar} (hf : P.funcs[f]? = some fn)
    (hc : fn.body.bind (cCode P fn.ntmps) = some c) (hk : fn.ntmps = k) (hrs : fn.results = rs)
    (hn : decide (args.length ≤ k) = true) (h : BWP P (mbound m) k c ⟨frm 0 args, m, mbound m⟩ (AEnd P rs (mbound m) Q)) : ACalls P f args m Q := by
  subst hk hrs
  rw [Option.bind_eq_some_iff] at hc
  obtain ⟨code, h1, h2⟩ := hc
  exact acalls_of_awp hf h1 (of_decide_eq_true hn) (h code h2)
end Go.Jq

/- The abstract layer: the rules; regions that draw their order. -/
namespace Go.Jq
open Go
def opK (P : Program) (dst : Option Nat) (op : AOp) (r : List AOper) (K : St → Prop) (t : Fr) (m : Mem) (n : Nat) : Prop :=
  stepOp P ⟨dst, op, none⟩ ⟨t, m, n⟩ fun S' => runOps P r S' K
def contK (P : Program) (dst : Option Nat) (r : List AOper) (K : St → Prop) (t : Fr) (m : Mem) (n : Nat) : Option (AV × Eff) → Prop
  | some (v, e) => runOps P r ⟨putF t dst v, e.mem m n, e.next n⟩ K
  | none => False
def gateK (P : Program) (dst : Option Nat) (op : AOp) (r : List AOper) (K : St → Prop) (t : Fr) (m : Mem) (n : Nat) (want : Bool) : AV → Prop
  | .d (.bool b) => if b = want then opK P dst op r K t m n else runOps P r ⟨putF t dst (.tup []), m, n⟩ K
  | .tup _ => runOps P r ⟨putF t dst (.tup []), m, n⟩ K
  | _ => False
def callK (P : Program) (f : Nat) (args : List AV) (dst : Option Nat) (r : List AOper) (K : St → Prop) (t : Fr) (m : Mem) (n : Nat) : Prop :=
  ∃ R, CallR P f args m n (n ≤ ·) R ∧ ∀ v m' n', R v m' n' → runOps P r ⟨putF t dst v, m', n'⟩ K
def callvK (P : Program) (args : List AV) (dst : Option Nat) (r : List AOper) (K : St → Prop) (t : Fr) (m : Mem) (n : Nat) : AV → Prop
  | .fn f caps => goesB P f = true ∧ callK P f (args ++ caps) dst r K t m n
  | _ => False
section
variable {P : Program} {dst : Option Nat} {op : AOp} {r : List AOper} {K : St → Prop} {t : Fr} {m : Mem} {n : Nat}
@[go_sem] theorem runOps_nil {S : St} : runOps P [] S K = K S := rfl
@[go_sem] theorem runOps_cons : runOps P (⟨dst, op, none⟩ :: r) ⟨t, m, n⟩ K = opK P dst op r K t m n := by
  simp only [runOps, opK, stepOp]
@[go_sem] theorem runOps_guard {g : Nat} {want : Bool} : runOps P (⟨dst, op, some (g, want)⟩ :: r) ⟨t, m, n⟩ K = gateK P dst op r K t m n want (fget t g) := by
  simp only [runOps]
  generalize fget t g = x
  cases x with
  | d x => cases x <;> simp only [gateK, opK, stepOp]
  | _ => simp only [gateK]
@[go_sem] theorem gateK_tt : gateK P dst op r K t m n true (.d (.bool true)) = opK P dst op r K t m n := rfl
@[go_sem] theorem gateK_ff : gateK P dst op r K t m n false (.d (.bool false)) = opK P dst op r K t m n := rfl
@[go_sem] theorem gateK_tf : gateK P dst op r K t m n true (.d (.bool false)) = runOps P r ⟨putF t dst (.tup []), m, n⟩ K := rfl
@[go_sem] theorem gateK_ft : gateK P dst op r K t m n false (.d (.bool true)) = runOps P r ⟨putF t dst (.tup []), m, n⟩ K := rfl
@[go_sem] theorem gateK_tup {want : Bool} {cs : List AV} : gateK P dst op r K t m n want (.tup cs) = runOps P r ⟨putF t dst (.tup []), m, n⟩ K := rfl
theorem opK_aev (h : isCall op = false) : opK P dst op r K t m n = contK P dst r K t m n (aevN op t m n) := by
  have : stepOp P ⟨dst, op, none⟩ ⟨t, m, n⟩ (fun S' => runOps P r S' K) = contK P dst r K t m n (aevN op t m n) := by
    cases op <;> first
      | (simp [isCall] at h; done)
      | (simp only [stepOp]
         generalize aevN _ t m n = x
         cases x with
         | none => rfl
         | some p => obtain ⟨v, e⟩ := p; rfl)
  exact this
@[go_sem] theorem contK_some {v : AV} {e : Eff} : contK P dst r K t m n (some (v, e)) = runOps P r ⟨putF t dst v, e.mem m n, e.next n⟩ K := rfl
@[go_sem] theorem contK_none : contK P dst r K t m n none = False := rfl
@[go_sem] theorem opK_callf {f : Nat} {args : List Opd} : opK P dst (.callf f args) r K t m n = callK P f (args.map (ev t)) dst r K t m n := rfl
@[go_sem] theorem opK_callv {x : Opd} {args : List Opd} : opK P dst (.callv x args) r K t m n = callvK P (args.map (ev t)) dst r K t m n (ev t x) := by
  unfold opK
  simp only [stepOp]
  generalize ev t x = y
  cases y <;> rfl
@[go_sem] theorem callvK_fn {f : Nat} {caps args : List AV} : callvK P args dst r K t m n (.fn f caps) = (goesB P f = true ∧ callK P f (args ++ caps) dst r K t m n) := rfl
@[go_sem] theorem opK_mv {x : Opd} : opK P dst (.mv x) r K t m n = runOps P r ⟨putF t dst (ev t x), m, n⟩ K := rfl
@[go_sem] theorem opK_pick {a b c : Opd} : opK P dst (.pick a b c) r K t m n = contK P dst r K t m n (aevN (.pick a b c) t m n) := opK_aev rfl
@[go_sem] theorem fixZ_d {n : Nat} {x : DV} {r : List AV} : fixZ n (.d x :: r) = .d x :: r := rfl
@[go_sem] theorem fixZ_npt {n i T : Nat} {r : List AV} : fixZ n (.npt i T :: r) = .npt n T :: r := rfl
@[go_sem] theorem fixZ_nil {n : Nat} : fixZ n [] = [] := rfl
@[go_sem] theorem opK_alloc {z : List AV} : opK P dst (.alloc z) r K t m n = runOps P r ⟨putF t dst (.ptr n 0), mset m n (fixZ n z), n + 1⟩ K := rfl
@[go_sem] theorem opK_box {x : Opd} : opK P dst (.box x) r K t m n = contK P dst r K t m n (aevN (.box x) t m n) := opK_aev rfl
@[go_sem] theorem opK_build {z : List AV} {p : List (Nat × Nat × Opd)} : opK P dst (.build z p) r K t m n = contK P dst r K t m n (aevN (.build z p) t m n) := opK_aev rfl
@[go_sem] theorem opK_bslice {a b : Nat} {z : List AV} {p : List (Nat × Nat × Opd)} : opK P dst (.bslice a b z p) r K t m n = contK P dst r K t m n (aevN (.bslice a b z p) t m n) := opK_aev rfl
@[go_sem] theorem opK_load {k : Option Nat} {x : Opd} : opK P dst (.load k x) r K t m n = contK P dst r K t m n (aevN (.load k x) t m n) := opK_aev rfl
@[go_sem] theorem opK_store {k : Nat} {x y : Opd} : opK P dst (.store k x y) r K t m n = contK P dst r K t m n (aevN (.store k x y) t m n) := opK_aev rfl
@[go_sem] theorem opK_nilck {x : Opd} : opK P dst (.nilck x) r K t m n = contK P dst r K t m n (aevN (.nilck x) t m n) := opK_aev rfl
@[go_sem] theorem opK_bin {o : BinOp} {x y : Opd} : opK P dst (.bin o x y) r K t m n = contK P dst r K t m n (aevN (.bin o x y) t m n) := opK_aev rfl
@[go_sem] theorem opK_eqb {o : Bool} {x y : Opd} : opK P dst (.eqb o x y) r K t m n = contK P dst r K t m n (aevN (.eqb o x y) t m n) := opK_aev rfl
@[go_sem] theorem opK_eqp {o : Bool} {x y : Opd} : opK P dst (.eqp o x y) r K t m n = contK P dst r K t m n (aevN (.eqp o x y) t m n) := opK_aev rfl
@[go_sem] theorem opK_eqf {o : Bool} {x y : Opd} : opK P dst (.eqf o x y) r K t m n = contK P dst r K t m n (aevN (.eqf o x y) t m n) := opK_aev rfl
@[go_sem] theorem opK_eqs {k : List Nat} {o : Bool} {x y : Opd} : opK P dst (.eqs k o x y) r K t m n = contK P dst r K t m n (aevN (.eqs k o x y) t m n) := opK_aev rfl
@[go_sem] theorem opK_un {o : UnOp} {x : Opd} : opK P dst (.un o x) r K t m n = contK P dst r K t m n (aevN (.un o x) t m n) := opK_aev rfl
@[go_sem] theorem opK_cvi {k : IntKind} {x : Opd} : opK P dst (.cvi k x) r K t m n = contK P dst r K t m n (aevN (.cvi k x) t m n) := opK_aev rfl
@[go_sem] theorem opK_cvrune {x : Opd} : opK P dst (.cvrune x) r K t m n = contK P dst r K t m n (aevN (.cvrune x) t m n) := opK_aev rfl
@[go_sem] theorem opK_cvbs {x : Opd} : opK P dst (.cvbs x) r K t m n = contK P dst r K t m n (aevN (.cvbs x) t m n) := opK_aev rfl
@[go_sem] theorem opK_cvsb {x : Opd} : opK P dst (.cvsb x) r K t m n = contK P dst r K t m n (aevN (.cvsb x) t m n) := opK_aev rfl
@[go_sem] theorem opK_cvll {x : Opd} : opK P dst (.cvll x) r K t m n = contK P dst r K t m n (aevN (.cvll x) t m n) := opK_aev rfl
@[go_sem] theorem opK_mkfn {f : Nat} {c : List Opd} : opK P dst (.mkfn f c) r K t m n = runOps P r ⟨putF t dst (.fn f (c.map (ev t))), m, n⟩ K := rfl
@[go_sem] theorem opK_mksl {a b : Nat} {z : List AV} {x y : Opd} : opK P dst (.mksl a b z x y) r K t m n = contK P dst r K t m n (aevN (.mksl a b z x y) t m n) := opK_aev rfl
@[go_sem] theorem opK_slcs {x : Opd} {l h : Option Opd} : opK P dst (.slcs x l h) r K t m n = contK P dst r K t m n (aevN (.slcs x l h) t m n) := opK_aev rfl
@[go_sem] theorem opK_slcl {a : Nat} {x : Opd} {l h : Option Opd} : opK P dst (.slcl a x l h) r K t m n = contK P dst r K t m n (aevN (.slcl a x l h) t m n) := opK_aev rfl
@[go_sem] theorem opK_faddr {x : Opd} {o : Nat} : opK P dst (.faddr x o) r K t m n = contK P dst r K t m n (aevN (.faddr x o) t m n) := opK_aev rfl
@[go_sem] theorem opK_fld {x : Opd} {o : Nat} {k : Option Nat} : opK P dst (.fld x o k) r K t m n = contK P dst r K t m n (aevN (.fld x o k) t m n) := opK_aev rfl
@[go_sem] theorem opK_iaddr {e : Nat} {k : Option Nat} {x i : Opd} : opK P dst (.iaddr e k x i) r K t m n = contK P dst r K t m n (aevN (.iaddr e k x i) t m n) := opK_aev rfl
@[go_sem] theorem opK_idxs {x i : Opd} : opK P dst (.idxs x i) r K t m n = contK P dst r K t m n (aevN (.idxs x i) t m n) := opK_aev rfl
@[go_sem] theorem opK_idxa {a e : Nat} {k : Option Nat} {x i : Opd} : opK P dst (.idxa a e k x i) r K t m n = contK P dst r K t m n (aevN (.idxa a e k x i) t m n) := opK_aev rfl
@[go_sem] theorem opK_ext {x : Opd} {i : Nat} : opK P dst (.ext x i) r K t m n = contK P dst r K t m n (aevN (.ext x i) t m n) := opK_aev rfl
@[go_sem] theorem opK_lens {x : Opd} : opK P dst (.lens x) r K t m n = contK P dst r K t m n (aevN (.lens x) t m n) := opK_aev rfl
@[go_sem] theorem opK_lenl {x : Opd} : opK P dst (.lenl x) r K t m n = contK P dst r K t m n (aevN (.lenl x) t m n) := opK_aev rfl
@[go_sem] theorem opK_minI {x y : Opd} : opK P dst (.minI x y) r K t m n = contK P dst r K t m n (aevN (.minI x y) t m n) := opK_aev rfl
@[go_sem] theorem opK_maxI {x y : Opd} : opK P dst (.maxI x y) r K t m n = contK P dst r K t m n (aevN (.maxI x y) t m n) := opK_aev rfl
@[go_sem] theorem opK_app {a b e : Nat} {x y : Opd} : opK P dst (.app a b e x y) r K t m n = contK P dst r K t m n (aevN (.app a b e x y) t m n) := opK_aev rfl
end
attribute [go_sem] Nat.reduceEqDiff Nat.reduceAdd Nat.reduceLeDiff Nat.reduceMul Nat.reduceSub Int.reduceLE Int.reduceLT Int.reduceEq Int.reduceToNat Int.reducePow Int.reduceNeg
attribute [go_sem] aevN ev fget putF Eff.mem Eff.next mget mset mdel shI unA eqpA eqfA eqCell eqCells bndA slcA cellsOf oneB putAt fillA evParts bytesAV elemsOf wrapI boolA frm cellBytes
section
variable {k : IntKind} {a b : Int}
@[go_sem] theorem binA_add : binA .add (.d (.int k a)) (.d (.int k b)) = some (.d (.int k (k.wrap (a + b)))) := by simp [binA, binI, wrapI]
@[go_sem] theorem binA_sub : binA .sub (.d (.int k a)) (.d (.int k b)) = some (.d (.int k (k.wrap (a - b)))) := by simp [binA, binI, wrapI]
@[go_sem] theorem binA_mul : binA .mul (.d (.int k a)) (.d (.int k b)) = some (.d (.int k (k.wrap (a * b)))) := by simp [binA, binI, wrapI]
@[go_sem] theorem binA_quo : binA .quo (.d (.int k a)) (.d (.int k b)) = if b = 0 then none else some (.d (.int k (k.wrap (a.tdiv b)))) := by simp [binA, binI, wrapI]
@[go_sem] theorem binA_rem : binA .rem (.d (.int k a)) (.d (.int k b)) = if b = 0 then none else some (.d (.int k (a.tmod b))) := by simp [binA, binI]
@[go_sem] theorem binA_and : binA .and (.d (.int k a)) (.d (.int k b)) = some (.d (.int k (bits .and k a b))) := by simp [binA, binI]
@[go_sem] theorem binA_or : binA .or (.d (.int k a)) (.d (.int k b)) = some (.d (.int k (bits .or k a b))) := by simp [binA, binI]
@[go_sem] theorem binA_xor : binA .xor (.d (.int k a)) (.d (.int k b)) = some (.d (.int k (bits .xor k a b))) := by simp [binA, binI]
@[go_sem] theorem binA_andNot : binA .andNot (.d (.int k a)) (.d (.int k b)) = some (.d (.int k (bits .andNot k a b))) := by simp [binA, binI]
@[go_sem] theorem binA_shl {k' : IntKind} : binA .shl (.d (.int k a)) (.d (.int k' b)) = if b < 0 then none else some (.d (.int k (k.wrap (a * 2 ^ min b.toNat k.bits)))) := by simp [binA, shI, wrapI]
@[go_sem] theorem binA_shr {k' : IntKind} : binA .shr (.d (.int k a)) (.d (.int k' b)) = if b < 0 then none else some (.d (.int k (a.fdiv (2 ^ min b.toNat k.bits)))) := by simp [binA, shI]
@[go_sem] theorem binA_eql : binA .eql (.d (.int k a)) (.d (.int k b)) = some (.d (.bool (decide (a = b)))) := by simp [binA, binI, boolA]
@[go_sem] theorem binA_neq : binA .neq (.d (.int k a)) (.d (.int k b)) = some (.d (.bool (!decide (a = b)))) := by simp [binA, binI, boolA]
@[go_sem] theorem binA_lss : binA .lss (.d (.int k a)) (.d (.int k b)) = some (.d (.bool (decide (a < b)))) := by simp [binA, binI, boolA]
@[go_sem] theorem binA_leq : binA .leq (.d (.int k a)) (.d (.int k b)) = some (.d (.bool (decide (a ≤ b)))) := by simp [binA, binI, boolA]
@[go_sem] theorem binA_gtr : binA .gtr (.d (.int k a)) (.d (.int k b)) = some (.d (.bool (decide (b < a)))) := by simp [binA, binI, boolA]
@[go_sem] theorem binA_geq : binA .geq (.d (.int k a)) (.d (.int k b)) = some (.d (.bool (decide (b ≤ a)))) := by simp [binA, binI, boolA]
end
section
variable {a b : List UInt8}
@[go_sem] theorem binA_sadd : binA .add (.d (.str a)) (.d (.str b)) = if a.length + b.length ≤ 9223372036854775807 then some (.d (.str (a ++ b))) else none := by simp [binA, binS]
@[go_sem] theorem binA_seql : binA .eql (.d (.str a)) (.d (.str b)) = some (.d (.bool (decide (a = b)))) := by simp [binA, binS, boolA]
@[go_sem] theorem binA_sneq : binA .neq (.d (.str a)) (.d (.str b)) = some (.d (.bool (!decide (a = b)))) := by simp [binA, binS, boolA]
end
attribute [go_sem] Int.cast_ofNat_Int true_and and_true and_self Nat.mul_one Nat.add_zero Nat.zero_add Nat.zero_mul Option.map_some Option.map_none List.map_cons List.map_nil decide_eq_true_eq decide_eq_false_iff_not
theorem wrap_i64 {n : Int} (h0 : -9223372036854775808 ≤ n) (h1 : n ≤ 9223372036854775807) : IntKind.i64.wrap n = n := by
  have e1 : (2 ^ (64 - 1) : Int) = 9223372036854775808 := rfl
  have e2 : (2 ^ 64 : Int) = 18446744073709551616 := rfl
  simp only [IntKind.wrap, IntKind.signed, IntKind.bits, e1, e2, Bool.true_and, decide_eq_true_eq]
  split <;> omega
@[go_sem] theorem thenA_normal {N : St → Prop} {Q : Exit → St → Prop} {S : St} : Exit.thenA N Q .normal S = N S := rfl
@[go_sem] theorem thenA_ret {N : St → Prop} {Q : Exit → St → Prop} {S : St} : Exit.thenA N Q .ret S = Q .ret S := rfl
@[go_sem] theorem thenA_exit {N : St → Prop} {Q : Exit → St → Prop} {S : St} {i : Nat} : Exit.thenA N Q (.exit i) S = Q (.exit i) S := rfl
@[go_sem] theorem inBlockA_normal {j : Nat} {Q : Exit → St → Prop} {S : St} : Exit.inBlockA j Q .normal S = Q .normal S := rfl
@[go_sem] theorem inBlockA_ret {j : Nat} {Q : Exit → St → Prop} {S : St} : Exit.inBlockA j Q .ret S = Q .ret S := rfl
@[go_sem] theorem inBlockA_exit {j i : Nat} {Q : Exit → St → Prop} {S : St} : Exit.inBlockA j Q (.exit i) S = if i = j then Q .normal S else Q (.exit i) S := rfl
@[go_sem] theorem lenA_nsl : lenA (.d .nsl) = some 0 := rfl
@[go_sem] theorem lenA_d {n : Nat} {cs : List DV} : lenA (.d (.sl n cs)) = some n := rfl
@[go_sem] theorem lenA_sl {i e o n : Nat} : lenA (.sl i e o n) = some n := rfl
@[go_sem] theorem loadA_none {cs : List AV} : loadA none cs = cs[0]? := rfl
@[go_sem] theorem loadA_some {k : Nat} {cs : List AV} : loadA (some k) cs = if k ≤ cs.length then some (.agg (cs.take k)) else none := rfl
@[go_sem] theorem natMax_def {a b : Nat} : Nat.max a b = if a ≤ b then b else a := Nat.max_def
@[go_sem] theorem mbound_nil : mbound [] = 0 := rfl
@[go_sem] theorem mbound_cons {i : Nat} {c : List AV} {r : Mem} : mbound ((i, c) :: r) = Nat.max (i + 1) (mbound r) := rfl
theorem aend_ret {P : Program} {rs : Array ResultVar} {n0 : Nat} {Q : AV → Mem → Prop} {S : St} (v : AV) (hv : resA P rs S = some v) (hc : v.ren (fun _ => none) = v) (hq : Q v []) : AEnd P rs n0 Q .ret S :=
  ⟨v, hv, [], [], rfl, rfl, trivial, by
    have : pget [] = fun _ => none := rfl
    rw [this, hc]
    exact hq⟩
end Go.Jq
namespace Go.Jq
open Go
structure Out where
  v : AV
  act : Mem → Mem
  U : Nat → Option (Option (List AV))
  keys : List Nat
  F : List Nat
  lo : Nat
  hi : Nat
def Out.ok (o : Out) : Prop :=
  (∀ m id, mget (o.act m) id = match o.U id with
    | some x => x
    | none => mget m id) ∧ (∀ id, o.U id ≠ none → id ∈ o.keys)
section
variable {P : Program} {k : Nat} {ops : Array Oper}
def LStep (P : Program) (k : Nat) (o : Oper) (t : Fr) (m : Mem) (out : Out) : Prop :=
  ∀ (c : Ctx) (a : Act) (w : World), a.defers = [] → a.tmps.size = k → FR c w t a.tmps → MR c m w → (∀ id, out.lo ≤ id → id < out.hi → c.φ id = .free) →
    ∀ (Kw : Act → World → Prop) (Q : Exit → Act → World → Prop),
      (∀ u w' c', (Rel c' w' out.v u ∨ out.v = .any) → MR c' (out.act m) w' → Step (Own c m) c c' w w' → (∀ b, Own c' (out.act m) b → Own c m b ∨ w.heap.size ≤ b) →
        (∀ id, ¬ (out.lo ≤ id ∧ id < out.hi) → c'.φ id = c.φ id) → (∀ id, ¬ (out.lo ≤ id ∧ id < out.hi) → (mget (out.act m) id).isSome → (mget m id).isSome) → Kw (a.put o.dst u) w') →
      o.wp P a w Kw Q
def LocalOut (P : Program) (k : Nat) (ops : Array Oper) (o : Oper) (t : Fr) (m : Mem) (out : Out) : Prop :=
  ∀ t' m', (∀ s ∈ o.looksAt ops, fget t' s = fget t s) → (∀ id ∈ out.F, mget m' id = mget m id) → LStep P k o t' m' out
def wantA (ops : Array Oper) (o : Oper) (t : Fr) : Option Bool :=
  match o.guard with
  | none => some true
  | some (j, w) => match (ops[j]?).bind (·.dst) with
    | some d => match fget t d with
      | .d (.bool b) => some (b == w)
      | .tup _ => some false
      | _ => none
    | none => none
def WantOK (P : Program) (k : Nat) (ops : Array Oper) (o : Oper) (t : Fr) (m : Mem) (out : Out) : Prop :=
  (wantA ops o t = some true ∧ LocalOut P k ops o t m out) ∨ (wantA ops o t = some false ∧ out.v = .tup [] ∧ (∀ id, out.U id = none))
theorem wantA_same {o : Oper} {t t' : Fr} (h : ∀ s ∈ o.looksAt ops, fget t' s = fget t s) : wantA ops o t' = wantA ops o t := by
  unfold wantA
  cases hg : o.guard with
  | none => rfl
  | some jw =>
    obtain ⟨j, w⟩ := jw
    simp only
    cases hd : (ops[j]?).bind (·.dst) with
    | none => rfl
    | some d =>
      have := h d (by simp [Oper.looksAt, hg, hd])
      simp only [this]
theorem WantOK.same {o : Oper} {t t' : Fr} {m m' : Mem} {out : Out} (h : WantOK P k ops o t m out) (ht : ∀ s ∈ o.looksAt ops, fget t' s = fget t s) (hm : ∀ id ∈ out.F, mget m' id = mget m id) :
    WantOK P k ops o t' m' out := by
  have hw := wantA_same ht
  rcases h with ⟨h1, h2⟩ | ⟨h1, h2⟩
  · exact .inl ⟨hw.trans h1, fun t2 m2 ht2 hm2 => h2 t2 m2 (fun s hs => (ht2 s hs).trans (ht s hs)) (fun id hid => (hm2 id hid).trans (hm id hid))⟩
  · exact .inr ⟨hw.trans h1, h2⟩
def Alk (t : Fr) (m : Mem) (t' : Fr) (m' : Mem) : Prop := (∀ i, fget t' i = fget t i) ∧ (∀ id, mget m' id = mget m id)
theorem fget_putF (t : Fr) (dst : Option Nat) (v : AV) (i : Nat) : fget (putF t dst v) i = if dst = some i then v else fget t i := by
  cases dst with
  | none => simp [putF]
  | some d => by_cases h : d = i <;> simp [putF, fget, h]
theorem Alk.next {t t' : Fr} {m m' : Mem} {out : Out} (h : Alk t m t' m') (hok : out.ok) (dst : Option Nat) : Alk (putF t dst out.v) (out.act m) (putF t' dst out.v) (out.act m') := by
  refine ⟨fun i => ?_, fun id => ?_⟩
  · rw [fget_putF, fget_putF, h.1 i]
  · rw [hok.1, hok.1, h.2 id]
def aOp (P : Program) (k : Nat) (ops : Array Oper) (outs : List Out) (i : Nat) (K : Fr → Mem → Prop) (t : Fr) (m : Mem) : Prop :=
  ∃ o out, ops[i]? = some o ∧ outs[i]? = some out ∧ WantOK P k ops o t m out ∧ K (putF t o.dst out.v) (out.act m)
def wpAnyA (P : Program) (k : Nat) (ops : Array Oper) (outs : List Out) (K : Fr → Mem → Prop) : Nat → Array Bool → Fr → Mem → Prop
  | 0, listed, t, m => Region.ready .any ops listed = [] ∧ K t m
  | fuel + 1, listed, t, m => (Region.ready .any ops listed = [] → K t m) ∧ ∀ i ∈ Region.ready .any ops listed, aOp P k ops outs i (wpAnyA P k ops outs K fuel (listed.setIfInBounds i true)) t m
theorem wpAnyA_alk {outs : List Out} (hok : ∀ (i : Nat) (o : Out), outs[i]? = some o → o.ok) {K : Fr → Mem → Prop} (hK : ∀ t m t' m', Alk t m t' m' → K t m → K t' m') :
    ∀ (fuel : Nat) (listed : Array Bool) (t : Fr) (m : Mem) (t' : Fr) (m' : Mem), Alk t m t' m' → wpAnyA P k ops outs K fuel listed t m → wpAnyA P k ops outs K fuel listed t' m'
  | 0, _, t, m, t', m', ha, h => ⟨h.1, hK t m t' m' ha h.2⟩
  | fuel + 1, listed, t, m, t', m', ha, h => by
    refine ⟨fun h0 => hK t m t' m' ha (h.1 h0), fun i hi => ?_⟩
    obtain ⟨o, out, h1, h2, h3, h4⟩ := h.2 i hi
    exact ⟨o, out, h1, h2, h3.same (fun s _ => ha.1 s) (fun id _ => ha.2 id), wpAnyA_alk hok hK fuel _ _ _ _ _ (ha.next (hok i out h2) o.dst) h4⟩
def indep (x y : Out) : Prop := (∀ id ∈ x.keys, id ∉ y.F) ∧ (∀ id ∈ y.keys, id ∉ x.F) ∧ (∀ id ∈ x.keys, id ∉ y.keys)
theorem act_same {x : Out} (hx : x.ok) {m : Mem} {id : Nat} (h : id ∉ x.keys) : mget (x.act m) id = mget m id := by
  rw [hx.1]
  cases hu : x.U id with
  | none => rfl
  | some y => exact absurd (hx.2 id (by rw [hu]; simp)) h
theorem looks_put {oi oj : Oper} (hap : ∀ d, oi.dst = some d → d ∉ oj.looksAt ops) (t : Fr) (v : AV) : ∀ s ∈ oj.looksAt ops, fget (putF t oi.dst v) s = fget t s := by
  intro s hs
  rw [fget_putF]
  split
  · rename_i e; exact absurd hs (hap s e)
  · rfl
theorem swap_alk {oi oj : Oper} {x y : Out} (hx : x.ok) (hy : y.ok) (hd : ∀ d, oi.dst = some d → oj.dst ≠ some d) (hk : ∀ id ∈ x.keys, id ∉ y.keys) (t : Fr) (m : Mem) :
    Alk (putF (putF t oi.dst x.v) oj.dst y.v) (y.act (x.act m)) (putF (putF t oj.dst y.v) oi.dst x.v) (x.act (y.act m)) := by
  refine ⟨fun s => ?_, fun id => ?_⟩
  · simp only [fget_putF]
    by_cases h1 : oi.dst = some s
    · rw [if_pos h1, if_neg (hd s h1), if_pos h1]
    · rw [if_neg h1, if_neg h1]
  · rw [hx.1, hy.1, hy.1, hx.1]
    cases hu : x.U id with
    | none => rfl
    | some q =>
      have : y.U id = none := by
        cases hu' : y.U id with
        | none => rfl
        | some q' => exact absurd (hy.2 id (by rw [hu']; simp)) (hk id (hx.2 id (by rw [hu]; simp)))
      rw [this]
inductive Anc (ops : Array Oper) : Nat → Nat → Prop
  | one {i j : Nat} {oj : Oper} {e : Edge} : ops[j]? = some oj → e ∈ oj.after → Region.binds .any e = true → e.on = i → Anc ops i j
  | more {i k j : Nat} {oj : Oper} {e : Edge} : ops[j]? = some oj → e ∈ oj.after → Region.binds .any e = true → e.on = k → Anc ops i k → Anc ops i j
theorem Anc.trans {i k j : Nat} (h : Anc ops i k) (h' : Anc ops k j) : Anc ops i j := by
  induction h' with
  | one ho he hb heq => exact .more ho he hb heq h
  | more ho he hb heq _ ih => exact .more ho he hb heq ih
def Down (ops : Array Oper) (listed : Array Bool) : Prop :=
  ∀ (a : Nat) (oa : Oper), ops[a]? = some oa → listed.getD a false = true → ∀ e ∈ oa.after, Region.binds .any e = true → listed.getD e.on false = true
theorem Down.anc {listed : Array Bool} (h : Down ops listed) {i j : Nat} (ha : Anc ops i j) : listed.getD j false = true → listed.getD i false = true := by
  induction ha with
  | one ho he hb heq => intro hj; rw [← heq]; exact h _ _ ho hj _ he hb
  | more ho he hb heq _ ih => intro hj; refine ih ?_; rw [← heq]; exact h _ _ ho hj _ he hb
theorem Down.not_anc {listed : Array Bool} (h : Down ops listed) {i j : Nat} (hi : i ∈ Region.ready .any ops listed) (hj : j ∈ Region.ready .any ops listed) : ¬ Anc ops i j := by
  intro ha
  have h0 : listed.getD i false = false := by
    have := (mem_ready.1 hi).1
    rcases Nat.lt_or_ge i listed.size with h' | h'
    · simp [h'] at this ⊢; exact this
    · simp [Array.getElem?_eq_none h'] at this
  obtain ⟨_, oj, hoj, hall⟩ := mem_ready.1 hj
  have h1 : listed.getD i false = true := by
    cases ha with
    | one ho he hb heq =>
      rw [hoj] at ho; cases ho
      rw [← heq]; exact hall _ he hb
    | more ho he hb heq ha' =>
      rw [hoj] at ho; cases ho
      refine h.anc ha' ?_
      rw [← heq]; exact hall _ he hb
  rw [h1] at h0
  cases h0
theorem Down.next {listed : Array Bool} (h : Down ops listed) {j : Nat} (hj : j ∈ Region.ready .any ops listed) : Down ops (listed.setIfInBounds j true) := by
  intro a oa hoa hl e he hb
  obtain ⟨_, oj, hoj, hall⟩ := mem_ready.1 hj
  refine getD_set_true ?_
  by_cases haj : j = a
  · subst haj
    rw [hoj] at hoa; cases hoa
    exact hall e he hb
  · rw [getD_set_ne false haj] at hl
    exact h a oa hoa hl e he hb
theorem wpAnyA_first {outs : List Out} (hok : ∀ (i : Nat) (o : Out), outs[i]? = some o → o.ok) {K : Fr → Mem → Prop} (hK : ∀ t m t' m', Alk t m t' m' → K t m → K t' m') {i : Nat} {oi : Oper} {x : Out}
    (hi : ops[i]? = some oi) (hx : outs[i]? = some x) :
    ∀ (fuel : Nat) (listed : Array Bool) (t : Fr) (m : Mem),
      (∀ (j : Nat) (oj : Oper) (y : Out), ops[j]? = some oj → outs[j]? = some y → j ≠ i → listed.getD j true = false → ¬ Anc ops i j → oi.apart ops oj = true ∧ indep x y) →
      Down ops listed → i ∈ Region.ready .any ops listed → WantOK P k ops oi t m x →
      wpAnyA P k ops outs K fuel (listed.setIfInBounds i true) (putF t oi.dst x.v) (x.act m) → wpAnyA P k ops outs K (fuel + 1) listed t m := by
  intro fuel
  induction fuel with
  | zero =>
    intro listed t m _ _ hr hy H
    refine ⟨fun h => (by rw [h] at hr; cases hr), fun j hj => ?_⟩
    by_cases hji : j = i
    · subst hji; exact ⟨oi, x, hi, hx, hy, H⟩
    · have := ready_mono hj hji
      rw [H.1] at this
      cases this
  | succ fuel ih =>
    intro listed t m hfree hdn hr hy H
    refine ⟨fun h => (by rw [h] at hr; cases hr), fun j hj => ?_⟩
    by_cases hji : j = i
    · subst hji; exact ⟨oi, x, hi, hx, hy, H⟩
    · obtain ⟨oj, y, hoj, hyj, hwant, hrest⟩ := H.2 j (ready_mono hj hji)
      have hjun := (mem_ready.1 hj).1
      have hnot := hdn.not_anc hr hj
      obtain ⟨hap, hind1, hind2, hind3⟩ := hfree j oj y hoj hyj hji hjun hnot
      obtain ⟨a1, a2, a3⟩ := Oper.apart_spec hap
      have hxok := hok i x hx
      have hyok := hok j y hyj
      have hwj : WantOK P k ops oj t m y := hwant.same (fun s hs => (looks_put a1 t x.v s hs).symm) (fun id hid => (act_same hxok (fun h => hind1 id h hid)).symm)
      refine ⟨oj, y, hoj, hyj, hwj, ?_⟩
      have hfree' : ∀ (l : Nat) (ol : Oper) (z : Out), ops[l]? = some ol → outs[l]? = some z → l ≠ i → (listed.setIfInBounds j true).getD l true = false →
          ¬ Anc ops i l → oi.apart ops ol = true ∧ indep x z := fun l ol z hl hz hli hun hno => by
        refine hfree l ol z hl hz hli ?_ hno
        by_cases hjl : j = l
        · subst hjl; exact hjun
        · rw [getD_set_ne true hjl] at hun; exact hun
      have hwi : WantOK P k ops oi (putF t oj.dst y.v) (y.act m) x := hy.same (looks_put a3 t y.v) (fun id hid => act_same hyok (fun h => hind2 id h hid))
      refine ih (listed.setIfInBounds j true) _ _ hfree' (hdn.next hj) (ready_mono hr (Ne.symm hji)) hwi ?_
      rw [Array.setIfInBounds_comm _ _ hji]
      exact wpAnyA_alk hok hK _ _ _ _ _ _ (swap_alk hxok hyok a2 hind3 t m) hrest
def RunOuts (P : Program) (k : Nat) (ops : Array Oper) (K : Fr → Mem → Prop) : List Oper → List Out → Fr → Mem → Prop
  | [], [], t, m => K t m
  | o :: r, x :: xs, t, m => WantOK P k ops o t m x ∧ RunOuts P k ops K r xs (putF t o.dst x.v) (x.act m)
  | _, _, _, _ => False
theorem wpAnyA_lex {outs : List Out} (hok : ∀ (i : Nat) (o : Out), outs[i]? = some o → o.ok) {K : Fr → Mem → Prop} (hK : ∀ t m t' m', Alk t m t' m' → K t m → K t' m')
    (hind : ∀ (i j : Nat) (oj : Oper) (x y : Out), i < j → ops[j]? = some oj → outs[i]? = some x → outs[j]? = some y → ¬ Anc ops i j → indep x y) :
    ∀ (l : List Oper) (xs : List Out) (i : Nat) (listed : Array Bool) (t : Fr) (m : Mem), (∀ j, l[j]? = ops[i + j]?) → (∀ j, xs[j]? = outs[i + j]?) → (∀ j, j < i → listed.getD j true = true) → Down ops listed →
      Region.lexFrom .any ops l.length i listed = true → RunOuts P k ops K l xs t m → wpAnyA P k ops outs K l.length listed t m
  | [], [], _, _, _, _, _, _, _, _, hB, h => ⟨by simpa [Region.lexFrom] using hB, h⟩
  | [], _ :: _, _, _, _, _, _, _, _, _, _, h => h.elim
  | _ :: _, [], _, _, _, _, _, _, _, _, _, h => h.elim
  | o :: l, x :: xs, i, listed, t, m, hl, hxs, hpre, hdn, hB, h => by
    have h0 : ops[i]? = some o := by simpa using (hl 0).symm
    have hx0 : outs[i]? = some x := by simpa using (hxs 0).symm
    simp only [List.length_cons, Region.lexFrom, Bool.and_eq_true] at hB
    obtain ⟨⟨hr, hf⟩, hB'⟩ := hB
    obtain ⟨hw, hrest⟩ := h
    refine wpAnyA_first hok hK h0 hx0 l.length listed t m (fun j oj y hoj hyj hji hun hno => ?_) hdn (by simpa using hr) hw
      (wpAnyA_lex hok hK hind l xs (i + 1) _ _ _ (fun j => by have := hl (j + 1); simpa [Nat.add_assoc, Nat.add_comm 1 j] using this) (fun j => by have := hxs (j + 1); simpa [Nat.add_assoc, Nat.add_comm 1 j] using this)
        (fun j hj => ?_) (hdn.next (by simpa using hr)) hB' hrest)
    · have hlt : i < j := by
        rcases Nat.lt_or_ge i j with h1 | h1
        · exact h1
        · have : j < i := by omega
          rw [hpre j this] at hun
          cases hun
      exact ⟨Region.free_spec h0 hf j oj hoj hji hun (fun e he hb heq => hno (.one hoj he hb heq)), hind i j oj x y hlt hoj hx0 hyj hno⟩
    · by_cases hji : j = i
      · subst hji
        rcases Nat.lt_or_ge j listed.size with h1 | h1
        · simp [h1]
        · simp [Nat.not_lt.2 (by simpa using h1 : listed.size ≤ j)]
      · rw [getD_set_ne true (Ne.symm hji)]
        exact hpre j (by omega)
end
end Go.Jq
namespace Go.Jq
open Go
structure Foot where
  keys : List Nat
  F : List Nat
def indep2 (x y : Foot) : Bool := x.keys.all (fun i => !y.F.contains i && !y.keys.contains i) && y.keys.all (fun i => !x.F.contains i)
def chkF (f : Foot) (m : Nat) : Nat → List Foot → Bool
  | _, [] => true
  | i, g :: r => (m.testBit i || indep2 g f) && chkF f m (i + 1) r
def indepFrom (early : List Foot) : List Foot → List Nat → Bool
  | [], _ => true
  | f :: r, m :: ms => chkF f m 0 early && indepFrom (early ++ [f]) r ms
  | _ :: _, [] => false
theorem chkF_spec {f : Foot} {m : Nat} : ∀ {l : List Foot} {k : Nat}, chkF f m k l = true → ∀ i g, l[i]? = some g → m.testBit (k + i) = false → indep2 g f = true
  | [], _, _, i, g, hi, _ => by simp at hi
  | x :: l, k, h, i, g, hi, hb => by
    simp only [chkF, Bool.and_eq_true, Bool.or_eq_true] at h
    cases i with
    | zero => simp at hi; subst hi; rw [Nat.add_zero] at hb; rcases h.1 with h1 | h1
              · rw [hb] at h1; cases h1
              · exact h1
    | succ i => exact chkF_spec h.2 i g (by simpa using hi) (by rw [← hb]; congr 1; omega)
theorem indepFrom_spec : ∀ {l early : List Foot} {ms : List Nat}, indepFrom early l ms = true → ∀ i j fi fj, i < early.length + j → (early ++ l)[i]? = some fi → l[j]? = some fj →
    ∃ m, ms[j]? = some m ∧ (m.testBit i = false → indep2 fi fj = true)
  | [], _, _, _, i, j, fi, fj, _, _, hj => by simp at hj
  | f :: l, early, [], h, i, j, fi, fj, _, _, _ => by simp [indepFrom] at h
  | f :: l, early, m :: ms, h, i, j, fi, fj, hlt, hi, hj => by
    simp only [indepFrom, Bool.and_eq_true] at h
    cases j with
    | zero =>
      simp at hj
      subst hj
      refine ⟨m, rfl, fun hb => chkF_spec h.1 i fi ?_ (by simpa using hb)⟩
      rw [List.getElem?_append_left (by simpa using hlt)] at hi
      exact hi
    | succ j =>
      obtain ⟨m', h1, h2⟩ := indepFrom_spec h.2 i j fi fj (by simp; omega) (by simpa using hi) (by simpa using hj)
      exact ⟨m', by simpa using h1, h2⟩
def orM (m : Nat) : Nat → List Nat → Nat
  | _, [] => 0
  | i, c :: r => (if m.testBit i then c else 0) ||| orM m (i + 1) r
def closeM (done : List Nat) : List Nat → List Nat
  | [] => []
  | m :: ms => (m ||| orM m 0 done) :: closeM (done ++ [m ||| orM m 0 done]) ms
theorem orM_spec {m b : Nat} : ∀ {l : List Nat} {i : Nat}, (orM m i l).testBit b = true → ∃ k c, l[k]? = some c ∧ m.testBit (i + k) = true ∧ c.testBit b = true
  | [], _, h => by simp [orM] at h
  | c :: r, i, h => by
    rw [orM, Nat.testBit_or, Bool.or_eq_true] at h
    rcases h with h | h
    · split at h
      · rename_i hm; exact ⟨0, c, rfl, hm, h⟩
      · simp at h
    · obtain ⟨k, c', h1, h2, h3⟩ := orM_spec h
      exact ⟨k + 1, c', by simpa using h1, by rw [← h2]; congr 1; omega, h3⟩
theorem closeM_spec {R : Nat → Nat → Prop} (hR : ∀ {i k j}, R i k → R k j → R i j) : ∀ {ms done : List Nat}, (∀ k c b, done[k]? = some c → c.testBit b = true → R b k) → (∀ j m b, ms[j]? = some m → m.testBit b = true → R b (done.length + j)) →
    ∀ j c b, (closeM done ms)[j]? = some c → c.testBit b = true → R b (done.length + j)
  | [], _, _, _, j, c, b, h, _ => by simp [closeM] at h
  | m :: ms, done, hd, hm, j, c, b, h, hb => by
    have hm0 : ∀ b, (m ||| orM m 0 done).testBit b = true → R b done.length := by
      intro b hb
      rw [Nat.testBit_or, Bool.or_eq_true] at hb
      rcases hb with hb | hb
      · simpa using hm 0 m b rfl hb
      · obtain ⟨k, c', h1, h2, h3⟩ := orM_spec hb
        exact hR (hd k c' b h1 h3) (by simpa using hm 0 m k rfl (by simpa using h2))
    cases j with
    | zero =>
      simp only [closeM, List.getElem?_cons_zero, Option.some.injEq] at h
      subst h
      exact hm0 b hb
    | succ j =>
      simp only [closeM, List.getElem?_cons_succ] at h
      have := closeM_spec (R := R) hR (ms := ms) (done := done ++ [m ||| orM m 0 done]) (fun k c' b' h1 h2 => by
        rcases Nat.lt_or_ge k done.length with hk | hk
        · rw [List.getElem?_append_left hk] at h1
          exact hd k c' b' h1 h2
        · rw [List.getElem?_append_right hk] at h1
          have hk0 : k - done.length = 0 := by
            rcases Nat.eq_zero_or_pos (k - done.length) with h0 | h0
            · exact h0
            · rw [List.getElem?_eq_none (by simp; omega)] at h1; cases h1
          rw [hk0] at h1
          simp only [List.getElem?_cons_zero, Option.some.injEq] at h1
          subst h1
          have : k = done.length := by omega
          rw [this]
          exact hm0 b' h2) (fun j' m' b' h1 h2 => by
            have := hm (j' + 1) m' b' (by simpa using h1) h2
            rw [List.length_append, List.length_cons, List.length_nil]
            rw [show done.length + (0 + 1) + j' = done.length + (j' + 1) by omega]
            exact this) j c b h hb
      rw [List.length_append, List.length_cons, List.length_nil] at this
      rw [show done.length + (j + 1) = done.length + (0 + 1) + j by omega]
      exact this
def idOf : AV → List Nat
  | .ptr id _ => [id]
  | .sl id _ _ _ => [id]
  | .slT id _ _ => [id]
  | _ => []
def footF (t : Fr) : AOp → List Nat
  | .load _ x => idOf (ev t x)
  | .store _ a _ => idOf (ev t a)
  | .cvbs x => idOf (ev t x)
  | .cvll x => idOf (ev t x)
  | .app _ _ _ x y => idOf (ev t x) ++ idOf (ev t y)
  | _ => []
def keysOf (n : Nat) : Eff → List Nat
  | .nil => []
  | .new _ => [n]
  | .put id _ => [id]
  | .mov id _ => [id, n]
theorem ev_same {t t' : Fr} {x : Opd} (h : ∀ s ∈ x.slots, fget t' s = fget t s) : ev t' x = ev t x := by
  cases x with
  | t i => exact h i (by simp [Opd.slots])
  | c x => rfl
theorem evs_same {t t' : Fr} : ∀ {xs : List Opd}, (∀ s ∈ xs.flatMap Opd.slots, fget t' s = fget t s) → xs.map (ev t') = xs.map (ev t)
  | [], _ => rfl
  | x :: xs, h => by
    simp only [List.map_cons]
    rw [ev_same fun s hs => h s (by simp [List.flatMap_cons, hs]), evs_same fun s hs => h s (by rw [List.flatMap_cons]; exact List.mem_append_right _ hs)]
theorem evParts_same {t t' : Fr} : ∀ {ps : List (Nat × Nat × Opd)}, (∀ s ∈ ps.flatMap (fun p => p.2.2.slots), fget t' s = fget t s) → evParts t' ps = evParts t ps
  | [], _ => rfl
  | p :: ps, h => by
    have ih := evParts_same (t := t) (t' := t') (ps := ps) fun s hs => h s (by rw [List.flatMap_cons]; exact List.mem_append_right _ hs)
    simp only [evParts] at ih ⊢
    simp only [List.map_cons]
    rw [ev_same fun s hs => h s (by rw [List.flatMap_cons]; exact List.mem_append_left _ hs), ih]
theorem opt_same {t t' : Fr} {x : Option Opd} (h : ∀ s ∈ optSlots x, fget t' s = fget t s) : x.map (ev t') = x.map (ev t) := by
  cases x with
  | none => rfl
  | some x => simp only [Option.map_some]; rw [ev_same h]
theorem elemsOf_same {m m' : Mem} {esz : Nat} {y : AV} (h : ∀ id ∈ idOf y, mget m' id = mget m id) : elemsOf m' esz y = elemsOf m esz y := by
  cases y with
  | sl id e off len => simp only [elemsOf, h id (by simp [idOf])]
  | d x => cases x <;> rfl
  | _ => rfl
theorem aevN_local {o : AOp} {t t' : Fr} {m m' : Mem} {n : Nat} (ht : ∀ s ∈ o.slots, fget t' s = fget t s) (hm : ∀ id ∈ footF t o, mget m' id = mget m id) : aevN o t' m' n = aevN o t m n := by
  have one : ∀ {x : Opd}, (∀ s ∈ x.slots, s ∈ o.slots) → ev t' x = ev t x := fun h => ev_same fun s hs => ht s (h s hs)
  cases o with
  | alloc z => rfl
  | callf f as => rfl
  | callv x as => rfl
  | build z ps => simp only [aevN, evParts_same ht]
  | bslice a b z ps => simp only [aevN, evParts_same ht]
  | mkfn f cs => simp only [aevN, evs_same ht]
  | pick c a b => simp only [aevN]; rw [one (x := c) (by simp +contextual [AOp.slots]), one (x := a) (by simp +contextual [AOp.slots]), one (x := b) (by simp +contextual [AOp.slots])]
  | slcs x l h => simp only [aevN]; rw [one (x := x) (by simp +contextual [AOp.slots]), opt_same (x := l) fun s hs => ht s (by simp [AOp.slots, hs]), opt_same (x := h) fun s hs => ht s (by simp [AOp.slots, hs])]
  | slcl a x l h => simp only [aevN]; rw [one (x := x) (by simp +contextual [AOp.slots]), opt_same (x := l) fun s hs => ht s (by simp [AOp.slots, hs]), opt_same (x := h) fun s hs => ht s (by simp [AOp.slots, hs])]
  | load k x =>
    simp only [aevN]
    rw [one (x := x) (by simp [AOp.slots])]
    simp only [footF] at hm
    split
    · rename_i id off he
      rw [hm id (by rw [he]; simp [idOf])]
    all_goals rfl
  | store k a v =>
    simp only [aevN]
    rw [one (x := a) (by simp +contextual [AOp.slots]), one (x := v) (by simp +contextual [AOp.slots])]
    simp only [footF] at hm
    split
    · rename_i id off vs he hv
      rw [hm id (by rw [he]; simp [idOf])]
    · rfl
  | cvbs x =>
    simp only [aevN]
    rw [one (x := x) (by simp [AOp.slots])]
    simp only [footF] at hm
    generalize ev t x = y at hm ⊢
    split
    · rfl
    · rw [elemsOf_same hm]
  | cvll x =>
    simp only [aevN]
    rw [one (x := x) (by simp [AOp.slots])]
    simp only [footF] at hm
    split
    · rename_i id e off len he
      rw [hm id (by rw [he]; simp [idOf])]
    · rfl
  | app a b el x y =>
    simp only [aevN]
    rw [one (x := x) (by simp +contextual [AOp.slots]), one (x := y) (by simp +contextual [AOp.slots])]
    simp only [footF] at hm
    rw [elemsOf_same fun id hid => hm id (List.mem_append_right _ hid)]
    split
    · split
      · rfl
      · rename_i id e off len he
        rw [hm id (by rw [he]; simp [idOf])]
      · rename_i id T len he
        rw [hm id (by rw [he]; simp [idOf])]
      · rfl
    · rfl
  | _ =>
    simp only [aevN]
    first
      | rw [ev_same ht]
      | (rename_i x y; rw [one (x := x) (by simp +contextual [AOp.slots]), one (x := y) (by simp +contextual [AOp.slots])])
def effU (n : Nat) : Eff → Nat → Option (Option (List AV))
  | .nil => fun _ => none
  | .new cs => fun j => if n = j then some (some cs) else none
  | .put id cs => fun j => if id = j then some (some cs) else none
  | .mov id cs => fun j => if n = j then some (some cs) else if id = j then some none else none
def plainOut (v : AV) (e : Eff) (n : Nat) (F : List Nat) : Out := ⟨v, fun m => e.mem m n, effU n e, keysOf n e, F, n, n + 1⟩
theorem plainOut_ok (v : AV) (e : Eff) (n : Nat) (F : List Nat) : (plainOut v e n F).ok := by
  refine ⟨fun m id => ?_, fun id h => ?_⟩
  · cases e with
    | nil => rfl
    | new cs => simp only [plainOut, Eff.mem, effU, mget_mset]; split <;> rfl
    | put i cs => simp only [plainOut, Eff.mem, effU, mget_mset]; split <;> rfl
    | mov i cs =>
      simp only [plainOut, Eff.mem, effU, mget_mset, mget_mdel]
      split
      · rfl
      · split <;> rfl
  · cases e with
    | nil => simp [plainOut, effU] at h
    | new cs => simp only [plainOut, effU] at h; split at h
                · simp [plainOut, keysOf, *]
                · cases h rfl
    | put i cs => simp only [plainOut, effU] at h; split at h
                  · simp [plainOut, keysOf, *]
                  · cases h rfl
    | mov i cs =>
      simp only [plainOut, effU] at h
      split at h
      · simp [plainOut, keysOf, *]
      · split at h
        · simp [plainOut, keysOf, *]
        · cases h rfl
def skipOut (n : Nat) : Out := ⟨.tup [], fun m => m, fun _ => none, [], [], n, n + 1⟩
theorem skipOut_ok (n : Nat) : (skipOut n).ok := ⟨fun _ _ => rfl, fun _ h => (h rfl).elim⟩
def callU (ρ : Ren) (m0 m1 : Mem) (n : Nat) (id : Nat) : Option (Option (List AV)) :=
  if n ≤ id ∧ (mget m0 (id - n)) = none ∧ (mget m1 (id - n)).isSome then some ((mget m1 (id - n)).map (renL (renOf ρ m0 m1 n))) else
    match pinv ρ id with
    | some j => some ((mget m1 j).map (renL (renOf ρ m0 m1 n)))
    | none => none
def callMem (ρ : Ren) (m0 m1 : Mem) (n : Nat) (m : Mem) : Mem := updNew m0 n (renOf ρ m0 m1 n) m1 (updOld m1 (renOf ρ m0 m1 n) ρ m)
def callKeys (ρ : Ren) (m1 : Mem) (n : Nat) : List Nat := ρ.map (·.2) ++ m1.map fun p => n + p.1
def callOut (ρ : Ren) (m0 m1 : Mem) (r0 : AV) (n : Nat) : Out :=
  ⟨r0.ren (renOf ρ m0 m1 n), callMem ρ m0 m1 n, callU ρ m0 m1 n, callKeys ρ m1 n, ρ.map (·.2), n, n + Nat.max (mbound m0) (mbound m1)⟩
theorem mget_mem : ∀ {m : Mem} {i : Nat}, (mget m i).isSome → ∃ p ∈ m, p.1 = i
  | [], i, h => by simp [mget] at h
  | (k, x) :: r, i, h => by
    simp only [mget] at h
    split at h
    · rename_i e; exact ⟨_, List.mem_cons_self, e⟩
    · obtain ⟨p, h1, h2⟩ := mget_mem h
      exact ⟨p, List.mem_cons_of_mem _ h1, h2⟩
theorem callOut_ok {ρ : Ren} {nb : Nat} (hok : okRen nb ρ = true) (m0 m1 : Mem) (r0 : AV) (n : Nat) : (callOut ρ m0 m1 r0 n).ok := by
  refine ⟨fun m id => ?_, fun id h => ?_⟩
  · simp only [callOut, callMem, callU]
    rw [mget_updNew, mget_updOld hok]
    split
    · rfl
    · split
      · rename_i j hj; simp only [hj]
      · rename_i hj; simp only [hj]
  · simp only [callOut, callU] at h
    simp only [callOut, callKeys]
    split at h
    · rename_i hc
      obtain ⟨p, h1, h2⟩ := mget_mem hc.2.2
      exact List.mem_append_right _ (List.mem_map.2 ⟨p, h1, by omega⟩)
    · split at h
      · rename_i j hj
        exact List.mem_append_left _ (List.mem_map.2 ⟨_, pinv_mem hj, rfl⟩)
      · exact (h rfl).elim
def CallD (P : Program) (f : Nat) (args : List AV) (m : Mem) (n : Nat) (K : AV → Mem → Nat → Foot → Prop) : Prop :=
  ∃ ρ m0 args0 r0 m1 nb, okRen nb ρ = true ∧ args = renL (pget ρ) args0 ∧ inL (pget ρ) args0 = true ∧ handed ρ m m0 ∧ (∀ j id, pget ρ j = some id → (mget m0 j).isSome) ∧
    ACalls P f args0 m0 (fun r m' => r = r0 ∧ m' = m1) ∧
    K (r0.ren (renOf ρ m0 m1 n)) (callMem ρ m0 m1 n m) (n + Nat.max (mbound m0) (mbound m1)) ⟨callKeys ρ m1 n, ρ.map (·.2)⟩
def dStep (P : Program) (dst : Option Nat) (op : AOp) (S : St) (K : St → Foot → Prop) : Prop :=
  match op with
  | .callf f args => CallD P f (args.map (ev S.t)) S.m S.n fun v m n F => K ⟨putF S.t dst v, m, n⟩ F
  | .callv x args => match ev S.t x with
    | .fn f caps => goesB P f = true ∧ CallD P f (args.map (ev S.t) ++ caps) S.m S.n fun v m n F => K ⟨putF S.t dst v, m, n⟩ F
    | _ => False
  | op => match aevN op S.t S.m S.n with
    | some (v, e) => K ⟨putF S.t dst v, e.mem S.m S.n, S.n + 1⟩ ⟨keysOf S.n e, footF S.t op⟩
    | none => False
def runDA (P : Program) : List AOper → List Foot → List Nat → St → (St → Prop) → Prop
  | [], acc, ms, S, K => indepFrom [] acc.reverse (closeM [] ms) = true ∧ K S
  | o :: r, acc, ms, S, K => match o.guard with
    | none => dStep P o.dst o.op S fun S' f => runDA P r (f :: acc) ms S' K
    | some (g, want) => match fget S.t g with
      | .d (.bool b) => if b = want then dStep P o.dst o.op S (fun S' f => runDA P r (f :: acc) ms S' K) else runDA P r (⟨[], []⟩ :: acc) ms ⟨putF S.t o.dst (.tup []), S.m, S.n + 1⟩ K
      | .tup _ => runDA P r (⟨[], []⟩ :: acc) ms ⟨putF S.t o.dst (.tup []), S.m, S.n + 1⟩ K
      | _ => False
end Go.Jq
namespace Go.Jq
open Go
section
variable {P : Program} {k : Nat} {ops : Array Oper}
theorem Later.of_heap {c : Ctx} {w w' : World} (h : w'.heap = w.heap) : Later c c w w' :=
  ⟨fun _ h => h, fun b _ => by rw [h], fun _ _ => rfl, fun b n hn => by rw [← hn]; exact rowSize_eq (by rw [h])⟩
theorem MR.of_heap {c : Ctx} {m : Mem} {w w' : World} (hM : MR c m w) (h : w'.heap = w.heap) : MR c m w' where
  own := fun id cells hid => (hM.own id cells hid).later (Later.of_heap h) fun b hb => ⟨by rw [h], fun hi => hM.sep hi ⟨id, by rw [hid]; rfl, hb⟩⟩
  inj := hM.inj
  imm := fun b hb => by rw [h]; exact hM.imm b hb
  tab := hM.tabTo (fun _ h => h) fun b _ => by rw [h]
theorem MR.of_mget {c : Ctx} {m m' : Mem} {w : World} (hM : MR c m w) (h : ∀ id, mget m' id = mget m id) : MR c m' w where
  own := fun id cells hid => hM.own id cells (by rw [← h]; exact hid)
  inj := fun id id' b h1 h2 => hM.inj id id' b (by rw [← h]; exact h1) (by rw [← h]; exact h2)
  imm := hM.imm
  tab := hM.tab
theorem Prov.of_mget {E : Env} {c : Ctx} {m m' : Mem} {w : World} (hp : Prov E c m w) (h : ∀ id, mget m' id = mget m id) : Prov E c m' w where
  step := hp.step
  own := fun b ⟨id, h1, h2⟩ => hp.own b ⟨id, by rw [← h]; exact h1, h2⟩
  keep := fun id hid hm => hp.keep id hid (by rw [← h]; exact hm)
theorem conc_drew {E : Env} {S : St} {a : Act} {w w' : World} (h : Conc E k S a w) (hh : w'.heap = w.heap) (ho : w'.os = w.os) (ht : w'.tape = w.tape) (hu : w'.output = w.output) : Conc E k S a w' := by
  obtain ⟨c, hc, hp⟩ := h
  refine ⟨c, ⟨hc.defers, hc.size, fun i => rel_mono (Later.of_heap hh) _ _ (hc.fr i), hc.mr.of_heap hh, hc.free⟩, ⟨?_, fun b hb => hp.own b hb, hp.keep⟩⟩
  have := hp.step
  exact ⟨ho.trans this.os, ht.trans this.tape, hu.trans this.output, by rw [hh]; exact this.size, fun b hb hn => by rw [hh]; exact this.keep b hb hn,
    fun b n hn => by rw [rowSize_eq (by rw [hh] : w'.heap[b]? = w.heap[b]?)]; exact this.rows b n hn, this.imm, this.imm'⟩
theorem wantA_wanted {o : Oper} {t : Fr} {c : Ctx} {a : Act} {w : World} {b : Bool} (h : wantA ops o t = some b) (hF : FR c w t a.tmps) : Region.wanted o (yielded ops a.tmps) = b := by
  unfold wantA at h
  unfold Region.wanted
  cases ho : o.guard with
  | none => rw [ho] at h; cases h; rfl
  | some jw =>
    obtain ⟨j, wt⟩ := jw
    rw [ho] at h
    simp only at h
    split at h
    · rename_i d hd
      split at h
      · rename_i b' hb
        cases h
        have hx := hF d
        rw [hb] at hx
        have hv := rel_d_bool hx
        have hy : yielded ops a.tmps j = some b' := by
          unfold yielded
          cases hj : ops[j]? with
          | none => rw [hj] at hd; cases hd
          | some o' =>
            rw [hj] at hd
            simp only [Option.bind_some] at hd
            simp only [Option.bind_some, hd]
            rw [Array.getD_eq_getD_getElem?] at hv
            cases hq : a.tmps[d]? with
            | none => rw [hq] at hv; cases hv
            | some u => rw [hq] at hv; simp only [Option.getD_some] at hv; subst hv; rfl
        simp only [hy]
        cases b' <;> cases wt <;> rfl
      · rename_i cs hb
        cases h
        have hx := hF d
        rw [hb] at hx
        simp only [Rel] at hx
        obtain ⟨vs, hv, _⟩ := hx
        have hy : yielded ops a.tmps j = none := by
          unfold yielded
          cases hj : ops[j]? with
          | none => rfl
          | some o' =>
            rw [hj] at hd
            simp only [Option.bind_some] at hd
            simp only [Option.bind_some, hd]
            rw [Array.getD_eq_getD_getElem?] at hv
            cases hq : a.tmps[d]? with
            | none => rfl
            | some u => rw [hq] at hv; simp only [Option.getD_some] at hv; subst hv; rfl
        simp only [hy]
        cases wt <;> rfl
      · cases h
    · cases h
def Inv (E : Env) (k : Nat) (outs : List Out) (N : Nat) (listed : Array Bool) (t : Fr) (m : Mem) (a : Act) (w : World) : Prop :=
  ∃ c, a.defers = [] ∧ a.tmps.size = k ∧ FR c w t a.tmps ∧ MR c m w ∧ Prov E c m w ∧ (∀ id, N ≤ id → c.φ id = .free) ∧
    ∀ (j : Nat) (x : Out), outs[j]? = some x → listed.getD j true = false → ∀ id, x.lo ≤ id → id < x.hi → c.φ id = .free
def Ranges : Nat → List Out → Nat → Prop
  | n, [], N => n = N
  | n, x :: xs, N => x.lo = n ∧ n ≤ x.hi ∧ Ranges x.hi xs N
theorem Ranges.spec : ∀ {l : List Out} {n N : Nat}, Ranges n l N → n ≤ N ∧ ∀ (j : Nat) (x : Out), l[j]? = some x → n ≤ x.lo ∧ x.lo ≤ x.hi ∧ x.hi ≤ N
  | [], n, N, h => ⟨by simp only [Ranges] at h; omega, fun j x hj => by simp at hj⟩
  | y :: l, n, N, h => by
    simp only [Ranges] at h
    obtain ⟨h1, h2, h3⟩ := h
    obtain ⟨h4, h5⟩ := Ranges.spec h3
    refine ⟨by omega, fun j x hj => ?_⟩
    cases j with
    | zero => simp at hj; subst hj; omega
    | succ j => have := h5 j x (by simpa using hj); omega
theorem Ranges.apart : ∀ {l : List Out} {n N : Nat}, Ranges n l N → ∀ (i j : Nat) (x y : Out), i < j → l[i]? = some x → l[j]? = some y → x.hi ≤ y.lo
  | [], n, N, h, i, j, x, y, _, hi, _ => by simp at hi
  | z :: l, n, N, h, i, j, x, y, hlt, hi, hj => by
    simp only [Ranges] at h
    cases j with
    | zero => omega
    | succ j =>
      cases i with
      | zero => simp at hi; subst hi; exact (h.2.2.spec.2 j y (by simpa using hj)).1
      | succ i => exact Ranges.apart h.2.2 i j x y (by omega) (by simpa using hi) (by simpa using hj)
theorem wpAny_of_A {E : Env} {outs : List Out} {n N : Nat} (hrg : Ranges n outs N) (hEn : E.n ≤ n) (hok : ∀ (i : Nat) (o : Out), outs[i]? = some o → o.ok) (hdk : ∀ (i : Nat) (o : Oper), ops[i]? = some o → ∀ d, o.dst = some d → d < k)
    {K : Fr → Mem → Prop} {Q : Exit → Act → World → Prop} (hK : ∀ t m a w, K t m → Conc E k ⟨t, m, N⟩ a w → Q .normal a w) :
    ∀ (fuel : Nat) (listed : Array Bool) (t : Fr) (m : Mem) (a : Act) (w : World), Inv E k outs N listed t m a w → wpAnyA P k ops outs K fuel listed t m → wpAny P .any ops Q fuel listed a w
  | 0, listed, t, m, a, w, ⟨c, h1, h2, h3, h4, h5, h6, _⟩, h => ⟨h.1, hK t m a w h.2 ⟨c, ⟨h1, h2, h3, h4, h6⟩, h5⟩⟩
  | fuel + 1, listed, t, m, a, w, ⟨c, h1, h2, h3, h4, h5, h6, h7⟩, h => by
    refine ⟨fun h0 => hK t m a w (h.1 h0) ⟨c, ⟨h1, h2, h3, h4, h6⟩, h5⟩, fun i hi => ?_⟩
    obtain ⟨o, out, ho, hout, hw, hrest⟩ := h.2 i hi
    have hun := (mem_ready.1 hi).1
    have hx := hrg.spec.2 i out hout
    have hxok := hok i out hout
    unfold wpOp
    simp only [ho]
    have put : ∀ (c' : Ctx) (w' : World) (u : Value), (Rel c' w' out.v u ∨ out.v = .any) → MR c' (out.act m) w' → Step (Own c m) c c' w w' → (∀ b, Own c' (out.act m) b → Own c m b ∨ w.heap.size ≤ b) →
        (∀ id, ¬ (out.lo ≤ id ∧ id < out.hi) → c'.φ id = c.φ id) → (∀ id, ¬ (out.lo ≤ id ∧ id < out.hi) → (mget (out.act m) id).isSome → (mget m id).isSome) →
        Inv E k outs N (listed.setIfInBounds i true) (putF t o.dst out.v) (out.act m) (a.put o.dst u) w' := by
      intro c' w' u hr hM' hs hown hφ hmk
      have hext : ∀ id, c.φ id ≠ .free → c'.φ id = c.φ id := fun id hid => hφ id fun hr => hid (h7 i out hout hun id hr.1 hr.2)
      have hl := hs.later h4 hext
      have hF' : FR c' w' t a.tmps := fun i => rel_mono hl _ _ (h3 i)
      refine ⟨c', ?_, ?_, ?_, hM', h5.next hs hown fun id hid hm => ?_, fun id hid => ?_, fun j y hy hl' id hid1 hid2 => ?_⟩
      · cases o.dst <;> exact h1
      · cases o.dst with
        | none => exact h2
        | some d => simp only [Act.put, Array.size_setIfInBounds]; exact h2
      · cases hd : o.dst with
        | none => exact hF'
        | some d =>
          simp only [putF, Act.put]
          refine fr_put hF' (by rw [h2]; exact hdk i o ho d hd) ?_
          rcases hr with h | h
          · exact h
          · rw [h]; simp [Rel]
      · exact ⟨hmk id (by omega) hm, hφ id (by omega)⟩
      · rw [hφ id (by omega)]; exact h6 id hid
      · by_cases hji : j = i
        · subst hji
          exfalso
          rcases Nat.lt_or_ge j listed.size with h' | h'
          · simp [h'] at hl'
          · simp [Array.getElem?_eq_none h'] at hun
        · have hy' := hrg.spec.2 j y hy
          rw [getD_set_ne true (Ne.symm hji)] at hl'
          rw [hφ id ?_]
          · exact h7 j y hy hl' id hid1 hid2
          · rcases Nat.lt_or_gt_of_ne hji with h' | h'
            · have := hrg.apart j i y out h' hy hout; omega
            · have := hrg.apart i j out y h' hout hy; omega
    rcases hw with ⟨hw1, hw2⟩ | ⟨hw1, hw2, hw3⟩
    · rw [wantA_wanted hw1 h3, if_pos rfl]
      refine .inl (hw2 t m (fun _ _ => rfl) (fun _ _ => rfl) c a w h1 h2 h3 h4 (h7 i out hout hun) _ _ ?_)
      intro u w' c' hr hM' hs hown hφ hmk
      exact wpAny_of_A hrg hEn hok hdk hK fuel _ _ _ _ _ (put c' w' u hr hM' hs hown hφ hmk) hrest
    · rw [wantA_wanted hw1 h3]
      simp only [Bool.false_eq_true, if_false]
      have hm : ∀ id, mget (out.act m) id = mget m id := fun id => by rw [hxok.1, hw3 id]
      refine wpAny_of_A hrg hEn hok hdk hK fuel _ _ _ _ _ (put c w undef (.inl (by rw [hw2]; exact rel_undef _ _)) (h4.of_mget hm) (Step.refl _ _ _) (fun b ⟨id, h8, h9⟩ => .inl ⟨id, by rw [← hm]; exact h8, h9⟩) (fun _ _ => rfl) (fun id _ h => by rw [← hm]; exact h)) hrest
theorem local_plain {o : Oper} {ao : AOper} (hco : cOper P ops k o = some ao) (hsl : ao.op.slots.all (fun i => (o.looksAt ops).contains i) = true) {t : Fr} {m : Mem} {n : Nat} {v : AV} {e : Eff}
    (he : aevN ao.op t m n = some (v, e)) : LocalOut P k ops o t m (plainOut v e n (footF t ao.op)) := by
  intro t' m' ht hm c a w _ _ hF hM hfree Kw Q hKw
  have hcop : cOp P o.op = some ao.op := by
    unfold cOper at hco
    split at hco
    · rename_i h1 _
      split at hco
      · cases hco; exact h1
      · cases hco
    · cases hco
  have he' : aevN ao.op t' m' n = some (v, e) := by
    rw [aevN_local (fun s hs => ht s ?_) hm]
    · exact he
    · have := List.all_eq_true.1 hsl s hs
      simpa using this
  have hn : c.φ n = .free := hfree n (Nat.le_refl _) (Nat.lt_succ_self _)
  obtain ⟨r, w', c', hrun, hr, hM', hs, hφ, ho⟩ := aevN_sound (o := o) hcop hF hM hn he'
  have hmk : ∀ id, ¬ (n ≤ id ∧ id < n + 1) → (mget (e.mem m' n) id).isSome → (mget m' id).isSome := by
    intro id hid h
    have hne : n ≠ id := by omega
    cases e with
    | nil => exact h
    | new cs => simp only [Eff.mem, mget_mset] at h; rw [if_neg hne] at h; exact h
    | put i cs =>
      simp only [Eff.mem, mget_mset] at h
      split at h
      · rename_i e; subst e; exact aevN_put he'
      · exact h
    | mov i cs =>
      simp only [Eff.mem, mget_mset, mget_mdel] at h
      rw [if_neg hne] at h
      split at h
      · simp at h
      · exact h
  have hφ' : ∀ id, ¬ (n ≤ id ∧ id < n + 1) → c'.φ id = c.φ id := fun id hid => hφ id (.inl (by omega))
  unfold Oper.wp
  rw [hrun]
  rcases hr with ⟨u, rfl, hru⟩ | ⟨rfl, hv⟩
  · exact hKw u w' c' (.inl hru) hM' hs ho hφ' hmk
  · exact hKw undef w' c' (.inr hv) hM' hs ho hφ' hmk
theorem handed_same {ρ : Ren} {m m' : Mem} (h : ∀ id ∈ ρ.map (·.2), mget m' id = mget m id) : ∀ {m0 : Mem}, handed ρ m m0 → handed ρ m' m0
  | [], _ => trivial
  | (j, cs) :: r, hh => by
    simp only [handed] at hh ⊢
    refine ⟨?_, handed_same h hh.2⟩
    have h1 := hh.1
    split at h1
    · rename_i id hid
      rw [h id (List.mem_map.2 ⟨_, pget_mem hid, rfl⟩)]
      exact h1
    · exact h1.elim
theorem local_enter {o : Oper} {f : Nat} {args0 : List AV} {ρ : Ren} {m0 m1 : Mem} {r0 : AV} {nb n : Nat} {t : Fr} {m : Mem} (hok : okRen nb ρ = true) (hin : inL (pget ρ) args0 = true) (hh : handed ρ m m0)
    (hdom : ∀ j id, pget ρ j = some id → (mget m0 j).isSome) (hA : ACalls P f args0 m0 (fun r m' => r = r0 ∧ m' = m1))
    (hent : ∀ (t' : Fr), (∀ s ∈ o.looksAt ops, fget t' s = fget t s) → ∀ (c : Ctx) (a : Act) (w : World), FR c w t' a.tmps → ∃ vs, RelL c w (renL (pget ρ) args0) vs ∧ (execOp a.eval o).run P w = .ok (.enter f vs.toArray) w) :
    LocalOut P k ops o t m (callOut ρ m0 m1 r0 n) := by
  intro t' m' ht hm c a w _ _ hF hM hfree Kw Q hKw
  obtain ⟨vs, hrl, hrun⟩ := hent t' ht c a w hF
  have hR := callR_gen (n := n) hA ρ hok hin (handed_same hm hh) hdom (F := fun id => n ≤ id ∧ id < n + Nat.max (mbound m0) (mbound m1)) (fun r m2 hq id h1 h2 => by obtain ⟨rfl, rfl⟩ := hq; exact ⟨h1, h2⟩)
  unfold Oper.wp
  rw [hrun, Oper.upon_enter]
  refine (hR c w vs hrl hM (fun id hid => hfree id hid.1 hid.2)).mono ?_
  rintro e' w' ⟨v, r, m2, n', c', rfl, ⟨r1, m3, ⟨rfl, rfl⟩, rfl, rfl, rfl⟩, hru, hM', hs, ho, hφ, hmk, hnn⟩
  exact hKw v w' c' (.inl hru) hM' hs ho hφ hmk
theorem cOper_op {o : Oper} {ao : AOper} (hco : cOper P ops k o = some ao) : cOp P o.op = some ao.op := by
  unfold cOper at hco
  split at hco
  · rename_i h1 _
    split at hco
    · cases hco; exact h1
    · cases hco
  · cases hco
theorem dStep_out {o : Oper} {ao : AOper} (hco : cOper P ops k o = some ao) (hsl : ao.op.slots.all (fun i => (o.looksAt ops).contains i) = true) {S : St} {K : St → Foot → Prop} (h : dStep P ao.dst ao.op S K) :
    ∃ out : Out, out.ok ∧ out.lo = S.n ∧ S.n ≤ out.hi ∧ LocalOut P k ops o S.t S.m out ∧ K ⟨putF S.t o.dst out.v, out.act S.m, out.hi⟩ ⟨out.keys, out.F⟩ := by
  have hd : ao.dst = o.dst := (cOper_guard hco).2.1
  have hop := cOper_op hco
  have hsl' : ∀ {t' : Fr}, (∀ s ∈ o.looksAt ops, fget t' s = fget S.t s) → ∀ s ∈ ao.op.slots, fget t' s = fget S.t s := fun ht s hs => ht s (by simpa using List.all_eq_true.1 hsl s hs)
  rw [hd] at h
  unfold dStep at h
  split at h
  · rename_i f args hao
    obtain ⟨ρ, m0, args0, r0, m1, nb, hok, hargs, hin, hh, hdom, hA, hk⟩ := h
    rw [hao] at hop hsl'
    refine ⟨callOut ρ m0 m1 r0 S.n, callOut_ok hok _ _ _ _, rfl, Nat.le_add_right _ _, local_enter hok hin hh hdom hA fun t' ht c a w hF => ?_, hk⟩
    obtain ⟨callee, cargs, ts, hopc, hcl | hcl⟩ := cOp_call hop rfl
    · obtain ⟨f', rfl, hg', he⟩ := hcl
      cases he
      refine ⟨cargs.toList.map a.eval, ?_, ?_⟩
      · rw [← hargs, ← evs_same (t' := t') (hsl' ht)]
        exact relL_ev hF cargs.toList
      · obtain ⟨dst, op, ty, pos, after, guard⟩ := o
        simp only at hopc
        subst hopc
        have h1 : (execOp a.eval ⟨dst, .call ⟨.value (.func f), cargs, ts⟩, ty, pos, after, guard⟩).run P w = (callFunc f ((#[] ++ cargs.map a.eval) ++ #[])).run P w := rfl
        rw [h1, run_callFunc hg' w]
        congr 2
        apply Array.ext'
        simp
    · obtain ⟨y, _, he⟩ := hcl
      cases he
  · rename_i x args hao
    split at h
    · rename_i f caps hev
      obtain ⟨hg', ρ, m0, args0, r0, m1, nb, hok, hargs, hin, hh, hdom, hA, hk⟩ := h
      rw [hao] at hop hsl'
      refine ⟨callOut ρ m0 m1 r0 S.n, callOut_ok hok _ _ _ _, rfl, Nat.le_add_right _ _, local_enter hok hin hh hdom hA fun t' ht c a w hF => ?_, hk⟩
      obtain ⟨callee, cargs, ts, hopc, hcl | hcl⟩ := cOp_call hop rfl
      · obtain ⟨f', _, _, he⟩ := hcl
        cases he
      · obtain ⟨y, rfl, he⟩ := hcl
        cases he
        have hx := rel_ev (w := w) hF y
        rw [ev_same (t := S.t) (fun s hs => hsl' ht s (by simp only [AOp.slots]; exact List.mem_append_left _ hs)), hev] at hx
        obtain ⟨us, hu, hru⟩ := rel_fn hx
        refine ⟨cargs.toList.map a.eval ++ us, ?_, ?_⟩
        · rw [← hargs, ← evs_same (t' := t') (fun s hs => hsl' ht s (by simp only [AOp.slots]; exact List.mem_append_right _ hs))]
          exact (relL_ev hF cargs.toList).append hru
        · obtain ⟨dst, op, ty, pos, after, guard⟩ := o
          simp only at hopc
          subst hopc
          have h1 : (execOp a.eval ⟨dst, .call ⟨.value y, cargs, ts⟩, ty, pos, after, guard⟩).run P w = ((Deferred.ofValue (a.eval y) (cargs.map a.eval)) >>= fun d => invoke d.target d.args).run P w := rfl
          rw [h1, hu]
          have h2 : ((Deferred.ofValue (.func (.func f) #[] us.toArray) (cargs.map a.eval)) >>= fun d => invoke d.target d.args).run P w = (callFunc f ((#[] ++ cargs.map a.eval) ++ us.toArray)).run P w := rfl
          rw [h2, run_callFunc hg' w]
          congr 2
          apply Array.ext'
          simp
    · exact h.elim
  · split at h
    · rename_i v e he
      exact ⟨plainOut v e S.n (footF S.t ao.op), plainOut_ok _ _ _ _, rfl, Nat.le_succ _, local_plain hco hsl he, h⟩
    · exact h.elim
theorem cGuard_want {o : Oper} {g : Nat} {want : Bool} {t : Fr} {b : Bool} (hg : cGuard ops o.guard = some (some (g, want))) (hb : fget t g = .d (.bool b)) : wantA ops o t = some (b == want) := by
  unfold cGuard at hg
  unfold wantA
  cases ho : o.guard with
  | none => rw [ho] at hg; cases hg
  | some jw =>
    obtain ⟨j, wt⟩ := jw
    rw [ho] at hg
    simp only at hg ⊢
    split at hg
    · rename_i o' hj
      split at hg
      · rename_i d hd
        cases hg
        simp only [hj, Option.bind_some, hd, hb]
      · cases hg
    · cases hg
theorem cGuard_wantT {o : Oper} {g : Nat} {want : Bool} {t : Fr} {cs : List AV} (hg : cGuard ops o.guard = some (some (g, want))) (hb : fget t g = .tup cs) : wantA ops o t = some false := by
  unfold cGuard at hg
  unfold wantA
  cases ho : o.guard with
  | none => rw [ho] at hg; cases hg
  | some jw =>
    obtain ⟨j, wt⟩ := jw
    rw [ho] at hg
    simp only at hg ⊢
    split at hg
    · rename_i o' hj
      split at hg
      · rename_i d hd
        cases hg
        simp only [hj, Option.bind_some, hd, hb]
      · cases hg
    · cases hg
theorem cGuard_wantN {o : Oper} {t : Fr} (hg : cGuard ops o.guard = some none) : wantA ops o t = some true := by
  unfold cGuard at hg
  unfold wantA
  cases ho : o.guard with
  | none => rfl
  | some jw =>
    obtain ⟨j, wt⟩ := jw
    rw [ho] at hg
    simp only at hg
    split at hg
    · split at hg
      · cases hg
      · cases hg
    · cases hg
theorem runDA_outs {K : St → Prop} {ms : List Nat} : ∀ (l : List Oper) (al : List AOper) (acc : List Foot) (S : St), cOpers P ops k l = some al → slotsB ops l al = true → runDA P al acc ms S K →
    ∃ (outs : List Out) (Sf : St), K Sf ∧ RunOuts P k ops (fun t m => t = Sf.t ∧ m = Sf.m) l outs S.t S.m ∧ outs.length = l.length ∧ (∀ x ∈ outs, x.ok) ∧ Ranges S.n outs Sf.n ∧
      indepFrom [] (acc.reverse ++ outs.map fun x => ⟨x.keys, x.F⟩) (closeM [] ms) = true
  | [], al, acc, S, hc, _, h => by
    simp only [cOpers, Option.some.injEq] at hc
    subst hc
    simp only [runDA] at h
    exact ⟨[], S, h.2, ⟨rfl, rfl⟩, rfl, fun x hx => by simp at hx, rfl, by simpa using h.1⟩
  | o :: l, al, acc, S, hc, hs, h => by
    simp only [cOpers] at hc
    split at hc
    · rename_i ao r' h1 h2
      cases hc
      simp only [slotsB, Bool.and_eq_true] at hs
      obtain ⟨hg, hd, hdk⟩ := cOper_guard h1
      have doit : wantA ops o S.t = some true → dStep P ao.dst ao.op S (fun S' f => runDA P r' (f :: acc) ms S' K) → ∃ (outs : List Out) (Sf : St), K Sf ∧ RunOuts P k ops (fun t m => t = Sf.t ∧ m = Sf.m) (o :: l) outs S.t S.m ∧ outs.length = (o :: l).length ∧ (∀ x ∈ outs, x.ok) ∧ Ranges S.n outs Sf.n ∧
          indepFrom [] (acc.reverse ++ outs.map fun x => ⟨x.keys, x.F⟩) (closeM [] ms) = true := by
        intro hw h
        obtain ⟨out, hok, hlo, hhi, hloc, hk⟩ := dStep_out h1 hs.1 h
        obtain ⟨outs, Sf, hK, hrun, hlen, hoks, hrg, hind⟩ := runDA_outs l r' _ _ h2 hs.2 hk
        refine ⟨out :: outs, Sf, hK, ⟨.inl ⟨hw, hloc⟩, hrun⟩, by simp [hlen], fun x hx => ?_, ⟨hlo, hhi, hrg⟩, by simpa using hind⟩
        rcases List.mem_cons.1 hx with rfl | hx
        · exact hok
        · exact hoks x hx
      simp only [runDA] at h
      split at h
      · rename_i hgn
        rw [hgn] at hg
        exact doit (cGuard_wantN hg) h
      · rename_i g want hgs
        rw [hgs] at hg
        split at h
        · rename_i b hb
          have hw := cGuard_want hg hb
          split at h
          · rename_i hbw
            subst hbw
            exact doit (by rw [hw]; simp) h
          · rename_i hbw
            rw [hd] at h
            obtain ⟨outs, Sf, hK, hrun, hlen, hoks, hrg, hind⟩ := runDA_outs l r' _ _ h2 hs.2 h
            refine ⟨skipOut S.n :: outs, Sf, hK, ⟨.inr ⟨by rw [hw]; simpa using hbw, rfl, fun _ => rfl⟩, hrun⟩, by simp [hlen], fun x hx => ?_, ⟨rfl, Nat.le_succ _, hrg⟩, by simpa [skipOut] using hind⟩
            rcases List.mem_cons.1 hx with rfl | hx
            · exact skipOut_ok _
            · exact hoks x hx
        · rename_i cs hb
          have hw := cGuard_wantT hg hb
          rw [hd] at h
          obtain ⟨outs, Sf, hK, hrun, hlen, hoks, hrg, hind⟩ := runDA_outs l r' _ _ h2 hs.2 h
          refine ⟨skipOut S.n :: outs, Sf, hK, ⟨.inr ⟨hw, rfl, fun _ => rfl⟩, hrun⟩, by simp [hlen], fun x hx => ?_, ⟨rfl, Nat.le_succ _, hrg⟩, by simpa [skipOut] using hind⟩
          rcases List.mem_cons.1 hx with rfl | hx
          · exact skipOut_ok _
          · exact hoks x hx
        · exact h.elim
    · cases hc
theorem RunOuts.mono {K K' : Fr → Mem → Prop} (hK : ∀ t m, K t m → K' t m) : ∀ {l : List Oper} {outs : List Out} {t : Fr} {m : Mem}, RunOuts P k ops K l outs t m → RunOuts P k ops K' l outs t m
  | [], [], _, _, h => hK _ _ h
  | [], _ :: _, _, _, h => h.elim
  | _ :: _, [], _, _, h => h.elim
  | _ :: _, _ :: _, _, _, h => ⟨h.1, RunOuts.mono hK h.2⟩
theorem indep2_spec {x y : Out} (h : indep2 ⟨x.keys, x.F⟩ ⟨y.keys, y.F⟩ = true) : indep x y := by
  simp only [indep2, Bool.and_eq_true, List.all_eq_true, Bool.not_eq_true', List.contains_eq_mem, decide_eq_false_iff_not] at h
  exact ⟨fun id hid => (h.1 id hid).1, fun id hid => h.2 id hid, fun id hid => (h.1 id hid).2⟩
theorem mask_spec (i : Nat) : ∀ (l : List Edge) (s : Nat), (l.foldl (fun s e => if Region.binds .any e then s ||| 2 ^ e.on else s) s).testBit i = true → s.testBit i = true ∨ ∃ e ∈ l, Region.binds .any e = true ∧ e.on = i
  | [], s, h => .inl h
  | e :: l, s, h => by
    simp only [List.foldl_cons] at h
    rcases mask_spec i l _ h with h1 | ⟨e', h1, h2⟩
    · split at h1
      · rename_i hb
        rw [Nat.testBit_or, Bool.or_eq_true, Nat.testBit_two_pow] at h1
        rcases h1 with h1 | h1
        · exact .inl h1
        · exact .inr ⟨e, List.mem_cons_self, hb, by simpa using h1⟩
      · exact .inl h1
    · exact .inr ⟨e', List.mem_cons_of_mem _ h1, h2⟩
theorem awp_region_draw {n0 : Nat} {S : St} {Q : Exit → St → Prop} {id : Nat} {al : List AOper} (hm : P.follows .mixedOrders = true) (hc : cOpers P ops k ops.toList = some al) (hs : slotsB ops ops.toList al = true)
    (hlex : Region.lexB .any ops = true) (hn : n0 ≤ S.n) (h : runDA P al [] (masksOf ops) S (fun S' => Q .normal S')) : AWP P n0 k (.region id ops true) S Q := by
  intro E hE a w hcc
  obtain ⟨outs, Sf, hK, hrun, hlen, hoks, hrg, hind⟩ := runDA_outs (k := k) (ops := ops) ops.toList al [] S hc hs h
  have hoks' : ∀ (i : Nat) (o : Out), outs[i]? = some o → o.ok := fun i o h => hoks o (List.mem_of_getElem? h)
  have hl : outs.length = ops.size := by rw [hlen, Array.length_toList]
  have hdk : ∀ (i : Nat) (o : Oper), ops[i]? = some o → ∀ d, o.dst = some d → d < k := by
    have key : ∀ (l : List Oper) (al : List AOper), cOpers P ops k l = some al → ∀ o ∈ l, ∀ d, o.dst = some d → d < k := by
      intro l
      induction l with
      | nil => intro al _ o ho; simp at ho
      | cons x l ih =>
        intro al hc o ho
        simp only [cOpers] at hc
        split at hc
        · rename_i ao r' h1 h2
          rcases List.mem_cons.1 ho with rfl | ho
          · exact (cOper_guard h1).2.2
          · exact ih r' h2 o ho
        · cases hc
    exact fun i o ho => key _ _ hc o (by rw [← Array.getElem?_toList] at ho; exact List.mem_of_getElem? ho)
  refine wp_region_any hm ?_
  have hconc : Conc E k S a { w with drawn := w.drawn + 1 } := conc_drew hcc rfl rfl rfl rfl
  obtain ⟨c, hcr, hp⟩ := hconc
  unfold Region.lexB at hlex
  simp only [Bool.and_eq_true] at hlex
  have hA := wpAnyA_lex (P := P) (k := k) (ops := ops) (outs := outs) hoks' (K := fun t m => Alk Sf.t Sf.m t m)
    (fun t m t' m' h1 h2 => ⟨fun i => (h1.1 i).trans (h2.1 i), fun i => (h1.2 i).trans (h2.2 i)⟩) ?_ ops.toList outs 0 (Array.replicate ops.size false) S.t S.m
    (fun j => by rw [Nat.zero_add, Array.getElem?_toList]) (fun j => by rw [Nat.zero_add]) (fun j hj => absurd hj (Nat.not_lt_zero j)) (fun a oa hoa hl => by
      have : a < ops.size := (Array.getElem?_eq_some_iff.1 hoa).1
      simp [this] at hl) (by rw [Array.length_toList]; exact hlex.2)
    (hrun.mono fun t m ⟨h1, h2⟩ => by subst h1 h2; exact ⟨fun _ => rfl, fun _ => rfl⟩)
  · rw [Array.length_toList] at hA
    refine wpAny_of_A hrg (hE ▸ hn) hoks' hdk (K := fun t m => Alk Sf.t Sf.m t m) ?_ _ _ _ _ _ _ ⟨c, hcr.defers, hcr.size, hcr.fr, hcr.mr, hp, fun id hid => hcr.free id (Nat.le_trans hrg.spec.1 hid), fun j x hx _ id h1 _ => hcr.free id (Nat.le_trans (hrg.spec.2 j x hx).1 h1)⟩ hA
    rintro t m a' w' hal ⟨c', hc', hp'⟩
    refine ⟨Sf, hK, c', ⟨hc'.defers, hc'.size, fun i => by rw [← hal.1 i]; exact hc'.fr i, hc'.mr.of_mget fun id => (hal.2 id).symm, hc'.free⟩, hp'.of_mget fun id => (hal.2 id).symm⟩
  · intro i j oj x y hij hoj hx hy hno
    have hi' : (outs.map fun x => (⟨x.keys, x.F⟩ : Foot))[i]? = some ⟨x.keys, x.F⟩ := by simp [hx]
    have hj' : (outs.map fun x => (⟨x.keys, x.F⟩ : Foot))[j]? = some ⟨y.keys, y.F⟩ := by simp [hy]
    obtain ⟨mk, hmk, hb⟩ := indepFrom_spec hind i j ⟨x.keys, x.F⟩ ⟨y.keys, y.F⟩ (by simpa using hij) hi' hj'
    refine indep2_spec (hb ?_)
    cases hbit : mk.testBit i with
    | false => rfl
    | true =>
      refine absurd ?_ hno
      have := closeM_spec (R := Anc ops) (fun h h' => h.trans h') (ms := masksOf ops) (done := []) (fun k c b h => by simp at h) (fun j' m' b' h1 h2 => ?_) j mk i hmk hbit
      · simpa using this
      · unfold masksOf at h1
        rw [List.getElem?_map, Array.getElem?_toList, Option.map_eq_some_iff] at h1
        obtain ⟨oj', ho', rfl⟩ := h1
        rcases mask_spec b' _ _ h2 with h3 | ⟨e, h3, h4, h5⟩
        · simp at h3
        · simp only [List.length_nil, Nat.zero_add]
          exact .one ho' (by simpa using h3) h4 h5
theorem bwp_region_draw {n0 : Nat} {S : St} {Q : Exit → St → Prop} {al : List AOper} {ms : List Nat} (hm : P.follows .mixedOrders = true) (hn : decide (n0 ≤ S.n) = true) (h : runDA P al [] ms S (fun S' => Q .normal S')) :
    BWP P n0 k (.region true al ms) S Q := by
  intro code hc
  cases code with
  | region id ops draw =>
    simp only [cCode] at hc
    split at hc
    · rename_i al' hal
      split at hc
      · rename_i hd
        split at hc
        · rename_i hlex
          cases hc
          simp only [Bool.and_eq_true] at hlex
          subst hd
          exact awp_region_draw hm hal hlex.2 hlex.1 (of_decide_eq_true hn) h
        · cases hc
      · cases hc
    · cases hc
  | cond c a b => simp only [cCode] at hc; repeat' split at hc
                  all_goals cases hc
  | seq a b => simp only [cCode] at hc; repeat' split at hc
               all_goals cases hc
  | _ => simp [cCode] at hc
end
end Go.Jq

/- The abstract layer: own blocks told as data; calls; slices that encode lists. -/
namespace Go.Jq
open Go
abbrev Zs := List (Nat × List DV)
def zget : Zs → Nat → Option (List DV)
  | [], _ => none
  | (i, ds) :: r, k => if i = k then some ds else zget r k
mutual
def AV.cv (π : Nat → Option Nat) (Z : Nat → Option (List DV)) : AV → AV
  | .d x => .d x
  | .ptr id off => match Z id with
    | some ds => .dptr (ds.drop off)
    | none => match π id with
      | some j => .ptr j off
      | none => .any
  | .npt id T => match π id with
    | some j => .npt j T
    | none => .any
  | .slT id T len => match π id with
    | some j => .slT j T len
    | none => .any
  | .dptr cs => .dptr cs
  | .sl id esz off len => match Z id with
    | some ds => .d (.sl len ((ds.drop off).take (len * esz)))
    | none => match π id with
      | some j => .sl j esz off len
      | none => .any
  | .fn f caps => .fn f (cvL π Z caps)
  | .agg cs => .agg (cvL π Z cs)
  | .tup vs => .tup (cvL π Z vs)
  | .any => .any
def cvL (π : Nat → Option Nat) (Z : Nat → Option (List DV)) : List AV → List AV
  | [] => []
  | x :: xs => x.cv π Z :: cvL π Z xs
end
theorem cvL_get {π : Nat → Option Nat} {Z : Nat → Option (List DV)} : ∀ (l : List AV) (i : Nat), (cvL π Z l)[i]? = l[i]?.map (AV.cv π Z)
  | [], i => by simp [cvL]
  | x :: l, 0 => by simp [cvL]
  | x :: l, i + 1 => by simp only [cvL, List.getElem?_cons_succ]; exact cvL_get l i
@[go_sem] theorem cvL_d (π : Nat → Option Nat) (Z : Nat → Option (List DV)) (l : List DV) : cvL π Z (l.map .d) = l.map .d := by
  induction l with
  | nil => rfl
  | cons x l ih => simp only [List.map_cons, cvL, AV.cv, ih]
@[go_sem] theorem cvL_append (π : Nat → Option Nat) (Z : Nat → Option (List DV)) (l l' : List AV) : cvL π Z (l ++ l') = cvL π Z l ++ cvL π Z l' := by
  induction l with
  | nil => rfl
  | cons x l ih => simp only [List.cons_append, cvL, ih]
def zokFrom (m : Mem) (Z0 : Zs) : Zs → Prop
  | [] => True
  | (id, ds) :: r => (match mget m id with
    | some cs => cvL (fun _ => none) (zget Z0) cs = ds.map .d
    | none => False) ∧ zokFrom m Z0 r
theorem zok_get {m : Mem} {Z0 : Zs} : ∀ {Z : Zs}, zokFrom m Z0 Z → ∀ id ds, zget Z id = some ds → ∃ cs, mget m id = some cs ∧ cvL (fun _ => none) (zget Z0) cs = ds.map .d
  | [], _, id, ds, h => by simp [zget] at h
  | (i, x) :: r, h, id, ds, hz => by
    simp only [zokFrom] at h
    simp only [zget] at hz
    split at hz
    · rename_i e
      subst e
      cases hz
      obtain ⟨h, _⟩ := h
      split at h
      · rename_i cs hcs; exact ⟨cs, hcs, h⟩
      · exact h.elim
    · exact zok_get h.2 id ds hz
def Ctx.frz (c : Ctx) (π : Ren) (Z : Zs) : Ctx :=
  { φ := (c.ren π).φ, imm := fun b => c.imm b ∨ ∃ id, (zget Z id).isSome ∧ c.φ id = .blk b }
section
variable {c : Ctx} {m : Mem} {w : World} {Z : Zs} {π : Ren}
mutual
theorem relD_cv (hM : MR c m w) (hz : zokFrom m Z Z) : ∀ (d : DV) (x : AV) (v : Value), x.cv (fun _ => none) (zget Z) = .d d → Rel c w x v → RelD (c.frz π Z).imm w d v
  | .sl n cells, x, v, hx, hr => by
    cases x with
    | d y =>
      simp only [AV.cv, AV.d.injEq] at hx
      subst hx
      simp only [Rel] at hr
      exact relD_mono (fun b hb => .inl hb) (fun _ _ => rfl) _ _ hr
    | sl id esz off len =>
      simp only [AV.cv] at hx
      split at hx
      · rename_i ds hds
        simp only [AV.d.injEq, DV.sl.injEq] at hx
        obtain ⟨rfl, hcells⟩ := hx
        obtain ⟨cs, hcs, hcv⟩ := zok_get hz id ds hds
        simp only [Rel] at hr
        simp only [RelD]
        rcases hr with ⟨h0, rfl, rfl, hv⟩ | ⟨b, cap, n, hb, hv, hle, _⟩
        · exact ⟨none, 0, hv, Nat.le_refl _, .inl ⟨rfl, by rw [← hcells]; simp⟩⟩
        · refine ⟨_, cap, hv, hle, .inr ⟨b, off, rfl, .inr ⟨id, by rw [hds]; rfl, hb⟩, ?_⟩⟩
          refine relDs_cv hM hz cells b off id cs hb hcs fun i d hi => ?_
          rw [← hcells, List.getElem?_take] at hi
          split at hi
          · rw [List.getElem?_drop] at hi
            have h1 : (cvL (fun _ => none) (zget Z) cs)[off + i]? = some (.d d) := by rw [hcv, List.getElem?_map, hi]; rfl
            rw [cvL_get, Option.map_eq_some_iff] at h1
            exact h1
          · simp at hi
      · cases hx
    | ptr id off => simp only [AV.cv] at hx; split at hx <;> cases hx
    | npt id T => simp only [AV.cv] at hx; cases hx
    | slT id T len => simp only [AV.cv] at hx; cases hx
    | dptr _ => simp [AV.cv] at hx
    | fn _ _ => simp [AV.cv] at hx
    | agg _ => simp [AV.cv] at hx
    | tup _ => simp [AV.cv] at hx
    | any => simp [AV.cv] at hx
  | .int a b, x, v, hx, hr => relD_cv1 hx hr (fun _ _ h => nomatch h)
  | .bool b, x, v, hx, hr => relD_cv1 hx hr (fun _ _ h => nomatch h)
  | .str s, x, v, hx, hr => relD_cv1 hx hr (fun _ _ h => nomatch h)
  | .nsl, x, v, hx, hr => relD_cv1 hx hr (fun _ _ h => nomatch h)
  | .nptr, x, v, hx, hr => relD_cv1 hx hr (fun _ _ h => nomatch h)
  | .nfn, x, v, hx, hr => relD_cv1 hx hr (fun _ _ h => nomatch h)
  | .nif, x, v, hx, hr => relD_cv1 hx hr (fun _ _ h => nomatch h)
theorem relDs_cv (hM : MR c m w) (hz : zokFrom m Z Z) : ∀ (ds : List DV) (b o id : Nat) (cs : List AV), c.φ id = .blk b → mget m id = some cs →
    (∀ i d, ds[i]? = some d → ∃ x, cs[o + i]? = some x ∧ x.cv (fun _ => none) (zget Z) = .d d) → RelDs (c.frz π Z).imm w ds b o
  | [], _, _, _, _, _, _, _ => by simp [RelDs]
  | d :: ds, b, o, id, cs, hb, hcs, h => by
    simp only [RelDs]
    obtain ⟨x, hx, hcv⟩ := h 0 d rfl
    refine ⟨?_, relDs_cv hM hz ds b (o + 1) id cs hb hcs fun i d' hi => ?_⟩
    · obtain ⟨u, hu, hr⟩ := cellsAt_own hM hcs hb o 0 x (by rw [List.getElem?_drop]; exact hx)
      exact ⟨u, hu, relD_cv hM hz d x u hcv hr⟩
    · obtain ⟨y, hy, hcy⟩ := h (i + 1) d' (by simpa using hi)
      exact ⟨y, by rw [← hy]; congr 1; omega, hcy⟩
theorem relD_cv1 {d : DV} {x : AV} {v : Value} (hx : x.cv (fun _ => none) (zget Z) = .d d) (hr : Rel c w x v) (hd : ∀ n cs, d ≠ .sl n cs) : RelD (c.frz π Z).imm w d v := by
  cases x with
  | d y =>
    simp only [AV.cv, AV.d.injEq] at hx
    subst hx
    simp only [Rel] at hr
    exact relD_mono (fun b hb => .inl hb) (fun _ _ => rfl) _ _ hr
  | sl id esz off len =>
    simp only [AV.cv] at hx
    split at hx
    · simp only [AV.d.injEq] at hx
      exact absurd hx.symm (hd _ _)
    · cases hx
  | ptr id off => simp only [AV.cv] at hx; split at hx <;> cases hx
  | npt id T => simp only [AV.cv] at hx; cases hx
  | slT id T len => simp only [AV.cv] at hx; cases hx
  | dptr _ => simp [AV.cv] at hx
  | fn _ _ => simp [AV.cv] at hx
  | agg _ => simp [AV.cv] at hx
  | tup _ => simp [AV.cv] at hx
  | any => simp [AV.cv] at hx
end
theorem relDs_all (hM : MR c m w) (hz : zokFrom m Z Z) {id b : Nat} {ds : List DV} (hds : zget Z id = some ds) (hb : c.φ id = .blk b) (o : Nat) : RelDs (c.frz π Z).imm w (ds.drop o) b o := by
  obtain ⟨cs, hcs, hcv⟩ := zok_get hz id ds hds
  refine relDs_cv hM hz _ b o id cs hb hcs fun i d hi => ?_
  rw [List.getElem?_drop] at hi
  have h1 : (cvL (fun _ => none) (zget Z) cs)[o + i]? = some (.d d) := by rw [hcv, List.getElem?_map, hi]; rfl
  rw [cvL_get, Option.map_eq_some_iff] at h1
  exact h1
mutual
theorem rel_cv {nb : Nat} (hok : okRen nb π = true) (hM : MR c m w) (hz : zokFrom m Z Z) : ∀ (x : AV) (v : Value), Rel c w x v → Rel (c.frz π Z) w (x.cv (pget π) (zget Z)) v
  | .d x, v, h => by simp only [AV.cv, Rel] at h ⊢; exact relD_mono (fun b hb => .inl hb) (fun _ _ => rfl) x v h
  | .ptr id off, v, h => by
    simp only [AV.cv, Rel] at h ⊢
    obtain ⟨b, hb, hv⟩ := h
    split
    · rename_i ds hds
      simp only [Rel]
      exact ⟨b, off, .inr ⟨id, by rw [hds]; rfl, hb⟩, hv, relDs_all hM hz hds hb off⟩
    · split
      · rename_i j hj
        simp only [Rel]
        exact ⟨b, by rw [← hb]; exact ren_φ hok hj, hv⟩
      · simp [Rel]
  | .slT id T len, v, h => by
    simp only [AV.cv, Rel] at h ⊢
    split
    · rename_i j hj
      simp only [Rel]
      rcases h with ⟨h0, h⟩ | ⟨b, cap, n, hb, h⟩
      · exact .inl ⟨by rw [← h0]; exact ren_φ hok hj, h⟩
      · exact .inr ⟨b, cap, n, by rw [← hb]; exact ren_φ hok hj, h⟩
    · simp [Rel]
  | .npt id T, v, h => by
    simp only [AV.cv, Rel] at h ⊢
    obtain ⟨hv, b, hb, hs⟩ := h
    split
    · rename_i j hj
      simp only [Rel]
      exact ⟨hv, b, by rw [← hb]; exact ren_φ hok hj, hs⟩
    · simp [Rel]
  | .dptr cs, v, h => by
    simp only [AV.cv, Rel] at h ⊢
    obtain ⟨b, o, hb, hv, hc⟩ := h
    exact ⟨b, o, .inl hb, hv, relDs_mono (fun b hb => .inl hb) (fun _ _ => rfl) cs b o hb hc⟩
  | .sl id esz off len, v, h => by
    have h0 := h
    simp only [AV.cv, Rel] at h ⊢
    split
    · rename_i ds hds
      simp only [Rel]
      refine relD_cv hM hz _ (.sl id esz off len) v ?_ h0
      simp only [AV.cv, hds]
    · split
      · rename_i j hj
        simp only [Rel]
        rcases h with ⟨h0, h⟩ | ⟨b, cap, n, hb, h⟩
        · exact .inl ⟨by rw [← h0]; exact ren_φ hok hj, h⟩
        · exact .inr ⟨b, cap, n, by rw [← hb]; exact ren_φ hok hj, h⟩
      · simp [Rel]
  | .fn f caps, v, h => by
    simp only [AV.cv, Rel] at h ⊢
    obtain ⟨vs, hv, hl⟩ := h
    exact ⟨vs, hv, relL_cv hok hM hz caps vs hl⟩
  | .agg cs, v, h => by
    simp only [AV.cv, Rel] at h ⊢
    obtain ⟨vs, hv, hl⟩ := h
    exact ⟨vs, hv, relL_cv hok hM hz cs vs hl⟩
  | .tup cs, v, h => by
    simp only [AV.cv, Rel] at h ⊢
    obtain ⟨vs, hv, hl⟩ := h
    exact ⟨vs, hv, relL_cv hok hM hz cs vs hl⟩
  | .any, _, _ => by simp [AV.cv, Rel]
theorem relL_cv {nb : Nat} (hok : okRen nb π = true) (hM : MR c m w) (hz : zokFrom m Z Z) : ∀ (xs : List AV) (vs : List Value), RelL c w xs vs → RelL (c.frz π Z) w (cvL (pget π) (zget Z) xs) vs
  | [], _, h => by simpa [cvL, RelL] using h
  | x :: xs, vs, h => by
    simp only [cvL, RelL] at h ⊢
    obtain ⟨v, vs', hv, hx, hl⟩ := h
    exact ⟨v, vs', hv, rel_cv hok hM hz x v hx, relL_cv hok hM hz xs vs' hl⟩
end
end
def frzT (π : Ren) (Z : Zs) (t : Fr) : Fr → Prop
  | [] => True
  | (i, x) :: r => (fget t i).cv (pget π) (zget Z) = x ∧ frzT π Z t r
def frzM (π : Ren) (Z : Zs) (m : Mem) : Mem → Prop
  | [] => True
  | (j, cs) :: r => (match pinv π j with
    | some i => zget Z i = none ∧ (match mget m i with
      | some cs' => cvL (pget π) (zget Z) cs' = cs
      | none => False)
    | none => False) ∧ frzM π Z m r
structure Frz (n0 : Nat) (π : Ren) (Z : Zs) (S S' : St) : Prop where
  t : frzT π Z S.t S'.t
  m : frzM π Z S.m S'.m
  ok : okRen S'.n π = true
  keep : keepRen n0 π = true
  z : zokFrom S.m Z Z
theorem frzT_get {π : Ren} {Z : Zs} {t : Fr} : ∀ {t' : Fr}, frzT π Z t t' → ∀ i, fget t' i = .any ∨ (fget t i).cv (pget π) (zget Z) = fget t' i
  | [], _, i => .inl rfl
  | (k, x) :: r, h, i => by
    simp only [frzT] at h
    simp only [fget]
    split
    · rename_i e; subst e; exact .inr h.1
    · exact frzT_get h.2 i
theorem frzM_get {π : Ren} {Z : Zs} {m : Mem} : ∀ {m' : Mem}, frzM π Z m m' → ∀ j cs, mget m' j = some cs → ∃ i cs', pinv π j = some i ∧ zget Z i = none ∧ mget m i = some cs' ∧ cvL (pget π) (zget Z) cs' = cs
  | [], _, j, cs, h => by simp [mget] at h
  | (k, x) :: r, h, j, cs, hj => by
    simp only [frzM] at h
    simp only [mget] at hj
    split at hj
    · rename_i e
      subst e
      cases hj
      obtain ⟨h, _⟩ := h
      split at h
      · rename_i i hi
        obtain ⟨hz, h⟩ := h
        split at h
        · rename_i cs' hcs'
          exact ⟨i, cs', hi, hz, hcs', h⟩
        · exact h.elim
      · exact h.elim
    · exact frzM_get h.2 j cs hj
theorem Leads.frz {n0 k : Nat} {S S' : St} (π : Ren) (Z : Zs) (he : Frz n0 π Z S S') : Leads n0 k S S' := by
  rintro E hE a w ⟨c, hc, hp⟩
  have hok := he.ok
  have hM := hc.mr
  have hzi : ∀ id, (zget Z id).isSome → (mget S.m id).isSome := fun id h => by
    obtain ⟨ds, hds⟩ := Option.isSome_iff_exists.1 h
    obtain ⟨cs, hcs, _⟩ := zok_get he.z id ds hds
    rw [hcs]; rfl
  have hown : ∀ b, Own (c.frz π Z) S'.m b → Own c S.m b := by
    rintro b ⟨j, hj, hb⟩
    obtain ⟨cs, hcs⟩ := Option.isSome_iff_exists.1 hj
    obtain ⟨i, _, hi, _, hmi, _⟩ := frzM_get he.m j cs hcs
    simp only [Ctx.frz, Ctx.ren, hi] at hb
    exact ⟨i, by rw [hmi]; rfl, hb⟩
  refine ⟨c.frz π Z, ⟨hc.defers, hc.size, fun i => ?_, ⟨fun j cs hj => ?_, fun j j' b hj hj' hb hb' => ?_, fun b hb => ?_, hM.tabTo (fun _ h => .inl h) fun _ _ => rfl⟩, fun id hid => ?_⟩, ⟨⟨hp.step.os, hp.step.tape, hp.step.output, hp.step.size, hp.step.keep, hp.step.rows, fun b hb => .inl (hp.step.imm b hb), fun b hb => ?_⟩, fun b hb => hp.own b (hown b hb), fun j hj hmj => ?_⟩⟩
  · rcases frzT_get he.t i with h | h
    · rw [h]; simp [Rel]
    · rw [← h]; exact rel_cv hok hM he.z _ _ (hc.fr i)
  · obtain ⟨i, cs', hi, hzn, hcs, rfl⟩ := frzM_get he.m j cs hj
    have hφ : (c.frz π Z).φ j = c.φ i := by simp only [Ctx.frz, Ctx.ren, hi]
    rcases hM.own i cs' hcs with ⟨h0, rfl⟩ | ⟨b, arr, T, f, hb, hni, hw, hf, vs, rest, ha, hr⟩
    · exact .inl ⟨hφ.trans h0, rfl⟩
    · refine .inr ⟨b, arr, T, f, hφ.trans hb, ?_, hw, hf, vs, rest, ha, relL_cv hok hM he.z _ _ hr⟩
      rintro (h1 | ⟨id, h1, h2⟩)
      · exact hni h1
      · have := hM.inj id i b (hzi id h1) (by rw [hcs]; rfl) h2 hb
        subst this
        rw [hzn] at h1
        cases h1
  · obtain ⟨cs, hcs⟩ := Option.isSome_iff_exists.1 hj
    obtain ⟨cs', hcs'⟩ := Option.isSome_iff_exists.1 hj'
    obtain ⟨i, _, hi, _, hmi, _⟩ := frzM_get he.m j cs hcs
    obtain ⟨i', _, hi', _, hmi', _⟩ := frzM_get he.m j' cs' hcs'
    simp only [Ctx.frz, Ctx.ren, hi] at hb
    simp only [Ctx.frz, Ctx.ren, hi'] at hb'
    have := hM.inj i i' b (by rw [hmi]; rfl) (by rw [hmi']; rfl) hb hb'
    subst this
    have h1 := (okRen_spec hok i j (pinv_mem hi)).1
    have h2 := (okRen_spec hok i j' (pinv_mem hi')).1
    rw [h1] at h2
    exact Option.some.inj h2
  · rcases hb with h1 | ⟨id, h1, h2⟩
    · exact hM.imm b h1
    · exact hM.blk_lt ⟨id, hzi id h1, h2⟩
  · simp only [Ctx.frz, Ctx.ren]
    split
    · rename_i i hi
      have := (okRen_spec hok i id (pinv_mem hi)).2.2
      omega
    · rfl
  · rcases hb with h1 | ⟨id, h1, h2⟩
    · exact hp.step.imm' b h1
    · exact .inr (hp.own b ⟨id, hzi id h1, h2⟩)
  · obtain ⟨cs, hcs⟩ := Option.isSome_iff_exists.1 hmj
    obtain ⟨i, _, hi, _, hmi, _⟩ := frzM_get he.m j cs hcs
    have := keep_ren (hE ▸ he.keep) hi hj
    subst this
    obtain ⟨h1, h2⟩ := hp.keep i hj (by rw [hmi]; rfl)
    exact ⟨h1, by simp only [Ctx.frz, Ctx.ren, hi]; exact h2⟩
theorem conc_bind {E : Env} {k : Nat} {t : Fr} {m : Mem} {n : Nat} {a : Act} {w : World} (hE : E.n ≤ n) (h : Conc E k ⟨t, m, n⟩ a w) :
    ∃ c : Ctx, c.φ n = .none ∧ CR c k ⟨t, mset m n [], n + 1⟩ a w ∧ Prov E c (mset m n []) w := by
  obtain ⟨c, hc, hp⟩ := h
  have hn := hc.free n (Nat.le_refl _)
  have hext : ∀ id, c.φ id ≠ .free → (c.bind n .none).φ id = c.φ id := fun id hid => Ctx.bind_ne fun e => hid (by rw [e]; exact hn)
  have hl : Later c (c.bind n .none) w w := ⟨fun _ h => h, fun _ _ => rfl, hext, fun _ _ h => h⟩
  have hown : ∀ b, Own (c.bind n .none) (mset m n []) b → Own c m b := by
    rintro b ⟨id, hid, hb⟩
    by_cases e : id = n
    · subst e; rw [Ctx.bind_eq] at hb; cases hb
    · rw [Ctx.bind_ne e] at hb
      rw [mget_mset, if_neg (Ne.symm e)] at hid
      exact ⟨id, hid, hb⟩
  refine ⟨c.bind n .none, Ctx.bind_eq, ⟨hc.defers, hc.size, fun i => rel_mono hl _ _ (hc.fr i), ⟨fun id cells hid => ?_, fun id id' b hid hid' hb hb' => ?_, hc.mr.imm, hc.mr.tab⟩, fun id hid => ?_⟩,
    ⟨⟨hp.step.os, hp.step.tape, hp.step.output, hp.step.size, hp.step.keep, hp.step.rows, hp.step.imm, hp.step.imm'⟩, fun b hb => hp.own b (hown b hb), fun id hid hm => ?_⟩⟩
  · rw [mget_mset] at hid
    split at hid
    · rename_i e; subst e; cases hid; exact .inl ⟨Ctx.bind_eq, rfl⟩
    · exact (hc.mr.own id cells hid).later hl fun b hb => ⟨rfl, fun hi => hc.mr.sep hi ⟨id, by show (mget m id).isSome; rw [hid]; rfl, hb⟩⟩
  · have key : ∀ id, (mget (mset m n []) id).isSome → (c.bind n .none).φ id = .blk b → (mget m id).isSome ∧ c.φ id = .blk b := fun id h1 h2 => by
      by_cases e : id = n
      · subst e; rw [Ctx.bind_eq] at h2; cases h2
      · rw [Ctx.bind_ne e] at h2
        rw [mget_mset, if_neg (Ne.symm e)] at h1
        exact ⟨h1, h2⟩
    obtain ⟨h1, h2⟩ := key id hid hb
    obtain ⟨h3, h4⟩ := key id' hid' hb'
    exact hc.mr.inj id id' b h1 h3 h2 h4
  · have hid' : n + 1 ≤ id := hid
    rw [Ctx.bind_ne (by omega)]
    exact hc.free id (by show n ≤ id; omega)
  · have hne : id ≠ n := by omega
    rw [mget_mset, if_neg (Ne.symm hne)] at hm
    rw [Ctx.bind_ne hne]
    exact hp.keep id hid hm
theorem Leads.nil {n0 k : Nat} {t : Fr} {m : Mem} {n : Nat} (i esz : Nat) (hn : decide (n0 ≤ n) = true) (hi : fget t i = .d .nsl) : Leads n0 k ⟨t, m, n⟩ ⟨(i, .sl n esz 0 0) :: t, mset m n [], n + 1⟩ := by
  intro E hE a w hcc
  obtain ⟨c, hφ, hc, hp⟩ := conc_bind (hE ▸ of_decide_eq_true hn) hcc
  refine ⟨c, ⟨hc.defers, hc.size, fun j => ?_, hc.mr, hc.free⟩, hp⟩
  simp only [fget]
  split
  · rename_i e
    subst e
    have h1 := hc.fr i
    simp only [hi, Rel, RelD] at h1
    simp only [Rel]
    exact .inl ⟨hφ, trivial, trivial, h1⟩
  · exact hc.fr j
theorem Leads.nilCell {n0 k : Nat} {t : Fr} {m : Mem} {n : Nat} (id j esz : Nat) {cs : List AV} (hn : decide (n0 ≤ n) = true) (hid : mget m id = some cs) (hj : cs[j]? = some (.d .nsl)) (hne : decide (id < n) = true) :
    Leads n0 k ⟨t, m, n⟩ ⟨t, mset (mset m n []) id (cs.set j (.sl n esz 0 0)), n + 1⟩ := by
  intro E hE a w hcc
  have hne := of_decide_eq_true hne
  have hEn : E.n ≤ n := hE ▸ of_decide_eq_true hn
  obtain ⟨c, hφ, hc, hp⟩ := conc_bind hEn hcc
  have hid' : mget (mset m n []) id = some cs := by rw [mget_mset, if_neg (by omega)]; exact hid
  have hown : ∀ b, Own c (mset (mset m n []) id (cs.set j (.sl n esz 0 0))) b → Own c (mset m n []) b := fun b h => own_put hid' h
  have hsome : ∀ i, (mget (mset (mset m n []) id (cs.set j (.sl n esz 0 0))) i).isSome → (mget (mset m n []) i).isSome := fun i h => by
    rw [mget_mset] at h
    split at h
    · rename_i e; subst e; rw [hid']; rfl
    · exact h
  refine ⟨c, ⟨hc.defers, hc.size, hc.fr, ⟨fun i cells hi => ?_, fun i i' b h1 h2 => hc.mr.inj i i' b (hsome i h1) (hsome i' h2), hc.mr.imm, hc.mr.tab⟩, hc.free⟩, ⟨hp.step, fun b hb => hp.own b (hown b hb), fun i hi hm => hp.keep i hi (hsome i hm)⟩⟩
  rw [mget_mset] at hi
  split at hi
  · rename_i e
    subst e
    cases hi
    rcases hc.mr.own id cs hid' with ⟨h0, rfl⟩ | ⟨b, arr, T, f, hb, hni, hw, hf, vs, rest, ha, hr⟩
    · simp at hj
    · refine .inr ⟨b, arr, T, f, hb, hni, hw, hf, vs, rest, ha, ?_⟩
      obtain ⟨v, hv, hrel⟩ := hr.get hj
      have h2 := hr.set j (x := .sl n esz 0 0) (v := v) (by
        simp only [Rel, RelD] at hrel ⊢
        exact .inl ⟨hφ, trivial, trivial, hrel⟩)
      have h3 : vs.set j v = vs := by
        apply List.ext_getElem?
        intro q
        rw [List.getElem?_set]
        split
        · rename_i e; subst e
          split
          · exact hv.symm
          · rename_i h; rw [List.getElem?_eq_none (by omega)]
        · rfl
      rw [h3] at h2
      exact h2
  · exact hc.mr.own i cells hi
theorem Leads.nilCellT {n0 k : Nat} {t : Fr} {m : Mem} {n : Nat} (id j T : Nat) {cs : List AV} (hn : decide (n0 ≤ n) = true) (hid : mget m id = some cs) (hj : cs[j]? = some (.d .nsl)) (hne : decide (id < n) = true) :
    Leads n0 k ⟨t, m, n⟩ ⟨t, mset (mset m n []) id (cs.set j (.slT n T 0)), n + 1⟩ := by
  intro E hE a w hcc
  have hne := of_decide_eq_true hne
  have hEn : E.n ≤ n := hE ▸ of_decide_eq_true hn
  obtain ⟨c, hφ, hc, hp⟩ := conc_bind hEn hcc
  have hid' : mget (mset m n []) id = some cs := by rw [mget_mset, if_neg (by omega)]; exact hid
  have hown : ∀ b, Own c (mset (mset m n []) id (cs.set j (.slT n T 0))) b → Own c (mset m n []) b := fun b h => own_put hid' h
  have hsome : ∀ i, (mget (mset (mset m n []) id (cs.set j (.slT n T 0))) i).isSome → (mget (mset m n []) i).isSome := fun i h => by
    rw [mget_mset] at h
    split at h
    · rename_i e; subst e; rw [hid']; rfl
    · exact h
  refine ⟨c, ⟨hc.defers, hc.size, hc.fr, ⟨fun i cells hi => ?_, fun i i' b h1 h2 => hc.mr.inj i i' b (hsome i h1) (hsome i' h2), hc.mr.imm, hc.mr.tab⟩, hc.free⟩, ⟨hp.step, fun b hb => hp.own b (hown b hb), fun i hi hm => hp.keep i hi (hsome i hm)⟩⟩
  rw [mget_mset] at hi
  split at hi
  · rename_i e
    subst e
    cases hi
    rcases hc.mr.own id cs hid' with ⟨h0, rfl⟩ | ⟨b, arr, U, f, hb, hni, hw, hf, vs, rest, ha, hr⟩
    · simp at hj
    · refine .inr ⟨b, arr, U, f, hb, hni, hw, hf, vs, rest, ha, ?_⟩
      obtain ⟨v, hv, hrel⟩ := hr.get hj
      have h2 := hr.set j (x := .slT n T 0) (v := v) (by
        simp only [Rel, RelD] at hrel ⊢
        exact .inl ⟨hφ, trivial, hrel⟩)
      have h3 : vs.set j v = vs := by
        apply List.ext_getElem?
        intro q
        rw [List.getElem?_set]
        split
        · rename_i e; subst e
          split
          · exact hv.symm
          · rename_i h; rw [List.getElem?_eq_none (by omega)]
        · rfl
      rw [h3] at h2
      exact h2
  · exact hc.mr.own i cells hi
end Go.Jq
namespace Go.Jq
open Go
def Pure (P : Program) (f : Nat) (args : List AV) (v : AV) : Prop := ACalls P f args [] fun r m' => r = v ∧ m' = []
mutual
theorem ren_noId {π : Nat → Option Nat} : ∀ (x : AV), inB (fun _ => none) x = true → x.ren π = x
  | .d x, _ => rfl
  | .ptr id off, h => by simp [inB] at h
  | .npt id T, h => by simp [inB] at h
  | .slT id T len, h => by simp [inB] at h
  | .dptr cs, _ => rfl
  | .sl id esz off len, h => by simp [inB] at h
  | .fn f caps, h => by simp only [inB] at h; simp only [AV.ren, renL_noId caps h]
  | .agg cs, h => by simp only [inB] at h; simp only [AV.ren, renL_noId cs h]
  | .tup cs, h => by simp only [inB] at h; simp only [AV.ren, renL_noId cs h]
  | .any, _ => rfl
theorem renL_noId {π : Nat → Option Nat} : ∀ (xs : List AV), inL (fun _ => none) xs = true → renL π xs = xs
  | [], _ => rfl
  | x :: xs, h => by
    simp only [inL, Bool.and_eq_true] at h
    simp only [renL, ren_noId x h.1, renL_noId xs h.2]
end
mutual
theorem inB_mono {π π' : Nat → Option Nat} (hp : ∀ i, (π i).isSome → (π' i).isSome) : ∀ (x : AV), inB π x = true → inB π' x = true
  | .d _, _ => rfl
  | .ptr id _, h => hp id h
  | .npt id _, h => hp id h
  | .slT id _ _, h => hp id h
  | .dptr _, _ => rfl
  | .sl id _ _ _, h => hp id h
  | .fn _ caps, h => inL_mono hp caps h
  | .agg cs, h => inL_mono hp cs h
  | .tup cs, h => inL_mono hp cs h
  | .any, _ => rfl
theorem inL_mono {π π' : Nat → Option Nat} (hp : ∀ i, (π i).isSome → (π' i).isSome) : ∀ (xs : List AV), inL π xs = true → inL π' xs = true
  | [], _ => rfl
  | x :: xs, h => by
    simp only [inL, Bool.and_eq_true] at h ⊢
    exact ⟨inB_mono hp x h.1, inL_mono hp xs h.2⟩
end
@[go_sem] theorem inL_append (π : Nat → Option Nat) (l l' : List AV) : inL π (l ++ l') = (inL π l && inL π l') := by
  induction l with
  | nil => rfl
  | cons x l ih => simp only [List.cons_append, inL, ih, Bool.and_assoc]
section
variable {P : Program} {f : Nat} {args : List AV} {v : AV} {dst : Option Nat} {r : List AOper} {K : St → Prop} {t : Fr} {m : Mem} {n : Nat}
theorem callK_gen (ρ : Ren) (args0 : List AV) (m0 : Mem) {Q : AV → Mem → Prop} {nb : Nat} (h : ACalls P f args0 m0 Q) (hok : okRen nb ρ = true) (hargs : renL (pget ρ) args0 = args) (hin : inL (pget ρ) args0 = true)
    (hh : handed ρ m m0) (hdom : (ρ.all fun p => (mget m0 p.1).isSome) = true)
    (hk : ∀ r0 m', Q r0 m' → runOps P r ⟨putF t dst (r0.ren (renOf ρ m0 m' n)), callMem ρ m0 m' n m, n + Nat.max (mbound m0) (mbound m')⟩ K) : callK P f args dst r K t m n := by
  subst hargs
  have hdom' : ∀ j id, pget ρ j = some id → (mget m0 j).isSome := fun j id hj => List.all_eq_true.1 hdom _ (pget_mem hj)
  refine ⟨_, callR_gen (n := n) h ρ hok hin hh hdom' (F := (n ≤ ·)) (fun _ _ _ _ h _ => h), ?_⟩
  rintro v m' n' ⟨r0, m1, hQ, rfl, rfl, rfl⟩
  exact hk r0 m1 hQ
theorem callK_pure (h : Pure P f args v) (ha : inL (fun _ => none) args = true) (hv : inB (fun _ => none) v = true) (hk : runOps P r ⟨putF t dst v, m, n⟩ K) : callK P f args dst r K t m n := by
  refine callK_gen [] args [] (nb := 0) h rfl (renL_noId _ ha) (inL_mono (fun _ h => by cases h) _ ha) trivial rfl ?_
  rintro r0 m' ⟨rfl, rfl⟩
  rw [ren_noId _ hv]
  exact hk
def flatD : DV → Bool
  | .sl _ _ => false
  | _ => true
mutual
def flatV : AV → Bool
  | .d x => flatD x
  | .agg cs => flatVs cs
  | .tup cs => flatVs cs
  | .any => true
  | _ => false
def flatVs : List AV → Bool
  | [] => true
  | x :: xs => flatV x && flatVs xs
end
theorem relD_flat {I I' : Nat → Prop} {w w' : World} {x : DV} {v : Value} (hx : flatD x = true) (h : RelD I w x v) : RelD I' w' x v := by
  cases x with
  | sl n cs => simp [flatD] at hx
  | _ => exact h
mutual
theorem rel_flat {c c' : Ctx} {w w' : World} : ∀ (x : AV) (v : Value), flatV x = true → Rel c w x v → Rel c' w' x v
  | .d x, v, hx, h => by simp only [Rel] at h ⊢; exact relD_flat hx h
  | .ptr _ _, _, hx, _ => by simp [flatV] at hx
  | .npt _ _, _, hx, _ => by simp [flatV] at hx
  | .slT _ _ _, _, hx, _ => by simp [flatV] at hx
  | .dptr _, _, hx, _ => by simp [flatV] at hx
  | .sl _ _ _ _, _, hx, _ => by simp [flatV] at hx
  | .fn _ _, _, hx, _ => by simp [flatV] at hx
  | .agg cs, v, hx, h => by
    simp only [Rel, flatV] at h hx ⊢
    obtain ⟨vs, hv, hl⟩ := h
    exact ⟨vs, hv, relL_flat cs vs hx hl⟩
  | .tup cs, v, hx, h => by
    simp only [Rel, flatV] at h hx ⊢
    obtain ⟨vs, hv, hl⟩ := h
    exact ⟨vs, hv, relL_flat cs vs hx hl⟩
  | .any, _, _, _ => by simp [Rel]
theorem relL_flat {c c' : Ctx} {w w' : World} : ∀ (xs : List AV) (vs : List Value), flatVs xs = true → RelL c w xs vs → RelL c' w' xs vs
  | [], _, _, h => by simpa [RelL] using h
  | x :: xs, vs, hx, h => by
    simp only [RelL, flatVs, Bool.and_eq_true] at h hx ⊢
    obtain ⟨v, vs', hv, h1, h2⟩ := h
    exact ⟨v, vs', hv, rel_flat x v hx.1 h1, relL_flat xs vs' hx.2 h2⟩
end
theorem callK_lend (Z : Zs) (args0 : List AV) {Q : AV → Prop} (h : ACalls P f args0 [] fun r m' => Q r ∧ m' = []) (hz : zokFrom m Z Z) (hargs : cvL (fun _ => none) (zget Z) args = args0) (hv : ∀ v, Q v → flatV v = true)
    (hk : ∀ v, Q v → runOps P r ⟨putF t dst v, m, n⟩ K) : callK P f args dst r K t m n := by
  refine ⟨fun v m' n' => Q v ∧ m' = m ∧ n' = n, ?_, fun v m' n' h => by obtain ⟨h1, rfl, rfl⟩ := h; exact hk v h1⟩
  intro c w vs hr hM hfree
  have hown0 : ∀ (c' : Ctx) b, ¬ Own c' [] b := fun c' b ⟨id, h1, _⟩ => by simp [mget] at h1
  have hzi : ∀ id, (zget Z id).isSome → (mget m id).isSome := fun id h => by
    obtain ⟨ds, hds⟩ := Option.isSome_iff_exists.1 h
    obtain ⟨cs, hcs, _⟩ := zok_get hz id ds hds
    rw [hcs]; rfl
  have hr0 : RelL (c.frz [] Z) w args0 vs := by rw [← hargs]; exact relL_cv (π := []) (nb := 0) rfl hM hz _ _ hr
  have hM0 : MR (c.frz [] Z) [] w := ⟨fun id cells h => by simp [mget] at h, fun id id' b h => by simp [mget] at h, fun b hb => by
    rcases hb with h1 | ⟨id, h1, h2⟩
    · exact hM.imm b h1
    · exact hM.blk_lt ⟨id, hzi id h1, h2⟩, hM.tabTo (fun _ h => .inl h) fun _ _ => rfl⟩
  refine (h (c.frz [] Z) w vs hr0 hM0 fun id _ => rfl).mono ?_
  rintro e w' ⟨v, r0, m', c', rfl, ⟨hQ, rfl⟩, hrel, hM', hs, ho, hpers, hfr⟩
  have hkeep : ∀ b, b < w.heap.size → w'.heap[b]? = w.heap[b]? := fun b hb => hs.keep b hb (hown0 _ b)
  have hl : Later c c w w' := ⟨fun _ h => h, fun b hb => hkeep b (hM.imm b hb), fun _ _ => rfl, hs.rows⟩
  refine ⟨v, r0, m, n, c, rfl, ⟨hQ, rfl, rfl⟩, rel_flat _ _ (hv _ hQ) hrel, ⟨fun id cells hid => ?_, hM.inj, fun b hb => Nat.lt_of_lt_of_le (hM.imm b hb) hs.size, hM.tabTo (fun _ h => h) fun b hb => hkeep b (hM.imm b hb)⟩,
    ⟨hs.os, hs.tape, hs.output, hs.size, fun b hb _ => hkeep b hb, hs.rows, fun _ h => h, fun b hb => .inl hb⟩, fun b hb => .inl hb, fun _ _ => rfl, fun _ _ h => h, Nat.le_refl _⟩
  have hS : (mget m id).isSome := by rw [hid]; rfl
  exact (hM.own id cells hid).later hl fun b hb => ⟨hkeep b (hM.blk_lt ⟨id, hS, hb⟩), fun hi => hM.sep hi ⟨id, hS, hb⟩⟩
def dK (P : Program) (dst : Option Nat) (op : AOp) (r : List AOper) (acc : List Foot) (ms : List Nat) (K : St → Prop) (t : Fr) (m : Mem) (n : Nat) : Prop :=
  dStep P dst op ⟨t, m, n⟩ fun S' f => runDA P r (f :: acc) ms S' K
def dContK (P : Program) (dst : Option Nat) (F : List Nat) (r : List AOper) (acc : List Foot) (ms : List Nat) (K : St → Prop) (t : Fr) (m : Mem) (n : Nat) : Option (AV × Eff) → Prop
  | some (v, e) => runDA P r (⟨keysOf n e, F⟩ :: acc) ms ⟨putF t dst v, e.mem m n, n + 1⟩ K
  | none => False
def dGateK (P : Program) (dst : Option Nat) (op : AOp) (r : List AOper) (acc : List Foot) (ms : List Nat) (K : St → Prop) (t : Fr) (m : Mem) (n : Nat) (want : Bool) : AV → Prop
  | .d (.bool b) => if b = want then dK P dst op r acc ms K t m n else runDA P r (⟨[], []⟩ :: acc) ms ⟨putF t dst (.tup []), m, n + 1⟩ K
  | .tup _ => runDA P r (⟨[], []⟩ :: acc) ms ⟨putF t dst (.tup []), m, n + 1⟩ K
  | _ => False
def dCallK (P : Program) (f : Nat) (args : List AV) (dst : Option Nat) (r : List AOper) (acc : List Foot) (ms : List Nat) (K : St → Prop) (t : Fr) (m : Mem) (n : Nat) : Prop :=
  CallD P f args m n fun v m n F => runDA P r (F :: acc) ms ⟨putF t dst v, m, n⟩ K
def dCallvK (P : Program) (args : List AV) (dst : Option Nat) (r : List AOper) (acc : List Foot) (ms : List Nat) (K : St → Prop) (t : Fr) (m : Mem) (n : Nat) : AV → Prop
  | .fn f caps => goesB P f = true ∧ dCallK P f (args ++ caps) dst r acc ms K t m n
  | _ => False
variable {acc : List Foot} {ms : List Nat} {op : AOp}
@[go_sem] theorem runDA_nil {S : St} : runDA P [] acc ms S K = (indepFrom [] acc.reverse (closeM [] ms) = true ∧ K S) := rfl
@[go_sem] theorem runDA_cons : runDA P (⟨dst, op, none⟩ :: r) acc ms ⟨t, m, n⟩ K = dK P dst op r acc ms K t m n := by simp only [runDA, dK]
@[go_sem] theorem runDA_guard {g : Nat} {want : Bool} : runDA P (⟨dst, op, some (g, want)⟩ :: r) acc ms ⟨t, m, n⟩ K = dGateK P dst op r acc ms K t m n want (fget t g) := by
  simp only [runDA]
  generalize fget t g = x
  cases x with
  | d x => cases x <;> simp only [dGateK, dK]
  | _ => simp only [dGateK]
@[go_sem] theorem dGateK_tt : dGateK P dst op r acc ms K t m n true (.d (.bool true)) = dK P dst op r acc ms K t m n := rfl
@[go_sem] theorem dGateK_ff : dGateK P dst op r acc ms K t m n false (.d (.bool false)) = dK P dst op r acc ms K t m n := rfl
@[go_sem] theorem dGateK_tf : dGateK P dst op r acc ms K t m n true (.d (.bool false)) = runDA P r (⟨[], []⟩ :: acc) ms ⟨putF t dst (.tup []), m, n + 1⟩ K := rfl
@[go_sem] theorem dGateK_ft : dGateK P dst op r acc ms K t m n false (.d (.bool true)) = runDA P r (⟨[], []⟩ :: acc) ms ⟨putF t dst (.tup []), m, n + 1⟩ K := rfl
@[go_sem] theorem dGateK_tup {want : Bool} {cs : List AV} : dGateK P dst op r acc ms K t m n want (.tup cs) = runDA P r (⟨[], []⟩ :: acc) ms ⟨putF t dst (.tup []), m, n + 1⟩ K := rfl
theorem dK_plain (h : isCall op = false) : dK P dst op r acc ms K t m n = dContK P dst (footF t op) r acc ms K t m n (aevN op t m n) := by
  cases op <;> first
    | (simp [isCall] at h; done)
    | (simp only [dK, dStep]
       generalize aevN _ t m n = x
       cases x with
       | none => rfl
       | some p => obtain ⟨v, e⟩ := p; rfl)
@[go_sem] theorem dK_mv {x : Opd} : dK P dst (.mv x) r acc ms K t m n = dContK P dst (footF t (.mv x)) r acc ms K t m n (aevN (.mv x) t m n) := dK_plain rfl
@[go_sem] theorem dK_pick {a b c : Opd} : dK P dst (.pick a b c) r acc ms K t m n = dContK P dst (footF t (.pick a b c)) r acc ms K t m n (aevN (.pick a b c) t m n) := dK_plain rfl
@[go_sem] theorem dK_alloc {z : List AV} : dK P dst (.alloc z) r acc ms K t m n = dContK P dst (footF t (.alloc z)) r acc ms K t m n (aevN (.alloc z) t m n) := dK_plain rfl
@[go_sem] theorem dK_box {x : Opd} : dK P dst (.box x) r acc ms K t m n = dContK P dst (footF t (.box x)) r acc ms K t m n (aevN (.box x) t m n) := dK_plain rfl
@[go_sem] theorem dK_build {z : List AV} {p : List (Nat × Nat × Opd)} : dK P dst (.build z p) r acc ms K t m n = dContK P dst (footF t (.build z p)) r acc ms K t m n (aevN (.build z p) t m n) := dK_plain rfl
@[go_sem] theorem dK_bslice {a b : Nat} {z : List AV} {p : List (Nat × Nat × Opd)} : dK P dst (.bslice a b z p) r acc ms K t m n = dContK P dst (footF t (.bslice a b z p)) r acc ms K t m n (aevN (.bslice a b z p) t m n) := dK_plain rfl
@[go_sem] theorem dK_load {k : Option Nat} {x : Opd} : dK P dst (.load k x) r acc ms K t m n = dContK P dst (footF t (.load k x)) r acc ms K t m n (aevN (.load k x) t m n) := dK_plain rfl
@[go_sem] theorem dK_store {k : Nat} {x y : Opd} : dK P dst (.store k x y) r acc ms K t m n = dContK P dst (footF t (.store k x y)) r acc ms K t m n (aevN (.store k x y) t m n) := dK_plain rfl
@[go_sem] theorem dK_nilck {x : Opd} : dK P dst (.nilck x) r acc ms K t m n = dContK P dst (footF t (.nilck x)) r acc ms K t m n (aevN (.nilck x) t m n) := dK_plain rfl
@[go_sem] theorem dK_bin {o : BinOp} {x y : Opd} : dK P dst (.bin o x y) r acc ms K t m n = dContK P dst (footF t (.bin o x y)) r acc ms K t m n (aevN (.bin o x y) t m n) := dK_plain rfl
@[go_sem] theorem dK_eqb {o : Bool} {x y : Opd} : dK P dst (.eqb o x y) r acc ms K t m n = dContK P dst (footF t (.eqb o x y)) r acc ms K t m n (aevN (.eqb o x y) t m n) := dK_plain rfl
@[go_sem] theorem dK_eqp {o : Bool} {x y : Opd} : dK P dst (.eqp o x y) r acc ms K t m n = dContK P dst (footF t (.eqp o x y)) r acc ms K t m n (aevN (.eqp o x y) t m n) := dK_plain rfl
@[go_sem] theorem dK_eqf {o : Bool} {x y : Opd} : dK P dst (.eqf o x y) r acc ms K t m n = dContK P dst (footF t (.eqf o x y)) r acc ms K t m n (aevN (.eqf o x y) t m n) := dK_plain rfl
@[go_sem] theorem dK_eqs {k : List Nat} {o : Bool} {x y : Opd} : dK P dst (.eqs k o x y) r acc ms K t m n = dContK P dst (footF t (.eqs k o x y)) r acc ms K t m n (aevN (.eqs k o x y) t m n) := dK_plain rfl
@[go_sem] theorem dK_un {o : UnOp} {x : Opd} : dK P dst (.un o x) r acc ms K t m n = dContK P dst (footF t (.un o x)) r acc ms K t m n (aevN (.un o x) t m n) := dK_plain rfl
@[go_sem] theorem dK_cvi {k : IntKind} {x : Opd} : dK P dst (.cvi k x) r acc ms K t m n = dContK P dst (footF t (.cvi k x)) r acc ms K t m n (aevN (.cvi k x) t m n) := dK_plain rfl
@[go_sem] theorem dK_cvrune {x : Opd} : dK P dst (.cvrune x) r acc ms K t m n = dContK P dst (footF t (.cvrune x)) r acc ms K t m n (aevN (.cvrune x) t m n) := dK_plain rfl
@[go_sem] theorem dK_cvbs {x : Opd} : dK P dst (.cvbs x) r acc ms K t m n = dContK P dst (footF t (.cvbs x)) r acc ms K t m n (aevN (.cvbs x) t m n) := dK_plain rfl
@[go_sem] theorem dK_cvsb {x : Opd} : dK P dst (.cvsb x) r acc ms K t m n = dContK P dst (footF t (.cvsb x)) r acc ms K t m n (aevN (.cvsb x) t m n) := dK_plain rfl
@[go_sem] theorem dK_cvll {x : Opd} : dK P dst (.cvll x) r acc ms K t m n = dContK P dst (footF t (.cvll x)) r acc ms K t m n (aevN (.cvll x) t m n) := dK_plain rfl
@[go_sem] theorem dK_mkfn {f : Nat} {c : List Opd} : dK P dst (.mkfn f c) r acc ms K t m n = dContK P dst (footF t (.mkfn f c)) r acc ms K t m n (aevN (.mkfn f c) t m n) := dK_plain rfl
@[go_sem] theorem dK_mksl {a b : Nat} {z : List AV} {x y : Opd} : dK P dst (.mksl a b z x y) r acc ms K t m n = dContK P dst (footF t (.mksl a b z x y)) r acc ms K t m n (aevN (.mksl a b z x y) t m n) := dK_plain rfl
@[go_sem] theorem dK_slcs {x : Opd} {l h : Option Opd} : dK P dst (.slcs x l h) r acc ms K t m n = dContK P dst (footF t (.slcs x l h)) r acc ms K t m n (aevN (.slcs x l h) t m n) := dK_plain rfl
@[go_sem] theorem dK_slcl {a : Nat} {x : Opd} {l h : Option Opd} : dK P dst (.slcl a x l h) r acc ms K t m n = dContK P dst (footF t (.slcl a x l h)) r acc ms K t m n (aevN (.slcl a x l h) t m n) := dK_plain rfl
@[go_sem] theorem dK_faddr {x : Opd} {o : Nat} : dK P dst (.faddr x o) r acc ms K t m n = dContK P dst (footF t (.faddr x o)) r acc ms K t m n (aevN (.faddr x o) t m n) := dK_plain rfl
@[go_sem] theorem dK_fld {x : Opd} {o : Nat} {k : Option Nat} : dK P dst (.fld x o k) r acc ms K t m n = dContK P dst (footF t (.fld x o k)) r acc ms K t m n (aevN (.fld x o k) t m n) := dK_plain rfl
@[go_sem] theorem dK_iaddr {e : Nat} {k : Option Nat} {x i : Opd} : dK P dst (.iaddr e k x i) r acc ms K t m n = dContK P dst (footF t (.iaddr e k x i)) r acc ms K t m n (aevN (.iaddr e k x i) t m n) := dK_plain rfl
@[go_sem] theorem dK_idxs {x i : Opd} : dK P dst (.idxs x i) r acc ms K t m n = dContK P dst (footF t (.idxs x i)) r acc ms K t m n (aevN (.idxs x i) t m n) := dK_plain rfl
@[go_sem] theorem dK_idxa {a e : Nat} {k : Option Nat} {x i : Opd} : dK P dst (.idxa a e k x i) r acc ms K t m n = dContK P dst (footF t (.idxa a e k x i)) r acc ms K t m n (aevN (.idxa a e k x i) t m n) := dK_plain rfl
@[go_sem] theorem dK_ext {x : Opd} {i : Nat} : dK P dst (.ext x i) r acc ms K t m n = dContK P dst (footF t (.ext x i)) r acc ms K t m n (aevN (.ext x i) t m n) := dK_plain rfl
@[go_sem] theorem dK_lens {x : Opd} : dK P dst (.lens x) r acc ms K t m n = dContK P dst (footF t (.lens x)) r acc ms K t m n (aevN (.lens x) t m n) := dK_plain rfl
@[go_sem] theorem dK_lenl {x : Opd} : dK P dst (.lenl x) r acc ms K t m n = dContK P dst (footF t (.lenl x)) r acc ms K t m n (aevN (.lenl x) t m n) := dK_plain rfl
@[go_sem] theorem dK_minI {x y : Opd} : dK P dst (.minI x y) r acc ms K t m n = dContK P dst (footF t (.minI x y)) r acc ms K t m n (aevN (.minI x y) t m n) := dK_plain rfl
@[go_sem] theorem dK_maxI {x y : Opd} : dK P dst (.maxI x y) r acc ms K t m n = dContK P dst (footF t (.maxI x y)) r acc ms K t m n (aevN (.maxI x y) t m n) := dK_plain rfl
@[go_sem] theorem dK_app {a b e : Nat} {x y : Opd} : dK P dst (.app a b e x y) r acc ms K t m n = dContK P dst (footF t (.app a b e x y)) r acc ms K t m n (aevN (.app a b e x y) t m n) := dK_plain rfl
@[go_sem] theorem dContK_some {F : List Nat} {v : AV} {e : Eff} : dContK P dst F r acc ms K t m n (some (v, e)) = runDA P r (⟨keysOf n e, F⟩ :: acc) ms ⟨putF t dst v, e.mem m n, n + 1⟩ K := rfl
@[go_sem] theorem dContK_none {F : List Nat} : dContK P dst F r acc ms K t m n none = False := rfl
@[go_sem] theorem dK_callf {f : Nat} {args : List Opd} : dK P dst (.callf f args) r acc ms K t m n = dCallK P f (args.map (ev t)) dst r acc ms K t m n := rfl
@[go_sem] theorem dK_callv {x : Opd} {args : List Opd} : dK P dst (.callv x args) r acc ms K t m n = dCallvK P (args.map (ev t)) dst r acc ms K t m n (ev t x) := by
  unfold dK
  simp only [dStep]
  generalize ev t x = y
  cases y <;> rfl
@[go_sem] theorem dCallvK_fn {f : Nat} {caps args : List AV} : dCallvK P args dst r acc ms K t m n (.fn f caps) = (goesB P f = true ∧ dCallK P f (args ++ caps) dst r acc ms K t m n) := rfl
theorem dCallK_pure (h : Pure P f args v) (ha : inL (fun _ => none) args = true) (hv : inB (fun _ => none) v = true) (hk : runDA P r (⟨[], []⟩ :: acc) ms ⟨putF t dst v, m, n⟩ K) : dCallK P f args dst r acc ms K t m n := by
  refine ⟨[], [], args, v, [], 0, rfl, (renL_noId _ ha).symm, inL_mono (fun _ h => by cases h) _ ha, trivial, fun _ _ h => by simp [pget] at h, h, ?_⟩
  rw [ren_noId _ hv]
  exact hk
end
attribute [go_sem] footF keysOf idOf
end Go.Jq
namespace Go.Jq
open Go
set_option linter.unusedSimpArgs false
set_option maxRecDepth 10000
def acIdx (esz : Nat) (k : Option Nat) : ACode := (.seq (.region false [⟨(some 4), .mv (.c (.d (.int .i64 0))), none⟩] []) (.seq (.seq (.region false [⟨(some 6), .mv (.t 0), none⟩, ⟨(some 7), .lenl (.t 6), none⟩, ⟨(some 8), .mv (.c (.d (.int .i64 0))), none⟩] []) (.block 0 (.loop (.seq (.region false [⟨(some 9), .bin .lss (.t 8) (.t 7), none⟩] []) (.seq (.cond (.t 9) .skip (.exit 0)) (.seq (.block 1 (.seq (.region false [⟨(some 10), .mv (.t 8), none⟩, ⟨(some 5), .mv (.t 10), none⟩] []) (.seq (.region false [⟨(some 11), .mv (.t 1), none⟩, ⟨(some 12), .mv (.t 0), none⟩, ⟨(some 13), .mv (.t 5), none⟩, ⟨(some 14), .iaddr esz none (.t 12) (.t 13), none⟩, ⟨(some 15), .load k (.t 14), none⟩, ⟨(some 16), .callv (.t 11) [(.t 15)], none⟩] []) (.cond (.t 16) (.seq (.region false [⟨(some 17), .mv (.t 5), none⟩, ⟨(some 4), .mv (.t 17), none⟩] []) .ret) .skip)))) (.region false [⟨(some 18), .bin .add (.t 8) (.c (.d (.int .i64 1))), none⟩, ⟨(some 8), .mv (.t 18), none⟩] []))))))) (.seq (.region false [⟨(some 4), .mv (.c (.d (.int .i64 (-1)))), none⟩] []) .ret)))
def findFrom (p : Nat → Bool) : Nat → Nat → Int
  | 0, _ => -1
  | n + 1, i => if p i = true then (i : Int) else findFrom p n (i + 1)
theorem findFrom_ge (p : Nat → Bool) : ∀ (n i : Nat), decide (0 ≤ findFrom p n i) = (List.range' i n).any p
  | 0, i => by simp [findFrom]
  | n + 1, i => by
    have ih := findFrom_ge p n (i + 1)
    simp only [findFrom, List.range'_succ, List.any_cons]
    by_cases h : p i = true
    · simp [h]
    · simp [h, ih]
structure SlE (esz : Nat) (k : Option Nat) (X : DV) (n : Nat) (elt : Nat → AV) : Prop where
  len : lenA (.d X) = some n
  big : n ≤ 9223372036854775807
  get : ∀ i, i < n → ∃ cs, X = .sl n cs ∧ i * esz < cs.length ∧ loadA k ((cs.drop (i * esz)).map .d) = some (elt i)
theorem indexFunc {P : Program} {f kk : Nat} {fn : Func} (hf : P.funcs[f]? = some fn) {esz : Nat} {k : Option Nat} (hc : fn.body.bind (cCode P fn.ntmps) = some (acIdx esz k)) (hk : fn.ntmps = kk) (hkk : decide (2 ≤ kk) = true) (hrs : fn.results = #[.tmp 4])
    {X : DV} {len : Nat} {elt : Nat → AV} (hx : SlE esz k X len elt) {gf : Nat} {caps : List AV} (hg : goesB P gf = true) (hcap : inL (fun _ => none) caps = true) (he : ∀ i, i < len → inB (fun _ => none) (elt i) = true) {p : Nat → Bool}
    (hp : ∀ i, i < len → Pure P gf (elt i :: caps) (.d (.bool (p i)))) : Pure P f [.d X, .fn gf caps] (.d (.int .i64 (findFrom p len 0))) := by
  refine acalls_of hf hc hk hrs hkk ?_
  have hcr : ∀ π, renL π caps = caps := fun π => renL_noId _ hcap
  have hbig := hx.big
  unfold acIdx
  refine bwp_seq fun K hK => bwp_region rfl ?_
  simp only [go_sem]
  refine hK _ ?_; clear hK K
  refine bwp_seq fun K hK => ?_
  refine bwp_seq fun K' hK' => bwp_region rfl ?_
  simp only [go_sem, ↓reduceIte, Nat.reduceEqDiff, hx.len]
  refine hK' _ ?_; clear hK' K'
  refine bwp_block ?_
  refine bwp_leads (S' := ⟨[(0, .d X), (1, .fn gf caps), (7, .d (.int .i64 len)), (8, .d (.int .i64 (0 : Nat)))], [], 0⟩) (Leads.ent [] ⟨?_, trivial, rfl, rfl⟩) ?_
  · simp [entT, fget, AV.ren, hcr]
  refine bwp_loop (fun S => ∃ i, i ≤ len ∧ findFrom p (len - i) i = findFrom p len 0 ∧ S = ⟨[(0, .d X), (1, .fn gf caps), (7, .d (.int .i64 len)), (8, .d (.int .i64 (i : Nat)))], [], 0⟩)
    (fun S => match fget S.t 8 with
      | .d (.int _ i) => len - i.toNat
      | _ => 0) ⟨0, Nat.zero_le _, rfl, rfl⟩ ?_
  rintro S ⟨i, hi, hfi, rfl⟩
  refine bwp_seq fun K1 hK1 => bwp_region rfl ?_
  simp only [go_sem, ↓reduceIte, Nat.reduceEqDiff]
  refine hK1 _ ?_; clear hK1 K1
  by_cases hlt : i < len
  · have hlt' : (i : Int) < len := by omega
    obtain ⟨cs, hX, hcs, hld⟩ := hx.get i hlt
    refine bwp_seq fun K1 hK1 => bwp_cond true (by simp [ev, fget, hlt']) (fun _ => bwp_skip ?_) (fun h => nomatch h)
    refine hK1 _ ?_; clear hK1 K1
    refine bwp_seq fun K1 hK1 => bwp_block ?_
    refine bwp_seq fun K2 hK2 => bwp_region rfl ?_
    simp only [go_sem, ↓reduceIte, Nat.reduceEqDiff]
    refine hK2 _ ?_; clear hK2 K2
    refine bwp_seq fun K2 hK2 => bwp_region rfl ?_
    simp only [go_sem, ↓reduceIte, Nat.reduceEqDiff, hX, hlt', Int.toNat_natCast, hcs, Int.natCast_nonneg, and_self, hld, true_and]
    refine ⟨hg, ?_⟩
    refine callK_pure (args := elt i :: caps) (hp i hlt) (by simp only [inL, he i hlt, hcap, Bool.and_self]) rfl ?_
    simp only [go_sem]
    refine hK2 _ ?_; clear hK2 K2
    by_cases hpi : p i = true
    · refine bwp_cond true (by simp [ev, fget, hpi]) (fun _ => ?_) (fun h => nomatch h)
      refine bwp_seq fun K2 hK2 => bwp_region rfl ?_
      simp only [go_sem, ↓reduceIte, Nat.reduceEqDiff]
      refine hK2 _ ?_; clear hK2 K2
      refine bwp_ret ?_
      simp only [go_sem]
      refine aend_ret _ rfl rfl ⟨?_, rfl⟩
      have : len - i = (len - i - 1) + 1 := by omega
      rw [this] at hfi
      simp only [findFrom, hpi, if_true] at hfi
      simp only [fget, ↓reduceIte, ← hfi]
    · refine bwp_cond false (by simp [ev, fget, hpi]) (fun h => nomatch h) (fun _ => bwp_skip ?_)
      refine hK1 _ ?_; clear hK1 K1
      refine bwp_region rfl ?_
      simp only [go_sem, ↓reduceIte, Nat.reduceEqDiff]
      have hw : IntKind.i64.wrap ((i : Int) + 1) = ((i + 1 : Nat) : Int) := by rw [wrap_i64 (by omega) (by omega)]; rfl
      refine ⟨⟨[(0, .d X), (1, .fn gf caps), (7, .d (.int .i64 len)), (8, .d (.int .i64 (i + 1 : Nat)))], [], 0⟩, Leads.ent [] ⟨?_, trivial, rfl, rfl⟩, ⟨i + 1, hlt, ?_, rfl⟩, ?_⟩
      · simp [entT, fget, AV.ren, hcr, hw, hX]
      · have : len - i = (len - (i + 1)) + 1 := by omega
        rw [this] at hfi
        simp only [findFrom, hpi] at hfi
        exact hfi
      · simp only [fget, ↓reduceIte, Nat.reduceEqDiff, Int.toNat_natCast]
        omega
  · have hlt' : ¬ (i : Int) < len := by omega
    refine bwp_seq fun K1 hK1 => bwp_cond false (by simp [ev, fget, hlt']) (fun h => nomatch h) (fun _ => bwp_exit ?_)
    show K _
    refine hK _ ?_
    refine bwp_seq fun K1 hK1 => bwp_region rfl ?_
    simp only [go_sem, ↓reduceIte, Nat.reduceEqDiff]
    refine hK1 _ ?_; clear hK1 K1
    refine bwp_ret ?_
    simp only [go_sem]
    refine aend_ret _ rfl rfl ⟨?_, rfl⟩
    have : len - i = 0 := by omega
    rw [this] at hfi
    simp only [fget, ↓reduceIte, ← hfi, findFrom]
def acCont (idx : Nat) : ACode := (.seq (.region false [⟨(some 4), .mv (.c (.d (.bool false))), none⟩] []) (.seq (.region false [⟨(some 5), .mv (.t 0), none⟩, ⟨(some 6), .mv (.t 1), none⟩, ⟨(some 7), .callf idx [(.t 5), (.t 6)], none⟩, ⟨(some 8), .bin .geq (.t 7) (.c (.d (.int .i64 0))), none⟩, ⟨(some 4), .mv (.t 8), none⟩] []) .ret))
theorem containsFunc {P : Program} {f kk idx : Nat} {fn : Func} (hf : P.funcs[f]? = some fn) (hc : fn.body.bind (cCode P fn.ntmps) = some (acCont idx)) (hk : fn.ntmps = kk) (hkk : decide (2 ≤ kk) = true) (hrs : fn.results = #[.tmp 4])
    {X : DV} {len : Nat} {gf : Nat} {caps : List AV} (hcap : inL (fun _ => none) caps = true) {p : Nat → Bool} (hp : Pure P idx [.d X, .fn gf caps] (.d (.int .i64 (findFrom p len 0)))) :
    Pure P f [.d X, .fn gf caps] (.d (.bool ((List.range' 0 len).any p))) := by
  refine acalls_of hf hc hk hrs hkk ?_
  unfold acCont
  refine bwp_seq fun K hK => bwp_region rfl ?_
  simp only [go_sem]
  refine hK _ ?_; clear hK K
  refine bwp_seq fun K hK => bwp_region rfl ?_
  simp only [go_sem, ↓reduceIte, Nat.reduceEqDiff]
  refine callK_pure hp (by simp only [inL, inB, hcap, Bool.and_self]) rfl ?_
  simp only [go_sem, ↓reduceIte, Nat.reduceEqDiff]
  refine hK _ ?_; clear hK K
  refine bwp_ret (aend_ret _ rfl rfl ⟨?_, rfl⟩)
  simp only [fget, ↓reduceIte, findFrom_ge]
end Go.Jq
namespace Go.Jq
open Go
theorem pure_of_below {P : Program} {f : Nat} {args : List AV} {v : AV}
    (h : ∀ (c : Ctx) (w : World) (vs : List Value), RelL c w args vs → MR c [] w → Calls P f vs.toArray w fun e w' => ∃ u, e = .returned u ∧ w'.os = w.os ∧ w'.tape = w.tape ∧ w'.output = w.output ∧ w.heap.size ≤ w'.heap.size ∧
      (∀ k, k < w.heap.size → w'.heap[k]? = w.heap[k]?) ∧ Rel c w' v u) : Pure P f args v := by
  intro c w vs hr hM hfree
  refine (h c w vs hr hM).mono ?_
  rintro e w' ⟨u, rfl, h1, h2, h3, h4, h5, hu⟩
  have hrows : ∀ b n, rowSize w b = some n → rowSize w' b = some n := fun b n hn => (rowSize_eq (h5 b (rowSize_lt hn))).trans hn
  have hl : Later c c w w' := ⟨fun _ h => h, fun b hb => h5 b (hM.imm b hb), fun _ _ => rfl, hrows⟩
  refine ⟨u, v, [], c, rfl, ⟨rfl, rfl⟩, hu, ⟨fun id cells hi => by simp [mget] at hi, fun id id' b hi => by simp [mget] at hi, fun b hb => Nat.lt_of_lt_of_le (hM.imm b hb) h4, hM.tabTo hl.imm hl.same⟩,
    ⟨h1, h2, h3, h4, fun k hk _ => h5 k hk, hrows, fun _ h => h, fun _ h => .inl h⟩, fun b hb => .inl hb, fun id _ h => ⟨h, rfl⟩, fun id hid => hfree id (Nat.le_trans (Nat.zero_le _) hid)⟩
theorem aend_mem {P : Program} {rs : Array ResultVar} {n0 : Nat} {Q : AV → Mem → Prop} {S : St} (v : AV) (π : Ren) (m' : Mem) (hv : resA P rs S = some v) (hok : okRen (Nat.max n0 (mbound m')) π = true)
    (hk : keepRen n0 π = true) (hm : entM π S.m m') (hq : Q (v.ren (pget π)) m') : AEnd P rs n0 Q .ret S := ⟨v, hv, π, m', hok, hk, hm, hq⟩
def IsSl {α : Type} (enc : α → List DV) (l : List α) (X : DV) : Prop := l.length ≤ 9223372036854775807 ∧ ((X = .nsl ∧ l = []) ∨ X = .sl l.length (l.flatMap enc))
theorem flat_get {α : Type} {enc : α → List DV} {k : Nat} (hk : ∀ a, (enc a).length = k) : ∀ (l : List α) (i : Nat) (a : α), l[i]? = some a →
    ((l.flatMap enc).drop (i * k)).take k = enc a ∧ i * k + k ≤ (l.flatMap enc).length
  | [], i, a, h => by simp at h
  | x :: l, 0, a, h => by
    simp at h
    subst h
    refine ⟨?_, ?_⟩
    · rw [Nat.zero_mul, List.drop_zero, List.flatMap_cons, List.take_append_of_le_length (by rw [hk]; exact Nat.le_refl _), List.take_of_length_le (by rw [hk]; exact Nat.le_refl _)]
    · simp [List.flatMap_cons, hk]
  | x :: l, i + 1, a, h => by
    obtain ⟨h1, h2⟩ := flat_get hk l i a (by simpa using h)
    refine ⟨?_, ?_⟩
    · rw [← h1, List.flatMap_cons, List.drop_append]
      have e1 : (enc x).drop ((i + 1) * k) = [] := List.drop_eq_nil_of_le (by rw [hk, Nat.succ_mul]; omega)
      have e2 : (i + 1) * k - (enc x).length = i * k := by rw [hk, Nat.succ_mul]; omega
      rw [e1, e2, List.nil_append]
    · rw [List.flatMap_cons, List.length_append, hk, Nat.succ_mul]; omega
def eltA {α : Type} (enc : α → List DV) (l : List α) (i : Nat) : AV := match l[i]? with
  | some a => .agg ((enc a).map .d)
  | none => .any
theorem slE_agg {α : Type} {enc : α → List DV} {k : Nat} (hk : ∀ a, (enc a).length = k) (hk0 : 0 < k) {l : List α} {X : DV} (h : IsSl enc l X) : SlE k (some k) X l.length (eltA enc l) := by
  obtain ⟨hb, h⟩ := h
  refine ⟨?_, hb, fun i hi => ?_⟩
  · rcases h with ⟨rfl, rfl⟩ | rfl <;> rfl
  · rcases h with ⟨rfl, rfl⟩ | rfl
    · simp at hi
    · have hget : l[i]? = some l[i] := by simp [hi]
      obtain ⟨h1, h2⟩ := flat_get hk l i _ hget
      refine ⟨_, rfl, by omega, ?_⟩
      simp only [loadA, eltA, hget]
      rw [if_pos (by rw [List.length_map, List.length_drop]; omega), ← List.map_take, h1]
def eltD (l : List DV) (i : Nat) : AV := match l[i]? with
  | some d => .d d
  | none => .any
theorem slE_one {ds : List DV} {X : DV} (h : IsSl (fun d => [d]) ds X) : SlE 1 none X ds.length (eltD ds) := by
  obtain ⟨hb, h⟩ := h
  refine ⟨?_, hb, fun i hi => ?_⟩
  · rcases h with ⟨rfl, rfl⟩ | rfl <;> rfl
  · rcases h with ⟨rfl, rfl⟩ | rfl
    · simp at hi
    · have hget : ds[i]? = some ds[i] := by simp [hi]
      have hfm : ds.flatMap (fun d => [d]) = ds := by simp
      refine ⟨_, rfl, by rw [hfm]; omega, ?_⟩
      rw [hfm]
      simp only [loadA, eltD, hget, Nat.mul_one, List.map_drop, List.getElem?_drop, Nat.add_zero, List.getElem?_map, Option.map_some]
def IsSls {α : Type} (enc : α → List DV) : List (List α) → List DV → Prop
  | [], [] => True
  | l :: ls, d :: ds => IsSl enc l d ∧ IsSls enc ls ds
  | _, _ => False
theorem IsSls.length {α : Type} {enc : α → List DV} : ∀ {ls : List (List α)} {ds : List DV}, IsSls enc ls ds → ds.length = ls.length
  | [], [], _ => rfl
  | _ :: _, _ :: _, h => by simp [IsSls.length h.2]
  | [], _ :: _, h => h.elim
  | _ :: _, [], h => h.elim
theorem IsSls.get {α : Type} {enc : α → List DV} : ∀ {ls : List (List α)} {ds : List DV}, IsSls enc ls ds → ∀ (i : Nat) (l : List α), ls[i]? = some l → ∃ d, ds[i]? = some d ∧ IsSl enc l d
  | [], [], _, i, l, h => by simp at h
  | x :: ls, d :: ds, h, i, l, hi => by
    cases i with
    | zero => simp at hi; subst hi; exact ⟨d, rfl, h.1⟩
    | succ i => simpa using IsSls.get h.2 i l (by simpa using hi)
  | [], _ :: _, h, _, _, _ => h.elim
  | _ :: _, [], h, _, _, _ => h.elim
def IsSl2 {α : Type} (enc : α → List DV) (ls : List (List α)) (X : DV) : Prop := ∃ ds, IsSl (fun d => [d]) ds X ∧ IsSls enc ls ds
theorem any_idx {α : Type} (q : α → Bool) (l : List α) : (List.range' 0 l.length).any (fun i => (l[i]?.map q).getD false) = l.any q := by
  rw [Bool.eq_iff_iff]
  simp only [List.any_eq_true]
  constructor
  · rintro ⟨i, hi, h⟩
    cases hg : l[i]? with
    | none => simp [hg] at h
    | some a => exact ⟨a, List.mem_of_getElem? hg, by simpa [hg] using h⟩
  · rintro ⟨a, ha, h⟩
    obtain ⟨i, hi⟩ := List.mem_iff_getElem?.1 ha
    exact ⟨i, by simp [List.mem_range'_1, (List.getElem?_eq_some_iff.1 hi).1], by simp [hi, h]⟩
end Go.Jq
namespace Go.Jq
open Go
attribute [go_sem] List.drop List.getElem?_cons_zero List.getElem?_cons_succ Bool.true_eq_false Bool.false_eq_true decide_true decide_false List.length_cons List.length_nil List.all_cons List.all_nil Bool.and_self List.set_cons_zero List.set_cons_succ List.take List.length_map List.cons_append List.nil_append Nat.le_refl Nat.min_def Bool.not_true Bool.not_false Bool.true_beq Bool.false_beq beq_self_eq_true Bool.true_bne Bool.false_bne bne_self_eq_false not_true_eq_false not_false_eq_true
end Go.Jq

/- The abstract layer: numbers, loops, bits. -/
namespace Go.Jq
open Go
@[go_sem] theorem bits_i64 : IntKind.i64.bits = 64 := rfl
@[go_sem] theorem bits_u8 : IntKind.u8.bits = 8 := rfl
section
variable (x : Nat)
end
end Go.Jq
namespace Go.Jq
open Go
theorem exists_least (p : Nat → Prop) : ∀ n, p n → ∃ m, p m ∧ ∀ k, k < m → ¬ p k := by
  intro n
  induction n using Nat.strongRecOn with
  | ind n ih =>
    intro hn
    by_cases h : ∃ k, k < n ∧ p k
    · obtain ⟨k, hk, hp⟩ := h
      exact ih k hk hp
    · exact ⟨n, hn, fun k hk hp => h ⟨k, hk, hp⟩⟩
section
variable {P : Program} {n0 k : Nat} {Q : Exit → St → Prop}
theorem bwp_fam {ι : Type} {b : ACode} (F : ι → St) (rank : ι → Nat) (i0 : ι)
    (h : ∀ i, BWP P n0 k b (F i) (Exit.thenA (fun S' => ∃ j, rank j < rank i ∧ Leads n0 k S' (F j)) Q)) : BWP P n0 k (.loop b) (F i0) Q := by
  classical
  have least : ∀ S, (∃ i, F i = S) → ∃ m, (∃ i, F i = S ∧ rank i = m) ∧ ∀ j, F j = S → m ≤ rank j := by
    rintro S ⟨i, hi⟩
    obtain ⟨m, hm, hl⟩ := exists_least (fun m => ∃ i, F i = S ∧ rank i = m) (rank i) ⟨i, hi, rfl⟩
    refine ⟨m, hm, fun j hj => ?_⟩
    rcases Nat.lt_or_ge (rank j) m with hlt | hge
    · exact absurd ⟨j, hj, rfl⟩ (hl _ hlt)
    · exact hge
  refine bwp_loop (fun S => ∃ i, F i = S) (fun S => if hS : ∃ i, F i = S then Classical.choose (least S hS) else 0) ⟨i0, rfl⟩ ?_
  intro S hS
  have hsp := Classical.choose_spec (least S hS)
  obtain ⟨⟨i, rfl, hi⟩, _⟩ := hsp
  refine bwp_mono (h i) ?_
  intro e S' hq
  cases e with
  | normal =>
    obtain ⟨j, hj, hle⟩ := hq
    refine ⟨F j, hle, ⟨j, rfl⟩, ?_⟩
    have hj' : ∃ i, F i = F j := ⟨j, rfl⟩
    have h1 := (Classical.choose_spec (least (F j) hj')).2 j rfl
    simp only [dif_pos hS, dif_pos hj']
    omega
  | _ => exact hq
theorem bwp_count {b : ACode} (F : Nat → St) (N : Nat)
    (h : ∀ i, i ≤ N → BWP P n0 k b (F i) (Exit.thenA (fun S' => i < N ∧ Leads n0 k S' (F (i + 1))) Q)) : BWP P n0 k (.loop b) (F 0) Q := by
  refine bwp_fam (ι := Fin (N + 1)) (fun i => F i.1) (fun i => N - i.1) ⟨0, Nat.succ_pos _⟩ ?_
  rintro ⟨i, hi⟩
  refine bwp_mono (h i (Nat.le_of_lt_succ hi)) ?_
  intro e S' hq
  cases e with
  | normal =>
    obtain ⟨hlt, hle⟩ := hq
    exact ⟨⟨i + 1, Nat.succ_lt_succ hlt⟩, by simp only; omega, hle⟩
  | _ => exact hq
theorem bwp_countI {b : ACode} (F : Nat → St) (p : Nat → Prop) (N : Nat) (h0 : p 0)
    (h : ∀ i, i ≤ N → p i → BWP P n0 k b (F i) (Exit.thenA (fun S' => i < N ∧ p (i + 1) ∧ Leads n0 k S' (F (i + 1))) Q)) : BWP P n0 k (.loop b) (F 0) Q := by
  refine bwp_fam (ι := { i : Nat // i ≤ N ∧ p i }) (fun i => F i.1) (fun i => N - i.1) ⟨0, Nat.zero_le _, h0⟩ ?_
  rintro ⟨i, hi, hp⟩
  refine bwp_mono (h i hi hp) ?_
  intro e S' hq
  cases e with
  | normal =>
    obtain ⟨hlt, hp', hle⟩ := hq
    exact ⟨⟨i + 1, hlt, hp'⟩, by simp only; omega, hle⟩
  | _ => exact hq
end
theorem IsSl.at {α : Type} {enc : α → List DV} {w : Nat} (hk : ∀ a, (enc a).length = w) (hk0 : 0 < w) {l : List α} {X : DV} (h : IsSl enc l X) (i : Nat) (hi : i < l.length) :
    ∃ cs rest, X = .sl l.length cs ∧ cs.drop (i * w) = enc l[i] ++ rest ∧ i * w < cs.length := by
  obtain ⟨_, h⟩ := h
  rcases h with ⟨_, rfl⟩ | rfl
  · simp at hi
  · have hget : l[i]? = some l[i] := by simp [hi]
    obtain ⟨h1, h2⟩ := flat_get hk l i _ hget
    refine ⟨_, ((l.flatMap enc).drop (i * w)).drop w, rfl, ?_, by omega⟩
    rw [← h1, List.take_append_drop]
theorem IsSl.len {α : Type} {enc : α → List DV} {l : List α} {X : DV} (h : IsSl enc l X) : lenA (.d X) = some l.length := by
  obtain ⟨_, h⟩ := h
  rcases h with ⟨rfl, rfl⟩ | rfl <;> rfl
theorem IsSl2.at {α : Type} {enc : α → List DV} {ls : List (List α)} {X : DV} (h : IsSl2 enc ls X) (i : Nat) (hi : i < ls.length) :
    ∃ cs d rest, X = .sl ls.length cs ∧ cs.drop i = d :: rest ∧ i < cs.length ∧ IsSl enc ls[i] d := by
  obtain ⟨ds, ⟨_, h⟩, hs⟩ := h
  have hl := hs.length
  rcases h with ⟨_, rfl⟩ | rfl
  · simp at hl; rw [← hl] at hi; simp at hi
  · obtain ⟨d, hd, hsl⟩ := hs.get i ls[i] (by simp [hi])
    refine ⟨ds, d, ds.drop (i + 1), by simp [hl], ?_, by omega, hsl⟩
    obtain ⟨h1, h2⟩ := List.getElem?_eq_some_iff.1 hd
    rw [List.drop_eq_getElem_cons h1, h2]
theorem IsSl2.len {α : Type} {enc : α → List DV} {ls : List (List α)} {X : DV} (h : IsSl2 enc ls X) : lenA (.d X) = some ls.length := by
  obtain ⟨ds, h, hs⟩ := h
  rw [h.len, hs.length]
theorem IsSl2.big {α : Type} {enc : α → List DV} {ls : List (List α)} {X : DV} (h : IsSl2 enc ls X) : ls.length ≤ 9223372036854775807 := by
  obtain ⟨ds, h, hs⟩ := h
  rw [← hs.length]; exact h.1
def bcells (th : List Bool) : List AV := (th.map DV.bool).map .d
@[go_sem, simp] theorem bcells_set (th : List Bool) (q : Nat) (b : Bool) : (bcells th).set q (.d (.bool b)) = bcells (th.set q b) := by
  simp [bcells, List.map_set]
@[go_sem, simp] theorem bcells_len (th : List Bool) : (bcells th).length = th.length := by simp [bcells]
@[go_sem, simp] theorem bcells_ren (π : Nat → Option Nat) (th : List Bool) : renL π (bcells th) = bcells th := renL_d _ _
@[go_sem] theorem bcells_get (th : List Bool) (q : Nat) : (bcells th)[q]? = th[q]?.map fun b => .d (.bool b) := by
  simp [bcells, Function.comp_def]
@[simp] theorem bcells_cv (π : Nat → Option Nat) (Z : Nat → Option (List DV)) (th : List Bool) : cvL π Z (bcells th) = bcells th := cvL_d _ _ _
theorem inL_data (l : List DV) : inL (fun _ => none) (l.map .d) = true := by
  induction l with
  | nil => rfl
  | cons a l ih => simp [inL, inB, ih]
end Go.Jq
namespace Go.Jq
open Go
end Go.Jq
namespace Go.Jq
open Go
section
variable {P : Program} {f : Nat} {args : List AV} {v : AV} {dst : Option Nat} {r : List AOper} {K : St → Prop} {t : Fr} {m : Mem} {n : Nat}
mutual
theorem rel_imm {c c' : Ctx} {w : World} (hI : ∀ b, c.imm b → c'.imm b) : ∀ (x : AV) (v : Value), inB (fun _ => none) x = true → Rel c w x v → Rel c' w x v
  | .d x, v, _, h => by simp only [Rel] at h ⊢; exact relD_mono hI (fun _ _ => rfl) x v h
  | .ptr _ _, _, hx, _ => by simp [inB] at hx
  | .npt _ _, _, hx, _ => by simp [inB] at hx
  | .slT _ _ _, _, hx, _ => by simp [inB] at hx
  | .dptr cs, v, _, h => by
    simp only [Rel] at h ⊢
    obtain ⟨b, o, h1, h2, h3⟩ := h
    exact ⟨b, o, hI b h1, h2, relDs_mono hI (fun _ _ => rfl) cs b o h1 h3⟩
  | .sl _ _ _ _, _, hx, _ => by simp [inB] at hx
  | .fn f cap, v, hx, h => by
    simp only [Rel, inB] at h hx ⊢
    obtain ⟨vs, h1, h2⟩ := h
    exact ⟨vs, h1, relL_imm hI cap vs hx h2⟩
  | .agg cs, v, hx, h => by
    simp only [Rel, inB] at h hx ⊢
    obtain ⟨vs, h1, h2⟩ := h
    exact ⟨vs, h1, relL_imm hI cs vs hx h2⟩
  | .tup cs, v, hx, h => by
    simp only [Rel, inB] at h hx ⊢
    obtain ⟨vs, h1, h2⟩ := h
    exact ⟨vs, h1, relL_imm hI cs vs hx h2⟩
  | .any, _, _, _ => by simp [Rel]
theorem relL_imm {c c' : Ctx} {w : World} (hI : ∀ b, c.imm b → c'.imm b) : ∀ (xs : List AV) (vs : List Value), inL (fun _ => none) xs = true → RelL c w xs vs → RelL c' w xs vs
  | [], vs, _, h => by simpa [RelL] using h
  | x :: xs, vs, hx, h => by
    simp only [RelL, inL, Bool.and_eq_true] at h hx ⊢
    obtain ⟨v, vs', h1, h2, h3⟩ := h
    exact ⟨v, vs', h1, rel_imm hI x v hx.1 h2, relL_imm hI xs vs' hx.2 h3⟩
end
end
end Go.Jq
