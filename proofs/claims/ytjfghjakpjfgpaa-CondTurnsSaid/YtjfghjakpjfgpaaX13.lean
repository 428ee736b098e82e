/- The abstract layer, part 13: code over states; calls. -/
import Derived.Test.YtjfghjakpjfgpaaX12
namespace Go.Jq
open Go

/-- Code c, from any frame and world that the state stands to, comes to an exit and a state of Q. (n0: the numbers that the caller's blocks have; k: the frame's size.) -/
def AWP (P : Program) (n0 k : Nat) (c : Code) (S : St) (Q : Exit → St → Prop) : Prop :=
  ∀ (E : Env), E.n = n0 → ∀ (a : Act) (w : World), Conc E k S a w → c.wp P (fun e a' w' => ∃ S', Q e S' ∧ Conc E k S' a' w') a w

/-- What stands to the one state stands to the other. -/
def Leads (n0 k : Nat) (S S' : St) : Prop := ∀ (E : Env), E.n = n0 → ∀ (a : Act) (w : World), Conc E k S a w → Conc E k S' a w

theorem Leads.refl {n0 k : Nat} (S : St) : Leads n0 k S S := fun _ _ _ _ h => h
theorem Leads.trans {n0 k : Nat} {S S' S'' : St} (h : Leads n0 k S S') (h' : Leads n0 k S' S'') : Leads n0 k S S'' := fun E hE a w hc => h' E hE a w (h E hE a w hc)
theorem Leads.ent {n0 k : Nat} {S S' : St} (π : Ren) (he : Ent n0 π S S') : Leads n0 k S S' := fun _ hE _ _ hc => hc.ent (hE ▸ he)

section
variable {P : Program} {n0 k : Nat} {S : St} {Q : Exit → St → Prop}

theorem awp_mono {c : Code} {Q' : Exit → St → Prop} (h : AWP P n0 k c S Q) (hq : ∀ e S, Q e S → Q' e S) : AWP P n0 k c S Q' :=
  fun E hE a w hc => wp_mono (h E hE a w hc) fun e _ _ ⟨S', h1, h2⟩ => ⟨S', hq e S' h1, h2⟩

theorem awp_skip (h : Q .normal S) : AWP P n0 k .skip S Q := fun _ _ _ _ hc => wp_skip ⟨S, h, hc⟩
theorem awp_label {l : Nat} (h : Q .normal S) : AWP P n0 k (.label l) S Q := fun _ _ _ _ hc => wp_label ⟨S, h, hc⟩
theorem awp_exit {id : Nat} (h : Q (.exit id) S) : AWP P n0 k (.exit id) S Q := fun _ _ _ _ hc => wp_exit ⟨S, h, hc⟩
theorem awp_ret (h : Q .ret S) : AWP P n0 k .ret S Q := fun _ _ _ _ hc => wp_ret ⟨S, h, hc⟩

/-- What is asked behind the first of two. -/
def Exit.thenA (next : St → Prop) (Q : Exit → St → Prop) : Exit → St → Prop
  | .normal, S => next S
  | e, S => Q e S

theorem awp_seq {x y : Code} (h : AWP P n0 k x S (Exit.thenA (fun S' => AWP P n0 k y S' Q) Q)) : AWP P n0 k (.seq x y) S Q := by
  intro E hE a w hc
  refine wp_seq (wp_mono (h E hE a w hc) ?_)
  rintro e a' w' ⟨S', h1, h2⟩
  cases e with
  | normal => exact h1 E hE a' w' h2
  | _ => exact ⟨S', h1, h2⟩

/-- The second of two stands behind a variable while the first is gone through. -/
theorem awp_seq_k {x y : Code} (h : ∀ K : St → Prop, (∀ S', AWP P n0 k y S' Q → K S') → AWP P n0 k x S (Exit.thenA K Q)) : AWP P n0 k (.seq x y) S Q :=
  awp_seq (h _ fun _ h => h)

theorem awp_cond {c : Operand} {x y : Code} {b : Bool} (hc : ev S.t (cOpd c) = .d (.bool b)) (ht : b = true → AWP P n0 k x S Q) (hf : b = false → AWP P n0 k y S Q) : AWP P n0 k (.cond c x y) S Q := by
  intro E hE a w h
  have h' := h
  obtain ⟨c', hcr, _⟩ := h'
  have hv := rel_ev (w := w) hcr.fr c
  rw [hc] at hv
  have := rel_d_bool hv
  exact wp_cond_split this (fun hb => ht hb E hE a w h) (fun hb => hf hb E hE a w h)

def Exit.inBlockA (id : Nat) (Q : Exit → St → Prop) : Exit → St → Prop
  | .exit id', S => if id' = id then Q .normal S else Q (.exit id') S
  | e, S => Q e S

theorem awp_block {id : Nat} {c : Code} (h : AWP P n0 k c S (Exit.inBlockA id Q)) : AWP P n0 k (.block id c) S Q := by
  intro E hE a w hc
  refine wp_block (wp_mono (h E hE a w hc) ?_)
  rintro e a' w' ⟨S', h1, h2⟩
  cases e with
  | exit id' =>
    simp only [Exit.inBlockA] at h1
    simp only [Exit.inBlock]
    split
    · rename_i e; rw [if_pos e] at h1; exact ⟨S', h1, h2⟩
    · rename_i e; rw [if_neg e] at h1; exact ⟨S', h1, h2⟩
  | _ => exact ⟨S', h1, h2⟩

theorem awp_ent {c : Code} {S' : St} {π : Ren} (he : Ent n0 π S S') (h : AWP P n0 k c S' Q) : AWP P n0 k c S Q :=
  fun E hE a w hc => h E hE a w (hc.ent (hE ▸ he))

theorem awp_leads {c : Code} {S' : St} (he : Leads n0 k S S') (h : AWP P n0 k c S' Q) : AWP P n0 k c S Q :=
  fun E hE a w hc => h E hE a w (he E hE a w hc)

theorem awp_loop {c : Code} (I : St → Prop) (μ : St → Nat) (h0 : I S)
    (round : ∀ S, I S → AWP P n0 k c S (Exit.thenA (fun S' => ∃ S'', Leads n0 k S' S'' ∧ I S'' ∧ μ S'' < μ S) Q)) : AWP P n0 k (.loop c) S Q := by
  intro E hE a w hc b kk cs
  have key : ∀ n S a w, μ S = n → I S → Conc E k S a w →
      ∃ e a' w', (∃ S', Q e S' ∧ Conc E k S' a' w') ∧ Arrives P (lone (b.at a (.code c :: .inLoop c :: kk)) cs w) b kk cs e a' w' := by
    intro n
    induction n using Nat.strongRecOn with
    | _ n ih =>
      intro S a w hn hI hc
      obtain ⟨e, a₁, w₁, ⟨S', hq, hc'⟩, harr⟩ := round S hI E hE a w hc b (.inLoop c :: kk) cs
      cases e with
      | normal =>
        obtain ⟨S'', he, hI'', hlt⟩ := hq
        obtain ⟨e₂, a₂, w₂, hq₂, harr₂⟩ := ih (μ S'') (hn ▸ hlt) S'' a₁ w₁ rfl hI'' (he E hE a₁ w₁ hc')
        exact ⟨e₂, a₂, w₂, hq₂, .of_steps (Steps.trans harr (.one step_inLoop)) harr₂⟩
      | exit id => exact ⟨_, a₁, w₁, ⟨S', hq, hc'⟩, .pass (x := .inLoop c) rfl (fun _ _ => .inl (by simp)) harr⟩
      | goto l => exact ⟨_, a₁, w₁, ⟨S', hq, hc'⟩, .pass (x := .inLoop c) rfl (fun _ _ => .inl (by simp)) harr⟩
      | ret => exact ⟨_, a₁, w₁, ⟨S', hq, hc'⟩, .pass (x := .inLoop c) rfl (fun _ _ => .inl (by simp)) harr⟩
      | panic ch => exact ⟨_, a₁, w₁, ⟨S', hq, hc'⟩, .pass (x := .inLoop c) rfl (fun _ _ => .inl (by simp)) harr⟩
      | outgrown => exact ⟨_, a₁, w₁, ⟨S', hq, hc'⟩, .pass (x := .inLoop c) rfl (fun _ _ => .inl (by simp)) harr⟩
  obtain ⟨e, a', w', hq, harr⟩ := key _ S a w rfl h0 hc
  exact ⟨e, a', w', hq, .of_steps (.one step_loop) harr⟩

end

/-! ### Calls -/

def mbound (m : Mem) : Nat := m.foldr (fun p b => Nat.max (p.1 + 1) b) 0

theorem mget_bound : ∀ {m : Mem} {i : Nat}, (mget m i).isSome → i < mbound m
  | [], i, h => by simp [mget] at h
  | (j, cs) :: r, i, h => by
    simp only [mget] at h
    simp only [mbound, List.foldr_cons]
    split at h
    · rename_i e; subst e; exact Nat.le_max_left _ _
    · exact Nat.lt_of_lt_of_le (mget_bound h) (Nat.le_max_right _ _)

/-- What a call may be told of: from values and memory m (and no other own blocks) it comes to a value and a memory of Q. -/
def ACalls (P : Program) (f : Nat) (args : List AV) (m : Mem) (Q : AV → Mem → Prop) : Prop :=
  ∀ (c : Ctx) (w : World) (vs : List Value), RelL c w args vs → MR c m w → (∀ id, mbound m ≤ id → c.φ id = .free) →
    Calls P f vs.toArray w fun e w' => ∃ v r m' c', e = .returned v ∧ Q r m' ∧ Rel c' w' r v ∧ MR c' m' w' ∧ Step (Own c m) c c' w w' ∧
      (∀ b, Own c' m' b → Own c m b ∨ w.heap.size ≤ b) ∧ (∀ id, id < mbound m → (mget m' id).isSome → (mget m id).isSome ∧ c'.φ id = c.φ id) ∧
      (∀ id, Nat.max (mbound m) (mbound m') ≤ id → c'.φ id = .free)

theorem ACalls.mono {P : Program} {f : Nat} {args : List AV} {m : Mem} {Q Q' : AV → Mem → Prop} (h : ACalls P f args m Q) (hq : ∀ r m', Q r m' → Q' r m') : ACalls P f args m Q' :=
  fun c w vs h1 h2 h3 => (h c w vs h1 h2 h3).mono fun _ _ ⟨v, r, m', c', a1, a2, a3⟩ => ⟨v, r, m', c', a1, hq r m' a2, a3⟩

def frm : Nat → List AV → Fr
  | _, [] => []
  | i, x :: xs => (i, x) :: frm (i + 1) xs

theorem fget_frm : ∀ (xs : List AV) (i j : Nat), fget (frm i xs) j = if i ≤ j then xs.getD (j - i) .any else .any
  | [], i, j => by simp [frm, fget]
  | x :: xs, i, j => by
    simp only [frm, fget]
    by_cases h : i = j
    · subst h; simp
    · rw [if_neg h, fget_frm xs (i + 1) j]
      by_cases h1 : i ≤ j
      · rw [if_pos (by omega), if_pos h1]
        have : j - i = (j - (i + 1)) + 1 := by omega
        rw [this, List.getD_cons_succ]
      · rw [if_neg (by omega), if_neg h1]

/-- What a function hands back, of a state. -/
def resV (S : St) (P : Program) : ResultVar → Option AV
  | .tmp t => some (fget S.t t)
  | .cell a T => match fget S.t a, ldk P T with
    | .ptr id off, some kk => match mget S.m id with
      | some cs => loadA kk (cs.drop off)
      | none => none
    | _, _ => none

def resVs (S : St) (P : Program) : List ResultVar → Option (List AV)
  | [] => some []
  | r :: rs => match resV S P r, resVs S P rs with
    | some v, some vs => some (v :: vs)
    | _, _ => none

def resA (P : Program) (rs : Array ResultVar) (S : St) : Option AV :=
  match resVs S P rs.toList with
  | some [v] => some v
  | some vs => some (.tup vs)
  | none => none

theorem run_resV {P : Program} {c : Ctx} {k : Nat} {S : St} {a : Act} {w : World} (hc : CR c k S a w) {r : ResultVar} {v : AV} (h : resV S P r = some v) :
    ∃ u, ((match r with | .tmp t => pure (a.tmps.getD t undef) | .cell ad t => do loadVar t (← asAddr (a.tmps.getD ad undef))) : Sem Value).run P w = .ok u w ∧ Rel c w v u := by
  cases r with
  | tmp t => simp only [resV, Option.some.injEq] at h; subst h; exact ⟨_, rfl, hc.fr t⟩
  | cell ad T =>
    simp only [resV] at h
    split at h
    · rename_i id off kk h1 h2
      split at h
      · rename_i cs hcs
        have hx := hc.fr ad
        rw [h1] at hx
        obtain ⟨b, hb, hv⟩ := rel_ptr hx
        obtain ⟨u, hu, hr⟩ := run_loadVar (P := P) h2 (cellsAt_own hc.mr hcs hb off) h
        refine ⟨u, ?_, hr⟩
        simp only [hv, asAddr, Sem.run_bind, Sem.run_pure, Result.andThen_ok, hu]
      · cases h
    · cases h

theorem run_resVs {P : Program} {c : Ctx} {k : Nat} {S : St} {a : Act} {w : World} (hc : CR c k S a w) (f : ResultVar → Sem Value)
    (hf : ∀ r, f r = ((match r with | .tmp t => pure (a.tmps.getD t undef) | .cell ad t => do loadVar t (← asAddr (a.tmps.getD ad undef))) : Sem Value)) : ∀ {rs : List ResultVar} {vs : List AV}, resVs S P rs = some vs →
    ∃ us, (rs.mapM f).run P w = .ok us w ∧ RelL c w vs us
  | [], vs, h => by simp only [resVs, Option.some.injEq] at h; subst h; exact ⟨[], by simp, by simp [RelL]⟩
  | r :: rs, vs, h => by
    simp only [resVs] at h
    split at h
    · rename_i v vs' h1 h2
      cases h
      obtain ⟨u, hu, hr⟩ := run_resV hc h1
      obtain ⟨us, hus, hrs⟩ := run_resVs hc f hf h2
      refine ⟨u :: us, ?_, by simp only [RelL]; exact ⟨u, us, rfl, hr, hrs⟩⟩
      rw [List.mapM_cons]
      rw [← hf] at hu
      simp only [Sem.run_bind, hu, Result.andThen_ok, hus, Sem.run_pure]
    · cases h

theorem run_resA {P : Program} {c : Ctx} {k : Nat} {S : St} {a : Act} {w : World} {fn : Func} (hc : CR c k S a w) {v : AV} (h : resA P fn.results S = some v) :
    ∃ u, (results fn a.tmps).run P w = .ok u w ∧ Rel c w v u := by
  unfold resA at h
  have key : ∀ vs, resVs S P fn.results.toList = some vs → ∃ us : List Value, RelL c w vs us ∧ (results fn a.tmps).run P w = .ok (if h : us.toArray.size = 1 then us.toArray[0] else .tuple us.toArray) w := by
    intro vs hvs
    have hrun := fun f hf => run_resVs (P := P) hc f hf hvs
    have hex : ∃ us : List Value, RelL c w vs us ∧ (results fn a.tmps).run P w = .ok (if h : us.toArray.size = 1 then us.toArray[0] else .tuple us.toArray) w := by
      unfold results
      rw [← Array.toArray_toList (xs := fn.results), List.mapM_toArray]
      simp only [Sem.run_bind, Sem.run_map]
      obtain ⟨us, hus, hr⟩ := hrun (fun x => match x with
        | .tmp t => pure (a.tmps.getD t undef)
        | .cell a_1 t => do loadVar t (← asAddr (a.tmps.getD a_1 undef))) (fun r => by cases r <;> rfl)
      refine ⟨us, hr, ?_⟩
      refine (congrArg (fun r => (Result.andThen (Result.andThen r _) _)) hus).trans ?_
      rfl
    exact hex
  split at h
  · rename_i v' hvs
    cases h
    obtain ⟨us, hr, hrun⟩ := key _ hvs
    simp only [RelL] at hr
    obtain ⟨u, us', rfl, hu, rfl⟩ := hr
    exact ⟨u, by rw [hrun]; simp, hu⟩
  · rename_i vs hne hvs
    cases h
    obtain ⟨us, hr, hrun⟩ := key _ hvs
    refine ⟨.tuple us.toArray, ?_, by simp only [Rel]; exact ⟨us, rfl, hr⟩⟩
    rw [hrun, dif_neg]
    intro h1
    have hl := hr.length
    simp at h1
    rw [h1] at hl
    cases vs with
    | nil => simp at hl
    | cons x xs =>
      cases xs with
      | nil => exact hne x rfl
      | cons y ys => simp at hl
  · cases h

/-- What is asked at a function's end: its result, and a memory, out of the last state by a renaming. -/
def AEnd (P : Program) (rs : Array ResultVar) (n0 : Nat) (Q : AV → Mem → Prop) : Exit → St → Prop
  | .normal, S => ∃ v, resA P rs S = some v ∧ ∃ π m', okRen (Nat.max n0 (mbound m')) π = true ∧ keepRen n0 π = true ∧ entM π S.m m' ∧ Q (v.ren (pget π)) m'
  | .ret, S => ∃ v, resA P rs S = some v ∧ ∃ π m', okRen (Nat.max n0 (mbound m')) π = true ∧ keepRen n0 π = true ∧ entM π S.m m' ∧ Q (v.ren (pget π)) m'
  | _, _ => False

theorem acalls_of_awp {P : Program} {f : Nat} {fn : Func} {code : Code} {args : List AV} {m : Mem} {Q : AV → Mem → Prop} (hf : P.funcs[f]? = some fn) (hb : fn.body = some code)
    (hn : args.length ≤ fn.ntmps) (h : AWP P (mbound m) fn.ntmps code ⟨frm 0 args, m, mbound m⟩ (AEnd P fn.results (mbound m) Q)) : ACalls P f args m Q := by
  intro c w vs hr hM hfree
  have hl := hr.length
  refine calls_of_wp hf hb ?_
  have hconc : Conc ⟨c, m, mbound m, w⟩ fn.ntmps ⟨frm 0 args, m, mbound m⟩ { tmps := vs.toArray ++ Array.replicate (fn.ntmps - vs.toArray.size) undef, defers := [] } w := by
    refine ⟨c, ⟨rfl, ?_, ?_, hM, hfree⟩, ⟨Step.refl _ _ _, fun b hb => .inl hb, fun id _ h => ⟨h, rfl⟩⟩⟩
    · simp; omega
    · intro i
      rw [fget_frm]
      simp only [Nat.zero_le, if_true, Nat.sub_zero]
      by_cases hi : i < args.length
      · obtain ⟨v, hv, hrel⟩ := hr.get (i := i) (x := args[i]) (by simp [hi])
        have h1 : (vs.toArray ++ Array.replicate (fn.ntmps - vs.toArray.size) undef).getD i undef = v := by
          rw [Array.getD_eq_getD_getElem?, Array.getElem?_append_left (by simp; omega), List.getElem?_toArray, hv]; rfl
        rw [h1]
        simpa [hi] using hrel
      · have : args.getD i .any = .any := by simp [hi]
        rw [this]
        simp [Rel]
  have hfin : ∀ (S' : St) (a' : Act) (w' : World), (∃ v, resA P fn.results S' = some v ∧ ∃ π m', okRen (Nat.max (mbound m) (mbound m')) π = true ∧ keepRen (mbound m) π = true ∧ entM π S'.m m' ∧ Q (v.ren (pget π)) m') →
      Conc ⟨c, m, mbound m, w⟩ fn.ntmps S' a' w' → a'.defers = [] ∧ ∃ v, (results fn a'.tmps).run P w' = .ok v w' ∧
        (∃ v' r m' c', Ending.returned v = .returned v' ∧ Q r m' ∧ Rel c' w' r v' ∧ MR c' m' w' ∧ Step (Own c m) c c' w w' ∧
      (∀ b, Own c' m' b → Own c m b ∨ w.heap.size ≤ b) ∧ (∀ id, id < mbound m → (mget m' id).isSome → (mget m id).isSome ∧ c'.φ id = c.φ id) ∧
      (∀ id, Nat.max (mbound m) (mbound m') ≤ id → c'.φ id = .free)) := by
    rintro S' a' w' ⟨v, hv, π, m', hok, hk, hm, hQ⟩ ⟨c1, hcr, hp⟩
    obtain ⟨u, hu, hrel⟩ := run_resA hcr hv
    have hp' := prov_ren hok hk hp hm
    refine ⟨hcr.defers, u, hu, u, _, m', c1.ren π, rfl, hQ, rel_ren (c := c1) (c' := c1.ren π) (fun _ h => h) (fun i j h _ => ren_φ hok h) _ _ hrel, mr_ren hok hcr.mr hm, hp'.step, hp'.own, hp'.keep, fun id hid => ?_⟩
    simp only [Ctx.ren]
    split
    · rename_i i hi
      have := (okRen_spec hok i id (pinv_mem hi)).2.2
      exact absurd hid (Nat.not_le.2 this)
    · rfl
  refine wp_mono (h ⟨c, m, mbound m, w⟩ rfl _ _ hconc) ?_
  rintro e a' w' ⟨S', h1, h2⟩
  cases e with
  | normal => exact hfin S' a' w' h1 h2
  | ret => exact hfin S' a' w' h1 h2
  | _ => exact h1.elim

end Go.Jq
