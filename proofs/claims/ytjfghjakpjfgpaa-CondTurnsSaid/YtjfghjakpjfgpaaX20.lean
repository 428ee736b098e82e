/- The abstract layer, part 20: regions that draw their order: soundness. -/
import Derived.Test.YtjfghjakpjfgpaaX19
namespace Go.Jq
open Go

section
variable {P : Program} {k : Nat} {ops : Array Oper}

theorem Later.of_heap {c : Ctx} {w w' : World} (h : w'.heap = w.heap) : Later c c w w' :=
  ⟨fun _ h => h, fun b _ => by rw [h], fun _ _ => rfl, fun b n hn => by rw [← hn]; exact rowSize_eq (by rw [h])⟩

theorem MR.of_heap {c : Ctx} {m : Mem} {w w' : World} (hM : MR c m w) (h : w'.heap = w.heap) : MR c m w' where
  own := fun id cells hid => (hM.own id cells hid).later (Later.of_heap h) fun b hb => ⟨by rw [h], fun hi => hM.sep hi ⟨id, by rw [hid]; rfl, hb⟩⟩
  inj := hM.inj
  imm := fun b hb => by rw [h]; exact hM.imm b hb

theorem MR.of_mget {c : Ctx} {m m' : Mem} {w : World} (hM : MR c m w) (h : ∀ id, mget m' id = mget m id) : MR c m' w where
  own := fun id cells hid => hM.own id cells (by rw [← h]; exact hid)
  inj := fun id id' b h1 h2 => hM.inj id id' b (by rw [← h]; exact h1) (by rw [← h]; exact h2)
  imm := hM.imm

theorem Prov.of_mget {E : Env} {c : Ctx} {m m' : Mem} {w : World} (hp : Prov E c m w) (h : ∀ id, mget m' id = mget m id) : Prov E c m' w where
  step := hp.step
  own := fun b ⟨id, h1, h2⟩ => hp.own b ⟨id, by rw [← h]; exact h1, h2⟩
  keep := fun id hid hm => hp.keep id hid (by rw [← h]; exact hm)

theorem conc_drew {E : Env} {S : St} {a : Act} {w w' : World} (h : Conc E k S a w) (hh : w'.heap = w.heap) (ho : w'.os = w.os) (ht : w'.tape = w.tape) (hu : w'.output = w.output) : Conc E k S a w' := by
  obtain ⟨c, hc, hp⟩ := h
  refine ⟨c, ⟨hc.defers, hc.size, fun i => rel_mono (Later.of_heap hh) _ _ (hc.fr i), hc.mr.of_heap hh, hc.free⟩, ⟨?_, fun b hb => hp.own b hb, hp.keep⟩⟩
  have := hp.step
  exact ⟨ho.trans this.os, ht.trans this.tape, hu.trans this.output, by rw [hh]; exact this.size, fun b hb hn => by rw [hh]; exact this.keep b hb hn,
    fun b n hn => by rw [rowSize_eq (by rw [hh] : w'.heap[b]? = w.heap[b]?)]; exact this.rows b n hn, this.imm, this.imm'⟩

theorem wantA_wanted {o : Oper} {t : Fr} {c : Ctx} {a : Act} {w : World} {b : Bool} (h : wantA ops o t = some b) (hF : FR c w t a.tmps) : Region.wanted o (yielded ops a.tmps) = b := by
  unfold wantA at h
  unfold Region.wanted
  cases ho : o.guard with
  | none => rw [ho] at h; cases h; rfl
  | some jw =>
    obtain ⟨j, wt⟩ := jw
    rw [ho] at h
    simp only at h
    split at h
    · rename_i d hd
      split at h
      · rename_i b' hb
        cases h
        have hx := hF d
        rw [hb] at hx
        have hv := rel_d_bool hx
        have hy : yielded ops a.tmps j = some b' := by
          unfold yielded
          cases hj : ops[j]? with
          | none => rw [hj] at hd; cases hd
          | some o' =>
            rw [hj] at hd
            simp only [Option.bind_some] at hd
            simp only [Option.bind_some, hd]
            rw [Array.getD_eq_getD_getElem?] at hv
            cases hq : a.tmps[d]? with
            | none => rw [hq] at hv; cases hv
            | some u => rw [hq] at hv; simp only [Option.getD_some] at hv; subst hv; rfl
        simp only [hy]
        cases b' <;> cases wt <;> rfl
      · cases h
    · cases h

/-- How the frame and the world stand, in the middle of the region. -/
def Inv (E : Env) (k : Nat) (outs : List Out) (N : Nat) (listed : Array Bool) (t : Fr) (m : Mem) (a : Act) (w : World) : Prop :=
  ∃ c, a.defers = [] ∧ a.tmps.size = k ∧ FR c w t a.tmps ∧ MR c m w ∧ Prov E c m w ∧ (∀ id, N ≤ id → c.φ id = .free) ∧
    ∀ (j : Nat) (x : Out), outs[j]? = some x → listed.getD j true = false → ∀ id, x.lo ≤ id → id < x.hi → c.φ id = .free

def Ranges : Nat → List Out → Nat → Prop
  | n, [], N => n = N
  | n, x :: xs, N => x.lo = n ∧ n ≤ x.hi ∧ Ranges x.hi xs N

theorem Ranges.spec : ∀ {l : List Out} {n N : Nat}, Ranges n l N → n ≤ N ∧ ∀ (j : Nat) (x : Out), l[j]? = some x → n ≤ x.lo ∧ x.lo ≤ x.hi ∧ x.hi ≤ N
  | [], n, N, h => ⟨by simp only [Ranges] at h; omega, fun j x hj => by simp at hj⟩
  | y :: l, n, N, h => by
    simp only [Ranges] at h
    obtain ⟨h1, h2, h3⟩ := h
    obtain ⟨h4, h5⟩ := Ranges.spec h3
    refine ⟨by omega, fun j x hj => ?_⟩
    cases j with
    | zero => simp at hj; subst hj; omega
    | succ j => have := h5 j x (by simpa using hj); omega

theorem Ranges.apart : ∀ {l : List Out} {n N : Nat}, Ranges n l N → ∀ (i j : Nat) (x y : Out), i < j → l[i]? = some x → l[j]? = some y → x.hi ≤ y.lo
  | [], n, N, h, i, j, x, y, _, hi, _ => by simp at hi
  | z :: l, n, N, h, i, j, x, y, hlt, hi, hj => by
    simp only [Ranges] at h
    cases j with
    | zero => omega
    | succ j =>
      cases i with
      | zero => simp at hi; subst hi; exact (h.2.2.spec.2 j y (by simpa using hj)).1
      | succ i => exact Ranges.apart h.2.2 i j x y (by omega) (by simpa using hi) (by simpa using hj)

theorem wpAny_of_A {E : Env} {outs : List Out} {n N : Nat} (hrg : Ranges n outs N) (hEn : E.n ≤ n) (hok : ∀ (i : Nat) (o : Out), outs[i]? = some o → o.ok) (hdk : ∀ (i : Nat) (o : Oper), ops[i]? = some o → ∀ d, o.dst = some d → d < k)
    {K : Fr → Mem → Prop} {Q : Exit → Act → World → Prop} (hK : ∀ t m a w, K t m → Conc E k ⟨t, m, N⟩ a w → Q .normal a w) :
    ∀ (fuel : Nat) (listed : Array Bool) (t : Fr) (m : Mem) (a : Act) (w : World), Inv E k outs N listed t m a w → wpAnyA P k ops outs K fuel listed t m → wpAny P .any ops Q fuel listed a w
  | 0, listed, t, m, a, w, ⟨c, h1, h2, h3, h4, h5, h6, _⟩, h => ⟨h.1, hK t m a w h.2 ⟨c, ⟨h1, h2, h3, h4, h6⟩, h5⟩⟩
  | fuel + 1, listed, t, m, a, w, ⟨c, h1, h2, h3, h4, h5, h6, h7⟩, h => by
    refine ⟨fun h0 => hK t m a w (h.1 h0) ⟨c, ⟨h1, h2, h3, h4, h6⟩, h5⟩, fun i hi => ?_⟩
    obtain ⟨o, out, ho, hout, hw, hrest⟩ := h.2 i hi
    have hun := (mem_ready.1 hi).1
    have hx := hrg.spec.2 i out hout
    have hxok := hok i out hout
    unfold wpOp
    simp only [ho]
    have put : ∀ (c' : Ctx) (w' : World) (u : Value), (Rel c' w' out.v u ∨ out.v = .any) → MR c' (out.act m) w' → Step (Own c m) c c' w w' → (∀ b, Own c' (out.act m) b → Own c m b ∨ w.heap.size ≤ b) →
        (∀ id, ¬ (out.lo ≤ id ∧ id < out.hi) → c'.φ id = c.φ id) → (∀ id, ¬ (out.lo ≤ id ∧ id < out.hi) → (mget (out.act m) id).isSome → (mget m id).isSome) →
        Inv E k outs N (listed.setIfInBounds i true) (putF t o.dst out.v) (out.act m) (a.put o.dst u) w' := by
      intro c' w' u hr hM' hs hown hφ hmk
      have hext : ∀ id, c.φ id ≠ .free → c'.φ id = c.φ id := fun id hid => hφ id fun hr => hid (h7 i out hout hun id hr.1 hr.2)
      have hl := hs.later h4 hext
      have hF' : FR c' w' t a.tmps := fun i => rel_mono hl _ _ (h3 i)
      refine ⟨c', ?_, ?_, ?_, hM', h5.next hs hown fun id hid hm => ?_, fun id hid => ?_, fun j y hy hl' id hid1 hid2 => ?_⟩
      · cases o.dst <;> exact h1
      · cases o.dst with
        | none => exact h2
        | some d => simp only [Act.put, Array.size_setIfInBounds]; exact h2
      · cases hd : o.dst with
        | none => exact hF'
        | some d =>
          simp only [putF, Act.put]
          refine fr_put hF' (by rw [h2]; exact hdk i o ho d hd) ?_
          rcases hr with h | h
          · exact h
          · rw [h]; simp [Rel]
      · exact ⟨hmk id (by omega) hm, hφ id (by omega)⟩
      · rw [hφ id (by omega)]; exact h6 id hid
      · by_cases hji : j = i
        · subst hji
          exfalso
          rcases Nat.lt_or_ge j listed.size with h' | h'
          · simp [h'] at hl'
          · simp [Array.getElem?_eq_none h'] at hun
        · have hy' := hrg.spec.2 j y hy
          rw [getD_set_ne true (Ne.symm hji)] at hl'
          rw [hφ id ?_]
          · exact h7 j y hy hl' id hid1 hid2
          · rcases Nat.lt_or_gt_of_ne hji with h' | h'
            · have := hrg.apart j i y out h' hy hout; omega
            · have := hrg.apart i j out y h' hout hy; omega
    rcases hw with ⟨hw1, hw2⟩ | ⟨hw1, hw2, hw3⟩
    · rw [wantA_wanted hw1 h3, if_pos rfl]
      refine .inl (hw2 t m (fun _ _ => rfl) (fun _ _ => rfl) c a w h1 h2 h3 h4 (h7 i out hout hun) _ _ ?_)
      intro u w' c' hr hM' hs hown hφ hmk
      exact wpAny_of_A hrg hEn hok hdk hK fuel _ _ _ _ _ (put c' w' u hr hM' hs hown hφ hmk) hrest
    · rw [wantA_wanted hw1 h3]
      simp only [Bool.false_eq_true, if_false]
      have hm : ∀ id, mget (out.act m) id = mget m id := fun id => by rw [hxok.1, hw3 id]
      refine wpAny_of_A hrg hEn hok hdk hK fuel _ _ _ _ _ (put c w undef (.inr hw2) (h4.of_mget hm) (Step.refl _ _ _) (fun b ⟨id, h8, h9⟩ => .inl ⟨id, by rw [← hm]; exact h8, h9⟩) (fun _ _ => rfl) (fun id _ h => by rw [← hm]; exact h)) hrest

/-! ### The operations' outs -/

theorem local_plain {o : Oper} {ao : AOper} (hco : cOper P ops k o = some ao) (hsl : ao.op.slots.all (fun i => (o.looksAt ops).contains i) = true) {t : Fr} {m : Mem} {n : Nat} {v : AV} {e : Eff}
    (he : aevN ao.op t m n = some (v, e)) : LocalOut P k ops o t m (plainOut v e n (footF t ao.op)) := by
  intro t' m' ht hm c a w _ _ hF hM hfree Kw Q hKw
  have hcop : cOp P o.op = some ao.op := by
    unfold cOper at hco
    split at hco
    · rename_i h1 _
      split at hco
      · cases hco; exact h1
      · cases hco
    · cases hco
  have he' : aevN ao.op t' m' n = some (v, e) := by
    rw [aevN_local (fun s hs => ht s ?_) hm]
    · exact he
    · have := List.all_eq_true.1 hsl s hs
      simpa using this
  have hn : c.φ n = .free := hfree n (Nat.le_refl _) (Nat.lt_succ_self _)
  obtain ⟨r, w', c', hrun, hr, hM', hs, hφ, ho⟩ := aevN_sound (o := o) hcop hF hM hn he'
  have hmk : ∀ id, ¬ (n ≤ id ∧ id < n + 1) → (mget (e.mem m' n) id).isSome → (mget m' id).isSome := by
    intro id hid h
    have hne : n ≠ id := by omega
    cases e with
    | nil => exact h
    | new cs => simp only [Eff.mem, mget_mset] at h; rw [if_neg hne] at h; exact h
    | put i cs =>
      simp only [Eff.mem, mget_mset] at h
      split at h
      · rename_i e; subst e; exact aevN_put he'
      · exact h
    | mov i cs =>
      simp only [Eff.mem, mget_mset, mget_mdel] at h
      rw [if_neg hne] at h
      split at h
      · simp at h
      · exact h
  have hφ' : ∀ id, ¬ (n ≤ id ∧ id < n + 1) → c'.φ id = c.φ id := fun id hid => hφ id (.inl (by omega))
  unfold Oper.wp
  rw [hrun]
  rcases hr with ⟨u, rfl, hru⟩ | ⟨rfl, hv⟩
  · exact hKw u w' c' (.inl hru) hM' hs ho hφ' hmk
  · exact hKw undef w' c' (.inr hv) hM' hs ho hφ' hmk

theorem handed_same {ρ : Ren} {m m' : Mem} (h : ∀ id ∈ ρ.map (·.2), mget m' id = mget m id) : ∀ {m0 : Mem}, handed ρ m m0 → handed ρ m' m0
  | [], _ => trivial
  | (j, cs) :: r, hh => by
    simp only [handed] at hh ⊢
    refine ⟨?_, handed_same h hh.2⟩
    have h1 := hh.1
    split at h1
    · rename_i id hid
      rw [h id (List.mem_map.2 ⟨_, pget_mem hid, rfl⟩)]
      exact h1
    · exact h1.elim

theorem local_enter {o : Oper} {f : Nat} {args0 : List AV} {ρ : Ren} {m0 m1 : Mem} {r0 : AV} {nb n : Nat} {t : Fr} {m : Mem} (hok : okRen nb ρ = true) (hin : inL (pget ρ) args0 = true) (hh : handed ρ m m0)
    (hdom : ∀ j id, pget ρ j = some id → (mget m0 j).isSome) (hA : ACalls P f args0 m0 (fun r m' => r = r0 ∧ m' = m1))
    (hent : ∀ (t' : Fr), (∀ s ∈ o.looksAt ops, fget t' s = fget t s) → ∀ (c : Ctx) (a : Act) (w : World), FR c w t' a.tmps → ∃ vs, RelL c w (renL (pget ρ) args0) vs ∧ (execOp a.eval o).run P w = .ok (.enter f vs.toArray) w) :
    LocalOut P k ops o t m (callOut ρ m0 m1 r0 n) := by
  intro t' m' ht hm c a w _ _ hF hM hfree Kw Q hKw
  obtain ⟨vs, hrl, hrun⟩ := hent t' ht c a w hF
  have hR := callR_gen (n := n) hA ρ hok hin (handed_same hm hh) hdom (F := fun id => n ≤ id ∧ id < n + Nat.max (mbound m0) (mbound m1)) (fun r m2 hq id h1 h2 => by obtain ⟨rfl, rfl⟩ := hq; exact ⟨h1, h2⟩)
  unfold Oper.wp
  rw [hrun, Oper.upon_enter]
  refine (hR c w vs hrl hM (fun id hid => hfree id hid.1 hid.2)).mono ?_
  rintro e' w' ⟨v, r, m2, n', c', rfl, ⟨r1, m3, ⟨rfl, rfl⟩, rfl, rfl, rfl⟩, hru, hM', hs, ho, hφ, hmk, hnn⟩
  exact hKw v w' c' (.inl hru) hM' hs ho hφ hmk

theorem cOper_op {o : Oper} {ao : AOper} (hco : cOper P ops k o = some ao) : cOp P o.op = some ao.op := by
  unfold cOper at hco
  split at hco
  · rename_i h1 _
    split at hco
    · cases hco; exact h1
    · cases hco
  · cases hco

theorem dStep_out {o : Oper} {ao : AOper} (hco : cOper P ops k o = some ao) (hsl : ao.op.slots.all (fun i => (o.looksAt ops).contains i) = true) {S : St} {K : St → Foot → Prop} (h : dStep P ao.dst ao.op S K) :
    ∃ out : Out, out.ok ∧ out.lo = S.n ∧ S.n ≤ out.hi ∧ LocalOut P k ops o S.t S.m out ∧ K ⟨putF S.t o.dst out.v, out.act S.m, out.hi⟩ ⟨out.keys, out.F⟩ := by
  have hd : ao.dst = o.dst := (cOper_guard hco).2.1
  have hop := cOper_op hco
  have hsl' : ∀ {t' : Fr}, (∀ s ∈ o.looksAt ops, fget t' s = fget S.t s) → ∀ s ∈ ao.op.slots, fget t' s = fget S.t s := fun ht s hs => ht s (by simpa using List.all_eq_true.1 hsl s hs)
  rw [hd] at h
  unfold dStep at h
  split at h
  · rename_i f args hao
    obtain ⟨ρ, m0, args0, r0, m1, nb, hok, hargs, hin, hh, hdom, hA, hk⟩ := h
    rw [hao] at hop hsl'
    refine ⟨callOut ρ m0 m1 r0 S.n, callOut_ok hok _ _ _ _, rfl, Nat.le_add_right _ _, local_enter hok hin hh hdom hA fun t' ht c a w hF => ?_, hk⟩
    obtain ⟨callee, cargs, ts, hopc, hcl | hcl⟩ := cOp_call hop rfl
    · obtain ⟨f', rfl, hg', he⟩ := hcl
      cases he
      refine ⟨cargs.toList.map a.eval, ?_, ?_⟩
      · rw [← hargs, ← evs_same (t' := t') (hsl' ht)]
        exact relL_ev hF cargs.toList
      · obtain ⟨dst, op, ty, pos, after, guard⟩ := o
        simp only at hopc
        subst hopc
        have h1 : (execOp a.eval ⟨dst, .call ⟨.value (.func f), cargs, ts⟩, ty, pos, after, guard⟩).run P w = (callFunc f ((#[] ++ cargs.map a.eval) ++ #[])).run P w := rfl
        rw [h1, run_callFunc hg' w]
        congr 2
        apply Array.ext'
        simp
    · obtain ⟨y, _, he⟩ := hcl
      cases he
  · rename_i x args hao
    split at h
    · rename_i f caps hev
      obtain ⟨hg', ρ, m0, args0, r0, m1, nb, hok, hargs, hin, hh, hdom, hA, hk⟩ := h
      rw [hao] at hop hsl'
      refine ⟨callOut ρ m0 m1 r0 S.n, callOut_ok hok _ _ _ _, rfl, Nat.le_add_right _ _, local_enter hok hin hh hdom hA fun t' ht c a w hF => ?_, hk⟩
      obtain ⟨callee, cargs, ts, hopc, hcl | hcl⟩ := cOp_call hop rfl
      · obtain ⟨f', _, _, he⟩ := hcl
        cases he
      · obtain ⟨y, rfl, he⟩ := hcl
        cases he
        have hx := rel_ev (w := w) hF y
        rw [ev_same (t := S.t) (fun s hs => hsl' ht s (by simp only [AOp.slots]; exact List.mem_append_left _ hs)), hev] at hx
        obtain ⟨us, hu, hru⟩ := rel_fn hx
        refine ⟨cargs.toList.map a.eval ++ us, ?_, ?_⟩
        · rw [← hargs, ← evs_same (t' := t') (fun s hs => hsl' ht s (by simp only [AOp.slots]; exact List.mem_append_right _ hs))]
          exact (relL_ev hF cargs.toList).append hru
        · obtain ⟨dst, op, ty, pos, after, guard⟩ := o
          simp only at hopc
          subst hopc
          have h1 : (execOp a.eval ⟨dst, .call ⟨.value y, cargs, ts⟩, ty, pos, after, guard⟩).run P w = ((Deferred.ofValue (a.eval y) (cargs.map a.eval)) >>= fun d => invoke d.target d.args).run P w := rfl
          rw [h1, hu]
          have h2 : ((Deferred.ofValue (.func (.func f) #[] us.toArray) (cargs.map a.eval)) >>= fun d => invoke d.target d.args).run P w = (callFunc f ((#[] ++ cargs.map a.eval) ++ us.toArray)).run P w := rfl
          rw [h2, run_callFunc hg' w]
          congr 2
          apply Array.ext'
          simp
    · exact h.elim
  · split at h
    · rename_i v e he
      exact ⟨plainOut v e S.n (footF S.t ao.op), plainOut_ok _ _ _ _, rfl, Nat.le_succ _, local_plain hco hsl he, h⟩
    · exact h.elim

theorem cGuard_want {o : Oper} {g : Nat} {want : Bool} {t : Fr} {b : Bool} (hg : cGuard ops o.guard = some (some (g, want))) (hb : fget t g = .d (.bool b)) : wantA ops o t = some (b == want) := by
  unfold cGuard at hg
  unfold wantA
  cases ho : o.guard with
  | none => rw [ho] at hg; cases hg
  | some jw =>
    obtain ⟨j, wt⟩ := jw
    rw [ho] at hg
    simp only at hg ⊢
    split at hg
    · rename_i o' hj
      split at hg
      · rename_i d hd
        cases hg
        simp only [hj, Option.bind_some, hd, hb]
      · cases hg
    · cases hg

theorem cGuard_wantN {o : Oper} {t : Fr} (hg : cGuard ops o.guard = some none) : wantA ops o t = some true := by
  unfold cGuard at hg
  unfold wantA
  cases ho : o.guard with
  | none => rfl
  | some jw =>
    obtain ⟨j, wt⟩ := jw
    rw [ho] at hg
    simp only at hg
    split at hg
    · split at hg
      · cases hg
      · cases hg
    · cases hg

theorem runDA_outs {K : St → Prop} {ms : List Nat} : ∀ (l : List Oper) (al : List AOper) (acc : List Foot) (S : St), cOpers P ops k l = some al → slotsB ops l al = true → runDA P al acc ms S K →
    ∃ (outs : List Out) (Sf : St), K Sf ∧ RunOuts P k ops (fun t m => t = Sf.t ∧ m = Sf.m) l outs S.t S.m ∧ outs.length = l.length ∧ (∀ x ∈ outs, x.ok) ∧ Ranges S.n outs Sf.n ∧
      indepFrom [] (acc.reverse ++ outs.map fun x => ⟨x.keys, x.F⟩) ms = true
  | [], al, acc, S, hc, _, h => by
    simp only [cOpers, Option.some.injEq] at hc
    subst hc
    simp only [runDA] at h
    exact ⟨[], S, h.2, ⟨rfl, rfl⟩, rfl, fun x hx => by simp at hx, rfl, by simpa using h.1⟩
  | o :: l, al, acc, S, hc, hs, h => by
    simp only [cOpers] at hc
    split at hc
    · rename_i ao r' h1 h2
      cases hc
      simp only [slotsB, Bool.and_eq_true] at hs
      obtain ⟨hg, hd, hdk⟩ := cOper_guard h1
      have doit : wantA ops o S.t = some true → dStep P ao.dst ao.op S (fun S' f => runDA P r' (f :: acc) ms S' K) → ∃ (outs : List Out) (Sf : St), K Sf ∧ RunOuts P k ops (fun t m => t = Sf.t ∧ m = Sf.m) (o :: l) outs S.t S.m ∧ outs.length = (o :: l).length ∧ (∀ x ∈ outs, x.ok) ∧ Ranges S.n outs Sf.n ∧
          indepFrom [] (acc.reverse ++ outs.map fun x => ⟨x.keys, x.F⟩) ms = true := by
        intro hw h
        obtain ⟨out, hok, hlo, hhi, hloc, hk⟩ := dStep_out h1 hs.1 h
        obtain ⟨outs, Sf, hK, hrun, hlen, hoks, hrg, hind⟩ := runDA_outs l r' _ _ h2 hs.2 hk
        refine ⟨out :: outs, Sf, hK, ⟨.inl ⟨hw, hloc⟩, hrun⟩, by simp [hlen], fun x hx => ?_, ⟨hlo, hhi, hrg⟩, by simpa using hind⟩
        rcases List.mem_cons.1 hx with rfl | hx
        · exact hok
        · exact hoks x hx
      simp only [runDA] at h
      split at h
      · rename_i hgn
        rw [hgn] at hg
        exact doit (cGuard_wantN hg) h
      · rename_i g want hgs
        rw [hgs] at hg
        split at h
        · rename_i b hb
          have hw := cGuard_want hg hb
          split at h
          · rename_i hbw
            subst hbw
            exact doit (by rw [hw]; simp) h
          · rename_i hbw
            rw [hd] at h
            obtain ⟨outs, Sf, hK, hrun, hlen, hoks, hrg, hind⟩ := runDA_outs l r' _ _ h2 hs.2 h
            refine ⟨skipOut S.n :: outs, Sf, hK, ⟨.inr ⟨by rw [hw]; simpa using hbw, rfl, fun _ => rfl⟩, hrun⟩, by simp [hlen], fun x hx => ?_, ⟨rfl, Nat.le_succ _, hrg⟩, by simpa [skipOut] using hind⟩
            rcases List.mem_cons.1 hx with rfl | hx
            · exact skipOut_ok _
            · exact hoks x hx
        · exact h.elim
    · cases hc

theorem RunOuts.mono {K K' : Fr → Mem → Prop} (hK : ∀ t m, K t m → K' t m) : ∀ {l : List Oper} {outs : List Out} {t : Fr} {m : Mem}, RunOuts P k ops K l outs t m → RunOuts P k ops K' l outs t m
  | [], [], _, _, h => hK _ _ h
  | [], _ :: _, _, _, h => h.elim
  | _ :: _, [], _, _, h => h.elim
  | _ :: _, _ :: _, _, _, h => ⟨h.1, RunOuts.mono hK h.2⟩

theorem indep2_spec {x y : Out} (h : indep2 ⟨x.keys, x.F⟩ ⟨y.keys, y.F⟩ = true) : indep x y := by
  simp only [indep2, Bool.and_eq_true, List.all_eq_true, Bool.not_eq_true', List.contains_eq_mem, decide_eq_false_iff_not] at h
  exact ⟨fun id hid => (h.1 id hid).1, fun id hid => h.2 id hid, fun id hid => (h.1 id hid).2⟩

theorem mask_spec (i : Nat) : ∀ (l : List Edge) (s : Nat), (l.foldl (fun s e => if Region.binds .any e then s ||| 2 ^ e.on else s) s).testBit i = true → s.testBit i = true ∨ ∃ e ∈ l, Region.binds .any e = true ∧ e.on = i
  | [], s, h => .inl h
  | e :: l, s, h => by
    simp only [List.foldl_cons] at h
    rcases mask_spec i l _ h with h1 | ⟨e', h1, h2⟩
    · split at h1
      · rename_i hb
        rw [Nat.testBit_or, Bool.or_eq_true, Nat.testBit_two_pow] at h1
        rcases h1 with h1 | h1
        · exact .inl h1
        · exact .inr ⟨e, List.mem_cons_self, hb, by simpa using h1⟩
      · exact .inl h1
    · exact .inr ⟨e', List.mem_cons_of_mem _ h1, h2⟩

theorem awp_region_draw {n0 : Nat} {S : St} {Q : Exit → St → Prop} {id : Nat} {al : List AOper} (hm : P.follows .mixedOrders = true) (hc : cOpers P ops k ops.toList = some al) (hs : slotsB ops ops.toList al = true)
    (hlex : Region.lexB .any ops = true) (hn : n0 ≤ S.n) (h : runDA P al [] (masksOf ops) S (fun S' => Q .normal S')) : AWP P n0 k (.region id ops true) S Q := by
  intro E hE a w hcc
  obtain ⟨outs, Sf, hK, hrun, hlen, hoks, hrg, hind⟩ := runDA_outs (k := k) (ops := ops) ops.toList al [] S hc hs h
  have hoks' : ∀ (i : Nat) (o : Out), outs[i]? = some o → o.ok := fun i o h => hoks o (List.mem_of_getElem? h)
  have hl : outs.length = ops.size := by rw [hlen, Array.length_toList]
  have hdk : ∀ (i : Nat) (o : Oper), ops[i]? = some o → ∀ d, o.dst = some d → d < k := by
    have key : ∀ (l : List Oper) (al : List AOper), cOpers P ops k l = some al → ∀ o ∈ l, ∀ d, o.dst = some d → d < k := by
      intro l
      induction l with
      | nil => intro al _ o ho; simp at ho
      | cons x l ih =>
        intro al hc o ho
        simp only [cOpers] at hc
        split at hc
        · rename_i ao r' h1 h2
          rcases List.mem_cons.1 ho with rfl | ho
          · exact (cOper_guard h1).2.2
          · exact ih r' h2 o ho
        · cases hc
    exact fun i o ho => key _ _ hc o (by rw [← Array.getElem?_toList] at ho; exact List.mem_of_getElem? ho)
  refine wp_region_any hm ?_
  have hconc : Conc E k S a { w with drawn := w.drawn + 1 } := conc_drew hcc rfl rfl rfl rfl
  obtain ⟨c, hcr, hp⟩ := hconc
  unfold Region.lexB at hlex
  simp only [Bool.and_eq_true] at hlex
  have hA := wpAnyA_lex (P := P) (k := k) (ops := ops) (outs := outs) hoks' (K := fun t m => Alk Sf.t Sf.m t m)
    (fun t m t' m' h1 h2 => ⟨fun i => (h1.1 i).trans (h2.1 i), fun i => (h1.2 i).trans (h2.2 i)⟩) ?_ ops.toList outs 0 (Array.replicate ops.size false) S.t S.m
    (fun j => by rw [Nat.zero_add, Array.getElem?_toList]) (fun j => by rw [Nat.zero_add]) (fun j hj => absurd hj (Nat.not_lt_zero j)) (by rw [Array.length_toList]; exact hlex.2)
    (hrun.mono fun t m ⟨h1, h2⟩ => by subst h1 h2; exact ⟨fun _ => rfl, fun _ => rfl⟩)
  · rw [Array.length_toList] at hA
    refine wpAny_of_A hrg (hE ▸ hn) hoks' hdk (K := fun t m => Alk Sf.t Sf.m t m) ?_ _ _ _ _ _ _ ⟨c, hcr.defers, hcr.size, hcr.fr, hcr.mr, hp, fun id hid => hcr.free id (Nat.le_trans hrg.spec.1 hid), fun j x hx _ id h1 _ => hcr.free id (Nat.le_trans (hrg.spec.2 j x hx).1 h1)⟩ hA
    rintro t m a' w' hal ⟨c', hc', hp'⟩
    refine ⟨Sf, hK, c', ⟨hc'.defers, hc'.size, fun i => by rw [← hal.1 i]; exact hc'.fr i, hc'.mr.of_mget fun id => (hal.2 id).symm, hc'.free⟩, hp'.of_mget fun id => (hal.2 id).symm⟩
  · intro i j oj x y hij hoj hx hy hno
    have hi' : (outs.map fun x => (⟨x.keys, x.F⟩ : Foot))[i]? = some ⟨x.keys, x.F⟩ := by simp [hx]
    have hj' : (outs.map fun x => (⟨x.keys, x.F⟩ : Foot))[j]? = some ⟨y.keys, y.F⟩ := by simp [hy]
    obtain ⟨mk, hmk, hb⟩ := indepFrom_spec hind i j ⟨x.keys, x.F⟩ ⟨y.keys, y.F⟩ (by simpa using hij) hi' hj'
    refine indep2_spec (hb ?_)
    unfold masksOf at hmk
    rw [List.getElem?_map, Array.getElem?_toList, hoj, Option.map_some, Option.some.injEq] at hmk
    subst hmk
    cases hbit : (List.foldl (fun s e => if Region.binds .any e then s ||| 2 ^ e.on else s) 0 oj.after.toList).testBit i with
    | false => rfl
    | true =>
      rcases mask_spec i _ _ hbit with h1 | ⟨e, h1, h2, h3⟩
      · simp at h1
      · exact absurd h3 (hno e (by simpa using h1) h2)

theorem bwp_region_draw {n0 : Nat} {S : St} {Q : Exit → St → Prop} {al : List AOper} {ms : List Nat} (hm : P.follows .mixedOrders = true) (hn : decide (n0 ≤ S.n) = true) (h : runDA P al [] ms S (fun S' => Q .normal S')) :
    BWP P n0 k (.region true al ms) S Q := by
  intro code hc
  cases code with
  | region id ops draw =>
    simp only [cCode] at hc
    split at hc
    · rename_i al' hal
      split at hc
      · rename_i hd
        split at hc
        · rename_i hlex
          cases hc
          simp only [Bool.and_eq_true] at hlex
          subst hd
          exact awp_region_draw hm hal hlex.2 hlex.1 (of_decide_eq_true hn) h
        · cases hc
      · cases hc
    · cases hc
  | cond c a b => simp only [cCode] at hc; repeat' split at hc
                  all_goals cases hc
  | seq a b => simp only [cCode] at hc; repeat' split at hc
               all_goals cases hc
  | _ => simp [cCode] at hc

end
end Go.Jq
