/- The abstract layer, part 18: regions that draw their order: the text's order serves for all, if what may come up in either order does not meddle. -/
import Derived.Test.YtjfghjakpjfgpaaX17
namespace Go.Jq
open Go

/-- What an operation comes to, wherever it comes up: its value, what it does to memory (as a function, and number by number), the numbers that it turns, those that it looks at, and the new ones that it may use. -/
structure Out where
  v : AV
  act : Mem → Mem
  U : Nat → Option (Option (List AV))
  keys : List Nat
  F : List Nat
  lo : Nat
  hi : Nat

def Out.ok (o : Out) : Prop :=
  (∀ m id, mget (o.act m) id = match o.U id with
    | some x => x
    | none => mget m id) ∧ (∀ id, o.U id ≠ none → id ∈ o.keys)

section
variable {P : Program} {k : Nat} {ops : Array Oper}

/-- The operation does so in this state. -/
def LStep (P : Program) (k : Nat) (o : Oper) (t : Fr) (m : Mem) (out : Out) : Prop :=
  ∀ (c : Ctx) (a : Act) (w : World), a.defers = [] → a.tmps.size = k → FR c w t a.tmps → MR c m w → (∀ id, out.lo ≤ id → id < out.hi → c.φ id = .free) →
    ∀ (Kw : Act → World → Prop) (Q : Exit → Act → World → Prop),
      (∀ u w' c', (Rel c' w' out.v u ∨ out.v = .any) → MR c' (out.act m) w' → Step (Own c m) c c' w w' → (∀ b, Own c' (out.act m) b → Own c m b ∨ w.heap.size ≤ b) →
        (∀ id, ¬ (out.lo ≤ id ∧ id < out.hi) → c'.φ id = c.φ id) → (∀ id, ¬ (out.lo ≤ id ∧ id < out.hi) → (mget (out.act m) id).isSome → (mget m id).isSome) → Kw (a.put o.dst u) w') →
      o.wp P a w Kw Q

/-- And in every state that agrees with this one where it looks. -/
def LocalOut (P : Program) (k : Nat) (ops : Array Oper) (o : Oper) (t : Fr) (m : Mem) (out : Out) : Prop :=
  ∀ t' m', (∀ s ∈ o.looksAt ops, fget t' s = fget t s) → (∀ id ∈ out.F, mget m' id = mget m id) → LStep P k o t' m' out

/-- Is it carried out? -/
def wantA (ops : Array Oper) (o : Oper) (t : Fr) : Option Bool :=
  match o.guard with
  | none => some true
  | some (j, w) => match (ops[j]?).bind (·.dst) with
    | some d => match fget t d with
      | .d (.bool b) => some (b == w)
      | _ => none
    | none => none

def WantOK (P : Program) (k : Nat) (ops : Array Oper) (o : Oper) (t : Fr) (m : Mem) (out : Out) : Prop :=
  (wantA ops o t = some true ∧ LocalOut P k ops o t m out) ∨ (wantA ops o t = some false ∧ out.v = .any ∧ (∀ id, out.U id = none))

theorem wantA_same {o : Oper} {t t' : Fr} (h : ∀ s ∈ o.looksAt ops, fget t' s = fget t s) : wantA ops o t' = wantA ops o t := by
  unfold wantA
  cases hg : o.guard with
  | none => rfl
  | some jw =>
    obtain ⟨j, w⟩ := jw
    simp only
    cases hd : (ops[j]?).bind (·.dst) with
    | none => rfl
    | some d =>
      have := h d (by simp [Oper.looksAt, hg, hd])
      simp only [this]

theorem WantOK.same {o : Oper} {t t' : Fr} {m m' : Mem} {out : Out} (h : WantOK P k ops o t m out) (ht : ∀ s ∈ o.looksAt ops, fget t' s = fget t s) (hm : ∀ id ∈ out.F, mget m' id = mget m id) :
    WantOK P k ops o t' m' out := by
  have hw := wantA_same ht
  rcases h with ⟨h1, h2⟩ | ⟨h1, h2⟩
  · exact .inl ⟨hw.trans h1, fun t2 m2 ht2 hm2 => h2 t2 m2 (fun s hs => (ht2 s hs).trans (ht s hs)) (fun id hid => (hm2 id hid).trans (hm id hid))⟩
  · exact .inr ⟨hw.trans h1, h2⟩

/-- Two states that are read alike. -/
def Alk (t : Fr) (m : Mem) (t' : Fr) (m' : Mem) : Prop := (∀ i, fget t' i = fget t i) ∧ (∀ id, mget m' id = mget m id)

theorem fget_putF (t : Fr) (dst : Option Nat) (v : AV) (i : Nat) : fget (putF t dst v) i = if dst = some i then v else fget t i := by
  cases dst with
  | none => simp [putF]
  | some d => by_cases h : d = i <;> simp [putF, fget, h]

theorem Alk.next {t t' : Fr} {m m' : Mem} {out : Out} (h : Alk t m t' m') (hok : out.ok) (dst : Option Nat) : Alk (putF t dst out.v) (out.act m) (putF t' dst out.v) (out.act m') := by
  refine ⟨fun i => ?_, fun id => ?_⟩
  · rw [fget_putF, fget_putF, h.1 i]
  · rw [hok.1, hok.1, h.2 id]

/-- Operation i, with what it comes to. -/
def aOp (P : Program) (k : Nat) (ops : Array Oper) (outs : List Out) (i : Nat) (K : Fr → Mem → Prop) (t : Fr) (m : Mem) : Prop :=
  ∃ o out, ops[i]? = some o ∧ outs[i]? = some out ∧ WantOK P k ops o t m out ∧ K (putF t o.dst out.v) (out.act m)

def wpAnyA (P : Program) (k : Nat) (ops : Array Oper) (outs : List Out) (K : Fr → Mem → Prop) : Nat → Array Bool → Fr → Mem → Prop
  | 0, listed, t, m => Region.ready .any ops listed = [] ∧ K t m
  | fuel + 1, listed, t, m => (Region.ready .any ops listed = [] → K t m) ∧ ∀ i ∈ Region.ready .any ops listed, aOp P k ops outs i (wpAnyA P k ops outs K fuel (listed.setIfInBounds i true)) t m

theorem wpAnyA_alk {outs : List Out} (hok : ∀ (i : Nat) (o : Out), outs[i]? = some o → o.ok) {K : Fr → Mem → Prop} (hK : ∀ t m t' m', Alk t m t' m' → K t m → K t' m') :
    ∀ (fuel : Nat) (listed : Array Bool) (t : Fr) (m : Mem) (t' : Fr) (m' : Mem), Alk t m t' m' → wpAnyA P k ops outs K fuel listed t m → wpAnyA P k ops outs K fuel listed t' m'
  | 0, _, t, m, t', m', ha, h => ⟨h.1, hK t m t' m' ha h.2⟩
  | fuel + 1, listed, t, m, t', m', ha, h => by
    refine ⟨fun h0 => hK t m t' m' ha (h.1 h0), fun i hi => ?_⟩
    obtain ⟨o, out, h1, h2, h3, h4⟩ := h.2 i hi
    exact ⟨o, out, h1, h2, h3.same (fun s _ => ha.1 s) (fun id _ => ha.2 id), wpAnyA_alk hok hK fuel _ _ _ _ _ (ha.next (hok i out h2) o.dst) h4⟩

/-- Two operations do not meddle with each other's memory. -/
def indep (x y : Out) : Prop := (∀ id ∈ x.keys, id ∉ y.F) ∧ (∀ id ∈ y.keys, id ∉ x.F) ∧ (∀ id ∈ x.keys, id ∉ y.keys)

theorem act_same {x : Out} (hx : x.ok) {m : Mem} {id : Nat} (h : id ∉ x.keys) : mget (x.act m) id = mget m id := by
  rw [hx.1]
  cases hu : x.U id with
  | none => rfl
  | some y => exact absurd (hx.2 id (by rw [hu]; simp)) h

theorem looks_put {oi oj : Oper} (hap : ∀ d, oi.dst = some d → d ∉ oj.looksAt ops) (t : Fr) (v : AV) : ∀ s ∈ oj.looksAt ops, fget (putF t oi.dst v) s = fget t s := by
  intro s hs
  rw [fget_putF]
  split
  · rename_i e; exact absurd hs (hap s e)
  · rfl

theorem swap_alk {oi oj : Oper} {x y : Out} (hx : x.ok) (hy : y.ok) (hd : ∀ d, oi.dst = some d → oj.dst ≠ some d) (hk : ∀ id ∈ x.keys, id ∉ y.keys) (t : Fr) (m : Mem) :
    Alk (putF (putF t oi.dst x.v) oj.dst y.v) (y.act (x.act m)) (putF (putF t oj.dst y.v) oi.dst x.v) (x.act (y.act m)) := by
  refine ⟨fun s => ?_, fun id => ?_⟩
  · simp only [fget_putF]
    by_cases h1 : oi.dst = some s
    · rw [if_pos h1, if_neg (hd s h1), if_pos h1]
    · rw [if_neg h1, if_neg h1]
  · rw [hx.1, hy.1, hy.1, hx.1]
    cases hu : x.U id with
    | none => rfl
    | some q =>
      have : y.U id = none := by
        cases hu' : y.U id with
        | none => rfl
        | some q' => exact absurd (hy.2 id (by rw [hu']; simp)) (hk id (hx.2 id (by rw [hu]; simp)))
      rw [this]

/-- An operation that may come up now may be taken first. -/
theorem wpAnyA_first {outs : List Out} (hok : ∀ (i : Nat) (o : Out), outs[i]? = some o → o.ok) {K : Fr → Mem → Prop} (hK : ∀ t m t' m', Alk t m t' m' → K t m → K t' m') {i : Nat} {oi : Oper} {x : Out}
    (hi : ops[i]? = some oi) (hx : outs[i]? = some x) :
    ∀ (fuel : Nat) (listed : Array Bool) (t : Fr) (m : Mem),
      (∀ (j : Nat) (oj : Oper) (y : Out), ops[j]? = some oj → outs[j]? = some y → j ≠ i → listed.getD j true = false → (∀ e ∈ oj.after, Region.binds .any e = true → e.on ≠ i) → oi.apart ops oj = true ∧ indep x y) →
      i ∈ Region.ready .any ops listed → WantOK P k ops oi t m x →
      wpAnyA P k ops outs K fuel (listed.setIfInBounds i true) (putF t oi.dst x.v) (x.act m) → wpAnyA P k ops outs K (fuel + 1) listed t m := by
  intro fuel
  induction fuel with
  | zero =>
    intro listed t m _ hr hy H
    refine ⟨fun h => (by rw [h] at hr; cases hr), fun j hj => ?_⟩
    by_cases hji : j = i
    · subst hji; exact ⟨oi, x, hi, hx, hy, H⟩
    · have := ready_mono hj hji
      rw [H.1] at this
      cases this
  | succ fuel ih =>
    intro listed t m hfree hr hy H
    refine ⟨fun h => (by rw [h] at hr; cases hr), fun j hj => ?_⟩
    by_cases hji : j = i
    · subst hji; exact ⟨oi, x, hi, hx, hy, H⟩
    · obtain ⟨oj, y, hoj, hyj, hwant, hrest⟩ := H.2 j (ready_mono hj hji)
      obtain ⟨hjun, oj', hoj', hall⟩ := mem_ready.1 hj
      rw [hoj] at hoj'
      cases hoj'
      have hnot : ∀ e ∈ oj.after, Region.binds .any e = true → e.on ≠ i := fun e he hb heq => by
        have h1 := hall e he hb
        have h0 := (mem_ready.1 hr).1
        rw [heq] at h1
        rcases Nat.lt_or_ge i listed.size with h' | h'
        · simp [h'] at h0 h1; rw [h0] at h1; cases h1
        · simp [Array.getElem?_eq_none h'] at h1
      obtain ⟨hap, hind1, hind2, hind3⟩ := hfree j oj y hoj hyj hji hjun hnot
      obtain ⟨a1, a2, a3⟩ := Oper.apart_spec hap
      have hxok := hok i x hx
      have hyok := hok j y hyj
      have hwj : WantOK P k ops oj t m y := hwant.same (fun s hs => (looks_put a1 t x.v s hs).symm) (fun id hid => (act_same hxok (fun h => hind1 id h hid)).symm)
      refine ⟨oj, y, hoj, hyj, hwj, ?_⟩
      have hfree' : ∀ (l : Nat) (ol : Oper) (z : Out), ops[l]? = some ol → outs[l]? = some z → l ≠ i → (listed.setIfInBounds j true).getD l true = false →
          (∀ e ∈ ol.after, Region.binds .any e = true → e.on ≠ i) → oi.apart ops ol = true ∧ indep x z := fun l ol z hl hz hli hun hno => by
        refine hfree l ol z hl hz hli ?_ hno
        by_cases hjl : j = l
        · subst hjl; exact hjun
        · rw [getD_set_ne true hjl] at hun; exact hun
      have hwi : WantOK P k ops oi (putF t oj.dst y.v) (y.act m) x := hy.same (looks_put a3 t y.v) (fun id hid => act_same hyok (fun h => hind2 id h hid))
      refine ih (listed.setIfInBounds j true) _ _ hfree' (ready_mono hr (Ne.symm hji)) hwi ?_
      rw [Array.setIfInBounds_comm _ _ hji]
      exact wpAnyA_alk hok hK _ _ _ _ _ _ (swap_alk hxok hyok a2 hind3 t m) hrest

/-- The text's order. -/
def RunOuts (P : Program) (k : Nat) (ops : Array Oper) (K : Fr → Mem → Prop) : List Oper → List Out → Fr → Mem → Prop
  | [], [], t, m => K t m
  | o :: r, x :: xs, t, m => WantOK P k ops o t m x ∧ RunOuts P k ops K r xs (putF t o.dst x.v) (x.act m)
  | _, _, _, _ => False

theorem wpAnyA_lex {outs : List Out} (hok : ∀ (i : Nat) (o : Out), outs[i]? = some o → o.ok) {K : Fr → Mem → Prop} (hK : ∀ t m t' m', Alk t m t' m' → K t m → K t' m')
    (hind : ∀ (i j : Nat) (oj : Oper) (x y : Out), i < j → ops[j]? = some oj → outs[i]? = some x → outs[j]? = some y → (∀ e ∈ oj.after, Region.binds .any e = true → e.on ≠ i) → indep x y) :
    ∀ (l : List Oper) (xs : List Out) (i : Nat) (listed : Array Bool) (t : Fr) (m : Mem), (∀ j, l[j]? = ops[i + j]?) → (∀ j, xs[j]? = outs[i + j]?) → (∀ j, j < i → listed.getD j true = true) →
      Region.lexFrom .any ops l.length i listed = true → RunOuts P k ops K l xs t m → wpAnyA P k ops outs K l.length listed t m
  | [], [], _, _, _, _, _, _, _, hB, h => ⟨by simpa [Region.lexFrom] using hB, h⟩
  | [], _ :: _, _, _, _, _, _, _, _, _, h => h.elim
  | _ :: _, [], _, _, _, _, _, _, _, _, h => h.elim
  | o :: l, x :: xs, i, listed, t, m, hl, hxs, hpre, hB, h => by
    have h0 : ops[i]? = some o := by simpa using (hl 0).symm
    have hx0 : outs[i]? = some x := by simpa using (hxs 0).symm
    simp only [List.length_cons, Region.lexFrom, Bool.and_eq_true] at hB
    obtain ⟨⟨hr, hf⟩, hB'⟩ := hB
    obtain ⟨hw, hrest⟩ := h
    refine wpAnyA_first hok hK h0 hx0 l.length listed t m (fun j oj y hoj hyj hji hun hno => ?_) (by simpa using hr) hw
      (wpAnyA_lex hok hK hind l xs (i + 1) _ _ _ (fun j => by have := hl (j + 1); simpa [Nat.add_assoc, Nat.add_comm 1 j] using this) (fun j => by have := hxs (j + 1); simpa [Nat.add_assoc, Nat.add_comm 1 j] using this)
        (fun j hj => ?_) hB' hrest)
    · have hlt : i < j := by
        rcases Nat.lt_or_ge i j with h1 | h1
        · exact h1
        · have : j < i := by omega
          rw [hpre j this] at hun
          cases hun
      exact ⟨Region.free_spec h0 hf j oj hoj hji hun hno, hind i j oj x y hlt hoj hx0 hyj hno⟩
    · by_cases hji : j = i
      · subst hji
        rcases Nat.lt_or_ge j listed.size with h1 | h1
        · simp [h1]
        · simp [Nat.not_lt.2 (by simpa using h1 : listed.size ≤ j)]
      · rw [getD_set_ne true (Ne.symm hji)]
        exact hpre j (by omega)

end
end Go.Jq
