/- The abstract layer, part 12: renaming of own blocks, states, and what it means that a state stands to a frame and a world. -/
import Derived.Test.YtjfghjakpjfgpaaX11
namespace Go.Jq
open Go

/-! ### Renaming -/

abbrev Ren := List (Nat × Nat)

def pget : Ren → Nat → Option Nat
  | [], _ => none
  | (i, j) :: r, k => if i = k then some j else pget r k

mutual
def AV.ren (π : Nat → Option Nat) : AV → AV
  | .d x => .d x
  | .ptr id off => match π id with
    | some j => .ptr j off
    | none => .any
  | .dptr cs => .dptr cs
  | .sl id esz off len => match π id with
    | some j => .sl j esz off len
    | none => .any
  | .fn f caps => .fn f (renL π caps)
  | .agg cs => .agg (renL π cs)
  | .tup vs => .tup (renL π vs)
  | .any => .any
def renL (π : Nat → Option Nat) : List AV → List AV
  | [] => []
  | x :: xs => x.ren π :: renL π xs
end

@[simp] theorem renL_d (π : Nat → Option Nat) (l : List DV) : renL π (l.map .d) = l.map .d := by
  induction l with
  | nil => rfl
  | cons x l ih => simp only [List.map_cons, renL, AV.ren, ih]

theorem renL_append (π : Nat → Option Nat) (l l' : List AV) : renL π (l ++ l') = renL π l ++ renL π l' := by
  induction l with
  | nil => rfl
  | cons x l ih => simp only [List.cons_append, renL, ih]

theorem renL_length (π : Nat → Option Nat) (l : List AV) : (renL π l).length = l.length := by
  induction l with
  | nil => rfl
  | cons x l ih => simp only [renL, List.length_cons, ih]

mutual
theorem rel_ren {c c' : Ctx} {w : World} {π : Nat → Option Nat} (hI : ∀ b, c.imm b → c'.imm b) (hφ : ∀ id j, π id = some j → c.φ id ≠ .free → c'.φ j = c.φ id) :
    ∀ (x : AV) (v : Value), Rel c w x v → Rel c' w (x.ren π) v
  | .d x, v, h => by simp only [AV.ren, Rel] at h ⊢; exact relD_mono hI (fun _ _ => rfl) x v h
  | .ptr id off, v, h => by
    simp only [AV.ren, Rel] at h ⊢
    obtain ⟨b, hb, hv⟩ := h
    split
    · rename_i j hj
      simp only [Rel]
      exact ⟨b, by rw [hφ id j hj (by rw [hb]; simp)]; exact hb, hv⟩
    · simp [Rel]
  | .dptr cs, v, h => by
    simp only [AV.ren, Rel] at h ⊢
    obtain ⟨b, o, hb, hv, hc⟩ := h
    exact ⟨b, o, hI b hb, hv, relDs_mono hI (fun _ _ => rfl) cs b o hb hc⟩
  | .sl id esz off len, v, h => by
    simp only [AV.ren, Rel] at h ⊢
    split
    · rename_i j hj
      simp only [Rel]
      rcases h with ⟨h0, h⟩ | ⟨b, cap, n, hb, h⟩
      · exact .inl ⟨by rw [hφ id j hj (by rw [h0]; simp)]; exact h0, h⟩
      · exact .inr ⟨b, cap, n, by rw [hφ id j hj (by rw [hb]; simp)]; exact hb, h⟩
    · simp [Rel]
  | .fn f caps, v, h => by
    simp only [AV.ren, Rel] at h ⊢
    obtain ⟨vs, hv, hl⟩ := h
    exact ⟨vs, hv, relL_ren hI hφ caps vs hl⟩
  | .agg cs, v, h => by
    simp only [AV.ren, Rel] at h ⊢
    obtain ⟨vs, hv, hl⟩ := h
    exact ⟨vs, hv, relL_ren hI hφ cs vs hl⟩
  | .tup cs, v, h => by
    simp only [AV.ren, Rel] at h ⊢
    obtain ⟨vs, hv, hl⟩ := h
    exact ⟨vs, hv, relL_ren hI hφ cs vs hl⟩
  | .any, _, _ => by simp [AV.ren, Rel]
theorem relL_ren {c c' : Ctx} {w : World} {π : Nat → Option Nat} (hI : ∀ b, c.imm b → c'.imm b) (hφ : ∀ id j, π id = some j → c.φ id ≠ .free → c'.φ j = c.φ id) :
    ∀ (xs : List AV) (vs : List Value), RelL c w xs vs → RelL c' w (renL π xs) vs
  | [], _, h => by simpa [renL, RelL] using h
  | x :: xs, vs, h => by
    simp only [renL, RelL] at h ⊢
    obtain ⟨v, vs', hv, hx, hl⟩ := h
    exact ⟨v, vs', hv, rel_ren hI hφ x v hx, relL_ren hI hφ xs vs' hl⟩
end

mutual
/-- All numbers in the value are the renaming's. -/
def inB (π : Nat → Option Nat) : AV → Bool
  | .d _ => true
  | .ptr id _ => (π id).isSome
  | .dptr _ => true
  | .sl id _ _ _ => (π id).isSome
  | .fn _ caps => inL π caps
  | .agg cs => inL π cs
  | .tup vs => inL π vs
  | .any => true
def inL (π : Nat → Option Nat) : List AV → Bool
  | [] => true
  | x :: xs => inB π x && inL π xs
end

@[simp] theorem inL_d (π : Nat → Option Nat) (l : List DV) : inL π (l.map .d) = true := by
  induction l with
  | nil => rfl
  | cons x l ih => simp only [List.map_cons, inL, inB, ih, Bool.and_self]

mutual
/-- Backwards: what stands to the renamed value stands to the value itself, in a context that looks through the renaming. -/
theorem rel_unren {c c' : Ctx} {w : World} {π : Nat → Option Nat} (hI : ∀ b, c'.imm b → c.imm b) (hφ : ∀ id j, π id = some j → c.φ id = c'.φ j) :
    ∀ (x : AV) (v : Value), inB π x = true → Rel c' w (x.ren π) v → Rel c w x v
  | .d x, v, _, h => by simp only [AV.ren, Rel] at h ⊢; exact relD_mono hI (fun _ _ => rfl) x v h
  | .ptr id off, v, hn, h => by
    simp only [AV.ren, Rel] at h ⊢
    simp only [inB] at hn
    obtain ⟨j, hj⟩ := Option.isSome_iff_exists.1 hn
    simp only [hj, Rel] at h
    obtain ⟨b, hb, hv⟩ := h
    exact ⟨b, by rw [hφ id j hj]; exact hb, hv⟩
  | .dptr cs, v, _, h => by
    simp only [AV.ren, Rel] at h ⊢
    obtain ⟨b, o, hb, hv, hc⟩ := h
    exact ⟨b, o, hI b hb, hv, relDs_mono hI (fun _ _ => rfl) cs b o hb hc⟩
  | .sl id esz off len, v, hn, h => by
    simp only [AV.ren, Rel] at h ⊢
    simp only [inB] at hn
    obtain ⟨j, hj⟩ := Option.isSome_iff_exists.1 hn
    simp only [hj, Rel] at h
    rcases h with ⟨h0, h⟩ | ⟨b, cap, n, hb, h⟩
    · exact .inl ⟨by rw [hφ id j hj]; exact h0, h⟩
    · exact .inr ⟨b, cap, n, by rw [hφ id j hj]; exact hb, h⟩
  | .fn f caps, v, hn, h => by
    simp only [AV.ren, Rel] at h ⊢
    simp only [inB] at hn
    obtain ⟨vs, hv, hl⟩ := h
    exact ⟨vs, hv, relL_unren hI hφ caps vs hn hl⟩
  | .agg cs, v, hn, h => by
    simp only [AV.ren, Rel] at h ⊢
    simp only [inB] at hn
    obtain ⟨vs, hv, hl⟩ := h
    exact ⟨vs, hv, relL_unren hI hφ cs vs hn hl⟩
  | .tup cs, v, hn, h => by
    simp only [AV.ren, Rel] at h ⊢
    simp only [inB] at hn
    obtain ⟨vs, hv, hl⟩ := h
    exact ⟨vs, hv, relL_unren hI hφ cs vs hn hl⟩
  | .any, _, _, _ => by simp [Rel]
theorem relL_unren {c c' : Ctx} {w : World} {π : Nat → Option Nat} (hI : ∀ b, c'.imm b → c.imm b) (hφ : ∀ id j, π id = some j → c.φ id = c'.φ j) :
    ∀ (xs : List AV) (vs : List Value), inL π xs = true → RelL c' w (renL π xs) vs → RelL c w xs vs
  | [], _, _, h => by simpa [renL, RelL] using h
  | x :: xs, vs, hn, h => by
    simp only [renL, RelL] at h ⊢
    simp only [inL, Bool.and_eq_true] at hn
    obtain ⟨v, vs', hv, hx, hl⟩ := h
    exact ⟨v, vs', hv, rel_unren hI hφ x v hn.1 hx, relL_unren hI hφ xs vs' hn.2 hl⟩
end

/-! ### States -/

structure St where
  t : Fr
  m : Mem
  n : Nat

/-- What a state's memory and numbers stand to. -/
structure CR (c : Ctx) (k : Nat) (S : St) (a : Act) (w : World) : Prop where
  defers : a.defers = []
  size : a.tmps.size = k
  fr : FR c w S.t a.tmps
  mr : MR c S.m w
  free : ∀ id, S.n ≤ id → c.φ id = .free

/-- How it was when the function was entered: its context, its memory (whose numbers are below n0), the world. -/
structure Env where
  c : Ctx
  m : Mem
  n : Nat
  w : World

structure Prov (E : Env) (c : Ctx) (m : Mem) (w : World) : Prop where
  step : Step (Own E.c E.m) E.c c E.w w
  own : ∀ b, Own c m b → Own E.c E.m b ∨ E.w.heap.size ≤ b
  keep : ∀ id, id < E.n → (mget m id).isSome → (mget E.m id).isSome ∧ c.φ id = E.c.φ id

def Conc (E : Env) (k : Nat) (S : St) (a : Act) (w : World) : Prop := ∃ c, CR c k S a w ∧ Prov E c S.m w

/-- A step from a state of the function's to another. -/
theorem Prov.next {E : Env} {c c' : Ctx} {m m' : Mem} {w w' : World} (h : Prov E c m w) (hs : Step (Own c m) c c' w w') (ho : ∀ b, Own c' m' b → Own c m b ∨ w.heap.size ≤ b)
    (hk : ∀ id, id < E.n → (mget m' id).isSome → (mget m id).isSome ∧ c'.φ id = c.φ id) : Prov E c' m' w' where
  step := h.step.trans hs h.own
  own := fun b hb => by
    rcases ho b hb with h1 | h1
    · exact h.own b h1
    · exact .inr (Nat.le_trans h.step.size h1)
  keep := fun id hid hm => by
    obtain ⟨h1, h2⟩ := hk id hid hm
    obtain ⟨h3, h4⟩ := h.keep id hid h1
    exact ⟨h3, h2.trans h4⟩

/-! ### From a state to a weaker one, its blocks renamed -/

def pinv : Ren → Nat → Option Nat
  | [], _ => none
  | (i, j) :: r, k => if j = k then some i else pinv r k

def entT (π : Ren) (t : Fr) : Fr → Prop
  | [] => True
  | (i, x) :: r => (fget t i).ren (pget π) = x ∧ entT π t r

def entM (π : Ren) (m : Mem) : Mem → Prop
  | [] => True
  | (j, cs) :: r => (match pinv π j with
    | some i => match mget m i with
      | some cs' => renL (pget π) cs' = cs
      | none => False
    | none => False) ∧ entM π m r

/-- The renaming is one to one, and its new numbers lie below n. -/
def okRen (n : Nat) : Ren → Bool
  | [] => true
  | (i, j) :: r => decide (j < n) && (r.all fun p => p.1 != i && p.2 != j) && okRen n r

/-- Numbers below n0 stay. -/
def keepRen (n0 : Nat) (π : Ren) : Bool := π.all fun p => decide (p.2 < n0) == false || p.1 == p.2

structure Ent (n0 : Nat) (π : Ren) (S S' : St) : Prop where
  t : entT π S.t S'.t
  m : entM π S.m S'.m
  ok : okRen S'.n π = true
  keep : keepRen n0 π = true

theorem pget_mem : ∀ {π : Ren} {i j : Nat}, pget π i = some j → (i, j) ∈ π
  | [], _, _, h => by simp [pget] at h
  | (i', j') :: r, i, j, h => by
    simp only [pget] at h
    split at h
    · rename_i e; cases h; subst e; exact List.mem_cons_self
    · exact List.mem_cons_of_mem _ (pget_mem h)

theorem pinv_mem : ∀ {π : Ren} {i j : Nat}, pinv π j = some i → (i, j) ∈ π
  | [], _, _, h => by simp [pinv] at h
  | (i', j') :: r, i, j, h => by
    simp only [pinv] at h
    split at h
    · rename_i e; cases h; subst e; exact List.mem_cons_self
    · exact List.mem_cons_of_mem _ (pinv_mem h)

theorem okRen_spec : ∀ {π : Ren} {n : Nat}, okRen n π = true → (∀ i j, (i, j) ∈ π → pget π i = some j ∧ pinv π j = some i ∧ j < n)
  | [], _, _ => fun _ _ h => by simp at h
  | (i', j') :: r, n, h => by
    simp only [okRen, Bool.and_eq_true, decide_eq_true_eq, List.all_eq_true] at h
    obtain ⟨⟨h1, h2⟩, h3⟩ := h
    intro i j hm
    rcases List.mem_cons.1 hm with e | hm
    · cases e
      simp [pget, pinv, h1]
    · obtain ⟨p1, p2, p3⟩ := okRen_spec h3 i j hm
      have := h2 (i, j) hm
      simp only [bne_iff_ne, ne_eq] at this
      refine ⟨?_, ?_, p3⟩
      · simp only [pget]; rw [if_neg (fun e => this.1 e.symm)]; exact p1
      · simp only [pinv]; rw [if_neg (fun e => this.2 e.symm)]; exact p2

theorem entT_get {π : Ren} {t : Fr} : ∀ {t' : Fr}, entT π t t' → ∀ i, fget t' i = .any ∨ (fget t i).ren (pget π) = fget t' i
  | [], _, i => .inl rfl
  | (k, x) :: r, h, i => by
    simp only [entT] at h
    simp only [fget]
    split
    · rename_i e; subst e; exact .inr h.1
    · exact entT_get h.2 i

theorem entM_get {π : Ren} {m : Mem} : ∀ {m' : Mem}, entM π m m' → ∀ j cs, mget m' j = some cs → ∃ i cs', pinv π j = some i ∧ mget m i = some cs' ∧ renL (pget π) cs' = cs
  | [], _, j, cs, h => by simp [mget] at h
  | (k, x) :: r, h, j, cs, hj => by
    simp only [entM] at h
    simp only [mget] at hj
    split at hj
    · rename_i e
      subst e
      cases hj
      obtain ⟨h, _⟩ := h
      split at h
      · rename_i i hi
        split at h
        · rename_i cs' hcs'
          exact ⟨i, cs', hi, hcs', h⟩
        · exact h.elim
      · exact h.elim
    · exact entM_get h.2 j cs hj

/-- The context behind a renaming. -/
def Ctx.ren (c : Ctx) (π : Ren) : Ctx := { c with φ := fun j => match pinv π j with
  | some i => c.φ i
  | none => .free }

theorem ren_φ {c : Ctx} {π : Ren} {n : Nat} (hok : okRen n π = true) {i j : Nat} (h : pget π i = some j) : (c.ren π).φ j = c.φ i := by
  obtain ⟨_, h2, _⟩ := okRen_spec hok i j (pget_mem h)
  simp only [Ctx.ren, h2]

theorem mr_ren {c : Ctx} {m m' : Mem} {w : World} {π : Ren} {n : Nat} (hok : okRen n π = true) (hM : MR c m w) (hm : entM π m m') : MR (c.ren π) m' w where
  own := fun j cs hj => by
    obtain ⟨i, cs', hi, hcs, rfl⟩ := entM_get hm j cs hj
    have hφ : (c.ren π).φ j = c.φ i := by simp only [Ctx.ren, hi]
    rcases hM.own i cs' hcs with ⟨h0, rfl⟩ | ⟨b, arr, T, f, hb, hni, hw, hf, vs, rest, ha, hr⟩
    · exact .inl ⟨hφ.trans h0, rfl⟩
    · exact .inr ⟨b, arr, T, f, hφ.trans hb, hni, hw, hf, vs, rest, ha, relL_ren (c := c) (c' := c.ren π) (fun _ h => h) (fun i j h _ => ren_φ hok h) _ _ hr⟩
  inj := fun j j' b hj hj' hb hb' => by
    obtain ⟨cs, hcs⟩ := Option.isSome_iff_exists.1 hj
    obtain ⟨cs', hcs'⟩ := Option.isSome_iff_exists.1 hj'
    obtain ⟨i, _, hi, hmi, _⟩ := entM_get hm j cs hcs
    obtain ⟨i', _, hi', hmi', _⟩ := entM_get hm j' cs' hcs'
    simp only [Ctx.ren, hi] at hb
    simp only [Ctx.ren, hi'] at hb'
    have := hM.inj i i' b (by rw [hmi]; rfl) (by rw [hmi']; rfl) hb hb'
    subst this
    have h1 := (okRen_spec hok i j (pinv_mem hi)).1
    have h2 := (okRen_spec hok i j' (pinv_mem hi')).1
    rw [h1] at h2
    exact Option.some.inj h2
  imm := hM.imm

theorem own_ren {c : Ctx} {m m' : Mem} {π : Ren} (hm : entM π m m') {b : Nat} (h : Own (c.ren π) m' b) : Own c m b := by
  obtain ⟨j, hj, hb⟩ := h
  obtain ⟨cs, hcs⟩ := Option.isSome_iff_exists.1 hj
  obtain ⟨i, _, hi, hmi, _⟩ := entM_get hm j cs hcs
  simp only [Ctx.ren, hi] at hb
  exact ⟨i, by rw [hmi]; rfl, hb⟩

theorem keep_ren {n0 : Nat} {π : Ren} (h : keepRen n0 π = true) {i j : Nat} (hp : pinv π j = some i) (hj : j < n0) : i = j := by
  have := List.all_eq_true.1 h (i, j) (pinv_mem hp)
  simp only [Bool.or_eq_true, beq_iff_eq, decide_eq_false_iff_not] at this
  rcases this with h1 | h1
  · exact absurd hj h1
  · exact h1

theorem fr_ren {c : Ctx} {w : World} {t t' : Fr} {tmps : Array Value} {π : Ren} {n : Nat} (hok : okRen n π = true) (hF : FR c w t tmps) (ht : entT π t t') : FR (c.ren π) w t' tmps := by
  intro i
  rcases entT_get ht i with h | h
  · rw [h]; simp [Rel]
  · rw [← h]; exact rel_ren (c := c) (c' := c.ren π) (fun _ h => h) (fun i j h _ => ren_φ hok h) _ _ (hF i)

theorem prov_ren {E : Env} {c : Ctx} {m m' : Mem} {w : World} {π : Ren} {n : Nat} (_hok : okRen n π = true) (hk : keepRen E.n π = true) (hP : Prov E c m w) (hm : entM π m m') : Prov E (c.ren π) m' w where
  step := ⟨hP.step.os, hP.step.tape, hP.step.output, hP.step.size, hP.step.keep, hP.step.rows, hP.step.imm, hP.step.imm'⟩
  own := fun b hb => hP.own b (own_ren hm hb)
  keep := fun j hj hmj => by
    obtain ⟨cs, hcs⟩ := Option.isSome_iff_exists.1 hmj
    obtain ⟨i, _, hi, hmi, _⟩ := entM_get hm j cs hcs
    have := keep_ren hk hi hj
    subst this
    obtain ⟨h1, h2⟩ := hP.keep i hj (by rw [hmi]; rfl)
    exact ⟨h1, by simp only [Ctx.ren, hi]; exact h2⟩

theorem Conc.ent {E : Env} {k : Nat} {S S' : St} {a : Act} {w : World} {π : Ren} (h : Conc E k S a w) (he : Ent E.n π S S') : Conc E k S' a w := by
  obtain ⟨c, hc, hp⟩ := h
  refine ⟨c.ren π, ⟨hc.defers, hc.size, fr_ren he.ok hc.fr he.t, mr_ren he.ok hc.mr he.m, fun id hid => ?_⟩, prov_ren he.ok he.keep hp he.m⟩
  simp only [Ctx.ren]
  split
  · rename_i i hi
    have := (okRen_spec he.ok i id (pinv_mem hi)).2.2
    omega
  · rfl

end Go.Jq
