/- The abstract layer, part 21: from a state to another one that says less: own blocks that nobody writes any more; nil slices under a number; a slice's end cut off. -/
import Derived.Test.YtjfghjakpjfgpaaX20
namespace Go.Jq
open Go

abbrev Zs := List (Nat × List DV)

def zget : Zs → Nat → Option (List DV)
  | [], _ => none
  | (i, ds) :: r, k => if i = k then some ds else zget r k

mutual
/-- Numbers renamed (π), or their blocks' cells told as data (Z). -/
def AV.cv (π : Nat → Option Nat) (Z : Nat → Option (List DV)) : AV → AV
  | .d x => .d x
  | .ptr id off => match Z id with
    | some ds => .dptr (ds.drop off)
    | none => match π id with
      | some j => .ptr j off
      | none => .any
  | .dptr cs => .dptr cs
  | .sl id esz off len => match Z id with
    | some ds => .d (.sl len ((ds.drop off).take (len * esz)))
    | none => match π id with
      | some j => .sl j esz off len
      | none => .any
  | .fn f caps => .fn f (cvL π Z caps)
  | .agg cs => .agg (cvL π Z cs)
  | .tup vs => .tup (cvL π Z vs)
  | .any => .any
def cvL (π : Nat → Option Nat) (Z : Nat → Option (List DV)) : List AV → List AV
  | [] => []
  | x :: xs => x.cv π Z :: cvL π Z xs
end

theorem cvL_get {π : Nat → Option Nat} {Z : Nat → Option (List DV)} : ∀ (l : List AV) (i : Nat), (cvL π Z l)[i]? = l[i]?.map (AV.cv π Z)
  | [], i => by simp [cvL]
  | x :: l, 0 => by simp [cvL]
  | x :: l, i + 1 => by simp only [cvL, List.getElem?_cons_succ]; exact cvL_get l i

@[go_sem] theorem cvL_d (π : Nat → Option Nat) (Z : Nat → Option (List DV)) (l : List DV) : cvL π Z (l.map .d) = l.map .d := by
  induction l with
  | nil => rfl
  | cons x l ih => simp only [List.map_cons, cvL, AV.cv, ih]

@[go_sem] theorem cvL_append (π : Nat → Option Nat) (Z : Nat → Option (List DV)) (l l' : List AV) : cvL π Z (l ++ l') = cvL π Z l ++ cvL π Z l' := by
  induction l with
  | nil => rfl
  | cons x l ih => simp only [List.cons_append, cvL, ih]

def zokFrom (m : Mem) (Z0 : Zs) : Zs → Prop
  | [] => True
  | (id, ds) :: r => (match mget m id with
    | some cs => cvL (fun _ => none) (zget Z0) cs = ds.map .d
    | none => False) ∧ zokFrom m Z0 r

theorem zok_get {m : Mem} {Z0 : Zs} : ∀ {Z : Zs}, zokFrom m Z0 Z → ∀ id ds, zget Z id = some ds → ∃ cs, mget m id = some cs ∧ cvL (fun _ => none) (zget Z0) cs = ds.map .d
  | [], _, id, ds, h => by simp [zget] at h
  | (i, x) :: r, h, id, ds, hz => by
    simp only [zokFrom] at h
    simp only [zget] at hz
    split at hz
    · rename_i e
      subst e
      cases hz
      obtain ⟨h, _⟩ := h
      split at h
      · rename_i cs hcs; exact ⟨cs, hcs, h⟩
      · exact h.elim
    · exact zok_get h.2 id ds hz

/-- The context behind it: the blocks told as data are data's. -/
def Ctx.frz (c : Ctx) (π : Ren) (Z : Zs) : Ctx :=
  { φ := (c.ren π).φ, imm := fun b => c.imm b ∨ ∃ id, (zget Z id).isSome ∧ c.φ id = .blk b }

section
variable {c : Ctx} {m : Mem} {w : World} {Z : Zs} {π : Ren}

mutual
theorem relD_cv (hM : MR c m w) (hz : zokFrom m Z Z) : ∀ (d : DV) (x : AV) (v : Value), x.cv (fun _ => none) (zget Z) = .d d → Rel c w x v → RelD (c.frz π Z).imm w d v
  | .sl n cells, x, v, hx, hr => by
    cases x with
    | d y =>
      simp only [AV.cv, AV.d.injEq] at hx
      subst hx
      simp only [Rel] at hr
      exact relD_mono (fun b hb => .inl hb) (fun _ _ => rfl) _ _ hr
    | sl id esz off len =>
      simp only [AV.cv] at hx
      split at hx
      · rename_i ds hds
        simp only [AV.d.injEq, DV.sl.injEq] at hx
        obtain ⟨rfl, hcells⟩ := hx
        obtain ⟨cs, hcs, hcv⟩ := zok_get hz id ds hds
        simp only [Rel] at hr
        simp only [RelD]
        rcases hr with ⟨h0, rfl, rfl, hv⟩ | ⟨b, cap, n, hb, hv, hle, _⟩
        · exact ⟨none, 0, hv, Nat.le_refl _, .inl ⟨rfl, by rw [← hcells]; simp⟩⟩
        · refine ⟨_, cap, hv, hle, .inr ⟨b, off, rfl, .inr ⟨id, by rw [hds]; rfl, hb⟩, ?_⟩⟩
          refine relDs_cv hM hz cells b off id cs hb hcs fun i d hi => ?_
          rw [← hcells, List.getElem?_take] at hi
          split at hi
          · rw [List.getElem?_drop] at hi
            have h1 : (cvL (fun _ => none) (zget Z) cs)[off + i]? = some (.d d) := by rw [hcv, List.getElem?_map, hi]; rfl
            rw [cvL_get, Option.map_eq_some_iff] at h1
            exact h1
          · simp at hi
      · cases hx
    | ptr id off => simp only [AV.cv] at hx; split at hx <;> cases hx
    | dptr _ => simp [AV.cv] at hx
    | fn _ _ => simp [AV.cv] at hx
    | agg _ => simp [AV.cv] at hx
    | tup _ => simp [AV.cv] at hx
    | any => simp [AV.cv] at hx
  | .int a b, x, v, hx, hr => relD_cv1 hx hr (fun _ _ h => nomatch h)
  | .bool b, x, v, hx, hr => relD_cv1 hx hr (fun _ _ h => nomatch h)
  | .str s, x, v, hx, hr => relD_cv1 hx hr (fun _ _ h => nomatch h)
  | .nsl, x, v, hx, hr => relD_cv1 hx hr (fun _ _ h => nomatch h)
  | .nptr, x, v, hx, hr => relD_cv1 hx hr (fun _ _ h => nomatch h)
  | .nfn, x, v, hx, hr => relD_cv1 hx hr (fun _ _ h => nomatch h)
  | .nif, x, v, hx, hr => relD_cv1 hx hr (fun _ _ h => nomatch h)
theorem relDs_cv (hM : MR c m w) (hz : zokFrom m Z Z) : ∀ (ds : List DV) (b o id : Nat) (cs : List AV), c.φ id = .blk b → mget m id = some cs →
    (∀ i d, ds[i]? = some d → ∃ x, cs[o + i]? = some x ∧ x.cv (fun _ => none) (zget Z) = .d d) → RelDs (c.frz π Z).imm w ds b o
  | [], _, _, _, _, _, _, _ => by simp [RelDs]
  | d :: ds, b, o, id, cs, hb, hcs, h => by
    simp only [RelDs]
    obtain ⟨x, hx, hcv⟩ := h 0 d rfl
    refine ⟨?_, relDs_cv hM hz ds b (o + 1) id cs hb hcs fun i d' hi => ?_⟩
    · obtain ⟨u, hu, hr⟩ := cellsAt_own hM hcs hb o 0 x (by rw [List.getElem?_drop]; exact hx)
      exact ⟨u, hu, relD_cv hM hz d x u hcv hr⟩
    · obtain ⟨y, hy, hcy⟩ := h (i + 1) d' (by simpa using hi)
      exact ⟨y, by rw [← hy]; congr 1; omega, hcy⟩
theorem relD_cv1 {d : DV} {x : AV} {v : Value} (hx : x.cv (fun _ => none) (zget Z) = .d d) (hr : Rel c w x v) (hd : ∀ n cs, d ≠ .sl n cs) : RelD (c.frz π Z).imm w d v := by
  cases x with
  | d y =>
    simp only [AV.cv, AV.d.injEq] at hx
    subst hx
    simp only [Rel] at hr
    exact relD_mono (fun b hb => .inl hb) (fun _ _ => rfl) _ _ hr
  | sl id esz off len =>
    simp only [AV.cv] at hx
    split at hx
    · simp only [AV.d.injEq] at hx
      exact absurd hx.symm (hd _ _)
    · cases hx
  | ptr id off => simp only [AV.cv] at hx; split at hx <;> cases hx
  | dptr _ => simp [AV.cv] at hx
  | fn _ _ => simp [AV.cv] at hx
  | agg _ => simp [AV.cv] at hx
  | tup _ => simp [AV.cv] at hx
  | any => simp [AV.cv] at hx
end

theorem relDs_all (hM : MR c m w) (hz : zokFrom m Z Z) {id b : Nat} {ds : List DV} (hds : zget Z id = some ds) (hb : c.φ id = .blk b) (o : Nat) : RelDs (c.frz π Z).imm w (ds.drop o) b o := by
  obtain ⟨cs, hcs, hcv⟩ := zok_get hz id ds hds
  refine relDs_cv hM hz _ b o id cs hb hcs fun i d hi => ?_
  rw [List.getElem?_drop] at hi
  have h1 : (cvL (fun _ => none) (zget Z) cs)[o + i]? = some (.d d) := by rw [hcv, List.getElem?_map, hi]; rfl
  rw [cvL_get, Option.map_eq_some_iff] at h1
  exact h1

mutual
theorem rel_cv {nb : Nat} (hok : okRen nb π = true) (hM : MR c m w) (hz : zokFrom m Z Z) : ∀ (x : AV) (v : Value), Rel c w x v → Rel (c.frz π Z) w (x.cv (pget π) (zget Z)) v
  | .d x, v, h => by simp only [AV.cv, Rel] at h ⊢; exact relD_mono (fun b hb => .inl hb) (fun _ _ => rfl) x v h
  | .ptr id off, v, h => by
    simp only [AV.cv, Rel] at h ⊢
    obtain ⟨b, hb, hv⟩ := h
    split
    · rename_i ds hds
      simp only [Rel]
      exact ⟨b, off, .inr ⟨id, by rw [hds]; rfl, hb⟩, hv, relDs_all hM hz hds hb off⟩
    · split
      · rename_i j hj
        simp only [Rel]
        exact ⟨b, by rw [← hb]; exact ren_φ hok hj, hv⟩
      · simp [Rel]
  | .dptr cs, v, h => by
    simp only [AV.cv, Rel] at h ⊢
    obtain ⟨b, o, hb, hv, hc⟩ := h
    exact ⟨b, o, .inl hb, hv, relDs_mono (fun b hb => .inl hb) (fun _ _ => rfl) cs b o hb hc⟩
  | .sl id esz off len, v, h => by
    have h0 := h
    simp only [AV.cv, Rel] at h ⊢
    split
    · rename_i ds hds
      simp only [Rel]
      refine relD_cv hM hz _ (.sl id esz off len) v ?_ h0
      simp only [AV.cv, hds]
    · split
      · rename_i j hj
        simp only [Rel]
        rcases h with ⟨h0, h⟩ | ⟨b, cap, n, hb, h⟩
        · exact .inl ⟨by rw [← h0]; exact ren_φ hok hj, h⟩
        · exact .inr ⟨b, cap, n, by rw [← hb]; exact ren_φ hok hj, h⟩
      · simp [Rel]
  | .fn f caps, v, h => by
    simp only [AV.cv, Rel] at h ⊢
    obtain ⟨vs, hv, hl⟩ := h
    exact ⟨vs, hv, relL_cv hok hM hz caps vs hl⟩
  | .agg cs, v, h => by
    simp only [AV.cv, Rel] at h ⊢
    obtain ⟨vs, hv, hl⟩ := h
    exact ⟨vs, hv, relL_cv hok hM hz cs vs hl⟩
  | .tup cs, v, h => by
    simp only [AV.cv, Rel] at h ⊢
    obtain ⟨vs, hv, hl⟩ := h
    exact ⟨vs, hv, relL_cv hok hM hz cs vs hl⟩
  | .any, _, _ => by simp [AV.cv, Rel]
theorem relL_cv {nb : Nat} (hok : okRen nb π = true) (hM : MR c m w) (hz : zokFrom m Z Z) : ∀ (xs : List AV) (vs : List Value), RelL c w xs vs → RelL (c.frz π Z) w (cvL (pget π) (zget Z) xs) vs
  | [], _, h => by simpa [cvL, RelL] using h
  | x :: xs, vs, h => by
    simp only [cvL, RelL] at h ⊢
    obtain ⟨v, vs', hv, hx, hl⟩ := h
    exact ⟨v, vs', hv, rel_cv hok hM hz x v hx, relL_cv hok hM hz xs vs' hl⟩
end

end

/-! ### The states -/

def frzT (π : Ren) (Z : Zs) (t : Fr) : Fr → Prop
  | [] => True
  | (i, x) :: r => (fget t i).cv (pget π) (zget Z) = x ∧ frzT π Z t r

def frzM (π : Ren) (Z : Zs) (m : Mem) : Mem → Prop
  | [] => True
  | (j, cs) :: r => (match pinv π j with
    | some i => zget Z i = none ∧ (match mget m i with
      | some cs' => cvL (pget π) (zget Z) cs' = cs
      | none => False)
    | none => False) ∧ frzM π Z m r

structure Frz (n0 : Nat) (π : Ren) (Z : Zs) (S S' : St) : Prop where
  t : frzT π Z S.t S'.t
  m : frzM π Z S.m S'.m
  ok : okRen S'.n π = true
  keep : keepRen n0 π = true
  z : zokFrom S.m Z Z

theorem frzT_get {π : Ren} {Z : Zs} {t : Fr} : ∀ {t' : Fr}, frzT π Z t t' → ∀ i, fget t' i = .any ∨ (fget t i).cv (pget π) (zget Z) = fget t' i
  | [], _, i => .inl rfl
  | (k, x) :: r, h, i => by
    simp only [frzT] at h
    simp only [fget]
    split
    · rename_i e; subst e; exact .inr h.1
    · exact frzT_get h.2 i

theorem frzM_get {π : Ren} {Z : Zs} {m : Mem} : ∀ {m' : Mem}, frzM π Z m m' → ∀ j cs, mget m' j = some cs → ∃ i cs', pinv π j = some i ∧ zget Z i = none ∧ mget m i = some cs' ∧ cvL (pget π) (zget Z) cs' = cs
  | [], _, j, cs, h => by simp [mget] at h
  | (k, x) :: r, h, j, cs, hj => by
    simp only [frzM] at h
    simp only [mget] at hj
    split at hj
    · rename_i e
      subst e
      cases hj
      obtain ⟨h, _⟩ := h
      split at h
      · rename_i i hi
        obtain ⟨hz, h⟩ := h
        split at h
        · rename_i cs' hcs'
          exact ⟨i, cs', hi, hz, hcs', h⟩
        · exact h.elim
      · exact h.elim
    · exact frzM_get h.2 j cs hj

theorem Leads.frz {n0 k : Nat} {S S' : St} (π : Ren) (Z : Zs) (he : Frz n0 π Z S S') : Leads n0 k S S' := by
  rintro E hE a w ⟨c, hc, hp⟩
  have hok := he.ok
  have hM := hc.mr
  have hzi : ∀ id, (zget Z id).isSome → (mget S.m id).isSome := fun id h => by
    obtain ⟨ds, hds⟩ := Option.isSome_iff_exists.1 h
    obtain ⟨cs, hcs, _⟩ := zok_get he.z id ds hds
    rw [hcs]; rfl
  have hown : ∀ b, Own (c.frz π Z) S'.m b → Own c S.m b := by
    rintro b ⟨j, hj, hb⟩
    obtain ⟨cs, hcs⟩ := Option.isSome_iff_exists.1 hj
    obtain ⟨i, _, hi, _, hmi, _⟩ := frzM_get he.m j cs hcs
    simp only [Ctx.frz, Ctx.ren, hi] at hb
    exact ⟨i, by rw [hmi]; rfl, hb⟩
  refine ⟨c.frz π Z, ⟨hc.defers, hc.size, fun i => ?_, ⟨fun j cs hj => ?_, fun j j' b hj hj' hb hb' => ?_, fun b hb => ?_⟩, fun id hid => ?_⟩, ⟨⟨hp.step.os, hp.step.tape, hp.step.output, hp.step.size, hp.step.keep, hp.step.rows, fun b hb => .inl (hp.step.imm b hb), fun b hb => ?_⟩, fun b hb => hp.own b (hown b hb), fun j hj hmj => ?_⟩⟩
  · rcases frzT_get he.t i with h | h
    · rw [h]; simp [Rel]
    · rw [← h]; exact rel_cv hok hM he.z _ _ (hc.fr i)
  · obtain ⟨i, cs', hi, hzn, hcs, rfl⟩ := frzM_get he.m j cs hj
    have hφ : (c.frz π Z).φ j = c.φ i := by simp only [Ctx.frz, Ctx.ren, hi]
    rcases hM.own i cs' hcs with ⟨h0, rfl⟩ | ⟨b, arr, T, f, hb, hni, hw, hf, vs, rest, ha, hr⟩
    · exact .inl ⟨hφ.trans h0, rfl⟩
    · refine .inr ⟨b, arr, T, f, hφ.trans hb, ?_, hw, hf, vs, rest, ha, relL_cv hok hM he.z _ _ hr⟩
      rintro (h1 | ⟨id, h1, h2⟩)
      · exact hni h1
      · have := hM.inj id i b (hzi id h1) (by rw [hcs]; rfl) h2 hb
        subst this
        rw [hzn] at h1
        cases h1
  · obtain ⟨cs, hcs⟩ := Option.isSome_iff_exists.1 hj
    obtain ⟨cs', hcs'⟩ := Option.isSome_iff_exists.1 hj'
    obtain ⟨i, _, hi, _, hmi, _⟩ := frzM_get he.m j cs hcs
    obtain ⟨i', _, hi', _, hmi', _⟩ := frzM_get he.m j' cs' hcs'
    simp only [Ctx.frz, Ctx.ren, hi] at hb
    simp only [Ctx.frz, Ctx.ren, hi'] at hb'
    have := hM.inj i i' b (by rw [hmi]; rfl) (by rw [hmi']; rfl) hb hb'
    subst this
    have h1 := (okRen_spec hok i j (pinv_mem hi)).1
    have h2 := (okRen_spec hok i j' (pinv_mem hi')).1
    rw [h1] at h2
    exact Option.some.inj h2
  · rcases hb with h1 | ⟨id, h1, h2⟩
    · exact hM.imm b h1
    · exact hM.blk_lt ⟨id, hzi id h1, h2⟩
  · simp only [Ctx.frz, Ctx.ren]
    split
    · rename_i i hi
      have := (okRen_spec hok i id (pinv_mem hi)).2.2
      omega
    · rfl
  · rcases hb with h1 | ⟨id, h1, h2⟩
    · exact hp.step.imm' b h1
    · exact .inr (hp.own b ⟨id, hzi id h1, h2⟩)
  · obtain ⟨cs, hcs⟩ := Option.isSome_iff_exists.1 hmj
    obtain ⟨i, _, hi, _, hmi, _⟩ := frzM_get he.m j cs hcs
    have := keep_ren (hE ▸ he.keep) hi hj
    subst this
    obtain ⟨h1, h2⟩ := hp.keep i hj (by rw [hmi]; rfl)
    exact ⟨h1, by simp only [Ctx.frz, Ctx.ren, hi]; exact h2⟩

/-! ### Nil under a number -/

theorem conc_bind {E : Env} {k : Nat} {t : Fr} {m : Mem} {n : Nat} {a : Act} {w : World} (hE : E.n ≤ n) (h : Conc E k ⟨t, m, n⟩ a w) :
    ∃ c : Ctx, c.φ n = .none ∧ CR c k ⟨t, mset m n [], n + 1⟩ a w ∧ Prov E c (mset m n []) w := by
  obtain ⟨c, hc, hp⟩ := h
  have hn := hc.free n (Nat.le_refl _)
  have hext : ∀ id, c.φ id ≠ .free → (c.bind n .none).φ id = c.φ id := fun id hid => Ctx.bind_ne fun e => hid (by rw [e]; exact hn)
  have hl : Later c (c.bind n .none) w w := ⟨fun _ h => h, fun _ _ => rfl, hext, fun _ _ h => h⟩
  have hown : ∀ b, Own (c.bind n .none) (mset m n []) b → Own c m b := by
    rintro b ⟨id, hid, hb⟩
    by_cases e : id = n
    · subst e; rw [Ctx.bind_eq] at hb; cases hb
    · rw [Ctx.bind_ne e] at hb
      rw [mget_mset, if_neg (Ne.symm e)] at hid
      exact ⟨id, hid, hb⟩
  refine ⟨c.bind n .none, Ctx.bind_eq, ⟨hc.defers, hc.size, fun i => rel_mono hl _ _ (hc.fr i), ⟨fun id cells hid => ?_, fun id id' b hid hid' hb hb' => ?_, hc.mr.imm⟩, fun id hid => ?_⟩,
    ⟨⟨hp.step.os, hp.step.tape, hp.step.output, hp.step.size, hp.step.keep, hp.step.rows, hp.step.imm, hp.step.imm'⟩, fun b hb => hp.own b (hown b hb), fun id hid hm => ?_⟩⟩
  · rw [mget_mset] at hid
    split at hid
    · rename_i e; subst e; cases hid; exact .inl ⟨Ctx.bind_eq, rfl⟩
    · exact (hc.mr.own id cells hid).later hl fun b hb => ⟨rfl, fun hi => hc.mr.sep hi ⟨id, by show (mget m id).isSome; rw [hid]; rfl, hb⟩⟩
  · have key : ∀ id, (mget (mset m n []) id).isSome → (c.bind n .none).φ id = .blk b → (mget m id).isSome ∧ c.φ id = .blk b := fun id h1 h2 => by
      by_cases e : id = n
      · subst e; rw [Ctx.bind_eq] at h2; cases h2
      · rw [Ctx.bind_ne e] at h2
        rw [mget_mset, if_neg (Ne.symm e)] at h1
        exact ⟨h1, h2⟩
    obtain ⟨h1, h2⟩ := key id hid hb
    obtain ⟨h3, h4⟩ := key id' hid' hb'
    exact hc.mr.inj id id' b h1 h3 h2 h4
  · have hid' : n + 1 ≤ id := hid
    rw [Ctx.bind_ne (by omega)]
    exact hc.free id (by show n ≤ id; omega)
  · have hne : id ≠ n := by omega
    rw [mget_mset, if_neg (Ne.symm hne)] at hm
    rw [Ctx.bind_ne hne]
    exact hp.keep id hid hm

/-- A slot's nil slice under a number of its own. -/
theorem Leads.nil {n0 k : Nat} {t : Fr} {m : Mem} {n : Nat} (i esz : Nat) (hn : decide (n0 ≤ n) = true) (hi : fget t i = .d .nsl) : Leads n0 k ⟨t, m, n⟩ ⟨(i, .sl n esz 0 0) :: t, mset m n [], n + 1⟩ := by
  intro E hE a w hcc
  obtain ⟨c, hφ, hc, hp⟩ := conc_bind (hE ▸ of_decide_eq_true hn) hcc
  refine ⟨c, ⟨hc.defers, hc.size, fun j => ?_, hc.mr, hc.free⟩, hp⟩
  simp only [fget]
  split
  · rename_i e
    subst e
    have h1 := hc.fr i
    simp only [hi, Rel, RelD] at h1
    simp only [Rel]
    exact .inl ⟨hφ, trivial, trivial, h1⟩
  · exact hc.fr j

/-- A cell's nil slice under a number of its own. -/
theorem Leads.nilCell {n0 k : Nat} {t : Fr} {m : Mem} {n : Nat} (id j esz : Nat) {cs : List AV} (hn : decide (n0 ≤ n) = true) (hid : mget m id = some cs) (hj : cs[j]? = some (.d .nsl)) (hne : decide (id < n) = true) :
    Leads n0 k ⟨t, m, n⟩ ⟨t, mset (mset m n []) id (cs.set j (.sl n esz 0 0)), n + 1⟩ := by
  intro E hE a w hcc
  have hne := of_decide_eq_true hne
  have hEn : E.n ≤ n := hE ▸ of_decide_eq_true hn
  obtain ⟨c, hφ, hc, hp⟩ := conc_bind hEn hcc
  have hid' : mget (mset m n []) id = some cs := by rw [mget_mset, if_neg (by omega)]; exact hid
  have hown : ∀ b, Own c (mset (mset m n []) id (cs.set j (.sl n esz 0 0))) b → Own c (mset m n []) b := fun b h => own_put hid' h
  have hsome : ∀ i, (mget (mset (mset m n []) id (cs.set j (.sl n esz 0 0))) i).isSome → (mget (mset m n []) i).isSome := fun i h => by
    rw [mget_mset] at h
    split at h
    · rename_i e; subst e; rw [hid']; rfl
    · exact h
  refine ⟨c, ⟨hc.defers, hc.size, hc.fr, ⟨fun i cells hi => ?_, fun i i' b h1 h2 => hc.mr.inj i i' b (hsome i h1) (hsome i' h2), hc.mr.imm⟩, hc.free⟩, ⟨hp.step, fun b hb => hp.own b (hown b hb), fun i hi hm => hp.keep i hi (hsome i hm)⟩⟩
  rw [mget_mset] at hi
  split at hi
  · rename_i e
    subst e
    cases hi
    rcases hc.mr.own id cs hid' with ⟨h0, rfl⟩ | ⟨b, arr, T, f, hb, hni, hw, hf, vs, rest, ha, hr⟩
    · simp at hj
    · refine .inr ⟨b, arr, T, f, hb, hni, hw, hf, vs, rest, ha, ?_⟩
      obtain ⟨v, hv, hrel⟩ := hr.get hj
      have h2 := hr.set j (x := .sl n esz 0 0) (v := v) (by
        simp only [Rel, RelD] at hrel ⊢
        exact .inl ⟨hφ, trivial, trivial, hrel⟩)
      have h3 : vs.set j v = vs := by
        apply List.ext_getElem?
        intro q
        rw [List.getElem?_set]
        split
        · rename_i e; subst e
          split
          · exact hv.symm
          · rename_i h; rw [List.getElem?_eq_none (by omega)]
        · rfl
      rw [h3] at h2
      exact h2
  · exact hc.mr.own i cells hi

/-- The end of an own block's cells is let go. -/
theorem Leads.cut {n0 k : Nat} {t : Fr} {m : Mem} {n : Nat} (id q : Nat) {cs : List AV} (hid : mget m id = some cs) : Leads n0 k ⟨t, m, n⟩ ⟨t, mset m id (cs.take q), n⟩ := by
  rintro E hE a w ⟨c, hc, hp⟩
  have hsome : ∀ i, (mget (mset m id (cs.take q)) i).isSome → (mget m i).isSome := fun i h => by
    rw [mget_mset] at h
    split at h
    · rename_i e; subst e; rw [hid]; rfl
    · exact h
  refine ⟨c, ⟨hc.defers, hc.size, hc.fr, ⟨fun i cells hi => ?_, fun i i' b h1 h2 => hc.mr.inj i i' b (hsome i h1) (hsome i' h2), hc.mr.imm⟩, hc.free⟩, ⟨hp.step, fun b hb => hp.own b (own_put hid hb), fun i hi hm => hp.keep i hi (hsome i hm)⟩⟩
  rw [mget_mset] at hi
  split at hi
  · rename_i e
    subst e
    cases hi
    rcases hc.mr.own id cs hid with ⟨h0, rfl⟩ | ⟨b, arr, T, f, hb, hni, hw, hf, vs, rest, ha, hr⟩
    · exact .inl ⟨h0, by simp⟩
    · refine .inr ⟨b, arr, T, f, hb, hni, hw, hf, vs.take q, vs.drop q ++ rest, by rw [ha, ← List.append_assoc, List.take_append_drop], hr.take q⟩
  · exact hc.mr.own i cells hi

end Go.Jq
