/- The abstract layer: own blocks told as data; calls; slices that encode lists. -/
import Derived.Test.YtpfbljkfbjjlkaaDoorXE
/-! The abstract layer, part 21: from a state to another one that says less: own blocks that nobody writes any more; nil slices under a number; a slice's end cut off. -/
namespace Go.Jq
open Go

abbrev Zs := List (Nat × List DV)

def zget : Zs → Nat → Option (List DV)
  | [], _ => none
  | (i, ds) :: r, k => if i = k then some ds else zget r k

mutual
/-- Numbers renamed (π), or their blocks' cells told as data (Z). -/
def AV.cv (π : Nat → Option Nat) (Z : Nat → Option (List DV)) : AV → AV
  | .d x => .d x
  | .ptr id off => match Z id with
    | some ds => .dptr (ds.drop off)
    | none => match π id with
      | some j => .ptr j off
      | none => .any
  | .npt id T => match π id with
    | some j => .npt j T
    | none => .any
  | .slT id T len => match π id with
    | some j => .slT j T len
    | none => .any
  | .dptr cs => .dptr cs
  | .sl id esz off len => match Z id with
    | some ds => .d (.sl len ((ds.drop off).take (len * esz)))
    | none => match π id with
      | some j => .sl j esz off len
      | none => .any
  | .fn f caps => .fn f (cvL π Z caps)
  | .agg cs => .agg (cvL π Z cs)
  | .tup vs => .tup (cvL π Z vs)
  | .any => .any
def cvL (π : Nat → Option Nat) (Z : Nat → Option (List DV)) : List AV → List AV
  | [] => []
  | x :: xs => x.cv π Z :: cvL π Z xs
end

theorem cvL_get {π : Nat → Option Nat} {Z : Nat → Option (List DV)} : ∀ (l : List AV) (i : Nat), (cvL π Z l)[i]? = l[i]?.map (AV.cv π Z)
  | [], i => by simp [cvL]
  | x :: l, 0 => by simp [cvL]
  | x :: l, i + 1 => by simp only [cvL, List.getElem?_cons_succ]; exact cvL_get l i

@[go_sem] theorem cvL_d (π : Nat → Option Nat) (Z : Nat → Option (List DV)) (l : List DV) : cvL π Z (l.map .d) = l.map .d := by
  induction l with
  | nil => rfl
  | cons x l ih => simp only [List.map_cons, cvL, AV.cv, ih]

@[go_sem] theorem cvL_append (π : Nat → Option Nat) (Z : Nat → Option (List DV)) (l l' : List AV) : cvL π Z (l ++ l') = cvL π Z l ++ cvL π Z l' := by
  induction l with
  | nil => rfl
  | cons x l ih => simp only [List.cons_append, cvL, ih]

def zokFrom (m : Mem) (Z0 : Zs) : Zs → Prop
  | [] => True
  | (id, ds) :: r => (match mget m id with
    | some cs => cvL (fun _ => none) (zget Z0) cs = ds.map .d
    | none => False) ∧ zokFrom m Z0 r

theorem zok_get {m : Mem} {Z0 : Zs} : ∀ {Z : Zs}, zokFrom m Z0 Z → ∀ id ds, zget Z id = some ds → ∃ cs, mget m id = some cs ∧ cvL (fun _ => none) (zget Z0) cs = ds.map .d
  | [], _, id, ds, h => by simp [zget] at h
  | (i, x) :: r, h, id, ds, hz => by
    simp only [zokFrom] at h
    simp only [zget] at hz
    split at hz
    · rename_i e
      subst e
      cases hz
      obtain ⟨h, _⟩ := h
      split at h
      · rename_i cs hcs; exact ⟨cs, hcs, h⟩
      · exact h.elim
    · exact zok_get h.2 id ds hz

/-- The context behind it: the blocks told as data are data's. -/
def Ctx.frz (c : Ctx) (π : Ren) (Z : Zs) : Ctx :=
  { φ := (c.ren π).φ, imm := fun b => c.imm b ∨ ∃ id, (zget Z id).isSome ∧ c.φ id = .blk b }

section
variable {c : Ctx} {m : Mem} {w : World} {Z : Zs} {π : Ren}

mutual
theorem relD_cv (hM : MR c m w) (hz : zokFrom m Z Z) : ∀ (d : DV) (x : AV) (v : Value), x.cv (fun _ => none) (zget Z) = .d d → Rel c w x v → RelD (c.frz π Z).imm w d v
  | .sl n cells, x, v, hx, hr => by
    cases x with
    | d y =>
      simp only [AV.cv, AV.d.injEq] at hx
      subst hx
      simp only [Rel] at hr
      exact relD_mono (fun b hb => .inl hb) (fun _ _ => rfl) _ _ hr
    | sl id esz off len =>
      simp only [AV.cv] at hx
      split at hx
      · rename_i ds hds
        simp only [AV.d.injEq, DV.sl.injEq] at hx
        obtain ⟨rfl, hcells⟩ := hx
        obtain ⟨cs, hcs, hcv⟩ := zok_get hz id ds hds
        simp only [Rel] at hr
        simp only [RelD]
        rcases hr with ⟨h0, rfl, rfl, hv⟩ | ⟨b, cap, n, hb, hv, hle, _⟩
        · exact ⟨none, 0, hv, Nat.le_refl _, .inl ⟨rfl, by rw [← hcells]; simp⟩⟩
        · refine ⟨_, cap, hv, hle, .inr ⟨b, off, rfl, .inr ⟨id, by rw [hds]; rfl, hb⟩, ?_⟩⟩
          refine relDs_cv hM hz cells b off id cs hb hcs fun i d hi => ?_
          rw [← hcells, List.getElem?_take] at hi
          split at hi
          · rw [List.getElem?_drop] at hi
            have h1 : (cvL (fun _ => none) (zget Z) cs)[off + i]? = some (.d d) := by rw [hcv, List.getElem?_map, hi]; rfl
            rw [cvL_get, Option.map_eq_some_iff] at h1
            exact h1
          · simp at hi
      · cases hx
    | ptr id off => simp only [AV.cv] at hx; split at hx <;> cases hx
    | npt id T => simp only [AV.cv] at hx; cases hx
    | slT id T len => simp only [AV.cv] at hx; cases hx
    | dptr _ => simp [AV.cv] at hx
    | fn _ _ => simp [AV.cv] at hx
    | agg _ => simp [AV.cv] at hx
    | tup _ => simp [AV.cv] at hx
    | any => simp [AV.cv] at hx
  | .int a b, x, v, hx, hr => relD_cv1 hx hr (fun _ _ h => nomatch h)
  | .bool b, x, v, hx, hr => relD_cv1 hx hr (fun _ _ h => nomatch h)
  | .str s, x, v, hx, hr => relD_cv1 hx hr (fun _ _ h => nomatch h)
  | .nsl, x, v, hx, hr => relD_cv1 hx hr (fun _ _ h => nomatch h)
  | .nptr, x, v, hx, hr => relD_cv1 hx hr (fun _ _ h => nomatch h)
  | .nfn, x, v, hx, hr => relD_cv1 hx hr (fun _ _ h => nomatch h)
  | .nif, x, v, hx, hr => relD_cv1 hx hr (fun _ _ h => nomatch h)
theorem relDs_cv (hM : MR c m w) (hz : zokFrom m Z Z) : ∀ (ds : List DV) (b o id : Nat) (cs : List AV), c.φ id = .blk b → mget m id = some cs →
    (∀ i d, ds[i]? = some d → ∃ x, cs[o + i]? = some x ∧ x.cv (fun _ => none) (zget Z) = .d d) → RelDs (c.frz π Z).imm w ds b o
  | [], _, _, _, _, _, _, _ => by simp [RelDs]
  | d :: ds, b, o, id, cs, hb, hcs, h => by
    simp only [RelDs]
    obtain ⟨x, hx, hcv⟩ := h 0 d rfl
    refine ⟨?_, relDs_cv hM hz ds b (o + 1) id cs hb hcs fun i d' hi => ?_⟩
    · obtain ⟨u, hu, hr⟩ := cellsAt_own hM hcs hb o 0 x (by rw [List.getElem?_drop]; exact hx)
      exact ⟨u, hu, relD_cv hM hz d x u hcv hr⟩
    · obtain ⟨y, hy, hcy⟩ := h (i + 1) d' (by simpa using hi)
      exact ⟨y, by rw [← hy]; congr 1; omega, hcy⟩
theorem relD_cv1 {d : DV} {x : AV} {v : Value} (hx : x.cv (fun _ => none) (zget Z) = .d d) (hr : Rel c w x v) (hd : ∀ n cs, d ≠ .sl n cs) : RelD (c.frz π Z).imm w d v := by
  cases x with
  | d y =>
    simp only [AV.cv, AV.d.injEq] at hx
    subst hx
    simp only [Rel] at hr
    exact relD_mono (fun b hb => .inl hb) (fun _ _ => rfl) _ _ hr
  | sl id esz off len =>
    simp only [AV.cv] at hx
    split at hx
    · simp only [AV.d.injEq] at hx
      exact absurd hx.symm (hd _ _)
    · cases hx
  | ptr id off => simp only [AV.cv] at hx; split at hx <;> cases hx
  | npt id T => simp only [AV.cv] at hx; cases hx
  | slT id T len => simp only [AV.cv] at hx; cases hx
  | dptr _ => simp [AV.cv] at hx
  | fn _ _ => simp [AV.cv] at hx
  | agg _ => simp [AV.cv] at hx
  | tup _ => simp [AV.cv] at hx
  | any => simp [AV.cv] at hx
end

theorem relDs_all (hM : MR c m w) (hz : zokFrom m Z Z) {id b : Nat} {ds : List DV} (hds : zget Z id = some ds) (hb : c.φ id = .blk b) (o : Nat) : RelDs (c.frz π Z).imm w (ds.drop o) b o := by
  obtain ⟨cs, hcs, hcv⟩ := zok_get hz id ds hds
  refine relDs_cv hM hz _ b o id cs hb hcs fun i d hi => ?_
  rw [List.getElem?_drop] at hi
  have h1 : (cvL (fun _ => none) (zget Z) cs)[o + i]? = some (.d d) := by rw [hcv, List.getElem?_map, hi]; rfl
  rw [cvL_get, Option.map_eq_some_iff] at h1
  exact h1

mutual
theorem rel_cv {nb : Nat} (hok : okRen nb π = true) (hM : MR c m w) (hz : zokFrom m Z Z) : ∀ (x : AV) (v : Value), Rel c w x v → Rel (c.frz π Z) w (x.cv (pget π) (zget Z)) v
  | .d x, v, h => by simp only [AV.cv, Rel] at h ⊢; exact relD_mono (fun b hb => .inl hb) (fun _ _ => rfl) x v h
  | .ptr id off, v, h => by
    simp only [AV.cv, Rel] at h ⊢
    obtain ⟨b, hb, hv⟩ := h
    split
    · rename_i ds hds
      simp only [Rel]
      exact ⟨b, off, .inr ⟨id, by rw [hds]; rfl, hb⟩, hv, relDs_all hM hz hds hb off⟩
    · split
      · rename_i j hj
        simp only [Rel]
        exact ⟨b, by rw [← hb]; exact ren_φ hok hj, hv⟩
      · simp [Rel]
  | .slT id T len, v, h => by
    simp only [AV.cv, Rel] at h ⊢
    split
    · rename_i j hj
      simp only [Rel]
      rcases h with ⟨h0, h⟩ | ⟨b, cap, n, hb, h⟩
      · exact .inl ⟨by rw [← h0]; exact ren_φ hok hj, h⟩
      · exact .inr ⟨b, cap, n, by rw [← hb]; exact ren_φ hok hj, h⟩
    · simp [Rel]
  | .npt id T, v, h => by
    simp only [AV.cv, Rel] at h ⊢
    obtain ⟨hv, b, hb, hs⟩ := h
    split
    · rename_i j hj
      simp only [Rel]
      exact ⟨hv, b, by rw [← hb]; exact ren_φ hok hj, hs⟩
    · simp [Rel]
  | .dptr cs, v, h => by
    simp only [AV.cv, Rel] at h ⊢
    obtain ⟨b, o, hb, hv, hc⟩ := h
    exact ⟨b, o, .inl hb, hv, relDs_mono (fun b hb => .inl hb) (fun _ _ => rfl) cs b o hb hc⟩
  | .sl id esz off len, v, h => by
    have h0 := h
    simp only [AV.cv, Rel] at h ⊢
    split
    · rename_i ds hds
      simp only [Rel]
      refine relD_cv hM hz _ (.sl id esz off len) v ?_ h0
      simp only [AV.cv, hds]
    · split
      · rename_i j hj
        simp only [Rel]
        rcases h with ⟨h0, h⟩ | ⟨b, cap, n, hb, h⟩
        · exact .inl ⟨by rw [← h0]; exact ren_φ hok hj, h⟩
        · exact .inr ⟨b, cap, n, by rw [← hb]; exact ren_φ hok hj, h⟩
      · simp [Rel]
  | .fn f caps, v, h => by
    simp only [AV.cv, Rel] at h ⊢
    obtain ⟨vs, hv, hl⟩ := h
    exact ⟨vs, hv, relL_cv hok hM hz caps vs hl⟩
  | .agg cs, v, h => by
    simp only [AV.cv, Rel] at h ⊢
    obtain ⟨vs, hv, hl⟩ := h
    exact ⟨vs, hv, relL_cv hok hM hz cs vs hl⟩
  | .tup cs, v, h => by
    simp only [AV.cv, Rel] at h ⊢
    obtain ⟨vs, hv, hl⟩ := h
    exact ⟨vs, hv, relL_cv hok hM hz cs vs hl⟩
  | .any, _, _ => by simp [AV.cv, Rel]
theorem relL_cv {nb : Nat} (hok : okRen nb π = true) (hM : MR c m w) (hz : zokFrom m Z Z) : ∀ (xs : List AV) (vs : List Value), RelL c w xs vs → RelL (c.frz π Z) w (cvL (pget π) (zget Z) xs) vs
  | [], _, h => by simpa [cvL, RelL] using h
  | x :: xs, vs, h => by
    simp only [cvL, RelL] at h ⊢
    obtain ⟨v, vs', hv, hx, hl⟩ := h
    exact ⟨v, vs', hv, rel_cv hok hM hz x v hx, relL_cv hok hM hz xs vs' hl⟩
end

end

/-! ### The states -/

def frzT (π : Ren) (Z : Zs) (t : Fr) : Fr → Prop
  | [] => True
  | (i, x) :: r => (fget t i).cv (pget π) (zget Z) = x ∧ frzT π Z t r

def frzM (π : Ren) (Z : Zs) (m : Mem) : Mem → Prop
  | [] => True
  | (j, cs) :: r => (match pinv π j with
    | some i => zget Z i = none ∧ (match mget m i with
      | some cs' => cvL (pget π) (zget Z) cs' = cs
      | none => False)
    | none => False) ∧ frzM π Z m r

structure Frz (n0 : Nat) (π : Ren) (Z : Zs) (S S' : St) : Prop where
  t : frzT π Z S.t S'.t
  m : frzM π Z S.m S'.m
  ok : okRen S'.n π = true
  keep : keepRen n0 π = true
  z : zokFrom S.m Z Z

theorem frzT_get {π : Ren} {Z : Zs} {t : Fr} : ∀ {t' : Fr}, frzT π Z t t' → ∀ i, fget t' i = .any ∨ (fget t i).cv (pget π) (zget Z) = fget t' i
  | [], _, i => .inl rfl
  | (k, x) :: r, h, i => by
    simp only [frzT] at h
    simp only [fget]
    split
    · rename_i e; subst e; exact .inr h.1
    · exact frzT_get h.2 i

theorem frzM_get {π : Ren} {Z : Zs} {m : Mem} : ∀ {m' : Mem}, frzM π Z m m' → ∀ j cs, mget m' j = some cs → ∃ i cs', pinv π j = some i ∧ zget Z i = none ∧ mget m i = some cs' ∧ cvL (pget π) (zget Z) cs' = cs
  | [], _, j, cs, h => by simp [mget] at h
  | (k, x) :: r, h, j, cs, hj => by
    simp only [frzM] at h
    simp only [mget] at hj
    split at hj
    · rename_i e
      subst e
      cases hj
      obtain ⟨h, _⟩ := h
      split at h
      · rename_i i hi
        obtain ⟨hz, h⟩ := h
        split at h
        · rename_i cs' hcs'
          exact ⟨i, cs', hi, hz, hcs', h⟩
        · exact h.elim
      · exact h.elim
    · exact frzM_get h.2 j cs hj

theorem Leads.frz {n0 k : Nat} {S S' : St} (π : Ren) (Z : Zs) (he : Frz n0 π Z S S') : Leads n0 k S S' := by
  rintro E hE a w ⟨c, hc, hp⟩
  have hok := he.ok
  have hM := hc.mr
  have hzi : ∀ id, (zget Z id).isSome → (mget S.m id).isSome := fun id h => by
    obtain ⟨ds, hds⟩ := Option.isSome_iff_exists.1 h
    obtain ⟨cs, hcs, _⟩ := zok_get he.z id ds hds
    rw [hcs]; rfl
  have hown : ∀ b, Own (c.frz π Z) S'.m b → Own c S.m b := by
    rintro b ⟨j, hj, hb⟩
    obtain ⟨cs, hcs⟩ := Option.isSome_iff_exists.1 hj
    obtain ⟨i, _, hi, _, hmi, _⟩ := frzM_get he.m j cs hcs
    simp only [Ctx.frz, Ctx.ren, hi] at hb
    exact ⟨i, by rw [hmi]; rfl, hb⟩
  refine ⟨c.frz π Z, ⟨hc.defers, hc.size, fun i => ?_, ⟨fun j cs hj => ?_, fun j j' b hj hj' hb hb' => ?_, fun b hb => ?_, hM.tabTo (fun _ h => .inl h) fun _ _ => rfl⟩, fun id hid => ?_⟩, ⟨⟨hp.step.os, hp.step.tape, hp.step.output, hp.step.size, hp.step.keep, hp.step.rows, fun b hb => .inl (hp.step.imm b hb), fun b hb => ?_⟩, fun b hb => hp.own b (hown b hb), fun j hj hmj => ?_⟩⟩
  · rcases frzT_get he.t i with h | h
    · rw [h]; simp [Rel]
    · rw [← h]; exact rel_cv hok hM he.z _ _ (hc.fr i)
  · obtain ⟨i, cs', hi, hzn, hcs, rfl⟩ := frzM_get he.m j cs hj
    have hφ : (c.frz π Z).φ j = c.φ i := by simp only [Ctx.frz, Ctx.ren, hi]
    rcases hM.own i cs' hcs with ⟨h0, rfl⟩ | ⟨b, arr, T, f, hb, hni, hw, hf, vs, rest, ha, hr⟩
    · exact .inl ⟨hφ.trans h0, rfl⟩
    · refine .inr ⟨b, arr, T, f, hφ.trans hb, ?_, hw, hf, vs, rest, ha, relL_cv hok hM he.z _ _ hr⟩
      rintro (h1 | ⟨id, h1, h2⟩)
      · exact hni h1
      · have := hM.inj id i b (hzi id h1) (by rw [hcs]; rfl) h2 hb
        subst this
        rw [hzn] at h1
        cases h1
  · obtain ⟨cs, hcs⟩ := Option.isSome_iff_exists.1 hj
    obtain ⟨cs', hcs'⟩ := Option.isSome_iff_exists.1 hj'
    obtain ⟨i, _, hi, _, hmi, _⟩ := frzM_get he.m j cs hcs
    obtain ⟨i', _, hi', _, hmi', _⟩ := frzM_get he.m j' cs' hcs'
    simp only [Ctx.frz, Ctx.ren, hi] at hb
    simp only [Ctx.frz, Ctx.ren, hi'] at hb'
    have := hM.inj i i' b (by rw [hmi]; rfl) (by rw [hmi']; rfl) hb hb'
    subst this
    have h1 := (okRen_spec hok i j (pinv_mem hi)).1
    have h2 := (okRen_spec hok i j' (pinv_mem hi')).1
    rw [h1] at h2
    exact Option.some.inj h2
  · rcases hb with h1 | ⟨id, h1, h2⟩
    · exact hM.imm b h1
    · exact hM.blk_lt ⟨id, hzi id h1, h2⟩
  · simp only [Ctx.frz, Ctx.ren]
    split
    · rename_i i hi
      have := (okRen_spec hok i id (pinv_mem hi)).2.2
      omega
    · rfl
  · rcases hb with h1 | ⟨id, h1, h2⟩
    · exact hp.step.imm' b h1
    · exact .inr (hp.own b ⟨id, hzi id h1, h2⟩)
  · obtain ⟨cs, hcs⟩ := Option.isSome_iff_exists.1 hmj
    obtain ⟨i, _, hi, _, hmi, _⟩ := frzM_get he.m j cs hcs
    have := keep_ren (hE ▸ he.keep) hi hj
    subst this
    obtain ⟨h1, h2⟩ := hp.keep i hj (by rw [hmi]; rfl)
    exact ⟨h1, by simp only [Ctx.frz, Ctx.ren, hi]; exact h2⟩

/-! ### Nil under a number -/

theorem conc_bind {E : Env} {k : Nat} {t : Fr} {m : Mem} {n : Nat} {a : Act} {w : World} (hE : E.n ≤ n) (h : Conc E k ⟨t, m, n⟩ a w) :
    ∃ c : Ctx, c.φ n = .none ∧ CR c k ⟨t, mset m n [], n + 1⟩ a w ∧ Prov E c (mset m n []) w := by
  obtain ⟨c, hc, hp⟩ := h
  have hn := hc.free n (Nat.le_refl _)
  have hext : ∀ id, c.φ id ≠ .free → (c.bind n .none).φ id = c.φ id := fun id hid => Ctx.bind_ne fun e => hid (by rw [e]; exact hn)
  have hl : Later c (c.bind n .none) w w := ⟨fun _ h => h, fun _ _ => rfl, hext, fun _ _ h => h⟩
  have hown : ∀ b, Own (c.bind n .none) (mset m n []) b → Own c m b := by
    rintro b ⟨id, hid, hb⟩
    by_cases e : id = n
    · subst e; rw [Ctx.bind_eq] at hb; cases hb
    · rw [Ctx.bind_ne e] at hb
      rw [mget_mset, if_neg (Ne.symm e)] at hid
      exact ⟨id, hid, hb⟩
  refine ⟨c.bind n .none, Ctx.bind_eq, ⟨hc.defers, hc.size, fun i => rel_mono hl _ _ (hc.fr i), ⟨fun id cells hid => ?_, fun id id' b hid hid' hb hb' => ?_, hc.mr.imm, hc.mr.tab⟩, fun id hid => ?_⟩,
    ⟨⟨hp.step.os, hp.step.tape, hp.step.output, hp.step.size, hp.step.keep, hp.step.rows, hp.step.imm, hp.step.imm'⟩, fun b hb => hp.own b (hown b hb), fun id hid hm => ?_⟩⟩
  · rw [mget_mset] at hid
    split at hid
    · rename_i e; subst e; cases hid; exact .inl ⟨Ctx.bind_eq, rfl⟩
    · exact (hc.mr.own id cells hid).later hl fun b hb => ⟨rfl, fun hi => hc.mr.sep hi ⟨id, by show (mget m id).isSome; rw [hid]; rfl, hb⟩⟩
  · have key : ∀ id, (mget (mset m n []) id).isSome → (c.bind n .none).φ id = .blk b → (mget m id).isSome ∧ c.φ id = .blk b := fun id h1 h2 => by
      by_cases e : id = n
      · subst e; rw [Ctx.bind_eq] at h2; cases h2
      · rw [Ctx.bind_ne e] at h2
        rw [mget_mset, if_neg (Ne.symm e)] at h1
        exact ⟨h1, h2⟩
    obtain ⟨h1, h2⟩ := key id hid hb
    obtain ⟨h3, h4⟩ := key id' hid' hb'
    exact hc.mr.inj id id' b h1 h3 h2 h4
  · have hid' : n + 1 ≤ id := hid
    rw [Ctx.bind_ne (by omega)]
    exact hc.free id (by show n ≤ id; omega)
  · have hne : id ≠ n := by omega
    rw [mget_mset, if_neg (Ne.symm hne)] at hm
    rw [Ctx.bind_ne hne]
    exact hp.keep id hid hm

/-- A slot's nil slice under a number of its own. -/
theorem Leads.nil {n0 k : Nat} {t : Fr} {m : Mem} {n : Nat} (i esz : Nat) (hn : decide (n0 ≤ n) = true) (hi : fget t i = .d .nsl) : Leads n0 k ⟨t, m, n⟩ ⟨(i, .sl n esz 0 0) :: t, mset m n [], n + 1⟩ := by
  intro E hE a w hcc
  obtain ⟨c, hφ, hc, hp⟩ := conc_bind (hE ▸ of_decide_eq_true hn) hcc
  refine ⟨c, ⟨hc.defers, hc.size, fun j => ?_, hc.mr, hc.free⟩, hp⟩
  simp only [fget]
  split
  · rename_i e
    subst e
    have h1 := hc.fr i
    simp only [hi, Rel, RelD] at h1
    simp only [Rel]
    exact .inl ⟨hφ, trivial, trivial, h1⟩
  · exact hc.fr j

/-- A cell's nil slice under a number of its own. -/
theorem Leads.nilCell {n0 k : Nat} {t : Fr} {m : Mem} {n : Nat} (id j esz : Nat) {cs : List AV} (hn : decide (n0 ≤ n) = true) (hid : mget m id = some cs) (hj : cs[j]? = some (.d .nsl)) (hne : decide (id < n) = true) :
    Leads n0 k ⟨t, m, n⟩ ⟨t, mset (mset m n []) id (cs.set j (.sl n esz 0 0)), n + 1⟩ := by
  intro E hE a w hcc
  have hne := of_decide_eq_true hne
  have hEn : E.n ≤ n := hE ▸ of_decide_eq_true hn
  obtain ⟨c, hφ, hc, hp⟩ := conc_bind hEn hcc
  have hid' : mget (mset m n []) id = some cs := by rw [mget_mset, if_neg (by omega)]; exact hid
  have hown : ∀ b, Own c (mset (mset m n []) id (cs.set j (.sl n esz 0 0))) b → Own c (mset m n []) b := fun b h => own_put hid' h
  have hsome : ∀ i, (mget (mset (mset m n []) id (cs.set j (.sl n esz 0 0))) i).isSome → (mget (mset m n []) i).isSome := fun i h => by
    rw [mget_mset] at h
    split at h
    · rename_i e; subst e; rw [hid']; rfl
    · exact h
  refine ⟨c, ⟨hc.defers, hc.size, hc.fr, ⟨fun i cells hi => ?_, fun i i' b h1 h2 => hc.mr.inj i i' b (hsome i h1) (hsome i' h2), hc.mr.imm, hc.mr.tab⟩, hc.free⟩, ⟨hp.step, fun b hb => hp.own b (hown b hb), fun i hi hm => hp.keep i hi (hsome i hm)⟩⟩
  rw [mget_mset] at hi
  split at hi
  · rename_i e
    subst e
    cases hi
    rcases hc.mr.own id cs hid' with ⟨h0, rfl⟩ | ⟨b, arr, T, f, hb, hni, hw, hf, vs, rest, ha, hr⟩
    · simp at hj
    · refine .inr ⟨b, arr, T, f, hb, hni, hw, hf, vs, rest, ha, ?_⟩
      obtain ⟨v, hv, hrel⟩ := hr.get hj
      have h2 := hr.set j (x := .sl n esz 0 0) (v := v) (by
        simp only [Rel, RelD] at hrel ⊢
        exact .inl ⟨hφ, trivial, trivial, hrel⟩)
      have h3 : vs.set j v = vs := by
        apply List.ext_getElem?
        intro q
        rw [List.getElem?_set]
        split
        · rename_i e; subst e
          split
          · exact hv.symm
          · rename_i h; rw [List.getElem?_eq_none (by omega)]
        · rfl
      rw [h3] at h2
      exact h2
  · exact hc.mr.own i cells hi

/-- The same, of a slice whose cells' type is known. -/
theorem Leads.nilCellT {n0 k : Nat} {t : Fr} {m : Mem} {n : Nat} (id j T : Nat) {cs : List AV} (hn : decide (n0 ≤ n) = true) (hid : mget m id = some cs) (hj : cs[j]? = some (.d .nsl)) (hne : decide (id < n) = true) :
    Leads n0 k ⟨t, m, n⟩ ⟨t, mset (mset m n []) id (cs.set j (.slT n T 0)), n + 1⟩ := by
  intro E hE a w hcc
  have hne := of_decide_eq_true hne
  have hEn : E.n ≤ n := hE ▸ of_decide_eq_true hn
  obtain ⟨c, hφ, hc, hp⟩ := conc_bind hEn hcc
  have hid' : mget (mset m n []) id = some cs := by rw [mget_mset, if_neg (by omega)]; exact hid
  have hown : ∀ b, Own c (mset (mset m n []) id (cs.set j (.slT n T 0))) b → Own c (mset m n []) b := fun b h => own_put hid' h
  have hsome : ∀ i, (mget (mset (mset m n []) id (cs.set j (.slT n T 0))) i).isSome → (mget (mset m n []) i).isSome := fun i h => by
    rw [mget_mset] at h
    split at h
    · rename_i e; subst e; rw [hid']; rfl
    · exact h
  refine ⟨c, ⟨hc.defers, hc.size, hc.fr, ⟨fun i cells hi => ?_, fun i i' b h1 h2 => hc.mr.inj i i' b (hsome i h1) (hsome i' h2), hc.mr.imm, hc.mr.tab⟩, hc.free⟩, ⟨hp.step, fun b hb => hp.own b (hown b hb), fun i hi hm => hp.keep i hi (hsome i hm)⟩⟩
  rw [mget_mset] at hi
  split at hi
  · rename_i e
    subst e
    cases hi
    rcases hc.mr.own id cs hid' with ⟨h0, rfl⟩ | ⟨b, arr, U, f, hb, hni, hw, hf, vs, rest, ha, hr⟩
    · simp at hj
    · refine .inr ⟨b, arr, U, f, hb, hni, hw, hf, vs, rest, ha, ?_⟩
      obtain ⟨v, hv, hrel⟩ := hr.get hj
      have h2 := hr.set j (x := .slT n T 0) (v := v) (by
        simp only [Rel, RelD] at hrel ⊢
        exact .inl ⟨hφ, trivial, hrel⟩)
      have h3 : vs.set j v = vs := by
        apply List.ext_getElem?
        intro q
        rw [List.getElem?_set]
        split
        · rename_i e; subst e
          split
          · exact hv.symm
          · rename_i h; rw [List.getElem?_eq_none (by omega)]
        · rfl
      rw [h3] at h2
      exact h2
  · exact hc.mr.own i cells hi

/-- The end of an own block's cells is let go. -/
theorem Leads.cut {n0 k : Nat} {t : Fr} {m : Mem} {n : Nat} (id q : Nat) {cs : List AV} (hid : mget m id = some cs) : Leads n0 k ⟨t, m, n⟩ ⟨t, mset m id (cs.take q), n⟩ := by
  rintro E hE a w ⟨c, hc, hp⟩
  have hsome : ∀ i, (mget (mset m id (cs.take q)) i).isSome → (mget m i).isSome := fun i h => by
    rw [mget_mset] at h
    split at h
    · rename_i e; subst e; rw [hid]; rfl
    · exact h
  refine ⟨c, ⟨hc.defers, hc.size, hc.fr, ⟨fun i cells hi => ?_, fun i i' b h1 h2 => hc.mr.inj i i' b (hsome i h1) (hsome i' h2), hc.mr.imm, hc.mr.tab⟩, hc.free⟩, ⟨hp.step, fun b hb => hp.own b (own_put hid hb), fun i hi hm => hp.keep i hi (hsome i hm)⟩⟩
  rw [mget_mset] at hi
  split at hi
  · rename_i e
    subst e
    cases hi
    rcases hc.mr.own id cs hid with ⟨h0, rfl⟩ | ⟨b, arr, T, f, hb, hni, hw, hf, vs, rest, ha, hr⟩
    · exact .inl ⟨h0, by simp⟩
    · refine .inr ⟨b, arr, T, f, hb, hni, hw, hf, vs.take q, vs.drop q ++ rest, by rw [ha, ← List.append_assoc, List.take_append_drop], hr.take q⟩
  · exact hc.mr.own i cells hi

end Go.Jq

/-! The abstract layer, part 22: calls at a region's call; the simp rules for regions that draw their order. -/
namespace Go.Jq
open Go

/-- From these values (and no own block) the function comes to just this value, and leaves no own block. -/
def Pure (P : Program) (f : Nat) (args : List AV) (v : AV) : Prop := ACalls P f args [] fun r m' => r = v ∧ m' = []

mutual
theorem ren_noId {π : Nat → Option Nat} : ∀ (x : AV), inB (fun _ => none) x = true → x.ren π = x
  | .d x, _ => rfl
  | .ptr id off, h => by simp [inB] at h
  | .npt id T, h => by simp [inB] at h
  | .slT id T len, h => by simp [inB] at h
  | .dptr cs, _ => rfl
  | .sl id esz off len, h => by simp [inB] at h
  | .fn f caps, h => by simp only [inB] at h; simp only [AV.ren, renL_noId caps h]
  | .agg cs, h => by simp only [inB] at h; simp only [AV.ren, renL_noId cs h]
  | .tup cs, h => by simp only [inB] at h; simp only [AV.ren, renL_noId cs h]
  | .any, _ => rfl
theorem renL_noId {π : Nat → Option Nat} : ∀ (xs : List AV), inL (fun _ => none) xs = true → renL π xs = xs
  | [], _ => rfl
  | x :: xs, h => by
    simp only [inL, Bool.and_eq_true] at h
    simp only [renL, ren_noId x h.1, renL_noId xs h.2]
end

mutual
theorem inB_mono {π π' : Nat → Option Nat} (hp : ∀ i, (π i).isSome → (π' i).isSome) : ∀ (x : AV), inB π x = true → inB π' x = true
  | .d _, _ => rfl
  | .ptr id _, h => hp id h
  | .npt id _, h => hp id h
  | .slT id _ _, h => hp id h
  | .dptr _, _ => rfl
  | .sl id _ _ _, h => hp id h
  | .fn _ caps, h => inL_mono hp caps h
  | .agg cs, h => inL_mono hp cs h
  | .tup cs, h => inL_mono hp cs h
  | .any, _ => rfl
theorem inL_mono {π π' : Nat → Option Nat} (hp : ∀ i, (π i).isSome → (π' i).isSome) : ∀ (xs : List AV), inL π xs = true → inL π' xs = true
  | [], _ => rfl
  | x :: xs, h => by
    simp only [inL, Bool.and_eq_true] at h ⊢
    exact ⟨inB_mono hp x h.1, inL_mono hp xs h.2⟩
end

@[go_sem] theorem inL_append (π : Nat → Option Nat) (l l' : List AV) : inL π (l ++ l') = (inL π l && inL π l') := by
  induction l with
  | nil => rfl
  | cons x l ih => simp only [List.cons_append, inL, ih, Bool.and_assoc]

section
variable {P : Program} {f : Nat} {args : List AV} {v : AV} {dst : Option Nat} {r : List AOper} {K : St → Prop} {t : Fr} {m : Mem} {n : Nat}

/-- Any contract at a call. -/
theorem callK_gen (ρ : Ren) (args0 : List AV) (m0 : Mem) {Q : AV → Mem → Prop} {nb : Nat} (h : ACalls P f args0 m0 Q) (hok : okRen nb ρ = true) (hargs : renL (pget ρ) args0 = args) (hin : inL (pget ρ) args0 = true)
    (hh : handed ρ m m0) (hdom : (ρ.all fun p => (mget m0 p.1).isSome) = true)
    (hk : ∀ r0 m', Q r0 m' → runOps P r ⟨putF t dst (r0.ren (renOf ρ m0 m' n)), callMem ρ m0 m' n m, n + Nat.max (mbound m0) (mbound m')⟩ K) : callK P f args dst r K t m n := by
  subst hargs
  have hdom' : ∀ j id, pget ρ j = some id → (mget m0 j).isSome := fun j id hj => List.all_eq_true.1 hdom _ (pget_mem hj)
  refine ⟨_, callR_gen (n := n) h ρ hok hin hh hdom' (F := (n ≤ ·)) (fun _ _ _ _ h _ => h), ?_⟩
  rintro v m' n' ⟨r0, m1, hQ, rfl, rfl, rfl⟩
  exact hk r0 m1 hQ

theorem callK_pure (h : Pure P f args v) (ha : inL (fun _ => none) args = true) (hv : inB (fun _ => none) v = true) (hk : runOps P r ⟨putF t dst v, m, n⟩ K) : callK P f args dst r K t m n := by
  refine callK_gen [] args [] (nb := 0) h rfl (renL_noId _ ha) (inL_mono (fun _ h => by cases h) _ ha) trivial rfl ?_
  rintro r0 m' ⟨rfl, rfl⟩
  rw [ren_noId _ hv]
  exact hk

/-- Of nothing but data: whatever it comes to. -/
theorem callK_pureQ {Q : AV → Prop} (h : ACalls P f args [] fun r m' => Q r ∧ m' = []) (ha : inL (fun _ => none) args = true) (hv : ∀ v, Q v → inB (fun _ => none) v = true) (hk : ∀ v, Q v → runOps P r ⟨putF t dst v, m, n⟩ K) :
    callK P f args dst r K t m n := by
  refine callK_gen [] args [] (nb := 0) h rfl (renL_noId _ ha) (inL_mono (fun _ h => by cases h) _ ha) trivial rfl ?_
  rintro r0 m' ⟨hq, rfl⟩
  rw [ren_noId _ (hv _ hq)]
  exact hk r0 hq

/-! ### Lending -/

def flatD : DV → Bool
  | .sl _ _ => false
  | _ => true

mutual
def flatV : AV → Bool
  | .d x => flatD x
  | .agg cs => flatVs cs
  | .tup cs => flatVs cs
  | .any => true
  | _ => false
def flatVs : List AV → Bool
  | [] => true
  | x :: xs => flatV x && flatVs xs
end

theorem relD_flat {I I' : Nat → Prop} {w w' : World} {x : DV} {v : Value} (hx : flatD x = true) (h : RelD I w x v) : RelD I' w' x v := by
  cases x with
  | sl n cs => simp [flatD] at hx
  | _ => exact h

mutual
theorem rel_flat {c c' : Ctx} {w w' : World} : ∀ (x : AV) (v : Value), flatV x = true → Rel c w x v → Rel c' w' x v
  | .d x, v, hx, h => by simp only [Rel] at h ⊢; exact relD_flat hx h
  | .ptr _ _, _, hx, _ => by simp [flatV] at hx
  | .npt _ _, _, hx, _ => by simp [flatV] at hx
  | .slT _ _ _, _, hx, _ => by simp [flatV] at hx
  | .dptr _, _, hx, _ => by simp [flatV] at hx
  | .sl _ _ _ _, _, hx, _ => by simp [flatV] at hx
  | .fn _ _, _, hx, _ => by simp [flatV] at hx
  | .agg cs, v, hx, h => by
    simp only [Rel, flatV] at h hx ⊢
    obtain ⟨vs, hv, hl⟩ := h
    exact ⟨vs, hv, relL_flat cs vs hx hl⟩
  | .tup cs, v, hx, h => by
    simp only [Rel, flatV] at h hx ⊢
    obtain ⟨vs, hv, hl⟩ := h
    exact ⟨vs, hv, relL_flat cs vs hx hl⟩
  | .any, _, _, _ => by simp [Rel]
theorem relL_flat {c c' : Ctx} {w w' : World} : ∀ (xs : List AV) (vs : List Value), flatVs xs = true → RelL c w xs vs → RelL c' w' xs vs
  | [], _, _, h => by simpa [RelL] using h
  | x :: xs, vs, hx, h => by
    simp only [RelL, flatVs, Bool.and_eq_true] at h hx ⊢
    obtain ⟨v, vs', hv, h1, h2⟩ := h
    exact ⟨v, vs', hv, rel_flat x v hx.1 h1, relL_flat xs vs' hx.2 h2⟩
end

/-- Own blocks (Z) told to the callee as data; what it comes to refers to none. -/
theorem callK_lend (Z : Zs) (args0 : List AV) {Q : AV → Prop} (h : ACalls P f args0 [] fun r m' => Q r ∧ m' = []) (hz : zokFrom m Z Z) (hargs : cvL (fun _ => none) (zget Z) args = args0) (hv : ∀ v, Q v → flatV v = true)
    (hk : ∀ v, Q v → runOps P r ⟨putF t dst v, m, n⟩ K) : callK P f args dst r K t m n := by
  refine ⟨fun v m' n' => Q v ∧ m' = m ∧ n' = n, ?_, fun v m' n' h => by obtain ⟨h1, rfl, rfl⟩ := h; exact hk v h1⟩
  intro c w vs hr hM hfree
  have hown0 : ∀ (c' : Ctx) b, ¬ Own c' [] b := fun c' b ⟨id, h1, _⟩ => by simp [mget] at h1
  have hzi : ∀ id, (zget Z id).isSome → (mget m id).isSome := fun id h => by
    obtain ⟨ds, hds⟩ := Option.isSome_iff_exists.1 h
    obtain ⟨cs, hcs, _⟩ := zok_get hz id ds hds
    rw [hcs]; rfl
  have hr0 : RelL (c.frz [] Z) w args0 vs := by rw [← hargs]; exact relL_cv (π := []) (nb := 0) rfl hM hz _ _ hr
  have hM0 : MR (c.frz [] Z) [] w := ⟨fun id cells h => by simp [mget] at h, fun id id' b h => by simp [mget] at h, fun b hb => by
    rcases hb with h1 | ⟨id, h1, h2⟩
    · exact hM.imm b h1
    · exact hM.blk_lt ⟨id, hzi id h1, h2⟩, hM.tabTo (fun _ h => .inl h) fun _ _ => rfl⟩
  refine (h (c.frz [] Z) w vs hr0 hM0 fun id _ => rfl).mono ?_
  rintro e w' ⟨v, r0, m', c', rfl, ⟨hQ, rfl⟩, hrel, hM', hs, ho, hpers, hfr⟩
  have hkeep : ∀ b, b < w.heap.size → w'.heap[b]? = w.heap[b]? := fun b hb => hs.keep b hb (hown0 _ b)
  have hl : Later c c w w' := ⟨fun _ h => h, fun b hb => hkeep b (hM.imm b hb), fun _ _ => rfl, hs.rows⟩
  refine ⟨v, r0, m, n, c, rfl, ⟨hQ, rfl, rfl⟩, rel_flat _ _ (hv _ hQ) hrel, ⟨fun id cells hid => ?_, hM.inj, fun b hb => Nat.lt_of_lt_of_le (hM.imm b hb) hs.size, hM.tabTo (fun _ h => h) fun b hb => hkeep b (hM.imm b hb)⟩,
    ⟨hs.os, hs.tape, hs.output, hs.size, fun b hb _ => hkeep b hb, hs.rows, fun _ h => h, fun b hb => .inl hb⟩, fun b hb => .inl hb, fun _ _ => rfl, fun _ _ h => h, Nat.le_refl _⟩
  have hS : (mget m id).isSome := by rw [hid]; rfl
  exact (hM.own id cells hid).later hl fun b hb => ⟨hkeep b (hM.blk_lt ⟨id, hS, hb⟩), fun hi => hM.sep hi ⟨id, hS, hb⟩⟩

/-! ### Regions that draw their order -/

def dK (P : Program) (dst : Option Nat) (op : AOp) (r : List AOper) (acc : List Foot) (ms : List Nat) (K : St → Prop) (t : Fr) (m : Mem) (n : Nat) : Prop :=
  dStep P dst op ⟨t, m, n⟩ fun S' f => runDA P r (f :: acc) ms S' K

def dContK (P : Program) (dst : Option Nat) (F : List Nat) (r : List AOper) (acc : List Foot) (ms : List Nat) (K : St → Prop) (t : Fr) (m : Mem) (n : Nat) : Option (AV × Eff) → Prop
  | some (v, e) => runDA P r (⟨keysOf n e, F⟩ :: acc) ms ⟨putF t dst v, e.mem m n, n + 1⟩ K
  | none => False

def dGateK (P : Program) (dst : Option Nat) (op : AOp) (r : List AOper) (acc : List Foot) (ms : List Nat) (K : St → Prop) (t : Fr) (m : Mem) (n : Nat) (want : Bool) : AV → Prop
  | .d (.bool b) => if b = want then dK P dst op r acc ms K t m n else runDA P r (⟨[], []⟩ :: acc) ms ⟨putF t dst (.tup []), m, n + 1⟩ K
  | .tup _ => runDA P r (⟨[], []⟩ :: acc) ms ⟨putF t dst (.tup []), m, n + 1⟩ K
  | _ => False

def dCallK (P : Program) (f : Nat) (args : List AV) (dst : Option Nat) (r : List AOper) (acc : List Foot) (ms : List Nat) (K : St → Prop) (t : Fr) (m : Mem) (n : Nat) : Prop :=
  CallD P f args m n fun v m n F => runDA P r (F :: acc) ms ⟨putF t dst v, m, n⟩ K

def dCallvK (P : Program) (args : List AV) (dst : Option Nat) (r : List AOper) (acc : List Foot) (ms : List Nat) (K : St → Prop) (t : Fr) (m : Mem) (n : Nat) : AV → Prop
  | .fn f caps => goesB P f = true ∧ dCallK P f (args ++ caps) dst r acc ms K t m n
  | _ => False

variable {acc : List Foot} {ms : List Nat} {op : AOp}

@[go_sem] theorem runDA_nil {S : St} : runDA P [] acc ms S K = (indepFrom [] acc.reverse (closeM [] ms) = true ∧ K S) := rfl
@[go_sem] theorem runDA_cons : runDA P (⟨dst, op, none⟩ :: r) acc ms ⟨t, m, n⟩ K = dK P dst op r acc ms K t m n := by simp only [runDA, dK]
@[go_sem] theorem runDA_guard {g : Nat} {want : Bool} : runDA P (⟨dst, op, some (g, want)⟩ :: r) acc ms ⟨t, m, n⟩ K = dGateK P dst op r acc ms K t m n want (fget t g) := by
  simp only [runDA]
  generalize fget t g = x
  cases x with
  | d x => cases x <;> simp only [dGateK, dK]
  | _ => simp only [dGateK]
@[go_sem] theorem dGateK_tt : dGateK P dst op r acc ms K t m n true (.d (.bool true)) = dK P dst op r acc ms K t m n := rfl
@[go_sem] theorem dGateK_ff : dGateK P dst op r acc ms K t m n false (.d (.bool false)) = dK P dst op r acc ms K t m n := rfl
@[go_sem] theorem dGateK_tf : dGateK P dst op r acc ms K t m n true (.d (.bool false)) = runDA P r (⟨[], []⟩ :: acc) ms ⟨putF t dst (.tup []), m, n + 1⟩ K := rfl
@[go_sem] theorem dGateK_ft : dGateK P dst op r acc ms K t m n false (.d (.bool true)) = runDA P r (⟨[], []⟩ :: acc) ms ⟨putF t dst (.tup []), m, n + 1⟩ K := rfl
@[go_sem] theorem dGateK_tup {want : Bool} {cs : List AV} : dGateK P dst op r acc ms K t m n want (.tup cs) = runDA P r (⟨[], []⟩ :: acc) ms ⟨putF t dst (.tup []), m, n + 1⟩ K := rfl
theorem dK_plain (h : isCall op = false) : dK P dst op r acc ms K t m n = dContK P dst (footF t op) r acc ms K t m n (aevN op t m n) := by
  cases op <;> first
    | (simp [isCall] at h; done)
    | (simp only [dK, dStep]
       generalize aevN _ t m n = x
       cases x with
       | none => rfl
       | some p => obtain ⟨v, e⟩ := p; rfl)
@[go_sem] theorem dK_mv {x : Opd} : dK P dst (.mv x) r acc ms K t m n = dContK P dst (footF t (.mv x)) r acc ms K t m n (aevN (.mv x) t m n) := dK_plain rfl
@[go_sem] theorem dK_pick {a b c : Opd} : dK P dst (.pick a b c) r acc ms K t m n = dContK P dst (footF t (.pick a b c)) r acc ms K t m n (aevN (.pick a b c) t m n) := dK_plain rfl
@[go_sem] theorem dK_alloc {z : List AV} : dK P dst (.alloc z) r acc ms K t m n = dContK P dst (footF t (.alloc z)) r acc ms K t m n (aevN (.alloc z) t m n) := dK_plain rfl
@[go_sem] theorem dK_box {x : Opd} : dK P dst (.box x) r acc ms K t m n = dContK P dst (footF t (.box x)) r acc ms K t m n (aevN (.box x) t m n) := dK_plain rfl
@[go_sem] theorem dK_build {z : List AV} {p : List (Nat × Nat × Opd)} : dK P dst (.build z p) r acc ms K t m n = dContK P dst (footF t (.build z p)) r acc ms K t m n (aevN (.build z p) t m n) := dK_plain rfl
@[go_sem] theorem dK_bslice {a b : Nat} {z : List AV} {p : List (Nat × Nat × Opd)} : dK P dst (.bslice a b z p) r acc ms K t m n = dContK P dst (footF t (.bslice a b z p)) r acc ms K t m n (aevN (.bslice a b z p) t m n) := dK_plain rfl
@[go_sem] theorem dK_load {k : Option Nat} {x : Opd} : dK P dst (.load k x) r acc ms K t m n = dContK P dst (footF t (.load k x)) r acc ms K t m n (aevN (.load k x) t m n) := dK_plain rfl
@[go_sem] theorem dK_store {k : Nat} {x y : Opd} : dK P dst (.store k x y) r acc ms K t m n = dContK P dst (footF t (.store k x y)) r acc ms K t m n (aevN (.store k x y) t m n) := dK_plain rfl
@[go_sem] theorem dK_nilck {x : Opd} : dK P dst (.nilck x) r acc ms K t m n = dContK P dst (footF t (.nilck x)) r acc ms K t m n (aevN (.nilck x) t m n) := dK_plain rfl
@[go_sem] theorem dK_bin {o : BinOp} {x y : Opd} : dK P dst (.bin o x y) r acc ms K t m n = dContK P dst (footF t (.bin o x y)) r acc ms K t m n (aevN (.bin o x y) t m n) := dK_plain rfl
@[go_sem] theorem dK_eqb {o : Bool} {x y : Opd} : dK P dst (.eqb o x y) r acc ms K t m n = dContK P dst (footF t (.eqb o x y)) r acc ms K t m n (aevN (.eqb o x y) t m n) := dK_plain rfl
@[go_sem] theorem dK_eqp {o : Bool} {x y : Opd} : dK P dst (.eqp o x y) r acc ms K t m n = dContK P dst (footF t (.eqp o x y)) r acc ms K t m n (aevN (.eqp o x y) t m n) := dK_plain rfl
@[go_sem] theorem dK_eqf {o : Bool} {x y : Opd} : dK P dst (.eqf o x y) r acc ms K t m n = dContK P dst (footF t (.eqf o x y)) r acc ms K t m n (aevN (.eqf o x y) t m n) := dK_plain rfl
@[go_sem] theorem dK_eqs {k : List Nat} {o : Bool} {x y : Opd} : dK P dst (.eqs k o x y) r acc ms K t m n = dContK P dst (footF t (.eqs k o x y)) r acc ms K t m n (aevN (.eqs k o x y) t m n) := dK_plain rfl
@[go_sem] theorem dK_un {o : UnOp} {x : Opd} : dK P dst (.un o x) r acc ms K t m n = dContK P dst (footF t (.un o x)) r acc ms K t m n (aevN (.un o x) t m n) := dK_plain rfl
@[go_sem] theorem dK_cvi {k : IntKind} {x : Opd} : dK P dst (.cvi k x) r acc ms K t m n = dContK P dst (footF t (.cvi k x)) r acc ms K t m n (aevN (.cvi k x) t m n) := dK_plain rfl
@[go_sem] theorem dK_cvrune {x : Opd} : dK P dst (.cvrune x) r acc ms K t m n = dContK P dst (footF t (.cvrune x)) r acc ms K t m n (aevN (.cvrune x) t m n) := dK_plain rfl
@[go_sem] theorem dK_cvbs {x : Opd} : dK P dst (.cvbs x) r acc ms K t m n = dContK P dst (footF t (.cvbs x)) r acc ms K t m n (aevN (.cvbs x) t m n) := dK_plain rfl
@[go_sem] theorem dK_cvsb {x : Opd} : dK P dst (.cvsb x) r acc ms K t m n = dContK P dst (footF t (.cvsb x)) r acc ms K t m n (aevN (.cvsb x) t m n) := dK_plain rfl
@[go_sem] theorem dK_cvll {x : Opd} : dK P dst (.cvll x) r acc ms K t m n = dContK P dst (footF t (.cvll x)) r acc ms K t m n (aevN (.cvll x) t m n) := dK_plain rfl
@[go_sem] theorem dK_mkfn {f : Nat} {c : List Opd} : dK P dst (.mkfn f c) r acc ms K t m n = dContK P dst (footF t (.mkfn f c)) r acc ms K t m n (aevN (.mkfn f c) t m n) := dK_plain rfl
@[go_sem] theorem dK_mksl {a b : Nat} {z : List AV} {x y : Opd} : dK P dst (.mksl a b z x y) r acc ms K t m n = dContK P dst (footF t (.mksl a b z x y)) r acc ms K t m n (aevN (.mksl a b z x y) t m n) := dK_plain rfl
@[go_sem] theorem dK_slcs {x : Opd} {l h : Option Opd} : dK P dst (.slcs x l h) r acc ms K t m n = dContK P dst (footF t (.slcs x l h)) r acc ms K t m n (aevN (.slcs x l h) t m n) := dK_plain rfl
@[go_sem] theorem dK_slcl {a : Nat} {x : Opd} {l h : Option Opd} : dK P dst (.slcl a x l h) r acc ms K t m n = dContK P dst (footF t (.slcl a x l h)) r acc ms K t m n (aevN (.slcl a x l h) t m n) := dK_plain rfl
@[go_sem] theorem dK_faddr {x : Opd} {o : Nat} : dK P dst (.faddr x o) r acc ms K t m n = dContK P dst (footF t (.faddr x o)) r acc ms K t m n (aevN (.faddr x o) t m n) := dK_plain rfl
@[go_sem] theorem dK_fld {x : Opd} {o : Nat} {k : Option Nat} : dK P dst (.fld x o k) r acc ms K t m n = dContK P dst (footF t (.fld x o k)) r acc ms K t m n (aevN (.fld x o k) t m n) := dK_plain rfl
@[go_sem] theorem dK_iaddr {e : Nat} {k : Option Nat} {x i : Opd} : dK P dst (.iaddr e k x i) r acc ms K t m n = dContK P dst (footF t (.iaddr e k x i)) r acc ms K t m n (aevN (.iaddr e k x i) t m n) := dK_plain rfl
@[go_sem] theorem dK_idxs {x i : Opd} : dK P dst (.idxs x i) r acc ms K t m n = dContK P dst (footF t (.idxs x i)) r acc ms K t m n (aevN (.idxs x i) t m n) := dK_plain rfl
@[go_sem] theorem dK_idxa {a e : Nat} {k : Option Nat} {x i : Opd} : dK P dst (.idxa a e k x i) r acc ms K t m n = dContK P dst (footF t (.idxa a e k x i)) r acc ms K t m n (aevN (.idxa a e k x i) t m n) := dK_plain rfl
@[go_sem] theorem dK_ext {x : Opd} {i : Nat} : dK P dst (.ext x i) r acc ms K t m n = dContK P dst (footF t (.ext x i)) r acc ms K t m n (aevN (.ext x i) t m n) := dK_plain rfl
@[go_sem] theorem dK_lens {x : Opd} : dK P dst (.lens x) r acc ms K t m n = dContK P dst (footF t (.lens x)) r acc ms K t m n (aevN (.lens x) t m n) := dK_plain rfl
@[go_sem] theorem dK_lenl {x : Opd} : dK P dst (.lenl x) r acc ms K t m n = dContK P dst (footF t (.lenl x)) r acc ms K t m n (aevN (.lenl x) t m n) := dK_plain rfl
@[go_sem] theorem dK_minI {x y : Opd} : dK P dst (.minI x y) r acc ms K t m n = dContK P dst (footF t (.minI x y)) r acc ms K t m n (aevN (.minI x y) t m n) := dK_plain rfl
@[go_sem] theorem dK_maxI {x y : Opd} : dK P dst (.maxI x y) r acc ms K t m n = dContK P dst (footF t (.maxI x y)) r acc ms K t m n (aevN (.maxI x y) t m n) := dK_plain rfl
@[go_sem] theorem dK_app {a b e : Nat} {x y : Opd} : dK P dst (.app a b e x y) r acc ms K t m n = dContK P dst (footF t (.app a b e x y)) r acc ms K t m n (aevN (.app a b e x y) t m n) := dK_plain rfl
@[go_sem] theorem dContK_some {F : List Nat} {v : AV} {e : Eff} : dContK P dst F r acc ms K t m n (some (v, e)) = runDA P r (⟨keysOf n e, F⟩ :: acc) ms ⟨putF t dst v, e.mem m n, n + 1⟩ K := rfl
@[go_sem] theorem dContK_none {F : List Nat} : dContK P dst F r acc ms K t m n none = False := rfl
@[go_sem] theorem dK_callf {f : Nat} {args : List Opd} : dK P dst (.callf f args) r acc ms K t m n = dCallK P f (args.map (ev t)) dst r acc ms K t m n := rfl
@[go_sem] theorem dK_callv {x : Opd} {args : List Opd} : dK P dst (.callv x args) r acc ms K t m n = dCallvK P (args.map (ev t)) dst r acc ms K t m n (ev t x) := by
  unfold dK
  simp only [dStep]
  generalize ev t x = y
  cases y <;> rfl
@[go_sem] theorem dCallvK_fn {f : Nat} {caps args : List AV} : dCallvK P args dst r acc ms K t m n (.fn f caps) = (goesB P f = true ∧ dCallK P f (args ++ caps) dst r acc ms K t m n) := rfl

theorem dCallK_pure (h : Pure P f args v) (ha : inL (fun _ => none) args = true) (hv : inB (fun _ => none) v = true) (hk : runDA P r (⟨[], []⟩ :: acc) ms ⟨putF t dst v, m, n⟩ K) : dCallK P f args dst r acc ms K t m n := by
  refine ⟨[], [], args, v, [], 0, rfl, (renL_noId _ ha).symm, inL_mono (fun _ h => by cases h) _ ha, trivial, fun _ _ h => by simp [pget] at h, h, ?_⟩
  rw [ren_noId _ hv]
  exact hk

end

attribute [go_sem] footF keysOf idOf

end Go.Jq

/-! The abstract layer, part 23: slices.IndexFunc and slices.ContainsFunc over data, at any element. -/
namespace Go.Jq
open Go
set_option linter.unusedSimpArgs false
set_option maxRecDepth 10000

/-- The code of slices.IndexFunc: esz: an element's cells; k: how it is loaded. -/
def acIdx (esz : Nat) (k : Option Nat) : ACode := (.seq (.region false [⟨(some 4), .mv (.c (.d (.int .i64 0))), none⟩] []) (.seq (.seq (.region false [⟨(some 6), .mv (.t 0), none⟩, ⟨(some 7), .lenl (.t 6), none⟩, ⟨(some 8), .mv (.c (.d (.int .i64 0))), none⟩] []) (.block 0 (.loop (.seq (.region false [⟨(some 9), .bin .lss (.t 8) (.t 7), none⟩] []) (.seq (.cond (.t 9) .skip (.exit 0)) (.seq (.block 1 (.seq (.region false [⟨(some 10), .mv (.t 8), none⟩, ⟨(some 5), .mv (.t 10), none⟩] []) (.seq (.region false [⟨(some 11), .mv (.t 1), none⟩, ⟨(some 12), .mv (.t 0), none⟩, ⟨(some 13), .mv (.t 5), none⟩, ⟨(some 14), .iaddr esz none (.t 12) (.t 13), none⟩, ⟨(some 15), .load k (.t 14), none⟩, ⟨(some 16), .callv (.t 11) [(.t 15)], none⟩] []) (.cond (.t 16) (.seq (.region false [⟨(some 17), .mv (.t 5), none⟩, ⟨(some 4), .mv (.t 17), none⟩] []) .ret) .skip)))) (.region false [⟨(some 18), .bin .add (.t 8) (.c (.d (.int .i64 1))), none⟩, ⟨(some 8), .mv (.t 18), none⟩] []))))))) (.seq (.region false [⟨(some 4), .mv (.c (.d (.int .i64 (-1)))), none⟩] []) .ret)))

def findFrom (p : Nat → Bool) : Nat → Nat → Int
  | 0, _ => -1
  | n + 1, i => if p i = true then (i : Int) else findFrom p n (i + 1)

theorem findFrom_ge (p : Nat → Bool) : ∀ (n i : Nat), decide (0 ≤ findFrom p n i) = (List.range' i n).any p
  | 0, i => by simp [findFrom]
  | n + 1, i => by
    have ih := findFrom_ge p n (i + 1)
    simp only [findFrom, List.range'_succ, List.any_cons]
    by_cases h : p i = true
    · simp [h]
    · simp [h, ih]

/-- A data slice's elements. -/
structure SlE (esz : Nat) (k : Option Nat) (X : DV) (n : Nat) (elt : Nat → AV) : Prop where
  len : lenA (.d X) = some n
  big : n ≤ 9223372036854775807
  get : ∀ i, i < n → ∃ cs, X = .sl n cs ∧ i * esz < cs.length ∧ loadA k ((cs.drop (i * esz)).map .d) = some (elt i)

theorem indexFunc {P : Program} {f kk : Nat} {fn : Func} (hf : P.funcs[f]? = some fn) {esz : Nat} {k : Option Nat} (hc : fn.body.bind (cCode P fn.ntmps) = some (acIdx esz k)) (hk : fn.ntmps = kk) (hkk : decide (2 ≤ kk) = true) (hrs : fn.results = #[.tmp 4])
    {X : DV} {len : Nat} {elt : Nat → AV} (hx : SlE esz k X len elt) {gf : Nat} {caps : List AV} (hg : goesB P gf = true) (hcap : inL (fun _ => none) caps = true) (he : ∀ i, i < len → inB (fun _ => none) (elt i) = true) {p : Nat → Bool}
    (hp : ∀ i, i < len → Pure P gf (elt i :: caps) (.d (.bool (p i)))) : Pure P f [.d X, .fn gf caps] (.d (.int .i64 (findFrom p len 0))) := by
  refine acalls_of hf hc hk hrs hkk ?_
  have hcr : ∀ π, renL π caps = caps := fun π => renL_noId _ hcap
  have hbig := hx.big
  unfold acIdx
  refine bwp_seq fun K hK => bwp_region rfl ?_
  simp only [go_sem]
  refine hK _ ?_; clear hK K
  refine bwp_seq fun K hK => ?_
  refine bwp_seq fun K' hK' => bwp_region rfl ?_
  simp only [go_sem, ↓reduceIte, Nat.reduceEqDiff, hx.len]
  refine hK' _ ?_; clear hK' K'
  refine bwp_block ?_
  refine bwp_leads (S' := ⟨[(0, .d X), (1, .fn gf caps), (7, .d (.int .i64 len)), (8, .d (.int .i64 (0 : Nat)))], [], 0⟩) (Leads.ent [] ⟨?_, trivial, rfl, rfl⟩) ?_
  · simp [entT, fget, AV.ren, hcr]
  refine bwp_loop (fun S => ∃ i, i ≤ len ∧ findFrom p (len - i) i = findFrom p len 0 ∧ S = ⟨[(0, .d X), (1, .fn gf caps), (7, .d (.int .i64 len)), (8, .d (.int .i64 (i : Nat)))], [], 0⟩)
    (fun S => match fget S.t 8 with
      | .d (.int _ i) => len - i.toNat
      | _ => 0) ⟨0, Nat.zero_le _, rfl, rfl⟩ ?_
  rintro S ⟨i, hi, hfi, rfl⟩
  refine bwp_seq fun K1 hK1 => bwp_region rfl ?_
  simp only [go_sem, ↓reduceIte, Nat.reduceEqDiff]
  refine hK1 _ ?_; clear hK1 K1
  by_cases hlt : i < len
  · have hlt' : (i : Int) < len := by omega
    obtain ⟨cs, hX, hcs, hld⟩ := hx.get i hlt
    refine bwp_seq fun K1 hK1 => bwp_cond true (by simp [ev, fget, hlt']) (fun _ => bwp_skip ?_) (fun h => nomatch h)
    refine hK1 _ ?_; clear hK1 K1
    refine bwp_seq fun K1 hK1 => bwp_block ?_
    refine bwp_seq fun K2 hK2 => bwp_region rfl ?_
    simp only [go_sem, ↓reduceIte, Nat.reduceEqDiff]
    refine hK2 _ ?_; clear hK2 K2
    refine bwp_seq fun K2 hK2 => bwp_region rfl ?_
    simp only [go_sem, ↓reduceIte, Nat.reduceEqDiff, hX, hlt', Int.toNat_natCast, hcs, Int.natCast_nonneg, and_self, hld, true_and]
    refine ⟨hg, ?_⟩
    refine callK_pure (args := elt i :: caps) (hp i hlt) (by simp only [inL, he i hlt, hcap, Bool.and_self]) rfl ?_
    simp only [go_sem]
    refine hK2 _ ?_; clear hK2 K2
    by_cases hpi : p i = true
    · refine bwp_cond true (by simp [ev, fget, hpi]) (fun _ => ?_) (fun h => nomatch h)
      refine bwp_seq fun K2 hK2 => bwp_region rfl ?_
      simp only [go_sem, ↓reduceIte, Nat.reduceEqDiff]
      refine hK2 _ ?_; clear hK2 K2
      refine bwp_ret ?_
      simp only [go_sem]
      refine aend_ret _ rfl rfl ⟨?_, rfl⟩
      have : len - i = (len - i - 1) + 1 := by omega
      rw [this] at hfi
      simp only [findFrom, hpi, if_true] at hfi
      simp only [fget, ↓reduceIte, ← hfi]
    · refine bwp_cond false (by simp [ev, fget, hpi]) (fun h => nomatch h) (fun _ => bwp_skip ?_)
      refine hK1 _ ?_; clear hK1 K1
      refine bwp_region rfl ?_
      simp only [go_sem, ↓reduceIte, Nat.reduceEqDiff]
      have hw : IntKind.i64.wrap ((i : Int) + 1) = ((i + 1 : Nat) : Int) := by rw [wrap_i64 (by omega) (by omega)]; rfl
      refine ⟨⟨[(0, .d X), (1, .fn gf caps), (7, .d (.int .i64 len)), (8, .d (.int .i64 (i + 1 : Nat)))], [], 0⟩, Leads.ent [] ⟨?_, trivial, rfl, rfl⟩, ⟨i + 1, hlt, ?_, rfl⟩, ?_⟩
      · simp [entT, fget, AV.ren, hcr, hw, hX]
      · have : len - i = (len - (i + 1)) + 1 := by omega
        rw [this] at hfi
        simp only [findFrom, hpi] at hfi
        exact hfi
      · simp only [fget, ↓reduceIte, Nat.reduceEqDiff, Int.toNat_natCast]
        omega
  · have hlt' : ¬ (i : Int) < len := by omega
    refine bwp_seq fun K1 hK1 => bwp_cond false (by simp [ev, fget, hlt']) (fun h => nomatch h) (fun _ => bwp_exit ?_)
    show K _
    refine hK _ ?_
    refine bwp_seq fun K1 hK1 => bwp_region rfl ?_
    simp only [go_sem, ↓reduceIte, Nat.reduceEqDiff]
    refine hK1 _ ?_; clear hK1 K1
    refine bwp_ret ?_
    simp only [go_sem]
    refine aend_ret _ rfl rfl ⟨?_, rfl⟩
    have : len - i = 0 := by omega
    rw [this] at hfi
    simp only [fget, ↓reduceIte, ← hfi, findFrom]

/-- The code of slices.ContainsFunc. -/
def acCont (idx : Nat) : ACode := (.seq (.region false [⟨(some 4), .mv (.c (.d (.bool false))), none⟩] []) (.seq (.region false [⟨(some 5), .mv (.t 0), none⟩, ⟨(some 6), .mv (.t 1), none⟩, ⟨(some 7), .callf idx [(.t 5), (.t 6)], none⟩, ⟨(some 8), .bin .geq (.t 7) (.c (.d (.int .i64 0))), none⟩, ⟨(some 4), .mv (.t 8), none⟩] []) .ret))

theorem containsFunc {P : Program} {f kk idx : Nat} {fn : Func} (hf : P.funcs[f]? = some fn) (hc : fn.body.bind (cCode P fn.ntmps) = some (acCont idx)) (hk : fn.ntmps = kk) (hkk : decide (2 ≤ kk) = true) (hrs : fn.results = #[.tmp 4])
    {X : DV} {len : Nat} {gf : Nat} {caps : List AV} (hcap : inL (fun _ => none) caps = true) {p : Nat → Bool} (hp : Pure P idx [.d X, .fn gf caps] (.d (.int .i64 (findFrom p len 0)))) :
    Pure P f [.d X, .fn gf caps] (.d (.bool ((List.range' 0 len).any p))) := by
  refine acalls_of hf hc hk hrs hkk ?_
  unfold acCont
  refine bwp_seq fun K hK => bwp_region rfl ?_
  simp only [go_sem]
  refine hK _ ?_; clear hK K
  refine bwp_seq fun K hK => bwp_region rfl ?_
  simp only [go_sem, ↓reduceIte, Nat.reduceEqDiff]
  refine callK_pure hp (by simp only [inL, inB, hcap, Bool.and_self]) rfl ?_
  simp only [go_sem, ↓reduceIte, Nat.reduceEqDiff]
  refine hK _ ?_; clear hK K
  refine bwp_ret (aend_ret _ rfl rfl ⟨?_, rfl⟩)
  simp only [fget, ↓reduceIte, findFrom_ge]

end Go.Jq

/-! The abstract layer, part 24: a contract in the model's own words, lifted. -/
namespace Go.Jq
open Go

theorem pure_of_calls {P : Program} {f : Nat} {args : List AV} {v : AV}
    (h : ∀ (c : Ctx) (w : World) (vs : List Value), RelL c w args vs → Calls P f vs.toArray w fun e w' => ∃ u, e = .returned u ∧ w' = w ∧ Rel c w v u) : Pure P f args v := by
  intro c w vs hr hM hfree
  refine (h c w vs hr).mono ?_
  rintro e w' ⟨u, rfl, rfl, hu⟩
  exact ⟨u, v, [], c, rfl, ⟨rfl, rfl⟩, hu, hM, Step.refl _ _ _, fun b hb => .inl hb, fun id _ h => ⟨h, rfl⟩, fun id hid => hfree id (Nat.le_trans (Nat.zero_le _) hid)⟩

/-- The world turned behind its own blocks alone. -/
theorem pure_of_below {P : Program} {f : Nat} {args : List AV} {v : AV}
    (h : ∀ (c : Ctx) (w : World) (vs : List Value), RelL c w args vs → MR c [] w → Calls P f vs.toArray w fun e w' => ∃ u, e = .returned u ∧ w'.os = w.os ∧ w'.tape = w.tape ∧ w'.output = w.output ∧ w.heap.size ≤ w'.heap.size ∧
      (∀ k, k < w.heap.size → w'.heap[k]? = w.heap[k]?) ∧ Rel c w' v u) : Pure P f args v := by
  intro c w vs hr hM hfree
  refine (h c w vs hr hM).mono ?_
  rintro e w' ⟨u, rfl, h1, h2, h3, h4, h5, hu⟩
  have hrows : ∀ b n, rowSize w b = some n → rowSize w' b = some n := fun b n hn => (rowSize_eq (h5 b (rowSize_lt hn))).trans hn
  have hl : Later c c w w' := ⟨fun _ h => h, fun b hb => h5 b (hM.imm b hb), fun _ _ => rfl, hrows⟩
  refine ⟨u, v, [], c, rfl, ⟨rfl, rfl⟩, hu, ⟨fun id cells hi => by simp [mget] at hi, fun id id' b hi => by simp [mget] at hi, fun b hb => Nat.lt_of_lt_of_le (hM.imm b hb) h4, hM.tabTo hl.imm hl.same⟩,
    ⟨h1, h2, h3, h4, fun k hk _ => h5 k hk, hrows, fun _ h => h, fun _ h => .inl h⟩, fun b hb => .inl hb, fun id _ h => ⟨h, rfl⟩, fun id hid => hfree id (Nat.le_trans (Nat.zero_le _) hid)⟩

/-- A function's end, with own blocks left to the caller. -/
theorem aend_mem {P : Program} {rs : Array ResultVar} {n0 : Nat} {Q : AV → Mem → Prop} {S : St} (v : AV) (π : Ren) (m' : Mem) (hv : resA P rs S = some v) (hok : okRen (Nat.max n0 (mbound m')) π = true)
    (hk : keepRen n0 π = true) (hm : entM π S.m m') (hq : Q (v.ren (pget π)) m') : AEnd P rs n0 Q .ret S := ⟨v, hv, π, m', hok, hk, hm, hq⟩

/-! ### Slices of data that encode lists -/

/-- A value of a slice's type: nil, or the list's elements' cells one behind the other. -/
def IsSl {α : Type} (enc : α → List DV) (l : List α) (X : DV) : Prop := l.length ≤ 9223372036854775807 ∧ ((X = .nsl ∧ l = []) ∨ X = .sl l.length (l.flatMap enc))

theorem flat_get {α : Type} {enc : α → List DV} {k : Nat} (hk : ∀ a, (enc a).length = k) : ∀ (l : List α) (i : Nat) (a : α), l[i]? = some a →
    ((l.flatMap enc).drop (i * k)).take k = enc a ∧ i * k + k ≤ (l.flatMap enc).length
  | [], i, a, h => by simp at h
  | x :: l, 0, a, h => by
    simp at h
    subst h
    refine ⟨?_, ?_⟩
    · rw [Nat.zero_mul, List.drop_zero, List.flatMap_cons, List.take_append_of_le_length (by rw [hk]; exact Nat.le_refl _), List.take_of_length_le (by rw [hk]; exact Nat.le_refl _)]
    · simp [List.flatMap_cons, hk]
  | x :: l, i + 1, a, h => by
    obtain ⟨h1, h2⟩ := flat_get hk l i a (by simpa using h)
    refine ⟨?_, ?_⟩
    · rw [← h1, List.flatMap_cons, List.drop_append]
      have e1 : (enc x).drop ((i + 1) * k) = [] := List.drop_eq_nil_of_le (by rw [hk, Nat.succ_mul]; omega)
      have e2 : (i + 1) * k - (enc x).length = i * k := by rw [hk, Nat.succ_mul]; omega
      rw [e1, e2, List.nil_append]
    · rw [List.flatMap_cons, List.length_append, hk, Nat.succ_mul]; omega

/-- What stands at place i of a list of encoded elements. -/
def eltA {α : Type} (enc : α → List DV) (l : List α) (i : Nat) : AV := match l[i]? with
  | some a => .agg ((enc a).map .d)
  | none => .any

theorem slE_agg {α : Type} {enc : α → List DV} {k : Nat} (hk : ∀ a, (enc a).length = k) (hk0 : 0 < k) {l : List α} {X : DV} (h : IsSl enc l X) : SlE k (some k) X l.length (eltA enc l) := by
  obtain ⟨hb, h⟩ := h
  refine ⟨?_, hb, fun i hi => ?_⟩
  · rcases h with ⟨rfl, rfl⟩ | rfl <;> rfl
  · rcases h with ⟨rfl, rfl⟩ | rfl
    · simp at hi
    · have hget : l[i]? = some l[i] := by simp [hi]
      obtain ⟨h1, h2⟩ := flat_get hk l i _ hget
      refine ⟨_, rfl, by omega, ?_⟩
      simp only [loadA, eltA, hget]
      rw [if_pos (by rw [List.length_map, List.length_drop]; omega), ← List.map_take, h1]

/-- One-celled elements. -/
def eltD (l : List DV) (i : Nat) : AV := match l[i]? with
  | some d => .d d
  | none => .any

theorem slE_one {ds : List DV} {X : DV} (h : IsSl (fun d => [d]) ds X) : SlE 1 none X ds.length (eltD ds) := by
  obtain ⟨hb, h⟩ := h
  refine ⟨?_, hb, fun i hi => ?_⟩
  · rcases h with ⟨rfl, rfl⟩ | rfl <;> rfl
  · rcases h with ⟨rfl, rfl⟩ | rfl
    · simp at hi
    · have hget : ds[i]? = some ds[i] := by simp [hi]
      have hfm : ds.flatMap (fun d => [d]) = ds := by simp
      refine ⟨_, rfl, by rw [hfm]; omega, ?_⟩
      rw [hfm]
      simp only [loadA, eltD, hget, Nat.mul_one, List.map_drop, List.getElem?_drop, Nat.add_zero, List.getElem?_map, Option.map_some]

/-- Lists of lists. -/
def IsSls {α : Type} (enc : α → List DV) : List (List α) → List DV → Prop
  | [], [] => True
  | l :: ls, d :: ds => IsSl enc l d ∧ IsSls enc ls ds
  | _, _ => False

theorem IsSls.length {α : Type} {enc : α → List DV} : ∀ {ls : List (List α)} {ds : List DV}, IsSls enc ls ds → ds.length = ls.length
  | [], [], _ => rfl
  | _ :: _, _ :: _, h => by simp [IsSls.length h.2]
  | [], _ :: _, h => h.elim
  | _ :: _, [], h => h.elim

theorem IsSls.get {α : Type} {enc : α → List DV} : ∀ {ls : List (List α)} {ds : List DV}, IsSls enc ls ds → ∀ (i : Nat) (l : List α), ls[i]? = some l → ∃ d, ds[i]? = some d ∧ IsSl enc l d
  | [], [], _, i, l, h => by simp at h
  | x :: ls, d :: ds, h, i, l, hi => by
    cases i with
    | zero => simp at hi; subst hi; exact ⟨d, rfl, h.1⟩
    | succ i => simpa using IsSls.get h.2 i l (by simpa using hi)
  | [], _ :: _, h, _, _, _ => h.elim
  | _ :: _, [], h, _, _, _ => h.elim

theorem IsSls.append {α : Type} {enc : α → List DV} {l : List α} {d : DV} (h1 : IsSl enc l d) : ∀ {ls : List (List α)} {ds : List DV}, IsSls enc ls ds → IsSls enc (ls ++ [l]) (ds ++ [d])
  | [], [], _ => ⟨h1, trivial⟩
  | _ :: _, _ :: _, h => ⟨h.1, IsSls.append h1 h.2⟩
  | [], _ :: _, h => h.elim
  | _ :: _, [], h => h.elim

def IsSl2 {α : Type} (enc : α → List DV) (ls : List (List α)) (X : DV) : Prop := ∃ ds, IsSl (fun d => [d]) ds X ∧ IsSls enc ls ds

theorem any_idx {α : Type} (q : α → Bool) (l : List α) : (List.range' 0 l.length).any (fun i => (l[i]?.map q).getD false) = l.any q := by
  rw [Bool.eq_iff_iff]
  simp only [List.any_eq_true]
  constructor
  · rintro ⟨i, hi, h⟩
    cases hg : l[i]? with
    | none => simp [hg] at h
    | some a => exact ⟨a, List.mem_of_getElem? hg, by simpa [hg] using h⟩
  · rintro ⟨a, ha, h⟩
    obtain ⟨i, hi⟩ := List.mem_iff_getElem?.1 ha
    exact ⟨i, by simp [List.mem_range'_1, (List.getElem?_eq_some_iff.1 hi).1], by simp [hi, h]⟩

theorem putAt_eq : ∀ (vs cs : List AV) (o : Nat), o + vs.length ≤ cs.length → putAt cs o vs = cs.take o ++ vs ++ cs.drop (o + vs.length)
  | [], cs, o, _ => by simp [putAt]
  | v :: vs, cs, o, h => by
    simp only [List.length_cons] at h
    have ih := putAt_eq vs (cs.set o v) (o + 1) (by simp; omega)
    have e1 : (cs.set o v).take (o + 1) = cs.take o ++ [v] := by
      rw [List.take_add_one, List.take_set_of_le (Nat.le_refl o)]
      have : o < cs.length := by omega
      simp [this]
    have e2 : (cs.set o v).drop (o + 1 + vs.length) = cs.drop (o + (vs.length + 1)) := by
      rw [List.drop_set_of_lt (by omega)]
      congr 1; omega
    rw [putAt, ih, e1, e2]
    simp

theorem putAt_all {vs cs : List AV} (h : vs.length = cs.length) : putAt cs 0 vs = vs := by
  rw [putAt_eq vs cs 0 (by omega)]
  simp [h]

theorem all_oneB_d (l : List DV) : (l.map AV.d).all oneB = true := by
  simp [oneB]

theorem bits_and_le (x : Int) (m : Nat) (hm : m ≤ 9223372036854775807) : ∃ q : Nat, q ≤ m ∧ bits .and .i64 x (m : Int) = (q : Int) := by
  refine ⟨(BitVec.ofInt 64 x).toNat &&& m, Nat.and_le_right, ?_⟩
  have h : (BitVec.ofInt 64 (m : Int)).toNat = m := by simp [BitVec.ofInt_natCast]; omega
  have h2 : ((BitVec.ofInt 64 x).toNat &&& m) ≤ m := Nat.and_le_right
  have e : bits .and .i64 x (m : Int) = IntKind.i64.wrap (((BitVec.ofInt 64 x) &&& (BitVec.ofInt 64 (m : Int))).toNat : Nat) := rfl
  rw [e, BitVec.toNat_and, h]
  exact wrap_i64 (by omega) (by omega)

theorem wrap_next (a : Int) : IntKind.i64.wrap (a + 1) ≠ a := by
  have e1 : (2 ^ (64 - 1) : Int) = 9223372036854775808 := rfl
  have e2 : (2 ^ 64 : Int) = 18446744073709551616 := rfl
  simp only [IntKind.wrap, IntKind.signed, IntKind.bits, e1, e2, Bool.true_and, decide_eq_true_eq]
  split <;> omega

/-- A list of numbers as a slice's value. -/
def IsInts (l : List Int) (X : DV) : Prop := IsSl (fun d => [d]) (l.map (DV.int .i64)) X

theorem IsInts.sl {l : List Int} {X : DV} (h : IsInts l X) : SlE 1 none X l.length (eltD (l.map (DV.int .i64))) := by
  have := slE_one h
  rwa [List.length_map] at this

/-- A data slice of bytes. -/
def bytesD (s : List UInt8) : DV := .sl s.length (s.map fun b => .int .u8 b.toNat)

end Go.Jq

namespace Go.Jq
open Go
attribute [go_sem] List.drop List.getElem?_cons_zero List.getElem?_cons_succ Bool.true_eq_false Bool.false_eq_true decide_true decide_false List.length_cons List.length_nil List.all_cons List.all_nil Bool.and_self List.set_cons_zero List.set_cons_succ List.take List.length_map List.cons_append List.nil_append Nat.le_refl Nat.min_def Bool.not_true Bool.not_false Bool.true_beq Bool.false_beq beq_self_eq_true Bool.true_bne Bool.false_bne bne_self_eq_false not_true_eq_false not_false_eq_true
end Go.Jq
