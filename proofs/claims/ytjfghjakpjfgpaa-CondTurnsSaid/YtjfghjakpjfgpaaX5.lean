/- The abstract layer, part 5: soundness of the other operations. -/
import Derived.Test.YtjfghjakpjfgpaaX4
namespace Go.Jq
open Go

section
variable {P : Program} {c : Ctx} {m : Mem} {n : Nat} {w : World} {t : Fr} {a : Act}

/-! ### Aggregates -/

theorem putVs_fill (vs : List Value) : ∀ (cs : Array Value) (off j : Nat),
    (vs.zipIdx j).foldl (fun cs (p : Value × Nat) => cs.setIfInBounds (off + p.2) p.1) cs = (putVs cs.toList (off + j) vs).toArray := by
  induction vs with
  | nil => intro cs off j; simp [putVs]
  | cons v vs ih =>
    intro cs off j
    simp only [List.zipIdx_cons, List.foldl_cons, putVs]
    rw [ih, Array.toList_setIfInBounds, Nat.add_assoc]

theorem fill_one (cs : Array Value) (off : Nat) (vs : List Value) :
    vs.toArray.zipIdx.foldl (fun cs (c, j) => cs.setIfInBounds (off + j) c) cs = (putVs cs.toList off vs).toArray := by
  rw [← Array.foldl_toList]
  simp only [Array.toList_zipIdx]
  exact putVs_fill vs cs off 0

/-- Parts, each a value that stands to its abstract one. -/
inductive PartsR (c : Ctx) (w : World) (place : Nat → Option (Nat × Nat)) : List (Nat × Nat × AV) → List (Nat × Value) → Prop where
  | nil : PartsR c w place [] []
  | cons {i off size : Nat} {x : AV} {v : Value} {ps : List (Nat × Nat × AV)} {vs : List (Nat × Value)} (hp : place i = some (off, size)) (hx : Rel c w x v) (h : PartsR c w place ps vs) :
      PartsR c w place ((off, size, x) :: ps) ((i, v) :: vs)

theorem partsR_of (hF : FR c w t a.tmps) {place : Nat → Option (Nat × Nat)} : ∀ (ps : List (Nat × Operand)) {qs : List (Nat × Nat × Opd)}, partsOf place ps = some qs →
    PartsR c w place (evParts t qs) (ps.map fun p => (p.1, a.eval p.2))
  | [], qs, h => by simp only [partsOf, Option.some.injEq] at h; subst h; exact .nil
  | (i, x) :: ps, qs, h => by
    simp only [partsOf] at h
    split at h
    · rename_i off size r' h1 h2
      cases h
      exact .cons h1 (rel_ev hF x) (partsR_of hF ps h2)
    · cases h

theorem fill_sound {place : Nat → Option (Nat × Nat)} {ps : List (Nat × Nat × AV)} {vs : List (Nat × Value)} (hp : PartsR c w place ps vs) :
    ∀ {cs : List AV} {us : List Value} {cs' : List AV}, RelL c w cs us → fillA cs ps = some cs' → ∃ us', Instr.fill place us.toArray vs = some us'.toArray ∧ RelL c w cs' us' := by
  induction hp with
  | nil => intro cs us cs' hr h; simp only [fillA, Option.some.injEq] at h; subst h; exact ⟨us, rfl, hr⟩
  | cons hpl hx _ ih =>
    intro cs us cs' hr h
    simp only [fillA] at h
    split at h
    · rename_i vs' hc
      split at h
      · rename_i hcond
        obtain ⟨h1, h2⟩ := hcond
        obtain ⟨ws, hws, hrl⟩ := rel_cells hx hc
        obtain ⟨us', hf, hr'⟩ := ih (relL_putAt vs' ws cs us _ hr hrl) h
        refine ⟨us', ?_, hr'⟩
        have hl1 := hrl.length
        have hl2 := hr.length
        simp only [Instr.fill, hpl, hws]
        rw [if_neg, fill_one]
        · exact hf
        · simp; omega
      · cases h
    · cases h

theorem relL_range {z : List AV} {us : List Value} (h : RelL c w z us) (k : Nat) (hz : k = 0 ∨ z.length ≠ 0) :
    RelL c w ((List.range k).map fun i => z.getD (i % z.length) .any) ((List.range k).map fun i => us.toArray[i % us.length]!) := by
  have hl := h.length
  refine RelL.of_get (by simp) fun i x v hx hv => ?_
  rw [List.getElem?_map] at hx hv
  by_cases hi : i < k
  · simp only [List.getElem?_range hi, Option.map_some, Option.some.injEq] at hx hv
    have hlt : i % z.length < z.length := Nat.mod_lt _ (by omega)
    obtain ⟨u, hu, hr⟩ := h.get (i := i % z.length) (x := z[i % z.length]) (by simp [hlt])
    rw [hl] at hv
    have h1 : us.toArray[i % z.length]! = u := by
      rw [Array.getElem!_eq_getD, Array.getD_eq_getD_getElem?, List.getElem?_toArray, hu]; rfl
    rw [h1] at hv
    subst hv
    rw [← hx]
    simpa [hlt] using hr
  · rw [List.getElem?_eq_none (by simpa using Nat.le_of_not_lt hi)] at hx; simp at hx

theorem run_zero {T : TypeId} {z : List AV} (hz : zeroOf P T = some z) : ∃ zv : Value, (zeroValue T).run P w = .ok zv w ∧ z = zv.cells.toList.map cval1 := by
  unfold zeroOf at hz
  split at hz
  · rename_i i hi
    split at hz
    · rename_i zv hzv
      cases hz
      exact ⟨zv, by simp [zeroValue, typeInfo, hi, hzv], rfl⟩
    · cases hz
  · cases hz

theorem run_places {fs : List Field} (h : ∀ f ∈ fs, (P.info? f.type).isSome) :
    (fs.mapM fun f => do pure (f.offset, ← sizeOf f.type) : Sem (List (Nat × Nat))).run P w = .ok (fs.map fun f => (f.offset, ((P.info? f.type).map (·.size)).getD 0)) w := by
  induction fs with
  | nil => simp
  | cons f fs ih =>
    obtain ⟨i, hi⟩ := Option.isSome_iff_exists.1 (h f List.mem_cons_self)
    have := ih fun g hg => h g (List.mem_cons_of_mem _ hg)
    simp only [List.mapM_cons, Sem.run_bind, run_sizeOf hi, Result.andThen_ok, Sem.run_pure, this, List.map_cons, hi, Option.map_some, Option.getD_some]

theorem outc_build {T : TypeId} {ps : Array (Nat × Operand)} {ao : AOp} (hc : cOp P (.build T ps) = some ao) (hF : FR c w t a.tmps) (hM : MR c m w) {v : AV} {e : Eff}
    (he : aevN ao t m n = some (v, e)) : Outc P (do pure (.value (← Instr.build T (ps.map fun (i, x) => (i, a.eval x))))) c m n w v e := by
  simp only [cOp] at hc
  split at hc
  · rename_i fs z hu hz
    split at hc
    · rename_i hall
      rw [Option.map_eq_some_iff] at hc
      obtain ⟨qs, hq, rfl⟩ := hc
      simp only [aevN, Option.map_eq_some_iff] at he
      obtain ⟨cs, hfl, he⟩ := he
      cases he
      obtain ⟨zv, hzv, rfl⟩ := run_zero (w := w) hz
      have hpl : ∀ i, fieldPlace' P fs i = (fs.map fun f => (f.offset, ((P.info? f.type).map (·.size)).getD 0))[i]? := by
        intro i
        unfold fieldPlace'
        rw [Array.getElem?_map]
        cases hfi : fs[i]? with
        | none => simp
        | some fd =>
          have := Array.all_eq_true_iff_forall_mem.1 hall fd (Array.mem_of_getElem? hfi)
          obtain ⟨i', hi'⟩ := Option.isSome_iff_exists.1 this
          simp [hi']
      obtain ⟨us', hf, hr⟩ := fill_sound (partsR_of hF ps.toList hq) (us := zv.cells.toList) (relL_cval1 _) hfl
      have hfun : fieldPlace' P fs = fun i => (fs.map fun f => (f.offset, ((P.info? f.type).map (·.size)).getD 0))[i]? := funext hpl
      rw [hfun] at hf
      refine outc_pure (u := .agg us'.toArray) hM ?_ (by simp only [Rel]; exact ⟨us', rfl, hr⟩)
      have hpl' : (fs.mapM fun f => do pure (f.offset, ← sizeOf f.type) : Sem (Array (Nat × Nat))).run P w = .ok (fs.map fun f => (f.offset, ((P.info? f.type).map (·.size)).getD 0)) w := by
        have := run_places (P := P) (w := w) (fs := fs.toList) fun f hf => Array.all_eq_true_iff_forall_mem.1 hall f (by simpa using hf)
        rw [← Array.toArray_toList (xs := fs)]
        rw [List.mapM_toArray]
        simp only [Sem.run_map, this, Result.andThen_ok]
        congr 1
        exact Array.ext' (by simp)
      simp only [Instr.build, Sem.run_bind, hzv, Result.andThen_ok, underlying, run_program, hu, hpl', Sem.run_pure]
      have hm : (Array.map (fun x => (x.fst, a.eval x.snd)) ps).toList = ps.toList.map fun p => (p.1, a.eval p.2) := by simp
      simp only [Array.toArray_toList] at hf
      simp only [hm, hf, Sem.run_pure]
    · cases hc
  · rename_i len e' z hu hz
    split at hc
    · rename_i i hi
      rw [Option.map_eq_some_iff] at hc
      obtain ⟨qs, hq, rfl⟩ := hc
      simp only [aevN, Option.map_eq_some_iff] at he
      obtain ⟨cs, hfl, he⟩ := he
      cases he
      obtain ⟨zv, hzv, rfl⟩ := run_zero (w := w) hz
      obtain ⟨us', hf, hr⟩ := fill_sound (partsR_of hF ps.toList hq) (us := zv.cells.toList) (relL_cval1 _) hfl
      refine outc_pure (u := .agg us'.toArray) hM ?_ (by simp only [Rel]; exact ⟨us', rfl, hr⟩)
      simp only [Instr.build, Sem.run_bind, hzv, Result.andThen_ok, underlying, run_program, hu, run_sizeOf hi, Sem.run_pure]
      have hm : (Array.map (fun x => (x.fst, a.eval x.snd)) ps).toList = ps.toList.map fun p => (p.1, a.eval p.2) := by simp
      simp only [Array.toArray_toList] at hf
      simp only [hm, hf, Sem.run_pure]
    · cases hc
  · cases hc

theorem outc_bslice {T len : Nat} {ps : Array (Nat × Operand)} {ao : AOp} (hc : cOp P (.buildSlice T len ps) = some ao) (hF : FR c w t a.tmps) (hM : MR c m w) (hn : c.φ n = .free) {v : AV} {e : Eff}
    (he : aevN ao t m n = some (v, e)) : Outc P (do pure (.value (← Instr.buildSlice T len (ps.map fun (i, x) => (i, a.eval x))))) c m n w v e := by
  simp only [cOp] at hc
  split at hc
  · rename_i el hu
    split at hc
    · rename_i i z hi hz
      split at hc
      · rename_i hcond
        obtain ⟨hzl, hle⟩ := hcond
        rw [Option.map_eq_some_iff] at hc
        obtain ⟨qs, hq, rfl⟩ := hc
        simp only [aevN, Option.map_eq_some_iff] at he
        obtain ⟨cs, hfl, he⟩ := he
        cases he
        obtain ⟨zv, hzv, hzz⟩ := run_zero (w := w) hz
        have hzr : RelL c w z zv.cells.toList := by rw [hzz]; exact relL_cval1 _
        have hzl2 := hzr.length
        have hz0 : len * i.size = 0 ∨ z.length ≠ 0 := by
          rcases Nat.eq_zero_or_pos (len * i.size) with h | h
          · exact .inl h
          · right
            intro h0
            rw [h0] at hzl
            rw [← hzl] at h
            simp at h
        obtain ⟨us', hf, hr⟩ := fill_sound (partsR_of hF ps.toList hq) (relL_range hzr (len * i.size) hz0) hfl
        have hlen' : us'.length = cs.length := hr.length
        have hcells : cs.length = len * i.size := by
          have : ∀ (qs : List (Nat × Nat × AV)) (cs cs' : List AV), fillA cs qs = some cs' → cs'.length = cs.length := by
            intro qs
            induction qs with
            | nil => intro cs cs' h; simp only [fillA, Option.some.injEq] at h; rw [h]
            | cons p qs ih =>
              obtain ⟨o, s, x⟩ := p
              intro cs cs' h
              simp only [fillA] at h
              split at h
              · split at h
                · rw [ih _ _ h, length_putAt]
                · cases h
              · cases h
          rw [this _ _ _ hfl]
          simp
        refine outc_new (u := .slice (some ⟨w.heap.size, 0, none⟩) len len) hM hn ?_ (oneMore_alloc w us'.toArray el) (noFz_zero _) (vs := us') (rest := []) (by simp) hr ?_
        · have hm : (Array.map (fun x => (x.fst, a.eval x.snd)) ps).toList = ps.toList.map fun p => (p.1, a.eval p.2) := by simp
          simp only [Instr.buildSlice, Sem.run_bind, underlying, run_program, Result.andThen_ok, hu, Sem.run_pure, run_sizeOf hi]
          rw [if_neg (by omega)]
          by_cases h0 : len * i.size = 0
          · rw [if_pos h0]
            rw [h0] at hf
            simp only [Sem.run_bind, Sem.run_pure, Result.andThen_ok, h0, show Array.range 0 = #[] from rfl, Array.map_empty]
            simp only [List.range_zero, List.map_nil] at hf
            simp only [hm, hf, Sem.run_bind, newRow, run_newObj, Result.andThen_ok, Sem.run_pure, World.alloc_eq]
          · rw [if_neg h0]
            have hmap : ((Array.range (len * i.size)).map fun x => zv.cells[x % zv.cells.size]!) = ((List.range (len * i.size)).map fun i => zv.cells.toList.toArray[i % zv.cells.toList.length]!).toArray := by
              apply Array.ext'
              simp only [Array.toList_map, Array.toList_range, Array.toArray_toList, Array.length_toList]
            simp only [Sem.run_bind, hzv, Sem.run_pure, Result.andThen_ok, hmap, hm, hf, newRow, run_newObj, World.alloc_eq]
        · simp only [Rel]
          refine .inr ⟨w.heap.size, len, len * i.size, Ctx.bind_eq, rfl, Nat.le_refl _, ?_, by omega⟩
          rw [rowSize_of_row (oneMore_alloc w us'.toArray el).row]
          simp; omega
      · cases hc
    · cases hc
  · cases hc

end
end Go.Jq
