/- The abstract layer, part 11: what an operation is evaluated to is what the model does: all operations but calls. -/
import Derived.Test.YtjfghjakpjfgpaaX10
namespace Go.Jq
open Go

section
variable {P : Program} {c : Ctx} {m : Mem} {n : Nat} {w : World} {t : Fr} {a : Act}

theorem partsMap (ps : Array (Nat × Operand)) : (ps.map fun (i, x) => (i, a.eval x)) = ps.map fun p => (p.1, a.eval p.2) := rfl

theorem outc_binop {op : BinOp} {T : TypeId} {x y : Operand} {yT : TypeId} {ao : AOp} (hc : cOp P (.binOp op T x y yT) = some ao) (hF : FR c w t a.tmps) (hM : MR c m w) {v : AV} {e : Eff}
    (he : aevN ao t m n = some (v, e)) : Outc P (do pure (.value (← (do eqGuard op T x y (a.eval x) (a.eval y); binOp op T (a.eval x) (a.eval y))))) c m n w v e := by
  simp only [cOp] at hc
  split at hc
  · cases hc; exact outc_bin hF hM he
  · cases hc; exact outc_bin hF hM he
  · rename_i hu
    split at hc <;> cases hc
    · exact outc_eqb (.inl ⟨rfl, rfl⟩) hu hF hM he
    · exact outc_eqb (.inr ⟨rfl, rfl⟩) hu hF hM he
  · rename_i el hu
    split at hc <;> cases hc
    · exact outc_eqp (.inl ⟨rfl, rfl⟩) hu hF hM he
    · exact outc_eqp (.inr ⟨rfl, rfl⟩) hu hF hM he
  · rename_i hu
    split at hc <;> cases hc
    · exact outc_eqf (.inl ⟨rfl, rfl⟩) hu hF hM he
    · exact outc_eqf (.inr ⟨rfl, rfl⟩) hu hF hM he
  · rename_i fs hu
    split at hc
    · rename_i ks hk
      split at hc
      · cases hc
      · rename_i hg
        split at hc <;> cases hc
        · exact outc_eqs (.inl ⟨rfl, rfl⟩) hu hk (by simpa using hg) hF hM he
        · exact outc_eqs (.inr ⟨rfl, rfl⟩) hu hk (by simpa using hg) hF hM he
    · cases hc
  · cases hc

theorem outc_convert {s d : TypeId} {x : Operand} {ao : AOp} (hc : cOp P (.convert s d x) = some ao) (hF : FR c w t a.tmps) (hM : MR c m w) (hn : c.φ n = .free) {v : AV} {e : Eff}
    (he : aevN ao t m n = some (v, e)) : Outc P (do pure (.value (← convert s d (a.eval x)))) c m n w v e := by
  simp only [cOp] at hc
  split at hc
  · rename_i k k' h1 h2; cases hc; exact outc_cvi h1 h2 hF hM he
  · rename_i k h1 h2; cases hc; exact outc_cvrune (.inl ⟨k, h1⟩) h2 hF hM he
  · rename_i h1 h2; cases hc; exact outc_cvrune (.inr h1) h2 hF hM he
  · rename_i el h1 h2
    split at hc
    · rename_i h3; cases hc; exact outc_cvbs h1 h3 h2 hF hM he
    · cases hc
  · rename_i el h1 h2
    split at hc
    · rename_i h3; cases hc; exact outc_cvsb h1 h2 h3 hF hM hn he
    · cases hc
  · rename_i e1 el h1 h2
    split at hc
    · rename_i hsd
      subst hsd
      split at hc
      · rename_i h3; cases hc; exact outc_cvll h2 h3 hF hM he
      · cases hc
    · cases hc
  · cases hc

theorem outc_slice {T : TypeId} {x : Operand} {lo hi : Option Operand} {ao : AOp} (hc : cOp P (.slice T x lo hi none) = some ao) (hF : FR c w t a.tmps) (hM : MR c m w) {v : AV} {e : Eff}
    (he : aevN ao t m n = some (v, e)) : Outc P (do pure (.value (← Instr.sliceAt T (a.eval x) (lo.map a.eval) (hi.map a.eval) none))) c m n w v e := by
  simp only [cOp] at hc
  split at hc
  · rename_i hu; cases hc; exact outc_slcs hu hF hM he
  · rename_i el hu
    split at hc
    · rename_i i hi; cases hc; exact outc_slcl hu hi hF hM he
    · cases hc
  · cases hc

theorem outc_builtin {b : Builtin} {ts : Array TypeId} {ty : TypeId} {cs : Array Bool} {args : Array Operand} {ao : AOp} (hc : cBuiltin P b ts args = some ao) (hF : FR c w t a.tmps) (hM : MR c m w) (hn : c.φ n = .free) {v : AV} {e : Eff}
    (he : aevN ao t m n = some (v, e)) : Outc P (builtin b ts ty cs (args.map a.eval)) c m n w v e := by
  unfold cBuiltin at hc
  split at hc
  · rename_i T x hts hargs
    have ha : args.map a.eval = #[a.eval x] := by rw [← Array.toArray_toList (xs := args), hargs]; simp
    rw [ha]
    split at hc
    · rename_i hu; cases hc; exact outc_lens hts hu hF hM he
    · rename_i el hu; cases hc; exact outc_lenl hts hu hF hM he
    · rename_i k el hu
      cases hc
      simp only [aevN, ev, Option.some.injEq, Prod.mk.injEq] at he
      obtain ⟨rfl, rfl⟩ := he
      have h0 : ts[0]? = some T := by rw [← Array.getElem?_toList, hts]; rfl
      refine outc_pure (u := .int .i64 k) hM ?_ (rel_int _ _)
      simp [Builtin.len_, h0, underlying, hu, goInt]
    · cases hc
  · rename_i s xT x y hts hargs
    have ha : args.map a.eval = #[a.eval x, a.eval y] := by rw [← Array.toArray_toList (xs := args), hargs]; simp
    rw [ha]
    split at hc
    · rename_i el u hs hx
      split at hc
      · cases hc
      · rename_i hne
        split at hc
        · rename_i i hi
          split at hc
          · rename_i z hz
            split at hc
            · rename_i hzs
              cases hc
              have h0 : ts[0]? = some s := by rw [← Array.getElem?_toList, hts]; rfl
              have h1 : ts[1]? = some xT := by rw [← Array.getElem?_toList, hts]; rfl
              exact outc_app (i := i) ⟨⟨s, h0, hs⟩, ⟨xT, u, h1, hx, fun k hk => by subst hk; exact absurd rfl hne⟩, hi, z, hz, hzs.1⟩ hF hM hn hzs.2 he
            · cases hc
          · cases hc
        · cases hc
    · cases hc
  · rename_i x y hargs
    have ha : args.map a.eval = #[a.eval x, a.eval y] := by rw [← Array.toArray_toList (xs := args), hargs]; simp
    rw [ha]
    cases hc
    exact outc_min hF hM he
  · rename_i x y hargs
    have ha : args.map a.eval = #[a.eval x, a.eval y] := by rw [← Array.toArray_toList (xs := args), hargs]; simp
    rw [ha]
    cases hc
    exact outc_max hF hM he
  · cases hc

/-- Every operation but a call of a Go function. -/
theorem aevN_sound {o : Oper} {ao : AOp} (hc : cOp P o.op = some ao) (hF : FR c w t a.tmps) (hM : MR c m w) (hn : c.φ n = .free) {v : AV} {e : Eff}
    (he : aevN ao t m n = some (v, e)) : Outc P (execOp a.eval o) c m n w v e := by
  obtain ⟨dst, op, ty, pos, after, guard⟩ := o
  simp only at hc
  cases op with
  | move x => simp only [cOp, Option.some.injEq] at hc; subst hc; simp only [aevN, Option.some.injEq, Prod.mk.injEq] at he; obtain ⟨rfl, rfl⟩ := he; exact outc_mv hF hM
  | assign x => simp only [cOp, Option.some.injEq] at hc; subst hc; simp only [aevN, Option.some.injEq, Prod.mk.injEq] at he; obtain ⟨rfl, rfl⟩ := he; exact outc_mv hF hM
  | pick x y z => simp only [cOp, Option.some.injEq] at hc; subst hc; exact outc_pick hF hM he
  | alloc T =>
    simp only [cOp, Option.map_eq_some_iff] at hc
    obtain ⟨z, hz, rfl⟩ := hc
    simp only [aevN, Option.some.injEq, Prod.mk.injEq] at he
    obtain ⟨rfl, rfl⟩ := he
    exact outc_alloc hz hM hn
  | box T x =>
    simp only [cOp, Option.some.injEq] at hc
    subst hc
    simp only [aevN, Option.map_eq_some_iff, Prod.mk.injEq] at he
    obtain ⟨cs, hcs, rfl, rfl⟩ := he
    exact outc_box hF hM hn hcs
  | build T ps => exact outc_build hc hF hM he
  | buildSlice T len ps => exact outc_bslice hc hF hM hn he
  | load T x =>
    simp only [cOp, Option.map_eq_some_iff] at hc
    obtain ⟨k, hk, rfl⟩ := hc
    exact outc_load hk hF hM he
  | store T x y =>
    simp only [cOp, Option.map_eq_some_iff] at hc
    obtain ⟨i, hi, rfl⟩ := hc
    exact outc_store hi hF hM he
  | nilCheck x =>
    simp only [cOp, Option.some.injEq] at hc
    subst hc
    obtain ⟨u, hu, rfl, hev, hsh⟩ := outc_nilck hF he
    have : execOp a.eval ⟨dst, .nilCheck x, ty, pos, after, guard⟩ = pure (.value u) := by
      rcases hsh with ⟨ad, rfl⟩ | ⟨f, cs, rfl⟩ <;> simp only [execOp, hev]
    rw [this]
    exact outc_val hM hu
  | binOp op T x y yT => exact outc_binop hc hF hM he
  | unOp op T x => simp only [cOp, Option.some.injEq] at hc; subst hc; exact outc_un hF hM he
  | convert s d x => exact outc_convert hc hF hM hn he
  | makeFunc f first caps =>
    cases f with
    | func f =>
      simp only [cOp] at hc
      split at hc
      · rename_i hf
        cases hc
        simp only [aevN, Option.some.injEq, Prod.mk.injEq] at he
        obtain ⟨rfl, rfl⟩ := he
        have : first = #[] := Array.isEmpty_iff.1 hf
        subst this
        have := outc_mkfn (P := P) (n := n) (f := f) (caps := caps) hF hM
        rw [← Array.map_empty (f := a.eval)] at this
        exact this
      · cases hc
    | _ => simp [cOp] at hc
  | makeSlice T l k =>
    simp only [cOp] at hc
    split at hc
    · rename_i el hu
      split at hc
      · rename_i i z hi hz
        split at hc
        · rename_i hcond; cases hc; exact outc_mksl hu hi hz hcond.2 hF hM hn he
        · cases hc
      · cases hc
    · cases hc
  | slice T x lo hi mx =>
    cases mx with
    | none => exact outc_slice hc hF hM he
    | some q => simp [cOp] at hc
  | fieldAddr s x f =>
    simp only [cOp] at hc
    split at hc
    · rename_i fs hu
      split at hc
      · rename_i off size hf
        split at hc
        · cases hc
        · rename_i hs; cases hc; exact outc_faddr hu hf hs hF hM he
      · cases hc
    · cases hc
  | field s x f =>
    simp only [cOp] at hc
    split at hc
    · rename_i fs hu
      split at hc
      · rename_i fd hf
        rw [Option.map_eq_some_iff] at hc
        obtain ⟨k, hk, rfl⟩ := hc
        exact outc_fld hu hf hk hF hM he
      · cases hc
    · cases hc
  | indexAddr T x i =>
    simp only [cOp] at hc
    split at hc
    · rename_i el hu
      rw [Option.map_eq_some_iff] at hc
      obtain ⟨i', hi', rfl⟩ := hc
      exact outc_iaddrS hu hi' hF hM he
    · rename_i k el hu
      rw [Option.map_eq_some_iff] at hc
      obtain ⟨i', hi', rfl⟩ := hc
      exact outc_iaddrA hu hi' hF hM he
    · cases hc
  | index T x i =>
    simp only [cOp] at hc
    split at hc
    · rename_i hu; cases hc; exact outc_idxs hu hF hM he
    · rename_i k el hu
      split at hc
      · rename_i i' q hi' hq; cases hc; exact outc_idxa hu hi' hq hF hM he
      · cases hc
    · cases hc
  | extract x i => simp only [cOp, Option.some.injEq] at hc; subst hc; exact outc_ext hF hM he
  | call cl =>
    obtain ⟨callee, args, ts⟩ := cl
    simp only [cOp] at hc
    cases callee with
    | builtin b => exact outc_builtin hc hF hM hn he
    | value f =>
      cases f with
      | func f =>
        simp only at hc
        split at hc
        · cases hc; simp [aevN] at he
        · cases hc
      | _ => simp only [Option.some.injEq] at hc; subst hc; simp [aevN] at he
    | invoke r mth => simp at hc
  | _ => simp [cOp] at hc

end
end Go.Jq
