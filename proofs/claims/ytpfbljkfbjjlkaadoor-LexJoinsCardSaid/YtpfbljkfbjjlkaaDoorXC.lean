/- The abstract layer: renaming, states, contracts. -/
import Derived.Test.YtpfbljkfbjjlkaaDoorXB
/-! The abstract layer, part 10: structs held against each other; all operations together. -/
namespace Go.Jq
open Go

section
variable {P : Program} {c : Ctx} {m : Mem} {n : Nat} {w : World} {t : Fr} {a : Act}

theorem eqCells_len : ∀ {ks : List Nat} {xs ys : List AV} {b : Bool}, eqCells ks xs ys = some b → xs.length = ks.length ∧ ys.length = ks.length
  | [], [], [], _, _ => ⟨rfl, rfl⟩
  | [], [], _ :: _, _, h => by simp [eqCells] at h
  | [], _ :: _, _, _, h => by simp [eqCells] at h
  | _ :: _, [], _, _, h => by simp [eqCells] at h
  | _ :: _, _ :: _, [], _, h => by simp [eqCells] at h
  | k :: ks, x :: xs, y :: ys, b, h => by
    simp only [eqCells] at h
    split at h
    · rename_i p q h1 h2
      have := eqCells_len h2
      simp [this.1, this.2]
    · cases h

theorem eqCells_append : ∀ {ks ks' : List Nat} {xs ys : List AV} {b : Bool}, eqCells (ks ++ ks') xs ys = some b →
    ∃ p q, eqCells ks (xs.take ks.length) (ys.take ks.length) = some p ∧ eqCells ks' (xs.drop ks.length) (ys.drop ks.length) = some q ∧ b = (p && q)
  | [], ks', xs, ys, b, h => ⟨true, b, by simp [eqCells], by simpa using h, rfl⟩
  | k :: ks, ks', xs, ys, b, h => by
    cases xs with
    | nil => simp [eqCells] at h
    | cons x xs =>
      cases ys with
      | nil => simp [eqCells] at h
      | cons y ys =>
        simp only [List.cons_append, eqCells] at h
        split at h
        · rename_i p q h1 h2
          cases h
          obtain ⟨p', q', h3, h4, rfl⟩ := eqCells_append h2
          refine ⟨p && p', q', ?_, by simpa using h4, by rw [Bool.and_assoc]⟩
          simp only [List.length_cons, List.take_succ_cons, eqCells, h1, h3]
        · cases h

/-- What a type whose cells are plain asks of two values. -/
def EqTy (P : Program) (d : Nat) (T : TypeId) (ks : List Nat) : Prop :=
  ∀ (c : Ctx) (w : World) (xs ys : List AV) (us vs : List Value) (off : Nat) (b : Bool), RelL c w xs us → RelL c w ys vs → (P.info? T).map (·.size) = some ks.length →
    eqCells ks ((xs.drop off).take ks.length) ((ys.drop off).take ks.length) = some b →
    ∃ u v, (part T us.toArray off).run P w = .ok u w ∧ (part T vs.toArray off).run P w = .ok v w ∧ (Op.equalIn d T u v).run P w = .ok b w

theorem run_eqFields {d : Nat} {sz : TypeId → Option (List Nat)} (hsz : ∀ T ks, sz T = some ks → EqTy P d T ks) :
    ∀ {fs : List Field} {acc : Nat} {ks : List Nat} {xs ys : List AV} {us vs : List Value} {b : Bool}, flatFs P sz fs acc = some ks → RelL c w xs us → RelL c w ys vs →
      eqCells ks ((xs.drop acc).take ks.length) ((ys.drop acc).take ks.length) = some b → (Op.eqFields d us.toArray vs.toArray fs).run P w = .ok b w
  | [], acc, ks, xs, ys, us, vs, b, h, _, _, he => by
    simp only [flatFs, Option.some.injEq] at h
    subst h
    simp [eqCells] at he
    subst he
    rfl
  | f :: fs, acc, ks, xs, ys, us, vs, b, h, hx, hy, he => by
    simp only [flatFs] at h
    split at h
    · rename_i s hs
      split at h
      · rename_i hcond
        obtain ⟨h1, rfl, h3⟩ := hcond
        rw [Option.map_eq_some_iff] at h
        obtain ⟨r, hr, rfl⟩ := h
        obtain ⟨p, q, hp, hq, rfl⟩ := eqCells_append he
        rw [List.take_take, List.take_take, Nat.min_eq_left (by simp)] at hp
        rw [List.drop_take, List.drop_take, List.drop_drop, List.drop_drop] at hq
        have hle : (s ++ r).length - s.length = r.length := by simp
        rw [hle] at hq
        obtain ⟨u, v, hu, hv, heq⟩ := hsz _ _ hs c w xs ys us vs f.offset p hx hy h3 hp
        have ih := run_eqFields hsz hr hx hy hq
        simp only [Op.eqFields, ne_eq, h1, not_false_eq_true, if_true, Sem.run_bind, hu, hv, heq, Result.andThen_ok, Sem.run_ite, Sem.run_pure, ih]
        cases p <;> simp
      · cases h
    · cases h

theorem eqTy_of : ∀ (d : Nat) (T : TypeId) (ks : List Nat), flatSz P d T = some ks → ∀ D, d ≤ D → EqTy P D T ks
  | 0, T, ks, h, D, hD => by simp [flatSz] at h
  | d + 1, T, ks, h, 0, hD => by omega
  | d + 1, T, ks, h, D + 1, hD => by
    intro c w xs ys us vs off b hx hy hi he
    have scalar : ∀ k, ks = [k] → (isAgg T).run P w = .ok false w → (∀ x y u v, Rel c w x u → Rel c w y v → eqCell k x y = some b → (Op.equalIn (D + 1) T u v).run P w = .ok b w) →
        ∃ u v, (part T us.toArray off).run P w = .ok u w ∧ (part T vs.toArray off).run P w = .ok v w ∧ (Op.equalIn (D + 1) T u v).run P w = .ok b w := by
      intro k hk hagg hsc
      subst hk
      have hl := eqCells_len he
      cases hxd : xs.drop off with
      | nil => rw [hxd] at hl; simp at hl
      | cons x xr =>
        cases hyd : ys.drop off with
        | nil => rw [hyd] at hl; simp at hl
        | cons y yr =>
          rw [hxd, hyd] at he
          simp only [List.length_cons, List.length_nil, Nat.zero_add, List.take_succ_cons, List.take_zero, eqCells] at he
          split at he
          · rename_i p q h1 h2
            cases h2
            cases he
            obtain ⟨u, hu, hru⟩ := (hx.drop off).get (i := 0) (x := x) (by rw [hxd]; rfl)
            obtain ⟨v, hv, hrv⟩ := (hy.drop off).get (i := 0) (x := y) (by rw [hyd]; rfl)
            have hu' : us[off]? = some u := by rw [← hu, List.getElem?_drop]; simp
            have hv' : vs[off]? = some v := by rw [← hv, List.getElem?_drop]; simp
            refine ⟨u, v, ?_, ?_, hsc x y u v hru hrv (by simpa using h1)⟩
            · simp only [part, Sem.run_bind, hagg, Result.andThen_ok, Bool.false_eq_true, if_false, List.getElem?_toArray, hu', Sem.run_pure]
            · simp only [part, Sem.run_bind, hagg, Result.andThen_ok, Bool.false_eq_true, if_false, List.getElem?_toArray, hv', Sem.run_pure]
          · cases he
    simp only [flatSz] at h
    split at h
    · rename_i k hu
      cases h
      refine scalar 0 rfl (by simp [isAgg, underlying, hu]) fun x y u v hx hy h => ?_
      unfold eqCell at h
      split at h
      · have e1 := rel_d_int hx
        have e2 := rel_d_int hy
        subst e1 e2
        split at h
        · rename_i hkk
          subst hkk
          cases h
          rw [run_equalIn_int w D T _ k _ _ hu]; rfl
        · cases h
      · cases ‹(0 : Nat) = 1›
      · cases ‹(0 : Nat) = 2›
      · cases h
    · rename_i hu
      cases h
      refine scalar 1 rfl (by simp [isAgg, underlying, hu]) fun x y u v hx hy h => ?_
      unfold eqCell at h
      split at h
      · cases ‹(1 : Nat) = 0›
      · have e1 := rel_d_bool hx
        have e2 := rel_d_bool hy
        subst e1 e2
        cases h
        rw [run_equalIn_bool' w D T _ _ hu]
      · cases ‹(1 : Nat) = 2›
      · cases h
    · rename_i hu
      cases h
      refine scalar 2 rfl (by simp [isAgg, underlying, hu]) fun x y u v hx hy h => ?_
      unfold eqCell at h
      split at h
      · cases ‹(2 : Nat) = 0›
      · cases ‹(2 : Nat) = 1›
      · have e1 := rel_d_str hx
        have e2 := rel_d_str hy
        subst e1 e2
        cases h
        rw [run_equalIn_string w D T _ _ hu]
        simp only [ByteArray.toList_mk]
        congr 1
        rw [Bool.eq_iff_iff]
        simp
      · cases h
    · rename_i fs hu
      split at h
      · cases h
      · rename_i hst
        have hagg : (isAgg T).run P w = .ok true w := by simp [isAgg, underlying, hu]
        obtain ⟨i, hi', his⟩ := Option.map_eq_some_iff.1 hi
        have hfo : P.fieldsOf T = fs := by simp [Program.fieldsOf, hu]
        have hext : ∀ zs : List Value, zs.toArray.extract off (off + ks.length) = ((zs.drop off).take ks.length).toArray := by
          intro zs
          apply Array.ext'
          simp only [Array.toList_extract, List.extract_eq_take_drop]
          simp
        refine ⟨.agg ((us.drop off).take ks.length).toArray, .agg ((vs.drop off).take ks.length).toArray, ?_, ?_, ?_⟩
        · simp only [part, Sem.run_bind, hagg, Result.andThen_ok, if_true, run_sizeOf hi', his, Sem.run_pure, hext]
        · simp only [part, Sem.run_bind, hagg, Result.andThen_ok, if_true, run_sizeOf hi', his, Sem.run_pure, hext]
        · rw [run_equalIn_struct w D T _ _ (by rw [hfo]; exact hu) (by simpa using hst), hfo]
          refine run_eqFields (fun T' ks' h' => eqTy_of d T' ks' h' D (by omega)) h ((hx.drop off).take _) ((hy.drop off).take _) ?_
          rw [List.drop_zero, List.drop_zero, List.take_take, List.take_take, Nat.min_self]
          exact he
    · cases h

theorem outc_eqs {op : BinOp} {neg : Bool} (hop : (op = .eql ∧ neg = false) ∨ (op = .neq ∧ neg = true)) {T : TypeId} {fs : Array Field} {ks : List Nat} (hu : P.underlying T = some (.struct fs))
    (hk : flatSz P 20 T = some ks) (hg : P.eqGuardType P.depth T = false) {x y : Operand} (hF : FR c w t a.tmps) (hM : MR c m w) {v : AV} {e : Eff} (he : aevN (.eqs ks neg (cOpd x) (cOpd y)) t m n = some (v, e)) :
    Outc P (do pure (.value (← (do eqGuard op T x y (a.eval x) (a.eval y); binOp op T (a.eval x) (a.eval y))))) c m n w v e := by
  have hx := rel_ev hF x
  have hy := rel_ev hF y
  simp only [aevN] at he
  split at he
  · rename_i xs ys h1 h2
    rw [h1] at hx
    rw [h2] at hy
    rw [Option.map_eq_some_iff] at he
    obtain ⟨b, hb, he⟩ := he
    cases he
    obtain ⟨us, e1, hru⟩ := rel_agg hx
    obtain ⟨vs, e2, hrv⟩ := rel_agg hy
    have heq : (Op.equalIn 10000 T (.agg us.toArray) (.agg vs.toArray)).run P w = .ok b w := by
      have hfo : P.fieldsOf T = fs := by simp [Program.fieldsOf, hu]
      rw [show (20 : Nat) = 19 + 1 from rfl, flatSz, hu] at hk
      dsimp only at hk
      split at hk
      · cases hk
      · rename_i hst
        rw [run_equalIn_struct w 9999 T _ _ (by rw [hfo]; exact hu) (by simpa using hst), hfo]
        refine run_eqFields (fun T' ks' h' => eqTy_of 19 T' ks' h' 9999 (by omega)) hk hru hrv ?_
        have hl := eqCells_len hb
        rw [List.drop_zero, List.drop_zero, List.take_of_length_le (by omega), List.take_of_length_le (by omega)]
        exact hb
    refine outc_pure hM ?_ (rel_boolA _)
    rw [e1, e2]
    rcases hop with ⟨rfl, rfl⟩ | ⟨rfl, rfl⟩
    · simp only [Sem.run_bind, run_eqGuard_agg _ _ _ _ _ _ _ hg, Result.andThen_ok, run_eql_struct, heq, Bool.bne_false]
    · simp only [Sem.run_bind, run_eqGuard_agg _ _ _ _ _ _ _ hg, Result.andThen_ok, run_neq_struct, heq, Bool.bne_true]
  · cases he

end
end Go.Jq

/-! The abstract layer, part 11: what an operation is evaluated to is what the model does: all operations but calls. -/
namespace Go.Jq
open Go

section
variable {P : Program} {c : Ctx} {m : Mem} {n : Nat} {w : World} {t : Fr} {a : Act}

theorem partsMap (ps : Array (Nat × Operand)) : (ps.map fun (i, x) => (i, a.eval x)) = ps.map fun p => (p.1, a.eval p.2) := rfl

theorem outc_binop {op : BinOp} {T : TypeId} {x y : Operand} {yT : TypeId} {ao : AOp} (hc : cOp P (.binOp op T x y yT) = some ao) (hF : FR c w t a.tmps) (hM : MR c m w) {v : AV} {e : Eff}
    (he : aevN ao t m n = some (v, e)) : Outc P (do pure (.value (← (do eqGuard op T x y (a.eval x) (a.eval y); binOp op T (a.eval x) (a.eval y))))) c m n w v e := by
  simp only [cOp] at hc
  split at hc
  · cases hc; exact outc_bin hF hM he
  · cases hc; exact outc_bin hF hM he
  · rename_i hu
    split at hc <;> cases hc
    · exact outc_eqb (.inl ⟨rfl, rfl⟩) hu hF hM he
    · exact outc_eqb (.inr ⟨rfl, rfl⟩) hu hF hM he
  · rename_i el hu
    split at hc <;> cases hc
    · exact outc_eqp (.inl ⟨rfl, rfl⟩) hu hF hM he
    · exact outc_eqp (.inr ⟨rfl, rfl⟩) hu hF hM he
  · rename_i hu
    split at hc <;> cases hc
    · exact outc_eqf (.inl ⟨rfl, rfl⟩) hu hF hM he
    · exact outc_eqf (.inr ⟨rfl, rfl⟩) hu hF hM he
  · rename_i fs hu
    split at hc
    · rename_i ks hk
      split at hc
      · cases hc
      · rename_i hg
        split at hc <;> cases hc
        · exact outc_eqs (.inl ⟨rfl, rfl⟩) hu hk (by simpa using hg) hF hM he
        · exact outc_eqs (.inr ⟨rfl, rfl⟩) hu hk (by simpa using hg) hF hM he
    · cases hc
  · cases hc

theorem outc_convert {s d : TypeId} {x : Operand} {ao : AOp} (hc : cOp P (.convert s d x) = some ao) (hF : FR c w t a.tmps) (hM : MR c m w) (hn : c.φ n = .free) {v : AV} {e : Eff}
    (he : aevN ao t m n = some (v, e)) : Outc P (do pure (.value (← convert s d (a.eval x)))) c m n w v e := by
  simp only [cOp] at hc
  split at hc
  · rename_i k k' h1 h2; cases hc; exact outc_cvi h1 h2 hF hM he
  · rename_i k h1 h2; cases hc; exact outc_cvrune (.inl ⟨k, h1⟩) h2 hF hM he
  · rename_i h1 h2; cases hc; exact outc_cvrune (.inr h1) h2 hF hM he
  · rename_i el h1 h2
    split at hc
    · rename_i h3; cases hc; exact outc_cvbs h1 h3 h2 hF hM he
    · cases hc
  · rename_i el h1 h2
    split at hc
    · rename_i h3; cases hc; exact outc_cvsb h1 h2 h3 hF hM hn he
    · cases hc
  · rename_i e1 el h1 h2
    split at hc
    · rename_i hsd
      subst hsd
      split at hc
      · rename_i h3; cases hc; exact outc_cvll h2 h3 hF hM he
      · cases hc
    · cases hc
  · cases hc

theorem outc_slice {T : TypeId} {x : Operand} {lo hi : Option Operand} {ao : AOp} (hc : cOp P (.slice T x lo hi none) = some ao) (hF : FR c w t a.tmps) (hM : MR c m w) {v : AV} {e : Eff}
    (he : aevN ao t m n = some (v, e)) : Outc P (do pure (.value (← Instr.sliceAt T (a.eval x) (lo.map a.eval) (hi.map a.eval) none))) c m n w v e := by
  simp only [cOp] at hc
  split at hc
  · rename_i hu; cases hc; exact outc_slcs hu hF hM he
  · rename_i el hu
    split at hc
    · rename_i i hi; cases hc; exact outc_slcl hu hi hF hM he
    · cases hc
  · cases hc

theorem outc_builtin {b : Builtin} {ts : Array TypeId} {ty : TypeId} {cs : Array Bool} {args : Array Operand} {ao : AOp} (hc : cBuiltin P b ts args = some ao) (hF : FR c w t a.tmps) (hM : MR c m w) (hn : c.φ n = .free) {v : AV} {e : Eff}
    (he : aevN ao t m n = some (v, e)) : Outc P (builtin b ts ty cs (args.map a.eval)) c m n w v e := by
  unfold cBuiltin at hc
  split at hc
  · rename_i T x hts hargs
    have ha : args.map a.eval = #[a.eval x] := by rw [← Array.toArray_toList (xs := args), hargs]; simp
    rw [ha]
    split at hc
    · rename_i hu; cases hc; exact outc_lens hts hu hF hM he
    · rename_i el hu; cases hc; exact outc_lenl hts hu hF hM he
    · rename_i k el hu
      cases hc
      simp only [aevN, ev, Option.some.injEq, Prod.mk.injEq] at he
      obtain ⟨rfl, rfl⟩ := he
      have h0 : ts[0]? = some T := by rw [← Array.getElem?_toList, hts]; rfl
      refine outc_pure (u := .int .i64 k) hM ?_ (rel_int _ _)
      simp [Builtin.len_, h0, underlying, hu, goInt]
    · cases hc
  · rename_i s xT x y hts hargs
    have ha : args.map a.eval = #[a.eval x, a.eval y] := by rw [← Array.toArray_toList (xs := args), hargs]; simp
    rw [ha]
    split at hc
    · rename_i el u hs hx
      split at hc
      · cases hc
      · rename_i hne
        split at hc
        · rename_i i hi
          split at hc
          · rename_i z hz
            split at hc
            · rename_i hzs
              cases hc
              have h0 : ts[0]? = some s := by rw [← Array.getElem?_toList, hts]; rfl
              have h1 : ts[1]? = some xT := by rw [← Array.getElem?_toList, hts]; rfl
              exact outc_app (i := i) ⟨⟨s, h0, hs⟩, ⟨xT, u, h1, hx, fun k hk => by subst hk; exact absurd rfl hne⟩, hi, z, hz, hzs.1⟩ hF hM hn hzs.2 he
            · cases hc
          · cases hc
        · cases hc
    · cases hc
  · rename_i x y hargs
    have ha : args.map a.eval = #[a.eval x, a.eval y] := by rw [← Array.toArray_toList (xs := args), hargs]; simp
    rw [ha]
    cases hc
    exact outc_min hF hM he
  · rename_i x y hargs
    have ha : args.map a.eval = #[a.eval x, a.eval y] := by rw [← Array.toArray_toList (xs := args), hargs]; simp
    rw [ha]
    cases hc
    exact outc_max hF hM he
  · cases hc

/-- Every operation but a call of a Go function. -/
theorem aevN_sound {o : Oper} {ao : AOp} (hc : cOp P o.op = some ao) (hF : FR c w t a.tmps) (hM : MR c m w) (hn : c.φ n = .free) {v : AV} {e : Eff}
    (he : aevN ao t m n = some (v, e)) : Outc P (execOp a.eval o) c m n w v e := by
  obtain ⟨dst, op, ty, pos, after, guard⟩ := o
  simp only at hc
  cases op with
  | move x => simp only [cOp, Option.some.injEq] at hc; subst hc; simp only [aevN, Option.some.injEq, Prod.mk.injEq] at he; obtain ⟨rfl, rfl⟩ := he; exact outc_mv hF hM
  | assign x => simp only [cOp, Option.some.injEq] at hc; subst hc; simp only [aevN, Option.some.injEq, Prod.mk.injEq] at he; obtain ⟨rfl, rfl⟩ := he; exact outc_mv hF hM
  | pick x y z => simp only [cOp, Option.some.injEq] at hc; subst hc; exact outc_pick hF hM he
  | alloc T =>
    simp only [cOp, Option.map_eq_some_iff] at hc
    obtain ⟨z, hz, rfl⟩ := hc
    simp only [aevN, Option.some.injEq, Prod.mk.injEq] at he
    obtain ⟨rfl, rfl⟩ := he
    exact outc_alloc hz hM hn
  | box T x =>
    simp only [cOp, Option.some.injEq] at hc
    subst hc
    simp only [aevN, Option.map_eq_some_iff, Prod.mk.injEq] at he
    obtain ⟨cs, hcs, rfl, rfl⟩ := he
    exact outc_box hF hM hn hcs
  | build T ps => exact outc_build hc hF hM he
  | buildSlice T len ps => exact outc_bslice hc hF hM hn he
  | load T x =>
    simp only [cOp, Option.map_eq_some_iff] at hc
    obtain ⟨k, hk, rfl⟩ := hc
    exact outc_load hk hF hM he
  | store T x y =>
    simp only [cOp, Option.map_eq_some_iff] at hc
    obtain ⟨i, hi, rfl⟩ := hc
    exact outc_store hi hF hM he
  | nilCheck x =>
    simp only [cOp, Option.some.injEq] at hc
    subst hc
    obtain ⟨u, hu, rfl, hev, hsh⟩ := outc_nilck hF he
    have : execOp a.eval ⟨dst, .nilCheck x, ty, pos, after, guard⟩ = pure (.value u) := by
      rcases hsh with ⟨ad, rfl⟩ | ⟨f, cs, rfl⟩ <;> simp only [execOp, hev]
    rw [this]
    exact outc_val hM hu
  | binOp op T x y yT => exact outc_binop hc hF hM he
  | unOp op T x => simp only [cOp, Option.some.injEq] at hc; subst hc; exact outc_un hF hM he
  | convert s d x => exact outc_convert hc hF hM hn he
  | makeFunc f first caps =>
    cases f with
    | func f =>
      simp only [cOp] at hc
      split at hc
      · rename_i hf
        cases hc
        simp only [aevN, Option.some.injEq, Prod.mk.injEq] at he
        obtain ⟨rfl, rfl⟩ := he
        have : first = #[] := Array.isEmpty_iff.1 hf
        subst this
        have := outc_mkfn (P := P) (n := n) (f := f) (caps := caps) hF hM
        rw [← Array.map_empty (f := a.eval)] at this
        exact this
      · cases hc
    | _ => simp [cOp] at hc
  | makeSlice T l k =>
    simp only [cOp] at hc
    split at hc
    · rename_i el hu
      split at hc
      · rename_i i z hi hz
        split at hc
        · rename_i hcond; cases hc; exact outc_mksl hu hi hz hcond.2 hF hM hn he
        · cases hc
      · cases hc
    · cases hc
  | slice T x lo hi mx =>
    cases mx with
    | none => exact outc_slice hc hF hM he
    | some q => simp [cOp] at hc
  | fieldAddr s x f =>
    simp only [cOp] at hc
    split at hc
    · rename_i fs hu
      split at hc
      · rename_i off size hf
        split at hc
        · cases hc
        · rename_i hs; cases hc; exact outc_faddr hu hf hs hF hM he
      · cases hc
    · cases hc
  | field s x f =>
    simp only [cOp] at hc
    split at hc
    · rename_i fs hu
      split at hc
      · rename_i fd hf
        rw [Option.map_eq_some_iff] at hc
        obtain ⟨k, hk, rfl⟩ := hc
        exact outc_fld hu hf hk hF hM he
      · cases hc
    · cases hc
  | indexAddr T x i =>
    simp only [cOp] at hc
    split at hc
    · rename_i el hu
      rw [Option.map_eq_some_iff] at hc
      obtain ⟨i', hi', rfl⟩ := hc
      exact outc_iaddrS hu hi' hF hM he
    · rename_i k el hu
      rw [Option.map_eq_some_iff] at hc
      obtain ⟨i', hi', rfl⟩ := hc
      exact outc_iaddrA hu hi' hF hM he
    · cases hc
  | index T x i =>
    simp only [cOp] at hc
    split at hc
    · rename_i hu; cases hc; exact outc_idxs hu hF hM he
    · rename_i k el hu
      split at hc
      · rename_i i' q hi' hq; cases hc; exact outc_idxa hu hi' hq hF hM he
      · cases hc
    · cases hc
  | extract x i => simp only [cOp, Option.some.injEq] at hc; subst hc; exact outc_ext hF hM he
  | call cl =>
    obtain ⟨callee, args, ts⟩ := cl
    simp only [cOp] at hc
    cases callee with
    | builtin b => exact outc_builtin hc hF hM hn he
    | value f =>
      cases f with
      | func f =>
        simp only at hc
        split at hc
        · cases hc; simp [aevN] at he
        · cases hc
      | _ => simp only [Option.some.injEq] at hc; subst hc; simp [aevN] at he
    | invoke r mth => simp at hc
  | _ => simp [cOp] at hc

end
end Go.Jq

/-! The abstract layer, part 12: renaming of own blocks, states, and what it means that a state stands to a frame and a world. -/
namespace Go.Jq
open Go

/-! ### Renaming -/

abbrev Ren := List (Nat × Nat)

def pget : Ren → Nat → Option Nat
  | [], _ => none
  | (i, j) :: r, k => if i = k then some j else pget r k

mutual
def AV.ren (π : Nat → Option Nat) : AV → AV
  | .d x => .d x
  | .ptr id off => match π id with
    | some j => .ptr j off
    | none => .any
  | .npt id T => match π id with
    | some j => .npt j T
    | none => .any
  | .dptr cs => .dptr cs
  | .sl id esz off len => match π id with
    | some j => .sl j esz off len
    | none => .any
  | .slT id T len => match π id with
    | some j => .slT j T len
    | none => .any
  | .fn f caps => .fn f (renL π caps)
  | .agg cs => .agg (renL π cs)
  | .tup vs => .tup (renL π vs)
  | .any => .any
def renL (π : Nat → Option Nat) : List AV → List AV
  | [] => []
  | x :: xs => x.ren π :: renL π xs
end

@[simp] theorem renL_d (π : Nat → Option Nat) (l : List DV) : renL π (l.map .d) = l.map .d := by
  induction l with
  | nil => rfl
  | cons x l ih => simp only [List.map_cons, renL, AV.ren, ih]

theorem renL_append (π : Nat → Option Nat) (l l' : List AV) : renL π (l ++ l') = renL π l ++ renL π l' := by
  induction l with
  | nil => rfl
  | cons x l ih => simp only [List.cons_append, renL, ih]

theorem renL_length (π : Nat → Option Nat) (l : List AV) : (renL π l).length = l.length := by
  induction l with
  | nil => rfl
  | cons x l ih => simp only [renL, List.length_cons, ih]

mutual
theorem rel_ren {c c' : Ctx} {w : World} {π : Nat → Option Nat} (hI : ∀ b, c.imm b → c'.imm b) (hφ : ∀ id j, π id = some j → c.φ id ≠ .free → c'.φ j = c.φ id) :
    ∀ (x : AV) (v : Value), Rel c w x v → Rel c' w (x.ren π) v
  | .d x, v, h => by simp only [AV.ren, Rel] at h ⊢; exact relD_mono hI (fun _ _ => rfl) x v h
  | .ptr id off, v, h => by
    simp only [AV.ren, Rel] at h ⊢
    obtain ⟨b, hb, hv⟩ := h
    split
    · rename_i j hj
      simp only [Rel]
      exact ⟨b, by rw [hφ id j hj (by rw [hb]; simp)]; exact hb, hv⟩
    · simp [Rel]
  | .npt id T, v, h => by
    simp only [AV.ren, Rel] at h ⊢
    obtain ⟨hv, b, hb, hs⟩ := h
    split
    · rename_i j hj
      simp only [Rel]
      exact ⟨hv, b, by rw [hφ id j hj (by rw [hb]; simp)]; exact hb, hs⟩
    · simp [Rel]
  | .dptr cs, v, h => by
    simp only [AV.ren, Rel] at h ⊢
    obtain ⟨b, o, hb, hv, hc⟩ := h
    exact ⟨b, o, hI b hb, hv, relDs_mono hI (fun _ _ => rfl) cs b o hb hc⟩
  | .sl id esz off len, v, h => by
    simp only [AV.ren, Rel] at h ⊢
    split
    · rename_i j hj
      simp only [Rel]
      rcases h with ⟨h0, h⟩ | ⟨b, cap, n, hb, h⟩
      · exact .inl ⟨by rw [hφ id j hj (by rw [h0]; simp)]; exact h0, h⟩
      · exact .inr ⟨b, cap, n, by rw [hφ id j hj (by rw [hb]; simp)]; exact hb, h⟩
    · simp [Rel]
  | .slT id T len, v, h => by
    simp only [AV.ren, Rel] at h ⊢
    split
    · rename_i j hj
      simp only [Rel]
      rcases h with ⟨h0, h⟩ | ⟨b, cap, n, hb, h⟩
      · exact .inl ⟨by rw [hφ id j hj (by rw [h0]; simp)]; exact h0, h⟩
      · exact .inr ⟨b, cap, n, by rw [hφ id j hj (by rw [hb]; simp)]; exact hb, h⟩
    · simp [Rel]
  | .fn f caps, v, h => by
    simp only [AV.ren, Rel] at h ⊢
    obtain ⟨vs, hv, hl⟩ := h
    exact ⟨vs, hv, relL_ren hI hφ caps vs hl⟩
  | .agg cs, v, h => by
    simp only [AV.ren, Rel] at h ⊢
    obtain ⟨vs, hv, hl⟩ := h
    exact ⟨vs, hv, relL_ren hI hφ cs vs hl⟩
  | .tup cs, v, h => by
    simp only [AV.ren, Rel] at h ⊢
    obtain ⟨vs, hv, hl⟩ := h
    exact ⟨vs, hv, relL_ren hI hφ cs vs hl⟩
  | .any, _, _ => by simp [AV.ren, Rel]
theorem relL_ren {c c' : Ctx} {w : World} {π : Nat → Option Nat} (hI : ∀ b, c.imm b → c'.imm b) (hφ : ∀ id j, π id = some j → c.φ id ≠ .free → c'.φ j = c.φ id) :
    ∀ (xs : List AV) (vs : List Value), RelL c w xs vs → RelL c' w (renL π xs) vs
  | [], _, h => by simpa [renL, RelL] using h
  | x :: xs, vs, h => by
    simp only [renL, RelL] at h ⊢
    obtain ⟨v, vs', hv, hx, hl⟩ := h
    exact ⟨v, vs', hv, rel_ren hI hφ x v hx, relL_ren hI hφ xs vs' hl⟩
end

mutual
/-- All numbers in the value are the renaming's. -/
def inB (π : Nat → Option Nat) : AV → Bool
  | .d _ => true
  | .ptr id _ => (π id).isSome
  | .npt id _ => (π id).isSome
  | .dptr _ => true
  | .sl id _ _ _ => (π id).isSome
  | .slT id _ _ => (π id).isSome
  | .fn _ caps => inL π caps
  | .agg cs => inL π cs
  | .tup vs => inL π vs
  | .any => true
def inL (π : Nat → Option Nat) : List AV → Bool
  | [] => true
  | x :: xs => inB π x && inL π xs
end

@[simp] theorem inL_d (π : Nat → Option Nat) (l : List DV) : inL π (l.map .d) = true := by
  induction l with
  | nil => rfl
  | cons x l ih => simp only [List.map_cons, inL, inB, ih, Bool.and_self]

mutual
/-- Backwards: what stands to the renamed value stands to the value itself, in a context that looks through the renaming. -/
theorem rel_unren {c c' : Ctx} {w : World} {π : Nat → Option Nat} (hI : ∀ b, c'.imm b → c.imm b) (hφ : ∀ id j, π id = some j → c.φ id = c'.φ j) :
    ∀ (x : AV) (v : Value), inB π x = true → Rel c' w (x.ren π) v → Rel c w x v
  | .d x, v, _, h => by simp only [AV.ren, Rel] at h ⊢; exact relD_mono hI (fun _ _ => rfl) x v h
  | .ptr id off, v, hn, h => by
    simp only [AV.ren, Rel] at h ⊢
    simp only [inB] at hn
    obtain ⟨j, hj⟩ := Option.isSome_iff_exists.1 hn
    simp only [hj, Rel] at h
    obtain ⟨b, hb, hv⟩ := h
    exact ⟨b, by rw [hφ id j hj]; exact hb, hv⟩
  | .npt id T, v, hn, h => by
    simp only [AV.ren, Rel] at h ⊢
    simp only [inB] at hn
    obtain ⟨j, hj⟩ := Option.isSome_iff_exists.1 hn
    simp only [hj, Rel] at h
    obtain ⟨hv, b, hb, hs⟩ := h
    exact ⟨hv, b, by rw [hφ id j hj]; exact hb, hs⟩
  | .dptr cs, v, _, h => by
    simp only [AV.ren, Rel] at h ⊢
    obtain ⟨b, o, hb, hv, hc⟩ := h
    exact ⟨b, o, hI b hb, hv, relDs_mono hI (fun _ _ => rfl) cs b o hb hc⟩
  | .sl id esz off len, v, hn, h => by
    simp only [AV.ren, Rel] at h ⊢
    simp only [inB] at hn
    obtain ⟨j, hj⟩ := Option.isSome_iff_exists.1 hn
    simp only [hj, Rel] at h
    rcases h with ⟨h0, h⟩ | ⟨b, cap, n, hb, h⟩
    · exact .inl ⟨by rw [hφ id j hj]; exact h0, h⟩
    · exact .inr ⟨b, cap, n, by rw [hφ id j hj]; exact hb, h⟩
  | .slT id T len, v, hn, h => by
    simp only [AV.ren, Rel] at h ⊢
    simp only [inB] at hn
    obtain ⟨j, hj⟩ := Option.isSome_iff_exists.1 hn
    simp only [hj, Rel] at h
    rcases h with ⟨h0, h⟩ | ⟨b, cap, n, hb, h⟩
    · exact .inl ⟨by rw [hφ id j hj]; exact h0, h⟩
    · exact .inr ⟨b, cap, n, by rw [hφ id j hj]; exact hb, h⟩
  | .fn f caps, v, hn, h => by
    simp only [AV.ren, Rel] at h ⊢
    simp only [inB] at hn
    obtain ⟨vs, hv, hl⟩ := h
    exact ⟨vs, hv, relL_unren hI hφ caps vs hn hl⟩
  | .agg cs, v, hn, h => by
    simp only [AV.ren, Rel] at h ⊢
    simp only [inB] at hn
    obtain ⟨vs, hv, hl⟩ := h
    exact ⟨vs, hv, relL_unren hI hφ cs vs hn hl⟩
  | .tup cs, v, hn, h => by
    simp only [AV.ren, Rel] at h ⊢
    simp only [inB] at hn
    obtain ⟨vs, hv, hl⟩ := h
    exact ⟨vs, hv, relL_unren hI hφ cs vs hn hl⟩
  | .any, _, _, _ => by simp [Rel]
theorem relL_unren {c c' : Ctx} {w : World} {π : Nat → Option Nat} (hI : ∀ b, c'.imm b → c.imm b) (hφ : ∀ id j, π id = some j → c.φ id = c'.φ j) :
    ∀ (xs : List AV) (vs : List Value), inL π xs = true → RelL c' w (renL π xs) vs → RelL c w xs vs
  | [], _, _, h => by simpa [renL, RelL] using h
  | x :: xs, vs, hn, h => by
    simp only [renL, RelL] at h ⊢
    simp only [inL, Bool.and_eq_true] at hn
    obtain ⟨v, vs', hv, hx, hl⟩ := h
    exact ⟨v, vs', hv, rel_unren hI hφ x v hn.1 hx, relL_unren hI hφ xs vs' hn.2 hl⟩
end

/-! ### States -/

structure St where
  t : Fr
  m : Mem
  n : Nat

/-- What a state's memory and numbers stand to. -/
structure CR (c : Ctx) (k : Nat) (S : St) (a : Act) (w : World) : Prop where
  defers : a.defers = []
  size : a.tmps.size = k
  fr : FR c w S.t a.tmps
  mr : MR c S.m w
  free : ∀ id, S.n ≤ id → c.φ id = .free

/-- How it was when the function was entered: its context, its memory (whose numbers are below n0), the world. -/
structure Env where
  c : Ctx
  m : Mem
  n : Nat
  w : World

structure Prov (E : Env) (c : Ctx) (m : Mem) (w : World) : Prop where
  step : Step (Own E.c E.m) E.c c E.w w
  own : ∀ b, Own c m b → Own E.c E.m b ∨ E.w.heap.size ≤ b
  keep : ∀ id, id < E.n → (mget m id).isSome → (mget E.m id).isSome ∧ c.φ id = E.c.φ id

def Conc (E : Env) (k : Nat) (S : St) (a : Act) (w : World) : Prop := ∃ c, CR c k S a w ∧ Prov E c S.m w

/-- A step from a state of the function's to another. -/
theorem Prov.next {E : Env} {c c' : Ctx} {m m' : Mem} {w w' : World} (h : Prov E c m w) (hs : Step (Own c m) c c' w w') (ho : ∀ b, Own c' m' b → Own c m b ∨ w.heap.size ≤ b)
    (hk : ∀ id, id < E.n → (mget m' id).isSome → (mget m id).isSome ∧ c'.φ id = c.φ id) : Prov E c' m' w' where
  step := h.step.trans hs h.own
  own := fun b hb => by
    rcases ho b hb with h1 | h1
    · exact h.own b h1
    · exact .inr (Nat.le_trans h.step.size h1)
  keep := fun id hid hm => by
    obtain ⟨h1, h2⟩ := hk id hid hm
    obtain ⟨h3, h4⟩ := h.keep id hid h1
    exact ⟨h3, h2.trans h4⟩

/-! ### From a state to a weaker one, its blocks renamed -/

def pinv : Ren → Nat → Option Nat
  | [], _ => none
  | (i, j) :: r, k => if j = k then some i else pinv r k

def entT (π : Ren) (t : Fr) : Fr → Prop
  | [] => True
  | (i, x) :: r => (fget t i).ren (pget π) = x ∧ entT π t r

def entM (π : Ren) (m : Mem) : Mem → Prop
  | [] => True
  | (j, cs) :: r => (match pinv π j with
    | some i => match mget m i with
      | some cs' => renL (pget π) cs' = cs
      | none => False
    | none => False) ∧ entM π m r

/-- The renaming is one to one, and its new numbers lie below n. -/
def okRen (n : Nat) : Ren → Bool
  | [] => true
  | (i, j) :: r => decide (j < n) && (r.all fun p => p.1 != i && p.2 != j) && okRen n r

/-- Numbers below n0 stay. -/
def keepRen (n0 : Nat) (π : Ren) : Bool := π.all fun p => decide (p.2 < n0) == false || p.1 == p.2

structure Ent (n0 : Nat) (π : Ren) (S S' : St) : Prop where
  t : entT π S.t S'.t
  m : entM π S.m S'.m
  ok : okRen S'.n π = true
  keep : keepRen n0 π = true

theorem pget_mem : ∀ {π : Ren} {i j : Nat}, pget π i = some j → (i, j) ∈ π
  | [], _, _, h => by simp [pget] at h
  | (i', j') :: r, i, j, h => by
    simp only [pget] at h
    split at h
    · rename_i e; cases h; subst e; exact List.mem_cons_self
    · exact List.mem_cons_of_mem _ (pget_mem h)

theorem pinv_mem : ∀ {π : Ren} {i j : Nat}, pinv π j = some i → (i, j) ∈ π
  | [], _, _, h => by simp [pinv] at h
  | (i', j') :: r, i, j, h => by
    simp only [pinv] at h
    split at h
    · rename_i e; cases h; subst e; exact List.mem_cons_self
    · exact List.mem_cons_of_mem _ (pinv_mem h)

theorem okRen_spec : ∀ {π : Ren} {n : Nat}, okRen n π = true → (∀ i j, (i, j) ∈ π → pget π i = some j ∧ pinv π j = some i ∧ j < n)
  | [], _, _ => fun _ _ h => by simp at h
  | (i', j') :: r, n, h => by
    simp only [okRen, Bool.and_eq_true, decide_eq_true_eq, List.all_eq_true] at h
    obtain ⟨⟨h1, h2⟩, h3⟩ := h
    intro i j hm
    rcases List.mem_cons.1 hm with e | hm
    · cases e
      simp [pget, pinv, h1]
    · obtain ⟨p1, p2, p3⟩ := okRen_spec h3 i j hm
      have := h2 (i, j) hm
      simp only [bne_iff_ne, ne_eq] at this
      refine ⟨?_, ?_, p3⟩
      · simp only [pget]; rw [if_neg (fun e => this.1 e.symm)]; exact p1
      · simp only [pinv]; rw [if_neg (fun e => this.2 e.symm)]; exact p2

theorem entT_get {π : Ren} {t : Fr} : ∀ {t' : Fr}, entT π t t' → ∀ i, fget t' i = .any ∨ (fget t i).ren (pget π) = fget t' i
  | [], _, i => .inl rfl
  | (k, x) :: r, h, i => by
    simp only [entT] at h
    simp only [fget]
    split
    · rename_i e; subst e; exact .inr h.1
    · exact entT_get h.2 i

theorem entM_get {π : Ren} {m : Mem} : ∀ {m' : Mem}, entM π m m' → ∀ j cs, mget m' j = some cs → ∃ i cs', pinv π j = some i ∧ mget m i = some cs' ∧ renL (pget π) cs' = cs
  | [], _, j, cs, h => by simp [mget] at h
  | (k, x) :: r, h, j, cs, hj => by
    simp only [entM] at h
    simp only [mget] at hj
    split at hj
    · rename_i e
      subst e
      cases hj
      obtain ⟨h, _⟩ := h
      split at h
      · rename_i i hi
        split at h
        · rename_i cs' hcs'
          exact ⟨i, cs', hi, hcs', h⟩
        · exact h.elim
      · exact h.elim
    · exact entM_get h.2 j cs hj

/-- The context behind a renaming. -/
def Ctx.ren (c : Ctx) (π : Ren) : Ctx := { c with φ := fun j => match pinv π j with
  | some i => c.φ i
  | none => .free }

theorem ren_φ {c : Ctx} {π : Ren} {n : Nat} (hok : okRen n π = true) {i j : Nat} (h : pget π i = some j) : (c.ren π).φ j = c.φ i := by
  obtain ⟨_, h2, _⟩ := okRen_spec hok i j (pget_mem h)
  simp only [Ctx.ren, h2]

theorem mr_ren {c : Ctx} {m m' : Mem} {w : World} {π : Ren} {n : Nat} (hok : okRen n π = true) (hM : MR c m w) (hm : entM π m m') : MR (c.ren π) m' w where
  own := fun j cs hj => by
    obtain ⟨i, cs', hi, hcs, rfl⟩ := entM_get hm j cs hj
    have hφ : (c.ren π).φ j = c.φ i := by simp only [Ctx.ren, hi]
    rcases hM.own i cs' hcs with ⟨h0, rfl⟩ | ⟨b, arr, T, f, hb, hni, hw, hf, vs, rest, ha, hr⟩
    · exact .inl ⟨hφ.trans h0, rfl⟩
    · exact .inr ⟨b, arr, T, f, hφ.trans hb, hni, hw, hf, vs, rest, ha, relL_ren (c := c) (c' := c.ren π) (fun _ h => h) (fun i j h _ => ren_φ hok h) _ _ hr⟩
  inj := fun j j' b hj hj' hb hb' => by
    obtain ⟨cs, hcs⟩ := Option.isSome_iff_exists.1 hj
    obtain ⟨cs', hcs'⟩ := Option.isSome_iff_exists.1 hj'
    obtain ⟨i, _, hi, hmi, _⟩ := entM_get hm j cs hcs
    obtain ⟨i', _, hi', hmi', _⟩ := entM_get hm j' cs' hcs'
    simp only [Ctx.ren, hi] at hb
    simp only [Ctx.ren, hi'] at hb'
    have := hM.inj i i' b (by rw [hmi]; rfl) (by rw [hmi']; rfl) hb hb'
    subst this
    have h1 := (okRen_spec hok i j (pinv_mem hi)).1
    have h2 := (okRen_spec hok i j' (pinv_mem hi')).1
    rw [h1] at h2
    exact Option.some.inj h2
  imm := hM.imm
  tab := hM.tab

theorem own_ren {c : Ctx} {m m' : Mem} {π : Ren} (hm : entM π m m') {b : Nat} (h : Own (c.ren π) m' b) : Own c m b := by
  obtain ⟨j, hj, hb⟩ := h
  obtain ⟨cs, hcs⟩ := Option.isSome_iff_exists.1 hj
  obtain ⟨i, _, hi, hmi, _⟩ := entM_get hm j cs hcs
  simp only [Ctx.ren, hi] at hb
  exact ⟨i, by rw [hmi]; rfl, hb⟩

theorem keep_ren {n0 : Nat} {π : Ren} (h : keepRen n0 π = true) {i j : Nat} (hp : pinv π j = some i) (hj : j < n0) : i = j := by
  have := List.all_eq_true.1 h (i, j) (pinv_mem hp)
  simp only [Bool.or_eq_true, beq_iff_eq, decide_eq_false_iff_not] at this
  rcases this with h1 | h1
  · exact absurd hj h1
  · exact h1

theorem fr_ren {c : Ctx} {w : World} {t t' : Fr} {tmps : Array Value} {π : Ren} {n : Nat} (hok : okRen n π = true) (hF : FR c w t tmps) (ht : entT π t t') : FR (c.ren π) w t' tmps := by
  intro i
  rcases entT_get ht i with h | h
  · rw [h]; simp [Rel]
  · rw [← h]; exact rel_ren (c := c) (c' := c.ren π) (fun _ h => h) (fun i j h _ => ren_φ hok h) _ _ (hF i)

theorem prov_ren {E : Env} {c : Ctx} {m m' : Mem} {w : World} {π : Ren} {n : Nat} (_hok : okRen n π = true) (hk : keepRen E.n π = true) (hP : Prov E c m w) (hm : entM π m m') : Prov E (c.ren π) m' w where
  step := ⟨hP.step.os, hP.step.tape, hP.step.output, hP.step.size, hP.step.keep, hP.step.rows, hP.step.imm, hP.step.imm'⟩
  own := fun b hb => hP.own b (own_ren hm hb)
  keep := fun j hj hmj => by
    obtain ⟨cs, hcs⟩ := Option.isSome_iff_exists.1 hmj
    obtain ⟨i, _, hi, hmi, _⟩ := entM_get hm j cs hcs
    have := keep_ren hk hi hj
    subst this
    obtain ⟨h1, h2⟩ := hP.keep i hj (by rw [hmi]; rfl)
    exact ⟨h1, by simp only [Ctx.ren, hi]; exact h2⟩

theorem Conc.ent {E : Env} {k : Nat} {S S' : St} {a : Act} {w : World} {π : Ren} (h : Conc E k S a w) (he : Ent E.n π S S') : Conc E k S' a w := by
  obtain ⟨c, hc, hp⟩ := h
  refine ⟨c.ren π, ⟨hc.defers, hc.size, fr_ren he.ok hc.fr he.t, mr_ren he.ok hc.mr he.m, fun id hid => ?_⟩, prov_ren he.ok he.keep hp he.m⟩
  simp only [Ctx.ren]
  split
  · rename_i i hi
    have := (okRen_spec he.ok i id (pinv_mem hi)).2.2
    omega
  · rfl

end Go.Jq

/-! The abstract layer, part 13: code over states; calls. -/
namespace Go.Jq
open Go

/-- Code c, from any frame and world that the state stands to, comes to an exit and a state of Q. (n0: the numbers that the caller's blocks have; k: the frame's size.) -/
def AWP (P : Program) (n0 k : Nat) (c : Code) (S : St) (Q : Exit → St → Prop) : Prop :=
  ∀ (E : Env), E.n = n0 → ∀ (a : Act) (w : World), Conc E k S a w → c.wp P (fun e a' w' => ∃ S', Q e S' ∧ Conc E k S' a' w') a w

/-- What stands to the one state stands to the other. -/
def Leads (n0 k : Nat) (S S' : St) : Prop := ∀ (E : Env), E.n = n0 → ∀ (a : Act) (w : World), Conc E k S a w → Conc E k S' a w

theorem Leads.refl {n0 k : Nat} (S : St) : Leads n0 k S S := fun _ _ _ _ h => h
theorem Leads.trans {n0 k : Nat} {S S' S'' : St} (h : Leads n0 k S S') (h' : Leads n0 k S' S'') : Leads n0 k S S'' := fun E hE a w hc => h' E hE a w (h E hE a w hc)
theorem Leads.ent {n0 k : Nat} {S S' : St} (π : Ren) (he : Ent n0 π S S') : Leads n0 k S S' := fun _ hE _ _ hc => hc.ent (hE ▸ he)

section
variable {P : Program} {n0 k : Nat} {S : St} {Q : Exit → St → Prop}

theorem awp_mono {c : Code} {Q' : Exit → St → Prop} (h : AWP P n0 k c S Q) (hq : ∀ e S, Q e S → Q' e S) : AWP P n0 k c S Q' :=
  fun E hE a w hc => wp_mono (h E hE a w hc) fun e _ _ ⟨S', h1, h2⟩ => ⟨S', hq e S' h1, h2⟩

theorem awp_skip (h : Q .normal S) : AWP P n0 k .skip S Q := fun _ _ _ _ hc => wp_skip ⟨S, h, hc⟩
theorem awp_label {l : Nat} (h : Q .normal S) : AWP P n0 k (.label l) S Q := fun _ _ _ _ hc => wp_label ⟨S, h, hc⟩
theorem awp_exit {id : Nat} (h : Q (.exit id) S) : AWP P n0 k (.exit id) S Q := fun _ _ _ _ hc => wp_exit ⟨S, h, hc⟩
theorem awp_ret (h : Q .ret S) : AWP P n0 k .ret S Q := fun _ _ _ _ hc => wp_ret ⟨S, h, hc⟩

/-- What is asked behind the first of two. -/
def Exit.thenA (next : St → Prop) (Q : Exit → St → Prop) : Exit → St → Prop
  | .normal, S => next S
  | e, S => Q e S

theorem awp_seq {x y : Code} (h : AWP P n0 k x S (Exit.thenA (fun S' => AWP P n0 k y S' Q) Q)) : AWP P n0 k (.seq x y) S Q := by
  intro E hE a w hc
  refine wp_seq (wp_mono (h E hE a w hc) ?_)
  rintro e a' w' ⟨S', h1, h2⟩
  cases e with
  | normal => exact h1 E hE a' w' h2
  | _ => exact ⟨S', h1, h2⟩

/-- The second of two stands behind a variable while the first is gone through. -/
theorem awp_seq_k {x y : Code} (h : ∀ K : St → Prop, (∀ S', AWP P n0 k y S' Q → K S') → AWP P n0 k x S (Exit.thenA K Q)) : AWP P n0 k (.seq x y) S Q :=
  awp_seq (h _ fun _ h => h)

theorem awp_cond {c : Operand} {x y : Code} {b : Bool} (hc : ev S.t (cOpd c) = .d (.bool b)) (ht : b = true → AWP P n0 k x S Q) (hf : b = false → AWP P n0 k y S Q) : AWP P n0 k (.cond c x y) S Q := by
  intro E hE a w h
  have h' := h
  obtain ⟨c', hcr, _⟩ := h'
  have hv := rel_ev (w := w) hcr.fr c
  rw [hc] at hv
  have := rel_d_bool hv
  exact wp_cond_split this (fun hb => ht hb E hE a w h) (fun hb => hf hb E hE a w h)

def Exit.inBlockA (id : Nat) (Q : Exit → St → Prop) : Exit → St → Prop
  | .exit id', S => if id' = id then Q .normal S else Q (.exit id') S
  | e, S => Q e S

theorem awp_block {id : Nat} {c : Code} (h : AWP P n0 k c S (Exit.inBlockA id Q)) : AWP P n0 k (.block id c) S Q := by
  intro E hE a w hc
  refine wp_block (wp_mono (h E hE a w hc) ?_)
  rintro e a' w' ⟨S', h1, h2⟩
  cases e with
  | exit id' =>
    simp only [Exit.inBlockA] at h1
    simp only [Exit.inBlock]
    split
    · rename_i e; rw [if_pos e] at h1; exact ⟨S', h1, h2⟩
    · rename_i e; rw [if_neg e] at h1; exact ⟨S', h1, h2⟩
  | _ => exact ⟨S', h1, h2⟩

theorem awp_ent {c : Code} {S' : St} {π : Ren} (he : Ent n0 π S S') (h : AWP P n0 k c S' Q) : AWP P n0 k c S Q :=
  fun E hE a w hc => h E hE a w (hc.ent (hE ▸ he))

theorem awp_leads {c : Code} {S' : St} (he : Leads n0 k S S') (h : AWP P n0 k c S' Q) : AWP P n0 k c S Q :=
  fun E hE a w hc => h E hE a w (he E hE a w hc)

theorem awp_loop {c : Code} (I : St → Prop) (μ : St → Nat) (h0 : I S)
    (round : ∀ S, I S → AWP P n0 k c S (Exit.thenA (fun S' => ∃ S'', Leads n0 k S' S'' ∧ I S'' ∧ μ S'' < μ S) Q)) : AWP P n0 k (.loop c) S Q := by
  intro E hE a w hc b kk cs
  have key : ∀ n S a w, μ S = n → I S → Conc E k S a w →
      ∃ e a' w', (∃ S', Q e S' ∧ Conc E k S' a' w') ∧ Arrives P (lone (b.at a (.code c :: .inLoop c :: kk)) cs w) b kk cs e a' w' := by
    intro n
    induction n using Nat.strongRecOn with
    | _ n ih =>
      intro S a w hn hI hc
      obtain ⟨e, a₁, w₁, ⟨S', hq, hc'⟩, harr⟩ := round S hI E hE a w hc b (.inLoop c :: kk) cs
      cases e with
      | normal =>
        obtain ⟨S'', he, hI'', hlt⟩ := hq
        obtain ⟨e₂, a₂, w₂, hq₂, harr₂⟩ := ih (μ S'') (hn ▸ hlt) S'' a₁ w₁ rfl hI'' (he E hE a₁ w₁ hc')
        exact ⟨e₂, a₂, w₂, hq₂, .of_steps (Steps.trans harr (.one step_inLoop)) harr₂⟩
      | exit id => exact ⟨_, a₁, w₁, ⟨S', hq, hc'⟩, .pass (x := .inLoop c) rfl (fun _ _ => .inl (by simp)) harr⟩
      | goto l => exact ⟨_, a₁, w₁, ⟨S', hq, hc'⟩, .pass (x := .inLoop c) rfl (fun _ _ => .inl (by simp)) harr⟩
      | ret => exact ⟨_, a₁, w₁, ⟨S', hq, hc'⟩, .pass (x := .inLoop c) rfl (fun _ _ => .inl (by simp)) harr⟩
      | panic ch => exact ⟨_, a₁, w₁, ⟨S', hq, hc'⟩, .pass (x := .inLoop c) rfl (fun _ _ => .inl (by simp)) harr⟩
      | outgrown => exact ⟨_, a₁, w₁, ⟨S', hq, hc'⟩, .pass (x := .inLoop c) rfl (fun _ _ => .inl (by simp)) harr⟩
  obtain ⟨e, a', w', hq, harr⟩ := key _ S a w rfl h0 hc
  exact ⟨e, a', w', hq, .of_steps (.one step_loop) harr⟩

end

/-! ### Calls -/

def mbound (m : Mem) : Nat := m.foldr (fun p b => Nat.max (p.1 + 1) b) 0

theorem mget_bound : ∀ {m : Mem} {i : Nat}, (mget m i).isSome → i < mbound m
  | [], i, h => by simp [mget] at h
  | (j, cs) :: r, i, h => by
    simp only [mget] at h
    simp only [mbound, List.foldr_cons]
    split at h
    · rename_i e; subst e; exact Nat.le_max_left _ _
    · exact Nat.lt_of_lt_of_le (mget_bound h) (Nat.le_max_right _ _)

/-- What a call may be told of: from values and memory m (and no other own blocks) it comes to a value and a memory of Q. -/
def ACalls (P : Program) (f : Nat) (args : List AV) (m : Mem) (Q : AV → Mem → Prop) : Prop :=
  ∀ (c : Ctx) (w : World) (vs : List Value), RelL c w args vs → MR c m w → (∀ id, mbound m ≤ id → c.φ id = .free) →
    Calls P f vs.toArray w fun e w' => ∃ v r m' c', e = .returned v ∧ Q r m' ∧ Rel c' w' r v ∧ MR c' m' w' ∧ Step (Own c m) c c' w w' ∧
      (∀ b, Own c' m' b → Own c m b ∨ w.heap.size ≤ b) ∧ (∀ id, id < mbound m → (mget m' id).isSome → (mget m id).isSome ∧ c'.φ id = c.φ id) ∧
      (∀ id, Nat.max (mbound m) (mbound m') ≤ id → c'.φ id = .free)

theorem ACalls.mono {P : Program} {f : Nat} {args : List AV} {m : Mem} {Q Q' : AV → Mem → Prop} (h : ACalls P f args m Q) (hq : ∀ r m', Q r m' → Q' r m') : ACalls P f args m Q' :=
  fun c w vs h1 h2 h3 => (h c w vs h1 h2 h3).mono fun _ _ ⟨v, r, m', c', a1, a2, a3⟩ => ⟨v, r, m', c', a1, hq r m' a2, a3⟩

def frm : Nat → List AV → Fr
  | _, [] => []
  | i, x :: xs => (i, x) :: frm (i + 1) xs

theorem fget_frm : ∀ (xs : List AV) (i j : Nat), fget (frm i xs) j = if i ≤ j then xs.getD (j - i) .any else .any
  | [], i, j => by simp [frm, fget]
  | x :: xs, i, j => by
    simp only [frm, fget]
    by_cases h : i = j
    · subst h; simp
    · rw [if_neg h, fget_frm xs (i + 1) j]
      by_cases h1 : i ≤ j
      · rw [if_pos (by omega), if_pos h1]
        have : j - i = (j - (i + 1)) + 1 := by omega
        rw [this, List.getD_cons_succ]
      · rw [if_neg (by omega), if_neg h1]

/-- What a function hands back, of a state. -/
def resV (S : St) (P : Program) : ResultVar → Option AV
  | .tmp t => some (fget S.t t)
  | .cell a T => match fget S.t a, ldk P T with
    | .ptr id off, some kk => match mget S.m id with
      | some cs => loadA kk (cs.drop off)
      | none => none
    | _, _ => none

def resVs (S : St) (P : Program) : List ResultVar → Option (List AV)
  | [] => some []
  | r :: rs => match resV S P r, resVs S P rs with
    | some v, some vs => some (v :: vs)
    | _, _ => none

def resA (P : Program) (rs : Array ResultVar) (S : St) : Option AV :=
  match resVs S P rs.toList with
  | some [v] => some v
  | some vs => some (.tup vs)
  | none => none

theorem run_resV {P : Program} {c : Ctx} {k : Nat} {S : St} {a : Act} {w : World} (hc : CR c k S a w) {r : ResultVar} {v : AV} (h : resV S P r = some v) :
    ∃ u, ((match r with | .tmp t => pure (a.tmps.getD t undef) | .cell ad t => do loadVar t (← asAddr (a.tmps.getD ad undef))) : Sem Value).run P w = .ok u w ∧ Rel c w v u := by
  cases r with
  | tmp t => simp only [resV, Option.some.injEq] at h; subst h; exact ⟨_, rfl, hc.fr t⟩
  | cell ad T =>
    simp only [resV] at h
    split at h
    · rename_i id off kk h1 h2
      split at h
      · rename_i cs hcs
        have hx := hc.fr ad
        rw [h1] at hx
        obtain ⟨b, hb, hv⟩ := rel_ptr hx
        obtain ⟨u, hu, hr⟩ := run_loadVar (P := P) h2 (cellsAt_own hc.mr hcs hb off) h
        refine ⟨u, ?_, hr⟩
        simp only [hv, asAddr, Sem.run_bind, Sem.run_pure, Result.andThen_ok, hu]
      · cases h
    · cases h

theorem run_resVs {P : Program} {c : Ctx} {k : Nat} {S : St} {a : Act} {w : World} (hc : CR c k S a w) (f : ResultVar → Sem Value)
    (hf : ∀ r, f r = ((match r with | .tmp t => pure (a.tmps.getD t undef) | .cell ad t => do loadVar t (← asAddr (a.tmps.getD ad undef))) : Sem Value)) : ∀ {rs : List ResultVar} {vs : List AV}, resVs S P rs = some vs →
    ∃ us, (rs.mapM f).run P w = .ok us w ∧ RelL c w vs us
  | [], vs, h => by simp only [resVs, Option.some.injEq] at h; subst h; exact ⟨[], by simp, by simp [RelL]⟩
  | r :: rs, vs, h => by
    simp only [resVs] at h
    split at h
    · rename_i v vs' h1 h2
      cases h
      obtain ⟨u, hu, hr⟩ := run_resV hc h1
      obtain ⟨us, hus, hrs⟩ := run_resVs hc f hf h2
      refine ⟨u :: us, ?_, by simp only [RelL]; exact ⟨u, us, rfl, hr, hrs⟩⟩
      rw [List.mapM_cons]
      rw [← hf] at hu
      simp only [Sem.run_bind, hu, Result.andThen_ok, hus, Sem.run_pure]
    · cases h

theorem run_resA {P : Program} {c : Ctx} {k : Nat} {S : St} {a : Act} {w : World} {fn : Func} (hc : CR c k S a w) {v : AV} (h : resA P fn.results S = some v) :
    ∃ u, (results fn a.tmps).run P w = .ok u w ∧ Rel c w v u := by
  unfold resA at h
  have key : ∀ vs, resVs S P fn.results.toList = some vs → ∃ us : List Value, RelL c w vs us ∧ (results fn a.tmps).run P w = .ok (if h : us.toArray.size = 1 then us.toArray[0] else .tuple us.toArray) w := by
    intro vs hvs
    have hrun := fun f hf => run_resVs (P := P) hc f hf hvs
    have hex : ∃ us : List Value, RelL c w vs us ∧ (results fn a.tmps).run P w = .ok (if h : us.toArray.size = 1 then us.toArray[0] else .tuple us.toArray) w := by
      unfold results
      rw [← Array.toArray_toList (xs := fn.results), List.mapM_toArray]
      simp only [Sem.run_bind, Sem.run_map]
      obtain ⟨us, hus, hr⟩ := hrun (fun x => match x with
        | .tmp t => pure (a.tmps.getD t undef)
        | .cell a_1 t => do loadVar t (← asAddr (a.tmps.getD a_1 undef))) (fun r => by cases r <;> rfl)
      refine ⟨us, hr, ?_⟩
      refine (congrArg (fun r => (Result.andThen (Result.andThen r _) _)) hus).trans ?_
      rfl
    exact hex
  split at h
  · rename_i v' hvs
    cases h
    obtain ⟨us, hr, hrun⟩ := key _ hvs
    simp only [RelL] at hr
    obtain ⟨u, us', rfl, hu, rfl⟩ := hr
    exact ⟨u, by rw [hrun]; simp, hu⟩
  · rename_i vs hne hvs
    cases h
    obtain ⟨us, hr, hrun⟩ := key _ hvs
    refine ⟨.tuple us.toArray, ?_, by simp only [Rel]; exact ⟨us, rfl, hr⟩⟩
    rw [hrun, dif_neg]
    intro h1
    have hl := hr.length
    simp at h1
    rw [h1] at hl
    cases vs with
    | nil => simp at hl
    | cons x xs =>
      cases xs with
      | nil => exact hne x rfl
      | cons y ys => simp at hl
  · cases h

/-- What is asked at a function's end: its result, and a memory, out of the last state by a renaming. -/
def AEnd (P : Program) (rs : Array ResultVar) (n0 : Nat) (Q : AV → Mem → Prop) : Exit → St → Prop
  | .normal, S => ∃ v, resA P rs S = some v ∧ ∃ π m', okRen (Nat.max n0 (mbound m')) π = true ∧ keepRen n0 π = true ∧ entM π S.m m' ∧ Q (v.ren (pget π)) m'
  | .ret, S => ∃ v, resA P rs S = some v ∧ ∃ π m', okRen (Nat.max n0 (mbound m')) π = true ∧ keepRen n0 π = true ∧ entM π S.m m' ∧ Q (v.ren (pget π)) m'
  | _, _ => False

theorem acalls_of_awp {P : Program} {f : Nat} {fn : Func} {code : Code} {args : List AV} {m : Mem} {Q : AV → Mem → Prop} (hf : P.funcs[f]? = some fn) (hb : fn.body = some code)
    (hn : args.length ≤ fn.ntmps) (h : AWP P (mbound m) fn.ntmps code ⟨frm 0 args, m, mbound m⟩ (AEnd P fn.results (mbound m) Q)) : ACalls P f args m Q := by
  intro c w vs hr hM hfree
  have hl := hr.length
  refine calls_of_wp hf hb ?_
  have hconc : Conc ⟨c, m, mbound m, w⟩ fn.ntmps ⟨frm 0 args, m, mbound m⟩ { tmps := vs.toArray ++ Array.replicate (fn.ntmps - vs.toArray.size) undef, defers := [] } w := by
    refine ⟨c, ⟨rfl, ?_, ?_, hM, hfree⟩, ⟨Step.refl _ _ _, fun b hb => .inl hb, fun id _ h => ⟨h, rfl⟩⟩⟩
    · simp; omega
    · intro i
      rw [fget_frm]
      simp only [Nat.zero_le, if_true, Nat.sub_zero]
      by_cases hi : i < args.length
      · obtain ⟨v, hv, hrel⟩ := hr.get (i := i) (x := args[i]) (by simp [hi])
        have h1 : (vs.toArray ++ Array.replicate (fn.ntmps - vs.toArray.size) undef).getD i undef = v := by
          rw [Array.getD_eq_getD_getElem?, Array.getElem?_append_left (by simp; omega), List.getElem?_toArray, hv]; rfl
        rw [h1]
        simpa [hi] using hrel
      · have : args.getD i .any = .any := by simp [hi]
        rw [this]
        simp [Rel]
  have hfin : ∀ (S' : St) (a' : Act) (w' : World), (∃ v, resA P fn.results S' = some v ∧ ∃ π m', okRen (Nat.max (mbound m) (mbound m')) π = true ∧ keepRen (mbound m) π = true ∧ entM π S'.m m' ∧ Q (v.ren (pget π)) m') →
      Conc ⟨c, m, mbound m, w⟩ fn.ntmps S' a' w' → a'.defers = [] ∧ ∃ v, (results fn a'.tmps).run P w' = .ok v w' ∧
        (∃ v' r m' c', Ending.returned v = .returned v' ∧ Q r m' ∧ Rel c' w' r v' ∧ MR c' m' w' ∧ Step (Own c m) c c' w w' ∧
      (∀ b, Own c' m' b → Own c m b ∨ w.heap.size ≤ b) ∧ (∀ id, id < mbound m → (mget m' id).isSome → (mget m id).isSome ∧ c'.φ id = c.φ id) ∧
      (∀ id, Nat.max (mbound m) (mbound m') ≤ id → c'.φ id = .free)) := by
    rintro S' a' w' ⟨v, hv, π, m', hok, hk, hm, hQ⟩ ⟨c1, hcr, hp⟩
    obtain ⟨u, hu, hrel⟩ := run_resA hcr hv
    have hp' := prov_ren hok hk hp hm
    refine ⟨hcr.defers, u, hu, u, _, m', c1.ren π, rfl, hQ, rel_ren (c := c1) (c' := c1.ren π) (fun _ h => h) (fun i j h _ => ren_φ hok h) _ _ hrel, mr_ren hok hcr.mr hm, hp'.step, hp'.own, hp'.keep, fun id hid => ?_⟩
    simp only [Ctx.ren]
    split
    · rename_i i hi
      have := (okRen_spec hok i id (pinv_mem hi)).2.2
      exact absurd hid (Nat.not_le.2 this)
    · rfl
  refine wp_mono (h ⟨c, m, mbound m, w⟩ rfl _ _ hconc) ?_
  rintro e a' w' ⟨S', h1, h2⟩
  cases e with
  | normal => exact hfin S' a' w' h1 h2
  | ret => exact hfin S' a' w' h1 h2
  | _ => exact h1.elim

end Go.Jq
