/- The abstract layer, part 10: structs held against each other; all operations together. -/
import Derived.Test.YtjfghjakpjfgpaaX9
namespace Go.Jq
open Go

section
variable {P : Program} {c : Ctx} {m : Mem} {n : Nat} {w : World} {t : Fr} {a : Act}

theorem eqCells_len : ∀ {ks : List Nat} {xs ys : List AV} {b : Bool}, eqCells ks xs ys = some b → xs.length = ks.length ∧ ys.length = ks.length
  | [], [], [], _, _ => ⟨rfl, rfl⟩
  | [], [], _ :: _, _, h => by simp [eqCells] at h
  | [], _ :: _, _, _, h => by simp [eqCells] at h
  | _ :: _, [], _, _, h => by simp [eqCells] at h
  | _ :: _, _ :: _, [], _, h => by simp [eqCells] at h
  | k :: ks, x :: xs, y :: ys, b, h => by
    simp only [eqCells] at h
    split at h
    · rename_i p q h1 h2
      have := eqCells_len h2
      simp [this.1, this.2]
    · cases h

theorem eqCells_append : ∀ {ks ks' : List Nat} {xs ys : List AV} {b : Bool}, eqCells (ks ++ ks') xs ys = some b →
    ∃ p q, eqCells ks (xs.take ks.length) (ys.take ks.length) = some p ∧ eqCells ks' (xs.drop ks.length) (ys.drop ks.length) = some q ∧ b = (p && q)
  | [], ks', xs, ys, b, h => ⟨true, b, by simp [eqCells], by simpa using h, rfl⟩
  | k :: ks, ks', xs, ys, b, h => by
    cases xs with
    | nil => simp [eqCells] at h
    | cons x xs =>
      cases ys with
      | nil => simp [eqCells] at h
      | cons y ys =>
        simp only [List.cons_append, eqCells] at h
        split at h
        · rename_i p q h1 h2
          cases h
          obtain ⟨p', q', h3, h4, rfl⟩ := eqCells_append h2
          refine ⟨p && p', q', ?_, by simpa using h4, by rw [Bool.and_assoc]⟩
          simp only [List.length_cons, List.take_succ_cons, eqCells, h1, h3]
        · cases h

/-- What a type whose cells are plain asks of two values. -/
def EqTy (P : Program) (d : Nat) (T : TypeId) (ks : List Nat) : Prop :=
  ∀ (c : Ctx) (w : World) (xs ys : List AV) (us vs : List Value) (off : Nat) (b : Bool), RelL c w xs us → RelL c w ys vs → (P.info? T).map (·.size) = some ks.length →
    eqCells ks ((xs.drop off).take ks.length) ((ys.drop off).take ks.length) = some b →
    ∃ u v, (part T us.toArray off).run P w = .ok u w ∧ (part T vs.toArray off).run P w = .ok v w ∧ (Op.equalIn d T u v).run P w = .ok b w

theorem run_eqFields {d : Nat} {sz : TypeId → Option (List Nat)} (hsz : ∀ T ks, sz T = some ks → EqTy P d T ks) :
    ∀ {fs : List Field} {acc : Nat} {ks : List Nat} {xs ys : List AV} {us vs : List Value} {b : Bool}, flatFs P sz fs acc = some ks → RelL c w xs us → RelL c w ys vs →
      eqCells ks ((xs.drop acc).take ks.length) ((ys.drop acc).take ks.length) = some b → (Op.eqFields d us.toArray vs.toArray fs).run P w = .ok b w
  | [], acc, ks, xs, ys, us, vs, b, h, _, _, he => by
    simp only [flatFs, Option.some.injEq] at h
    subst h
    simp [eqCells] at he
    subst he
    rfl
  | f :: fs, acc, ks, xs, ys, us, vs, b, h, hx, hy, he => by
    simp only [flatFs] at h
    split at h
    · rename_i s hs
      split at h
      · rename_i hcond
        obtain ⟨h1, rfl, h3⟩ := hcond
        rw [Option.map_eq_some_iff] at h
        obtain ⟨r, hr, rfl⟩ := h
        obtain ⟨p, q, hp, hq, rfl⟩ := eqCells_append he
        rw [List.take_take, List.take_take, Nat.min_eq_left (by simp)] at hp
        rw [List.drop_take, List.drop_take, List.drop_drop, List.drop_drop] at hq
        have hle : (s ++ r).length - s.length = r.length := by simp
        rw [hle] at hq
        obtain ⟨u, v, hu, hv, heq⟩ := hsz _ _ hs c w xs ys us vs f.offset p hx hy h3 hp
        have ih := run_eqFields hsz hr hx hy hq
        simp only [Op.eqFields, ne_eq, h1, not_false_eq_true, if_true, Sem.run_bind, hu, hv, heq, Result.andThen_ok, Sem.run_ite, Sem.run_pure, ih]
        cases p <;> simp
      · cases h
    · cases h

theorem eqTy_of : ∀ (d : Nat) (T : TypeId) (ks : List Nat), flatSz P d T = some ks → ∀ D, d ≤ D → EqTy P D T ks
  | 0, T, ks, h, D, hD => by simp [flatSz] at h
  | d + 1, T, ks, h, 0, hD => by omega
  | d + 1, T, ks, h, D + 1, hD => by
    intro c w xs ys us vs off b hx hy hi he
    have scalar : ∀ k, ks = [k] → (isAgg T).run P w = .ok false w → (∀ x y u v, Rel c w x u → Rel c w y v → eqCell k x y = some b → (Op.equalIn (D + 1) T u v).run P w = .ok b w) →
        ∃ u v, (part T us.toArray off).run P w = .ok u w ∧ (part T vs.toArray off).run P w = .ok v w ∧ (Op.equalIn (D + 1) T u v).run P w = .ok b w := by
      intro k hk hagg hsc
      subst hk
      have hl := eqCells_len he
      cases hxd : xs.drop off with
      | nil => rw [hxd] at hl; simp at hl
      | cons x xr =>
        cases hyd : ys.drop off with
        | nil => rw [hyd] at hl; simp at hl
        | cons y yr =>
          rw [hxd, hyd] at he
          simp only [List.length_cons, List.length_nil, Nat.zero_add, List.take_succ_cons, List.take_zero, eqCells] at he
          split at he
          · rename_i p q h1 h2
            cases h2
            cases he
            obtain ⟨u, hu, hru⟩ := (hx.drop off).get (i := 0) (x := x) (by rw [hxd]; rfl)
            obtain ⟨v, hv, hrv⟩ := (hy.drop off).get (i := 0) (x := y) (by rw [hyd]; rfl)
            have hu' : us[off]? = some u := by rw [← hu, List.getElem?_drop]; simp
            have hv' : vs[off]? = some v := by rw [← hv, List.getElem?_drop]; simp
            refine ⟨u, v, ?_, ?_, hsc x y u v hru hrv (by simpa using h1)⟩
            · simp only [part, Sem.run_bind, hagg, Result.andThen_ok, Bool.false_eq_true, if_false, List.getElem?_toArray, hu', Sem.run_pure]
            · simp only [part, Sem.run_bind, hagg, Result.andThen_ok, Bool.false_eq_true, if_false, List.getElem?_toArray, hv', Sem.run_pure]
          · cases he
    simp only [flatSz] at h
    split at h
    · rename_i k hu
      cases h
      refine scalar 0 rfl (by simp [isAgg, underlying, hu]) fun x y u v hx hy h => ?_
      unfold eqCell at h
      split at h
      · have e1 := rel_d_int hx
        have e2 := rel_d_int hy
        subst e1 e2
        split at h
        · rename_i hkk
          subst hkk
          cases h
          rw [run_equalIn_int w D T _ k _ _ hu]; rfl
        · cases h
      · cases ‹(0 : Nat) = 1›
      · cases ‹(0 : Nat) = 2›
      · cases h
    · rename_i hu
      cases h
      refine scalar 1 rfl (by simp [isAgg, underlying, hu]) fun x y u v hx hy h => ?_
      unfold eqCell at h
      split at h
      · cases ‹(1 : Nat) = 0›
      · have e1 := rel_d_bool hx
        have e2 := rel_d_bool hy
        subst e1 e2
        cases h
        rw [run_equalIn_bool' w D T _ _ hu]
      · cases ‹(1 : Nat) = 2›
      · cases h
    · rename_i hu
      cases h
      refine scalar 2 rfl (by simp [isAgg, underlying, hu]) fun x y u v hx hy h => ?_
      unfold eqCell at h
      split at h
      · cases ‹(2 : Nat) = 0›
      · cases ‹(2 : Nat) = 1›
      · have e1 := rel_d_str hx
        have e2 := rel_d_str hy
        subst e1 e2
        cases h
        rw [run_equalIn_string w D T _ _ hu]
        simp only [ByteArray.toList_mk]
        congr 1
        rw [Bool.eq_iff_iff]
        simp
      · cases h
    · rename_i fs hu
      split at h
      · cases h
      · rename_i hst
        have hagg : (isAgg T).run P w = .ok true w := by simp [isAgg, underlying, hu]
        obtain ⟨i, hi', his⟩ := Option.map_eq_some_iff.1 hi
        have hfo : P.fieldsOf T = fs := by simp [Program.fieldsOf, hu]
        have hext : ∀ zs : List Value, zs.toArray.extract off (off + ks.length) = ((zs.drop off).take ks.length).toArray := by
          intro zs
          apply Array.ext'
          simp only [Array.toList_extract, List.extract_eq_take_drop]
          simp
        refine ⟨.agg ((us.drop off).take ks.length).toArray, .agg ((vs.drop off).take ks.length).toArray, ?_, ?_, ?_⟩
        · simp only [part, Sem.run_bind, hagg, Result.andThen_ok, if_true, run_sizeOf hi', his, Sem.run_pure, hext]
        · simp only [part, Sem.run_bind, hagg, Result.andThen_ok, if_true, run_sizeOf hi', his, Sem.run_pure, hext]
        · rw [run_equalIn_struct w D T _ _ (by rw [hfo]; exact hu) (by simpa using hst), hfo]
          refine run_eqFields (fun T' ks' h' => eqTy_of d T' ks' h' D (by omega)) h ((hx.drop off).take _) ((hy.drop off).take _) ?_
          rw [List.drop_zero, List.drop_zero, List.take_take, List.take_take, Nat.min_self]
          exact he
    · cases h

theorem outc_eqs {op : BinOp} {neg : Bool} (hop : (op = .eql ∧ neg = false) ∨ (op = .neq ∧ neg = true)) {T : TypeId} {fs : Array Field} {ks : List Nat} (hu : P.underlying T = some (.struct fs))
    (hk : flatSz P 20 T = some ks) (hg : P.eqGuardType P.depth T = false) {x y : Operand} (hF : FR c w t a.tmps) (hM : MR c m w) {v : AV} {e : Eff} (he : aevN (.eqs ks neg (cOpd x) (cOpd y)) t m n = some (v, e)) :
    Outc P (do pure (.value (← (do eqGuard op T x y (a.eval x) (a.eval y); binOp op T (a.eval x) (a.eval y))))) c m n w v e := by
  have hx := rel_ev hF x
  have hy := rel_ev hF y
  simp only [aevN] at he
  split at he
  · rename_i xs ys h1 h2
    rw [h1] at hx
    rw [h2] at hy
    rw [Option.map_eq_some_iff] at he
    obtain ⟨b, hb, he⟩ := he
    cases he
    obtain ⟨us, e1, hru⟩ := rel_agg hx
    obtain ⟨vs, e2, hrv⟩ := rel_agg hy
    have heq : (Op.equalIn 10000 T (.agg us.toArray) (.agg vs.toArray)).run P w = .ok b w := by
      have hfo : P.fieldsOf T = fs := by simp [Program.fieldsOf, hu]
      rw [show (20 : Nat) = 19 + 1 from rfl, flatSz, hu] at hk
      dsimp only at hk
      split at hk
      · cases hk
      · rename_i hst
        rw [run_equalIn_struct w 9999 T _ _ (by rw [hfo]; exact hu) (by simpa using hst), hfo]
        refine run_eqFields (fun T' ks' h' => eqTy_of 19 T' ks' h' 9999 (by omega)) hk hru hrv ?_
        have hl := eqCells_len hb
        rw [List.drop_zero, List.drop_zero, List.take_of_length_le (by omega), List.take_of_length_le (by omega)]
        exact hb
    refine outc_pure hM ?_ (rel_boolA _)
    rw [e1, e2]
    rcases hop with ⟨rfl, rfl⟩ | ⟨rfl, rfl⟩
    · simp only [Sem.run_bind, run_eqGuard_agg _ _ _ _ _ _ _ hg, Result.andThen_ok, run_eql_struct, heq, Bool.bne_false]
    · simp only [Sem.run_bind, run_eqGuard_agg _ _ _ _ _ _ _ hg, Result.andThen_ok, run_neq_struct, heq, Bool.bne_true]
  · cases he

end
end Go.Jq
