/- The abstract layer, part 7: soundness of indexing, slicing, conversions and append. -/
import Derived.Test.YtjfghjakpjfgpaaX6
namespace Go.Jq
open Go

section
variable {P : Program} {c : Ctx} {m : Mem} {n : Nat} {w : World} {t : Fr} {a : Act}

/-! ### Pointers against nil, structs against structs -/

theorem run_eqGuard_ptr (op : BinOp) (T : TypeId) (x y : Operand) (p q : Option Addr) : (eqGuard op T x y (.pointer p) (.pointer q)).run P w = .ok () w := by
  unfold eqGuard
  cases op <;> rfl

theorem outc_eqp {op : BinOp} {neg : Bool} (hop : (op = .eql ∧ neg = false) ∨ (op = .neq ∧ neg = true)) {T el : TypeId} (hel : P.underlying T = some (.pointer el)) {x y : Operand}
    (hF : FR c w t a.tmps) (hM : MR c m w) {v : AV} {e : Eff} (he : aevN (.eqp neg (cOpd x) (cOpd y)) t m n = some (v, e)) :
    Outc P (do pure (.value (← (do eqGuard op T x y (a.eval x) (a.eval y); binOp op T (a.eval x) (a.eval y))))) c m n w v e := by
  simp only [aevN, Option.map_eq_some_iff] at he
  obtain ⟨v', hv1, he⟩ := he
  cases he
  obtain ⟨b, rfl, p, q, h1, h2, h3⟩ := rel_eqp (rel_ev hF x) (rel_ev hF y) hv1
  have k1 : (Op.equal T (.pointer p) (.pointer q)).run P w = .ok b w := by
    unfold Op.equal
    rw [show Op.maxDepth = 9999 + 1 from rfl, Op.equalIn]
    simp only [Sem.run_bind, underlying, run_program, Result.andThen_ok, hel]
    rcases h3 with ⟨rfl, rfl⟩ | ⟨rfl, rfl⟩
    · cases q <;> simp
    · cases p <;> simp
  refine outc_pure hM ?_ (rel_boolA _)
  rw [h1, h2]
  rcases hop with ⟨rfl, rfl⟩ | ⟨rfl, rfl⟩
  · simp only [Sem.run_bind, run_eqGuard_ptr, Result.andThen_ok, binOp, k1, Sem.run_pure, Bool.bne_false]
  · simp only [Sem.run_bind, run_eqGuard_ptr, Result.andThen_ok, binOp, k1, Sem.run_pure, Bool.bne_true]

theorem run_eqGuard_fn (op : BinOp) (T : TypeId) (x y : Operand) {u v : Value} (hu : u = .nilFunc ∨ ∃ f g h, u = .func f g h) : (eqGuard op T x y u v).run P w = .ok () w := by
  unfold eqGuard
  rcases hu with rfl | ⟨f, g, h, rfl⟩ <;> cases op <;> cases v <;> rfl

theorem outc_eqf {op : BinOp} {neg : Bool} (hop : (op = .eql ∧ neg = false) ∨ (op = .neq ∧ neg = true)) {T : TypeId} {pp rr : Array TypeId} {vv : Bool} (hel : P.underlying T = some (.func pp rr vv)) {x y : Operand}
    (hF : FR c w t a.tmps) (hM : MR c m w) {v : AV} {e : Eff} (he : aevN (.eqf neg (cOpd x) (cOpd y)) t m n = some (v, e)) :
    Outc P (do pure (.value (← (do eqGuard op T x y (a.eval x) (a.eval y); binOp op T (a.eval x) (a.eval y))))) c m n w v e := by
  simp only [aevN, Option.map_eq_some_iff] at he
  obtain ⟨v', hv1, he⟩ := he
  cases he
  obtain ⟨b, rfl, h⟩ := rel_eqf (rel_ev hF x) (rel_ev hF y) hv1
  refine outc_pure hM ?_ (rel_boolA _)
  rcases h with ⟨h1, h2, rfl⟩ | ⟨f, g, k, h1, h2, rfl⟩ | ⟨f, g, k, h1, h2, rfl⟩
  all_goals
    rw [h1, h2]
    rcases hop with ⟨rfl, rfl⟩ | ⟨rfl, rfl⟩
    all_goals
      simp only [Sem.run_bind, run_eqGuard_fn _ _ _ _ (.inl rfl), run_eqGuard_fn _ _ _ _ (.inr ⟨_, _, _, rfl⟩), Result.andThen_ok, binOp, Op.equal]
      rw [show Op.maxDepth = 9999 + 1 from rfl, Op.equalIn]
      simp only [Sem.run_bind, underlying, run_program, Result.andThen_ok, hel, Sem.run_pure]
      rfl

/-! ### Places -/

theorem run_fieldAt {s : TypeId} {fs : Array Field} {f off size : Nat} (hu : P.underlying s = some (.struct fs)) (hf : fieldPlace' P fs f = some (off, size)) (hs : size ≠ 0) (b o : Nat) :
    (Instr.fieldAt s (.pointer (some ⟨b, o, none⟩)) f).run P w = .ok (.pointer (some ⟨b, o + off, none⟩)) w := by
  unfold fieldPlace' at hf
  split at hf
  · rename_i fd hfd
    split at hf
    · rename_i i hi
      cases hf
      simp only [Instr.fieldAt, Sem.run_bind, underlying, run_program, Result.andThen_ok, hu, Sem.run_pure, hfd, Instr.sureAddr, fieldPlace, run_sizeOf hi, if_neg hs, addr_add]
    · cases hf
  · cases hf

theorem outc_faddr {s : TypeId} {fs : Array Field} {f off size : Nat} (hu : P.underlying s = some (.struct fs)) (hf : fieldPlace' P fs f = some (off, size)) (hs : size ≠ 0) {x : Operand}
    (hF : FR c w t a.tmps) (hM : MR c m w) {v : AV} {e : Eff} (he : aevN (.faddr (cOpd x) off) t m n = some (v, e)) : Outc P (do pure (.value (← Instr.fieldAt s (a.eval x) f))) c m n w v e := by
  have hx := rel_ev hF x
  simp only [aevN] at he
  split at he
  · rename_i id o h1
    rw [h1] at hx
    cases he
    obtain ⟨b, hb, hv⟩ := rel_ptr hx
    exact outc_pure hM (by rw [hv]; exact run_fieldAt hu hf hs b o) (by simp only [Rel]; exact ⟨b, hb, rfl⟩)
  · rename_i cs h1
    rw [h1] at hx
    cases he
    obtain ⟨b, o, hb, hv, hc⟩ := rel_dptr hx
    exact outc_pure hM (by rw [hv]; exact run_fieldAt hu hf hs b o) (by simp only [Rel]; exact ⟨b, _, hb, rfl, hc.drop off⟩)
  · cases he

theorem run_part {T : TypeId} {k : Option Nat} (hk : ldk P T = some k) {cs : List AV} {us : List Value} (hr : RelL c w cs us) {off : Nat} {v : AV} (hv : loadA k (cs.drop off) = some v) :
    ∃ u, (part T us.toArray off).run P w = .ok u w ∧ Rel c w v u := by
  rcases ldk_spec hk with ⟨i, hi, rfl, hagg⟩ | ⟨rfl, hagg⟩
  · simp only [loadA] at hv
    split at hv
    · cases hv
      refine ⟨.agg ((us.drop off).take i.size).toArray, ?_, by simp only [Rel]; exact ⟨_, rfl, (hr.drop off).take i.size⟩⟩
      simp only [part, Sem.run_bind, hagg, Result.andThen_ok, if_true, run_sizeOf hi, Sem.run_pure]
      congr 2
      apply Array.ext'
      simp only [Array.toList_extract, List.extract_eq_take_drop]
      simp
    · cases hv
  · simp only [loadA] at hv
    obtain ⟨u, hu, hru⟩ := (hr.drop off).get hv
    refine ⟨u, ?_, hru⟩
    have : us[off]? = some u := by rw [← hu, List.getElem?_drop]; simp
    simp only [part, Sem.run_bind, hagg, Result.andThen_ok, Bool.false_eq_true, if_false, List.getElem?_toArray, this, Sem.run_pure]

theorem outc_fld {s : TypeId} {fs : Array Field} {f : Nat} {fd : Field} {k : Option Nat} (hu : P.underlying s = some (.struct fs)) (hf : fs[f]? = some fd) (hk : ldk P fd.type = some k) {x : Operand}
    (hF : FR c w t a.tmps) (hM : MR c m w) {v : AV} {e : Eff} (he : aevN (.fld (cOpd x) fd.offset k) t m n = some (v, e)) : Outc P (do pure (.value (← Instr.field s (a.eval x) f))) c m n w v e := by
  have hx := rel_ev hF x
  simp only [aevN] at he
  split at he
  · rename_i cs h1
    rw [h1] at hx
    rw [Option.map_eq_some_iff] at he
    obtain ⟨v', hv, he⟩ := he
    cases he
    obtain ⟨us, hv', hr⟩ := rel_agg hx
    obtain ⟨u, hu', hru⟩ := run_part hk hr hv
    exact outc_pure hM (by rw [hv']; simp only [Instr.field, Sem.run_bind, underlying, run_program, Result.andThen_ok, hu, Sem.run_pure, hf, asAgg, hu']) hru
  · cases he

theorem outc_iaddrS {T el : TypeId} {i' : TypeInfo} (hu : P.underlying T = some (.slice el)) (hi' : P.info? el = some i') {x i : Operand} (hF : FR c w t a.tmps) (hM : MR c m w) {v : AV} {e : Eff}
    (he : aevN (.iaddr i'.size none (cOpd x) (cOpd i)) t m n = some (v, e)) : Outc P (do pure (.value (← Instr.indexAt T (a.eval x) (a.eval i)))) c m n w v e := by
  have hx := rel_ev hF x
  have hi := rel_ev hF i
  simp only [aevN] at he
  split at he
  · cases he
  · cases he
  · rename_i id e' off len k j h1 h2
    rw [h1] at hx
    rw [h2] at hi
    split at he
    · rename_i hcond
      obtain ⟨_, rfl, h3, h4⟩ := hcond
      cases he
      have e2 := rel_d_int hi
      simp only [Rel] at hx
      rcases hx with ⟨_, _, rfl, _⟩ | ⟨b, cap, N, hb, hv, hle, hN, hcap⟩
      · omega
      · refine outc_pure (u := .pointer (some ⟨b, off + j.toNat * i'.size, none⟩)) hM ?_ (by simp only [Rel]; exact ⟨b, hb, rfl⟩)
        rw [hv, e2]
        simp only [Instr.indexAt, Sem.run_bind, asIntOf, Sem.run_pure, Result.andThen_ok, underlying, run_program, hu]
        rw [if_pos ⟨h3, h4⟩]
        simp only [Sem.run_bind, run_sizeOf hi', Result.andThen_ok, Sem.run_pure, addr_add]
    · cases he
  · rename_i len cs k j h1 h2
    rw [h1] at hx
    rw [h2] at hi
    split at he
    · rename_i hcond
      obtain ⟨_, h3, h4, h5⟩ := hcond
      cases he
      have e2 := rel_d_int hi
      simp only [Rel, RelD] at hx
      obtain ⟨p, cap, hv, hle, hx⟩ := hx
      rcases hx with ⟨rfl, _⟩ | ⟨b, o, rfl, hb, hc⟩
      · omega
      · refine outc_pure (u := .pointer (some ⟨b, o + j.toNat * i'.size, none⟩)) hM ?_ (by simp only [Rel]; exact ⟨b, _, hb, rfl, hc.drop _⟩)
        rw [hv, e2]
        simp only [Instr.indexAt, Sem.run_bind, asIntOf, Sem.run_pure, Result.andThen_ok, underlying, run_program, hu]
        rw [if_pos ⟨h3, h4⟩]
        simp only [Sem.run_bind, run_sizeOf hi', Result.andThen_ok, Sem.run_pure, addr_add]
    · cases he
  · cases he

theorem run_indexAtA {T el len : Nat} {i' : TypeInfo} (hu : P.underlying T = some (.array len el)) (hi' : P.info? el = some i') (k : IntKind) (j : Int) (h : 0 ≤ j ∧ j < len) (b o : Nat) :
    (Instr.indexAt T (.pointer (some ⟨b, o, none⟩)) (.int k j)).run P w = .ok (.pointer (some ⟨b, o + j.toNat * i'.size, none⟩)) w := by
  simp only [Instr.indexAt, Sem.run_bind, asIntOf, Sem.run_pure, Result.andThen_ok, underlying, run_program, hu, Instr.sureAddr]
  rw [if_pos h]
  simp only [Sem.run_bind, run_sizeOf hi', Result.andThen_ok, Sem.run_pure, addr_add]

theorem outc_iaddrA {T el len : Nat} {i' : TypeInfo} (hu : P.underlying T = some (.array len el)) (hi' : P.info? el = some i') {x i : Operand} (hF : FR c w t a.tmps) (hM : MR c m w) {v : AV} {e : Eff}
    (he : aevN (.iaddr i'.size (some len) (cOpd x) (cOpd i)) t m n = some (v, e)) : Outc P (do pure (.value (← Instr.indexAt T (a.eval x) (a.eval i)))) c m n w v e := by
  have hx := rel_ev hF x
  have hi := rel_ev hF i
  simp only [aevN] at he
  split at he
  · rename_i id o k j h1 h2
    rw [h1] at hx
    rw [h2] at hi
    split at he
    · rename_i hcond
      cases he
      obtain ⟨b, hb, hv⟩ := rel_ptr hx
      have e2 := rel_d_int hi
      exact outc_pure hM (by rw [hv, e2]; exact run_indexAtA hu hi' k j hcond b o) (by simp only [Rel]; exact ⟨b, hb, rfl⟩)
    · cases he
  · rename_i cs k j h1 h2
    rw [h1] at hx
    rw [h2] at hi
    split at he
    · rename_i hcond
      cases he
      obtain ⟨b, o, hb, hv, hc⟩ := rel_dptr hx
      have e2 := rel_d_int hi
      exact outc_pure hM (by rw [hv, e2]; exact run_indexAtA hu hi' k j hcond b o) (by simp only [Rel]; exact ⟨b, _, hb, rfl, hc.drop _⟩)
    · cases he
  · rename_i id e' off len' k j h1 h2
    split at he
    · rename_i hcond
      obtain ⟨h, _⟩ := hcond
      cases h
    · cases he
  · rename_i len' cs k j h1 h2
    split at he
    · rename_i hcond
      obtain ⟨h, _⟩ := hcond
      cases h
    · cases he
  · cases he

theorem outc_idxs {T : TypeId} (hu : P.underlying T = some .string) {x i : Operand} (hF : FR c w t a.tmps) (hM : MR c m w) {v : AV} {e : Eff}
    (he : aevN (.idxs (cOpd x) (cOpd i)) t m n = some (v, e)) : Outc P (do pure (.value (← Instr.index T (a.eval x) (a.eval i)))) c m n w v e := by
  have hx := rel_ev hF x
  have hi := rel_ev hF i
  simp only [aevN] at he
  split at he
  · rename_i s k j h1 h2
    rw [h1] at hx
    rw [h2] at hi
    split at he
    · rename_i hcond
      cases he
      have e1 := rel_d_str hx
      have e2 := rel_d_int hi
      refine outc_pure hM ?_ (rel_int _ _)
      have hlt : j.toNat < s.length := by omega
      have hget : (⟨s.toArray⟩ : ByteArray)[j.toNat]? = some (s.getD j.toNat 0) := by
        have hsz : j.toNat < (⟨s.toArray⟩ : ByteArray).size := by simpa [ByteArray.size] using hlt
        rw [getElem?_pos (ByteArray.mk s.toArray) j.toNat hsz]
        congr 1
        show s.toArray[j.toNat] = _
        simp [hlt]
      rw [e1, e2]
      simp only [Instr.index, Sem.run_bind, asIntOf, Sem.run_pure, Result.andThen_ok, underlying, run_program, hu]
      rw [if_pos hcond.1, hget]
      rfl
    · cases he
  · cases he

theorem outc_idxa {T el len : Nat} {i' : TypeInfo} {k : Option Nat} (hu : P.underlying T = some (.array len el)) (hi' : P.info? el = some i') (hk : ldk P el = some k) {x i : Operand} (hF : FR c w t a.tmps) (hM : MR c m w)
    {v : AV} {e : Eff} (he : aevN (.idxa len i'.size k (cOpd x) (cOpd i)) t m n = some (v, e)) : Outc P (do pure (.value (← Instr.index T (a.eval x) (a.eval i)))) c m n w v e := by
  have hx := rel_ev hF x
  have hi := rel_ev hF i
  simp only [aevN] at he
  split at he
  · rename_i cs k' j h1 h2
    rw [h1] at hx
    rw [h2] at hi
    split at he
    · rename_i hcond
      rw [Option.map_eq_some_iff] at he
      obtain ⟨v', hv, he⟩ := he
      cases he
      obtain ⟨us, hv', hr⟩ := rel_agg hx
      have e2 := rel_d_int hi
      obtain ⟨u, hu', hru⟩ := run_part hk hr hv
      refine outc_pure hM ?_ hru
      rw [hv', e2]
      simp only [Instr.index, Sem.run_bind, asIntOf, Sem.run_pure, Result.andThen_ok, underlying, run_program, hu]
      rw [if_pos hcond]
      simp only [Sem.run_bind, run_sizeOf hi', Result.andThen_ok, hu']
    · cases he
  · cases he

/-! ### Lengths, least and greatest -/

theorem outc_lens {T : TypeId} {ts : Array TypeId} {ty : TypeId} {x : Operand} (ht : ts.toList = [T]) (hu : P.underlying T = some .string)
    (hF : FR c w t a.tmps) (hM : MR c m w) {v : AV} {e : Eff} (he : aevN (.lens (cOpd x)) t m n = some (v, e)) : Outc P (do pure (.value (← Builtin.len_ ts ty #[a.eval x]))) c m n w v e := by
  have hx := rel_ev hF x
  simp only [aevN] at he
  split at he
  · rename_i s h1
    rw [h1] at hx
    cases he
    have e1 := rel_d_str hx
    have h0 : ts[0]? = some T := by rw [← Array.getElem?_toList, ht]; rfl
    refine outc_pure hM ?_ (rel_int _ _)
    have hsz : (ByteArray.mk s.toArray).size = s.length := by show s.toArray.size = _; simp
    rw [e1]
    simp only [Builtin.len_, h0, List.getElem?_toArray, List.getElem?_cons_zero, Sem.run_bind, underlying, run_program, Result.andThen_ok, hu, Sem.run_pure, goInt, hsz]
  · cases he

theorem outc_lenl {T el : TypeId} {ts : Array TypeId} {ty : TypeId} {x : Operand} (ht : ts.toList = [T]) (hu : P.underlying T = some (.slice el))
    (hF : FR c w t a.tmps) (hM : MR c m w) {v : AV} {e : Eff} (he : aevN (.lenl (cOpd x)) t m n = some (v, e)) : Outc P (do pure (.value (← Builtin.len_ ts ty #[a.eval x]))) c m n w v e := by
  have hx := rel_ev hF x
  simp only [aevN, Option.map_eq_some_iff] at he
  obtain ⟨l, hl, he⟩ := he
  cases he
  obtain ⟨p, cap, hv, _⟩ := rel_len hx hl
  have h0 : ts[0]? = some T := by rw [← Array.getElem?_toList, ht]; rfl
  refine outc_pure hM ?_ (rel_int _ _)
  rw [hv]
  simp [Builtin.len_, h0, underlying, hu, goInt]

theorem outc_min {ts : Array TypeId} {ty : TypeId} {x y : Operand} (hF : FR c w t a.tmps) (hM : MR c m w) {v : AV} {e : Eff} (he : aevN (.minI (cOpd x) (cOpd y)) t m n = some (v, e)) :
    Outc P (do pure (.value (← Builtin.min_ ts ty #[a.eval x, a.eval y]))) c m n w v e := by
  have hx := rel_ev hF x
  have hy := rel_ev hF y
  simp only [aevN] at he
  split at he
  · rename_i k p k' q h1 h2
    rw [h1] at hx
    rw [h2] at hy
    cases he
    have e1 := rel_d_int hx
    have e2 := rel_d_int hy
    exact outc_pure hM (by rw [e1, e2]; simp [Builtin.min_, Builtin.min2]) (rel_int _ _)
  · cases he

theorem outc_max {ts : Array TypeId} {ty : TypeId} {x y : Operand} (hF : FR c w t a.tmps) (hM : MR c m w) {v : AV} {e : Eff} (he : aevN (.maxI (cOpd x) (cOpd y)) t m n = some (v, e)) :
    Outc P (do pure (.value (← Builtin.max_ ts ty #[a.eval x, a.eval y]))) c m n w v e := by
  have hx := rel_ev hF x
  have hy := rel_ev hF y
  simp only [aevN] at he
  split at he
  · rename_i k p k' q h1 h2
    rw [h1] at hx
    rw [h2] at hy
    cases he
    have e1 := rel_d_int hx
    have e2 := rel_d_int hy
    exact outc_pure hM (by rw [e1, e2]; simp [Builtin.max_, Builtin.max2]) (rel_int _ _)
  · cases he

end
end Go.Jq
