/- The abstract layer, part 6: soundness of the operations on numbers, strings and slices. -/
import Derived.Test.YtjfghjakpjfgpaaX5
namespace Go.Jq
open Go

section
variable {P : Program} {c : Ctx} {m : Mem} {n : Nat} {w : World} {t : Fr} {a : Act}

theorem rel_wrapI (k : IntKind) (x : Int) : Rel c w (wrapI k x) (.int k (k.wrap x)) := by simp [wrapI, Rel, RelD]
theorem rel_int (k : IntKind) (x : Int) : Rel c w (.d (.int k x)) (.int k x) := by simp [Rel, RelD]
theorem rel_boolA (b : Bool) : Rel c w (boolA b) (.bool b) := by simp [boolA, Rel, RelD]
theorem rel_str (s : List UInt8) : Rel c w (.d (.str s)) (.string ⟨s.toArray⟩) := by simp [Rel, RelD]

theorem rel_d_int {k : IntKind} {x : Int} {v : Value} (h : Rel c w (.d (.int k x)) v) : v = .int k x := by simpa [Rel, RelD] using h
theorem rel_d_bool {x : Bool} {v : Value} (h : Rel c w (.d (.bool x)) v) : v = .bool x := by simpa [Rel, RelD] using h
theorem rel_d_str {x : List UInt8} {v : Value} (h : Rel c w (.d (.str x)) v) : v = .string ⟨x.toArray⟩ := by simpa [Rel, RelD] using h
theorem rel_d_nsl {v : Value} (h : Rel c w (.d .nsl) v) : v = .slice none 0 0 := by simpa [Rel, RelD] using h
theorem rel_d_nptr {v : Value} (h : Rel c w (.d .nptr) v) : v = .pointer none := by simpa [Rel, RelD] using h
theorem rel_d_nfn {v : Value} (h : Rel c w (.d .nfn) v) : v = .nilFunc := by simpa [Rel, RelD] using h
theorem rel_ptr {id off : Nat} {v : Value} (h : Rel c w (.ptr id off) v) : ∃ b, c.φ id = .blk b ∧ v = .pointer (some ⟨b, off, none⟩) := by simpa [Rel] using h
theorem rel_dptr {cs : List DV} {v : Value} (h : Rel c w (.dptr cs) v) : ∃ b o, c.imm b ∧ v = .pointer (some ⟨b, o, none⟩) ∧ RelDs c.imm w cs b o := by simpa [Rel] using h
theorem rel_fn {f : Nat} {cs : List AV} {v : Value} (h : Rel c w (.fn f cs) v) : ∃ vs, v = .func (.func f) #[] vs.toArray ∧ RelL c w cs vs := by simpa [Rel] using h
theorem rel_agg {cs : List AV} {v : Value} (h : Rel c w (.agg cs) v) : ∃ vs, v = .agg vs.toArray ∧ RelL c w cs vs := by simpa [Rel] using h
theorem rel_tup {cs : List AV} {v : Value} (h : Rel c w (.tup cs) v) : ∃ vs, v = .tuple vs.toArray ∧ RelL c w cs vs := by simpa [Rel] using h

theorem outc_mv {x : Operand} (hF : FR c w t a.tmps) (hM : MR c m w) : Outc P (pure (.value (a.eval x))) c m n w (ev t (cOpd x)) .nil :=
  outc_val hM (rel_ev hF x)

theorem outc_pick {x y z : Operand} (hF : FR c w t a.tmps) (hM : MR c m w) {v : AV} {e : Eff} (he : aevN (.pick (cOpd x) (cOpd y) (cOpd z)) t m n = some (v, e)) :
    Outc P (do pure (.value (if ← asBool (a.eval x) then a.eval y else a.eval z))) c m n w v e := by
  have hx := rel_ev hF x
  simp only [aevN] at he
  split at he
  · rename_i b hev
    rw [hev] at hx
    cases he
    have hb := rel_d_bool hx
    refine ⟨.value (if b = true then a.eval y else a.eval z), w, c, by simp [hb, asBool], .inl ⟨_, rfl, ?_⟩, hM, Step.refl _ _ _, fun _ _ => rfl, fun _ h => .inl h⟩
    cases b
    · exact rel_ev hF z
    · exact rel_ev hF y
  · cases he

theorem outc_nilck {x : Operand} (hF : FR c w t a.tmps) {v : AV} {e : Eff} (he : aevN (.nilck (cOpd x)) t m n = some (v, e)) :
    ∃ u, Rel c w v u ∧ e = .nil ∧ a.eval x = u ∧ ((∃ ad, u = .pointer (some ad)) ∨ ∃ f cs, u = .func (.func f) #[] cs) := by
  have hx := rel_ev hF x
  simp only [aevN] at he
  split at he
  · rename_i id off hev
    rw [hev] at hx
    cases he
    obtain ⟨b, _, hv⟩ := rel_ptr hx
    exact ⟨_, hx, rfl, rfl, .inl ⟨_, hv⟩⟩
  · rename_i cs hev
    rw [hev] at hx
    cases he
    obtain ⟨b, o, _, hv, _⟩ := rel_dptr hx
    exact ⟨_, hx, rfl, rfl, .inl ⟨_, hv⟩⟩
  · rename_i f cs hev
    rw [hev] at hx
    cases he
    obtain ⟨vs, hv, _⟩ := rel_fn hx
    exact ⟨_, hx, rfl, rfl, .inr ⟨_, _, hv⟩⟩
  · cases he

/-! ### Two operands -/

theorem run_eqGuard_int (op : BinOp) (T : TypeId) (x y : Operand) (k k' : IntKind) (p q : Int) : (eqGuard op T x y (.int k p) (.int k' q)).run P w = .ok () w := by
  unfold eqGuard
  cases op <;> rfl

theorem run_eqGuard_str (op : BinOp) (T : TypeId) (x y : Operand) (p q : ByteArray) : (eqGuard op T x y (.string p) (.string q)).run P w = .ok () w := by
  unfold eqGuard
  cases op <;> rfl

theorem run_eqGuard_bool (op : BinOp) (T : TypeId) (x y : Operand) (p q : Bool) : (eqGuard op T x y (.bool p) (.bool q)).run P w = .ok () w := by
  unfold eqGuard
  cases op <;> rfl

theorem run_shift {op : BinOp} {k yk : IntKind} {p q : Int} {v : AV} (h : shI op k p q = some v) : ∃ u, (Op.shift op k p yk q).run P w = .ok u w ∧ Rel c w v u := by
  unfold shI at h
  split at h
  · cases h
  · rename_i hq
    cases op <;> simp only [reduceCtorEq] at h <;> cases h
    · exact ⟨_, by simp only [Op.shift, if_neg hq, Sem.run_pure], rel_wrapI _ _⟩
    · exact ⟨_, by simp only [Op.shift, if_neg hq, Sem.run_pure], rel_int _ _⟩

theorem run_binI {op : BinOp} {T : TypeId} {k : IntKind} {p q : Int} {v : AV} (hop : ¬ (op = .shl ∨ op = .shr)) (h : binI op k p q = some v) :
    ∃ u, (binOp op T (.int k p) (.int k q)).run P w = .ok u w ∧ Rel c w v u := by
  cases op <;> simp only [binI, reduceCtorEq, Option.some.injEq] at h
  case quo =>
    split at h
    · cases h
    · rename_i hq
      cases h
      exact ⟨_, by simp only [binOp, ne_eq, not_true_eq_false, if_false, Op.intDiv, if_neg hq, Sem.run_pure], rel_wrapI _ _⟩
  case rem =>
    split at h
    · cases h
    · rename_i hq
      cases h
      exact ⟨_, by simp only [binOp, ne_eq, not_true_eq_false, if_false, Op.intDiv, if_neg hq, Sem.run_pure], rel_int _ _⟩
  all_goals
    subst h
    first
      | refine ⟨_, ?_, rel_wrapI _ _⟩
      | refine ⟨_, ?_, rel_int _ _⟩
      | refine ⟨_, ?_, rel_boolA _⟩
    simp only [binOp, ne_eq, not_true_eq_false, if_false, Op.intArith, Op.intCmp, intBits_and, intBits_or, intBits_xor, intBits_andNot, Sem.run_pure]
    try rfl

theorem run_binS {op : BinOp} {T : TypeId} {p q : List UInt8} {v : AV} (h : binS op p q = some v) :
    ∃ u, (binOp op T (.string ⟨p.toArray⟩) (.string ⟨q.toArray⟩)).run P w = .ok u w ∧ Rel c w v u := by
  cases op <;> simp only [binS, reduceCtorEq, Option.some.injEq] at h
  case add =>
    split at h
    · rename_i hle
      cases h
      refine ⟨_, ?_, rel_str (p ++ q)⟩
      have hsz : ¬ (((⟨p.toArray⟩ : ByteArray).size + (⟨q.toArray⟩ : ByteArray).size : Nat) : Int) > IntKind.i64.max := by
        have : IntKind.i64.max = 9223372036854775807 := by rfl
        rw [this]
        simp only [ByteArray.size, List.size_toArray]
        omega
      have happ : (⟨p.toArray⟩ : ByteArray) ++ ⟨q.toArray⟩ = ⟨(p ++ q).toArray⟩ := by
        apply ByteArray.ext
        rw [ByteArray.data_append]
        simp
      simp only [binOp, Op.stringOp, if_neg hsz, happ, Sem.run_pure]
    · cases h
  all_goals
    subst h
    have hd : ∀ x y : List UInt8, decide (x = y) = (x == y) := fun x y => by rw [Bool.eq_iff_iff]; simp
    refine ⟨_, ?_, rel_boolA _⟩
    simp only [binOp, Op.stringOp, ByteArray.toList_mk, Sem.run_pure, hd]

theorem outc_bin {op : BinOp} {T : TypeId} {x y : Operand} (hF : FR c w t a.tmps) (hM : MR c m w) {v : AV} {e : Eff}
    (he : aevN (.bin op (cOpd x) (cOpd y)) t m n = some (v, e)) : Outc P (do pure (.value (← (do eqGuard op T x y (a.eval x) (a.eval y); binOp op T (a.eval x) (a.eval y))))) c m n w v e := by
  have hx := rel_ev hF x
  have hy := rel_ev hF y
  simp only [aevN, Option.map_eq_some_iff] at he
  obtain ⟨v', hv, he⟩ := he
  cases he
  unfold binA at hv
  split at hv
  · rename_i k p k' q h1 h2
    rw [h1] at hx
    rw [h2] at hy
    have e1 := rel_d_int hx
    have e2 := rel_d_int hy
    split at hv
    · rename_i hop
      obtain ⟨u, hu, hr⟩ := run_shift (P := P) (w := w) (c := c) (yk := k') hv
      refine outc_pure hM ?_ hr
      rw [e1, e2]
      simp only [Sem.run_bind, run_eqGuard_int, Result.andThen_ok]
      rcases hop with rfl | rfl <;> exact hu
    · rename_i hop
      split at hv
      · rename_i hk
        subst hk
        obtain ⟨u, hu, hr⟩ := run_binI (P := P) (w := w) (c := c) (T := T) hop hv
        refine outc_pure hM ?_ hr
        rw [e1, e2]
        simp only [Sem.run_bind, run_eqGuard_int, Result.andThen_ok, hu]
      · cases hv
  · rename_i p q h1 h2
    rw [h1] at hx
    rw [h2] at hy
    have e1 := rel_d_str hx
    have e2 := rel_d_str hy
    obtain ⟨u, hu, hr⟩ := run_binS (P := P) (w := w) (c := c) (T := T) hv
    refine outc_pure hM ?_ hr
    rw [e1, e2]
    simp only [Sem.run_bind, run_eqGuard_str, Result.andThen_ok, hu]
  · cases hv

theorem outc_eqb {op : BinOp} {neg : Bool} (hop : (op = .eql ∧ neg = false) ∨ (op = .neq ∧ neg = true)) {T : TypeId} (hT : P.underlying T = some .bool) {x y : Operand} (hF : FR c w t a.tmps) (hM : MR c m w)
    {v : AV} {e : Eff} (he : aevN (.eqb neg (cOpd x) (cOpd y)) t m n = some (v, e)) :
    Outc P (do pure (.value (← (do eqGuard op T x y (a.eval x) (a.eval y); binOp op T (a.eval x) (a.eval y))))) c m n w v e := by
  have hx := rel_ev hF x
  have hy := rel_ev hF y
  simp only [aevN] at he
  split at he
  · rename_i p q h1 h2
    rw [h1] at hx
    rw [h2] at hy
    cases he
    have e1 := rel_d_bool hx
    have e2 := rel_d_bool hy
    have heq : (Op.equal T (.bool p) (.bool q)).run P w = .ok (p == q) w := by
      unfold Op.equal
      rw [show Op.maxDepth = 9999 + 1 from rfl, Op.equalIn]
      simp only [Sem.run_bind, underlying, run_program, Result.andThen_ok, hT, Sem.run_pure]
    refine outc_pure hM ?_ (rel_boolA _)
    rw [e1, e2]
    rcases hop with ⟨rfl, rfl⟩ | ⟨rfl, rfl⟩
    · simp only [Sem.run_bind, run_eqGuard_bool, Result.andThen_ok, binOp, heq, Sem.run_pure, Bool.bne_false]
    · simp only [Sem.run_bind, run_eqGuard_bool, Result.andThen_ok, binOp, heq, Sem.run_pure, Bool.bne_true]
  · cases he

theorem rel_eqp {neg : Bool} {x y : AV} {u v : Value} (hx : Rel c w x u) (hy : Rel c w y v) {r : AV} (h : eqpA neg x y = some r) : ∃ b, r = boolA (b != neg) ∧
    ∃ p q, u = .pointer p ∧ v = .pointer q ∧ ((p = none ∧ b = q.isNone) ∨ (q = none ∧ b = p.isNone)) := by
  unfold eqpA at h
  split at h <;> cases h
  · obtain ⟨b, _, rfl⟩ := rel_ptr hx; have := rel_d_nptr hy; subst this
    exact ⟨false, by simp, _, _, rfl, rfl, .inr ⟨rfl, rfl⟩⟩
  · obtain ⟨b, _, _, rfl, _⟩ := rel_dptr hx; have := rel_d_nptr hy; subst this
    exact ⟨false, by simp, _, _, rfl, rfl, .inr ⟨rfl, rfl⟩⟩
  · obtain ⟨b, _, rfl⟩ := rel_ptr hy; have := rel_d_nptr hx; subst this
    exact ⟨false, by simp, _, _, rfl, rfl, .inl ⟨rfl, rfl⟩⟩
  · obtain ⟨b, _, _, rfl, _⟩ := rel_dptr hy; have := rel_d_nptr hx; subst this
    exact ⟨false, by simp, _, _, rfl, rfl, .inl ⟨rfl, rfl⟩⟩
  · have := rel_d_nptr hx; subst this; have := rel_d_nptr hy; subst this
    exact ⟨true, by simp, _, _, rfl, rfl, .inl ⟨rfl, rfl⟩⟩

theorem rel_eqf {neg : Bool} {x y : AV} {u v : Value} (hx : Rel c w x u) (hy : Rel c w y v) {r : AV} (h : eqfA neg x y = some r) : ∃ b, r = boolA (b != neg) ∧
    ((u = .nilFunc ∧ v = .nilFunc ∧ b = true) ∨ (∃ f g h, u = .func f g h ∧ v = .nilFunc ∧ b = false) ∨ (∃ f g h, v = .func f g h ∧ u = .nilFunc ∧ b = false)) := by
  unfold eqfA at h
  split at h <;> cases h
  · obtain ⟨vs, rfl, _⟩ := rel_fn hx; have := rel_d_nfn hy; subst this
    exact ⟨false, by simp, .inr (.inl ⟨_, _, _, rfl, rfl, rfl⟩)⟩
  · obtain ⟨vs, rfl, _⟩ := rel_fn hy; have := rel_d_nfn hx; subst this
    exact ⟨false, by simp, .inr (.inr ⟨_, _, _, rfl, rfl, rfl⟩)⟩
  · have := rel_d_nfn hx; subst this; have := rel_d_nfn hy; subst this
    exact ⟨true, by simp, .inl ⟨rfl, rfl, rfl⟩⟩

/-! ### One operand -/

theorem outc_un {op : UnOp} {x : Operand} (hF : FR c w t a.tmps) (hM : MR c m w) {v : AV} {e : Eff} (he : aevN (.un op (cOpd x)) t m n = some (v, e)) :
    Outc P (do pure (.value (← Op.unary op (a.eval x)))) c m n w v e := by
  have hx := rel_ev hF x
  simp only [aevN, Option.map_eq_some_iff] at he
  obtain ⟨v', hv, he⟩ := he
  cases he
  unfold unA at hv
  split at hv
  · rename_i k p h1
    rw [h1] at hx
    have e1 := rel_d_int hx
    cases op <;> simp only [reduceCtorEq] at hv <;> cases hv
    · exact outc_pure hM (by rw [e1]; simp only [Op.unary, Op.intArith, Sem.run_pure]) (rel_wrapI _ _)
    · exact outc_pure hM (by rw [e1]; simp only [Op.unary, intBits_xor, Sem.run_pure]) (rel_int _ _)
  · rename_i p h1
    rw [h1] at hx
    have e1 := rel_d_bool hx
    cases op <;> simp only [reduceCtorEq] at hv <;> cases hv
    exact outc_pure hM (by rw [e1]; simp only [Op.unary, Sem.run_pure]) (rel_boolA _)
  · cases hv

theorem outc_cvi {s d : TypeId} {k' k : IntKind} (hs : P.underlying s = some (.int k')) (hd : P.underlying d = some (.int k)) {x : Operand} (hF : FR c w t a.tmps) (hM : MR c m w) {v : AV} {e : Eff}
    (he : aevN (.cvi k (cOpd x)) t m n = some (v, e)) : Outc P (do pure (.value (← convert s d (a.eval x)))) c m n w v e := by
  have hx := rel_ev hF x
  simp only [aevN] at he
  split at he
  · rename_i k2 p h1
    rw [h1] at hx
    cases he
    have e1 := rel_d_int hx
    exact outc_pure hM (by rw [e1]; simp only [convert, Sem.run_bind, underlying, run_program, Result.andThen_ok, hs, hd, Conv.intToInt, Sem.run_pure]) (rel_wrapI _ _)
  · cases he

theorem outc_cvrune {s d : TypeId} (hs : (∃ k, P.underlying s = some (.int k)) ∨ P.underlying s = some .string) (hd : P.underlying d = some .string) {x : Operand} (hF : FR c w t a.tmps) (hM : MR c m w) {v : AV} {e : Eff}
    (he : aevN (.cvrune (cOpd x)) t m n = some (v, e)) : Outc P (do pure (.value (← convert s d (a.eval x)))) c m n w v e := by
  have hx := rel_ev hF x
  simp only [aevN] at he
  split at he
  · rename_i k2 p h1
    rw [h1] at hx
    cases he
    have e1 := rel_d_int hx
    refine outc_pure (u := .string (Utf8.encode p)) hM ?_ (by simp [Rel, RelD])
    rw [e1]
    rcases hs with ⟨k, hs⟩ | hs <;> simp only [convert, Sem.run_bind, underlying, run_program, Result.andThen_ok, hs, hd, Conv.intToString, Sem.run_pure]
  · rename_i p h1
    rw [h1] at hx
    cases he
    have e1 := rel_d_str hx
    refine outc_pure (u := .string ⟨p.toArray⟩) hM ?_ (rel_str _)
    rw [e1]
    rcases hs with ⟨k, hs⟩ | hs <;> simp only [convert, Sem.run_bind, underlying, run_program, Result.andThen_ok, hs, hd, Sem.run_pure]
  · cases he

theorem outc_ext {x : Operand} {i : Nat} (hF : FR c w t a.tmps) (hM : MR c m w) {v : AV} {e : Eff} (he : aevN (.ext (cOpd x) i) t m n = some (v, e)) :
    Outc P (do pure (.value (← Instr.extract (a.eval x) i))) c m n w v e := by
  have hx := rel_ev hF x
  simp only [aevN] at he
  split at he
  · rename_i vs h1
    rw [h1] at hx
    obtain ⟨us, hu, hr⟩ := rel_tup hx
    rw [Option.map_eq_some_iff] at he
    obtain ⟨v', hv, he⟩ := he
    cases he
    obtain ⟨u, hu', hru⟩ := hr.get hv
    refine outc_pure (u := u) hM ?_ hru
    rw [hu]
    simp only [Instr.extract, List.getElem?_toArray, hu', Sem.run_pure]
  · cases he

theorem outc_mkfn {f : Nat} {caps : Array Operand} (hF : FR c w t a.tmps) (hM : MR c m w) :
    Outc P (do pure (.value (← Instr.makeFunc (.func f) #[] (caps.map a.eval)))) c m n w (.fn f ((caps.toList.map cOpd).map (ev t))) .nil := by
  refine outc_pure (u := .func (.func f) #[] (caps.map a.eval)) hM (by simp [Instr.makeFunc]) ?_
  simp only [Rel]
  exact ⟨caps.toList.map a.eval, congrArg _ (Array.ext' (by simp)), relL_ev hF _⟩

/-! ### Lengths -/

theorem rel_len {x : AV} {v : Value} {l : Nat} (h : Rel c w x v) (hl : lenA x = some l) : ∃ p cap, v = .slice p l cap ∧ l ≤ cap := by
  unfold lenA at hl
  split at hl <;> cases hl
  · exact ⟨_, _, rel_d_nsl h, Nat.le_refl _⟩
  · simp only [Rel, RelD] at h
    obtain ⟨p, cap, hv, hn, _⟩ := h
    exact ⟨p, cap, hv, hn⟩
  · simp only [Rel] at h
    rcases h with ⟨_, _, rfl, hv⟩ | ⟨b, cap, n, _, hv, hn, _⟩
    · exact ⟨_, _, hv, Nat.le_refl _⟩
    · exact ⟨_, _, hv, hn⟩

theorem bytesAV_get {s : List UInt8} {i : Nat} {x : AV} (h : (bytesAV s)[i]? = some x) : ∃ b, s[i]? = some b ∧ x = .d (.int .u8 b.toNat) := by
  unfold bytesAV at h
  rw [List.getElem?_map, Option.map_eq_some_iff] at h
  obtain ⟨b, hb, rfl⟩ := h
  exact ⟨b, hb, rfl⟩

theorem relL_bytes (s : List UInt8) : RelL c w (bytesAV s) (s.map fun b => .int .u8 b.toNat) :=
  RelL.of_get (by simp [bytesAV]) fun i x v hx hv => by
    obtain ⟨b, hb, rfl⟩ := bytesAV_get hx
    rw [List.getElem?_map, hb] at hv
    cases hv
    exact rel_int _ _

end
end Go.Jq
