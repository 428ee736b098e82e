/- The abstract layer: soundness of the operations. -/
import Derived.Test.YtpfbljkfbjjlkaaDoorXA
/-! The abstract layer, part 6: soundness of the operations on numbers, strings and slices. -/
namespace Go.Jq
open Go

section
variable {P : Program} {c : Ctx} {m : Mem} {n : Nat} {w : World} {t : Fr} {a : Act}

theorem rel_wrapI (k : IntKind) (x : Int) : Rel c w (wrapI k x) (.int k (k.wrap x)) := by simp [wrapI, Rel, RelD]
theorem rel_int (k : IntKind) (x : Int) : Rel c w (.d (.int k x)) (.int k x) := by simp [Rel, RelD]
theorem rel_boolA (b : Bool) : Rel c w (boolA b) (.bool b) := by simp [boolA, Rel, RelD]
theorem rel_str (s : List UInt8) : Rel c w (.d (.str s)) (.string ⟨s.toArray⟩) := by simp [Rel, RelD]

theorem rel_d_int {k : IntKind} {x : Int} {v : Value} (h : Rel c w (.d (.int k x)) v) : v = .int k x := by simpa [Rel, RelD] using h
theorem rel_d_bool {x : Bool} {v : Value} (h : Rel c w (.d (.bool x)) v) : v = .bool x := by simpa [Rel, RelD] using h
theorem rel_d_str {x : List UInt8} {v : Value} (h : Rel c w (.d (.str x)) v) : v = .string ⟨x.toArray⟩ := by simpa [Rel, RelD] using h
theorem rel_d_nsl {v : Value} (h : Rel c w (.d .nsl) v) : v = .slice none 0 0 := by simpa [Rel, RelD] using h
theorem rel_d_nptr {v : Value} (h : Rel c w (.d .nptr) v) : v = .pointer none := by simpa [Rel, RelD] using h
theorem rel_d_nfn {v : Value} (h : Rel c w (.d .nfn) v) : v = .nilFunc := by simpa [Rel, RelD] using h
theorem rel_ptr {id off : Nat} {v : Value} (h : Rel c w (.ptr id off) v) : ∃ b, c.φ id = .blk b ∧ v = .pointer (some ⟨b, off, none⟩) := by simpa [Rel] using h
theorem rel_dptr {cs : List DV} {v : Value} (h : Rel c w (.dptr cs) v) : ∃ b o, c.imm b ∧ v = .pointer (some ⟨b, o, none⟩) ∧ RelDs c.imm w cs b o := by simpa [Rel] using h
theorem rel_fn {f : Nat} {cs : List AV} {v : Value} (h : Rel c w (.fn f cs) v) : ∃ vs, v = .func (.func f) #[] vs.toArray ∧ RelL c w cs vs := by simpa [Rel] using h
theorem rel_agg {cs : List AV} {v : Value} (h : Rel c w (.agg cs) v) : ∃ vs, v = .agg vs.toArray ∧ RelL c w cs vs := by simpa [Rel] using h
theorem rel_tup {cs : List AV} {v : Value} (h : Rel c w (.tup cs) v) : ∃ vs, v = .tuple vs.toArray ∧ RelL c w cs vs := by simpa [Rel] using h

theorem outc_mv {x : Operand} (hF : FR c w t a.tmps) (hM : MR c m w) : Outc P (pure (.value (a.eval x))) c m n w (ev t (cOpd x)) .nil :=
  outc_val hM (rel_ev hF x)

theorem outc_pick {x y z : Operand} (hF : FR c w t a.tmps) (hM : MR c m w) {v : AV} {e : Eff} (he : aevN (.pick (cOpd x) (cOpd y) (cOpd z)) t m n = some (v, e)) :
    Outc P (do pure (.value (if ← asBool (a.eval x) then a.eval y else a.eval z))) c m n w v e := by
  have hx := rel_ev hF x
  simp only [aevN] at he
  split at he
  · rename_i b hev
    rw [hev] at hx
    cases he
    have hb := rel_d_bool hx
    refine ⟨.value (if b = true then a.eval y else a.eval z), w, c, by simp [hb, asBool], .inl ⟨_, rfl, ?_⟩, hM, Step.refl _ _ _, fun _ _ => rfl, fun _ h => .inl h⟩
    cases b
    · exact rel_ev hF z
    · exact rel_ev hF y
  · cases he

theorem outc_nilck {x : Operand} (hF : FR c w t a.tmps) {v : AV} {e : Eff} (he : aevN (.nilck (cOpd x)) t m n = some (v, e)) :
    ∃ u, Rel c w v u ∧ e = .nil ∧ a.eval x = u ∧ ((∃ ad, u = .pointer (some ad)) ∨ ∃ f cs, u = .func (.func f) #[] cs) := by
  have hx := rel_ev hF x
  simp only [aevN] at he
  split at he
  · rename_i id off hev
    rw [hev] at hx
    cases he
    obtain ⟨b, _, hv⟩ := rel_ptr hx
    exact ⟨_, hx, rfl, rfl, .inl ⟨_, hv⟩⟩
  · rename_i cs hev
    rw [hev] at hx
    cases he
    obtain ⟨b, o, _, hv, _⟩ := rel_dptr hx
    exact ⟨_, hx, rfl, rfl, .inl ⟨_, hv⟩⟩
  · rename_i f cs hev
    rw [hev] at hx
    cases he
    obtain ⟨vs, hv, _⟩ := rel_fn hx
    exact ⟨_, hx, rfl, rfl, .inr ⟨_, _, hv⟩⟩
  · cases he

/-! ### Two operands -/

theorem run_eqGuard_int (op : BinOp) (T : TypeId) (x y : Operand) (k k' : IntKind) (p q : Int) : (eqGuard op T x y (.int k p) (.int k' q)).run P w = .ok () w := by
  unfold eqGuard
  cases op <;> rfl

theorem run_eqGuard_str (op : BinOp) (T : TypeId) (x y : Operand) (p q : ByteArray) : (eqGuard op T x y (.string p) (.string q)).run P w = .ok () w := by
  unfold eqGuard
  cases op <;> rfl

theorem run_eqGuard_bool (op : BinOp) (T : TypeId) (x y : Operand) (p q : Bool) : (eqGuard op T x y (.bool p) (.bool q)).run P w = .ok () w := by
  unfold eqGuard
  cases op <;> rfl

theorem run_shift {op : BinOp} {k yk : IntKind} {p q : Int} {v : AV} (h : shI op k p q = some v) : ∃ u, (Op.shift op k p yk q).run P w = .ok u w ∧ Rel c w v u := by
  unfold shI at h
  split at h
  · cases h
  · rename_i hq
    cases op <;> simp only [reduceCtorEq] at h <;> cases h
    · exact ⟨_, by simp only [Op.shift, if_neg hq, Sem.run_pure], rel_wrapI _ _⟩
    · exact ⟨_, by simp only [Op.shift, if_neg hq, Sem.run_pure], rel_int _ _⟩

theorem run_binI {op : BinOp} {T : TypeId} {k : IntKind} {p q : Int} {v : AV} (hop : ¬ (op = .shl ∨ op = .shr)) (h : binI op k p q = some v) :
    ∃ u, (binOp op T (.int k p) (.int k q)).run P w = .ok u w ∧ Rel c w v u := by
  cases op <;> simp only [binI, reduceCtorEq, Option.some.injEq] at h
  case quo =>
    split at h
    · cases h
    · rename_i hq
      cases h
      exact ⟨_, by simp only [binOp, ne_eq, not_true_eq_false, if_false, Op.intDiv, if_neg hq, Sem.run_pure], rel_wrapI _ _⟩
  case rem =>
    split at h
    · cases h
    · rename_i hq
      cases h
      exact ⟨_, by simp only [binOp, ne_eq, not_true_eq_false, if_false, Op.intDiv, if_neg hq, Sem.run_pure], rel_int _ _⟩
  all_goals
    subst h
    first
      | refine ⟨_, ?_, rel_wrapI _ _⟩
      | refine ⟨_, ?_, rel_int _ _⟩
      | refine ⟨_, ?_, rel_boolA _⟩
    simp only [binOp, ne_eq, not_true_eq_false, if_false, Op.intArith, Op.intCmp, intBits_and, intBits_or, intBits_xor, intBits_andNot, Sem.run_pure]
    try rfl

theorem run_binS {op : BinOp} {T : TypeId} {p q : List UInt8} {v : AV} (h : binS op p q = some v) :
    ∃ u, (binOp op T (.string ⟨p.toArray⟩) (.string ⟨q.toArray⟩)).run P w = .ok u w ∧ Rel c w v u := by
  cases op <;> simp only [binS, reduceCtorEq, Option.some.injEq] at h
  case add =>
    split at h
    · rename_i hle
      cases h
      refine ⟨_, ?_, rel_str (p ++ q)⟩
      have hsz : ¬ (((⟨p.toArray⟩ : ByteArray).size + (⟨q.toArray⟩ : ByteArray).size : Nat) : Int) > IntKind.i64.max := by
        have : IntKind.i64.max = 9223372036854775807 := by rfl
        rw [this]
        simp only [ByteArray.size, List.size_toArray]
        omega
      have happ : (⟨p.toArray⟩ : ByteArray) ++ ⟨q.toArray⟩ = ⟨(p ++ q).toArray⟩ := by
        apply ByteArray.ext
        rw [ByteArray.data_append]
        simp
      simp only [binOp, Op.stringOp, if_neg hsz, happ, Sem.run_pure]
    · cases h
  all_goals
    subst h
    have hd : ∀ x y : List UInt8, decide (x = y) = (x == y) := fun x y => by rw [Bool.eq_iff_iff]; simp
    refine ⟨_, ?_, rel_boolA _⟩
    simp only [binOp, Op.stringOp, ByteArray.toList_mk, Sem.run_pure, hd]

theorem outc_bin {op : BinOp} {T : TypeId} {x y : Operand} (hF : FR c w t a.tmps) (hM : MR c m w) {v : AV} {e : Eff}
    (he : aevN (.bin op (cOpd x) (cOpd y)) t m n = some (v, e)) : Outc P (do pure (.value (← (do eqGuard op T x y (a.eval x) (a.eval y); binOp op T (a.eval x) (a.eval y))))) c m n w v e := by
  have hx := rel_ev hF x
  have hy := rel_ev hF y
  simp only [aevN, Option.map_eq_some_iff] at he
  obtain ⟨v', hv, he⟩ := he
  cases he
  unfold binA at hv
  split at hv
  · rename_i k p k' q h1 h2
    rw [h1] at hx
    rw [h2] at hy
    have e1 := rel_d_int hx
    have e2 := rel_d_int hy
    split at hv
    · rename_i hop
      obtain ⟨u, hu, hr⟩ := run_shift (P := P) (w := w) (c := c) (yk := k') hv
      refine outc_pure hM ?_ hr
      rw [e1, e2]
      simp only [Sem.run_bind, run_eqGuard_int, Result.andThen_ok]
      rcases hop with rfl | rfl <;> exact hu
    · rename_i hop
      split at hv
      · rename_i hk
        subst hk
        obtain ⟨u, hu, hr⟩ := run_binI (P := P) (w := w) (c := c) (T := T) hop hv
        refine outc_pure hM ?_ hr
        rw [e1, e2]
        simp only [Sem.run_bind, run_eqGuard_int, Result.andThen_ok, hu]
      · cases hv
  · rename_i p q h1 h2
    rw [h1] at hx
    rw [h2] at hy
    have e1 := rel_d_str hx
    have e2 := rel_d_str hy
    obtain ⟨u, hu, hr⟩ := run_binS (P := P) (w := w) (c := c) (T := T) hv
    refine outc_pure hM ?_ hr
    rw [e1, e2]
    simp only [Sem.run_bind, run_eqGuard_str, Result.andThen_ok, hu]
  · cases hv

theorem outc_eqb {op : BinOp} {neg : Bool} (hop : (op = .eql ∧ neg = false) ∨ (op = .neq ∧ neg = true)) {T : TypeId} (hT : P.underlying T = some .bool) {x y : Operand} (hF : FR c w t a.tmps) (hM : MR c m w)
    {v : AV} {e : Eff} (he : aevN (.eqb neg (cOpd x) (cOpd y)) t m n = some (v, e)) :
    Outc P (do pure (.value (← (do eqGuard op T x y (a.eval x) (a.eval y); binOp op T (a.eval x) (a.eval y))))) c m n w v e := by
  have hx := rel_ev hF x
  have hy := rel_ev hF y
  simp only [aevN] at he
  split at he
  · rename_i p q h1 h2
    rw [h1] at hx
    rw [h2] at hy
    cases he
    have e1 := rel_d_bool hx
    have e2 := rel_d_bool hy
    have heq : (Op.equal T (.bool p) (.bool q)).run P w = .ok (p == q) w := by
      unfold Op.equal
      rw [show Op.maxDepth = 9999 + 1 from rfl, Op.equalIn]
      simp only [Sem.run_bind, underlying, run_program, Result.andThen_ok, hT, Sem.run_pure]
    refine outc_pure hM ?_ (rel_boolA _)
    rw [e1, e2]
    rcases hop with ⟨rfl, rfl⟩ | ⟨rfl, rfl⟩
    · simp only [Sem.run_bind, run_eqGuard_bool, Result.andThen_ok, binOp, heq, Sem.run_pure, Bool.bne_false]
    · simp only [Sem.run_bind, run_eqGuard_bool, Result.andThen_ok, binOp, heq, Sem.run_pure, Bool.bne_true]
  · cases he

theorem rel_eqp {neg : Bool} {x y : AV} {u v : Value} (hx : Rel c w x u) (hy : Rel c w y v) {r : AV} (h : eqpA neg x y = some r) : ∃ b, r = boolA (b != neg) ∧
    ∃ p q, u = .pointer p ∧ v = .pointer q ∧ ((p = none ∧ b = q.isNone) ∨ (q = none ∧ b = p.isNone)) := by
  unfold eqpA at h
  split at h <;> cases h
  · obtain ⟨b, _, rfl⟩ := rel_ptr hx; have := rel_d_nptr hy; subst this
    exact ⟨false, by simp, _, _, rfl, rfl, .inr ⟨rfl, rfl⟩⟩
  · obtain ⟨b, _, _, rfl, _⟩ := rel_dptr hx; have := rel_d_nptr hy; subst this
    exact ⟨false, by simp, _, _, rfl, rfl, .inr ⟨rfl, rfl⟩⟩
  · obtain ⟨b, _, rfl⟩ := rel_ptr hy; have := rel_d_nptr hx; subst this
    exact ⟨false, by simp, _, _, rfl, rfl, .inl ⟨rfl, rfl⟩⟩
  · obtain ⟨b, _, _, rfl, _⟩ := rel_dptr hy; have := rel_d_nptr hx; subst this
    exact ⟨false, by simp, _, _, rfl, rfl, .inl ⟨rfl, rfl⟩⟩
  · have := rel_d_nptr hx; subst this; have := rel_d_nptr hy; subst this
    exact ⟨true, by simp, _, _, rfl, rfl, .inl ⟨rfl, rfl⟩⟩

theorem rel_eqf {neg : Bool} {x y : AV} {u v : Value} (hx : Rel c w x u) (hy : Rel c w y v) {r : AV} (h : eqfA neg x y = some r) : ∃ b, r = boolA (b != neg) ∧
    ((u = .nilFunc ∧ v = .nilFunc ∧ b = true) ∨ (∃ f g h, u = .func f g h ∧ v = .nilFunc ∧ b = false) ∨ (∃ f g h, v = .func f g h ∧ u = .nilFunc ∧ b = false)) := by
  unfold eqfA at h
  split at h <;> cases h
  · obtain ⟨vs, rfl, _⟩ := rel_fn hx; have := rel_d_nfn hy; subst this
    exact ⟨false, by simp, .inr (.inl ⟨_, _, _, rfl, rfl, rfl⟩)⟩
  · obtain ⟨vs, rfl, _⟩ := rel_fn hy; have := rel_d_nfn hx; subst this
    exact ⟨false, by simp, .inr (.inr ⟨_, _, _, rfl, rfl, rfl⟩)⟩
  · have := rel_d_nfn hx; subst this; have := rel_d_nfn hy; subst this
    exact ⟨true, by simp, .inl ⟨rfl, rfl, rfl⟩⟩

/-! ### One operand -/

theorem outc_un {op : UnOp} {x : Operand} (hF : FR c w t a.tmps) (hM : MR c m w) {v : AV} {e : Eff} (he : aevN (.un op (cOpd x)) t m n = some (v, e)) :
    Outc P (do pure (.value (← Op.unary op (a.eval x)))) c m n w v e := by
  have hx := rel_ev hF x
  simp only [aevN, Option.map_eq_some_iff] at he
  obtain ⟨v', hv, he⟩ := he
  cases he
  unfold unA at hv
  split at hv
  · rename_i k p h1
    rw [h1] at hx
    have e1 := rel_d_int hx
    cases op <;> simp only [reduceCtorEq] at hv <;> cases hv
    · exact outc_pure hM (by rw [e1]; simp only [Op.unary, Op.intArith, Sem.run_pure]) (rel_wrapI _ _)
    · exact outc_pure hM (by rw [e1]; simp only [Op.unary, intBits_xor, Sem.run_pure]) (rel_int _ _)
  · rename_i p h1
    rw [h1] at hx
    have e1 := rel_d_bool hx
    cases op <;> simp only [reduceCtorEq] at hv <;> cases hv
    exact outc_pure hM (by rw [e1]; simp only [Op.unary, Sem.run_pure]) (rel_boolA _)
  · cases hv

theorem outc_cvi {s d : TypeId} {k' k : IntKind} (hs : P.underlying s = some (.int k')) (hd : P.underlying d = some (.int k)) {x : Operand} (hF : FR c w t a.tmps) (hM : MR c m w) {v : AV} {e : Eff}
    (he : aevN (.cvi k (cOpd x)) t m n = some (v, e)) : Outc P (do pure (.value (← convert s d (a.eval x)))) c m n w v e := by
  have hx := rel_ev hF x
  simp only [aevN] at he
  split at he
  · rename_i k2 p h1
    rw [h1] at hx
    cases he
    have e1 := rel_d_int hx
    exact outc_pure hM (by rw [e1]; simp only [convert, Sem.run_bind, underlying, run_program, Result.andThen_ok, hs, hd, Conv.intToInt, Sem.run_pure]) (rel_wrapI _ _)
  · cases he

theorem outc_cvrune {s d : TypeId} (hs : (∃ k, P.underlying s = some (.int k)) ∨ P.underlying s = some .string) (hd : P.underlying d = some .string) {x : Operand} (hF : FR c w t a.tmps) (hM : MR c m w) {v : AV} {e : Eff}
    (he : aevN (.cvrune (cOpd x)) t m n = some (v, e)) : Outc P (do pure (.value (← convert s d (a.eval x)))) c m n w v e := by
  have hx := rel_ev hF x
  simp only [aevN] at he
  split at he
  · rename_i k2 p h1
    rw [h1] at hx
    cases he
    have e1 := rel_d_int hx
    refine outc_pure (u := .string (Utf8.encode p)) hM ?_ (by simp [Rel, RelD])
    rw [e1]
    rcases hs with ⟨k, hs⟩ | hs <;> simp only [convert, Sem.run_bind, underlying, run_program, Result.andThen_ok, hs, hd, Conv.intToString, Sem.run_pure]
  · rename_i p h1
    rw [h1] at hx
    cases he
    have e1 := rel_d_str hx
    refine outc_pure (u := .string ⟨p.toArray⟩) hM ?_ (rel_str _)
    rw [e1]
    rcases hs with ⟨k, hs⟩ | hs <;> simp only [convert, Sem.run_bind, underlying, run_program, Result.andThen_ok, hs, hd, Sem.run_pure]
  · cases he

theorem outc_ext {x : Operand} {i : Nat} (hF : FR c w t a.tmps) (hM : MR c m w) {v : AV} {e : Eff} (he : aevN (.ext (cOpd x) i) t m n = some (v, e)) :
    Outc P (do pure (.value (← Instr.extract (a.eval x) i))) c m n w v e := by
  have hx := rel_ev hF x
  simp only [aevN] at he
  split at he
  · rename_i vs h1
    rw [h1] at hx
    obtain ⟨us, hu, hr⟩ := rel_tup hx
    rw [Option.map_eq_some_iff] at he
    obtain ⟨v', hv, he⟩ := he
    cases he
    obtain ⟨u, hu', hru⟩ := hr.get hv
    refine outc_pure (u := u) hM ?_ hru
    rw [hu]
    simp only [Instr.extract, List.getElem?_toArray, hu', Sem.run_pure]
  · cases he

theorem outc_mkfn {f : Nat} {caps : Array Operand} (hF : FR c w t a.tmps) (hM : MR c m w) :
    Outc P (do pure (.value (← Instr.makeFunc (.func f) #[] (caps.map a.eval)))) c m n w (.fn f ((caps.toList.map cOpd).map (ev t))) .nil := by
  refine outc_pure (u := .func (.func f) #[] (caps.map a.eval)) hM (by simp [Instr.makeFunc]) ?_
  simp only [Rel]
  exact ⟨caps.toList.map a.eval, congrArg _ (Array.ext' (by simp)), relL_ev hF _⟩

/-! ### Lengths -/

theorem rel_len {x : AV} {v : Value} {l : Nat} (h : Rel c w x v) (hl : lenA x = some l) : ∃ p cap, v = .slice p l cap ∧ l ≤ cap := by
  unfold lenA at hl
  split at hl <;> cases hl
  · exact ⟨_, _, rel_d_nsl h, Nat.le_refl _⟩
  · simp only [Rel, RelD] at h
    obtain ⟨p, cap, hv, hn, _⟩ := h
    exact ⟨p, cap, hv, hn⟩
  · simp only [Rel] at h
    rcases h with ⟨_, _, rfl, hv⟩ | ⟨b, cap, n, _, hv, hn, _⟩
    · exact ⟨_, _, hv, Nat.le_refl _⟩
    · exact ⟨_, _, hv, hn⟩

theorem bytesAV_get {s : List UInt8} {i : Nat} {x : AV} (h : (bytesAV s)[i]? = some x) : ∃ b, s[i]? = some b ∧ x = .d (.int .u8 b.toNat) := by
  unfold bytesAV at h
  rw [List.getElem?_map, Option.map_eq_some_iff] at h
  obtain ⟨b, hb, rfl⟩ := h
  exact ⟨b, hb, rfl⟩

theorem relL_bytes (s : List UInt8) : RelL c w (bytesAV s) (s.map fun b => .int .u8 b.toNat) :=
  RelL.of_get (by simp [bytesAV]) fun i x v hx hv => by
    obtain ⟨b, hb, rfl⟩ := bytesAV_get hx
    rw [List.getElem?_map, hb] at hv
    cases hv
    exact rel_int _ _

end
end Go.Jq

/-! The abstract layer, part 7: soundness of indexing, slicing, conversions and append. -/
namespace Go.Jq
open Go

section
variable {P : Program} {c : Ctx} {m : Mem} {n : Nat} {w : World} {t : Fr} {a : Act}

/-! ### Pointers against nil, structs against structs -/

theorem run_eqGuard_ptr (op : BinOp) (T : TypeId) (x y : Operand) (p q : Option Addr) : (eqGuard op T x y (.pointer p) (.pointer q)).run P w = .ok () w := by
  unfold eqGuard
  cases op <;> rfl

theorem outc_eqp {op : BinOp} {neg : Bool} (hop : (op = .eql ∧ neg = false) ∨ (op = .neq ∧ neg = true)) {T el : TypeId} (hel : P.underlying T = some (.pointer el)) {x y : Operand}
    (hF : FR c w t a.tmps) (hM : MR c m w) {v : AV} {e : Eff} (he : aevN (.eqp neg (cOpd x) (cOpd y)) t m n = some (v, e)) :
    Outc P (do pure (.value (← (do eqGuard op T x y (a.eval x) (a.eval y); binOp op T (a.eval x) (a.eval y))))) c m n w v e := by
  simp only [aevN, Option.map_eq_some_iff] at he
  obtain ⟨v', hv1, he⟩ := he
  cases he
  obtain ⟨b, rfl, p, q, h1, h2, h3⟩ := rel_eqp (rel_ev hF x) (rel_ev hF y) hv1
  have k1 : (Op.equal T (.pointer p) (.pointer q)).run P w = .ok b w := by
    unfold Op.equal
    rw [show Op.maxDepth = 9999 + 1 from rfl, Op.equalIn]
    simp only [Sem.run_bind, underlying, run_program, Result.andThen_ok, hel]
    rcases h3 with ⟨rfl, rfl⟩ | ⟨rfl, rfl⟩
    · cases q <;> simp
    · cases p <;> simp
  refine outc_pure hM ?_ (rel_boolA _)
  rw [h1, h2]
  rcases hop with ⟨rfl, rfl⟩ | ⟨rfl, rfl⟩
  · simp only [Sem.run_bind, run_eqGuard_ptr, Result.andThen_ok, binOp, k1, Sem.run_pure, Bool.bne_false]
  · simp only [Sem.run_bind, run_eqGuard_ptr, Result.andThen_ok, binOp, k1, Sem.run_pure, Bool.bne_true]

theorem run_eqGuard_fn (op : BinOp) (T : TypeId) (x y : Operand) {u v : Value} (hu : u = .nilFunc ∨ ∃ f g h, u = .func f g h) : (eqGuard op T x y u v).run P w = .ok () w := by
  unfold eqGuard
  rcases hu with rfl | ⟨f, g, h, rfl⟩ <;> cases op <;> cases v <;> rfl

theorem outc_eqf {op : BinOp} {neg : Bool} (hop : (op = .eql ∧ neg = false) ∨ (op = .neq ∧ neg = true)) {T : TypeId} {pp rr : Array TypeId} {vv : Bool} (hel : P.underlying T = some (.func pp rr vv)) {x y : Operand}
    (hF : FR c w t a.tmps) (hM : MR c m w) {v : AV} {e : Eff} (he : aevN (.eqf neg (cOpd x) (cOpd y)) t m n = some (v, e)) :
    Outc P (do pure (.value (← (do eqGuard op T x y (a.eval x) (a.eval y); binOp op T (a.eval x) (a.eval y))))) c m n w v e := by
  simp only [aevN, Option.map_eq_some_iff] at he
  obtain ⟨v', hv1, he⟩ := he
  cases he
  obtain ⟨b, rfl, h⟩ := rel_eqf (rel_ev hF x) (rel_ev hF y) hv1
  refine outc_pure hM ?_ (rel_boolA _)
  rcases h with ⟨h1, h2, rfl⟩ | ⟨f, g, k, h1, h2, rfl⟩ | ⟨f, g, k, h1, h2, rfl⟩
  all_goals
    rw [h1, h2]
    rcases hop with ⟨rfl, rfl⟩ | ⟨rfl, rfl⟩
    all_goals
      simp only [Sem.run_bind, run_eqGuard_fn _ _ _ _ (.inl rfl), run_eqGuard_fn _ _ _ _ (.inr ⟨_, _, _, rfl⟩), Result.andThen_ok, binOp, Op.equal]
      rw [show Op.maxDepth = 9999 + 1 from rfl, Op.equalIn]
      simp only [Sem.run_bind, underlying, run_program, Result.andThen_ok, hel, Sem.run_pure]
      rfl

/-! ### Places -/

theorem run_fieldAt {s : TypeId} {fs : Array Field} {f off size : Nat} (hu : P.underlying s = some (.struct fs)) (hf : fieldPlace' P fs f = some (off, size)) (hs : size ≠ 0) (b o : Nat) :
    (Instr.fieldAt s (.pointer (some ⟨b, o, none⟩)) f).run P w = .ok (.pointer (some ⟨b, o + off, none⟩)) w := by
  unfold fieldPlace' at hf
  split at hf
  · rename_i fd hfd
    split at hf
    · rename_i i hi
      cases hf
      simp only [Instr.fieldAt, Sem.run_bind, underlying, run_program, Result.andThen_ok, hu, Sem.run_pure, hfd, Instr.sureAddr, fieldPlace, run_sizeOf hi, if_neg hs, addr_add]
    · cases hf
  · cases hf

theorem outc_faddr {s : TypeId} {fs : Array Field} {f off size : Nat} (hu : P.underlying s = some (.struct fs)) (hf : fieldPlace' P fs f = some (off, size)) (hs : size ≠ 0) {x : Operand}
    (hF : FR c w t a.tmps) (hM : MR c m w) {v : AV} {e : Eff} (he : aevN (.faddr (cOpd x) off) t m n = some (v, e)) : Outc P (do pure (.value (← Instr.fieldAt s (a.eval x) f))) c m n w v e := by
  have hx := rel_ev hF x
  simp only [aevN] at he
  split at he
  · rename_i id o h1
    rw [h1] at hx
    cases he
    obtain ⟨b, hb, hv⟩ := rel_ptr hx
    exact outc_pure hM (by rw [hv]; exact run_fieldAt hu hf hs b o) (by simp only [Rel]; exact ⟨b, hb, rfl⟩)
  · rename_i cs h1
    rw [h1] at hx
    cases he
    obtain ⟨b, o, hb, hv, hc⟩ := rel_dptr hx
    exact outc_pure hM (by rw [hv]; exact run_fieldAt hu hf hs b o) (by simp only [Rel]; exact ⟨b, _, hb, rfl, hc.drop off⟩)
  · cases he

theorem run_part {T : TypeId} {k : Option Nat} (hk : ldk P T = some k) {cs : List AV} {us : List Value} (hr : RelL c w cs us) {off : Nat} {v : AV} (hv : loadA k (cs.drop off) = some v) :
    ∃ u, (part T us.toArray off).run P w = .ok u w ∧ Rel c w v u := by
  rcases ldk_spec hk with ⟨i, hi, rfl, hagg⟩ | ⟨rfl, hagg⟩
  · simp only [loadA] at hv
    split at hv
    · cases hv
      refine ⟨.agg ((us.drop off).take i.size).toArray, ?_, by simp only [Rel]; exact ⟨_, rfl, (hr.drop off).take i.size⟩⟩
      simp only [part, Sem.run_bind, hagg, Result.andThen_ok, if_true, run_sizeOf hi, Sem.run_pure]
      congr 2
      apply Array.ext'
      simp only [Array.toList_extract, List.extract_eq_take_drop]
      simp
    · cases hv
  · simp only [loadA] at hv
    obtain ⟨u, hu, hru⟩ := (hr.drop off).get hv
    refine ⟨u, ?_, hru⟩
    have : us[off]? = some u := by rw [← hu, List.getElem?_drop]; simp
    simp only [part, Sem.run_bind, hagg, Result.andThen_ok, Bool.false_eq_true, if_false, List.getElem?_toArray, this, Sem.run_pure]

theorem outc_fld {s : TypeId} {fs : Array Field} {f : Nat} {fd : Field} {k : Option Nat} (hu : P.underlying s = some (.struct fs)) (hf : fs[f]? = some fd) (hk : ldk P fd.type = some k) {x : Operand}
    (hF : FR c w t a.tmps) (hM : MR c m w) {v : AV} {e : Eff} (he : aevN (.fld (cOpd x) fd.offset k) t m n = some (v, e)) : Outc P (do pure (.value (← Instr.field s (a.eval x) f))) c m n w v e := by
  have hx := rel_ev hF x
  simp only [aevN] at he
  split at he
  · rename_i cs h1
    rw [h1] at hx
    rw [Option.map_eq_some_iff] at he
    obtain ⟨v', hv, he⟩ := he
    cases he
    obtain ⟨us, hv', hr⟩ := rel_agg hx
    obtain ⟨u, hu', hru⟩ := run_part hk hr hv
    exact outc_pure hM (by rw [hv']; simp only [Instr.field, Sem.run_bind, underlying, run_program, Result.andThen_ok, hu, Sem.run_pure, hf, asAgg, hu']) hru
  · cases he

theorem outc_iaddrS {T el : TypeId} {i' : TypeInfo} (hu : P.underlying T = some (.slice el)) (hi' : P.info? el = some i') {x i : Operand} (hF : FR c w t a.tmps) (hM : MR c m w) {v : AV} {e : Eff}
    (he : aevN (.iaddr i'.size none (cOpd x) (cOpd i)) t m n = some (v, e)) : Outc P (do pure (.value (← Instr.indexAt T (a.eval x) (a.eval i)))) c m n w v e := by
  have hx := rel_ev hF x
  have hi := rel_ev hF i
  simp only [aevN] at he
  split at he
  · cases he
  · cases he
  · rename_i id e' off len k j h1 h2
    rw [h1] at hx
    rw [h2] at hi
    split at he
    · rename_i hcond
      obtain ⟨_, rfl, h3, h4⟩ := hcond
      cases he
      have e2 := rel_d_int hi
      simp only [Rel] at hx
      rcases hx with ⟨_, _, rfl, _⟩ | ⟨b, cap, N, hb, hv, hle, hN, hcap⟩
      · omega
      · refine outc_pure (u := .pointer (some ⟨b, off + j.toNat * i'.size, none⟩)) hM ?_ (by simp only [Rel]; exact ⟨b, hb, rfl⟩)
        rw [hv, e2]
        simp only [Instr.indexAt, Sem.run_bind, asIntOf, Sem.run_pure, Result.andThen_ok, underlying, run_program, hu]
        rw [if_pos ⟨h3, h4⟩]
        simp only [Sem.run_bind, run_sizeOf hi', Result.andThen_ok, Sem.run_pure, addr_add]
    · cases he
  · rename_i len cs k j h1 h2
    rw [h1] at hx
    rw [h2] at hi
    split at he
    · rename_i hcond
      obtain ⟨_, h3, h4, h5⟩ := hcond
      cases he
      have e2 := rel_d_int hi
      simp only [Rel, RelD] at hx
      obtain ⟨p, cap, hv, hle, hx⟩ := hx
      rcases hx with ⟨rfl, _⟩ | ⟨b, o, rfl, hb, hc⟩
      · omega
      · refine outc_pure (u := .pointer (some ⟨b, o + j.toNat * i'.size, none⟩)) hM ?_ (by simp only [Rel]; exact ⟨b, _, hb, rfl, hc.drop _⟩)
        rw [hv, e2]
        simp only [Instr.indexAt, Sem.run_bind, asIntOf, Sem.run_pure, Result.andThen_ok, underlying, run_program, hu]
        rw [if_pos ⟨h3, h4⟩]
        simp only [Sem.run_bind, run_sizeOf hi', Result.andThen_ok, Sem.run_pure, addr_add]
    · cases he
  · cases he

theorem run_indexAtA {T el len : Nat} {i' : TypeInfo} (hu : P.underlying T = some (.array len el)) (hi' : P.info? el = some i') (k : IntKind) (j : Int) (h : 0 ≤ j ∧ j < len) (b o : Nat) :
    (Instr.indexAt T (.pointer (some ⟨b, o, none⟩)) (.int k j)).run P w = .ok (.pointer (some ⟨b, o + j.toNat * i'.size, none⟩)) w := by
  simp only [Instr.indexAt, Sem.run_bind, asIntOf, Sem.run_pure, Result.andThen_ok, underlying, run_program, hu, Instr.sureAddr]
  rw [if_pos h]
  simp only [Sem.run_bind, run_sizeOf hi', Result.andThen_ok, Sem.run_pure, addr_add]

theorem outc_iaddrA {T el len : Nat} {i' : TypeInfo} (hu : P.underlying T = some (.array len el)) (hi' : P.info? el = some i') {x i : Operand} (hF : FR c w t a.tmps) (hM : MR c m w) {v : AV} {e : Eff}
    (he : aevN (.iaddr i'.size (some len) (cOpd x) (cOpd i)) t m n = some (v, e)) : Outc P (do pure (.value (← Instr.indexAt T (a.eval x) (a.eval i)))) c m n w v e := by
  have hx := rel_ev hF x
  have hi := rel_ev hF i
  simp only [aevN] at he
  split at he
  · rename_i id o k j h1 h2
    rw [h1] at hx
    rw [h2] at hi
    split at he
    · rename_i hcond
      cases he
      obtain ⟨b, hb, hv⟩ := rel_ptr hx
      have e2 := rel_d_int hi
      exact outc_pure hM (by rw [hv, e2]; exact run_indexAtA hu hi' k j hcond b o) (by simp only [Rel]; exact ⟨b, hb, rfl⟩)
    · cases he
  · rename_i cs k j h1 h2
    rw [h1] at hx
    rw [h2] at hi
    split at he
    · rename_i hcond
      cases he
      obtain ⟨b, o, hb, hv, hc⟩ := rel_dptr hx
      have e2 := rel_d_int hi
      exact outc_pure hM (by rw [hv, e2]; exact run_indexAtA hu hi' k j hcond b o) (by simp only [Rel]; exact ⟨b, _, hb, rfl, hc.drop _⟩)
    · cases he
  · rename_i id e' off len' k j h1 h2
    split at he
    · rename_i hcond
      obtain ⟨h, _⟩ := hcond
      cases h
    · cases he
  · rename_i len' cs k j h1 h2
    split at he
    · rename_i hcond
      obtain ⟨h, _⟩ := hcond
      cases h
    · cases he
  · cases he

theorem outc_idxs {T : TypeId} (hu : P.underlying T = some .string) {x i : Operand} (hF : FR c w t a.tmps) (hM : MR c m w) {v : AV} {e : Eff}
    (he : aevN (.idxs (cOpd x) (cOpd i)) t m n = some (v, e)) : Outc P (do pure (.value (← Instr.index T (a.eval x) (a.eval i)))) c m n w v e := by
  have hx := rel_ev hF x
  have hi := rel_ev hF i
  simp only [aevN] at he
  split at he
  · rename_i s k j h1 h2
    rw [h1] at hx
    rw [h2] at hi
    split at he
    · rename_i hcond
      cases he
      have e1 := rel_d_str hx
      have e2 := rel_d_int hi
      refine outc_pure hM ?_ (rel_int _ _)
      have hlt : j.toNat < s.length := by omega
      have hget : (⟨s.toArray⟩ : ByteArray)[j.toNat]? = some (s.getD j.toNat 0) := by
        have hsz : j.toNat < (⟨s.toArray⟩ : ByteArray).size := by simpa [ByteArray.size] using hlt
        rw [getElem?_pos (ByteArray.mk s.toArray) j.toNat hsz]
        congr 1
        show s.toArray[j.toNat] = _
        simp [hlt]
      rw [e1, e2]
      simp only [Instr.index, Sem.run_bind, asIntOf, Sem.run_pure, Result.andThen_ok, underlying, run_program, hu]
      rw [if_pos hcond.1, hget]
      rfl
    · cases he
  · cases he

theorem outc_idxa {T el len : Nat} {i' : TypeInfo} {k : Option Nat} (hu : P.underlying T = some (.array len el)) (hi' : P.info? el = some i') (hk : ldk P el = some k) {x i : Operand} (hF : FR c w t a.tmps) (hM : MR c m w)
    {v : AV} {e : Eff} (he : aevN (.idxa len i'.size k (cOpd x) (cOpd i)) t m n = some (v, e)) : Outc P (do pure (.value (← Instr.index T (a.eval x) (a.eval i)))) c m n w v e := by
  have hx := rel_ev hF x
  have hi := rel_ev hF i
  simp only [aevN] at he
  split at he
  · rename_i cs k' j h1 h2
    rw [h1] at hx
    rw [h2] at hi
    split at he
    · rename_i hcond
      rw [Option.map_eq_some_iff] at he
      obtain ⟨v', hv, he⟩ := he
      cases he
      obtain ⟨us, hv', hr⟩ := rel_agg hx
      have e2 := rel_d_int hi
      obtain ⟨u, hu', hru⟩ := run_part hk hr hv
      refine outc_pure hM ?_ hru
      rw [hv', e2]
      simp only [Instr.index, Sem.run_bind, asIntOf, Sem.run_pure, Result.andThen_ok, underlying, run_program, hu]
      rw [if_pos hcond]
      simp only [Sem.run_bind, run_sizeOf hi', Result.andThen_ok, hu']
    · cases he
  · cases he

/-! ### Lengths, least and greatest -/

theorem outc_lens {T : TypeId} {ts : Array TypeId} {ty : TypeId} {x : Operand} (ht : ts.toList = [T]) (hu : P.underlying T = some .string)
    (hF : FR c w t a.tmps) (hM : MR c m w) {v : AV} {e : Eff} (he : aevN (.lens (cOpd x)) t m n = some (v, e)) : Outc P (do pure (.value (← Builtin.len_ ts ty #[a.eval x]))) c m n w v e := by
  have hx := rel_ev hF x
  simp only [aevN] at he
  split at he
  · rename_i s h1
    rw [h1] at hx
    cases he
    have e1 := rel_d_str hx
    have h0 : ts[0]? = some T := by rw [← Array.getElem?_toList, ht]; rfl
    refine outc_pure hM ?_ (rel_int _ _)
    have hsz : (ByteArray.mk s.toArray).size = s.length := by show s.toArray.size = _; simp
    rw [e1]
    simp only [Builtin.len_, h0, List.getElem?_toArray, List.getElem?_cons_zero, Sem.run_bind, underlying, run_program, Result.andThen_ok, hu, Sem.run_pure, goInt, hsz]
  · cases he

theorem outc_lenl {T el : TypeId} {ts : Array TypeId} {ty : TypeId} {x : Operand} (ht : ts.toList = [T]) (hu : P.underlying T = some (.slice el))
    (hF : FR c w t a.tmps) (hM : MR c m w) {v : AV} {e : Eff} (he : aevN (.lenl (cOpd x)) t m n = some (v, e)) : Outc P (do pure (.value (← Builtin.len_ ts ty #[a.eval x]))) c m n w v e := by
  have hx := rel_ev hF x
  simp only [aevN, Option.map_eq_some_iff] at he
  obtain ⟨l, hl, he⟩ := he
  cases he
  obtain ⟨p, cap, hv, _⟩ := rel_len hx hl
  have h0 : ts[0]? = some T := by rw [← Array.getElem?_toList, ht]; rfl
  refine outc_pure hM ?_ (rel_int _ _)
  rw [hv]
  simp [Builtin.len_, h0, underlying, hu, goInt]

theorem outc_min {ts : Array TypeId} {ty : TypeId} {x y : Operand} (hF : FR c w t a.tmps) (hM : MR c m w) {v : AV} {e : Eff} (he : aevN (.minI (cOpd x) (cOpd y)) t m n = some (v, e)) :
    Outc P (do pure (.value (← Builtin.min_ ts ty #[a.eval x, a.eval y]))) c m n w v e := by
  have hx := rel_ev hF x
  have hy := rel_ev hF y
  simp only [aevN] at he
  split at he
  · rename_i k p k' q h1 h2
    rw [h1] at hx
    rw [h2] at hy
    cases he
    have e1 := rel_d_int hx
    have e2 := rel_d_int hy
    exact outc_pure hM (by rw [e1, e2]; simp [Builtin.min_, Builtin.min2]) (rel_int _ _)
  · cases he

theorem outc_max {ts : Array TypeId} {ty : TypeId} {x y : Operand} (hF : FR c w t a.tmps) (hM : MR c m w) {v : AV} {e : Eff} (he : aevN (.maxI (cOpd x) (cOpd y)) t m n = some (v, e)) :
    Outc P (do pure (.value (← Builtin.max_ ts ty #[a.eval x, a.eval y]))) c m n w v e := by
  have hx := rel_ev hF x
  have hy := rel_ev hF y
  simp only [aevN] at he
  split at he
  · rename_i k p k' q h1 h2
    rw [h1] at hx
    rw [h2] at hy
    cases he
    have e1 := rel_d_int hx
    have e2 := rel_d_int hy
    exact outc_pure hM (by rw [e1, e2]; simp [Builtin.max_, Builtin.max2]) (rel_int _ _)
  · cases he

end
end Go.Jq

/-! The abstract layer, part 8: soundness of slicing, conversions of bytes, make and append. -/
namespace Go.Jq
open Go

section
variable {P : Program} {c : Ctx} {m : Mem} {n : Nat} {w : World} {t : Fr} {a : Act}

/-! ### Slicing -/

theorem run_bound {x : Value} {k : IntKind} {j : Int} (hx : x = .int k j) {y : Nat} (h : 0 ≤ j ∧ j.toNat ≤ y) (code : BoundsCode) : (Instr.sliceBound x y code).run P w = .ok j.toNat w := by
  subst hx
  simp only [Instr.sliceBound, Sem.run_bind, asIntOf, Sem.run_pure, Result.andThen_ok]
  rw [if_pos ⟨h.1, by omega⟩]
  rfl

theorem bnd_spec {x : Option Operand} {d b : Nat} (hF : FR c w t a.tmps) (h : bndA ((x.map cOpd).map (ev t)) d = some b) :
    (x = none ∧ b = d) ∨ ∃ y k j, x = some y ∧ a.eval y = .int k j ∧ 0 ≤ j ∧ j.toNat = b := by
  cases x with
  | none => simp only [Option.map_none, bndA, Option.some.injEq] at h; exact .inl ⟨rfl, h.symm⟩
  | some y =>
    have hy := rel_ev hF y
    simp only [Option.map_some] at h
    generalize hev : ev t (cOpd y) = av at h hy
    unfold bndA at h
    split at h
    · rename_i h0; cases h0
    · rename_i k j h0
      cases h0
      split at h
      · rename_i hj
        cases h
        exact .inr ⟨y, k, j, rfl, rel_d_int hy, hj, rfl⟩
      · cases h
    · cases h

theorem run_sliceBounds {isSlice : Bool} {len cap l h : Nat} {lo hi : Option Operand}
    (hlo : (lo = none ∧ l = 0) ∨ ∃ y k j, lo = some y ∧ a.eval y = .int k j ∧ 0 ≤ j ∧ j.toNat = l)
    (hhi : (hi = none ∧ h = len) ∨ ∃ y k j, hi = some y ∧ a.eval y = .int k j ∧ 0 ≤ j ∧ j.toNat = h) (hlh : l ≤ h) (hc : h ≤ cap) :
    (Instr.sliceBounds isSlice len cap (lo.map a.eval) (hi.map a.eval) none).run P w = .ok (l, h, cap) w := by
  unfold Instr.sliceBounds
  rcases hhi with ⟨rfl, rfl⟩ | ⟨y, k, j, rfl, hy, hj, rfl⟩
  · rcases hlo with ⟨rfl, rfl⟩ | ⟨y', k', j', rfl, hy', hj', rfl⟩
    · simp
    · simp only [Option.map_none, Option.map_some, Option.isSome_none, Sem.run_bind, Sem.run_pure, Result.andThen_ok, run_bound hy' ⟨hj', hlh⟩]
  · rcases hlo with ⟨rfl, rfl⟩ | ⟨y', k', j', rfl, hy', hj', rfl⟩
    · simp only [Option.map_none, Option.map_some, Sem.run_bind, Sem.run_pure, Result.andThen_ok, run_bound hy ⟨hj, hc⟩]
    · simp only [Option.map_some, Option.isSome_none, Sem.run_bind, Sem.run_pure, Result.andThen_ok, run_bound hy ⟨hj, hc⟩, run_bound hy' ⟨hj', hlh⟩]

theorem extract_str (s : List UInt8) (l h : Nat) : (ByteArray.mk s.toArray).extract l h = ⟨((s.take h).drop l).toArray⟩ := by
  apply ByteArray.ext
  rw [ByteArray.data_extract]
  apply Array.ext'
  simp only [Array.toList_extract, List.extract_eq_take_drop]
  rw [List.drop_take]

theorem outc_slcs {T : TypeId} (hu : P.underlying T = some .string) {x : Operand} {lo hi : Option Operand} (hF : FR c w t a.tmps) (hM : MR c m w) {v : AV} {e : Eff}
    (he : aevN (.slcs (cOpd x) (lo.map cOpd) (hi.map cOpd)) t m n = some (v, e)) : Outc P (do pure (.value (← Instr.sliceAt T (a.eval x) (lo.map a.eval) (hi.map a.eval) none))) c m n w v e := by
  have hx := rel_ev hF x
  simp only [aevN] at he
  split at he
  · rename_i s h1
    rw [h1] at hx
    have e1 := rel_d_str hx
    split at he
    · rename_i l h hl hh
      split at he
      · rename_i hcond
        cases he
        have hsz : (ByteArray.mk s.toArray).size = s.length := by show s.toArray.size = _; simp
        have hb := run_sliceBounds (P := P) (w := w) (isSlice := false) (cap := s.length) (bnd_spec hF hl) (bnd_spec hF hh) hcond.1 hcond.2
        refine outc_pure (u := .string ⟨((s.take h).drop l).toArray⟩) hM ?_ (rel_str _)
        rw [e1]
        simp only [Instr.sliceAt, Sem.run_bind, underlying, run_program, Result.andThen_ok, hu, Instr.slice, Option.isSome_none, Bool.false_eq_true, if_false, Sem.run_pure, hsz, hb, extract_str]
      · cases he
    · cases he
  · cases he

theorem outc_slcl {T el : TypeId} {i : TypeInfo} (hu : P.underlying T = some (.slice el)) (hi' : P.info? el = some i) {x : Operand} {lo hi : Option Operand} (hF : FR c w t a.tmps) (hM : MR c m w) {v : AV} {e : Eff}
    (he : aevN (.slcl i.size (cOpd x) (lo.map cOpd) (hi.map cOpd)) t m n = some (v, e)) : Outc P (do pure (.value (← Instr.sliceAt T (a.eval x) (lo.map a.eval) (hi.map a.eval) none))) c m n w v e := by
  have hx := rel_ev hF x
  simp only [aevN] at he
  split at he
  · rename_i len hlen
    obtain ⟨p, cap, hv, hle⟩ := rel_len hx hlen
    split at he
    · rename_i l h hl hh
      rw [Option.map_eq_some_iff] at he
      obtain ⟨v', hsl, he⟩ := he
      cases he
      have hrun : l ≤ h → h ≤ len → (do pure (.value (← Instr.sliceAt T (a.eval x) (lo.map a.eval) (hi.map a.eval) none)) : Sem Next).run P w = .ok (.value (.slice (if cap = l then p else p.map (·.add (l * i.size))) (h - l) (cap - l))) w := by
        intro h1 h2
        have hb := run_sliceBounds (P := P) (w := w) (isSlice := true) (cap := cap) (bnd_spec hF hl) (bnd_spec hF hh) h1 (Nat.le_trans h2 hle)
        rw [hv]
        simp only [Instr.sliceAt, Sem.run_bind, underlying, run_program, Result.andThen_ok, hu, Instr.slice, hb, run_sizeOf hi', Sem.run_pure]
      unfold slcA at hsl
      split at hsl
      · rename_i hev
        split at hsl
        · rename_i hcond
          obtain ⟨rfl, rfl⟩ := hcond
          cases hsl
          rw [hev] at hx
          have := rel_d_nsl hx
          rw [this] at hv
          cases hv
          refine ⟨_, w, c, hrun (Nat.le_refl _) (Nat.zero_le _), .inl ⟨_, rfl, ?_⟩, hM, Step.refl _ _ _, fun _ _ => rfl, fun _ h => .inl h⟩
          simp [Rel, RelD]
        · cases hsl
      · rename_i n' cells hev
        rw [hev] at hx hlen
        simp only [lenA, Option.some.injEq] at hlen
        split at hsl
        · rename_i hcond
          obtain ⟨h1, h2, _⟩ := hcond
          cases hsl
          refine ⟨_, w, c, hrun h1 (by omega), .inl ⟨_, rfl, ?_⟩, hM, Step.refl _ _ _, fun _ _ => rfl, fun _ h => .inl h⟩
          simp only [Rel, RelD] at hx ⊢
          obtain ⟨p', cap', hv', hle', hx⟩ := hx
          rw [hv'] at hv
          cases hv
          refine ⟨_, _, rfl, by omega, ?_⟩
          by_cases h0 : h - l = 0
          · left; exact ⟨h0, by simp [h0]⟩
          · right
            rcases hx with ⟨h3, _⟩ | ⟨b, o, rfl, hb, hc⟩
            · omega
            · refine ⟨b, o + l * i.size, ?_, hb, (hc.drop _).take _⟩
              rw [if_neg (by omega)]
              simp [addr_add]
        · cases hsl
      · rename_i id e' off n' hev
        rw [hev] at hx hlen
        simp only [lenA, Option.some.injEq] at hlen
        split at hsl
        · rename_i hcond
          obtain ⟨rfl, _, h1, h2⟩ := hcond
          refine ⟨_, w, c, hrun h1 (by omega), .inl ⟨_, rfl, ?_⟩, hM, Step.refl _ _ _, fun _ _ => rfl, fun _ h => .inl h⟩
          simp only [Rel] at hx
          split at hsl
          · rename_i h0
            subst h0
            cases hsl
            simp only [Rel]
            rcases hx with ⟨h3, h4, h5, h6⟩ | ⟨b, cap', N, hb, hv', hle', hN, hcap⟩
            · left
              rw [h6] at hv
              cases hv
              exact ⟨h3, h4, by omega, by simp; omega⟩
            · right
              rw [hv'] at hv
              cases hv
              refine ⟨b, cap, N, hb, ?_, by omega, hN, hcap⟩
              simp [addr_add]
          · rename_i h0
            split at hsl
            · rename_i h3
              cases hsl
              simp only [Rel, RelD]
              exact ⟨_, _, by rw [show h - l = 0 by omega], by omega, .inl ⟨trivial, trivial⟩⟩
            · cases hsl
              simp only [Rel]
              rcases hx with ⟨_, _, h5, _⟩ | ⟨b, cap', N, hb, hv', hle', hN, hcap⟩
              · omega
              · right
                rw [hv'] at hv
                cases hv
                refine ⟨b, cap - l, N, hb, ?_, by omega, hN, ?_⟩
                · rw [if_neg (by omega)]
                  simp [addr_add]
                · have : l * i.size + (cap - l) * i.size = cap * i.size := by rw [← Nat.add_mul]; congr 1; omega
                  omega
        · cases hsl
      · cases hsl
    · cases he
  · cases he

/-! ### Elements of a slice -/

theorem elems_len {y : AV} {esz k : Nat} {new : List AV} (h : elemsOf m esz y = some (k, new)) : new.length = k * esz := by
  unfold elemsOf at h
  split at h
  · cases h; simp
  · split at h
    · cases h; simpa
    · cases h
  · split at h
    · rename_i h1; cases h; subst h1; simp [bytesAV]
    · cases h
  · split at h
    · split at h
      · rename_i h1
        cases h
        rw [List.length_take, List.length_drop]
        omega
      · cases h
    · cases h
  · cases h

theorem elems_one {y : AV} {esz k : Nat} {new : List AV} (h : elemsOf m esz y = some (k, new)) : new.all oneB = true := by
  unfold elemsOf at h
  split at h
  · cases h; rfl
  · split at h
    · cases h; simp [oneB]
    · cases h
  · split at h
    · cases h; simp [bytesAV, oneB]
    · cases h
  · split at h
    · split at h
      · rename_i h1
        cases h
        exact h1.2.2
      · cases h
    · cases h
  · cases h

theorem run_elems {y : AV} {v : Value} {esz k : Nat} {new : List AV} (hy : Rel c w y v) (hM : MR c m w) (h : elemsOf m esz y = some (k, new)) :
    (∀ w', (Builtin.lenOf v).run P w' = .ok k w') ∧ ∃ us : List Value, RelL c w new us ∧ ∀ w', w'.heap = w.heap → (Builtin.firstCells esz k v).run P w' = .ok us.toArray w' := by
  have hlen := elems_len h
  have hload : ∀ (b o : Nat) (us : List Value), us.length = k * esz → (∀ j u, us[j]? = some u → w.cell? ⟨b, o + j, none⟩ = some u) → ∀ w', w'.heap = w.heap → (loadCells ⟨b, o, none⟩ (k * esz)).run P w' = .ok us.toArray w' := by
    intro b o us hl hc w' hw
    rw [← hl]
    exact run_loadCells P w' b o us fun j u hj => by
      have := hc j u hj
      simpa [World.cell?, hw] using this
  unfold elemsOf at h
  split at h
  · cases h
    have := rel_d_nsl hy
    subst this
    exact ⟨fun _ => rfl, [], by simp [RelL], fun _ _ => rfl⟩
  · rename_i n' cells
    split at h
    · rename_i hcl
      cases h
      simp only [Rel, RelD] at hy
      obtain ⟨p, cap, rfl, _, hy⟩ := hy
      refine ⟨fun _ => rfl, ?_⟩
      rcases hy with ⟨rfl, rfl⟩ | ⟨b, o, rfl, hb, hc⟩
      · refine ⟨[], by simp [RelL], fun w' _ => ?_⟩
        cases p with
        | none => rfl
        | some p => simp [Builtin.firstCells, loadCells, loadCellsFrom]
      · obtain ⟨us, hl, hcs, hr⟩ := cellsAt_vals (cellsAt_data hc) cells.length (by simp)
        rw [List.take_of_length_le (by simp)] at hr
        exact ⟨us, hr, fun w' hw => hload b o us (by omega) hcs w' hw⟩
    · cases h
  · rename_i s
    split at h
    · rename_i h1
      subst h1
      cases h
      have := rel_d_str hy
      subst this
      refine ⟨fun w' => ?_, s.map fun b => .int .u8 b.toNat, relL_bytes s, fun w' _ => ?_⟩
      · have hsz : (ByteArray.mk s.toArray).size = s.length := by show s.toArray.size = _; simp
        simp only [Builtin.lenOf, hsz, Sem.run_pure]
      · have := extract_str s 0 s.length
        simp only [Builtin.firstCells, this, Sem.run_pure]
        congr 1
        apply Array.ext'
        simp
    · cases h
  · rename_i id e' off len
    split at h
    · rename_i cs hcs
      split at h
      · rename_i hcond
        obtain ⟨rfl, hle, _⟩ := hcond
        cases h
        simp only [Rel] at hy
        rcases hy with ⟨_, rfl, rfl, rfl⟩ | ⟨b, cap, N, hb, rfl, _⟩
        · exact ⟨fun _ => rfl, [], by simp [RelL], fun _ _ => rfl⟩
        · refine ⟨fun _ => rfl, ?_⟩
          obtain ⟨us, hl, hcs', hr⟩ := cellsAt_vals (cellsAt_own hM hcs hb off) (k * e') (by rw [List.length_drop]; omega)
          exact ⟨us, hr, fun w' hw => hload b off us hl hcs' w' hw⟩
      · cases h
    · cases h
  · cases h

theorem cellBytes_spec : ∀ {cs : List AV} {s : List UInt8} {us : List Value}, RelL c w cs us → cellBytes cs = some s → ∃ ns : List Int, us = ns.map (Value.int .u8) ∧ s = ns.map fun n => UInt8.ofNat n.toNat
  | [], s, us, hr, h => by
    simp only [RelL] at hr
    simp only [cellBytes, Option.some.injEq] at h
    subst hr h
    exact ⟨[], rfl, rfl⟩
  | x :: cs, s, us, hr, h => by
    simp only [RelL] at hr
    obtain ⟨v, vs, rfl, hv, hr⟩ := hr
    unfold cellBytes at h
    split at h
    · rename_i h0; cases h0
    · rename_i k r h0
      cases h0
      rw [Option.map_eq_some_iff] at h
      obtain ⟨s', hs', rfl⟩ := h
      obtain ⟨ns, rfl, rfl⟩ := cellBytes_spec hr hs'
      have := rel_d_int hv
      subst this
      exact ⟨k :: ns, rfl, rfl⟩
    · cases h

theorem run_pushBytes (f : Value → ByteArray → Sem (ForInStep ByteArray)) (hf : ∀ n s, f (.int .u8 n) s = pure (ForInStep.yield (s.push (UInt8.ofNat n.toNat)))) (ns : List Int) (w : World) : ∀ (acc : ByteArray),
    (forIn (ns.map (Value.int .u8)) acc f : Sem ByteArray).run P w = .ok ⟨acc.data ++ (ns.map fun n => UInt8.ofNat n.toNat).toArray⟩ w := by
  induction ns with
  | nil => intro acc; simp
  | cons k ns ih =>
    intro acc
    simp only [List.map_cons, List.forIn_cons, Sem.run_bind, hf, Sem.run_pure, Result.andThen_ok, ih]
    congr 2
    apply Array.ext'
    simp [ByteArray.data_push]

theorem outc_cvbs {s d el : TypeId} (hs : P.underlying s = some (.slice el)) (hel : P.underlying el = some (.int .u8)) (hd : P.underlying d = some .string) {x : Operand} (hF : FR c w t a.tmps) (hM : MR c m w) {v : AV} {e : Eff}
    (he : aevN (.cvbs (cOpd x)) t m n = some (v, e)) : Outc P (do pure (.value (← convert s d (a.eval x)))) c m n w v e := by
  have hx := rel_ev hF x
  simp only [aevN] at he
  split at he
  · cases he
  rename_i hstr
  split at he
  · rename_i k cs hcs
    rw [Option.map_eq_some_iff] at he
    obtain ⟨bs, hbs, he⟩ := he
    cases he
    obtain ⟨hl, us, hr, hfc⟩ := run_elems (P := P) hx hM hcs
    have hf := hfc w rfl
    obtain ⟨ns, rfl, rfl⟩ := cellBytes_spec hr hbs
    have hlen : ∃ p cap, a.eval x = .slice p k cap := by
      cases hev : ev t (cOpd x) with
      | d y =>
        rw [hev] at hx hcs
        cases y with
        | nsl => have := rel_d_nsl hx; simp only [elemsOf, Option.some.injEq, Prod.mk.injEq] at hcs; rw [this, ← hcs.1]; exact ⟨_, _, rfl⟩
        | sl n' cells =>
          simp only [elemsOf] at hcs
          split at hcs
          · cases hcs
            simp only [Rel, RelD] at hx
            obtain ⟨p, cap, hv, _⟩ := hx
            exact ⟨p, cap, hv⟩
          · cases hcs
        | str s => exact (hstr s hev).elim
        | _ => simp [elemsOf] at hcs
      | sl id e' off len =>
        rw [hev] at hx hcs
        simp only [elemsOf] at hcs
        split at hcs
        · split at hcs
          · cases hcs
            simp only [Rel] at hx
            rcases hx with ⟨_, _, rfl, hv⟩ | ⟨b, cap, N, _, hv, _⟩
            · exact ⟨_, _, hv⟩
            · exact ⟨_, _, hv⟩
          · cases hcs
        · cases hcs
      | _ => rw [hev] at hcs; simp [elemsOf] at hcs
    obtain ⟨p, cap, hv⟩ := hlen
    rw [hv] at hf
    refine outc_pure (u := .string ⟨(ns.map fun n => UInt8.ofNat n.toNat).toArray⟩) hM ?_ (rel_str _)
    have hconv : (convert s d (.slice p k cap)).run P w = (Conv.bytesToString (.slice p k cap)).run P w := by
      simp only [convert, Sem.run_bind, underlying, run_program, Result.andThen_ok, hs, hd, Sem.run_pure]
      cases p <;> simp [hel]
    rw [hv, hconv]
    cases p with
    | none =>
      simp only [Builtin.firstCells, Sem.run_pure, Result.ok.injEq, and_true] at hf
      have : ns = [] := by
        have h1 := congrArg Array.size hf
        simp at h1
        exact List.eq_nil_of_length_eq_zero h1.symm
      subst this
      rfl
    | some p =>
      simp only [Builtin.firstCells, Nat.mul_one] at hf
      simp only [Conv.bytesToString, Sem.run_bind, hf, Result.andThen_ok, List.forIn_toArray]
      rw [run_pushBytes (P := P) _ (fun _ _ => rfl) ns w ByteArray.empty]
      simp only [Result.andThen_ok, Sem.run_pure]
      congr 3
      simp
  · cases he

end
end Go.Jq

/-! The abstract layer, part 9: soundness of make, append and of bytes out of a string. -/
namespace Go.Jq
open Go

section
variable {P : Program} {c : Ctx} {m : Mem} {n : Nat} {w : World} {t : Fr} {a : Act}

theorem freeze_row {w : World} {b k : Nat} {arr : Array Value} {T : TypeId} (h : w.heap[b]? = some (.cells arr T (0, 0))) :
    (w.freeze ⟨b, k, none⟩ 1).heap[b]? = some (.cells arr T (k, k + 1)) := by
  simp [World.freeze, Array.getElem?_modify, h]

theorem freeze_other {w : World} {b k j : Nat} (h : j ≠ b) : (w.freeze ⟨b, k, none⟩ 1).heap[j]? = w.heap[j]? := by
  simp only [World.freeze]
  rw [if_neg (by omega)]
  simp only [Array.getElem?_modify]
  rw [if_neg (Ne.symm h)]

theorem freeze_size {w : World} {b k : Nat} : (w.freeze ⟨b, k, none⟩ 1).heap.size = w.heap.size := by
  simp only [World.freeze]
  rw [if_neg (by omega)]
  simp

theorem freeze_rest {w : World} {b k : Nat} : (w.freeze ⟨b, k, none⟩ 1).os = w.os ∧ (w.freeze ⟨b, k, none⟩ 1).tape = w.tape ∧ (w.freeze ⟨b, k, none⟩ 1).output = w.output := by
  simp only [World.freeze]
  rw [if_neg (by omega)]
  exact ⟨rfl, rfl, rfl⟩

theorem run_stringToBytes (s : List UInt8) (T : TypeId) (w : World) :
    ∃ w' arr rest cap, (Conv.stringToBytes T ⟨s.toArray⟩).run P w = .ok (.slice (some ⟨w.heap.size, 0, none⟩) s.length cap) w' ∧ OneMore w w' arr T (arr.size, arr.size + 1) ∧
      arr.toList = (s.map fun b => Value.int .u8 b.toNat) ++ rest ∧ s.length ≤ cap ∧ arr.size = cap := by
  have hsz : (ByteArray.mk s.toArray).size = s.length := by show s.toArray.size = _; simp
  generalize hcap : Question.cut (.appendCap s.length 0 T) (w.tape w.drawn (.appendCap s.length 0 T)) = cap
  have hle : s.length ≤ cap := by rw [← hcap]; simp only [Question.cut]; omega
  generalize harr : (ByteArray.mk s.toArray).data.map (fun b => Value.int .u8 b.toNat) ++ Array.replicate (cap - s.length) (.int .u8 0) = arr
  have hal : arr.toList = (s.map fun b => Value.int .u8 b.toNat) ++ List.replicate (cap - s.length) (.int .u8 0) := by rw [← harr]; simp
  have hasz : arr.size = cap := by rw [← Array.length_toList, hal]; simp; omega
  have hw1 : (w.drew.alloc (.cells arr T)).heap[w.heap.size]? = some (.cells arr T (0, 0)) := by
    have := (oneMore_alloc w.drew arr T).row
    simpa using this
  refine ⟨(w.drew.alloc (.cells arr T)).freeze ⟨w.heap.size, arr.size, none⟩ 1, arr, List.replicate (cap - s.length) (.int .u8 0), cap, ?_, ?_, hal, hle, hasz⟩
  · have hsh : (w.drew.alloc (.cells arr T)).shape? w.heap.size = some (T, arr.size) := by simp only [World.shape?, hw1]
    simp only [Conv.stringToBytes, Sem.run_bind, run_choose, hsz, Question.forced, Bool.false_eq_true, if_false, hcap, World.drew_eq, Result.andThen_ok, newRow, harr, run_newObj, World.alloc_eq, World.size_drew, Sem.run_pure,
      markStringish, run_shape, hsh, run_freeze]
  · obtain ⟨h1, h2, h3⟩ := @freeze_rest (w.drew.alloc (.cells arr T)) w.heap.size arr.size
    refine ⟨h1, h2, h3, ?_, fun k hk => ?_, freeze_row hw1⟩
    · rw [freeze_size]; simp
    · rw [freeze_other (by omega)]
      exact (oneMore_alloc w.drew arr T).old k (by simpa using hk)

theorem outc_cvsb {s d el : TypeId} (hs : P.underlying s = some .string) (hd : P.underlying d = some (.slice el)) (hel : P.underlying el = some (.int .u8)) {x : Operand} (hF : FR c w t a.tmps) (hM : MR c m w) (hn : c.φ n = .free) {v : AV} {e : Eff}
    (he : aevN (.cvsb (cOpd x)) t m n = some (v, e)) : Outc P (do pure (.value (← convert s d (a.eval x)))) c m n w v e := by
  have hx := rel_ev hF x
  simp only [aevN] at he
  split at he
  · rename_i bs h1
    rw [h1] at hx
    cases he
    have e1 := rel_d_str hx
    obtain ⟨w', arr, rest, cap, hrun, hone, hal, hle, hsz⟩ := run_stringToBytes (P := P) bs el w
    refine outc_new (u := .slice (some ⟨w.heap.size, 0, none⟩) bs.length cap) hM hn ?_ hone (.inr (Nat.le_refl _)) hal (relL_bytes bs) ?_
    · rw [e1]
      simp only [convert, Sem.run_bind, underlying, run_program, Result.andThen_ok, hs, hd, Sem.run_pure, hel, hrun]
    · simp only [Rel]
      exact .inr ⟨w.heap.size, cap, (_, arr.size), Ctx.bind_eq, rfl, hle, rowSize_of_row hone.row, by omega⟩
  · cases he

theorem freeze_row' {w : World} {b k : Nat} {arr : Array Value} {T : TypeId} {f : Nat × Nat} (h : w.heap[b]? = some (.cells arr T f)) :
    (w.freeze ⟨b, k, none⟩ 1).heap[b]? = some (.cells arr T (if f.1 == f.2 then (k, k + 1) else (min f.1 k, max f.2 (k + 1)))) := by
  obtain ⟨lo, hi⟩ := f
  simp only [World.freeze]
  rw [if_neg (by omega)]
  simp only [Array.getElem?_modify, if_true, h, Option.map_some]

theorem outc_cvll {s el : TypeId} (hs : P.underlying s = some (.slice el)) (hel : P.underlying el = some (.int .u8)) {x : Operand} (hF : FR c w t a.tmps) (hM : MR c m w) {v : AV} {e : Eff}
    (he : aevN (.cvll (cOpd x)) t m n = some (v, e)) : Outc P (do pure (.value (← convert s s (a.eval x)))) c m n w v e := by
  have hx := rel_ev hF x
  simp only [aevN] at he
  split at he
  · rename_i id e' off len h1
    rw [h1] at hx
    split at he
    · rename_i cs hcs
      split at he
      · cases he
      · rename_i hl
        cases he
        have hx' := hx
        simp only [Rel] at hx
        rcases hx with ⟨_, _, h2, _⟩ | ⟨b, cap, N, hb, hv, hle, hN, hcap⟩
        · exact absurd h2 hl
        · rcases hM.own id cs hcs with ⟨h0, _⟩ | ⟨b', arr, T, f, hb', hni, hw, hf, vs, rest, ha, hr⟩
          · rw [h0] at hb; cases hb
          · rw [hb'] at hb
            cases hb
            have hrow := @freeze_row' w b arr.size arr T f hw
            have hto : RowTo w (w.freeze ⟨b, arr.size, none⟩ 1) b arr T (if f.1 == f.2 then (arr.size, arr.size + 1) else (min f.1 arr.size, max f.2 (arr.size + 1))) := by
              obtain ⟨q1, q2, q3⟩ := @freeze_rest w b arr.size
              exact ⟨q1, q2, q3, freeze_size, fun k hk => freeze_other hk, hrow⟩
            have hf' : NoFz arr.size (if f.1 == f.2 then (arr.size, arr.size + 1) else (min f.1 arr.size, max f.2 (arr.size + 1))) := by
              split
              · exact .inr (Nat.le_refl _)
              · rename_i hne
                rcases hf with h3 | h3
                · simp [h3] at hne
                · exact .inr (by simp only; omega)
            have hrows : ∀ k q, rowSize w k = some q → rowSize (w.freeze ⟨b, arr.size, none⟩ 1) k = some q := fun k q hq => by
              by_cases ek : k = b
              · subst ek; rw [rowSize_of_row hw] at hq; rw [rowSize_of_row hrow]; exact hq
              · rw [rowSize_eq (hto.other k ek)]; exact hq
            have hl' : Later c c w (w.freeze ⟨b, arr.size, none⟩ 1) := ⟨fun _ h => h, fun k hk => hto.other k fun ek => hni (ek ▸ hk), fun _ _ => rfl, hrows⟩
            have hown : Own c m b := ⟨id, by rw [hcs]; rfl, hb'⟩
            refine ⟨.value (a.eval x), w.freeze ⟨b, arr.size, none⟩ 1, c, ?_, .inl ⟨_, rfl, rel_mono hl' _ _ hx'⟩, ?_, ?_, fun _ _ => rfl, fun _ h => .inl h⟩
            · rw [hv]
              have hsh : w.shape? b = some (T, arr.size) := by simp only [World.shape?, hw]
              simp only [convert, Sem.run_bind, underlying, run_program, Result.andThen_ok, hs, Sem.run_pure, hel, BEq.rfl, markStringish, run_shape, hsh, run_freeze]
            · refine ⟨fun i cells hi => ?_, hM.inj, fun k hk => by rw [hto.size]; exact hM.imm k hk, hM.tabTo hl'.imm hl'.same⟩
              by_cases hib : c.φ i = .blk b
              · have : i = id := hM.inj i id b (by simp only [Eff.mem] at hi; rw [hi]; rfl) (by rw [hcs]; rfl) hib hb'
                subst this
                simp only [Eff.mem] at hi
                rw [hcs] at hi
                cases hi
                exact .inr ⟨b, arr, T, _, hb', hni, hrow, hf', vs, rest, ha, relL_mono hl' _ _ hr⟩
              · exact (hM.own i cells hi).later hl' fun k hk => ⟨hto.other k fun ek => hib (ek ▸ hk), fun him => hM.sep him ⟨i, by simp only [Eff.mem] at hi; rw [hi]; rfl, hk⟩⟩
            · exact ⟨hto.os, hto.tape, hto.output, by rw [hto.size]; exact Nat.le_refl _, fun k _ hk => hto.other k fun ek => hk (ek ▸ hown), hrows, fun _ h => h, fun _ h => .inl h⟩
    · cases he
  · cases he

theorem wrap_id {x : Int} (h : 0 ≤ x) (h' : x ≤ 9223372036854775807) : IntKind.i64.wrap x = x := by
  unfold IntKind.wrap
  have hb : IntKind.i64.bits = 64 := rfl
  have hs : IntKind.i64.signed = true := rfl
  simp only [hb, hs, Bool.true_and]
  have hmod : x % 2 ^ 64 = x := Int.emod_eq_of_lt h (by omega)
  rw [hmod]
  have : ¬ (x ≥ 2 ^ (64 - 1)) := by
    have h2 : (2 : Int) ^ (64 - 1) = 9223372036854775808 := by decide
    rw [h2]; omega
  rw [if_neg (by simpa using this)]

theorem outc_mksl {T el : TypeId} {i : TypeInfo} {z : List AV} (hu : P.underlying T = some (.slice el)) (hi : P.info? el = some i) (hz : zeroOf P el = some z) (hz0 : z.length ≠ 0) {x y : Operand}
    (hF : FR c w t a.tmps) (hM : MR c m w) (hn : c.φ n = .free) {v : AV} {e : Eff} (he : aevN (.mksl i.size i.bytes z (cOpd x) (cOpd y)) t m n = some (v, e)) :
    Outc P (do pure (.value (← Instr.makeSlice T (a.eval x) (a.eval y)))) c m n w v e := by
  have hx := rel_ev hF x
  have hy := rel_ev hF y
  simp only [aevN] at he
  split at he
  · rename_i p q h1 h2
    rw [h1] at hx
    rw [h2] at hy
    have e1 := rel_d_int hx
    have e2 := rel_d_int hy
    split at he
    · rename_i hcond
      obtain ⟨hp, hpq, hb, hq⟩ := hcond
      cases he
      obtain ⟨zv, hzv, hzz⟩ := run_zero (w := w) hz
      have hzr : RelL c w z zv.cells.toList := by rw [hzz]; exact relL_cval1 _
      have hzl2 := hzr.length
      have hzs : zv.cells.size = z.length := by simpa using hzl2
      have hle : p.toNat * i.size ≤ q.toNat * i.size := Nat.mul_le_mul_right _ (by omega)
      refine outc_new (u := .slice (some ⟨w.heap.size, 0, none⟩) p.toNat q.toNat) hM hn (T := el) (arr := (Array.range (q.toNat * i.size)).map fun j => zv.cells[j % zv.cells.size]!) ?_ (oneMore_alloc w _ el) (noFz_zero _)
        (vs := (List.range (p.toNat * i.size)).map fun j => zv.cells.toList.toArray[j % zv.cells.toList.length]!)
        (rest := ((List.range (q.toNat * i.size)).drop (p.toNat * i.size)).map fun j => zv.cells[j % zv.cells.size]!) ?_ (relL_range hzr _ (.inr hz0)) ?_
      · have hw1 := wrap_id hp (Int.le_trans hpq hq)
        have hw2 := wrap_id (Int.le_trans hp hpq) hq
        rw [e1, e2]
        simp only [Instr.makeSlice, Sem.run_bind, underlying, run_program, Result.andThen_ok, hu, Sem.run_pure, asInt, asIntOf, typeInfo, hi, hw1, hw2]
        have hno : ((decide (q < 0) || decide ((i.bytes : Int) * q > 2 ^ 48)) || decide (p < 0) || decide (p > q)) = false := by
          have : ¬ ((i.bytes : Int) * q > 2 ^ 48) := by omega
          simp
          omega
        rw [if_neg (by rw [hno]; simp)]
        simp only [Sem.run_bind, run_askRoom, Result.andThen_ok, run_sizeOf hi]
        by_cases h0 : q.toNat * i.size = 0
        · rw [if_pos h0]
          simp only [Sem.run_bind, Sem.run_pure, Result.andThen_ok, newRow, run_newObj, World.alloc_eq, h0, show Array.range 0 = #[] from rfl, Array.map_empty]
        · rw [if_neg h0]
          simp only [Sem.run_bind, hzv, Sem.run_pure, Result.andThen_ok, newRow, run_newObj, World.alloc_eq]
      · simp only [Array.toList_map, Array.toList_range, Array.toArray_toList, Array.length_toList]
        rw [← List.map_append]
        congr 1
        have := List.take_append_drop (p.toNat * i.size) (List.range (q.toNat * i.size))
        rw [List.take_range, Nat.min_eq_left hle] at this
        exact this.symm
      · simp only [Rel]
        refine .inr ⟨w.heap.size, q.toNat, (el, q.toNat * i.size), Ctx.bind_eq, rfl, by omega, ?_, by omega⟩
        rw [rowSize_of_row (oneMore_alloc w _ el).row]
        simp
    · cases he
  · cases he

/-! ### append -/

/-- What append needs to know of its types. -/
structure AppT (P : Program) (ts : Array TypeId) (el : TypeId) (i : TypeInfo) : Prop where
  s : ∃ sT, ts[0]? = some sT ∧ P.underlying sT = some (.slice el)
  x : ∃ xT u, ts[1]? = some xT ∧ P.underlying xT = some u ∧ (∀ k, u ≠ .int k)
  hi : P.info? el = some i
  z : ∃ zv, i.zero = some zv ∧ zv.cells.size = i.size

theorem notInt_run {xT : TypeId} {u : TypeDesc} (hu : P.underlying xT = some u) (hne : ∀ k, u ≠ .int k) :
    ((do pure ((← underlying xT) matches .int _)) : Sem Bool).run P w = .ok false w := by
  simp only [underlying, Sem.run_bind, run_program, Result.andThen_ok, hu, Sem.run_pure]

theorem run_append_in {ts : Array TypeId} {el ty : TypeId} {i : TypeInfo} (hT : AppT P ts el i) {base : Option Addr} {sLen cap k : Nat} {x : Value} {us : List Value} {w' : World}
    (hl : ∀ w', (Builtin.lenOf x).run P w' = .ok k w') (hf : (Builtin.firstCells i.size k x).run P w = .ok us.toArray w) (hle : sLen + k ≤ cap)
    (hst : (match base with | some a => storeCells (a.add (sLen * i.size)) us | none => pure ()).run P w = .ok () w') :
    (Builtin.append_ ts ty #[.slice base sLen cap, x]).run P w = .ok (.slice base (sLen + k) cap) w' := by
  obtain ⟨⟨sT, h0, hs⟩, ⟨xT, u, h1, hu, hne⟩, hi, z, hz, hzs⟩ := hT
  have hni := notInt_run (P := P) (w := w) hu hne
  simp only [Builtin.append_, h0, h1, List.getElem?_toArray, List.getElem?_cons_zero, List.getElem?_cons_succ, Sem.run_bind, underlying, run_program, Result.andThen_ok, hs, Sem.run_pure, run_sizeOf hi]
  simp only [underlying, Sem.run_bind, run_program, Result.andThen_ok, hu, Sem.run_pure] at hni
  cases u <;> first
    | exact absurd rfl (hne _)
    | (simp only [hu, Sem.run_pure, Sem.run_bind, Result.andThen_ok, hl, Bool.false_eq_true, if_false]
       rw [if_pos hle]
       simp only [Bool.not_false, if_true, Sem.run_bind, hf, Result.andThen_ok]
       cases base with
       | none => simp only [Sem.run_pure, Result.ok.injEq, true_and] at hst; subst hst; rfl
       | some b => simp only [Sem.run_bind, hst, Result.andThen_ok, Sem.run_pure])

theorem run_append_grow {ts : Array TypeId} {el ty : TypeId} {i : TypeInfo} (hT : AppT P ts el i) {base : Option Addr} {sLen cap k : Nat} {x : Value} {vs us : List Value}
    (hl : ∀ w', (Builtin.lenOf x).run P w' = .ok k w') (hf : ∀ w', w'.heap = w.heap → (Builtin.firstCells i.size k x).run P w' = .ok us.toArray w')
    (ho : ∀ w', w'.heap = w.heap → (Builtin.firstCells i.size sLen (.slice base sLen cap)).run P w' = .ok vs.toArray w')
    (hle : cap < sLen + k) (hb : (sLen + k) * i.bytes ≤ 140737488351232) (h63 : sLen + k ≤ 9223372036854775807) (hvs : vs.length = sLen * i.size) (hus : us.length = k * i.size) :
    ∃ w' arr rest newCap, (Builtin.append_ ts ty #[.slice base sLen cap, x]).run P w = .ok (.slice (some ⟨w.heap.size, 0, none⟩) (sLen + k) newCap) w' ∧ OneMore w w' arr el (0, 0) ∧
      arr.toList = (vs ++ us) ++ rest ∧ sLen + k ≤ newCap ∧ arr.size = newCap * i.size := by
  obtain ⟨⟨sT, h0, hs⟩, ⟨xT, u, h1, hu, hne⟩, hi, z, hz, hzs⟩ := hT
  generalize hcap : Question.cut (.appendCap (sLen + k) cap el) (w.tape w.drawn (.appendCap (sLen + k) cap el)) = newCap
  have hnc : sLen + k ≤ newCap := by rw [← hcap]; simp only [Question.cut]; omega
  have hfit : ¬ (Builtin.nextslicecap (sLen + k) cap * i.bytes > 2 ^ 48) := by
    have := growslice_fits (need := sLen + k) (old := cap) (bytes := i.bytes) hle (by omega)
    omega
  have hmax : ¬ (((sLen + k : Nat) : Int) > IntKind.i64.max ∧ ((false : Bool) = true ∨ i.bytes = 0)) := by
    have : IntKind.i64.max = 9223372036854775807 := by rfl
    rw [this]; omega
  generalize hrest : Builtin.zeroCells z.cells (newCap - (sLen + k)) = rest
  have hrl : rest.size = (newCap - (sLen + k)) * i.size := by rw [← hrest, ← hzs]; simp [Builtin.zeroCells]
  refine ⟨w.drew.alloc (.cells (vs.toArray ++ us.toArray ++ rest) el), vs.toArray ++ us.toArray ++ rest, rest.toList, newCap, ?_, ?_, by simp, hnc, ?_⟩
  · simp only [Builtin.append_, h0, h1, List.getElem?_toArray, List.getElem?_cons_zero, List.getElem?_cons_succ, Sem.run_bind, underlying, run_program, Result.andThen_ok, hs, Sem.run_pure, run_sizeOf hi]
    cases u <;> first
      | exact absurd rfl (hne _)
      | (simp only [hu, Sem.run_pure, Sem.run_bind, Result.andThen_ok, hl, Bool.false_eq_true, if_false]
         rw [if_neg (Nat.not_le.2 hle)]
         simp only [Sem.run_bind, typeInfo, run_program, Result.andThen_ok, hi, Sem.run_pure, Bool.false_eq_true] at hmax ⊢
         rw [if_neg hmax]
         simp only [Sem.run_bind, run_program, Result.andThen_ok, hi, Sem.run_pure]
         rw [if_neg hfit]
         simp only [Sem.run_bind, run_choose, Question.forced, Bool.false_eq_true, if_false, hcap, World.drew_eq, Result.andThen_ok, run_askRoom, ho w.drew rfl, Bool.not_false, if_true, hf w.drew rfl, zeroValue, typeInfo, run_program, hi, Sem.run_pure, hz, hrest,
           newRow, run_newObj, World.alloc_eq, World.size_drew])
  · have h := oneMore_alloc w.drew (vs.toArray ++ us.toArray ++ rest) el
    exact ⟨h.os, h.tape, h.output, h.size, h.old, h.row⟩
  · simp only [Array.size_append, List.size_toArray, hvs, hus, hrl]
    rw [← Nat.add_mul, ← Nat.add_mul]
    congr 1
    omega

theorem own_cells {id b : Nat} {cs : List AV} (hM : MR c m w) (hid : mget m id = some cs) (hφ : c.φ id = .blk b) :
    ∃ arr T f vs rest, ¬ c.imm b ∧ w.heap[b]? = some (.cells arr T f) ∧ NoFz arr.size f ∧ arr.toList = vs ++ rest ∧ RelL c w cs vs := by
  rcases hM.own id cs hid with ⟨h0, _⟩ | ⟨b', arr, T, f, hb, hi, hw, hf, vs, rest, ha, hr⟩
  · rw [h0] at hφ; cases hφ
  · rw [hb] at hφ; cases hφ; exact ⟨arr, T, f, vs, rest, hi, hw, hf, ha, hr⟩

theorem outc_app {ts : Array TypeId} {el ty : TypeId} {i : TypeInfo} (hT : AppT P ts el i) {x y : Operand} (hF : FR c w t a.tmps) (hM : MR c m w) (hn : c.φ n = .free) {v : AV} {e : Eff}
    (hbz : i.bytes ≠ 0)
    (he : aevN (.app i.size i.bytes el (cOpd x) (cOpd y)) t m n = some (v, e)) : Outc P (do pure (.value (← Builtin.append_ ts ty #[a.eval x, a.eval y]))) c m n w v e := by
  have hx := rel_ev hF x
  have hy := rel_ev hF y
  have h63 : ∀ k len, (len + k) * i.bytes ≤ 140737488351232 → len + k ≤ 9223372036854775807 := fun k len h => by
    have := Nat.le_mul_of_pos_right (len + k) (Nat.pos_of_ne_zero hbz)
    omega
  simp only [aevN] at he
  split at he
  · rename_i k new hel
    obtain ⟨hlen, us, hus, hfc⟩ := run_elems (P := P) hy hM hel
    have hnl := elems_len hel
    have husl : us.length = k * i.size := by rw [hus.length, hnl]
    split at he
    · rename_i hev
      rw [hev] at hx
      have e1 := rel_d_nsl hx
      split at he
      · rename_i hb
        split at he
        · rename_i hk
          cases he
          subst hk
          refine outc_pure (u := .slice none 0 0) hM ?_ (by simp [Rel, RelD])
          rw [e1]
          exact run_append_in (us := us) hT hlen (hfc w rfl) (Nat.le_refl _) rfl
        · rename_i hk
          cases he
          obtain ⟨w', arr, rest, cap, hrun, hone, hal, hle, hsz⟩ := run_append_grow (ty := ty) (base := none) (sLen := 0) (cap := 0) (vs := []) hT hlen hfc (fun _ _ => rfl) (by omega) (by simpa using hb) (h63 k 0 (by simpa using hb)) (by simp) husl
          simp only [Nat.zero_add, List.nil_append] at hrun hal hle
          refine outc_new hM hn ?_ hone (noFz_zero _) hal hus ?_ (u := .slice (some ⟨w.heap.size, 0, none⟩) k cap)
          · rw [e1]; exact hrun
          · simp only [Rel]
            exact .inr ⟨w.heap.size, cap, (_, arr.size), Ctx.bind_eq, rfl, hle, rowSize_of_row hone.row, by omega⟩
      · cases he
    · rename_i id e' off len hev
      rw [hev] at hx
      split at he
      · rename_i cs hcs
        split at he
        · rename_i hcond
          obtain ⟨rfl, hend, hb⟩ := hcond
          split at he
          · rename_i hk
            subst hk
            cases he
            simp only [Rel] at hx
            rcases hx with ⟨h0, rfl, rfl, hv⟩ | ⟨b, cap, N, hb', hv, hle, hN, hcap⟩
            · refine outc_pure (u := .slice none 0 0) hM ?_ (by simp only [Rel]; exact .inl ⟨h0, trivial, trivial, trivial⟩)
              rw [hv]
              exact run_append_in (us := us) hT hlen (hfc w rfl) (Nat.le_refl _) rfl
            · refine outc_pure (u := .slice (some ⟨b, off, none⟩) len cap) hM ?_ (by simp only [Rel]; exact .inr ⟨b, cap, N, hb', rfl, hle, hN, hcap⟩)
              have : us = [] := List.eq_nil_of_length_eq_zero (by rw [husl]; simp)
              subst this
              rw [hv]
              exact run_append_in (us := []) hT hlen (hfc w rfl) (by omega) rfl
          · rename_i hk
            split at he
            · rename_i hoff
              subst hoff
              cases he
              have h63' := h63 k len hb
              simp only [Nat.zero_add] at hend
              simp only [Rel] at hx
              rcases hx with ⟨h0, _, rfl, hv⟩ | ⟨b, cap, N, hb', hv, hle, hN, hcap⟩
              · -- a nil slice under a number
                have hcs0 : cs = [] := List.eq_nil_of_length_eq_zero (by omega)
                subst hcs0
                obtain ⟨w', arr, rest, cap, hrun, hone, hal, hle, hsz⟩ := run_append_grow (ty := ty) (base := none) (sLen := 0) (cap := 0) (vs := []) hT hlen hfc (fun _ _ => rfl) (by omega) hb h63' (by simp) husl
                simp only [Nat.zero_add, List.nil_append] at hrun hal hle
                refine ⟨.value (.slice (some ⟨w.heap.size, 0, none⟩) k cap), w', c.bind n (.blk w.heap.size), ?_, .inl ⟨_, rfl, ?_⟩, ?_, hone.step n, fun _ h => Ctx.bind_ne (h.resolve_right (by simp [Eff.next])), fun b hb => ?_⟩
                · rw [hv]; simp [hrun]
                · simp only [Rel, Nat.zero_add]
                  exact .inr ⟨w.heap.size, cap, (_, arr.size), Ctx.bind_eq, rfl, hle, rowSize_of_row hone.row, by omega⟩
                · exact (hM.del id).new hone hn (noFz_zero _) hal hus
                · rcases own_new hb with h | h
                  · exact .inl (own_del h)
                  · exact .inr h
              · obtain ⟨arr, T, f, vs, rest, hni, hw, hf, ha, hr⟩ := own_cells hM hcs hb'
                have hvl : vs.length = len * i.size := by rw [hr.length]; exact hend.symm
                have hNs : N = (T, arr.size) := by rw [rowSize_of_row hw] at hN; exact (Option.some.inj hN).symm
                subst hNs
                have hsz : arr.size = vs.length + rest.length := by rw [← Array.length_toList, ha, List.length_append]
                by_cases hfit : len + k ≤ cap
                · -- in place
                  have hmul : (len + k) * i.size ≤ cap * i.size := Nat.mul_le_mul_right _ hfit
                  rw [Nat.add_mul] at hmul
                  obtain ⟨w', hst, hto⟩ := run_storeCells P b T f us w arr (len * i.size) 0 hw hf (relL_one hus (elems_one hel)) (by omega)
                  · obtain ⟨rest', hp, hpl⟩ := putVs_end us vs rest (by omega)
                    have harr : putVs arr.toList (len * i.size + 0) us = vs ++ us ++ rest' := by rw [ha, Nat.add_zero, ← hvl]; exact hp
                    rw [harr] at hto
                    have hs : (vs ++ us ++ rest').toArray.size = arr.size := by simp; omega
                    have hM1 := hM.put (cells := cs ++ new) (vs := vs ++ us) (rest := rest') hcs hb' hto hw hs hni hf (by simp) (hr.append hus)
                    have hM2 := hM1.again (n := n) (by rw [mget_mset, if_pos rfl]) hn (.blk b) hb'
                    have hmem : ∀ j, mget (mset (mdel (mset m id (cs ++ new)) id) n (cs ++ new)) j = mget (mset (mdel m id) n (cs ++ new)) j := by
                      intro j
                      simp only [mget_mset, mget_mdel]
                      by_cases h1 : id = j <;> simp [h1]
                    refine ⟨.value (.slice (some ⟨b, 0, none⟩) (len + k) cap), w', c.bind n (.blk b), ?_, .inl ⟨_, rfl, ?_⟩, ?_, ?_, fun _ h => Ctx.bind_ne (h.resolve_right (by simp [Eff.next])), fun b' hb2 => .inl (own_again (id := id) (by rw [hcs]; rfl) hb' hb2)⟩
                    · rw [hv]
                      have := run_append_in (ty := ty) (base := some ⟨b, 0, none⟩) hT hlen (hfc w rfl) hfit (w' := w') (by simp only [addr_add, Nat.zero_add]; exact hst)
                      simp [this]
                    · simp only [Rel]
                      refine .inr ⟨b, cap, (T, arr.size), Ctx.bind_eq, rfl, hfit, ?_, hcap⟩
                      rw [rowSize_of_row hto.row, hs]
                    · exact ⟨fun j cells hj => hM2.own j cells (by rw [hmem]; exact hj), fun j j' b2 h1 h2 => hM2.inj j j' b2 (by rw [hmem]; exact h1) (by rw [hmem]; exact h2), hM2.imm, hM2.tab⟩
                    · have := hto.step (c := c) hw hs ⟨id, by rw [hcs]; rfl, hb'⟩
                      exact ⟨this.os, this.tape, this.output, this.size, this.keep, this.rows, this.imm, this.imm'⟩
                · -- anew
                  have hold : ∀ w', w'.heap = w.heap → (Builtin.firstCells i.size len (.slice (some ⟨b, 0, none⟩) len cap)).run P w' = .ok vs.toArray w' := by
                    intro w' hw'
                    have := run_loadCells P w' b 0 vs fun j u hj => by
                      have h1 : w'.heap[b]? = some (.cells arr T f) := by rw [hw']; exact hw
                      rw [cell_of_row h1, ← Array.getElem?_toList, ha, Nat.zero_add, List.getElem?_append_left (List.getElem?_eq_some_iff.1 hj).1]
                      exact hj
                    rw [hvl] at this
                    exact this
                  obtain ⟨w', arr', rest', cap', hrun, hone, hal, hle', hsz'⟩ := run_append_grow (ty := ty) (base := some ⟨b, 0, none⟩) (sLen := len) (cap := cap) (vs := vs) hT hlen hfc hold (by omega) hb h63' hvl husl
                  refine ⟨.value (.slice (some ⟨w.heap.size, 0, none⟩) (len + k) cap'), w', c.bind n (.blk w.heap.size), ?_, .inl ⟨_, rfl, ?_⟩, ?_, hone.step n, fun _ h => Ctx.bind_ne (h.resolve_right (by simp [Eff.next])), fun b hb => ?_⟩
                  · rw [hv]; simp [hrun]
                  · simp only [Rel]
                    exact .inr ⟨w.heap.size, cap', (_, arr'.size), Ctx.bind_eq, rfl, hle', rowSize_of_row hone.row, by omega⟩
                  · exact (hM.del id).new hone hn (noFz_zero _) hal (hr.append hus)
                  · rcases own_new hb with h | h
                    · exact .inl (own_del h)
                    · exact .inr h
            · cases he
        · cases he
      · cases he
    · rename_i id T' len hev
      rw [hev] at hx
      split at he
      · rename_i cs hcs
        split at he
        · rename_i hcond
          obtain ⟨hsz1, rfl, hend0, hb⟩ := hcond
          have hend : len * i.size = cs.length := by rw [hsz1, Nat.mul_one]; exact hend0
          split at he
          · rename_i hk
            subst hk
            cases he
            simp only [Rel] at hx
            rcases hx with ⟨h0, rfl, hv⟩ | ⟨b, cap, N, hb', hv, hle, hN, hcap⟩
            · refine outc_pure (u := .slice none 0 0) hM ?_ (by simp only [Rel]; exact .inl ⟨h0, trivial, trivial⟩)
              rw [hv]
              exact run_append_in (us := us) hT hlen (hfc w rfl) (Nat.le_refl _) rfl
            · refine outc_pure (u := .slice (some ⟨b, 0, none⟩) len cap) hM ?_ (by simp only [Rel]; exact .inr ⟨b, cap, N, hb', rfl, hle, hN, hcap⟩)
              have : us = [] := List.eq_nil_of_length_eq_zero (by rw [husl]; simp)
              subst this
              rw [hv]
              exact run_append_in (us := []) hT hlen (hfc w rfl) (by omega) rfl
          · rename_i hk
            · cases he
              have h63' := h63 k len hb
              simp only [Rel] at hx
              rcases hx with ⟨h0, rfl, hv⟩ | ⟨b, cap, N, hb', hv, hle, hN, hcap⟩
              · -- a nil slice under a number
                have hcs0 : cs = [] := List.eq_nil_of_length_eq_zero (by omega)
                subst hcs0
                obtain ⟨w', arr, rest, cap, hrun, hone, hal, hle, hsz⟩ := run_append_grow (ty := ty) (base := none) (sLen := 0) (cap := 0) (vs := []) hT hlen hfc (fun _ _ => rfl) (by omega) hb h63' (by simp) husl
                simp only [Nat.zero_add, List.nil_append] at hrun hal hle
                refine ⟨.value (.slice (some ⟨w.heap.size, 0, none⟩) k cap), w', c.bind n (.blk w.heap.size), ?_, .inl ⟨_, rfl, ?_⟩, ?_, hone.step n, fun _ h => Ctx.bind_ne (h.resolve_right (by simp [Eff.next])), fun b hb => ?_⟩
                · rw [hv]; simp [hrun]
                · simp only [Rel, Nat.zero_add]
                  exact .inr ⟨w.heap.size, cap, arr.size, Ctx.bind_eq, rfl, hle, rowSize_of_row hone.row, by rw [hsz, hsz1]; omega⟩
                · exact (hM.del id).new hone hn (noFz_zero _) hal hus
                · rcases own_new hb with h | h
                  · exact .inl (own_del h)
                  · exact .inr h
              · obtain ⟨arr, T, f, vs, rest, hni, hw, hf, ha, hr⟩ := own_cells hM hcs hb'
                have hvl : vs.length = len * i.size := by rw [hr.length]; exact hend.symm
                have hNs : (T, arr.size) = (T', N) := by rw [rowSize_of_row hw] at hN; exact Option.some.inj hN
                cases hNs
                have hcap1 : cap * i.size ≤ arr.size := by rw [hsz1]; omega
                have hsz : arr.size = vs.length + rest.length := by rw [← Array.length_toList, ha, List.length_append]
                by_cases hfit : len + k ≤ cap
                · -- in place
                  have hmul : (len + k) * i.size ≤ cap * i.size := Nat.mul_le_mul_right _ hfit
                  rw [Nat.add_mul] at hmul
                  obtain ⟨w', hst, hto⟩ := run_storeCells P b _ f us w arr (len * i.size) 0 hw hf (relL_one hus (elems_one hel)) (by omega)
                  · obtain ⟨rest', hp, hpl⟩ := putVs_end us vs rest (by omega)
                    have harr : putVs arr.toList (len * i.size + 0) us = vs ++ us ++ rest' := by rw [ha, Nat.add_zero, ← hvl]; exact hp
                    rw [harr] at hto
                    have hs : (vs ++ us ++ rest').toArray.size = arr.size := by simp; omega
                    have hM1 := hM.put (cells := cs ++ new) (vs := vs ++ us) (rest := rest') hcs hb' hto hw hs hni hf (by simp) (hr.append hus)
                    have hM2 := hM1.again (n := n) (by rw [mget_mset, if_pos rfl]) hn (.blk b) hb'
                    have hmem : ∀ j, mget (mset (mdel (mset m id (cs ++ new)) id) n (cs ++ new)) j = mget (mset (mdel m id) n (cs ++ new)) j := by
                      intro j
                      simp only [mget_mset, mget_mdel]
                      by_cases h1 : id = j <;> simp [h1]
                    refine ⟨.value (.slice (some ⟨b, 0, none⟩) (len + k) cap), w', c.bind n (.blk b), ?_, .inl ⟨_, rfl, ?_⟩, ?_, ?_, fun _ h => Ctx.bind_ne (h.resolve_right (by simp [Eff.next])), fun b' hb2 => .inl (own_again (id := id) (by rw [hcs]; rfl) hb' hb2)⟩
                    · rw [hv]
                      have := run_append_in (ty := ty) (base := some ⟨b, 0, none⟩) hT hlen (hfc w rfl) hfit (w' := w') (by simp only [addr_add, Nat.zero_add]; exact hst)
                      simp [this]
                    · simp only [Rel]
                      refine .inr ⟨b, cap, arr.size, Ctx.bind_eq, rfl, hfit, ?_, hcap⟩
                      rw [rowSize_of_row hto.row, hs]
                    · exact ⟨fun j cells hj => hM2.own j cells (by rw [hmem]; exact hj), fun j j' b2 h1 h2 => hM2.inj j j' b2 (by rw [hmem]; exact h1) (by rw [hmem]; exact h2), hM2.imm, hM2.tab⟩
                    · have := hto.step (c := c) hw hs ⟨id, by rw [hcs]; rfl, hb'⟩
                      exact ⟨this.os, this.tape, this.output, this.size, this.keep, this.rows, this.imm, this.imm'⟩
                · -- anew
                  have hold : ∀ w', w'.heap = w.heap → (Builtin.firstCells i.size len (.slice (some ⟨b, 0, none⟩) len cap)).run P w' = .ok vs.toArray w' := by
                    intro w' hw'
                    have := run_loadCells P w' b 0 vs fun j u hj => by
                      have h1 : w'.heap[b]? = some (.cells arr T' f) := by rw [hw']; exact hw
                      rw [cell_of_row h1, ← Array.getElem?_toList, ha, Nat.zero_add, List.getElem?_append_left (List.getElem?_eq_some_iff.1 hj).1]
                      exact hj
                    rw [hvl] at this
                    exact this
                  obtain ⟨w', arr', rest', cap', hrun, hone, hal, hle', hsz'⟩ := run_append_grow (ty := ty) (base := some ⟨b, 0, none⟩) (sLen := len) (cap := cap) (vs := vs) hT hlen hfc hold (by omega) hb h63' hvl husl
                  refine ⟨.value (.slice (some ⟨w.heap.size, 0, none⟩) (len + k) cap'), w', c.bind n (.blk w.heap.size), ?_, .inl ⟨_, rfl, ?_⟩, ?_, hone.step n, fun _ h => Ctx.bind_ne (h.resolve_right (by simp [Eff.next])), fun b hb => ?_⟩
                  · rw [hv]; simp [hrun]
                  · simp only [Rel]
                    exact .inr ⟨w.heap.size, cap', arr'.size, Ctx.bind_eq, rfl, hle', rowSize_of_row hone.row, by rw [hsz', hsz1]; omega⟩
                  · exact (hM.del id).new hone hn (noFz_zero _) hal (hr.append hus)
                  · rcases own_new hb with h | h
                    · exact .inl (own_del h)
                    · exact .inr h
        · cases he
      · cases he
    · cases he
  · cases he

end
end Go.Jq
