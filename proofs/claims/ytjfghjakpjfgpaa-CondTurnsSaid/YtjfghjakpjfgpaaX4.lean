/- The abstract layer, part 4: soundness of each operation. -/
import Derived.Test.YtjfghjakpjfgpaaX3
namespace Go.Jq
open Go

/-- What an operation's run comes to: a value that stands to v (or none), memory as told, nothing else touched. -/
def Outc (P : Program) (s : Sem Next) (c : Ctx) (m : Mem) (n : Nat) (w : World) (v : AV) (e : Eff) : Prop :=
  ∃ r w' c', s.run P w = .ok r w' ∧ ((∃ u, r = .value u ∧ Rel c' w' v u) ∨ (r = .skip ∧ v = .any)) ∧ MR c' (e.mem m n) w' ∧ Step (Own c m) c c' w w' ∧
    (∀ id, (id ≠ n ∨ e.next n = n) → c'.φ id = c.φ id) ∧ (∀ b, Own c' (e.mem m n) b → Own c m b ∨ w.heap.size ≤ b)

section
variable {P : Program} {c : Ctx} {m : Mem} {n : Nat} {w : World} {t : Fr} {a : Act}

theorem outc_pure {s : Sem Value} {u : Value} {v : AV} (hM : MR c m w) (hs : s.run P w = .ok u w) (hr : Rel c w v u) :
    Outc P (do pure (.value (← s))) c m n w v .nil :=
  ⟨.value u, w, c, by simp [hs], .inl ⟨u, rfl, hr⟩, hM, Step.refl _ _ _, fun _ _ => rfl, fun _ h => .inl h⟩

theorem outc_val {u : Value} {v : AV} (hM : MR c m w) (hr : Rel c w v u) : Outc P (pure (.value u)) c m n w v .nil :=
  ⟨.value u, w, c, by simp, .inl ⟨u, rfl, hr⟩, hM, Step.refl _ _ _, fun _ _ => rfl, fun _ h => .inl h⟩

/-- One new block. -/
theorem outc_new {s : Sem Value} {u : Value} {v : AV} {w' : World} {arr : Array Value} {T : TypeId} {f : Nat × Nat} {cells : List AV} {vs rest : List Value} (hM : MR c m w) (hn : c.φ n = .free)
    (hs : s.run P w = .ok u w') (h : OneMore w w' arr T f) (hf : NoFz arr.size f) (ha : arr.toList = vs ++ rest) (hr : RelL c w cells vs)
    (hv : Rel (c.bind n (.blk w.heap.size)) w' v u) : Outc P (do pure (.value (← s))) c m n w v (.new cells) :=
  ⟨.value u, w', c.bind n (.blk w.heap.size), by simp [hs], .inl ⟨u, rfl, hv⟩, hM.new h hn hf ha hr, h.step n, fun _ h => Ctx.bind_ne (h.resolve_right (by simp [Eff.next])), fun _ h => own_new h⟩

/-! ### Operands -/

theorem rel_cval1 (v : Value) : Rel c w (cval1 v) v := by
  unfold cval1
  split <;> simp [Rel, RelD]

theorem relL_cval1 : ∀ (vs : List Value), RelL c w (vs.map cval1) vs
  | [] => by simp [RelL]
  | v :: vs => by simp only [List.map_cons, RelL]; exact ⟨v, vs, rfl, rel_cval1 v, relL_cval1 vs⟩

theorem rel_cval (v : Value) : Rel c w (cval v) v := by
  unfold cval
  split
  · rename_i cs
    simp only [Rel]
    exact ⟨cs.toList, by simp, relL_cval1 _⟩
  · exact rel_cval1 v

theorem rel_ev (hF : FR c w t a.tmps) (x : Operand) : Rel c w (ev t (cOpd x)) (a.eval x) := by
  cases x with
  | tmp i => exact hF i
  | const v => exact rel_cval v
  | global g => simp [cOpd, ev, Rel]
  | func f => simp only [cOpd, ev, Rel, Act.eval, RelL]; exact ⟨[], by simp, rfl⟩

theorem relL_ev (hF : FR c w t a.tmps) : ∀ (xs : List Operand), RelL c w ((xs.map cOpd).map (ev t)) (xs.map a.eval)
  | [] => by simp [RelL]
  | x :: xs => by simp only [List.map_cons, RelL]; exact ⟨_, _, rfl, rel_ev hF x, relL_ev hF xs⟩

/-- A value's cells. -/
theorem rel_cells {x : AV} {v : Value} {cs : List AV} (h : Rel c w x v) (hc : cellsOf x = some cs) : ∃ vs, v.cells = vs.toArray ∧ RelL c w cs vs := by
  cases x with
  | d x =>
    simp only [cellsOf, Option.some.injEq] at hc
    subst hc
    refine ⟨[v], ?_, by simp only [RelL]; exact ⟨v, [], rfl, h, rfl⟩⟩
    simp only [Rel] at h
    cases x <;> simp only [RelD] at h
    case sl => obtain ⟨a, cap, rfl, _⟩ := h; rfl
    all_goals (subst h; rfl)
  | ptr id off =>
    simp only [cellsOf, Option.some.injEq] at hc
    subst hc
    refine ⟨[v], ?_, by simp only [RelL]; exact ⟨v, [], rfl, h, rfl⟩⟩
    simp only [Rel] at h
    obtain ⟨b, _, rfl⟩ := h
    rfl
  | dptr cells =>
    simp only [cellsOf, Option.some.injEq] at hc
    subst hc
    refine ⟨[v], ?_, by simp only [RelL]; exact ⟨v, [], rfl, h, rfl⟩⟩
    simp only [Rel] at h
    obtain ⟨b, o, _, rfl, _⟩ := h
    rfl
  | sl id esz off len =>
    simp only [cellsOf, Option.some.injEq] at hc
    subst hc
    refine ⟨[v], ?_, by simp only [RelL]; exact ⟨v, [], rfl, h, rfl⟩⟩
    simp only [Rel] at h
    rcases h with ⟨_, _, _, rfl⟩ | ⟨b, cap, n, _, rfl, _⟩ <;> rfl
  | fn f cap =>
    simp only [cellsOf, Option.some.injEq] at hc
    subst hc
    refine ⟨[v], ?_, by simp only [RelL]; exact ⟨v, [], rfl, h, rfl⟩⟩
    simp only [Rel] at h
    obtain ⟨vs, rfl, _⟩ := h
    rfl
  | agg cells =>
    simp only [cellsOf, Option.some.injEq] at hc
    subst hc
    simp only [Rel] at h
    obtain ⟨vs, rfl, h⟩ := h
    exact ⟨vs, rfl, h⟩
  | tup vs => simp [cellsOf] at hc
  | any => simp [cellsOf] at hc

theorem rel_one {x : AV} {v : Value} (h : Rel c w x v) (hx : oneB x = true) : v.oneCell' = true := by
  cases x with
  | d x =>
    simp only [Rel] at h
    cases x <;> simp only [RelD] at h
    case sl => obtain ⟨a, cap, rfl, _⟩ := h; rfl
    all_goals (subst h; rfl)
  | ptr id off => simp only [Rel] at h; obtain ⟨b, _, rfl⟩ := h; rfl
  | dptr cells => simp only [Rel] at h; obtain ⟨b, o, _, rfl, _⟩ := h; rfl
  | sl id esz off len => simp only [Rel] at h; rcases h with ⟨_, _, _, rfl⟩ | ⟨b, cap, n, _, rfl, _⟩ <;> rfl
  | fn f cap => simp only [Rel] at h; obtain ⟨vs, rfl, _⟩ := h; rfl
  | agg cells => simp [oneB] at hx
  | tup vs => simp [oneB] at hx
  | any => simp [oneB] at hx

theorem relL_one {xs : List AV} {vs : List Value} (h : RelL c w xs vs) (hx : xs.all oneB = true) : ∀ v ∈ vs, v.oneCell' = true := by
  intro v hv
  obtain ⟨i, hi⟩ := List.getElem?_of_mem hv
  have hl := h.length
  have hlt : i < xs.length := by
    have := (List.getElem?_eq_some_iff.1 hi).1
    omega
  obtain ⟨u, hu, hr⟩ := h.get (i := i) (x := xs[i]) (by simp [hlt])
  rw [hi] at hu
  cases hu
  exact rel_one hr (List.all_eq_true.1 hx _ (List.getElem_mem hlt))

theorem relL_d {cs : List DV} {vs : List Value} : (∀ (i : Nat) (x : DV) (v : Value), cs[i]? = some x → vs[i]? = some v → RelD c.imm w x v) → vs.length = cs.length → RelL c w (cs.map .d) vs :=
  fun h hl => RelL.of_get (by simpa using hl) fun i x v hx hv => by
    rw [List.getElem?_map] at hx
    cases hc : cs[i]? with
    | none => rw [hc] at hx; simp at hx
    | some d => rw [hc] at hx; simp at hx; subst hx; simp only [Rel]; exact h i d v hc hv

/-! ### Loads -/

/-- What lies at a place: the cells from there on, each readable. -/
def CellsAt (c : Ctx) (w : World) (b o : Nat) (cells : List AV) : Prop := ∀ (i : Nat) (x : AV), cells[i]? = some x → ∃ u, w.cell? ⟨b, o + i, none⟩ = some u ∧ Rel c w x u

theorem cellsAt_own {id b : Nat} {cells : List AV} (hM : MR c m w) (hid : mget m id = some cells) (hφ : c.φ id = .blk b) (off : Nat) : CellsAt c w b off (cells.drop off) := by
  intro i x hx
  rcases hM.own id cells hid with ⟨h0, _⟩ | ⟨b', arr, T, f, hb, _, hw, _, vs, rest, ha, hr⟩
  · rw [h0] at hφ; cases hφ
  · rw [hb] at hφ
    cases hφ
    rw [List.getElem?_drop] at hx
    obtain ⟨v, hv, hrel⟩ := hr.get hx
    refine ⟨v, ?_, hrel⟩
    rw [cell_of_row hw, ← Array.getElem?_toList, ha, List.getElem?_append_left (List.getElem?_eq_some_iff.1 hv).1]
    exact hv

theorem cellsAt_data {b o : Nat} {cells : List DV} (h : RelDs c.imm w cells b o) : CellsAt c w b o (cells.map .d) := by
  intro i x hx
  rw [List.getElem?_map] at hx
  cases hc : cells[i]? with
  | none => rw [hc] at hx; simp at hx
  | some d =>
    rw [hc] at hx
    simp at hx
    subst hx
    obtain ⟨u, hu, hr⟩ := h.get hc
    exact ⟨u, hu, by simp only [Rel]; exact hr⟩

theorem cellsAt_vals {b o : Nat} {cells : List AV} (h : CellsAt c w b o cells) (k : Nat) (hk : k ≤ cells.length) :
    ∃ us : List Value, us.length = k ∧ (∀ j u, us[j]? = some u → w.cell? ⟨b, o + j, none⟩ = some u) ∧ RelL c w (cells.take k) us := by
  induction k with
  | zero => exact ⟨[], rfl, by simp, by simp [RelL]⟩
  | succ k ih =>
    obtain ⟨us, hl, hc, hr⟩ := ih (by omega)
    obtain ⟨u, hu, hrel⟩ := h k cells[k] (by simp)
    refine ⟨us ++ [u], by simp [hl], fun j v hj => ?_, ?_⟩
    · rcases Nat.lt_or_ge j us.length with h1 | h1
      · rw [List.getElem?_append_left h1] at hj; exact hc j v hj
      · rw [List.getElem?_append_right h1] at hj
        have : j = k := by
          have := (List.getElem?_eq_some_iff.1 hj).1
          simp at this
          omega
        subst this
        rw [hl] at hj
        simp at hj
        rw [← hj]; exact hu
    · rw [List.take_succ_eq_append_getElem (by omega)]
      exact hr.append (by simp only [RelL]; exact ⟨u, [], rfl, hrel, rfl⟩)

theorem ldk_spec {T : TypeId} {k : Option Nat} (h : ldk P T = some k) :
    (∃ i, P.info? T = some i ∧ k = some i.size ∧ ∀ w, (isAgg T).run P w = .ok true w) ∨ (k = none ∧ ∀ w, (isAgg T).run P w = .ok false w) := by
  unfold ldk at h
  split at h
  · rename_i i fs h1 h2
    cases h
    exact .inl ⟨i, h1, rfl, fun w => by simp [isAgg, underlying, h2]⟩
  · rename_i i n e h1 h2
    cases h
    exact .inl ⟨i, h1, rfl, fun w => by simp [isAgg, underlying, h2]⟩
  · rename_i i d hn1 hn2 h1 h2
    cases h
    refine .inr ⟨rfl, fun w => ?_⟩
    simp only [isAgg, underlying, Sem.run_bind, run_program, Result.andThen_ok, h2]
    cases d <;> first | rfl | (exact absurd rfl (hn1 _)) | (exact absurd rfl (hn2 _ _)) | (exact absurd h2 (hn1 _ _ h1)) | (exact absurd h2 (hn2 _ _ _ h1)) | (exact (hn1 _ _ h1 h2).elim) | (exact (hn2 _ _ _ h1 h2).elim)
  · cases h

theorem run_sizeOf {T : TypeId} {i : TypeInfo} (h : P.info? T = some i) : (sizeOf T).run P w = .ok i.size w := by
  simp [sizeOf, typeInfo, h]

theorem run_loadVar {T : TypeId} {k : Option Nat} (hk : ldk P T = some k) {b o : Nat} {cells : List AV} (h : CellsAt c w b o cells) {v : AV} (hv : loadA k cells = some v) :
    ∃ u, (loadVar T ⟨b, o, none⟩).run P w = .ok u w ∧ Rel c w v u := by
  rcases ldk_spec hk with ⟨i, hi, rfl, hagg⟩ | ⟨rfl, hagg⟩
  · simp only [loadA] at hv
    split at hv
    · rename_i hle
      cases hv
      obtain ⟨us, hl, hc, hr⟩ := cellsAt_vals h i.size hle
      refine ⟨.agg us.toArray, ?_, by simp only [Rel]; exact ⟨us, rfl, hr⟩⟩
      have hlc := run_loadCells P w b o us hc
      rw [hl] at hlc
      simp only [loadVar, Sem.run_bind, hagg, Result.andThen_ok, if_true, run_sizeOf hi, hlc, Sem.run_pure]
    · cases hv
  · simp only [loadA] at hv
    obtain ⟨u, hu, hr⟩ := h 0 v hv
    refine ⟨u, ?_, hr⟩
    simp only [Nat.add_zero] at hu
    simp only [loadVar, Sem.run_bind, hagg, Result.andThen_ok, run_load, hu, Bool.false_eq_true, if_false]

theorem outc_load {T : TypeId} {k : Option Nat} {x : Operand} (hk : ldk P T = some k) (hF : FR c w t a.tmps) (hM : MR c m w) {v : AV} {e : Eff}
    (he : aevN (.load k (cOpd x)) t m n = some (v, e)) : Outc P (do pure (.value (← Instr.loadAt T (a.eval x)))) c m n w v e := by
  have hx := rel_ev hF x
  simp only [aevN] at he
  split at he
  · rename_i id off hev
    rw [hev] at hx
    simp only [Rel] at hx
    obtain ⟨b, hb, hv⟩ := hx
    split at he
    · rename_i cs hcs
      rw [Option.map_eq_some_iff] at he
      obtain ⟨v', hl, he⟩ := he
      cases he
      obtain ⟨u, hu, hr⟩ := run_loadVar hk (cellsAt_own hM hcs hb off) hl
      exact outc_pure hM (by simp only [Instr.loadAt, hv, Instr.sureAddr, Sem.run_bind, Sem.run_pure, Result.andThen_ok, hu]) hr
    · cases he
  · rename_i cs hev
    rw [hev] at hx
    simp only [Rel] at hx
    obtain ⟨b, o, hb, hv, hc⟩ := hx
    rw [Option.map_eq_some_iff] at he
    obtain ⟨v', hl, he⟩ := he
    cases he
    obtain ⟨u, hu, hr⟩ := run_loadVar hk (cellsAt_data hc) hl
    exact outc_pure hM (by simp only [Instr.loadAt, hv, Instr.sureAddr, Sem.run_bind, Sem.run_pure, Result.andThen_ok, hu]) hr
  · cases he

/-! ### Stores -/

theorem outc_store {T : TypeId} {i : TypeInfo} {x y : Operand} (hi : P.info? T = some i) (hF : FR c w t a.tmps) (hM : MR c m w) {v : AV} {e : Eff}
    (he : aevN (.store i.size (cOpd x) (cOpd y)) t m n = some (v, e)) : Outc P (do Instr.storeAt T (a.eval x) (a.eval y); pure .skip) c m n w v e := by
  have hx := rel_ev hF x
  have hy := rel_ev hF y
  simp only [aevN] at he
  split at he
  · rename_i id off vs hev hcs
    rw [hev] at hx
    obtain ⟨us, hus, hrl⟩ := rel_cells hy hcs
    simp only [Rel] at hx
    obtain ⟨b, hb, hv⟩ := hx
    split at he
    · rename_i cs hm
      split at he
      · rename_i hcond
        obtain ⟨h1, h2, h3⟩ := hcond
        cases he
        rcases hM.own id cs hm with ⟨h0, _⟩ | ⟨b', arr, T', f, hb', hni, hw, hf, vs', rest, ha, hr⟩
        · rw [h0] at hb; cases hb
        · rw [hb'] at hb
          cases hb
          have hlen := hr.length
          have hus1 := hrl.length
          have hsz : arr.size = vs'.length + rest.length := by rw [← Array.length_toList, ha, List.length_append]
          obtain ⟨w', hrun, hto⟩ := run_storeCells P b T' f us w arr off 0 hw hf (relL_one hrl h2) (by omega)
          have hs : (putVs arr.toList (off + 0) us).toArray.size = arr.size := by simp [length_putVs]
          refine ⟨.skip, w', c, ?_, .inr ⟨rfl, rfl⟩, ?_, hto.step hw hs ⟨id, by rw [hm]; rfl, hb'⟩, fun _ _ => rfl, fun b hb => .inl (own_put hm hb)⟩
          · have h4 : us.length = i.size := by omega
            simp only [Instr.storeAt, hv, Instr.sureAddr, storeVar, Sem.run_bind, Sem.run_pure, Result.andThen_ok, run_sizeOf hi, hus]
            simp [h4, hrun]
          · refine hM.put hm hb' hto hw hs hni hf (vs := putVs vs' off us) (rest := rest) ?_ (relL_putAt vs us cs vs' off hr hrl)
            simp only [ha, Nat.add_zero]
            rw [putVs_append us vs' rest off (by omega)]
      · cases he
    · cases he
  · cases he

/-! ### New blocks -/

theorem outc_alloc {T : TypeId} {z : List AV} (hz : zeroOf P T = some z) (hM : MR c m w) (hn : c.φ n = .free) :
    Outc P (do pure (.value (← Instr.alloc T true (.tuple #[])))) c m n w (.ptr n 0) (.new z) := by
  unfold zeroOf at hz
  split at hz
  · rename_i i hi
    split at hz
    · rename_i zv hzv
      cases hz
      refine outc_new (u := .pointer (some ⟨w.heap.size, 0, none⟩)) hM hn ?_ (oneMore_alloc w zv.cells T) (noFz_zero _) (vs := zv.cells.toList) (rest := []) (by simp) (relL_cval1 _)
        (by simp only [Rel]; exact ⟨w.heap.size, Ctx.bind_eq, rfl⟩)
      simp [Instr.alloc, zeroValue, typeInfo, hi, hzv, newVar, newRow]
    · cases hz
  · cases hz

theorem outc_box {T : TypeId} {x : Operand} (hF : FR c w t a.tmps) (hM : MR c m w) (hn : c.φ n = .free) {cs : List AV} (hcs : cellsOf (ev t (cOpd x)) = some cs) :
    Outc P (do pure (.value (← Instr.box T (a.eval x)))) c m n w (.ptr n 0) (.new cs) := by
  obtain ⟨vs, hvs, hr⟩ := rel_cells (rel_ev hF x) hcs
  refine outc_new (u := .pointer (some ⟨w.heap.size, 0, none⟩)) hM hn ?_ (oneMore_alloc w (a.eval x).cells T) (noFz_zero _) (vs := vs) (rest := []) (by simp [hvs]) hr
    (by simp only [Rel]; exact ⟨w.heap.size, Ctx.bind_eq, rfl⟩)
  simp [Instr.box, newVar, newRow]

end
end Go.Jq
