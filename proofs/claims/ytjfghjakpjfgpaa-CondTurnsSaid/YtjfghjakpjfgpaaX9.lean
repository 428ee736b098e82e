/- The abstract layer, part 9: soundness of make, append and of bytes out of a string. -/
import Derived.Test.YtjfghjakpjfgpaaX8
namespace Go.Jq
open Go

section
variable {P : Program} {c : Ctx} {m : Mem} {n : Nat} {w : World} {t : Fr} {a : Act}

theorem freeze_row {w : World} {b k : Nat} {arr : Array Value} {T : TypeId} (h : w.heap[b]? = some (.cells arr T (0, 0))) :
    (w.freeze ⟨b, k, none⟩ 1).heap[b]? = some (.cells arr T (k, k + 1)) := by
  simp [World.freeze, Array.getElem?_modify, h]

theorem freeze_other {w : World} {b k j : Nat} (h : j ≠ b) : (w.freeze ⟨b, k, none⟩ 1).heap[j]? = w.heap[j]? := by
  simp only [World.freeze]
  rw [if_neg (by omega)]
  simp only [Array.getElem?_modify]
  rw [if_neg (Ne.symm h)]

theorem freeze_size {w : World} {b k : Nat} : (w.freeze ⟨b, k, none⟩ 1).heap.size = w.heap.size := by
  simp only [World.freeze]
  rw [if_neg (by omega)]
  simp

theorem freeze_rest {w : World} {b k : Nat} : (w.freeze ⟨b, k, none⟩ 1).os = w.os ∧ (w.freeze ⟨b, k, none⟩ 1).tape = w.tape ∧ (w.freeze ⟨b, k, none⟩ 1).output = w.output := by
  simp only [World.freeze]
  rw [if_neg (by omega)]
  exact ⟨rfl, rfl, rfl⟩

theorem run_stringToBytes (s : List UInt8) (T : TypeId) (w : World) :
    ∃ w' arr rest cap, (Conv.stringToBytes T ⟨s.toArray⟩).run P w = .ok (.slice (some ⟨w.heap.size, 0, none⟩) s.length cap) w' ∧ OneMore w w' arr T (arr.size, arr.size + 1) ∧
      arr.toList = (s.map fun b => Value.int .u8 b.toNat) ++ rest ∧ s.length ≤ cap ∧ arr.size = cap := by
  have hsz : (ByteArray.mk s.toArray).size = s.length := by show s.toArray.size = _; simp
  generalize hcap : Question.cut (.appendCap s.length 0 T) (w.tape w.drawn (.appendCap s.length 0 T)) = cap
  have hle : s.length ≤ cap := by rw [← hcap]; simp only [Question.cut]; omega
  generalize harr : (ByteArray.mk s.toArray).data.map (fun b => Value.int .u8 b.toNat) ++ Array.replicate (cap - s.length) (.int .u8 0) = arr
  have hal : arr.toList = (s.map fun b => Value.int .u8 b.toNat) ++ List.replicate (cap - s.length) (.int .u8 0) := by rw [← harr]; simp
  have hasz : arr.size = cap := by rw [← Array.length_toList, hal]; simp; omega
  have hw1 : (w.drew.alloc (.cells arr T)).heap[w.heap.size]? = some (.cells arr T (0, 0)) := by
    have := (oneMore_alloc w.drew arr T).row
    simpa using this
  refine ⟨(w.drew.alloc (.cells arr T)).freeze ⟨w.heap.size, arr.size, none⟩ 1, arr, List.replicate (cap - s.length) (.int .u8 0), cap, ?_, ?_, hal, hle, hasz⟩
  · have hsh : (w.drew.alloc (.cells arr T)).shape? w.heap.size = some (T, arr.size) := by simp only [World.shape?, hw1]
    simp only [Conv.stringToBytes, Sem.run_bind, run_choose, hsz, Question.forced, Bool.false_eq_true, if_false, hcap, World.drew_eq, Result.andThen_ok, newRow, harr, run_newObj, World.alloc_eq, World.size_drew, Sem.run_pure,
      markStringish, run_shape, hsh, run_freeze]
  · obtain ⟨h1, h2, h3⟩ := @freeze_rest (w.drew.alloc (.cells arr T)) w.heap.size arr.size
    refine ⟨h1, h2, h3, ?_, fun k hk => ?_, freeze_row hw1⟩
    · rw [freeze_size]; simp
    · rw [freeze_other (by omega)]
      exact (oneMore_alloc w.drew arr T).old k (by simpa using hk)

theorem outc_cvsb {s d el : TypeId} (hs : P.underlying s = some .string) (hd : P.underlying d = some (.slice el)) (hel : P.underlying el = some (.int .u8)) {x : Operand} (hF : FR c w t a.tmps) (hM : MR c m w) (hn : c.φ n = .free) {v : AV} {e : Eff}
    (he : aevN (.cvsb (cOpd x)) t m n = some (v, e)) : Outc P (do pure (.value (← convert s d (a.eval x)))) c m n w v e := by
  have hx := rel_ev hF x
  simp only [aevN] at he
  split at he
  · rename_i bs h1
    rw [h1] at hx
    cases he
    have e1 := rel_d_str hx
    obtain ⟨w', arr, rest, cap, hrun, hone, hal, hle, hsz⟩ := run_stringToBytes (P := P) bs el w
    refine outc_new (u := .slice (some ⟨w.heap.size, 0, none⟩) bs.length cap) hM hn ?_ hone (.inr (Nat.le_refl _)) hal (relL_bytes bs) ?_
    · rw [e1]
      simp only [convert, Sem.run_bind, underlying, run_program, Result.andThen_ok, hs, hd, Sem.run_pure, hel, hrun]
    · simp only [Rel]
      exact .inr ⟨w.heap.size, cap, arr.size, Ctx.bind_eq, rfl, hle, rowSize_of_row hone.row, by omega⟩
  · cases he

theorem freeze_row' {w : World} {b k : Nat} {arr : Array Value} {T : TypeId} {f : Nat × Nat} (h : w.heap[b]? = some (.cells arr T f)) :
    (w.freeze ⟨b, k, none⟩ 1).heap[b]? = some (.cells arr T (if f.1 == f.2 then (k, k + 1) else (min f.1 k, max f.2 (k + 1)))) := by
  obtain ⟨lo, hi⟩ := f
  simp only [World.freeze]
  rw [if_neg (by omega)]
  simp only [Array.getElem?_modify, if_true, h, Option.map_some]

theorem outc_cvll {s el : TypeId} (hs : P.underlying s = some (.slice el)) (hel : P.underlying el = some (.int .u8)) {x : Operand} (hF : FR c w t a.tmps) (hM : MR c m w) {v : AV} {e : Eff}
    (he : aevN (.cvll (cOpd x)) t m n = some (v, e)) : Outc P (do pure (.value (← convert s s (a.eval x)))) c m n w v e := by
  have hx := rel_ev hF x
  simp only [aevN] at he
  split at he
  · rename_i id e' off len h1
    rw [h1] at hx
    split at he
    · rename_i cs hcs
      split at he
      · cases he
      · rename_i hl
        cases he
        have hx' := hx
        simp only [Rel] at hx
        rcases hx with ⟨_, _, h2, _⟩ | ⟨b, cap, N, hb, hv, hle, hN, hcap⟩
        · exact absurd h2 hl
        · rcases hM.own id cs hcs with ⟨h0, _⟩ | ⟨b', arr, T, f, hb', hni, hw, hf, vs, rest, ha, hr⟩
          · rw [h0] at hb; cases hb
          · rw [hb'] at hb
            cases hb
            have hrow := @freeze_row' w b arr.size arr T f hw
            have hto : RowTo w (w.freeze ⟨b, arr.size, none⟩ 1) b arr T (if f.1 == f.2 then (arr.size, arr.size + 1) else (min f.1 arr.size, max f.2 (arr.size + 1))) := by
              obtain ⟨q1, q2, q3⟩ := @freeze_rest w b arr.size
              exact ⟨q1, q2, q3, freeze_size, fun k hk => freeze_other hk, hrow⟩
            have hf' : NoFz arr.size (if f.1 == f.2 then (arr.size, arr.size + 1) else (min f.1 arr.size, max f.2 (arr.size + 1))) := by
              split
              · exact .inr (Nat.le_refl _)
              · rename_i hne
                rcases hf with h3 | h3
                · simp [h3] at hne
                · exact .inr (by simp only; omega)
            have hrows : ∀ k q, rowSize w k = some q → rowSize (w.freeze ⟨b, arr.size, none⟩ 1) k = some q := fun k q hq => by
              by_cases ek : k = b
              · subst ek; rw [rowSize_of_row hw] at hq; rw [rowSize_of_row hrow]; exact hq
              · rw [rowSize_eq (hto.other k ek)]; exact hq
            have hl' : Later c c w (w.freeze ⟨b, arr.size, none⟩ 1) := ⟨fun _ h => h, fun k hk => hto.other k fun ek => hni (ek ▸ hk), fun _ _ => rfl, hrows⟩
            have hown : Own c m b := ⟨id, by rw [hcs]; rfl, hb'⟩
            refine ⟨.value (a.eval x), w.freeze ⟨b, arr.size, none⟩ 1, c, ?_, .inl ⟨_, rfl, rel_mono hl' _ _ hx'⟩, ?_, ?_, fun _ _ => rfl, fun _ h => .inl h⟩
            · rw [hv]
              have hsh : w.shape? b = some (T, arr.size) := by simp only [World.shape?, hw]
              simp only [convert, Sem.run_bind, underlying, run_program, Result.andThen_ok, hs, Sem.run_pure, hel, BEq.rfl, markStringish, run_shape, hsh, run_freeze]
            · refine ⟨fun i cells hi => ?_, hM.inj, fun k hk => by rw [hto.size]; exact hM.imm k hk⟩
              by_cases hib : c.φ i = .blk b
              · have : i = id := hM.inj i id b (by simp only [Eff.mem] at hi; rw [hi]; rfl) (by rw [hcs]; rfl) hib hb'
                subst this
                simp only [Eff.mem] at hi
                rw [hcs] at hi
                cases hi
                exact .inr ⟨b, arr, T, _, hb', hni, hrow, hf', vs, rest, ha, relL_mono hl' _ _ hr⟩
              · exact (hM.own i cells hi).later hl' fun k hk => ⟨hto.other k fun ek => hib (ek ▸ hk), fun him => hM.sep him ⟨i, by simp only [Eff.mem] at hi; rw [hi]; rfl, hk⟩⟩
            · exact ⟨hto.os, hto.tape, hto.output, by rw [hto.size]; exact Nat.le_refl _, fun k _ hk => hto.other k fun ek => hk (ek ▸ hown), hrows, fun _ h => h, fun _ h => .inl h⟩
    · cases he
  · cases he

theorem wrap_id {x : Int} (h : 0 ≤ x) (h' : x ≤ 9223372036854775807) : IntKind.i64.wrap x = x := by
  unfold IntKind.wrap
  have hb : IntKind.i64.bits = 64 := rfl
  have hs : IntKind.i64.signed = true := rfl
  simp only [hb, hs, Bool.true_and]
  have hmod : x % 2 ^ 64 = x := Int.emod_eq_of_lt h (by omega)
  rw [hmod]
  have : ¬ (x ≥ 2 ^ (64 - 1)) := by
    have h2 : (2 : Int) ^ (64 - 1) = 9223372036854775808 := by decide
    rw [h2]; omega
  rw [if_neg (by simpa using this)]

theorem outc_mksl {T el : TypeId} {i : TypeInfo} {z : List AV} (hu : P.underlying T = some (.slice el)) (hi : P.info? el = some i) (hz : zeroOf P el = some z) (hz0 : z.length ≠ 0) {x y : Operand}
    (hF : FR c w t a.tmps) (hM : MR c m w) (hn : c.φ n = .free) {v : AV} {e : Eff} (he : aevN (.mksl i.size i.bytes z (cOpd x) (cOpd y)) t m n = some (v, e)) :
    Outc P (do pure (.value (← Instr.makeSlice T (a.eval x) (a.eval y)))) c m n w v e := by
  have hx := rel_ev hF x
  have hy := rel_ev hF y
  simp only [aevN] at he
  split at he
  · rename_i p q h1 h2
    rw [h1] at hx
    rw [h2] at hy
    have e1 := rel_d_int hx
    have e2 := rel_d_int hy
    split at he
    · rename_i hcond
      obtain ⟨hp, hpq, hb, hq⟩ := hcond
      cases he
      obtain ⟨zv, hzv, hzz⟩ := run_zero (w := w) hz
      have hzr : RelL c w z zv.cells.toList := by rw [hzz]; exact relL_cval1 _
      have hzl2 := hzr.length
      have hzs : zv.cells.size = z.length := by simpa using hzl2
      have hle : p.toNat * i.size ≤ q.toNat * i.size := Nat.mul_le_mul_right _ (by omega)
      refine outc_new (u := .slice (some ⟨w.heap.size, 0, none⟩) p.toNat q.toNat) hM hn (T := el) (arr := (Array.range (q.toNat * i.size)).map fun j => zv.cells[j % zv.cells.size]!) ?_ (oneMore_alloc w _ el) (noFz_zero _)
        (vs := (List.range (p.toNat * i.size)).map fun j => zv.cells.toList.toArray[j % zv.cells.toList.length]!)
        (rest := ((List.range (q.toNat * i.size)).drop (p.toNat * i.size)).map fun j => zv.cells[j % zv.cells.size]!) ?_ (relL_range hzr _ (.inr hz0)) ?_
      · have hw1 := wrap_id hp (Int.le_trans hpq hq)
        have hw2 := wrap_id (Int.le_trans hp hpq) hq
        rw [e1, e2]
        simp only [Instr.makeSlice, Sem.run_bind, underlying, run_program, Result.andThen_ok, hu, Sem.run_pure, asInt, asIntOf, typeInfo, hi, hw1, hw2]
        have hno : ((decide (q < 0) || decide ((i.bytes : Int) * q > 2 ^ 48)) || decide (p < 0) || decide (p > q)) = false := by
          have : ¬ ((i.bytes : Int) * q > 2 ^ 48) := by omega
          simp
          omega
        rw [if_neg (by rw [hno]; simp)]
        simp only [Sem.run_bind, run_askRoom, Result.andThen_ok, run_sizeOf hi]
        by_cases h0 : q.toNat * i.size = 0
        · rw [if_pos h0]
          simp only [Sem.run_bind, Sem.run_pure, Result.andThen_ok, newRow, run_newObj, World.alloc_eq, h0, show Array.range 0 = #[] from rfl, Array.map_empty]
        · rw [if_neg h0]
          simp only [Sem.run_bind, hzv, Sem.run_pure, Result.andThen_ok, newRow, run_newObj, World.alloc_eq]
      · simp only [Array.toList_map, Array.toList_range, Array.toArray_toList, Array.length_toList]
        rw [← List.map_append]
        congr 1
        have := List.take_append_drop (p.toNat * i.size) (List.range (q.toNat * i.size))
        rw [List.take_range, Nat.min_eq_left hle] at this
        exact this.symm
      · simp only [Rel]
        refine .inr ⟨w.heap.size, q.toNat, q.toNat * i.size, Ctx.bind_eq, rfl, by omega, ?_, by omega⟩
        rw [rowSize_of_row (oneMore_alloc w _ el).row]
        simp
    · cases he
  · cases he

/-! ### append -/

/-- What append needs to know of its types. -/
structure AppT (P : Program) (ts : Array TypeId) (el : TypeId) (i : TypeInfo) : Prop where
  s : ∃ sT, ts[0]? = some sT ∧ P.underlying sT = some (.slice el)
  x : ∃ xT u, ts[1]? = some xT ∧ P.underlying xT = some u ∧ (∀ k, u ≠ .int k)
  hi : P.info? el = some i
  z : ∃ zv, i.zero = some zv ∧ zv.cells.size = i.size

theorem notInt_run {xT : TypeId} {u : TypeDesc} (hu : P.underlying xT = some u) (hne : ∀ k, u ≠ .int k) :
    ((do pure ((← underlying xT) matches .int _)) : Sem Bool).run P w = .ok false w := by
  simp only [underlying, Sem.run_bind, run_program, Result.andThen_ok, hu, Sem.run_pure]

theorem run_append_in {ts : Array TypeId} {el ty : TypeId} {i : TypeInfo} (hT : AppT P ts el i) {base : Option Addr} {sLen cap k : Nat} {x : Value} {us : List Value} {w' : World}
    (hl : ∀ w', (Builtin.lenOf x).run P w' = .ok k w') (hf : (Builtin.firstCells i.size k x).run P w = .ok us.toArray w) (hle : sLen + k ≤ cap)
    (hst : (match base with | some a => storeCells (a.add (sLen * i.size)) us | none => pure ()).run P w = .ok () w') :
    (Builtin.append_ ts ty #[.slice base sLen cap, x]).run P w = .ok (.slice base (sLen + k) cap) w' := by
  obtain ⟨⟨sT, h0, hs⟩, ⟨xT, u, h1, hu, hne⟩, hi, z, hz, hzs⟩ := hT
  have hni := notInt_run (P := P) (w := w) hu hne
  simp only [Builtin.append_, h0, h1, List.getElem?_toArray, List.getElem?_cons_zero, List.getElem?_cons_succ, Sem.run_bind, underlying, run_program, Result.andThen_ok, hs, Sem.run_pure, run_sizeOf hi]
  simp only [underlying, Sem.run_bind, run_program, Result.andThen_ok, hu, Sem.run_pure] at hni
  cases u <;> first
    | exact absurd rfl (hne _)
    | (simp only [hu, Sem.run_pure, Sem.run_bind, Result.andThen_ok, hl, Bool.false_eq_true, if_false]
       rw [if_pos hle]
       simp only [Bool.not_false, if_true, Sem.run_bind, hf, Result.andThen_ok]
       cases base with
       | none => simp only [Sem.run_pure, Result.ok.injEq, true_and] at hst; subst hst; rfl
       | some b => simp only [Sem.run_bind, hst, Result.andThen_ok, Sem.run_pure])

theorem run_append_grow {ts : Array TypeId} {el ty : TypeId} {i : TypeInfo} (hT : AppT P ts el i) {base : Option Addr} {sLen cap k : Nat} {x : Value} {vs us : List Value}
    (hl : ∀ w', (Builtin.lenOf x).run P w' = .ok k w') (hf : ∀ w', w'.heap = w.heap → (Builtin.firstCells i.size k x).run P w' = .ok us.toArray w')
    (ho : ∀ w', w'.heap = w.heap → (Builtin.firstCells i.size sLen (.slice base sLen cap)).run P w' = .ok vs.toArray w')
    (hle : cap < sLen + k) (hb : (sLen + k) * i.bytes ≤ 140737488351232) (h63 : sLen + k ≤ 9223372036854775807) (hvs : vs.length = sLen * i.size) (hus : us.length = k * i.size) :
    ∃ w' arr rest newCap, (Builtin.append_ ts ty #[.slice base sLen cap, x]).run P w = .ok (.slice (some ⟨w.heap.size, 0, none⟩) (sLen + k) newCap) w' ∧ OneMore w w' arr el (0, 0) ∧
      arr.toList = (vs ++ us) ++ rest ∧ sLen + k ≤ newCap ∧ arr.size = newCap * i.size := by
  obtain ⟨⟨sT, h0, hs⟩, ⟨xT, u, h1, hu, hne⟩, hi, z, hz, hzs⟩ := hT
  generalize hcap : Question.cut (.appendCap (sLen + k) cap el) (w.tape w.drawn (.appendCap (sLen + k) cap el)) = newCap
  have hnc : sLen + k ≤ newCap := by rw [← hcap]; simp only [Question.cut]; omega
  have hfit : ¬ (Builtin.nextslicecap (sLen + k) cap * i.bytes > 2 ^ 48) := by
    have := growslice_fits (need := sLen + k) (old := cap) (bytes := i.bytes) hle (by omega)
    omega
  have hmax : ¬ (((sLen + k : Nat) : Int) > IntKind.i64.max ∧ ((false : Bool) = true ∨ i.bytes = 0)) := by
    have : IntKind.i64.max = 9223372036854775807 := by rfl
    rw [this]; omega
  generalize hrest : Builtin.zeroCells z.cells (newCap - (sLen + k)) = rest
  have hrl : rest.size = (newCap - (sLen + k)) * i.size := by rw [← hrest, ← hzs]; simp [Builtin.zeroCells]
  refine ⟨w.drew.alloc (.cells (vs.toArray ++ us.toArray ++ rest) el), vs.toArray ++ us.toArray ++ rest, rest.toList, newCap, ?_, ?_, by simp, hnc, ?_⟩
  · simp only [Builtin.append_, h0, h1, List.getElem?_toArray, List.getElem?_cons_zero, List.getElem?_cons_succ, Sem.run_bind, underlying, run_program, Result.andThen_ok, hs, Sem.run_pure, run_sizeOf hi]
    cases u <;> first
      | exact absurd rfl (hne _)
      | (simp only [hu, Sem.run_pure, Sem.run_bind, Result.andThen_ok, hl, Bool.false_eq_true, if_false]
         rw [if_neg (Nat.not_le.2 hle)]
         simp only [Sem.run_bind, typeInfo, run_program, Result.andThen_ok, hi, Sem.run_pure, Bool.false_eq_true] at hmax ⊢
         rw [if_neg hmax]
         simp only [Sem.run_bind, run_program, Result.andThen_ok, hi, Sem.run_pure]
         rw [if_neg hfit]
         simp only [Sem.run_bind, run_choose, Question.forced, Bool.false_eq_true, if_false, hcap, World.drew_eq, Result.andThen_ok, run_askRoom, ho w.drew rfl, Bool.not_false, if_true, hf w.drew rfl, zeroValue, typeInfo, run_program, hi, Sem.run_pure, hz, hrest,
           newRow, run_newObj, World.alloc_eq, World.size_drew])
  · have h := oneMore_alloc w.drew (vs.toArray ++ us.toArray ++ rest) el
    exact ⟨h.os, h.tape, h.output, h.size, h.old, h.row⟩
  · simp only [Array.size_append, List.size_toArray, hvs, hus, hrl]
    rw [← Nat.add_mul, ← Nat.add_mul]
    congr 1
    omega

theorem own_cells {id b : Nat} {cs : List AV} (hM : MR c m w) (hid : mget m id = some cs) (hφ : c.φ id = .blk b) :
    ∃ arr T f vs rest, ¬ c.imm b ∧ w.heap[b]? = some (.cells arr T f) ∧ NoFz arr.size f ∧ arr.toList = vs ++ rest ∧ RelL c w cs vs := by
  rcases hM.own id cs hid with ⟨h0, _⟩ | ⟨b', arr, T, f, hb, hi, hw, hf, vs, rest, ha, hr⟩
  · rw [h0] at hφ; cases hφ
  · rw [hb] at hφ; cases hφ; exact ⟨arr, T, f, vs, rest, hi, hw, hf, ha, hr⟩

theorem outc_app {ts : Array TypeId} {el ty : TypeId} {i : TypeInfo} (hT : AppT P ts el i) {x y : Operand} (hF : FR c w t a.tmps) (hM : MR c m w) (hn : c.φ n = .free) {v : AV} {e : Eff}
    (hbz : i.bytes ≠ 0)
    (he : aevN (.app i.size i.bytes (cOpd x) (cOpd y)) t m n = some (v, e)) : Outc P (do pure (.value (← Builtin.append_ ts ty #[a.eval x, a.eval y]))) c m n w v e := by
  have hx := rel_ev hF x
  have hy := rel_ev hF y
  have h63 : ∀ k len, (len + k) * i.bytes ≤ 140737488351232 → len + k ≤ 9223372036854775807 := fun k len h => by
    have := Nat.le_mul_of_pos_right (len + k) (Nat.pos_of_ne_zero hbz)
    omega
  simp only [aevN] at he
  split at he
  · rename_i k new hel
    obtain ⟨hlen, us, hus, hfc⟩ := run_elems (P := P) hy hM hel
    have hnl := elems_len hel
    have husl : us.length = k * i.size := by rw [hus.length, hnl]
    split at he
    · rename_i hev
      rw [hev] at hx
      have e1 := rel_d_nsl hx
      split at he
      · rename_i hb
        split at he
        · rename_i hk
          cases he
          subst hk
          refine outc_pure (u := .slice none 0 0) hM ?_ (by simp [Rel, RelD])
          rw [e1]
          exact run_append_in (us := us) hT hlen (hfc w rfl) (Nat.le_refl _) rfl
        · rename_i hk
          cases he
          obtain ⟨w', arr, rest, cap, hrun, hone, hal, hle, hsz⟩ := run_append_grow (ty := ty) (base := none) (sLen := 0) (cap := 0) (vs := []) hT hlen hfc (fun _ _ => rfl) (by omega) (by simpa using hb) (h63 k 0 (by simpa using hb)) (by simp) husl
          simp only [Nat.zero_add, List.nil_append] at hrun hal hle
          refine outc_new hM hn ?_ hone (noFz_zero _) hal hus ?_ (u := .slice (some ⟨w.heap.size, 0, none⟩) k cap)
          · rw [e1]; exact hrun
          · simp only [Rel]
            exact .inr ⟨w.heap.size, cap, arr.size, Ctx.bind_eq, rfl, hle, rowSize_of_row hone.row, by omega⟩
      · cases he
    · rename_i id e' off len hev
      rw [hev] at hx
      split at he
      · rename_i cs hcs
        split at he
        · rename_i hcond
          obtain ⟨rfl, hend, hb⟩ := hcond
          split at he
          · rename_i hk
            subst hk
            cases he
            simp only [Rel] at hx
            rcases hx with ⟨h0, rfl, rfl, hv⟩ | ⟨b, cap, N, hb', hv, hle, hN, hcap⟩
            · refine outc_pure (u := .slice none 0 0) hM ?_ (by simp only [Rel]; exact .inl ⟨h0, trivial, trivial, trivial⟩)
              rw [hv]
              exact run_append_in (us := us) hT hlen (hfc w rfl) (Nat.le_refl _) rfl
            · refine outc_pure (u := .slice (some ⟨b, off, none⟩) len cap) hM ?_ (by simp only [Rel]; exact .inr ⟨b, cap, N, hb', rfl, hle, hN, hcap⟩)
              have : us = [] := List.eq_nil_of_length_eq_zero (by rw [husl]; simp)
              subst this
              rw [hv]
              exact run_append_in (us := []) hT hlen (hfc w rfl) (by omega) rfl
          · rename_i hk
            split at he
            · rename_i hoff
              subst hoff
              cases he
              have h63' := h63 k len hb
              simp only [Nat.zero_add] at hend
              simp only [Rel] at hx
              rcases hx with ⟨h0, _, rfl, hv⟩ | ⟨b, cap, N, hb', hv, hle, hN, hcap⟩
              · -- a nil slice under a number
                have hcs0 : cs = [] := List.eq_nil_of_length_eq_zero (by omega)
                subst hcs0
                obtain ⟨w', arr, rest, cap, hrun, hone, hal, hle, hsz⟩ := run_append_grow (ty := ty) (base := none) (sLen := 0) (cap := 0) (vs := []) hT hlen hfc (fun _ _ => rfl) (by omega) hb h63' (by simp) husl
                simp only [Nat.zero_add, List.nil_append] at hrun hal hle
                refine ⟨.value (.slice (some ⟨w.heap.size, 0, none⟩) k cap), w', c.bind n (.blk w.heap.size), ?_, .inl ⟨_, rfl, ?_⟩, ?_, hone.step n, fun _ h => Ctx.bind_ne (h.resolve_right (by simp [Eff.next])), fun b hb => ?_⟩
                · rw [hv]; simp [hrun]
                · simp only [Rel, Nat.zero_add]
                  exact .inr ⟨w.heap.size, cap, arr.size, Ctx.bind_eq, rfl, hle, rowSize_of_row hone.row, by omega⟩
                · exact (hM.del id).new hone hn (noFz_zero _) hal hus
                · rcases own_new hb with h | h
                  · exact .inl (own_del h)
                  · exact .inr h
              · obtain ⟨arr, T, f, vs, rest, hni, hw, hf, ha, hr⟩ := own_cells hM hcs hb'
                have hvl : vs.length = len * i.size := by rw [hr.length]; exact hend.symm
                have hNs : N = arr.size := by rw [rowSize_of_row hw] at hN; exact (Option.some.inj hN).symm
                have hsz : arr.size = vs.length + rest.length := by rw [← Array.length_toList, ha, List.length_append]
                by_cases hfit : len + k ≤ cap
                · -- in place
                  have hmul : (len + k) * i.size ≤ cap * i.size := Nat.mul_le_mul_right _ hfit
                  rw [Nat.add_mul] at hmul
                  obtain ⟨w', hst, hto⟩ := run_storeCells P b T f us w arr (len * i.size) 0 hw hf (relL_one hus (elems_one hel)) (by omega)
                  · obtain ⟨rest', hp, hpl⟩ := putVs_end us vs rest (by omega)
                    have harr : putVs arr.toList (len * i.size + 0) us = vs ++ us ++ rest' := by rw [ha, Nat.add_zero, ← hvl]; exact hp
                    rw [harr] at hto
                    have hs : (vs ++ us ++ rest').toArray.size = arr.size := by simp; omega
                    have hM1 := hM.put (cells := cs ++ new) (vs := vs ++ us) (rest := rest') hcs hb' hto hw hs hni hf (by simp) (hr.append hus)
                    have hM2 := hM1.again (n := n) (by rw [mget_mset, if_pos rfl]) hn (.blk b) hb'
                    have hmem : ∀ j, mget (mset (mdel (mset m id (cs ++ new)) id) n (cs ++ new)) j = mget (mset (mdel m id) n (cs ++ new)) j := by
                      intro j
                      simp only [mget_mset, mget_mdel]
                      by_cases h1 : id = j <;> simp [h1]
                    refine ⟨.value (.slice (some ⟨b, 0, none⟩) (len + k) cap), w', c.bind n (.blk b), ?_, .inl ⟨_, rfl, ?_⟩, ?_, ?_, fun _ h => Ctx.bind_ne (h.resolve_right (by simp [Eff.next])), fun b' hb2 => .inl (own_again (id := id) (by rw [hcs]; rfl) hb' hb2)⟩
                    · rw [hv]
                      have := run_append_in (ty := ty) (base := some ⟨b, 0, none⟩) hT hlen (hfc w rfl) hfit (w' := w') (by simp only [addr_add, Nat.zero_add]; exact hst)
                      simp [this]
                    · simp only [Rel]
                      refine .inr ⟨b, cap, N, Ctx.bind_eq, rfl, hfit, ?_, hcap⟩
                      rw [rowSize_of_row hto.row, hs, hNs]
                    · exact ⟨fun j cells hj => hM2.own j cells (by rw [hmem]; exact hj), fun j j' b2 h1 h2 => hM2.inj j j' b2 (by rw [hmem]; exact h1) (by rw [hmem]; exact h2), hM2.imm⟩
                    · have := hto.step (c := c) hw hs ⟨id, by rw [hcs]; rfl, hb'⟩
                      exact ⟨this.os, this.tape, this.output, this.size, this.keep, this.rows, this.imm, this.imm'⟩
                · -- anew
                  have hold : ∀ w', w'.heap = w.heap → (Builtin.firstCells i.size len (.slice (some ⟨b, 0, none⟩) len cap)).run P w' = .ok vs.toArray w' := by
                    intro w' hw'
                    have := run_loadCells P w' b 0 vs fun j u hj => by
                      have h1 : w'.heap[b]? = some (.cells arr T f) := by rw [hw']; exact hw
                      rw [cell_of_row h1, ← Array.getElem?_toList, ha, Nat.zero_add, List.getElem?_append_left (List.getElem?_eq_some_iff.1 hj).1]
                      exact hj
                    rw [hvl] at this
                    exact this
                  obtain ⟨w', arr', rest', cap', hrun, hone, hal, hle', hsz'⟩ := run_append_grow (ty := ty) (base := some ⟨b, 0, none⟩) (sLen := len) (cap := cap) (vs := vs) hT hlen hfc hold (by omega) hb h63' hvl husl
                  refine ⟨.value (.slice (some ⟨w.heap.size, 0, none⟩) (len + k) cap'), w', c.bind n (.blk w.heap.size), ?_, .inl ⟨_, rfl, ?_⟩, ?_, hone.step n, fun _ h => Ctx.bind_ne (h.resolve_right (by simp [Eff.next])), fun b hb => ?_⟩
                  · rw [hv]; simp [hrun]
                  · simp only [Rel]
                    exact .inr ⟨w.heap.size, cap', arr'.size, Ctx.bind_eq, rfl, hle', rowSize_of_row hone.row, by omega⟩
                  · exact (hM.del id).new hone hn (noFz_zero _) hal (hr.append hus)
                  · rcases own_new hb with h | h
                    · exact .inl (own_del h)
                    · exact .inr h
            · cases he
        · cases he
      · cases he
    · cases he
  · cases he

end
end Go.Jq
