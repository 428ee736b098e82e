/- The abstract layer, part 8: soundness of slicing, conversions of bytes, make and append. -/
import Derived.Test.YtjfghjakpjfgpaaX7
namespace Go.Jq
open Go

section
variable {P : Program} {c : Ctx} {m : Mem} {n : Nat} {w : World} {t : Fr} {a : Act}

/-! ### Slicing -/

theorem run_bound {x : Value} {k : IntKind} {j : Int} (hx : x = .int k j) {y : Nat} (h : 0 ≤ j ∧ j.toNat ≤ y) (code : BoundsCode) : (Instr.sliceBound x y code).run P w = .ok j.toNat w := by
  subst hx
  simp only [Instr.sliceBound, Sem.run_bind, asIntOf, Sem.run_pure, Result.andThen_ok]
  rw [if_pos ⟨h.1, by omega⟩]
  rfl

theorem bnd_spec {x : Option Operand} {d b : Nat} (hF : FR c w t a.tmps) (h : bndA ((x.map cOpd).map (ev t)) d = some b) :
    (x = none ∧ b = d) ∨ ∃ y k j, x = some y ∧ a.eval y = .int k j ∧ 0 ≤ j ∧ j.toNat = b := by
  cases x with
  | none => simp only [Option.map_none, bndA, Option.some.injEq] at h; exact .inl ⟨rfl, h.symm⟩
  | some y =>
    have hy := rel_ev hF y
    simp only [Option.map_some] at h
    generalize hev : ev t (cOpd y) = av at h hy
    unfold bndA at h
    split at h
    · rename_i h0; cases h0
    · rename_i k j h0
      cases h0
      split at h
      · rename_i hj
        cases h
        exact .inr ⟨y, k, j, rfl, rel_d_int hy, hj, rfl⟩
      · cases h
    · cases h

theorem run_sliceBounds {isSlice : Bool} {len cap l h : Nat} {lo hi : Option Operand}
    (hlo : (lo = none ∧ l = 0) ∨ ∃ y k j, lo = some y ∧ a.eval y = .int k j ∧ 0 ≤ j ∧ j.toNat = l)
    (hhi : (hi = none ∧ h = len) ∨ ∃ y k j, hi = some y ∧ a.eval y = .int k j ∧ 0 ≤ j ∧ j.toNat = h) (hlh : l ≤ h) (hc : h ≤ cap) :
    (Instr.sliceBounds isSlice len cap (lo.map a.eval) (hi.map a.eval) none).run P w = .ok (l, h, cap) w := by
  unfold Instr.sliceBounds
  rcases hhi with ⟨rfl, rfl⟩ | ⟨y, k, j, rfl, hy, hj, rfl⟩
  · rcases hlo with ⟨rfl, rfl⟩ | ⟨y', k', j', rfl, hy', hj', rfl⟩
    · simp
    · simp only [Option.map_none, Option.map_some, Option.isSome_none, Sem.run_bind, Sem.run_pure, Result.andThen_ok, run_bound hy' ⟨hj', hlh⟩]
  · rcases hlo with ⟨rfl, rfl⟩ | ⟨y', k', j', rfl, hy', hj', rfl⟩
    · simp only [Option.map_none, Option.map_some, Sem.run_bind, Sem.run_pure, Result.andThen_ok, run_bound hy ⟨hj, hc⟩]
    · simp only [Option.map_some, Option.isSome_none, Sem.run_bind, Sem.run_pure, Result.andThen_ok, run_bound hy ⟨hj, hc⟩, run_bound hy' ⟨hj', hlh⟩]

theorem extract_str (s : List UInt8) (l h : Nat) : (ByteArray.mk s.toArray).extract l h = ⟨((s.take h).drop l).toArray⟩ := by
  apply ByteArray.ext
  rw [ByteArray.data_extract]
  apply Array.ext'
  simp only [Array.toList_extract, List.extract_eq_take_drop]
  rw [List.drop_take]

theorem outc_slcs {T : TypeId} (hu : P.underlying T = some .string) {x : Operand} {lo hi : Option Operand} (hF : FR c w t a.tmps) (hM : MR c m w) {v : AV} {e : Eff}
    (he : aevN (.slcs (cOpd x) (lo.map cOpd) (hi.map cOpd)) t m n = some (v, e)) : Outc P (do pure (.value (← Instr.sliceAt T (a.eval x) (lo.map a.eval) (hi.map a.eval) none))) c m n w v e := by
  have hx := rel_ev hF x
  simp only [aevN] at he
  split at he
  · rename_i s h1
    rw [h1] at hx
    have e1 := rel_d_str hx
    split at he
    · rename_i l h hl hh
      split at he
      · rename_i hcond
        cases he
        have hsz : (ByteArray.mk s.toArray).size = s.length := by show s.toArray.size = _; simp
        have hb := run_sliceBounds (P := P) (w := w) (isSlice := false) (cap := s.length) (bnd_spec hF hl) (bnd_spec hF hh) hcond.1 hcond.2
        refine outc_pure (u := .string ⟨((s.take h).drop l).toArray⟩) hM ?_ (rel_str _)
        rw [e1]
        simp only [Instr.sliceAt, Sem.run_bind, underlying, run_program, Result.andThen_ok, hu, Instr.slice, Option.isSome_none, Bool.false_eq_true, if_false, Sem.run_pure, hsz, hb, extract_str]
      · cases he
    · cases he
  · cases he

theorem outc_slcl {T el : TypeId} {i : TypeInfo} (hu : P.underlying T = some (.slice el)) (hi' : P.info? el = some i) {x : Operand} {lo hi : Option Operand} (hF : FR c w t a.tmps) (hM : MR c m w) {v : AV} {e : Eff}
    (he : aevN (.slcl i.size (cOpd x) (lo.map cOpd) (hi.map cOpd)) t m n = some (v, e)) : Outc P (do pure (.value (← Instr.sliceAt T (a.eval x) (lo.map a.eval) (hi.map a.eval) none))) c m n w v e := by
  have hx := rel_ev hF x
  simp only [aevN] at he
  split at he
  · rename_i len hlen
    obtain ⟨p, cap, hv, hle⟩ := rel_len hx hlen
    split at he
    · rename_i l h hl hh
      rw [Option.map_eq_some_iff] at he
      obtain ⟨v', hsl, he⟩ := he
      cases he
      have hrun : l ≤ h → h ≤ len → (do pure (.value (← Instr.sliceAt T (a.eval x) (lo.map a.eval) (hi.map a.eval) none)) : Sem Next).run P w = .ok (.value (.slice (if cap = l then p else p.map (·.add (l * i.size))) (h - l) (cap - l))) w := by
        intro h1 h2
        have hb := run_sliceBounds (P := P) (w := w) (isSlice := true) (cap := cap) (bnd_spec hF hl) (bnd_spec hF hh) h1 (Nat.le_trans h2 hle)
        rw [hv]
        simp only [Instr.sliceAt, Sem.run_bind, underlying, run_program, Result.andThen_ok, hu, Instr.slice, hb, run_sizeOf hi', Sem.run_pure]
      unfold slcA at hsl
      split at hsl
      · rename_i hev
        split at hsl
        · rename_i hcond
          obtain ⟨rfl, rfl⟩ := hcond
          cases hsl
          rw [hev] at hx
          have := rel_d_nsl hx
          rw [this] at hv
          cases hv
          refine ⟨_, w, c, hrun (Nat.le_refl _) (Nat.zero_le _), .inl ⟨_, rfl, ?_⟩, hM, Step.refl _ _ _, fun _ _ => rfl, fun _ h => .inl h⟩
          simp [Rel, RelD]
        · cases hsl
      · rename_i n' cells hev
        rw [hev] at hx hlen
        simp only [lenA, Option.some.injEq] at hlen
        split at hsl
        · rename_i hcond
          obtain ⟨h1, h2, _⟩ := hcond
          cases hsl
          refine ⟨_, w, c, hrun h1 (by omega), .inl ⟨_, rfl, ?_⟩, hM, Step.refl _ _ _, fun _ _ => rfl, fun _ h => .inl h⟩
          simp only [Rel, RelD] at hx ⊢
          obtain ⟨p', cap', hv', hle', hx⟩ := hx
          rw [hv'] at hv
          cases hv
          refine ⟨_, _, rfl, by omega, ?_⟩
          by_cases h0 : h - l = 0
          · left; exact ⟨h0, by simp [h0]⟩
          · right
            rcases hx with ⟨h3, _⟩ | ⟨b, o, rfl, hb, hc⟩
            · omega
            · refine ⟨b, o + l * i.size, ?_, hb, (hc.drop _).take _⟩
              rw [if_neg (by omega)]
              simp [addr_add]
        · cases hsl
      · rename_i id e' off n' hev
        rw [hev] at hx hlen
        simp only [lenA, Option.some.injEq] at hlen
        split at hsl
        · rename_i hcond
          obtain ⟨rfl, _, h1, h2⟩ := hcond
          refine ⟨_, w, c, hrun h1 (by omega), .inl ⟨_, rfl, ?_⟩, hM, Step.refl _ _ _, fun _ _ => rfl, fun _ h => .inl h⟩
          simp only [Rel] at hx
          split at hsl
          · rename_i h0
            subst h0
            cases hsl
            simp only [Rel]
            rcases hx with ⟨h3, h4, h5, h6⟩ | ⟨b, cap', N, hb, hv', hle', hN, hcap⟩
            · left
              rw [h6] at hv
              cases hv
              exact ⟨h3, h4, by omega, by simp; omega⟩
            · right
              rw [hv'] at hv
              cases hv
              refine ⟨b, cap, N, hb, ?_, by omega, hN, hcap⟩
              simp [addr_add]
          · rename_i h0
            split at hsl
            · rename_i h3
              cases hsl
              simp only [Rel, RelD]
              exact ⟨_, _, by rw [show h - l = 0 by omega], by omega, .inl ⟨trivial, trivial⟩⟩
            · cases hsl
              simp only [Rel]
              rcases hx with ⟨_, _, h5, _⟩ | ⟨b, cap', N, hb, hv', hle', hN, hcap⟩
              · omega
              · right
                rw [hv'] at hv
                cases hv
                refine ⟨b, cap - l, N, hb, ?_, by omega, hN, ?_⟩
                · rw [if_neg (by omega)]
                  simp [addr_add]
                · have : l * i.size + (cap - l) * i.size = cap * i.size := by rw [← Nat.add_mul]; congr 1; omega
                  omega
        · cases hsl
      · cases hsl
    · cases he
  · cases he

/-! ### Elements of a slice -/

theorem elems_len {y : AV} {esz k : Nat} {new : List AV} (h : elemsOf m esz y = some (k, new)) : new.length = k * esz := by
  unfold elemsOf at h
  split at h
  · cases h; simp
  · split at h
    · cases h; simpa
    · cases h
  · split at h
    · rename_i h1; cases h; subst h1; simp [bytesAV]
    · cases h
  · split at h
    · split at h
      · rename_i h1
        cases h
        rw [List.length_take, List.length_drop]
        omega
      · cases h
    · cases h
  · cases h

theorem elems_one {y : AV} {esz k : Nat} {new : List AV} (h : elemsOf m esz y = some (k, new)) : new.all oneB = true := by
  unfold elemsOf at h
  split at h
  · cases h; rfl
  · split at h
    · cases h; simp [oneB]
    · cases h
  · split at h
    · cases h; simp [bytesAV, oneB]
    · cases h
  · split at h
    · split at h
      · rename_i h1
        cases h
        exact h1.2.2
      · cases h
    · cases h
  · cases h

theorem run_elems {y : AV} {v : Value} {esz k : Nat} {new : List AV} (hy : Rel c w y v) (hM : MR c m w) (h : elemsOf m esz y = some (k, new)) :
    (∀ w', (Builtin.lenOf v).run P w' = .ok k w') ∧ ∃ us : List Value, RelL c w new us ∧ ∀ w', w'.heap = w.heap → (Builtin.firstCells esz k v).run P w' = .ok us.toArray w' := by
  have hlen := elems_len h
  have hload : ∀ (b o : Nat) (us : List Value), us.length = k * esz → (∀ j u, us[j]? = some u → w.cell? ⟨b, o + j, none⟩ = some u) → ∀ w', w'.heap = w.heap → (loadCells ⟨b, o, none⟩ (k * esz)).run P w' = .ok us.toArray w' := by
    intro b o us hl hc w' hw
    rw [← hl]
    exact run_loadCells P w' b o us fun j u hj => by
      have := hc j u hj
      simpa [World.cell?, hw] using this
  unfold elemsOf at h
  split at h
  · cases h
    have := rel_d_nsl hy
    subst this
    exact ⟨fun _ => rfl, [], by simp [RelL], fun _ _ => rfl⟩
  · rename_i n' cells
    split at h
    · rename_i hcl
      cases h
      simp only [Rel, RelD] at hy
      obtain ⟨p, cap, rfl, _, hy⟩ := hy
      refine ⟨fun _ => rfl, ?_⟩
      rcases hy with ⟨rfl, rfl⟩ | ⟨b, o, rfl, hb, hc⟩
      · refine ⟨[], by simp [RelL], fun w' _ => ?_⟩
        cases p with
        | none => rfl
        | some p => simp [Builtin.firstCells, loadCells, loadCellsFrom]
      · obtain ⟨us, hl, hcs, hr⟩ := cellsAt_vals (cellsAt_data hc) cells.length (by simp)
        rw [List.take_of_length_le (by simp)] at hr
        exact ⟨us, hr, fun w' hw => hload b o us (by omega) hcs w' hw⟩
    · cases h
  · rename_i s
    split at h
    · rename_i h1
      subst h1
      cases h
      have := rel_d_str hy
      subst this
      refine ⟨fun w' => ?_, s.map fun b => .int .u8 b.toNat, relL_bytes s, fun w' _ => ?_⟩
      · have hsz : (ByteArray.mk s.toArray).size = s.length := by show s.toArray.size = _; simp
        simp only [Builtin.lenOf, hsz, Sem.run_pure]
      · have := extract_str s 0 s.length
        simp only [Builtin.firstCells, this, Sem.run_pure]
        congr 1
        apply Array.ext'
        simp
    · cases h
  · rename_i id e' off len
    split at h
    · rename_i cs hcs
      split at h
      · rename_i hcond
        obtain ⟨rfl, hle, _⟩ := hcond
        cases h
        simp only [Rel] at hy
        rcases hy with ⟨_, rfl, rfl, rfl⟩ | ⟨b, cap, N, hb, rfl, _⟩
        · exact ⟨fun _ => rfl, [], by simp [RelL], fun _ _ => rfl⟩
        · refine ⟨fun _ => rfl, ?_⟩
          obtain ⟨us, hl, hcs', hr⟩ := cellsAt_vals (cellsAt_own hM hcs hb off) (k * e') (by rw [List.length_drop]; omega)
          exact ⟨us, hr, fun w' hw => hload b off us hl hcs' w' hw⟩
      · cases h
    · cases h
  · cases h

theorem cellBytes_spec : ∀ {cs : List AV} {s : List UInt8} {us : List Value}, RelL c w cs us → cellBytes cs = some s → ∃ ns : List Int, us = ns.map (Value.int .u8) ∧ s = ns.map fun n => UInt8.ofNat n.toNat
  | [], s, us, hr, h => by
    simp only [RelL] at hr
    simp only [cellBytes, Option.some.injEq] at h
    subst hr h
    exact ⟨[], rfl, rfl⟩
  | x :: cs, s, us, hr, h => by
    simp only [RelL] at hr
    obtain ⟨v, vs, rfl, hv, hr⟩ := hr
    unfold cellBytes at h
    split at h
    · rename_i h0; cases h0
    · rename_i k r h0
      cases h0
      rw [Option.map_eq_some_iff] at h
      obtain ⟨s', hs', rfl⟩ := h
      obtain ⟨ns, rfl, rfl⟩ := cellBytes_spec hr hs'
      have := rel_d_int hv
      subst this
      exact ⟨k :: ns, rfl, rfl⟩
    · cases h

theorem run_pushBytes (f : Value → ByteArray → Sem (ForInStep ByteArray)) (hf : ∀ n s, f (.int .u8 n) s = pure (ForInStep.yield (s.push (UInt8.ofNat n.toNat)))) (ns : List Int) (w : World) : ∀ (acc : ByteArray),
    (forIn (ns.map (Value.int .u8)) acc f : Sem ByteArray).run P w = .ok ⟨acc.data ++ (ns.map fun n => UInt8.ofNat n.toNat).toArray⟩ w := by
  induction ns with
  | nil => intro acc; simp
  | cons k ns ih =>
    intro acc
    simp only [List.map_cons, List.forIn_cons, Sem.run_bind, hf, Sem.run_pure, Result.andThen_ok, ih]
    congr 2
    apply Array.ext'
    simp [ByteArray.data_push]

theorem outc_cvbs {s d el : TypeId} (hs : P.underlying s = some (.slice el)) (hel : P.underlying el = some (.int .u8)) (hd : P.underlying d = some .string) {x : Operand} (hF : FR c w t a.tmps) (hM : MR c m w) {v : AV} {e : Eff}
    (he : aevN (.cvbs (cOpd x)) t m n = some (v, e)) : Outc P (do pure (.value (← convert s d (a.eval x)))) c m n w v e := by
  have hx := rel_ev hF x
  simp only [aevN] at he
  split at he
  · cases he
  rename_i hstr
  split at he
  · rename_i k cs hcs
    rw [Option.map_eq_some_iff] at he
    obtain ⟨bs, hbs, he⟩ := he
    cases he
    obtain ⟨hl, us, hr, hfc⟩ := run_elems (P := P) hx hM hcs
    have hf := hfc w rfl
    obtain ⟨ns, rfl, rfl⟩ := cellBytes_spec hr hbs
    have hlen : ∃ p cap, a.eval x = .slice p k cap := by
      cases hev : ev t (cOpd x) with
      | d y =>
        rw [hev] at hx hcs
        cases y with
        | nsl => have := rel_d_nsl hx; simp only [elemsOf, Option.some.injEq, Prod.mk.injEq] at hcs; rw [this, ← hcs.1]; exact ⟨_, _, rfl⟩
        | sl n' cells =>
          simp only [elemsOf] at hcs
          split at hcs
          · cases hcs
            simp only [Rel, RelD] at hx
            obtain ⟨p, cap, hv, _⟩ := hx
            exact ⟨p, cap, hv⟩
          · cases hcs
        | str s => exact (hstr s hev).elim
        | _ => simp [elemsOf] at hcs
      | sl id e' off len =>
        rw [hev] at hx hcs
        simp only [elemsOf] at hcs
        split at hcs
        · split at hcs
          · cases hcs
            simp only [Rel] at hx
            rcases hx with ⟨_, _, rfl, hv⟩ | ⟨b, cap, N, _, hv, _⟩
            · exact ⟨_, _, hv⟩
            · exact ⟨_, _, hv⟩
          · cases hcs
        · cases hcs
      | _ => rw [hev] at hcs; simp [elemsOf] at hcs
    obtain ⟨p, cap, hv⟩ := hlen
    rw [hv] at hf
    refine outc_pure (u := .string ⟨(ns.map fun n => UInt8.ofNat n.toNat).toArray⟩) hM ?_ (rel_str _)
    have hconv : (convert s d (.slice p k cap)).run P w = (Conv.bytesToString (.slice p k cap)).run P w := by
      simp only [convert, Sem.run_bind, underlying, run_program, Result.andThen_ok, hs, hd, Sem.run_pure]
      cases p <;> simp [hel]
    rw [hv, hconv]
    cases p with
    | none =>
      simp only [Builtin.firstCells, Sem.run_pure, Result.ok.injEq, and_true] at hf
      have : ns = [] := by
        have h1 := congrArg Array.size hf
        simp at h1
        exact List.eq_nil_of_length_eq_zero h1.symm
      subst this
      rfl
    | some p =>
      simp only [Builtin.firstCells, Nat.mul_one] at hf
      simp only [Conv.bytesToString, Sem.run_bind, hf, Result.andThen_ok, List.forIn_toArray]
      rw [run_pushBytes (P := P) _ (fun _ _ => rfl) ns w ByteArray.empty]
      simp only [Result.andThen_ok, Sem.run_pure]
      congr 3
      simp
  · cases he

end
end Go.Jq
