/- The abstract layer, part 3: each operation's abstract evaluation is what the model does. -/
import Derived.Test.YtjfghjakpjfgpaaX2
namespace Go.Jq
open Go

/-! ### Addresses, cells, rows -/

theorem addr_add (b o n : Nat) : (Addr.add ⟨b, o, none⟩ n) = ⟨b, o + n, none⟩ := by
  unfold Addr.add
  split
  · rename_i h; subst h; rfl
  · rfl

theorem cell_of_row {w : World} {b : Nat} {arr : Array Value} {T : TypeId} {f : Nat × Nat} (h : w.heap[b]? = some (.cells arr T f)) (o : Nat) :
    w.cell? ⟨b, o, none⟩ = arr[o]? := by simp [World.cell?, h]

theorem frozen_of_row {w : World} {b : Nat} {arr : Array Value} {T : TypeId} {f : Nat × Nat} (h : w.heap[b]? = some (.cells arr T f)) (hf : NoFz arr.size f) {o : Nat} (ho : o < arr.size) :
    w.frozen? ⟨b, o, none⟩ = false := by
  simp only [World.frozen?, h]
  rcases hf with h1 | h1
  · have : ¬ (f.1 ≤ o ∧ o < f.2) := by omega
    simp only [Bool.and_eq_false_iff, decide_eq_false_iff_not]
    omega
  · simp only [Bool.and_eq_false_iff, decide_eq_false_iff_not]
    omega

theorem rowSize_of_row {w : World} {b : Nat} {arr : Array Value} {T : TypeId} {f : Nat × Nat} (h : w.heap[b]? = some (.cells arr T f)) : rowSize w b = some arr.size := by
  simp [rowSize, h]

theorem run_loadCellsFrom (P : Program) (w : World) (b : Nat) : ∀ (n o i : Nat) (acc : Array Value) (us : List Value),
    us.length = n → (∀ j u, us[j]? = some u → w.cell? ⟨b, o + i + j, none⟩ = some u) → (loadCellsFrom ⟨b, o, none⟩ i n acc).run P w = .ok (acc ++ us.toArray) w
  | 0, o, i, acc, us, hl, _ => by
    have : us = [] := List.eq_nil_of_length_eq_zero hl
    subst this
    simp [loadCellsFrom]
  | n + 1, o, i, acc, us, hl, h => by
    cases us with
    | nil => simp at hl
    | cons u us =>
      have h0 := h 0 u rfl
      simp only [Nat.add_zero] at h0
      have ih := run_loadCellsFrom P w b n o (i + 1) (acc.push u) us (by simpa using hl) (fun j u' hj => by
        have := h (j + 1) u' (by simpa using hj)
        rw [← this]; congr 2; omega)
      simp only [loadCellsFrom, Sem.run_bind, addr_add, run_load, h0, Result.andThen_ok, ih]
      congr 1
      apply Array.ext'
      simp

theorem run_loadCells (P : Program) (w : World) (b o : Nat) (us : List Value) (h : ∀ j u, us[j]? = some u → w.cell? ⟨b, o + j, none⟩ = some u) :
    (loadCells ⟨b, o, none⟩ us.length).run P w = .ok us.toArray w := by
  have := run_loadCellsFrom P w b us.length o 0 #[] us rfl (by simpa using h)
  simpa [loadCells] using this

/-- One block's row turned, all else as it was. -/
structure RowTo (w w' : World) (b : Nat) (arr' : Array Value) (T : TypeId) (f : Nat × Nat) : Prop where
  os : w'.os = w.os
  tape : w'.tape = w.tape
  output : w'.output = w.output
  size : w'.heap.size = w.heap.size
  other : ∀ k, k ≠ b → w'.heap[k]? = w.heap[k]?
  row : w'.heap[b]? = some (.cells arr' T f)

def putVs : List Value → Nat → List Value → List Value
  | l, _, [] => l
  | l, o, v :: vs => putVs (l.set o v) (o + 1) vs

theorem length_putVs : ∀ (vs l : List Value) (o : Nat), (putVs l o vs).length = l.length
  | [], l, o => rfl
  | v :: vs, l, o => by simp only [putVs]; rw [length_putVs vs]; simp

theorem length_putAt : ∀ (vs l : List AV) (o : Nat), (putAt l o vs).length = l.length
  | [], l, o => rfl
  | v :: vs, l, o => by simp only [putAt]; rw [length_putAt vs]; simp

theorem relL_putAt {c : Ctx} {w : World} : ∀ (xs : List AV) (vs : List Value) (l : List AV) (us : List Value) (o : Nat), RelL c w l us → RelL c w xs vs → RelL c w (putAt l o xs) (putVs us o vs)
  | [], vs, l, us, o, h, h' => by simp only [RelL] at h'; subst h'; exact h
  | x :: xs, vs, l, us, o, h, h' => by
    simp only [RelL] at h'
    obtain ⟨v, vs', rfl, hv, h'⟩ := h'
    simp only [putAt, putVs]
    exact relL_putAt xs vs' _ _ _ (RelL.set o h hv) h'

theorem putVs_append : ∀ (vs us rest : List Value) (o : Nat), o + vs.length ≤ us.length → putVs (us ++ rest) o vs = putVs us o vs ++ rest
  | [], us, rest, o, _ => rfl
  | v :: vs, us, rest, o, h => by
    simp only [List.length_cons] at h
    simp only [putVs]
    rw [List.set_append_left o v (by omega)]
    exact putVs_append vs _ rest (o + 1) (by simp; omega)

theorem putVs_end : ∀ (vs us rest : List Value), vs.length ≤ rest.length → ∃ rest', putVs (us ++ rest) us.length vs = us ++ vs ++ rest' ∧ rest'.length = rest.length - vs.length
  | [], us, rest, _ => ⟨rest, by simp [putVs], by simp⟩
  | v :: vs, us, [], h => by simp at h
  | v :: vs, us, r :: rest, h => by
    simp only [putVs]
    rw [List.set_append_right us.length v (Nat.le_refl _)]
    simp only [Nat.sub_self, List.set_cons_zero]
    obtain ⟨rest', h1, h2⟩ := putVs_end vs (us ++ [v]) rest (by simpa using h)
    refine ⟨rest', ?_, by simp; omega⟩
    rw [show us ++ v :: rest = us ++ [v] ++ rest by simp, show us.length + 1 = (us ++ [v]).length by simp, h1]
    simp

theorem run_storeCells (P : Program) (b : Nat) (T : TypeId) (f : Nat × Nat) : ∀ (vs : List Value) (w : World) (arr : Array Value) (o i : Nat),
    w.heap[b]? = some (.cells arr T f) → NoFz arr.size f → (∀ v ∈ vs, v.oneCell' = true) → o + i + vs.length ≤ arr.size →
    ∃ w', (storeCells ⟨b, o, none⟩ vs i).run P w = .ok () w' ∧ RowTo w w' b (putVs arr.toList (o + i) vs).toArray T f
  | [], w, arr, o, i, hb, _, _, _ => ⟨w, by simp [storeCells], rfl, rfl, rfl, rfl, fun _ _ => rfl, by simpa [putVs] using hb⟩
  | v :: vs, w, arr, o, i, hb, hf, hv, hl => by
    have hlt : o + i < arr.size := by simp at hl; omega
    have hc : w.cell? ⟨b, o + i, none⟩ = some arr[o + i] := by rw [cell_of_row hb]; simp [hlt]
    have hfz := frozen_of_row hb hf hlt
    have hrow : (w.setCell ⟨b, o + i, none⟩ v).heap[b]? = some (.cells (arr.setIfInBounds (o + i) v) T f) := by
      simp only [World.setCell, Array.getElem?_modify, if_true, hb, Option.map_some]
      simp
    obtain ⟨w', hr, h⟩ := run_storeCells P b T f vs (w.setCell ⟨b, o + i, none⟩ v) (arr.setIfInBounds (o + i) v) o (i + 1) hrow (by simpa using hf)
      (fun u hu => hv u (List.mem_cons_of_mem _ hu)) (by simp at hl ⊢; omega)
    refine ⟨w', ?_, ?_⟩
    · simp only [storeCells, Sem.run_bind, addr_add, run_store P w _ v .plain (hv v List.mem_cons_self), hc, hfz, Result.andThen_ok, Bool.false_eq_true, if_false]
      exact hr
    · refine ⟨h.os, h.tape, h.output, h.size.trans (by simp), fun k hk => (h.other k hk).trans (RowKit.Below.heap_setCell _ _ _ _ hk), ?_⟩
      rw [h.row]
      simp only [putVs, Nat.add_assoc, Array.toList_setIfInBounds]
  termination_by vs => vs.length

/-! ### Memory's changes -/

def Ctx.bind (c : Ctx) (n : Nat) (s : Spot) : Ctx := { c with φ := fun i => if i = n then s else c.φ i }

theorem Ctx.bind_ne {c : Ctx} {n : Nat} {s : Spot} {id : Nat} (h : id ≠ n) : (c.bind n s).φ id = c.φ id := by simp [Ctx.bind, h]
theorem Ctx.bind_eq {c : Ctx} {n : Nat} {s : Spot} : (c.bind n s).φ n = s := by simp [Ctx.bind]

theorem ext_of_ne {c c' : Ctx} {n : Nat} (hn : c.φ n = .free) (h : ∀ id, id ≠ n → c'.φ id = c.φ id) : ∀ id, c.φ id ≠ .free → c'.φ id = c.φ id :=
  fun id hid => h id fun e => hid (e ▸ hn)

theorem OwnR.later {c c' : Ctx} {w w' : World} (hl : Later c c' w w') {id : Nat} {cells : List AV} (h : OwnR c w id cells)
    (hsame : ∀ b, c.φ id = .blk b → w'.heap[b]? = w.heap[b]? ∧ ¬ c'.imm b) : OwnR c' w' id cells := by
  rcases h with ⟨h0, h1⟩ | ⟨b, arr, T, f, hb, hi, hw, hf, vs, rest, ha, hr⟩
  · exact .inl ⟨by rw [hl.ext id (by rw [h0]; simp)]; exact h0, h1⟩
  · exact .inr ⟨b, arr, T, f, by rw [hl.ext id (by rw [hb]; simp)]; exact hb, (hsame b hb).2, by rw [(hsame b hb).1]; exact hw, hf, vs, rest, ha, relL_mono hl cells vs hr⟩

theorem MR.del {c : Ctx} {m : Mem} {w : World} (h : MR c m w) (id : Nat) : MR c (mdel m id) w where
  own := fun i cells hi => by rw [mget_mdel] at hi; split at hi; · simp at hi
                              · exact h.own i cells hi
  inj := fun i j b hi hj => by
    rw [mget_mdel] at hi hj
    split at hi
    · simp at hi
    · split at hj
      · simp at hj
      · exact h.inj i j b hi hj
  imm := h.imm

theorem MR.not_free {c : Ctx} {m : Mem} {w : World} (h : MR c m w) {id : Nat} (hi : (mget m id).isSome) : c.φ id ≠ .free := by
  obtain ⟨cells, hc⟩ := Option.isSome_iff_exists.1 hi
  rcases h.own id cells hc with ⟨h0, _⟩ | ⟨b, _, _, _, hb, _⟩
  · rw [h0]; simp
  · rw [hb]; simp

theorem MR.blk_lt {c : Ctx} {m : Mem} {w : World} (h : MR c m w) {b : Nat} (ho : Own c m b) : b < w.heap.size := by
  obtain ⟨id, hid, hb⟩ := ho
  obtain ⟨cells, hc⟩ := Option.isSome_iff_exists.1 hid
  rcases h.own id cells hc with ⟨h0, _⟩ | ⟨b', arr, T, f, hb', _, hw, _⟩
  · rw [h0] at hb; cases hb
  · rw [hb'] at hb; cases hb
    rcases Nat.lt_or_ge b w.heap.size with h1 | h1
    · exact h1
    · rw [Array.getElem?_eq_none h1] at hw; cases hw

/-- One new block behind all others. -/
structure OneMore (w w' : World) (arr : Array Value) (T : TypeId) (f : Nat × Nat) : Prop where
  os : w'.os = w.os
  tape : w'.tape = w.tape
  output : w'.output = w.output
  size : w'.heap.size = w.heap.size + 1
  old : ∀ k, k < w.heap.size → w'.heap[k]? = w.heap[k]?
  row : w'.heap[w.heap.size]? = some (.cells arr T f)

theorem rowSize_eq {w w' : World} {b : Nat} (h : w'.heap[b]? = w.heap[b]?) : rowSize w' b = rowSize w b := by simp [rowSize, h]

theorem rowSize_lt {w : World} {b k : Nat} (h : rowSize w b = some k) : b < w.heap.size := by
  rcases Nat.lt_or_ge b w.heap.size with h1 | h1
  · exact h1
  · simp [rowSize, Array.getElem?_eq_none h1] at h

theorem OneMore.rows {w w' : World} {arr : Array Value} {T : TypeId} {f : Nat × Nat} (h : OneMore w w' arr T f) : ∀ b n, rowSize w b = some n → rowSize w' b = some n :=
  fun b _ hn => (rowSize_eq (h.old b (rowSize_lt hn))).trans hn

theorem OneMore.later {c : Ctx} {m : Mem} {w w' : World} {arr : Array Value} {T : TypeId} {f : Nat × Nat} (h : OneMore w w' arr T f) (hm : MR c m w) {n : Nat} (hn : c.φ n = .free) :
    Later c (c.bind n (.blk w.heap.size)) w w' :=
  ⟨fun _ hb => hb, fun b hb => h.old b (hm.imm b hb), ext_of_ne hn fun _ hid => Ctx.bind_ne hid, h.rows⟩

theorem OneMore.step {c : Ctx} {m : Mem} {w w' : World} {arr : Array Value} {T : TypeId} {f : Nat × Nat} (h : OneMore w w' arr T f) (n : Nat) :
    Step (Own c m) c (c.bind n (.blk w.heap.size)) w w' :=
  ⟨h.os, h.tape, h.output, by rw [h.size]; omega, fun k hk _ => h.old k hk, h.rows, fun _ hb => hb, fun _ hb => .inl hb⟩

theorem MR.new {c : Ctx} {m : Mem} {w w' : World} {arr : Array Value} {T : TypeId} {f : Nat × Nat} (hm : MR c m w) (h : OneMore w w' arr T f) {n : Nat} (hn : c.φ n = .free)
    (hf : NoFz arr.size f) {cells : List AV} {vs rest : List Value} (ha : arr.toList = vs ++ rest) (hr : RelL c w cells vs) :
    MR (c.bind n (.blk w.heap.size)) (mset m n cells) w' where
  own := fun id cs hid => by
    have hl := h.later hm hn
    rw [mget_mset] at hid
    split at hid
    · rename_i e
      subst e
      cases hid
      exact .inr ⟨w.heap.size, arr, T, f, Ctx.bind_eq, fun hi => Nat.lt_irrefl _ (hm.imm _ hi), h.row, hf, vs, rest, ha, relL_mono hl _ _ hr⟩
    · refine (hm.own id cs hid).later hl fun b hb => ⟨h.old b (hm.blk_lt ⟨id, by rw [hid]; rfl, hb⟩), fun hi => hm.sep hi ⟨id, by rw [hid]; rfl, hb⟩⟩
  inj := fun i j b hi hj hib hjb => by
    rw [mget_mset] at hi hj
    by_cases e1 : n = i
    · by_cases e2 : n = j
      · exact e1.symm.trans e2
      · exfalso
        subst e1
        rw [Ctx.bind_eq] at hib
        cases hib
        rw [if_neg e2] at hj
        rw [Ctx.bind_ne (Ne.symm e2)] at hjb
        exact Nat.lt_irrefl _ (hm.blk_lt ⟨j, hj, hjb⟩)
    · by_cases e2 : n = j
      · exfalso
        subst e2
        rw [Ctx.bind_eq] at hjb
        cases hjb
        rw [if_neg e1] at hi
        rw [Ctx.bind_ne (Ne.symm e1)] at hib
        exact Nat.lt_irrefl _ (hm.blk_lt ⟨i, hi, hib⟩)
      · rw [if_neg e1] at hi
        rw [if_neg e2] at hj
        rw [Ctx.bind_ne (Ne.symm e1)] at hib
        rw [Ctx.bind_ne (Ne.symm e2)] at hjb
        exact hm.inj i j b hi hj hib hjb
  imm := fun b hb => by rw [h.size]; exact Nat.lt_succ_of_lt (hm.imm b hb)

theorem own_new {c : Ctx} {m : Mem} {w : World} {n : Nat} {cells : List AV} {b : Nat} (h : Own (c.bind n (.blk w.heap.size)) (mset m n cells) b) : Own c m b ∨ w.heap.size ≤ b := by
  obtain ⟨id, hid, hb⟩ := h
  rw [mget_mset] at hid
  by_cases e : n = id
  · subst e; rw [Ctx.bind_eq] at hb; cases hb; exact .inr (Nat.le_refl _)
  · rw [if_neg e] at hid; rw [Ctx.bind_ne (Ne.symm e)] at hb; exact .inl ⟨id, hid, hb⟩

theorem oneMore_alloc (w : World) (arr : Array Value) (T : TypeId) : OneMore w (w.alloc (.cells arr T)) arr T (0, 0) :=
  ⟨rfl, rfl, rfl, by simp, fun k hk => RowKit.Below.heap_alloc w _ k hk, by simp only [World.alloc, Array.getElem?_push_size]⟩

theorem noFz_zero (n : Nat) : NoFz n (0, 0) := .inl rfl

/-- An own block's row turned, its size as it was. -/
theorem RowTo.later {c : Ctx} {w w' : World} {b : Nat} {arr arr' : Array Value} {T : TypeId} {f : Nat × Nat} (h : RowTo w w' b arr' T f)
    (hb : w.heap[b]? = some (.cells arr T f)) (hs : arr'.size = arr.size) (hi : ¬ c.imm b) : Later c c w w' := by
  refine ⟨fun _ h => h, fun k hk => h.other k fun e => hi (e ▸ hk), fun _ _ => rfl, fun k n hn => ?_⟩
  by_cases e : k = b
  · subst e; rw [rowSize_of_row hb] at hn; rw [rowSize_of_row h.row, hs]; exact hn
  · rw [rowSize_eq (h.other k e)]; exact hn

theorem RowTo.step {c : Ctx} {m : Mem} {w w' : World} {b : Nat} {arr arr' : Array Value} {T : TypeId} {f : Nat × Nat} (h : RowTo w w' b arr' T f)
    (hb : w.heap[b]? = some (.cells arr T f)) (hs : arr'.size = arr.size) (ho : Own c m b) : Step (Own c m) c c w w' :=
  ⟨h.os, h.tape, h.output, by rw [h.size]; exact Nat.le_refl _, fun k _ hk => h.other k fun e => hk (e ▸ ho), fun k n hn => by
    by_cases e : k = b
    · subst e; rw [rowSize_of_row hb] at hn; rw [rowSize_of_row h.row, hs]; exact hn
    · rw [rowSize_eq (h.other k e)]; exact hn, fun _ h => h, fun _ h => .inl h⟩

theorem MR.put {c : Ctx} {m : Mem} {w w' : World} {id b : Nat} {arr arr' : Array Value} {T : TypeId} {f : Nat × Nat} {old cells : List AV} {vs rest : List Value} (hm : MR c m w)
    (hid : mget m id = some old) (hφ : c.φ id = .blk b) (h : RowTo w w' b arr' T f) (hb : w.heap[b]? = some (.cells arr T f)) (hs : arr'.size = arr.size) (hi : ¬ c.imm b)
    (hf : NoFz arr.size f) (ha : arr'.toList = vs ++ rest) (hr : RelL c w cells vs) : MR c (mset m id cells) w' where
  own := fun i cs hi' => by
    have hl := h.later hb hs hi
    rw [mget_mset] at hi'
    split at hi'
    · rename_i e
      subst e
      cases hi'
      exact .inr ⟨b, arr', T, f, hφ, hi, h.row, by rw [hs]; exact hf, vs, rest, ha, relL_mono hl _ _ hr⟩
    · rename_i e
      refine (hm.own i cs hi').later hl fun b' hb' => ⟨h.other b' fun eb => e ?_, fun him => hm.sep him ⟨i, by rw [hi']; rfl, hb'⟩⟩
      exact hm.inj id i b (by rw [hid]; rfl) (by rw [hi']; rfl) hφ (eb ▸ hb')
  inj := fun i j b' hi' hj' => by
    rw [mget_mset] at hi' hj'
    refine hm.inj i j b' ?_ ?_
    · split at hi'
      · rename_i e; subst e; rw [hid]; rfl
      · exact hi'
    · split at hj'
      · rename_i e; subst e; rw [hid]; rfl
      · exact hj'
  imm := fun k hk => by rw [h.size]; exact hm.imm k hk

theorem own_put {c : Ctx} {m : Mem} {id : Nat} {old cells : List AV} (hid : mget m id = some old) {b : Nat} (h : Own c (mset m id cells) b) : Own c m b := by
  obtain ⟨i, hi, hb⟩ := h
  rw [mget_mset] at hi
  by_cases e : id = i
  · subst e; exact ⟨id, by rw [hid]; rfl, hb⟩
  · rw [if_neg e] at hi; exact ⟨i, hi, hb⟩

/-- An own block goes on under a new number. -/
theorem MR.again {c : Ctx} {m : Mem} {w : World} {id n : Nat} {cells : List AV} (hm : MR c m w) (hid : mget m id = some cells) (hn : c.φ n = .free) (s : Spot) (hs : c.φ id = s) :
    MR (c.bind n s) (mset (mdel m id) n cells) w where
  own := fun i cs hi => by
    have hl : Later c (c.bind n s) w w := ⟨fun _ h => h, fun _ _ => rfl, ext_of_ne hn fun _ h => Ctx.bind_ne h, fun _ _ h => h⟩
    rw [mget_mset] at hi
    split at hi
    · rename_i e
      subst e
      cases hi
      have h := hm.own id cells hid
      unfold OwnR at *
      rw [Ctx.bind_eq]
      rw [hs] at h
      rcases h with h | ⟨b, arr, T, f, h1, h2, h3, h4, vs, rest, h5, h6⟩
      · exact .inl h
      · exact .inr ⟨b, arr, T, f, h1, h2, h3, h4, vs, rest, h5, relL_mono hl _ _ h6⟩
    · rw [mget_mdel] at hi
      split at hi
      · simp at hi
      · exact (hm.own i cs hi).later hl fun b hb => ⟨rfl, fun him => hm.sep him ⟨i, by rw [hi]; rfl, hb⟩⟩
  inj := fun i j b hi hj hib hjb => by
    rw [mget_mset, mget_mdel] at hi hj
    have hid' : (mget m id).isSome := by rw [hid]; rfl
    by_cases e1 : n = i
    · by_cases e2 : n = j
      · exact e1.symm.trans e2
      · exfalso
        subst e1
        rw [Ctx.bind_eq] at hib
        rw [if_neg e2] at hj
        rw [Ctx.bind_ne (Ne.symm e2)] at hjb
        by_cases e3 : id = j
        · rw [if_pos e3] at hj; simp at hj
        · rw [if_neg e3] at hj; exact e3 (hm.inj id j b hid' hj (hs.trans hib) hjb)
    · by_cases e2 : n = j
      · exfalso
        subst e2
        rw [Ctx.bind_eq] at hjb
        rw [if_neg e1] at hi
        rw [Ctx.bind_ne (Ne.symm e1)] at hib
        by_cases e3 : id = i
        · rw [if_pos e3] at hi; simp at hi
        · rw [if_neg e3] at hi; exact e3 (hm.inj id i b hid' hi (hs.trans hjb) hib)
      · rw [if_neg e1] at hi
        rw [if_neg e2] at hj
        rw [Ctx.bind_ne (Ne.symm e1)] at hib
        rw [Ctx.bind_ne (Ne.symm e2)] at hjb
        split at hi
        · simp at hi
        · split at hj
          · simp at hj
          · exact hm.inj i j b hi hj hib hjb
  imm := hm.imm

theorem own_again {c : Ctx} {m : Mem} {id n : Nat} {cells : List AV} (hid : (mget m id).isSome) {s : Spot} (hs : c.φ id = s) {b : Nat} (h : Own (c.bind n s) (mset (mdel m id) n cells) b) : Own c m b := by
  obtain ⟨i, hi, hb⟩ := h
  rw [mget_mset] at hi
  by_cases e : n = i
  · subst e; rw [Ctx.bind_eq] at hb; exact ⟨id, hid, hs.trans hb⟩
  · rw [if_neg e, mget_mdel] at hi
    rw [Ctx.bind_ne (Ne.symm e)] at hb
    split at hi
    · simp at hi
    · exact ⟨i, hi, hb⟩

theorem own_del {c : Ctx} {m : Mem} {id b : Nat} (h : Own c (mdel m id) b) : Own c m b := by
  obtain ⟨i, hi, hb⟩ := h
  rw [mget_mdel] at hi
  split at hi
  · simp at hi
  · exact ⟨i, hi, hb⟩

end Go.Jq
