/- PrintOks comes to true, whatever it is given. -/
import Derived.Test.YtgfkgngpganllaaDoorO5
import Derived.Test.YtgfkgngpganllaaDoorP8
namespace Go.Proofs.YtgfkgngpganllaaDoor
open Go Go.Jq
set_option maxRecDepth 100000
set_option linter.unusedSimpArgs false

theorem sls_cells' {α : Type} {enc : α → List DV} {w : Nat} (hk : ∀ a, (enc a).length = w) (l : List α) : (l.flatMap enc).take (l.length * w) = l.flatMap enc := by
  refine List.take_of_length_le ?_
  induction l with
  | nil => simp
  | cons a l ih =>
    simp only [List.flatMap_cons, List.length_append, List.length_cons, Nat.succ_mul, hk]
    omega

/-- One field turned. -/
def turnI (q : Nat) (x : Ins) : Ins :=
  if q = 0 then ⟨7, x.reg, x.loc, x.a, x.op, x.b, x.n⟩
  else if q = 1 then ⟨x.kind, 4, x.loc, x.a, x.op, x.b, x.n⟩
  else if q = 2 then ⟨x.kind, x.reg, 65, x.a, x.op, x.b, x.n⟩
  else if q = 3 then ⟨x.kind, x.reg, x.loc, x.a, 12, x.b, x.n⟩
  else if q = 4 then ⟨x.kind, x.reg, x.loc, x.a, x.op, x.b, -1⟩
  else if q = 5 then ⟨x.kind, x.reg, x.loc, ⟨4, x.a.value⟩, x.op, x.b, x.n⟩
  else if q = 6 then ⟨x.kind, x.reg, x.loc, x.a, x.op, ⟨-2, x.b.value⟩, x.n⟩
  else ⟨0, x.reg, x.loc, x.a, x.op, x.b, x.n⟩

theorem turn_bad (q : Nat) (x : Ins) : okInsB (turnI q x) = false := by
  have h4 : isRegB 4 = false := rfl
  have h65 : isLocB 65 = false := rfl
  have ho4 : ∀ v, isOpB ⟨4, v⟩ = false := fun v => by simp [isOpB, h4]
  have ho2 : ∀ v, isOpB ⟨-2, v⟩ = false := fun v => by simp [isOpB, isRegB]
  have hd : ∀ k : Int, (if k = 1 then true else if k = 2 then true else if k = 3 then true else if k = 4 then true else if k = 5 then true else if k = 6 then true else false) = true ∨ True := fun _ => .inr trivial
  unfold turnI
  split
  · simp [okInsB]
  split
  · simp only [okInsB, eqIns, h4]
    repeat' split
    all_goals simp
  split
  · simp only [okInsB, eqIns, h65]
    repeat' split
    all_goals simp
  split
  · simp only [okInsB, eqIns]
    repeat' split
    all_goals simp
  split
  · simp only [okInsB, eqIns]
    repeat' split
    all_goals simp
  split
  · simp only [okInsB, eqIns, ho4]
    repeat' split
    all_goals simp
  split
  · simp only [okInsB, eqIns, ho2]
    repeat' split
    all_goals simp
  · simp [okInsB]

theorem turn_i64 (q : Nat) {x : Ins} (h : I64i x) : I64i (turnI q x) := by
  obtain ⟨h1, h2, h3, h4, h5, h6⟩ := h
  have a : I64 4 := by simp [I64]
  have b : I64 (-1) := by simp [I64]
  have c : I64 (-2) := by simp [I64]
  unfold turnI
  repeat' split
  all_goals exact ⟨by assumption, by assumption, by assumption, by assumption, by assumption, by assumption⟩

/-- One instruction of the first thread turned. -/
def uIns (t : Test) (s0 : List Ins) (ts' : List (List Ins)) (k : Nat) (x : Ins) : Test := ⟨t.name, t.inits, s0.set k x :: ts', t.kind, t.rows⟩

theorem uIns_bad {t : Test} {s0 : List Ins} {ts' : List (List Ins)} {k : Nat} {x : Ins} (hk : k < s0.length) (hx : okInsB x = false) : okB (uIns t s0 ts' k x) = false := by
  have : (uIns t s0 ts' k x).threads.any badThreadB = true := by
    rw [List.any_eq_true]
    refine ⟨s0.set k x, by simp [uIns], ?_⟩
    unfold badThreadB
    rw [List.any_eq_true]
    exact ⟨x, by rw [List.mem_iff_getElem]; exact ⟨k, by simpa using hk, by simp⟩, by simp [hx]⟩
  unfold okB
  rw [this]
  simp

theorem uIns_few {t : Test} {s0 : List Ins} {ts' : List (List Ins)} {k : Nat} {x : Ins} (hf : FewT t) (ht : t.threads = s0 :: ts') (hx : I64i x) : FewT (uIns t s0 ts' k x) := by
  refine ⟨hf.name, hf.inits, hf.values, by have := hf.threads; rw [ht] at this; simpa [uIns] using this, fun l hl => ?_, hf.rows⟩
  simp only [uIns, List.mem_cons] at hl
  rcases hl with rfl | hl
  · have h0 := hf.ins s0 (by rw [ht]; simp)
    refine ⟨by simpa using h0.1, fun y hy => ?_⟩
    rcases List.mem_or_eq_of_mem_set hy with hy | rfl
    · exact h0.2 y hy
    · exact hx
  · exact hf.ins l (by rw [ht]; simp [hl])

/-- A struct's cells written into a row of structs. -/
theorem putAt_at : ∀ (vs : List AV) (l : List AV) (o : Nat), o + vs.length ≤ l.length → putAt l o vs = l.take o ++ vs ++ l.drop (o + vs.length)
  | [], l, o, _ => by simp [putAt]
  | v :: vs, l, o, h => by
    simp only [List.length_cons] at h
    simp only [putAt]
    rw [putAt_at vs (l.set o v) (o + 1) (by simp; omega), List.take_set, List.drop_set_of_lt (by omega), List.length_cons]
    have e : (l.take (o + 1)).set o v = l.take o ++ [v] := by
      rw [List.take_succ_eq_append_getElem (by omega), List.set_append_right _ _ (by simp; omega)]
      have : o - (l.take o).length = 0 := by simp; omega
      rw [this]
      rfl
    have e2 : o + 1 + vs.length = o + (vs.length + 1) := by omega
    rw [e, e2]
    simp only [List.append_assoc, List.cons_append, List.nil_append]

theorem flat_set {α : Type} {enc : α → List DV} {w : Nat} (hk : ∀ a, (enc a).length = w) (x : α) : ∀ (l : List α) (k : Nat), k < l.length → (l.flatMap enc).take (k * w) ++ enc x ++ (l.flatMap enc).drop (k * w + w) = (l.set k x).flatMap enc
  | [], _, h => by simp at h
  | a :: l, 0, _ => by
    have := hk a
    simp only [Nat.zero_mul, List.take_zero, List.nil_append, Nat.zero_add, List.set_cons_zero, List.flatMap_cons]
    rw [List.drop_append_of_le_length (by omega), List.drop_of_length_le (by omega), List.nil_append]
  | a :: l, k + 1, h => by
    have ha := hk a
    have ih := flat_set hk x l k (by simpa using h)
    simp only [List.set_cons_succ, List.flatMap_cons]
    rw [← ih]
    have e1 : (k + 1) * w = (enc a).length + k * w := by rw [Nat.succ_mul, ha]; omega
    rw [e1, List.take_length_add_append, Nat.add_assoc, List.drop_length_add_append]
    simp only [List.append_assoc]

theorem put_flat {s0 : List Ins} {k : Nat} (hk : k < s0.length) (x : Ins) : putAt ((s0.flatMap Ins.cells).map AV.d) (k * 9) ((Ins.cells x).map AV.d) = ((s0.set k x).flatMap Ins.cells).map AV.d := by
  have hl : (s0.flatMap Ins.cells).length = s0.length * 9 := insLen s0
  have hx : (Ins.cells x).length = 9 := rfl
  rw [putAt_at _ _ _ (by simp only [List.length_map, hl, hx]; omega), List.length_map, hx, ← List.map_take, ← List.map_drop, ← List.map_append, ← List.map_append, flat_set ins_len x s0 k hk]

end Go.Proofs.YtgfkgngpganllaaDoor
