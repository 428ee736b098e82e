/- Tests of fences: what they come to; slices whose elements are set. Plain Lean. -/
import Derived.Test.YtjfghjakpjfgpaaG1
namespace Go.Proofs.Ytjfghjakpjfgpaa
open Go Go.Jq

theorem flat_set {α : Type} {enc : α → List DV} {w : Nat} (hk : ∀ a, (enc a).length = w) (x : α) : ∀ (L : List α) (i : Nat), i < L.length → (L.set i x).flatMap enc = (L.flatMap enc).take (i * w) ++ enc x ++ (L.flatMap enc).drop (i * w + w)
  | [], i, h => by simp at h
  | a :: L, 0, _ => by
    simp only [List.set_cons_zero, List.flatMap_cons, Nat.zero_mul, List.take_zero, List.nil_append, Nat.zero_add]
    rw [List.drop_left' (hk a)]
  | a :: L, i + 1, h => by
    have ih := flat_set hk x L i (by simpa using h)
    simp only [List.set_cons_succ, List.flatMap_cons, ih]
    have e1 : ((enc a) ++ L.flatMap enc).take ((i + 1) * w) = enc a ++ (L.flatMap enc).take (i * w) := by
      rw [List.take_append]
      have h1 : (enc a).take ((i + 1) * w) = enc a := List.take_of_length_le (by rw [hk, Nat.succ_mul]; omega)
      have h2 : (i + 1) * w - (enc a).length = i * w := by rw [hk, Nat.succ_mul]; omega
      rw [h1, h2]
    have e2 : ((enc a) ++ L.flatMap enc).drop ((i + 1) * w + w) = (L.flatMap enc).drop (i * w + w) := by
      rw [List.drop_append]
      have h1 : (enc a).drop ((i + 1) * w + w) = [] := List.drop_eq_nil_of_le (by rw [hk, Nat.succ_mul]; omega)
      have h2 : (i + 1) * w + w - (enc a).length = i * w + w := by rw [hk, Nat.succ_mul]; omega
      rw [h1, h2, List.nil_append]
    rw [e1, e2]
    simp

theorem putAt_flat {α : Type} {enc : α → List DV} {w : Nat} (hk : ∀ a, (enc a).length = w) (x : α) (L : List α) (i : Nat) (hi : i < L.length) :
    putAt ((L.flatMap enc).map .d) (i * w) ((enc x).map .d) = ((L.set i x).flatMap enc).map .d := by
  have hl := flat_len hk L
  have h1 : (i + 1) * w ≤ L.length * w := Nat.mul_le_mul_right w hi
  rw [Nat.succ_mul] at h1
  rw [putAt_eq _ _ _ (by simp [hk, hl]; omega), flat_set hk x L i hi]
  simp [hk, List.map_take, List.map_drop]

def zeroIns : Ins := ⟨0, 0, 0, ⟨0, 0⟩, 0, ⟨0, 0⟩, 0⟩
def fence : Ins := ⟨3, 0, 0, ⟨0, 0⟩, 0, ⟨0, 0⟩, 0⟩
def skipIns (w : Int) : Ins := ⟨6, 0, 0, ⟨0, 0⟩, 0, ⟨0, 0⟩, w⟩
def zeroAtom : Atom := ⟨0, 0, 0, 0⟩

theorem zeros9 (n : Nat) : (List.range (n * 9)).map (fun i => ([.d (.int .i64 0), .d (.int .i64 0), .d (.int .i64 0), .d (.int .i64 0), .d (.int .i64 0), .d (.int .i64 0), .d (.int .i64 0), .d (.int .i64 0), .d (.int .i64 0)] : List AV).getD (i % 9) .any) = ((List.replicate n zeroIns).flatMap Ins.cells).map .d := by
  have h1 : ∀ i : Nat, ([.d (.int .i64 0), .d (.int .i64 0), .d (.int .i64 0), .d (.int .i64 0), .d (.int .i64 0), .d (.int .i64 0), .d (.int .i64 0), .d (.int .i64 0), .d (.int .i64 0)] : List AV).getD (i % 9) .any = .d (.int .i64 0) := by
    intro i
    have : i % 9 < 9 := Nat.mod_lt _ (by omega)
    generalize i % 9 = q at this
    match q, this with
    | 0, _ => rfl
    | 1, _ => rfl
    | 2, _ => rfl
    | 3, _ => rfl
    | 4, _ => rfl
    | 5, _ => rfl
    | 6, _ => rfl
    | 7, _ => rfl
    | 8, _ => rfl
  have h2 : (List.range (n * 9)).map (fun i => ([.d (.int .i64 0), .d (.int .i64 0), .d (.int .i64 0), .d (.int .i64 0), .d (.int .i64 0), .d (.int .i64 0), .d (.int .i64 0), .d (.int .i64 0), .d (.int .i64 0)] : List AV).getD (i % 9) .any) = List.replicate (n * 9) (.d (.int .i64 0)) := by
    rw [List.map_congr_left (fun i _ => h1 i), List.map_const', List.length_range]
  rw [h2]
  clear h1 h2
  induction n with
  | zero => rfl
  | succ n ih =>
    rw [List.replicate_succ, List.flatMap_cons, List.map_append, ← ih, Nat.succ_mul, Nat.add_comm, ← List.replicate_append_replicate]
    rfl

theorem zeros4 (n : Nat) : (List.range (n * 4)).map (fun i => ([.d (.int .i64 0), .d (.int .i64 0), .d (.int .i64 0), .d (.int .i64 0)] : List AV).getD (i % 4) .any) = ((List.replicate n zeroAtom).flatMap Atom.cells).map .d := by
  have h1 : ∀ i : Nat, ([.d (.int .i64 0), .d (.int .i64 0), .d (.int .i64 0), .d (.int .i64 0)] : List AV).getD (i % 4) .any = .d (.int .i64 0) := by
    intro i
    have : i % 4 < 4 := Nat.mod_lt _ (by omega)
    generalize i % 4 = q at this
    match q, this with
    | 0, _ => rfl
    | 1, _ => rfl
    | 2, _ => rfl
    | 3, _ => rfl
  have h2 : (List.range (n * 4)).map (fun i => ([.d (.int .i64 0), .d (.int .i64 0), .d (.int .i64 0), .d (.int .i64 0)] : List AV).getD (i % 4) .any) = List.replicate (n * 4) (.d (.int .i64 0)) := by
    rw [List.map_congr_left (fun i _ => h1 i), List.map_const', List.length_range]
  rw [h2]
  clear h1 h2
  induction n with
  | zero => rfl
  | succ n ih =>
    rw [List.replicate_succ, List.flatMap_cons, List.map_append, ← ih, Nat.succ_mul, Nat.add_comm, ← List.replicate_append_replicate]
    rfl

theorem fill_next {α : Type} (f z : α) (k m : Nat) : (List.replicate k f ++ List.replicate (m + 1) z).set k f = List.replicate (k + 1) f ++ List.replicate m z := by
  rw [List.set_append_right _ _ (by simp), List.length_replicate, Nat.sub_self, List.replicate_succ (n := m), List.set_cons_zero, List.replicate_succ' (n := k), List.append_assoc]
  rfl

theorem fence_ok : okInsB fence = true := by decide
theorem skip_ok (w : Int) (h : 0 ≤ w) : okInsB (skipIns w) = true := by
  have : isOpB ⟨0, 0⟩ = true := rfl
  simp [okInsB, skipIns, eqIns, this, h]

theorem fences_jump (n : Nat) : jumpsB (List.replicate n fence) = true := by
  refine JumpOk.bad ?_
  intro i x hx hk
  have := List.mem_of_getElem? hx
  rw [List.mem_replicate] at this
  rw [this.2] at hk
  simp [fence] at hk

/-- One skip among fences. -/
theorem skip_jump {n a : Nat} (ha : a < n) (w : Int) : jumpsB ((List.replicate n fence).set a (skipIns w)) = !(decide (w < 1) || decide ((n : Int) - a - 1 < w)) := by
  unfold jumpsB
  congr 1
  rw [Bool.eq_iff_iff, List.any_eq_true]
  have hat : jumpBadAt ((List.replicate n fence).set a (skipIns w)) a = (decide (w < 1) || decide ((n : Int) - a - 1 < w)) := by
    unfold jumpBadAt
    rw [List.getElem?_set_self (by simpa using ha)]
    rw [Bool.eq_iff_iff]
    simp [skipIns]
    exact or_congr decide_eq_true_iff Iff.rfl
  constructor
  · rintro ⟨i, hi, hb⟩
    by_cases h : i = a
    · subst h; rw [hat] at hb; exact hb
    · unfold jumpBadAt at hb
      rw [List.getElem?_set_ne (Ne.symm h)] at hb
      have hi' := List.mem_range.1 hi
      rw [List.length_set, List.length_replicate] at hi'
      rw [List.getElem?_replicate, if_pos hi'] at hb
      simp [fence] at hb
  · intro hb
    refine ⟨a, List.mem_range.2 (by simpa using ha), ?_⟩
    rw [hat]; exact hb

theorem checkW_of {t : Test} (h1 : okB t = true) (h2 : bigB t = false) (h3 : t.rows.any (fun l => l.any (farB t.threads.length)) = false) :
    checkW t = if twiceB t.inits = true then 9 else if t.threads.any (fun l => !jumpsB l) = true then 10 else 0 := by
  unfold checkW
  rw [h1, h2, h3]
  simp

theorem checkW_big {t : Test} (h1 : okB t = true) (h2 : bigB t = true) : checkW t = 8 := by
  unfold checkW
  rw [h1, h2]
  simp

theorem locs_window {t : Test} (k : Nat) (hk : k ≤ 26) (h : ∀ x ∈ allLocs t, isLocB x = true → x < 97 + k) : (wellLocs t).length ≤ k := by
  unfold wellLocs bitLets
  rw [List.length_map, ← List.countP_eq_length_filter]
  refine Nat.le_trans (List.countP_mono_left (q := fun c => decide (c < k)) fun c hc hb => ?_) ?_
  · obtain ⟨x, hx, h1, h2⟩ := (maskT_test t c).1 hb
    have h3 := h x hx h1
    have h4 := (isLocB_iff x).1 h1
    simp only [decide_eq_true_eq]; omega
  · have : ∀ n, (List.range n).countP (fun c => decide (c < k)) = min n k := by
      intro n
      induction n with
      | zero => simp
      | succ n ih =>
        rw [List.range_succ, List.countP_append, ih, List.countP_cons, List.countP_nil]
        by_cases h : n < k
        · simp only [h, decide_true, if_true]; omega
        · simp only [h, decide_false, Bool.false_eq_true, if_false]; omega
    rw [this]
    omega

end Go.Proofs.Ytjfghjakpjfgpaa
