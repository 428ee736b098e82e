/- The test made of numbers is a good one: plain Lean, no program in sight. -/
import Derived.Test.YtgfkgngpganllaaDoorF3
import Derived.Test.YtgfkgngpganllaaDoorD5
namespace Go.Proofs.YtgfkgngpganllaaDoor
open Go Go.Jq

/-- Skips lead to the instruction behind the next one, which is there. -/
def JumpOk (l : List Ins) : Prop := ∀ (i : Nat) (x : Ins), l[i]? = some x → x.kind = 6 → x.n = 1 ∧ i + 1 < l.length

theorem JumpOk.append {l l' : List Ins} (h : JumpOk l) (h' : JumpOk l') : JumpOk (l ++ l') := by
  intro i x hx hk
  rcases Nat.lt_or_ge i l.length with hi | hi
  · rw [List.getElem?_append_left hi] at hx
    have := h i x hx hk
    rw [List.length_append]; omega
  · rw [List.getElem?_append_right hi] at hx
    have := h' _ x hx hk
    rw [List.length_append]; omega

structure GoodThread (l : List Ins) : Prop where
  len : l.length ≤ 6
  ok : ∀ x ∈ l, okInsB x = true
  loc : ∀ x ∈ l, x.loc = 0 ∨ (120 ≤ x.loc ∧ x.loc ≤ 122)
  jump : JumpOk l

theorem smallVal_ok (x : Nat) : isOpB (smallVal x) = true := by
  unfold smallVal
  split
  · have : x / 1024 % 2 < 2 := Nat.mod_lt _ (by omega)
    have h1 : isRegB ((x / 1024 % 2 : Nat) : Int) = true := by
      generalize x / 1024 % 2 = q at this
      simp only [isRegB, Bool.and_eq_true, decide_eq_true_eq]; omega
    simp only [isOpB, h1, Bool.true_and, Bool.or_eq_true]
    exact .inr rfl
  · simp [isOpB]

theorem smallReg_ok (x : Nat) : isRegB (smallReg x : Nat) = true := by
  have : smallReg x < 2 := Nat.mod_lt _ (by omega)
  simp only [isRegB, Bool.and_eq_true, decide_eq_true_eq]
  omega

theorem smallLoc_ok {locs : Nat} (h0 : 0 < locs) (h3 : locs ≤ 3) (x : Nat) : 120 ≤ smallLoc locs x ∧ smallLoc locs x ≤ 122 := by
  have : x / 16 % locs < locs := Nat.mod_lt _ h0
  unfold smallLoc
  omega

theorem smallIns_ok {locs : Nat} (h0 : 0 < locs) (h3 : locs ≤ 3) (x : Nat) : (∀ i ∈ smallIns locs x, okInsB i = true ∧ (i.loc = 0 ∨ (120 ≤ i.loc ∧ i.loc ≤ 122))) ∧ JumpOk (smallIns locs x) := by
  have hv := smallVal_ok x
  have hr := smallReg_ok x
  have hl := smallLoc_ok h0 h3 x
  have hlB : isLocB (smallLoc locs x : Nat) = true := (isLocB_iff _).2 (by omega)
  have hlI : (120 : Int) ≤ (smallLoc locs x : Nat) ∧ ((smallLoc locs x : Nat) : Int) ≤ 122 := by omega
  unfold smallIns
  generalize smallLoc locs x = L at *
  generalize smallReg x = R at *
  generalize smallVal x = V at *
  have hop1 : isOpB ⟨-1, 1⟩ = true := rfl
  have hop0 : isOpB ⟨-1, 0⟩ = true := rfl
  have hop2 : isOpB ⟨-1, 2⟩ = true := rfl
  have one : ∀ y : Ins, y.kind ≠ 6 → JumpOk [y] := by
    intro y hy i x hx hk
    cases i with
    | zero => simp at hx; subst hx; exact absurd hk hy
    | succ i => simp at hx
  split
  · refine ⟨?_, one _ (by simp)⟩
    intro i hi
    simp only [List.mem_singleton] at hi
    subst hi
    exact ⟨by simp [okInsB, eqIns, hlB, hv], .inr hlI⟩
  · split
    · refine ⟨?_, one _ (by simp)⟩
      intro i hi
      simp only [List.mem_singleton] at hi
      subst hi
      exact ⟨by simp [okInsB, eqIns, hlB, hr], .inr hlI⟩
    · split
      · refine ⟨?_, one _ (by simp)⟩
        intro i hi
        simp only [List.mem_singleton] at hi
        subst hi
        exact ⟨by decide, .inl rfl⟩
      · split
        · refine ⟨?_, one _ (by simp)⟩
          intro i hi
          simp only [List.mem_singleton] at hi
          subst hi
          exact ⟨by simp [okInsB, eqIns, hlB, hr, hv, hop1], .inr hlI⟩
        · split
          · refine ⟨?_, one _ (by simp)⟩
            intro i hi
            simp only [List.mem_singleton] at hi
            subst hi
            exact ⟨by simp [okInsB, eqIns, hr, hv, hop1], .inl rfl⟩
          · refine ⟨?_, ?_⟩
            · intro i hi
              simp only [List.mem_cons, List.not_mem_nil, or_false] at hi
              rcases hi with rfl | rfl
              · exact ⟨by simp [okInsB, eqIns, hv, hop0], .inl rfl⟩
              · exact ⟨by simp [okInsB, eqIns, hlB, hop2], .inr hlI⟩
            · intro i x hx hk
              match i with
              | 0 => simp at hx; subst hx; exact ⟨rfl, by simp⟩
              | 1 => simp at hx; subst hx; simp at hk
              | i + 2 => simp at hx

theorem smallThread_ok (ls : List Int) {locs : Nat} (h0 : 0 < locs) (h3 : locs ≤ 3) (most : Nat) : ∀ (k a mem : Nat) (s : List Ins), (∀ i ∈ s, okInsB i = true ∧ (i.loc = 0 ∨ (120 ≤ i.loc ∧ i.loc ≤ 122))) → JumpOk s →
    (∀ i ∈ (smallThread ls locs most k a mem s).2.2, okInsB i = true ∧ (i.loc = 0 ∨ (120 ≤ i.loc ∧ i.loc ≤ 122))) ∧ JumpOk (smallThread ls locs most k a mem s).2.2
  | 0, a, mem, s, h, hj => ⟨h, hj⟩
  | k + 1, a, mem, s, h, hj => by
    simp only [smallThread]
    split
    · have hi := smallIns_ok h0 h3 (nxN ls a)
      refine smallThread_ok ls h0 h3 most k _ _ _ ?_ (hj.append hi.2)
      intro i him
      rcases List.mem_append.1 him with him | him
      · exact h i him
      · exact hi.1 i him
    · exact ⟨h, hj⟩

theorem smallThreads_ok (ls : List Int) {locs : Nat} (h0 : 0 < locs) (h3 : locs ≤ 3) (most : Nat) : ∀ (n a mem : Nat) (ts : List (List Ins)), (∀ l ∈ ts, GoodThread l) → ∀ l ∈ (smallThreads ls locs most n a mem ts).2, GoodThread l
  | 0, a, mem, ts, h => h
  | n + 1, a, mem, ts, h => by
    simp only [smallThreads]
    refine smallThreads_ok ls h0 h3 most n _ _ _ ?_
    intro l hl
    rw [List.mem_append] at hl
    rcases hl with hl | hl
    · exact h l hl
    · simp only [List.mem_singleton] at hl
      subst hl
      have hb := smallThread_bounds ls locs most (nxN ls a % 3 + 1) (a + 1) mem []
      have hk := smallThread_ok ls h0 h3 most (nxN ls a % 3 + 1) (a + 1) mem [] (by simp) (fun i x hx => by simp at hx)
      simp only [List.length_nil] at hb
      exact ⟨by omega, fun x hx => (hk.1 x hx).1, fun x hx => (hk.1 x hx).2, hk.2⟩

theorem small_good (ls : List Int) (most : Nat) : ∀ l ∈ (small ls most).threads, GoodThread l := by
  simp only [small, smallTs]
  exact smallThreads_ok ls (by unfold smallLocs; omega) (by unfold smallLocs; omega) most _ _ _ [] (by simp)

/-- A test of good threads. -/
structure GoodTest (t : Test) : Prop where
  name : isWordB t.name = true
  short : t.name.length ≤ 20
  threads : ∀ l ∈ t.threads, GoodThread l
  inits : ∀ x ∈ t.inits, x.loc = 120
  once : t.inits.length ≤ 1
  cond : okCondB t.kind t.rows = true
  rows : t.rows.length ≤ 8
  row : ∀ l ∈ t.rows, l.length ≤ 8
  rloc : ∀ l ∈ t.rows, ∀ a ∈ l, a.loc = 0 ∨ a.loc = 120

theorem GoodTest.ok {t : Test} (h : GoodTest t) : okB t = true := by
  have h1 : badInitB t.inits = false := by
    unfold badInitB
    rw [List.any_eq_false]
    intro x hx
    rw [h.inits x hx]
    decide
  have h2 : t.threads.any badThreadB = false := by
    rw [List.any_eq_false]
    intro l hl
    unfold badThreadB
    rw [Bool.not_eq_true, List.any_eq_false]
    intro x hx
    rw [(h.threads l hl).ok x hx]
    decide
  simp [okB, h.name, h1, h2, h.cond]

theorem small_goodTest (ls : List Int) (most : Nat) : GoodTest (small ls most) := by
  refine ⟨by show isWordB [116] = true; decide +kernel, by simp [small], small_good ls most, ?_, ?_, ?_, ?_, ?_, ?_⟩
  · intro x hx
    simp only [small, smallInits] at hx
    split at hx
    · simp only [List.mem_singleton] at hx; subst hx; rfl
    · simp at hx
  · simp only [small, smallInits]; split <;> simp
  · simp only [small]
    generalize smallC ls most = x
    unfold okCondB smallKind smallRows
    by_cases hz : x % 3 = 0
    · have h2 : x / 3 % 2 < 2 := Nat.mod_lt _ (by omega)
      have h8 : x / 8 % 2 < 2 := Nat.mod_lt _ (by omega)
      have hk : ((x / 3 % 2 + 1 : Nat) : Int) = 1 ∨ ((x / 3 % 2 + 1 : Nat) : Int) = 2 := by omega
      have hr8 : isRegB ((x / 8 % 2 : Nat) : Int) = true := by simp only [isRegB, Bool.and_eq_true, decide_eq_true_eq]; omega
      have hr0 : isRegB 0 = true := rfl
      have hl : isLocB 120 = true := rfl
      simp only [hz, if_true]
      generalize ((x / 3 % 2 + 1 : Nat) : Int) = kd at hk
      generalize ((x / 8 % 2 : Nat) : Int) = r8 at hr8
      rcases hk with rfl | rfl
      · simp [badRowB, okAtomB, hr8, hr0, hl]
      · simp [badRowB, okAtomB, hr8, hr0, hl]
    · simp [hz]
  · simp only [small, smallRows]; split <;> simp
  · intro l hl
    simp only [small, smallRows] at hl
    split at hl
    · simp only [List.mem_cons, List.not_mem_nil, or_false] at hl
      rcases hl with rfl | rfl <;> simp
    · simp at hl
  · intro l hl a ha
    simp only [small, smallRows] at hl
    split at hl
    · simp only [List.mem_cons, List.not_mem_nil, or_false] at hl
      rcases hl with rfl | rfl
      · simp only [List.mem_singleton] at ha; subst ha; exact .inl rfl
      · simp only [List.mem_cons, List.not_mem_nil, or_false] at ha
        rcases ha with rfl | rfl
        · exact .inr rfl
        · exact .inl rfl
    · simp at hl

end Go.Proofs.YtgfkgngpganllaaDoor
