/- The test made of numbers is small enough: plain Lean, no program in sight. -/
import Derived.Test.YtjfghjakpjfgpaaF8
import Derived.Test.YtjfghjakpjfgpaaE5
namespace Go.Proofs.Ytjfghjakpjfgpaa
open Go Go.Jq

/-! ### A test's locations -/

def allLocs (t : Test) : List Int := t.inits.map (·.loc) ++ ((t.threads.flatten).map (·.loc) ++ (t.rows.flatten).map (·.loc))

theorem foldl_flat {α β : Type} (f : β → α → β) : ∀ (ls : List (List α)) (b : β), ls.foldl (fun b l => l.foldl f b) b = ls.flatten.foldl f b
  | [], _ => rfl
  | l :: ls, b => by rw [List.foldl_cons, foldl_flat f ls, List.flatten_cons, List.foldl_append]

theorem foldl_map' {α β γ : Type} (f : β → γ → β) (g : α → γ) : ∀ (l : List α) (b : β), l.foldl (fun b x => f b (g x)) b = (l.map g).foldl f b
  | [], _ => rfl
  | a :: l, b => by rw [List.foldl_cons, foldl_map' f g l, List.map_cons, List.foldl_cons]

theorem maskT_eq (t : Test) : maskT t = (allLocs t).foldl addLoc 0 := by
  unfold maskT allLocs
  rw [foldl_flat (fun s (x : Atom) => addLoc s x.loc), foldl_flat (fun s (x : Ins) => addLoc s x.loc), foldl_map' addLoc Atom.loc, foldl_map' addLoc Ins.loc, foldl_map' addLoc Init.loc, List.foldl_append, List.foldl_append]

theorem addLocs_test (i : Nat) : ∀ (l : List Int) (s : Nat), (l.foldl addLoc s).testBit i = (s.testBit i || l.any fun x => isLocB x && decide ((x - 97).toNat = i))
  | [], s => by simp
  | a :: l, s => by
    rw [List.foldl_cons, addLocs_test i l, List.any_cons, ← Bool.or_assoc]
    congr 1
    unfold addLoc
    split
    · rename_i h; rw [addBit_test, h, Bool.true_and]
    · rename_i h
      have : isLocB a = false := by simpa using h
      simp [this]

theorem maskT_test (t : Test) (i : Nat) : (maskT t).testBit i = true ↔ ∃ x ∈ allLocs t, isLocB x = true ∧ (x - 97).toNat = i := by
  rw [maskT_eq, addLocs_test]
  simp

theorem refThere_eq (t : Test) : refThere t = (allLocs t).foldl mark noMarks := by
  unfold refThere allLocs
  rw [foldl_flat (fun s (x : Atom) => mark s x.loc), foldl_flat (fun s (x : Ins) => mark s x.loc), foldl_map' mark Atom.loc, foldl_map' mark Ins.loc, foldl_map' mark Init.loc, List.foldl_append, List.foldl_append]

theorem marks_get (c : Nat) (hc : c < 256) : ∀ (l : List Int) (th : List Bool), th.length = 256 → (l.foldl mark th).getD c false = (th.getD c false || l.any fun x => decide (low8 x = c))
  | [], th, _ => by simp
  | a :: l, th, h => by
    rw [List.foldl_cons, marks_get c hc l _ (by simp [mark, h]), List.any_cons, ← Bool.or_assoc]
    congr 1
    unfold mark
    rw [List.getD_eq_getElem?_getD, List.getElem?_set, List.getD_eq_getElem?_getD]
    by_cases h1 : low8 a = c
    · rw [if_pos h1, if_pos (by omega)]
      simp [h1]
    · rw [if_neg h1]
      simp [h1]

theorem there_test (t : Test) (c : Nat) (hc : c < 256) : (refThere t).getD c false = true ↔ ∃ x ∈ allLocs t, low8 x = c := by
  rw [refThere_eq, marks_get c hc _ _ noMarks_len]
  have : noMarks.getD c false = false := by
    unfold noMarks
    rw [List.getD_eq_getElem?_getD, List.getElem?_replicate]
    split <;> rfl
  rw [this, Bool.false_or]
  simp

theorem low8_letter {x : Int} (h : isLocB x = true ∨ x = 0) : (low8 x : Int) = x := by
  have hx : 0 ≤ x ∧ x ≤ 122 := by
    rcases h with h | h
    · have := (isLocB_iff x).1 h; omega
    · omega
  obtain ⟨n, rfl⟩ := Int.eq_ofNat_of_zero_le hx.1
  have e : bits .and .i64 (n : Int) 255 = ((n % 256 : Nat) : Int) := by
    have e : bits .and .i64 (n : Int) 255 = IntKind.i64.wrap (((BitVec.ofInt 64 (n : Int)) &&& (BitVec.ofInt 64 255)).toNat : Nat) := rfl
    have h1 : (BitVec.ofInt 64 255).toNat = 2 ^ 8 - 1 := rfl
    rw [e, BitVec.toNat_and, h1, toNat_ofInt64 (by omega), Nat.and_two_pow_sub_one_eq_mod, wrap_i64 (by omega) (by omega)]
  unfold low8
  rw [e]
  omega

/-- Where all locations are letters (or none), both ways of listing them are alike. -/
theorem locs_same {t : Test} (h : ∀ x ∈ allLocs t, isLocB x = true ∨ x = 0) : wellLocs t = refLocs t := by
  unfold wellLocs refLocs bitLets lets
  congr 1
  refine List.filter_congr fun c hc => ?_
  have hc26 := List.mem_range.1 hc
  rw [Bool.eq_iff_iff, maskT_test, there_test t _ (by omega)]
  constructor
  · rintro ⟨x, hx, h1, h2⟩
    have := low8_letter (.inl h1)
    have h3 := (isLocB_iff x).1 h1
    exact ⟨x, hx, by omega⟩
  · rintro ⟨x, hx, h1⟩
    have h2 := low8_letter (h x hx)
    have h3 : isLocB x = true := (isLocB_iff x).2 (by omega)
    exact ⟨x, hx, h3, by omega⟩

theorem wellLocs_few {t : Test} (h : ∀ x ∈ allLocs t, isLocB x = true → 119 ≤ x) : (wellLocs t).length ≤ 4 := by
  unfold wellLocs bitLets
  rw [List.length_map, ← List.countP_eq_length_filter]
  refine Nat.le_trans (List.countP_mono_left (q := fun c => decide (22 ≤ c)) fun c hc hb => ?_) (by decide)
  obtain ⟨x, hx, h1, h2⟩ := (maskT_test t c).1 hb
  have := h x hx h1
  simp only [decide_eq_true_eq]; omega

/-! ### Instructions made of numbers -/

/-- Skips lead to the instruction behind the next one, which is there. -/
def JumpOk (l : List Ins) : Prop := ∀ (i : Nat) (x : Ins), l[i]? = some x → x.kind = 6 → x.n = 1 ∧ i + 1 < l.length

theorem JumpOk.append {l l' : List Ins} (h : JumpOk l) (h' : JumpOk l') : JumpOk (l ++ l') := by
  intro i x hx hk
  rcases Nat.lt_or_ge i l.length with hi | hi
  · rw [List.getElem?_append_left hi] at hx
    have := h i x hx hk
    rw [List.length_append]; omega
  · rw [List.getElem?_append_right hi] at hx
    have := h' _ x hx hk
    rw [List.length_append]; omega

theorem JumpOk.bad {l : List Ins} (h : JumpOk l) : jumpsB l = true := by
  have : (List.range l.length).any (jumpBadAt l) = false := by
    rw [List.any_eq_false]
    intro i hi
    have hi' := List.mem_range.1 hi
    unfold jumpBadAt
    rw [List.getElem?_eq_getElem hi']
    simp only [Bool.and_eq_true, Bool.or_eq_true, decide_eq_true_eq, not_and, not_or]
    intro hk
    have := h i _ (List.getElem?_eq_getElem hi') hk
    omega
  simp [jumpsB, this]

structure GoodThread (l : List Ins) : Prop where
  len : l.length ≤ 6
  ok : ∀ x ∈ l, okInsB x = true
  loc : ∀ x ∈ l, x.loc = 0 ∨ (120 ≤ x.loc ∧ x.loc ≤ 122)
  jump : JumpOk l

theorem smallVal_ok (x : Nat) : isOpB (smallVal x) = true := by
  unfold smallVal
  split
  · have : x / 1024 % 2 < 2 := Nat.mod_lt _ (by omega)
    have h1 : isRegB ((x / 1024 % 2 : Nat) : Int) = true := by
      generalize x / 1024 % 2 = q at this
      simp only [isRegB, Bool.and_eq_true, decide_eq_true_eq]; omega
    simp only [isOpB, h1, Bool.true_and, Bool.or_eq_true]
    exact .inr rfl
  · simp [isOpB]

theorem smallReg_ok (x : Nat) : isRegB (smallReg x : Nat) = true := by
  have : smallReg x < 2 := Nat.mod_lt _ (by omega)
  simp only [isRegB, Bool.and_eq_true, decide_eq_true_eq]
  omega

theorem smallLoc_ok {locs : Nat} (h0 : 0 < locs) (h3 : locs ≤ 3) (x : Nat) : 120 ≤ smallLoc locs x ∧ smallLoc locs x ≤ 122 := by
  have : x / 16 % locs < locs := Nat.mod_lt _ h0
  unfold smallLoc
  omega

theorem smallIns_ok {locs : Nat} (h0 : 0 < locs) (h3 : locs ≤ 3) (x : Nat) : (∀ i ∈ smallIns locs x, okInsB i = true ∧ (i.loc = 0 ∨ (120 ≤ i.loc ∧ i.loc ≤ 122))) ∧ JumpOk (smallIns locs x) := by
  have hv := smallVal_ok x
  have hr := smallReg_ok x
  have hl := smallLoc_ok h0 h3 x
  have hlB : isLocB (smallLoc locs x : Nat) = true := (isLocB_iff _).2 (by omega)
  have hlI : (120 : Int) ≤ (smallLoc locs x : Nat) ∧ ((smallLoc locs x : Nat) : Int) ≤ 122 := by omega
  unfold smallIns
  generalize smallLoc locs x = L at *
  generalize smallReg x = R at *
  generalize smallVal x = V at *
  have hop1 : isOpB ⟨-1, 1⟩ = true := rfl
  have hop0 : isOpB ⟨-1, 0⟩ = true := rfl
  have hop2 : isOpB ⟨-1, 2⟩ = true := rfl
  have one : ∀ y : Ins, y.kind ≠ 6 → JumpOk [y] := by
    intro y hy i x hx hk
    cases i with
    | zero => simp at hx; subst hx; exact absurd hk hy
    | succ i => simp at hx
  split
  · refine ⟨?_, one _ (by simp)⟩
    intro i hi
    simp only [List.mem_singleton] at hi
    subst hi
    exact ⟨by simp [okInsB, eqIns, hlB, hv], .inr hlI⟩
  · split
    · refine ⟨?_, one _ (by simp)⟩
      intro i hi
      simp only [List.mem_singleton] at hi
      subst hi
      exact ⟨by simp [okInsB, eqIns, hlB, hr], .inr hlI⟩
    · split
      · refine ⟨?_, one _ (by simp)⟩
        intro i hi
        simp only [List.mem_singleton] at hi
        subst hi
        exact ⟨by decide, .inl rfl⟩
      · split
        · refine ⟨?_, one _ (by simp)⟩
          intro i hi
          simp only [List.mem_singleton] at hi
          subst hi
          exact ⟨by simp [okInsB, eqIns, hlB, hr, hv, hop1], .inr hlI⟩
        · split
          · refine ⟨?_, one _ (by simp)⟩
            intro i hi
            simp only [List.mem_singleton] at hi
            subst hi
            exact ⟨by simp [okInsB, eqIns, hr, hv, hop1], .inl rfl⟩
          · refine ⟨?_, ?_⟩
            · intro i hi
              simp only [List.mem_cons, List.not_mem_nil, or_false] at hi
              rcases hi with rfl | rfl
              · exact ⟨by simp [okInsB, eqIns, hv, hop0], .inl rfl⟩
              · exact ⟨by simp [okInsB, eqIns, hlB, hop2], .inr hlI⟩
            · intro i x hx hk
              match i with
              | 0 => simp at hx; subst hx; exact ⟨rfl, by simp⟩
              | 1 => simp at hx; subst hx; simp at hk
              | i + 2 => simp at hx

theorem smallThread_ok (ls : List Int) {locs : Nat} (h0 : 0 < locs) (h3 : locs ≤ 3) (most : Nat) : ∀ (k a mem : Nat) (s : List Ins), (∀ i ∈ s, okInsB i = true ∧ (i.loc = 0 ∨ (120 ≤ i.loc ∧ i.loc ≤ 122))) → JumpOk s →
    (∀ i ∈ (smallThread ls locs most k a mem s).2.2, okInsB i = true ∧ (i.loc = 0 ∨ (120 ≤ i.loc ∧ i.loc ≤ 122))) ∧ JumpOk (smallThread ls locs most k a mem s).2.2
  | 0, a, mem, s, h, hj => ⟨h, hj⟩
  | k + 1, a, mem, s, h, hj => by
    simp only [smallThread]
    split
    · have hi := smallIns_ok h0 h3 (nxN ls a)
      refine smallThread_ok ls h0 h3 most k _ _ _ ?_ (hj.append hi.2)
      intro i him
      rcases List.mem_append.1 him with him | him
      · exact h i him
      · exact hi.1 i him
    · exact ⟨h, hj⟩

theorem smallThreads_ok (ls : List Int) {locs : Nat} (h0 : 0 < locs) (h3 : locs ≤ 3) (most : Nat) : ∀ (n a mem : Nat) (ts : List (List Ins)), (∀ l ∈ ts, GoodThread l) → ∀ l ∈ (smallThreads ls locs most n a mem ts).2, GoodThread l
  | 0, a, mem, ts, h => h
  | n + 1, a, mem, ts, h => by
    simp only [smallThreads]
    refine smallThreads_ok ls h0 h3 most n _ _ _ ?_
    intro l hl
    rw [List.mem_append] at hl
    rcases hl with hl | hl
    · exact h l hl
    · simp only [List.mem_singleton] at hl
      subst hl
      have hb := smallThread_bounds ls locs most (nxN ls a % 3 + 1) (a + 1) mem []
      have hk := smallThread_ok ls h0 h3 most (nxN ls a % 3 + 1) (a + 1) mem [] (by simp) (fun i x hx => by simp at hx)
      simp only [List.length_nil] at hb
      exact ⟨by omega, fun x hx => (hk.1 x hx).1, fun x hx => (hk.1 x hx).2, hk.2⟩

theorem small_good (ls : List Int) (most : Nat) : ∀ l ∈ (small ls most).threads, GoodThread l := by
  simp only [small, smallTs]
  exact smallThreads_ok ls (by unfold smallLocs; omega) (by unfold smallLocs; omega) most _ _ _ [] (by simp)

/-! ### Small enough -/

theorem sumLen_le : ∀ (T : List (List Ins)), (∀ l ∈ T, l.length ≤ 6) → sumLen T ≤ 6 * T.length := by
  have : ∀ (T : List (List Ins)) (s : Nat), (∀ l ∈ T, l.length ≤ 6) → T.foldl (fun s x => s + x.length) s ≤ s + 6 * T.length := by
    intro T
    induction T with
    | nil => intro s _; simp
    | cons a T ih =>
      intro s h
      rw [List.foldl_cons, List.length_cons]
      have h1 := h a List.mem_cons_self
      have h2 := ih (s + a.length) fun l hl => h l (List.mem_cons_of_mem _ hl)
      omega
  intro T h
  have := this T 0 h
  unfold sumLen
  omega

/-- A test of good threads. -/
structure GoodTest (t : Test) : Prop where
  name : isWordB t.name = true
  short : t.name.length ≤ 20
  threads : ∀ l ∈ t.threads, GoodThread l
  inits : ∀ x ∈ t.inits, x.loc = 120
  once : t.inits.length ≤ 1
  cond : okCondB t.kind t.rows = true
  rows : t.rows.length ≤ 8
  row : ∀ l ∈ t.rows, l.length ≤ 8
  rloc : ∀ l ∈ t.rows, ∀ a ∈ l, a.loc = 0 ∨ a.loc = 120

theorem GoodTest.ok {t : Test} (h : GoodTest t) : okB t = true := by
  have h1 : badInitB t.inits = false := by
    unfold badInitB
    rw [List.any_eq_false]
    intro x hx
    rw [h.inits x hx]
    decide
  have h2 : t.threads.any badThreadB = false := by
    rw [List.any_eq_false]
    intro l hl
    unfold badThreadB
    rw [Bool.not_eq_true, List.any_eq_false]
    intro x hx
    rw [(h.threads l hl).ok x hx]
    decide
  simp [okB, h.name, h1, h2, h.cond]

theorem GoodTest.locs {t : Test} (h : GoodTest t) : ∀ x ∈ allLocs t, x = 0 ∨ (120 ≤ x ∧ x ≤ 122) := by
  intro x hx
  simp only [allLocs, List.mem_append, List.mem_map, List.mem_flatten] at hx
  rcases hx with ⟨i, hi, rfl⟩ | ⟨i, ⟨l, hl, hi⟩, rfl⟩ | ⟨a, ⟨l, hl, ha⟩, rfl⟩
  · rw [h.inits i hi]; decide
  · exact (h.threads l hl).loc i hi
  · rcases h.rloc l hl a ha with h | h
    · exact .inl h
    · rw [h]; decide

theorem GoodTest.few {t : Test} (h : GoodTest t) : (wellLocs t).length ≤ 4 :=
  wellLocs_few fun x hx hb => by
    have := h.locs x hx
    have := (isLocB_iff x).1 hb
    omega

theorem GoodTest.big {t : Test} (h : GoodTest t) (h4 : t.threads.length ≤ 4) : bigB t = decide (t.threads.length = 0) := by
  have e1 : t.threads.any (fun l => decide (10 < l.length)) = false := by
    rw [List.any_eq_false]
    intro l hl
    have := (h.threads l hl).len
    simp only [decide_eq_true_eq]; omega
  have e2 := sumLen_le t.threads fun l hl => (h.threads l hl).len
  have e3 := h.few
  have e4 : t.rows.any longB = false := by
    rw [List.any_eq_false]
    intro l hl
    have := h.row l hl
    simp only [longB, decide_eq_true_eq]; omega
  have e5 := h.rows
  have e6 := h.short
  have f1 : ¬ 4 < t.threads.length := by omega
  have f2 : ¬ 24 < sumLen t.threads := by omega
  have f3 : ¬ 4 < (wellLocs t).length := by omega
  have f4 : ¬ 8 < t.rows.length := by omega
  have f5 : ¬ 20 < t.name.length := by omega
  simp [bigB, e1, e4, f1, f2, f3, f4, f5]

theorem GoodTest.twice {t : Test} (h : GoodTest t) : twiceB t.inits = false := by
  have h1 := h.once
  unfold twiceB
  match t.inits, h1 with
  | [], _ => rfl
  | [a], _ => simp

theorem GoodTest.jumps {t : Test} (h : GoodTest t) : t.threads.any (fun l => !jumpsB l) = false := by
  rw [List.any_eq_false]
  intro l hl
  rw [(h.threads l hl).jump.bad]
  decide

theorem GoodTest.check {t : Test} (h : GoodTest t) (h4 : t.threads.length ≤ 4) :
    checkW t = if t.threads.length = 0 then 8 else if t.rows.any (fun l => l.any (farB t.threads.length)) = true then 10 else 0 := by
  unfold checkW
  rw [h.ok, h.big h4, h.twice, h.jumps]
  by_cases h0 : t.threads.length = 0
  · simp [h0]
  · simp [h0]

theorem small_goodTest (ls : List Int) (most : Nat) : GoodTest (small ls most) := by
  refine ⟨by show isWordB [116] = true; decide +kernel, by simp [small], small_good ls most, ?_, ?_, ?_, ?_, ?_, ?_⟩
  · intro x hx
    simp only [small, smallInits] at hx
    split at hx
    · simp only [List.mem_singleton] at hx; subst hx; rfl
    · simp at hx
  · simp only [small, smallInits]; split <;> simp
  · simp only [small]
    generalize smallC ls most = x
    unfold okCondB smallKind smallRows
    by_cases hz : x % 3 = 0
    · have h2 : x / 3 % 2 < 2 := Nat.mod_lt _ (by omega)
      have h8 : x / 8 % 2 < 2 := Nat.mod_lt _ (by omega)
      have hk : ((x / 3 % 2 + 1 : Nat) : Int) = 1 ∨ ((x / 3 % 2 + 1 : Nat) : Int) = 2 := by omega
      have hr8 : isRegB ((x / 8 % 2 : Nat) : Int) = true := by simp only [isRegB, Bool.and_eq_true, decide_eq_true_eq]; omega
      have hr0 : isRegB 0 = true := rfl
      have hl : isLocB 120 = true := rfl
      simp only [hz, if_true]
      generalize ((x / 3 % 2 + 1 : Nat) : Int) = kd at hk
      generalize ((x / 8 % 2 : Nat) : Int) = r8 at hr8
      rcases hk with rfl | rfl
      · simp [badRowB, okAtomB, hr8, hr0, hl]
      · simp [badRowB, okAtomB, hr8, hr0, hl]
    · simp [hz]
  · simp only [small, smallRows]; split <;> simp
  · intro l hl
    simp only [small, smallRows] at hl
    split at hl
    · simp only [List.mem_cons, List.not_mem_nil, or_false] at hl
      rcases hl with rfl | rfl <;> simp
    · simp at hl
  · intro l hl a ha
    simp only [small, smallRows] at hl
    split at hl
    · simp only [List.mem_cons, List.not_mem_nil, or_false] at hl
      rcases hl with rfl | rfl
      · simp only [List.mem_singleton] at ha; subst ha; exact .inl rfl
      · simp only [List.mem_cons, List.not_mem_nil, or_false] at ha
        rcases ha with rfl | rfl
        · exact .inr rfl
        · exact .inl rfl
    · simp at hl

end Go.Proofs.Ytjfghjakpjfgpaa
