/- The tests that WellBounds makes: plain Lean. -/
import Derived.Test.YtjfghjakpjfgpaaG3
namespace Go.Proofs.Ytjfghjakpjfgpaa
open Go Go.Jq

def wbLen (th ins last i : Nat) : Nat := if i + 1 = th then last else ins
def wbThreads (th ins last k : Nat) : List (List Ins) := (List.range k).map fun i => List.replicate (wbLen th ins last i) fence
def wbInits (k : Nat) : List Init := (List.range k).map fun i : Nat => ⟨97 + (i : Int), 0⟩
def wbRows (rows atoms : Nat) : List (List Atom) := List.replicate rows (List.replicate atoms zeroAtom)

/-- The test, with a condition or without. -/
def wbTest (th ins last locs rows atoms : Nat) : Test :=
  if 0 < rows ∧ 0 < atoms then ⟨[110], wbInits locs, wbThreads th ins last th, 2, wbRows rows atoms⟩ else ⟨[110], wbInits locs, wbThreads th ins last th, 0, []⟩

def wbGood (th ins last locs rows atoms : Nat) : Bool :=
  decide (1 ≤ th) && decide (th ≤ 4) && (decide (th = 1) || decide (ins ≤ 10)) && decide (last ≤ 10) && decide (sumLen (wbThreads th ins last th) ≤ 24) && decide (locs ≤ 4) && (!decide (0 < rows ∧ 0 < atoms) || (decide (rows ≤ 8) && decide (atoms ≤ 8)))

theorem wbThreads_next (th ins last k : Nat) : wbThreads th ins last (k + 1) = wbThreads th ins last k ++ [List.replicate (wbLen th ins last k) fence] := by
  unfold wbThreads
  rw [List.range_succ, List.map_append]; rfl

theorem sumLen_append (T : List (List Ins)) (l : List Ins) : sumLen (T ++ [l]) = sumLen T + l.length := by
  unfold sumLen
  rw [List.foldl_append]; rfl

theorem wbInits_next (k : Nat) : wbInits (k + 1) = wbInits k ++ [⟨97 + (k : Int), 0⟩] := by
  unfold wbInits
  rw [List.range_succ, List.map_append]; rfl

theorem mem_wbThreads {th ins last k : Nat} {l : List Ins} (h : l ∈ wbThreads th ins last k) : ∃ i, i < k ∧ l = List.replicate (wbLen th ins last i) fence := by
  unfold wbThreads at h
  rw [List.mem_map] at h
  obtain ⟨i, hi, rfl⟩ := h
  exact ⟨i, List.mem_range.1 hi, rfl⟩

theorem wb_locs (t : Test) (k : Nat) (hk : k ≤ 7) (h : ∀ x, x ∈ allLocs t ↔ (∃ i, i < k ∧ x = 97 + (i : Int)) ∨ (x = 0 ∧ (0 : Int) ∈ allLocs t)) : (wellLocs t).length = k := by
  unfold wellLocs bitLets
  rw [List.length_map, ← List.countP_eq_length_filter]
  have e : (List.range 26).countP (fun c => (maskT t).testBit c) = (List.range 26).countP (fun c => decide (c < k)) := by
    refine List.countP_congr fun c hc => ?_
    rw [maskT_test]
    constructor
    · rintro ⟨x, hx, h1, h2⟩
      rcases (h x).1 hx with ⟨i, hi, rfl⟩ | ⟨rfl, _⟩
      · simp only [decide_eq_true_eq]; omega
      · exact absurd h1 (by decide)
    · intro hc2
      simp only [decide_eq_true_eq] at hc2
      exact ⟨97 + (c : Int), (h _).2 (.inl ⟨c, hc2, rfl⟩), (isLocB_iff _).2 (by omega), by omega⟩
  rw [e]
  have : ∀ n, (List.range n).countP (fun c => decide (c < k)) = min n k := by
    intro n
    induction n with
    | zero => simp
    | succ n ih =>
      rw [List.range_succ, List.countP_append, ih, List.countP_cons, List.countP_nil]
      by_cases h : n < k
      · simp only [h, decide_true, if_true]; omega
      · simp only [h, decide_false, Bool.false_eq_true, if_false]; omega
  rw [this]
  omega

theorem wb_allLocs {th ins last locs : Nat} {kind : Int} {R : List (List Atom)} (hR : ∀ l ∈ R, ∀ a ∈ l, a = zeroAtom) (x : Int) :
    x ∈ allLocs ⟨[110], wbInits locs, wbThreads th ins last th, kind, R⟩ ↔ (∃ i, i < locs ∧ x = 97 + (i : Int)) ∨ (x = 0 ∧ (0 : Int) ∈ allLocs ⟨[110], wbInits locs, wbThreads th ins last th, kind, R⟩) := by
  have key : ∀ y, y ∈ allLocs ⟨[110], wbInits locs, wbThreads th ins last th, kind, R⟩ → (∃ i, i < locs ∧ y = 97 + (i : Int)) ∨ y = 0 := by
    intro y hy
    simp only [allLocs, List.mem_append, List.mem_map, List.mem_flatten, wbInits, List.mem_range] at hy
    rcases hy with ⟨i, ⟨j, hj, rfl⟩, rfl⟩ | ⟨i, ⟨l, hl, hi⟩, rfl⟩ | ⟨a, ⟨l, hl, ha⟩, rfl⟩
    · exact .inl ⟨j, hj, rfl⟩
    · obtain ⟨j, hj, rfl⟩ := mem_wbThreads hl
      rw [List.mem_replicate] at hi
      rw [hi.2]; exact .inr rfl
    · rw [hR l hl a ha]; exact .inr rfl
  constructor
  · intro hx
    rcases key x hx with h | h
    · exact .inl h
    · subst h; exact .inr ⟨rfl, hx⟩
  · rintro (⟨i, hi, rfl⟩ | ⟨rfl, h⟩)
    · simp only [allLocs, List.mem_append, List.mem_map, wbInits, List.mem_range]
      exact .inl ⟨_, ⟨i, hi, rfl⟩, rfl⟩
    · exact h

theorem wb_ok {th ins last locs : Nat} (hl : locs ≤ 7) {kind : Int} {R : List (List Atom)} (hc : okCondB kind R = true) : okB ⟨[110], wbInits locs, wbThreads th ins last th, kind, R⟩ = true := by
  have hwd : isWordB [110] = true := by decide +kernel
  have hi : badInitB (wbInits locs) = false := by
    unfold badInitB
    rw [List.any_eq_false]
    intro x hx
    simp only [wbInits, List.mem_map, List.mem_range] at hx
    obtain ⟨i, hi, rfl⟩ := hx
    have : isLocB (97 + (i : Int)) = true := (isLocB_iff _).2 (by omega)
    rw [this]; decide
  have ht : (wbThreads th ins last th).any badThreadB = false := by
    rw [List.any_eq_false]
    intro l hl
    obtain ⟨j, hj, rfl⟩ := mem_wbThreads hl
    unfold badThreadB
    rw [Bool.not_eq_true, List.any_eq_false]
    intro x hx
    rw [List.mem_replicate] at hx
    rw [hx.2, fence_ok]; decide
  simp [okB, hwd, hi, ht, hc]

theorem wb_any {th ins last : Nat} : (wbThreads th ins last th).any (fun l => decide (10 < l.length)) = (decide (1 ≤ th) && (decide (10 < last) || (!decide (th = 1) && decide (10 < ins)))) := by
  rw [Bool.eq_iff_iff, List.any_eq_true]
  simp only [Bool.and_eq_true, Bool.or_eq_true, decide_eq_true_eq, Bool.not_eq_true', decide_eq_false_iff_not]
  constructor
  · rintro ⟨l, hl, hlen⟩
    obtain ⟨i, hi, rfl⟩ := mem_wbThreads hl
    rw [List.length_replicate] at hlen
    unfold wbLen at hlen
    split at hlen
    · exact ⟨by omega, .inl hlen⟩
    · exact ⟨by omega, .inr ⟨by omega, hlen⟩⟩
  · rintro ⟨h1, h2 | ⟨h2, h3⟩⟩
    · refine ⟨List.replicate (wbLen th ins last (th - 1)) fence, ?_, ?_⟩
      · exact List.mem_map.2 ⟨th - 1, List.mem_range.2 (by omega), rfl⟩
      · rw [List.length_replicate]; unfold wbLen; rw [if_pos (by omega)]; exact h2
    · refine ⟨List.replicate (wbLen th ins last 0) fence, ?_, ?_⟩
      · exact List.mem_map.2 ⟨0, List.mem_range.2 (by omega), rfl⟩
      · rw [List.length_replicate]; unfold wbLen; rw [if_neg (by omega)]; exact h3

theorem wb_twice (k : Nat) : twiceB (wbInits k) = false := by
  have h : ((wbInits k).map (·.loc)).Nodup := by
    have e : (wbInits k).map (·.loc) = (List.range k).map fun i : Nat => 97 + (i : Int) := by simp [wbInits]
    rw [e]
    induction k with
    | zero => simp
    | succ k ih =>
      rw [List.range_succ, List.map_append, List.nodup_append]
      refine ⟨ih (by simp [wbInits]), by simp, fun a ha b hb => ?_⟩
      simp only [List.mem_map, List.mem_range] at ha
      simp only [List.map_cons, List.map_nil, List.mem_singleton] at hb
      obtain ⟨i, hi, rfl⟩ := ha
      subst hb
      omega
  simp [twiceB, h]

theorem wb_jumps {th ins last : Nat} : (wbThreads th ins last th).any (fun l => !jumpsB l) = false := by
  rw [List.any_eq_false]
  intro l hl
  obtain ⟨j, hj, rfl⟩ := mem_wbThreads hl
  rw [fences_jump]; decide

theorem wb_len {th ins last k : Nat} : (wbThreads th ins last k).length = k := by simp [wbThreads]

theorem wb_check {th ins last locs rows atoms : Nat} (hl : locs ≤ 7) : checkW (wbTest th ins last locs rows atoms) = if wbGood th ins last locs rows atoms = true then 0 else 8 := by
  have main : ∀ (kind : Int) (R : List (List Atom)) (good2 : Bool), okCondB kind R = true → (∀ l ∈ R, ∀ a ∈ l, a = zeroAtom) → (decide (8 < R.length) || (R.any longB || false)) = !good2 →
      checkW ⟨[110], wbInits locs, wbThreads th ins last th, kind, R⟩ = if (decide (1 ≤ th) && decide (th ≤ 4) && (decide (th = 1) || decide (ins ≤ 10)) && decide (last ≤ 10) && decide (sumLen (wbThreads th ins last th) ≤ 24) && decide (locs ≤ 4) && good2) = true then 0 else 8 := by
    intro kind R good2 hc hR hg
    have hok := wb_ok (th := th) (ins := ins) (last := last) hl hc
    have hwl : (wellLocs ⟨[110], wbInits locs, wbThreads th ins last th, kind, R⟩).length = locs := wb_locs _ locs hl fun x => wb_allLocs hR x
    have hbig : bigB ⟨[110], wbInits locs, wbThreads th ins last th, kind, R⟩ = !(decide (1 ≤ th) && decide (th ≤ 4) && (decide (th = 1) || decide (ins ≤ 10)) && decide (last ≤ 10) && decide (sumLen (wbThreads th ins last th) ≤ 24) && decide (locs ≤ 4) && good2) := by
      unfold bigB
      simp only
      rw [wb_any, wb_len, hwl]
      have h20 : decide (20 < ([110] : List UInt8).length) = false := rfl
      rw [h20, hg]
      generalize sumLen (wbThreads th ins last th) = s
      have e1 : decide (th = 0) = !decide (1 ≤ th) := by rw [Bool.eq_iff_iff]; simp
      have e2 : decide (4 < th) = !decide (th ≤ 4) := by rw [Bool.eq_iff_iff]; simp
      have e3 : decide (24 < s) = !decide (s ≤ 24) := by rw [Bool.eq_iff_iff]; simp
      have e4 : decide (4 < locs) = !decide (locs ≤ 4) := by rw [Bool.eq_iff_iff]; simp
      have e5 : decide (10 < last) = !decide (last ≤ 10) := by rw [Bool.eq_iff_iff]; simp
      have e6 : decide (10 < ins) = !decide (ins ≤ 10) := by rw [Bool.eq_iff_iff]; simp
      rw [e1, e2, e3, e4, e5, e6]
      cases decide (1 ≤ th) <;> cases decide (th ≤ 4) <;> cases decide (th = 1) <;> cases decide (ins ≤ 10) <;> cases decide (last ≤ 10) <;> cases decide (s ≤ 24) <;> cases decide (locs ≤ 4) <;> cases good2 <;> rfl
    by_cases hb : (decide (1 ≤ th) && decide (th ≤ 4) && (decide (th = 1) || decide (ins ≤ 10)) && decide (last ≤ 10) && decide (sumLen (wbThreads th ins last th) ≤ 24) && decide (locs ≤ 4) && good2) = true
    · rw [if_pos hb]
      rw [hb] at hbig
      have hth : 1 ≤ th := by
        simp only [Bool.and_eq_true, decide_eq_true_eq] at hb
        exact hb.1.1.1.1.1.1
      have hfar : R.any (fun l => l.any (farB (wbThreads th ins last th).length)) = false := by
        rw [List.any_eq_false]
        intro l hl
        rw [Bool.not_eq_true, List.any_eq_false]
        intro a ha
        rw [hR l hl a ha, wb_len]
        have : ¬ th = 0 := by omega
        simp [farB, zeroAtom, this]
      rw [checkW_of hok hbig hfar]
      simp only [wb_twice, wb_jumps]
      simp
    · rw [if_neg hb]
      exact checkW_big hok (by rw [hbig]; rw [Bool.not_eq_true] at hb; rw [hb]; rfl)
  unfold wbTest wbGood
  by_cases h : 0 < rows ∧ 0 < atoms
  · rw [if_pos h]
    have hrow : badRowB (List.replicate atoms zeroAtom) = false := by
      unfold badRowB
      have h1 : ((List.replicate atoms zeroAtom).any fun a => !okAtomB a) = false := by
        rw [List.any_eq_false]
        intro a ha
        rw [List.mem_replicate] at ha
        rw [ha.2]; decide
      have h2 : ¬ atoms = 0 := by omega
      rw [h1]
      simp [h2]
    have hc : okCondB 2 (wbRows rows atoms) = true := by
      unfold okCondB wbRows
      have h1 : (List.replicate rows (List.replicate atoms zeroAtom)).any badRowB = false := by
        rw [List.any_eq_false]
        intro l hl
        rw [List.mem_replicate] at hl
        rw [hl.2, hrow]; decide
      rw [h1]
      simp [h.1]
    rw [main 2 (wbRows rows atoms) (decide (rows ≤ 8) && decide (atoms ≤ 8)) hc]
    · simp [h]
    · intro l hl a ha
      unfold wbRows at hl
      rw [List.mem_replicate] at hl
      rw [hl.2, List.mem_replicate] at ha
      exact ha.2
    · unfold wbRows
      have h1 : (List.replicate rows (List.replicate atoms zeroAtom)).any longB = decide (8 < atoms) := by
        rw [Bool.eq_iff_iff, List.any_eq_true]
        simp only [List.mem_replicate, longB]
        constructor
        · rintro ⟨l, ⟨_, rfl⟩, hl⟩; simpa using hl
        · intro hl; exact ⟨_, ⟨by omega, rfl⟩, by simpa using hl⟩
      rw [h1, List.length_replicate]
      have e1 : decide (8 < rows) = !decide (rows ≤ 8) := by rw [Bool.eq_iff_iff]; simp
      have e2 : decide (8 < atoms) = !decide (atoms ≤ 8) := by rw [Bool.eq_iff_iff]; simp
      rw [e1, e2]
      cases decide (rows ≤ 8) <;> cases decide (atoms ≤ 8) <;> rfl
  · rw [if_neg h]
    rw [main 0 [] true rfl (by simp) rfl]
    simp [h]

end Go.Proofs.Ytjfghjakpjfgpaa
