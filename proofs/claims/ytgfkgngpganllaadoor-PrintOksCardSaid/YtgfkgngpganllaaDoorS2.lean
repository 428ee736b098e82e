/- The test made of numbers has a short text. -/
import Derived.Test.YtgfkgngpganllaaDoorS1
import Derived.Test.YtgfkgngpganllaaDoorP7
namespace Go.Proofs.YtgfkgngpganllaaDoor
open Go Go.Jq

theorem nxN_small (ls : List Int) (a : Nat) : nxN ls a ≤ 65535 := nxN_le ls a

theorem smallIns_i64 {locs x : Nat} (hl : locs ≤ 3) (h0 : 0 < locs) : ∀ i ∈ smallIns locs x, I64i i := by
  have hv : I64 (smallVal x).reg ∧ I64 (smallVal x).value := by
    unfold smallVal
    split
    · have := Nat.mod_lt (x / 1024) (by omega : 0 < 2)
      simp only [I64]
      omega
    · have := Nat.mod_lt (x / 64) (by omega : 0 < 3)
      simp only [I64]
      omega
  have hr : I64 (smallReg x : Nat) := by
    have : smallReg x < 2 := Nat.mod_lt _ (by omega)
    simp only [I64]
    omega
  have z : I64 0 := by simp [I64]
  have o : I64 1 := by simp [I64]
  have w : I64 2 := by simp [I64]
  have mo : I64 (-1) := by simp [I64]
  intro i hi
  unfold smallIns at hi
  repeat' split at hi
  all_goals simp only [List.mem_cons, List.not_mem_nil, or_false] at hi
  · subst hi; exact ⟨z, hv.1, hv.2, z, z, z⟩
  · subst hi; exact ⟨hr, z, z, z, z, z⟩
  · subst hi; exact ⟨z, z, z, z, z, z⟩
  · subst hi; exact ⟨hr, hv.1, hv.2, mo, o, z⟩
  · subst hi; exact ⟨hr, hv.1, hv.2, mo, o, z⟩
  · rcases hi with rfl | rfl
    · exact ⟨z, hv.1, hv.2, mo, z, o⟩
    · exact ⟨z, mo, w, z, z, z⟩

theorem smallThread_i64 (ls : List Int) {locs : Nat} (h0 : 0 < locs) (h3 : locs ≤ 3) (most : Nat) : ∀ (k a mem : Nat) (s : List Ins), (∀ i ∈ s, I64i i) → ∀ i ∈ (smallThread ls locs most k a mem s).2.2, I64i i
  | 0, a, mem, s, h => h
  | k + 1, a, mem, s, h => by
    simp only [smallThread]
    split
    · refine smallThread_i64 ls h0 h3 most k _ _ _ ?_
      intro i him
      rcases List.mem_append.1 him with him | him
      · exact h i him
      · exact smallIns_i64 h3 h0 i him
    · exact h

theorem smallThreads_i64 (ls : List Int) {locs : Nat} (h0 : 0 < locs) (h3 : locs ≤ 3) (most : Nat) : ∀ (n a mem : Nat) (ts : List (List Ins)), (∀ l ∈ ts, ∀ i ∈ l, I64i i) → ∀ l ∈ (smallThreads ls locs most n a mem ts).2, ∀ i ∈ l, I64i i
  | 0, a, mem, ts, h => h
  | n + 1, a, mem, ts, h => by
    simp only [smallThreads]
    refine smallThreads_i64 ls h0 h3 most n _ _ _ ?_
    intro l hl
    rw [List.mem_append] at hl
    rcases hl with hl | hl
    · exact h l hl
    · simp only [List.mem_singleton] at hl
      subst hl
      exact smallThread_i64 ls h0 h3 most _ _ _ [] (by simp)

theorem smallThreads_len (ls : List Int) (locs most : Nat) : ∀ (n a mem : Nat) (ts : List (List Ins)), (smallThreads ls locs most n a mem ts).2.length = ts.length + n
  | 0, a, mem, ts => rfl
  | n + 1, a, mem, ts => by
    simp only [smallThreads]
    rw [smallThreads_len, List.length_append, List.length_singleton]
    omega

theorem small_len (ls : List Int) (most : Nat) : (small ls most).threads.length = smallN ls := by
  simp only [small, smallTs]
  rw [smallThreads_len]
  simp

theorem smallN_le (ls : List Int) : smallN ls ≤ 3 := by unfold smallN; omega

theorem small_few (ls : List Int) (most : Nat) : FewT (small ls most) := by
  have hg := small_goodTest ls most
  refine ⟨by simp [small], Nat.le_trans hg.once (by omega), ?_, by rw [small_len]; have := smallN_le ls; omega, fun l hl => ⟨by have := (hg.threads l hl).len; omega, ?_⟩, by have := hg.rows; omega, fun l hl => ⟨by have := hg.row l hl; omega, ?_⟩⟩
  · intro x hx
    simp only [small, smallInits] at hx
    split at hx
    · simp only [List.mem_singleton] at hx
      subst hx
      have := Nat.mod_lt (nxN ls 3) (by omega : 0 < 3)
      simp only [I64]
      omega
    · simp at hx
  · simp only [small, smallTs] at hl
    exact smallThreads_i64 ls (by unfold smallLocs; omega) (by unfold smallLocs; omega) most _ _ _ [] (by simp) l hl
  · simp only [small] at hl
    generalize smallC ls most = x at hl
    unfold smallRows at hl
    have b1 := Nat.mod_lt (x / 8) (by omega : 0 < 2)
    have b2 := Nat.mod_lt (x / 16) (by omega : 0 < 2)
    have b3 := Nat.mod_lt (x / 32) (by omega : 0 < 3)
    have b4 := Nat.mod_lt (x / 128) (by omega : 0 < 2)
    intro a ha
    split at hl
    · simp only [List.mem_cons, List.not_mem_nil, or_false] at hl
      rcases hl with rfl | rfl
      · simp only [List.mem_singleton] at ha; subst ha; simp only [I64a, I64]; omega
      · simp only [List.mem_cons, List.not_mem_nil, or_false] at ha
        rcases ha with rfl | rfl
        · simp only [I64a, I64]; omega
        · simp only [I64a, I64]; omega
    · simp at hl

end Go.Proofs.YtgfkgngpganllaaDoor
