/- Tokens with blanks between: plain laws. -/
import Derived.Test.YtpfbljkfbjjlkaaDoorL2
namespace Go.Proofs.YtpfbljkfbjjlkaaDoor
open Go Go.Jq
set_option maxRecDepth 100000
set_option linter.unusedSimpArgs false

theorem blank_not {c : UInt8} (h : blankB c = true) : letB c = false ∧ digB c = false ∧ alnB c = false ∧ c ≠ 60 ∧ c ≠ 61 ∧ c ≠ 62 ∧ c ≠ 45 := by
  simp only [blankB, Bool.or_eq_true, beq_iff_eq] at h
  rcases h with (rfl | rfl) | rfl <;> decide

theorem runL_take (l : List UInt8) (c0 : UInt8) (rest : List UInt8) (h0 : alnB c0 = false) : runL (l.take (runL l) ++ c0 :: rest) = runL l := by
  induction l with
  | nil => simp [runL, h0]
  | cons c r ih =>
    simp only [runL]
    split
    · rename_i h
      rw [Nat.add_comm 1, List.take_succ_cons, List.cons_append, runL, if_pos h, ih, Nat.add_comm]
    · simp [runL, h0]

theorem take_run (l : List UInt8) (c0 : UInt8) (rest : List UInt8) : (l.take (runL l) ++ c0 :: rest).take (runL l) = l.take (runL l) := by
  have h := runL_le l
  rw [List.take_append_of_le_length (by simp; omega), List.take_take, Nat.min_self]

/-- A token's text with a blank behind it is that token. -/
theorem tokAt_sep {a : Nat} {l : List UInt8} (h : (tokAt a l).2.2 = 0) (h4 : (tokAt a l).1.kd ≠ 4) (b : Nat) {c0 : UInt8} (h0 : blankB c0 = true) (rest : List UInt8) :
    tokAt b ((tokAt a l).1.tx ++ c0 :: rest) = (⟨(tokAt a l).1.kd, (tokAt a l).1.tx, b⟩, b + (tokAt a l).1.tx.length, 0) := by
  obtain ⟨b1, b2, b3, b4, b5, b6, b7⟩ := blank_not h0
  cases l with
  | nil => simp [tokAt] at h4
  | cons c r =>
    have hr := runL_le r
    rw [tokAt] at h h4 ⊢
    by_cases h1 : letB c = true
    · rw [if_pos h1]
      simp only [List.cons_append]
      rw [tokAt, if_pos h1, runL_take r c0 rest b3, take_run]
      simp; omega
    · rw [if_neg h1] at h h4 ⊢
      by_cases h2 : digB c = true ∨ (c = 45 ∧ (r.head?.map digB).getD false = true)
      · rw [if_pos h2] at h h4 ⊢
        by_cases h3 : (parseW (c :: r.take (runL r))).2 = true
        · rw [if_pos h3]
          simp only [List.cons_append]
          have h2' : digB c = true ∨ (c = 45 ∧ ((r.take (runL r) ++ c0 :: rest).head?.map digB).getD false = true) := by
            rcases h2 with h2 | ⟨h2, h5⟩
            · exact .inl h2
            · refine .inr ⟨h2, ?_⟩
              cases r with
              | nil => simp at h5
              | cons d r =>
                simp only [List.head?_cons, Option.map_some, Option.getD_some] at h5
                have : alnB d = true := by simp [alnB, h5]
                rw [runL, if_pos this, Nat.add_comm 1, List.take_succ_cons]
                simpa using h5
          rw [tokAt, if_neg h1, if_pos h2', runL_take r c0 rest b3, take_run, if_pos h3]
          simp; omega
        · rw [if_neg h3] at h; cases h
      · rw [if_neg h2] at h h4 ⊢
        by_cases h3 : signL (c :: r) = 0
        · rw [if_pos h3] at h; cases h
        · rw [if_neg h3]
          have hs := signL_le (c :: r)
          rcases (by omega : signL (c :: r) = 1 ∨ signL (c :: r) = 2) with hk | hk
          · have hone : c ∈ ones := by
              rw [signL] at hk
              split at hk
              · omega
              · split at hk
                · assumption
                · omega
            have hk' : signL (c :: c0 :: rest) = 1 := by
              rw [signL, if_neg (by simp [b4, b5, b6]), if_pos hone]
            rw [hk]
            simp only [List.take_succ_cons, List.take_zero, List.cons_append, List.nil_append]
            rw [tokAt, if_neg h1, if_neg (by rintro (h5 | ⟨_, h5⟩); exact h2 (.inl h5); simp [b2] at h5), hk', if_neg (by omega)]
            simp
          · cases r with
            | nil => simp at hs; omega
            | cons d r =>
              have hd : (c = 60 ∧ d = 60) ∨ (c = 62 ∧ d = 62) ∨ ((c = 61 ∨ c = 33) ∧ d = 61) := by
                rw [signL] at hk
                split at hk
                · rename_i h5; simpa using h5
                · split at hk <;> omega
              have hk' : signL (c :: d :: c0 :: rest) = 2 := by
                rw [signL, if_pos (by simpa using hd)]
              rw [hk]
              simp only [List.take_succ_cons, List.take_zero, List.cons_append, List.nil_append]
              rw [tokAt, if_neg h1, if_neg (by
                rintro (h5 | ⟨h5, _⟩)
                · exact h2 (.inl h5)
                · subst h5
                  rcases hd with ⟨h6, _⟩ | ⟨h6, _⟩ | ⟨h6 | h6, _⟩ <;> exact absurd h6 (by decide)), hk', if_neg (by omega)]
              simp

end Go.Proofs.YtpfbljkfbjjlkaaDoor
