/- Tokens of a text: plain laws. -/
import Derived.Test.YtpfbljkfbjjlkaaDoorL1
namespace Go.Proofs.YtpfbljkfbjjlkaaDoor
open Go Go.Jq
set_option maxRecDepth 100000
set_option linter.unusedSimpArgs false

/-- A step over a blank or within a comment. -/
def noteB (b : Bool) (c : UInt8) : Bool := (if c = 10 then false else b) || c == 35

theorem skip_step (b : Bool) (c : UInt8) (r : List UInt8) (h : skipN b (c :: r) ≠ 0) : skipN b (c :: r) = 1 + skipN (noteB b c) r ∧ (noteB b c = true ∨ blankB c = true) := by
  unfold noteB
  cases b with
  | true =>
    simp only [skipN]
    by_cases hc : c = 10
    · subst hc; exact ⟨rfl, .inr rfl⟩
    · have : (c != 10) = true := by simpa using hc
      rw [this]
      simp [hc]
  | false =>
    simp only [skipN] at h ⊢
    by_cases hb : blankB c = true
    · have h35 : ¬ c = 35 := by rintro rfl; cases hb
      rw [if_pos hb]
      have : (c == 35) = false := by simpa using h35
      simp [this, hb]
    · rw [if_neg hb] at h ⊢
      by_cases h35 : c = 35
      · subst h35; simp
      · rw [if_neg h35] at h
        exact absurd rfl h

/-- What begins a token. -/
def heads (c : UInt8) : Prop := blankB c = false ∧ c ≠ 35

theorem skip_zero {c : UInt8} (r : List UInt8) (h : heads c) : skipN false (c :: r) = 0 := by
  simp [skipN, h.1, h.2]

theorem let_heads {c : UInt8} (h : letB c = true) : heads c := by
  simp only [letB, Bool.and_eq_true, decide_eq_true_eq] at h
  constructor
  · simp only [blankB, Bool.or_eq_false_iff, beq_eq_false_iff_ne]
    refine ⟨⟨?_, ?_⟩, ?_⟩ <;> (rintro rfl; simp at h)
  · rintro rfl; simp at h

theorem dig_heads {c : UInt8} (h : digB c = true) : heads c := by
  simp only [digB, Bool.and_eq_true, decide_eq_true_eq] at h
  constructor
  · simp only [blankB, Bool.or_eq_false_iff, beq_eq_false_iff_ne]
    refine ⟨⟨?_, ?_⟩, ?_⟩ <;> (rintro rfl; simp at h)
  · rintro rfl; simp at h

theorem sign_heads {c : UInt8} {r : List UInt8} (h : signL (c :: r) ≠ 0) : heads c := by
  simp only [signL] at h
  split at h
  · rename_i h1
    rcases h1 with ⟨rfl, _⟩ | ⟨rfl, _⟩ | ⟨rfl | rfl, _⟩ <;> exact ⟨rfl, by decide⟩
  · split at h
    · rename_i h1
      simp only [ones, List.mem_cons, List.not_mem_nil, or_false] at h1
      rcases h1 with rfl | rfl | rfl | rfl | rfl | rfl | rfl | rfl | rfl | rfl | rfl | rfl <;> exact ⟨rfl, by decide⟩
    · exact absurd rfl h

theorem tok_heads {a : Nat} {c : UInt8} {r : List UInt8} (h : (tokAt a (c :: r)).2.2 = 0) : heads c := by
  rw [tokAt] at h
  split at h
  · rename_i h1; exact let_heads h1
  · split at h
    · rename_i h1
      rcases h1 with h1 | ⟨rfl, _⟩
      · exact dig_heads h1
      · exact ⟨rfl, by decide⟩
    · split at h
      · cases h
      · rename_i h1; exact sign_heads h1

/-! ### Rows of the same byte -/

theorem skip_blanks (b : UInt8) (hb : blankB b = true) (l : List UInt8) : ∀ n, skipN false (List.replicate n b ++ l) = n + skipN false l
  | 0 => by simp
  | n + 1 => by
    rw [List.replicate_succ, List.cons_append]
    simp only [skipN]
    rw [if_pos hb, skip_blanks b hb l n]
    omega

theorem skip_notes : ∀ n, skipN true (List.replicate n 35) = n
  | 0 => rfl
  | n + 1 => by
    rw [List.replicate_succ]
    simp only [skipN]
    rw [show ((35 : UInt8) != 10) = true from rfl, skip_notes n]
    omega

theorem skip_row (b : UInt8) (hb : blankB b = true ∨ b = 35) (n : Nat) : skipN false (List.replicate n b) = n := by
  rcases hb with hb | rfl
  · have := skip_blanks b hb [] n
    simpa [skipN] using this
  · cases n with
    | zero => rfl
    | succ n =>
      rw [List.replicate_succ]
      simp only [skipN]
      rw [if_neg (by decide), if_pos trivial, skip_notes]
      omega

/-! ### All tokens, step by step -/

theorem toks_end {s : List UInt8} {f a : Nat} (h : s.drop (skipA s a) = []) : toksW s (f + 1) a = ([⟨4, [], skipA s a⟩], 0, 0) := by
  have : nextW s a = (⟨4, [], skipA s a⟩, skipA s a, 0) := by unfold nextW; rw [h]; rfl
  rw [toksW, this]
  rfl

theorem toks_err {s : List UInt8} {f a : Nat} (h : (nextW s a).2.2 ≠ 0) : toksW s (f + 1) a = ([], (nextW s a).2.2, skipA s a) := by
  rw [toksW, if_neg h]

theorem toks_more {s : List UInt8} {f a : Nat} (h : (nextW s a).2.2 = 0) (h4 : (nextW s a).1.kd ≠ 4) : toksW s (f + 1) a =
    if (toksW s f (nextW s a).2.1).2.1 = 0 then ((nextW s a).1 :: (toksW s f (nextW s a).2.1).1, 0, 0) else ([], (toksW s f (nextW s a).2.1).2) := by
  rw [toksW, if_pos h, if_neg h4]

/-- Enough steps are enough. -/
theorem toks_fuel {s : List UInt8} : ∀ {f g a : Nat}, a ≤ s.length → s.length - a < f → s.length - a < g → toksW s f a = toksW s g a
  | 0, _, _, _, h, _ => by omega
  | _ + 1, 0, _, _, _, h => by omega
  | f + 1, g + 1, a, ha, hf, hg => by
    rw [toksW, toksW]
    split
    · split
      · rfl
      · rename_i h0 h4
        have := nextW_to ha
        have h3 := this.2.2 h0 h4
        rw [toks_fuel (f := f) (g := g) this.2.1 (by omega) (by omega)]
    · rfl

/-! ### One byte -/

theorem drop_blanks (n : Nat) (b : UInt8) (l : List UInt8) : (List.replicate n b ++ l).drop n = l := by
  rw [List.drop_append_of_le_length (by simp)]
  simp

end Go.Proofs.YtpfbljkfbjjlkaaDoor
