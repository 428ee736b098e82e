/- Rows of the signs that may begin a longer one: plain laws. -/
import Derived.Test.YtpfbljkfbjjlkaaDoorL6
namespace Go.Proofs.YtpfbljkfbjjlkaaDoor
open Go Go.Jq
set_option maxRecDepth 100000
set_option linter.unusedSimpArgs false

def four (c : UInt8) : Prop := c = 60 ∨ c = 61 ∨ c = 43 ∨ c = 38

theorem four_heads {c : UInt8} (h : four c) : heads c := by
  rcases h with rfl | rfl | rfl | rfl <;> exact ⟨rfl, by decide⟩

/-- How long the sign is. -/
def dbl (l : List UInt8) : Nat := match l with
  | 60 :: 60 :: _ => 2
  | 61 :: 61 :: _ => 2
  | _ => 1

theorem four_sign {c : UInt8} (h : four c) (r : List UInt8) : signL (c :: r) = dbl (c :: r) := by
  rcases h with rfl | rfl | rfl | rfl
  · cases r with
    | nil => rfl
    | cons d r =>
      by_cases hd : d = 60
      · subst hd; rfl
      · have : dbl (60 :: d :: r) = 1 := by
          unfold dbl
          split
          · rename_i h; simp only [List.cons.injEq] at h; exact absurd h.2.1 hd
          · rename_i h; simp only [List.cons.injEq] at h; exact absurd h.1 (by decide)
          · rfl
        rw [this]
        simp [signL, hd, ones]
  · cases r with
    | nil => rfl
    | cons d r =>
      by_cases hd : d = 61
      · subst hd; rfl
      · have : dbl (61 :: d :: r) = 1 := by
          unfold dbl
          split
          · rename_i h; simp only [List.cons.injEq] at h; exact absurd h.1 (by decide)
          · rename_i h; simp only [List.cons.injEq] at h; exact absurd h.2.1 hd
          · rfl
        rw [this]
        simp [signL, hd, ones]
  · have : dbl (43 :: r) = 1 := by
      unfold dbl
      split
      · rename_i h; simp only [List.cons.injEq] at h; exact absurd h.1 (by decide)
      · rename_i h; simp only [List.cons.injEq] at h; exact absurd h.1 (by decide)
      · rfl
    rw [this]
    simp [signL, ones]
  · have : dbl (38 :: r) = 1 := by
      unfold dbl
      split
      · rename_i h; simp only [List.cons.injEq] at h; exact absurd h.1 (by decide)
      · rename_i h; simp only [List.cons.injEq] at h; exact absurd h.1 (by decide)
      · rfl
    rw [this]
    simp [signL, ones]

theorem dbl_pos (l : List UInt8) : 1 ≤ dbl l ∧ dbl l ≤ 2 := by
  unfold dbl
  split <;> omega

theorem four_next {s : List UInt8} (h : ∀ c ∈ s, four c) {a : Nat} (ha : a < s.length) : nextW s a = (⟨3, (s.drop a).take (dbl (s.drop a)), a⟩, a + dbl (s.drop a), 0) := by
  obtain ⟨c, r, hd⟩ : ∃ c r, s.drop a = c :: r := by
    cases hx : s.drop a with
    | nil =>
      have := congrArg List.length hx
      rw [List.length_drop, List.length_nil] at this
      omega
    | cons c r => exact ⟨c, r, rfl⟩
  have hc : four c := h c (List.mem_of_mem_drop (by rw [hd]; simp))
  have hs : skipA s a = a := by
    unfold skipA
    rw [hd, skip_zero _ (four_heads hc)]
    rfl
  have hp := dbl_pos (c :: r)
  unfold nextW
  rw [hs, hd, tokAt, if_neg (by rcases hc with rfl | rfl | rfl | rfl <;> decide), if_neg (by rcases hc with rfl | rfl | rfl | rfl <;> simp [digB]), four_sign hc, if_neg (by omega)]

/-- Such a row is tokens alone. -/
theorem four_tl {s : List UInt8} (h : ∀ c ∈ s, four c) : ∀ (n a : Nat), s.length - a ≤ n → a ≤ s.length → ∃ l, TL s a l
  | n, a, hn, ha => by
    by_cases hlt : a < s.length
    · cases n with
      | zero => omega
      | succ n =>
        have h1 := four_next h hlt
        have h2 := dbl_pos (s.drop a)
        have h3 := nextW_to ha
        rw [h1] at h3
        obtain ⟨l, hl⟩ := four_tl h n (a + dbl (s.drop a)) (by omega) h3.2.1
        exact ⟨_ :: l, _, h1, by rw [if_neg (by exact (by decide : ¬ (3 : Int) = 4))]; exact hl⟩
    · have he : a = s.length := by omega
      subst he
      have hs : skipA s s.length = s.length := by
        unfold skipA
        rw [List.drop_length]
        rfl
      have := tl_end (s := s) (a := s.length) (by rw [hs, List.drop_length])
      exact ⟨_, this⟩

end Go.Proofs.YtpfbljkfbjjlkaaDoor
