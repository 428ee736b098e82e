/- Rows of tokens: plain laws. -/
import Derived.Test.YtpfbljkfbjjlkaaDoorL3
namespace Go.Proofs.YtpfbljkfbjjlkaaDoor
open Go Go.Jq
set_option maxRecDepth 100000
set_option linter.unusedSimpArgs false

/-- The tokens from a place on, to the end. -/
def TL (s : List UInt8) : Nat → List Tok → Prop
  | _, [] => False
  | a, t :: r => ∃ e, nextW s a = (t, e, 0) ∧ (if t.kd = 4 then r = [] else TL s e r)

theorem tl_of_toks {s : List UInt8} : ∀ {f a : Nat}, a ≤ s.length → s.length - a < f → (toksW s f a).2.1 = 0 → TL s a (toksW s f a).1
  | 0, _, _, h, _ => by omega
  | f + 1, a, ha, hf, h => by
    rw [toksW] at h ⊢
    by_cases h0 : (nextW s a).2.2 = 0
    · have he : nextW s a = ((nextW s a).1, (nextW s a).2.1, 0) := by rw [← h0]
      rw [if_pos h0] at h ⊢
      by_cases h4 : (nextW s a).1.kd = 4
      · rw [if_pos h4]
        exact ⟨_, he, by rw [if_pos h4]⟩
      · rw [if_neg h4] at h ⊢
        have ht := nextW_to ha
        have ht2 := ht.2.2 h0 h4
        by_cases hm : (toksW s f (nextW s a).2.1).2.1 = 0
        · rw [if_pos hm]
          refine ⟨_, he, ?_⟩
          rw [if_neg h4]
          exact tl_of_toks ht.2.1 (by omega) hm
        · rw [if_neg hm] at h
          exact absurd h hm
    · rw [if_neg h0] at h
      exact absurd h h0

theorem toks_of_tl {s : List UInt8} : ∀ {l : List Tok} {f a : Nat}, TL s a l → a ≤ s.length → s.length - a < f → toksW s f a = (l, 0, 0)
  | [], _, _, h, _, _ => by cases h
  | t :: r, 0, _, _, _, h => by omega
  | t :: r, f + 1, a, h, ha, hf => by
    obtain ⟨e, h1, h2⟩ := h
    rw [toksW, h1, if_pos rfl]
    by_cases h4 : t.kd = 4
    · rw [if_pos h4] at h2
      rw [if_pos h4, h2]
    · rw [if_neg h4] at h2
      have ht := nextW_to ha
      rw [h1] at ht
      have ht2 : a < e := ht.2.2 rfl h4
      have ht3 : e ≤ s.length := ht.2.1
      have := toks_of_tl (f := f) h2 ht3 (by omega)
      rw [if_neg h4, this, if_pos rfl]

theorem toks_bad {s : List UInt8} : ∀ {f a : Nat}, (toksW s f a).2.1 ≠ 0 → (toksW s f a).1 = []
  | 0, _, h => absurd rfl h
  | f + 1, a, h => by
    rw [toksW] at h ⊢
    split
    · rename_i h0
      rw [if_pos h0] at h
      split
      · rename_i h4
        rw [if_pos h4] at h
        exact absurd rfl h
      · rename_i h4
        rw [if_neg h4] at h
        split
        · rename_i hm
          rw [if_pos hm] at h
          exact absurd rfl h
        · rfl
    · rfl

/-- An error's place is one of the text. -/
theorem toks_place {s : List UInt8} : ∀ {f a : Nat}, a ≤ s.length → (toksW s f a).2.2 ≤ s.length
  | 0, _, _ => Nat.zero_le _
  | f + 1, a, ha => by
    rw [toksW]
    split
    · split
      · exact Nat.zero_le _
      · split
        · exact Nat.zero_le _
        · exact toks_place (nextW_to ha).2.1
    · exact skipA_le ha

/-- What a token tells of itself. -/
theorem next_text {s : List UInt8} {a e : Nat} {t : Tok} (ha : a ≤ s.length) (h : nextW s a = (t, e, 0)) : t.pl = skipA s a ∧ t.tx = (s.drop t.pl).take t.tx.length ∧ e = t.pl + t.tx.length ∧ a ≤ t.pl ∧ e ≤ s.length ∧ (t.kd = 4 ↔ t.pl = s.length) ∧ (t.kd = 4 → t.tx = [] ∧ e = s.length) := by
  have h1 := tokAt_text (skipA s a) (s.drop (skipA s a)) (by unfold nextW at h; rw [h])
  have h2 := nextW_to ha
  have h3 := skipA_le ha
  have h4 := le_skipA s a
  unfold nextW at h
  rw [h] at h1
  rw [show nextW s a = (t, e, 0) from h] at h2
  simp only at h1 h2
  obtain ⟨p1, p2, p3, p4⟩ := h1
  have hk : t.kd = 4 ↔ t.pl = s.length := by
    rw [p4, p1]
    constructor
    · intro h5
      have := congrArg List.length h5
      rw [List.length_drop, List.length_nil] at this
      omega
    · intro h5; rw [h5, List.drop_length]
  have ht : t.tx = (s.drop t.pl).take t.tx.length := by
    have : e - skipA s a = t.tx.length := by omega
    rw [p1, ← this]
    exact p2
  refine ⟨p1, ht, by omega, by omega, h2.2.1, hk, fun h5 => ?_⟩
  have h6 := hk.1 h5
  have : t.tx = [] := by
    rw [ht, h6, List.drop_length, List.take_nil]
  refine ⟨this, ?_⟩
  rw [this] at p3
  simp at p3
  omega

/-! ### Joined anew -/

def isSep (z : List UInt8) : Prop := z = [32] ∨ z = [9] ∨ z = [10] ∨ z = [32, 35, 32, 110, 10]

theorem skip_sep {z : List UInt8} (h : isSep z) (l : List UInt8) : skipN false (z ++ l) = z.length + skipN false l := by
  rcases h with rfl | rfl | rfl | rfl
  · simp [skipN, blankB]
  · simp [skipN, blankB]
  · simp [skipN, blankB]
  · simp [skipN, blankB]; omega

theorem sep_head {z : List UInt8} (h : isSep z) : ∃ c r, z = c :: r ∧ blankB c = true := by
  rcases h with rfl | rfl | rfl | rfl <;> exact ⟨_, _, rfl, rfl⟩

def joinS (sep : Nat → List UInt8) : Nat → List Tok → List UInt8
  | _, [] => []
  | i, t :: r => t.tx ++ sep i ++ joinS sep (i + 1) r

theorem next_at {s : List UInt8} {a : Nat} {z l : List UInt8} (hd : s.drop a = z ++ l) (_ : a ≤ s.length) (hz : skipN false (z ++ l) = z.length) : skipA s a = a + z.length ∧ s.drop (skipA s a) = l := by
  have h1 : skipA s a = a + z.length := by unfold skipA; rw [hd, hz]
  refine ⟨h1, ?_⟩
  rw [h1, ← List.drop_drop, hd]
  simp

theorem tl_join {s : List UInt8} {sep : Nat → List UInt8} (hsep : ∀ i, isSep (sep i)) : ∀ {l : List Tok} {a : Nat}, a ≤ s.length → TL s a l → ∀ {T : List UInt8} {p i : Nat} {z : List UInt8}, (z = [] ∨ isSep z) → p ≤ T.length → T.drop p = z ++ joinS sep i l →
    ∃ l', TL T p l' ∧ l'.map (fun t => (t.kd, t.tx)) = l.map (fun t => (t.kd, t.tx))
  | [], _, _, h, _, _, _, _, _, _, _ => by cases h
  | t :: r, a, ha, h, T, p, i, z, hz, hp, hd => by
    obtain ⟨e, h1, h2⟩ := h
    obtain ⟨n1, n2, n3, n4, n5, n6, n7⟩ := next_text ha h1
    have hzs : ∀ l, skipN false (z ++ l) = z.length + skipN false l := fun l => by
      rcases hz with rfl | hz
      · simp
      · exact skip_sep hz l
    by_cases h4 : t.kd = 4
    · rw [if_pos h4] at h2
      subst h2
      obtain ⟨ht, _⟩ := n7 h4
      simp only [joinS, ht, List.nil_append, List.append_nil] at hd
      have hsk : skipN false (z ++ sep i) = (z ++ sep i).length := by
        rw [hzs, ← List.append_nil (sep i), skip_sep (hsep i), List.append_nil, List.length_append]
        simp [skipN]
      have := next_at (z := z ++ sep i) (l := []) (by rw [hd, List.append_nil]) hp (by rw [List.append_nil]; exact hsk)
      refine ⟨[⟨4, [], skipA T p⟩], ⟨skipA T p, ?_, by rw [if_pos rfl]⟩, by simp [h4, ht]⟩
      unfold nextW
      rw [this.2]
      rfl
    · rw [if_neg h4] at h2
      obtain ⟨c0, rest0, hs0, hb0⟩ := sep_head (hsep i)
      have hne : ∃ c r', s.drop (skipA s a) = c :: r' := by
        cases hx : s.drop (skipA s a) with
        | nil =>
          have : nextW s a = (⟨4, [], skipA s a⟩, skipA s a, 0) := by unfold nextW; rw [hx]; rfl
          rw [this] at h1
          have : t.kd = 4 := by rw [← (Prod.mk.inj h1).1]
          exact absurd this h4
        | cons c r' => exact ⟨c, r', rfl⟩
      obtain ⟨c, r', hcr⟩ := hne
      have hta : tokAt (skipA s a) (c :: r') = (t, e, 0) := by rw [← hcr]; exact h1
      have hok : (tokAt (skipA s a) (c :: r')).2.2 = 0 := by rw [hta]
      have hheads := tok_heads hok
      have htx : ∃ y, t.tx = c :: y := by
        have h5 : t.tx ≠ [] := by
          have := nextW_to ha
          rw [h1] at this
          have := this.2.2 rfl h4
          intro h6
          rw [h6] at n3
          simp at n3
          have := tokAt_to (skipA s a) (c :: r')
          rw [hta] at this
          have := this.2.2 rfl h4
          simp only at this
          omega
        have h6 := n2
        rw [n1, hcr] at h6
        cases hy : t.tx with
        | nil => exact absurd hy h5
        | cons x y =>
          rw [hy, List.length_cons, List.take_succ_cons] at h6
          rw [(List.cons.inj h6).1]
          exact ⟨y, rfl⟩
      obtain ⟨y, hy⟩ := htx
      have hd' : T.drop p = z ++ (t.tx ++ (sep i ++ joinS sep (i + 1) r)) := by rw [hd]; simp [joinS]
      have hsk : skipN false (z ++ (t.tx ++ (sep i ++ joinS sep (i + 1) r))) = z.length := by
        rw [hzs, hy, List.cons_append, skip_zero _ hheads]; rfl
      obtain ⟨q1, q2⟩ := next_at hd' hp hsk
      have hsp := tokAt_sep hok (by rw [hta]; exact h4) (skipA T p) hb0 (rest0 ++ joinS sep (i + 1) r)
      rw [hta] at hsp
      simp only at hsp
      have hn : nextW T p = (⟨t.kd, t.tx, skipA T p⟩, skipA T p + t.tx.length, 0) := by
        unfold nextW
        rw [q2, hs0, List.cons_append]
        exact hsp
      have hp2 := nextW_to hp
      rw [hn] at hp2
      have hdn : T.drop (skipA T p + t.tx.length) = sep i ++ joinS sep (i + 1) r := by
        rw [← List.drop_drop, q2]
        simp
      obtain ⟨l', hl1, hl2⟩ := tl_join hsep n5 h2 (z := sep i) (.inr (hsep i)) hp2.2.1 hdn
      refine ⟨_ :: l', ⟨_, hn, ?_⟩, ?_⟩
      · rw [if_neg h4]; exact hl1
      · simp [hl2]

end Go.Proofs.YtpfbljkfbjjlkaaDoor
