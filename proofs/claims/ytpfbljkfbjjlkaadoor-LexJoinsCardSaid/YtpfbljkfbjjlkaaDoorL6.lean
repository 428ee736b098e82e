/- Tokens of certain texts: plain laws. -/
import Derived.Test.YtpfbljkfbjjlkaaDoorL5
namespace Go.Proofs.YtpfbljkfbjjlkaaDoor
open Go Go.Jq
set_option maxRecDepth 100000
set_option linter.unusedSimpArgs false

theorem allW_tl {s : List UInt8} {l : List Tok} (hs : s.length ≤ 4000) (h : TL s 0 l) : allW s = (l, 0, 0) := by
  unfold allW
  rw [if_neg (by omega)]
  exact toks_of_tl h (Nat.zero_le _) (by omega)

theorem tl_end {s : List UInt8} {a : Nat} (h : s.drop (skipA s a) = []) : TL s a [⟨4, [], skipA s a⟩] :=
  ⟨skipA s a, by unfold nextW; rw [h]; rfl, by rw [if_pos rfl]⟩

theorem next_err {s : List UInt8} (hs : s.length ≤ 4000) (h : (nextW s 0).2.2 ≠ 0) : allW s = ([], (nextW s 0).2.2, skipA s 0) := by
  unfold allW
  rw [if_neg (by omega), toks_err h]

/-! ### One byte -/

theorem dig_text {c : UInt8} (h : digB c = true) : (parseW [c]).2 = true := by
  simp only [digB, Bool.and_eq_true, decide_eq_true_eq] at h
  have e : [c] = Lib.itoa ((c.toNat - 48 : Nat) : Int) := by
    unfold Lib.itoa
    rw [if_neg (by omega), show (((c.toNat - 48 : Nat) : Int)).toNat = c.toNat - 48 by omega, Lib.decDigits_one (by omega)]
    congr 1
    apply UInt8.toNat_inj.1
    simp
    omega
  rw [e, parseW_itoa (by unfold I64; omega)]

theorem tok_one (a : Nat) (c : UInt8) : tokAt a [c] =
    if letB c = true then (⟨1, [c], a⟩, a + 1, 0) else if digB c = true then (⟨2, [c], a⟩, a + 1, 0) else if c ∈ ones then (⟨3, [c], a⟩, a + 1, 0) else (noTok, a, 4) := by
  rw [tokAt]
  by_cases h1 : letB c = true
  · simp [h1, runL]
  · rw [if_neg h1, if_neg h1]
    by_cases h2 : digB c = true
    · have := dig_text h2
      simp [h2, runL, this]
    · have h3 : signL [c] = if c ∈ ones then 1 else 0 := by simp [signL]
      rw [if_neg (by simp [h2]), if_neg h2, h3]
      by_cases h4 : c ∈ ones
      · simp [h4]
      · simp [h4]

def beginsB (c : UInt8) : Bool := letB c || digB c || decide (c ∈ ones)
def loneS (n : Nat) (c : UInt8) : List UInt8 := List.replicate n 32 ++ [c]

theorem lone_len (n : Nat) (c : UInt8) : (loneS n c).length = n + 1 := by simp [loneS]

theorem lone_blank (n : Nat) (hn : n ≤ 7) (c : UInt8) (h : blankB c = true ∨ c = 35) : allW (loneS n c) = ([⟨4, [], n + 1⟩], 0, 0) := by
  have h1 : skipN false [c] = 1 := by
    have := skip_row c h 1
    simpa using this
  have h2 : skipA (loneS n c) 0 = n + 1 := by
    unfold skipA loneS
    rw [List.drop_zero, skip_blanks 32 rfl, h1]
    omega
  have := tl_end (s := loneS n c) (a := 0) (by rw [h2, ← lone_len n c, List.drop_length])
  rw [h2] at this
  exact allW_tl (by rw [lone_len]; omega) this

theorem lone_tok (n : Nat) (hn : n ≤ 7) (c : UInt8) (h : ¬ (blankB c = true ∨ c = 35)) :
    (beginsB c = true → ∃ k, allW (loneS n c) = ([⟨k, [c], n⟩, ⟨4, [], n + 1⟩], 0, 0)) ∧ (beginsB c = false → allW (loneS n c) = ([], 4, n)) := by
  have hh : heads c := ⟨by simpa using fun h' => h (.inl h'), fun h' => h (.inr h')⟩
  have h2 : skipA (loneS n c) 0 = n := by
    unfold skipA loneS
    rw [List.drop_zero, skip_blanks 32 rfl, skip_zero _ hh]
    omega
  have hd : (loneS n c).drop n = [c] := drop_blanks n 32 [c]
  have hnx : nextW (loneS n c) 0 = tokAt n [c] := by unfold nextW; rw [h2, hd]
  have hend : skipA (loneS n c) (n + 1) = n + 1 := by
    unfold skipA
    rw [← lone_len n c, List.drop_length]
    rfl
  have tle := tl_end (s := loneS n c) (a := n + 1) (by rw [hend, ← lone_len n c, List.drop_length])
  rw [hend] at tle
  refine ⟨fun hb => ?_, fun hb => ?_⟩
  · have : ∃ k : Int, k ≠ 4 ∧ tokAt n [c] = (⟨k, [c], n⟩, n + 1, 0) := by
      rw [tok_one]
      by_cases h5 : letB c = true
      · exact ⟨1, by decide, by rw [if_pos h5]⟩
      · by_cases h6 : digB c = true
        · exact ⟨2, by decide, by rw [if_neg h5, if_pos h6]⟩
        · have h7 : c ∈ ones := by simpa [beginsB, h5, h6] using hb
          exact ⟨3, by decide, by rw [if_neg h5, if_neg h6, if_pos h7]⟩
    obtain ⟨k, hk, ht⟩ := this
    refine ⟨k, allW_tl (by rw [lone_len]; omega) ⟨n + 1, by rw [hnx, ht], ?_⟩⟩
    rw [if_neg hk]
    exact tle
  · have h8 : letB c = false ∧ digB c = false ∧ ¬ c ∈ ones := by
      simp only [beginsB, Bool.or_eq_false_iff, decide_eq_false_iff_not] at hb
      exact ⟨hb.1.1, hb.1.2, hb.2⟩
    have ht : tokAt n [c] = (noTok, n, 4) := by
      rw [tok_one]
      simp [h8]
    have := next_err (s := loneS n c) (by rw [lone_len]; omega) (by rw [hnx, ht]; exact (by decide : (4 : Int) ≠ 0))
    rw [this, hnx, ht, h2]

/-! ### Rows of blanks -/

theorem row_all (n : Nat) (hn : n ≤ 4000) (c : UInt8) (h : blankB c = true ∨ c = 35) : allW (List.replicate n c) = ([⟨4, [], n⟩], 0, 0) := by
  have h2 : skipA (List.replicate n c) 0 = n := by
    unfold skipA
    rw [List.drop_zero, skip_row c h]
    omega
  have := tl_end (s := List.replicate n c) (a := 0) (by rw [h2]; simp)
  rw [h2] at this
  exact allW_tl (by simp; omega) this

/-! ### Numbers -/

theorem runL_all (l : List UInt8) (h : l.all alnB = true) : runL l = l.length := by
  induction l with
  | nil => rfl
  | cons c r ih =>
    rw [List.all_cons, Bool.and_eq_true] at h
    rw [runL, if_pos h.1, ih h.2, List.length_cons, Nat.add_comm]

theorem digs_aln {l : List UInt8} (h : l.all digB = true) : l.all alnB = true := by
  rw [List.all_eq_true] at h ⊢
  intro c hc
  simp [alnB, h c hc]

theorem not_let_dig {c : UInt8} (h : digB c = true) : letB c = false := by
  simp only [digB, Bool.and_eq_true, decide_eq_true_eq] at h
  have : ¬ 97 ≤ c.toNat := by omega
  simp [letB, this]

/-- A number's text begins with a minus or a digit; digits follow. -/
theorem itoa_form (n : Int) : ∃ (c : UInt8) (r : List UInt8), Lib.itoa n = c :: r ∧ r.all digB = true ∧ (digB c = true ∨ (c = 45 ∧ ∃ d r', r = d :: r' ∧ digB d = true)) := by
  unfold Lib.itoa
  split
  · obtain ⟨h1, _⟩ := dig_dec n.natAbs
    obtain ⟨d, r, h2, h3, _⟩ := decDigits_head n.natAbs
    refine ⟨45, _, rfl, h1, .inr ⟨rfl, _, r, h2, (digB_ofNat h3).1⟩⟩
  · obtain ⟨h1, _⟩ := dig_dec n.toNat
    obtain ⟨d, r, h2, h3, _⟩ := decDigits_head n.toNat
    rw [h2] at h1 ⊢
    rw [List.all_cons, Bool.and_eq_true] at h1
    exact ⟨_, r, rfl, h1.2, .inl h1.1⟩

/-- A number's token, whatever stands ahead, letters and digits behind it left to x. -/
theorem num_tok (a : Nat) (n : Int) (x : List UInt8) (hx : runL x = x.length) : tokAt a (Lib.itoa n ++ x) =
    if (parseW (Lib.itoa n ++ x)).2 = true then (⟨2, Lib.itoa n ++ x, a⟩, a + (Lib.itoa n ++ x).length, 0) else (noTok, a, 5) := by
  obtain ⟨c, r, h1, h2, h3⟩ := itoa_form n
  rw [h1, List.cons_append]
  have hl : letB c = false := by
    rcases h3 with h3 | ⟨rfl, _⟩
    · exact not_let_dig h3
    · rfl
  have hc : digB c = true ∨ (c = 45 ∧ ((r ++ x).head?.map digB).getD false = true) := by
    rcases h3 with h3 | ⟨h3, d, r', h4, h5⟩
    · exact .inl h3
    · exact .inr ⟨h3, by rw [h4]; simpa using h5⟩
  have hr : ∀ y : List UInt8, y.all digB = true → runL (y ++ x) = (y ++ x).length := by
    intro y
    induction y with
    | nil => intro _; exact hx
    | cons d y ih =>
      intro h
      rw [List.all_cons, Bool.and_eq_true] at h
      rw [List.cons_append, runL, if_pos (by simp [alnB, h.1]), ih h.2, List.length_cons, Nat.add_comm]
  rw [tokAt, if_neg (by rw [hl]; decide), if_pos hc, hr r h2, List.take_length]
  simp only [List.length_cons]
  rw [Nat.add_comm 1]

theorem itoa_heads (n : Int) : ∃ (c : UInt8) (r : List UInt8), Lib.itoa n = c :: r ∧ heads c := by
  obtain ⟨c, r, h1, _, h3⟩ := itoa_form n
  refine ⟨c, r, h1, ?_⟩
  rcases h3 with h3 | ⟨rfl, _⟩
  · exact dig_heads h3
  · exact ⟨rfl, by decide⟩

theorem num_all {n : Int} (h : I64 n) : allW (Lib.itoa n) = ([⟨2, Lib.itoa n, 0⟩, ⟨4, [], (Lib.itoa n).length⟩], 0, 0) := by
  have hl := itoa_len h
  obtain ⟨c, r, h1, h2⟩ := itoa_heads n
  have hs : skipA (Lib.itoa n) 0 = 0 := by
    unfold skipA
    rw [List.drop_zero, h1, skip_zero _ h2]
  have ht := num_tok 0 n [] rfl
  rw [List.append_nil, parseW_itoa h, if_pos rfl, Nat.zero_add] at ht
  have he : skipA (Lib.itoa n) (Lib.itoa n).length = (Lib.itoa n).length := by
    unfold skipA
    rw [List.drop_length]
    rfl
  have tle := tl_end (s := Lib.itoa n) (a := (Lib.itoa n).length) (by rw [he, List.drop_length])
  rw [he] at tle
  refine allW_tl (by omega) ⟨_, by unfold nextW; rw [hs, List.drop_zero]; exact ht, ?_⟩
  rw [if_neg (by exact (by decide : ¬ (2 : Int) = 4))]
  exact tle

theorem num_bad {n : Int} (h : I64 n) (x : UInt8) (hx : letB x = true) : allW (Lib.itoa n ++ [x]) = ([], 5, 0) := by
  have hl := itoa_len h
  obtain ⟨c, r, h1, h2⟩ := itoa_heads n
  have hs : skipA (Lib.itoa n ++ [x]) 0 = 0 := by
    unfold skipA
    rw [List.drop_zero, h1, List.cons_append, skip_zero _ h2]
  have ht := num_tok 0 n [x] (by simp [runL, alnB, hx])
  have hp : ¬ (parseW (Lib.itoa n ++ [x])).2 = true := by
    intro hp
    obtain ⟨h3, _⟩ := parseW_text hp
    obtain ⟨c', r', h4, h5, h6⟩ := itoa_form (parseW (Lib.itoa n ++ [x])).1
    rw [h3, h1, List.cons_append] at h4
    have : x ∈ r' := by rw [← (List.cons.inj h4).2]; simp
    have := List.all_eq_true.1 h5 x this
    rw [not_let_dig this] at hx
    cases hx
  rw [if_neg hp] at ht
  have hn : nextW (Lib.itoa n ++ [x]) 0 = (noTok, 0, 5) := by unfold nextW; rw [hs, List.drop_zero]; exact ht
  have := next_err (s := Lib.itoa n ++ [x]) (by simp; omega) (by rw [hn]; decide)
  rw [this, hn, hs]

theorem num_nought {n : Int} (h : I64 n) (h0 : 0 ≤ n) : allW (48 :: Lib.itoa n) = ([], 5, 0) := by
  have hl := itoa_len h
  have hd : (Lib.itoa n).all digB = true := by
    unfold Lib.itoa
    rw [if_neg (by omega)]
    exact (dig_dec _).1
  have hs : skipA (48 :: Lib.itoa n) 0 = 0 := by
    unfold skipA
    rw [List.drop_zero, skip_zero _ ⟨rfl, by decide⟩]
  have hp : parseW (48 :: Lib.itoa n) = (0, false) := by
    apply parse_of_ref
    have : refW (48 :: Lib.itoa n) = refD false (48 :: Lib.itoa n) := by simp [refW]
    rw [this, refD_nought _ _ (by
      have := itoa_pos n
      intro h; rw [h] at this; simp at this)]
  have hn : nextW (48 :: Lib.itoa n) 0 = (noTok, 0, 5) := by
    unfold nextW
    rw [hs, List.drop_zero, tokAt, if_neg (by decide), if_pos (.inl rfl), runL_all _ (digs_aln hd), List.take_length, hp, if_neg (by decide)]
  have := next_err (s := 48 :: Lib.itoa n) (by simp; omega) (by rw [hn]; decide)
  rw [this, hn, hs]

theorem num_minus {n : Int} (h : I64 n) : allW (45 :: 32 :: Lib.itoa n) = ([⟨3, [45], 0⟩, ⟨2, Lib.itoa n, 2⟩, ⟨4, [], 2 + (Lib.itoa n).length⟩], 0, 0) := by
  have hl := itoa_len h
  obtain ⟨c, r, h1, h2⟩ := itoa_heads n
  have hs : skipA (45 :: 32 :: Lib.itoa n) 0 = 0 := by
    unfold skipA
    rw [List.drop_zero, skip_zero _ ⟨rfl, by decide⟩]
  have hn : nextW (45 :: 32 :: Lib.itoa n) 0 = (⟨3, [45], 0⟩, 1, 0) := by
    unfold nextW
    rw [hs, List.drop_zero, tokAt, if_neg (by decide), if_neg (by simp [digB])]
    have : signL (45 :: 32 :: Lib.itoa n) = 1 := by simp [signL, ones]
    rw [this, if_neg (by decide)]
    rfl
  have hs1 : skipA (45 :: 32 :: Lib.itoa n) 1 = 2 := by
    unfold skipA
    rw [List.drop_succ_cons, List.drop_zero, h1]
    rw [show skipN false (32 :: c :: r) = 1 + skipN false (c :: r) from rfl, skip_zero _ h2]
  have ht := num_tok 2 n [] rfl
  rw [List.append_nil, parseW_itoa h, if_pos rfl] at ht
  have hn1 : nextW (45 :: 32 :: Lib.itoa n) 1 = (⟨2, Lib.itoa n, 2⟩, 2 + (Lib.itoa n).length, 0) := by
    unfold nextW
    rw [hs1]
    exact ht
  have hlen : (45 :: 32 :: Lib.itoa n).length = 2 + (Lib.itoa n).length := by simp; omega
  have he : skipA (45 :: 32 :: Lib.itoa n) (2 + (Lib.itoa n).length) = 2 + (Lib.itoa n).length := by
    unfold skipA
    rw [← hlen, List.drop_length]
    rfl
  have tle := tl_end (s := 45 :: 32 :: Lib.itoa n) (a := 2 + (Lib.itoa n).length) (by rw [he, ← hlen, List.drop_length])
  rw [he] at tle
  refine allW_tl (by rw [hlen]; omega) ?_
  refine ⟨_, hn, ?_⟩
  rw [if_neg (by decide)]
  refine ⟨_, hn1, ?_⟩
  rw [if_neg (by exact (by decide : ¬ (2 : Int) = 4))]
  exact tle

end Go.Proofs.YtpfbljkfbjjlkaaDoor
