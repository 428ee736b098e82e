/- The document's numbers of texts. -/
import Derived.Test.YtpfbljkfbjjlkaaDoorNB
import Derived.Test.YtpfbljkfbjjlkaaDoorNT
namespace Go.Proofs.YtpfbljkfbjjlkaaDoor
open Go Go.Jq
set_option maxRecDepth 100000
set_option linter.unusedSimpArgs false

/-! ### Digits -/

def digB (c : UInt8) : Bool := decide (48 ≤ c.toNat) && decide (c.toNat ≤ 57)
def valD (d : List UInt8) : Nat := d.foldl (fun a c => 10 * a + (c.toNat - 48)) 0

theorem valD_snoc (d : List UInt8) (c : UInt8) : valD (d ++ [c]) = 10 * valD d + (c.toNat - 48) := by simp [valD, List.foldl_append]

theorem digB_ofNat {k : Nat} (h : k < 10) : digB (UInt8.ofNat (48 + k)) = true ∧ (UInt8.ofNat (48 + k)).toNat - 48 = k := by
  have h1 : (UInt8.ofNat (48 + k)).toNat = 48 + k := by simp; omega
  unfold digB
  rw [h1]
  simp
  omega

theorem dig_dec (u : Nat) : (Lib.decDigits u).all digB = true ∧ valD (Lib.decDigits u) = u := by
  induction u using Nat.strongRecOn with
  | _ u ih =>
    by_cases h : u < 10
    · rw [Lib.decDigits_one h]
      obtain ⟨h1, h2⟩ := digB_ofNat h
      refine ⟨by rw [List.all_cons, h1]; rfl, ?_⟩
      have := valD_snoc [] (UInt8.ofNat (48 + u))
      rw [List.nil_append] at this
      rw [this, h2]
      simp [valD]
    · obtain ⟨h1, h2⟩ := digB_ofNat (Nat.mod_lt u (by decide : 0 < 10))
      obtain ⟨i1, i2⟩ := ih (u / 10) (by omega)
      rw [Lib.decDigits, dif_neg h]
      refine ⟨by rw [List.all_append, i1, List.all_cons, h1]; rfl, ?_⟩
      rw [valD_snoc, i2, h2]
      omega

theorem valD_pos {c : UInt8} {r : List UInt8} (hd : (c :: r).all digB = true) (hc : c ≠ 48) : 1 ≤ valD (c :: r) := by
  have hc1 : 49 ≤ c.toNat := by
    simp only [List.all_cons, digB, Bool.and_eq_true, decide_eq_true_eq] at hd
    have : c.toNat ≠ 48 := fun h => hc (by apply UInt8.toNat_inj.1; exact h)
    omega
  have key : ∀ (r : List UInt8) (a : Nat), 1 ≤ a → 1 ≤ r.foldl (fun a c => 10 * a + (c.toNat - 48)) a := by
    intro r
    induction r with
    | nil => intro a h; exact h
    | cons x r ih => intro a h; exact ih _ (by show 1 ≤ 10 * a + _; omega)
  exact key r _ (by show 1 ≤ 10 * 0 + (c.toNat - 48); omega)

/-- A row of digits without a nought ahead is the text of its number. -/
theorem dec_val : ∀ (n : Nat) (d : List UInt8), d.length = n → d ≠ [] → d.all digB = true → (d.getD 0 0 = 48 → d.length = 1) → Lib.decDigits (valD d) = d := by
  intro n
  induction n with
  | zero => intro d h hd; exact absurd (List.eq_nil_of_length_eq_zero h) hd
  | succ n ih =>
    intro d hl hne ha hz
    obtain ⟨e, c, rfl⟩ : ∃ e c, d = e ++ [c] := ⟨d.dropLast, d.getLast hne, (List.dropLast_concat_getLast hne).symm⟩
    rw [List.all_append, Bool.and_eq_true] at ha
    obtain ⟨ha1, ha2⟩ := ha
    simp only [List.all_cons, List.all_nil, Bool.and_true, digB, Bool.and_eq_true, decide_eq_true_eq] at ha2
    have hc : UInt8.ofNat (48 + (c.toNat - 48)) = c := by
      apply UInt8.toNat_inj.1
      simp
      omega
    rw [valD_snoc]
    cases e with
    | nil =>
      simp only [List.nil_append, valD, List.foldl_nil, Nat.mul_zero, Nat.zero_add]
      rw [Lib.decDigits_one (by omega), hc]
    | cons x r =>
      have hx : x ≠ 48 := by
        intro h
        have := hz (by simp [h])
        simp at this
      have hv := valD_pos ha1 hx
      have := ih (x :: r) (by simpa using hl) (by simp) ha1 (fun h => absurd (by simpa using h) hx)
      rw [Lib.decDigits, dif_neg (by omega)]
      rw [show (10 * valD (x :: r) + (c.toNat - 48)) / 10 = valD (x :: r) by omega, show (10 * valD (x :: r) + (c.toNat - 48)) % 10 = c.toNat - 48 by omega, this, hc]

theorem valD_lt (d : List UInt8) (ha : d.all digB = true) : valD d < 10 ^ d.length := by
  have key : ∀ (d : List UInt8) (a k : Nat), d.all digB = true → a < 10 ^ k → d.foldl (fun a c => 10 * a + (c.toNat - 48)) a < 10 ^ (k + d.length) := by
    intro d
    induction d with
    | nil => intro a k _ h; exact h
    | cons x r ih =>
      intro a k hd h
      simp only [List.all_cons, digB, Bool.and_eq_true, decide_eq_true_eq] at hd
      have := ih (10 * a + (x.toNat - 48)) (k + 1) (by simpa [digB] using hd.2) (by rw [Nat.pow_succ]; omega)
      rw [List.length_cons, show k + (r.length + 1) = k + 1 + r.length by omega]
      exact this
  have := key d 0 0 ha (by decide)
  rw [Nat.zero_add] at this
  exact this

/-! ### What the document's Parse and Number tell -/

def refD (neg : Bool) (d : List UInt8) : Int × Bool :=
  if d = [] ∨ 19 < d.length ∨ (d.getD 0 0 = 48 ∧ (1 < d.length ∨ neg = true)) then (0, false)
  else if d.all digB = true then
    (if neg = true then (IntKind.i64.wrap (IntKind.u64.wrap (0 - (valD d : Int))), decide ((valD d : Int) ≤ 9223372036854775808)) else (IntKind.i64.wrap (valD d), decide ((valD d : Int) < 9223372036854775808)))
  else (0, false)

def refW (s : List UInt8) : Int × Bool :=
  match s with
  | [] => refD false []
  | c :: r => if c = 45 then refD true r else refD false (c :: r)

def numW (s : List UInt8) : Int × Bool := if (refW s).2 = true then refW s else (0, false)

theorem refD_itoa_neg {u : Nat} (h1 : 1 ≤ u) (h2 : u ≤ 9223372036854775808) : refD true (Lib.decDigits u) = (-(u : Int), true) := by
  obtain ⟨a1, a2⟩ := dig_dec u
  obtain ⟨d, r, e, hd, hz⟩ := decDigits_head u
  have hl : (Lib.decDigits u).length ≤ 19 := by
    rw [Lib.decDigits_length]
    exact nDigits_le 18 u (by simp; omega)
  have hh : (Lib.decDigits u).getD 0 0 ≠ 48 := by
    rw [e]
    intro h
    have : (UInt8.ofNat (48 + d)).toNat = 48 := congrArg UInt8.toNat h
    simp at this
    have := hz (by omega)
    omega
  unfold refD
  rw [if_neg (by rintro (h | h | h); exact decDigits_ne u h; omega; exact hh h.1), if_pos a1, if_pos rfl, a2]
  have : IntKind.i64.wrap (IntKind.u64.wrap (0 - (u : Int))) = -(u : Int) := by
    rw [u64_mod, i64_mod, wrap_id (by unfold I64; omega)]; omega
  rw [this]
  simp
  omega

theorem refD_itoa_pos {u : Nat} (h2 : u < 9223372036854775808) : refD false (Lib.decDigits u) = ((u : Int), true) := by
  obtain ⟨a1, a2⟩ := dig_dec u
  obtain ⟨d, r, e, hd, hz⟩ := decDigits_head u
  have hl : (Lib.decDigits u).length ≤ 19 := by
    rw [Lib.decDigits_length]
    exact nDigits_le 18 u (by simp; omega)
  have hh : (Lib.decDigits u).getD 0 0 = 48 → (Lib.decDigits u).length = 1 := by
    intro h
    rw [e] at h
    have : (UInt8.ofNat (48 + d)).toNat = 48 := congrArg UInt8.toNat h
    simp at this
    have := hz (by omega)
    subst this
    rw [Lib.decDigits_one (by decide)]
    rfl
  unfold refD
  rw [if_neg (by rintro (h | h | ⟨h, h' | h'⟩); exact decDigits_ne u h; omega; have := hh h; omega; cases h'), if_pos a1, if_neg (by decide), a2, wrap_id (by unfold I64; omega)]
  simp
  omega

theorem refW_itoa {n : Int} (h : I64 n) : refW (Lib.itoa n) = (n, true) := by
  obtain ⟨h0, h1⟩ := h
  unfold Lib.itoa
  split
  · simp only [refW]
    rw [if_pos trivial, refD_itoa_neg (by omega) (by omega)]
    congr 1
    omega
  · obtain ⟨d, r, e, hd, hz⟩ := decDigits_head n.toNat
    have hp := refD_itoa_pos (u := n.toNat) (by omega)
    rw [e] at hp ⊢
    simp only [refW]
    rw [if_neg (by intro h; have := congrArg UInt8.toNat h; simp at this; omega), hp]
    congr 1
    omega

theorem refW_text {s : List UInt8} (h : (refW s).2 = true) : Lib.itoa (refW s).1 = s ∧ I64 (refW s).1 := by
  have key : ∀ (neg : Bool) (d : List UInt8), (refD neg d).2 = true → d ≠ [] ∧ Lib.decDigits (valD d) = d ∧ (if neg = true then (refD neg d).1 = -(valD d : Int) ∧ 1 ≤ valD d ∧ valD d ≤ 9223372036854775808 else (refD neg d).1 = (valD d : Int) ∧ valD d < 9223372036854775808) := by
    intro neg d hd
    unfold refD at hd ⊢
    split at hd
    · cases hd
    rename_i hc
    rw [if_neg hc]
    split at hd
    · rename_i ha
      rw [if_pos ha]
      have hne : d ≠ [] := fun h => hc (.inl h)
      have hz : d.getD 0 0 = 48 → d.length = 1 ∧ neg = false := fun h => by
        refine ⟨?_, ?_⟩
        · have : ¬ 1 < d.length := fun h' => hc (.inr (.inr ⟨h, .inl h'⟩))
          have : d.length ≠ 0 := fun h' => hne (List.eq_nil_of_length_eq_zero h')
          omega
        · cases neg with
          | false => rfl
          | true => exact absurd (.inr (.inr ⟨h, .inr rfl⟩)) hc
      refine ⟨hne, dec_val _ d rfl hne ha (fun h => (hz h).1), ?_⟩
      cases neg with
      | true =>
        rw [if_pos rfl] at hd ⊢
        simp only [if_true, decide_eq_true_eq] at hd ⊢
        have h1 : 1 ≤ valD d := by
          cases d with
          | nil => exact absurd rfl hne
          | cons c r => exact valD_pos ha (fun h => by have := (hz (by simp [h])).2; cases this)
        refine ⟨?_, h1, by omega⟩
        rw [u64_mod, i64_mod, wrap_id (by unfold I64; omega)]; omega
      | false =>
        rw [if_neg (by decide)] at hd ⊢
        simp only [if_false, decide_eq_true_eq, Bool.false_eq_true] at hd ⊢
        exact ⟨wrap_id (by unfold I64; omega), by omega⟩
    · cases hd
  cases s with
  | nil => exact absurd rfl (key false [] h).1
  | cons c r =>
    simp only [refW] at h ⊢
    split at h
    · rename_i hc
      subst hc
      rw [if_pos rfl]
      obtain ⟨_, k2, k3⟩ := key true r h
      rw [if_pos rfl] at k3
      rw [k3.1]
      refine ⟨?_, by unfold I64; omega⟩
      unfold Lib.itoa
      rw [if_pos (by omega), show (-(valD r : Int)).natAbs = valD r by omega, k2]
    · rename_i hc
      rw [if_neg hc]
      obtain ⟨_, k2, k3⟩ := key false (c :: r) h
      rw [if_neg (by decide)] at k3
      rw [k3.1]
      refine ⟨?_, by unfold I64; omega⟩
      unfold Lib.itoa
      rw [if_neg (by omega), show ((valD (c :: r) : Int)).toNat = valD (c :: r) by omega, k2]

theorem numW_eq (s : List UInt8) : numW s = parseW s := by
  unfold numW
  cases h : (refW s).2 with
  | true =>
    obtain ⟨h1, h2⟩ := refW_text h
    rw [if_pos rfl]
    have := parseW_itoa h2
    rw [h1] at this
    rw [this, ← h]
  | false =>
    rw [if_neg (by decide)]
    cases hp : (parseW s).2 with
    | true =>
      obtain ⟨h1, h2⟩ := parseW_text hp
      have := refW_itoa h2
      rw [h1] at this
      rw [this] at h
      cases h
    | false => rw [parseW_no hp]

theorem refD_long (neg : Bool) (d : List UInt8) (h : 19 < d.length) : refD neg d = (0, false) := by
  unfold refD
  rw [if_pos (.inr (.inl h))]

theorem refD_nought (neg : Bool) (d : List UInt8) (h : d ≠ []) : refD neg (48 :: d) = (0, false) := by
  unfold refD
  rw [if_pos (.inr (.inr ⟨rfl, .inl (by cases d with | nil => exact absurd rfl h | cons c r => simp)⟩))]

theorem parse_of_ref {s : List UInt8} (h : (refW s).2 = false) : parseW s = (0, false) := by
  rw [← numW_eq s]; unfold numW; rw [if_neg (by rw [h]; decide)]

end Go.Proofs.YtpfbljkfbjjlkaaDoor
