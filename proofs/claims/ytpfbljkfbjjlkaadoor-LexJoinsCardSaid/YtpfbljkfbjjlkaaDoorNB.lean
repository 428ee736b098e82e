/- Numbers' texts: plain laws. -/
import Derived.Test.YtpfbljkfbjjlkaaDoorN3
import Derived.Test.YtpfbljkfbjjlkaaDoorNA
namespace Go.Proofs.YtpfbljkfbjjlkaaDoor
open Go Go.Jq
set_option maxRecDepth 100000
set_option linter.unusedSimpArgs false

/-! ### Texts -/

theorem parseUintM_digit (M acc d : Nat) (r : List UInt8) (hd : d < 10) (ha : acc < 1844674407370955162) (hM : acc * 10 + d ≤ M) : Lib.parseUintM M acc (UInt8.ofNat (48 + d) :: r) = Lib.parseUintM M (acc * 10 + d) r := by
  have h1 : (UInt8.ofNat (48 + d)).toNat = 48 + d := by simp; omega
  rw [Lib.parseUintM, h1, if_pos (by omega), if_neg (by omega), if_neg (by omega)]
  congr 1
  omega

theorem parseUintM_dec (u : Nat) : ∀ (r : List UInt8), u ≤ 18446744073709551615 → Lib.parseUintM 18446744073709551615 0 (Lib.decDigits u ++ r) = Lib.parseUintM 18446744073709551615 u r := by
  induction u using Nat.strongRecOn with
  | _ u ih =>
    intro r hu
    by_cases h : u < 10
    · rw [Lib.decDigits_one h]
      have := parseUintM_digit 18446744073709551615 0 u r h (by omega) (by omega)
      simpa using this
    · rw [Lib.decDigits, dif_neg h, List.append_assoc, ih (u / 10) (by omega) _ (by omega), List.singleton_append, parseUintM_digit _ _ _ _ (by omega) (by omega) (by omega)]
      congr 1
      omega

theorem decDigits_ne (u : Nat) : Lib.decDigits u ≠ [] := by
  intro h
  have := Lib.decDigits_length u
  rw [h] at this
  have := Lib.nDigits_pos u
  simp at *
  omega

theorem parseUintB_dec {u : Nat} (hu : u ≤ 18446744073709551615) : Lib.parseUintB 64 (Lib.decDigits u) = .ok u := by
  unfold Lib.parseUintB
  rw [if_neg (decDigits_ne u)]
  have := parseUintM_dec u [] hu
  rw [List.append_nil] at this
  rw [show 2 ^ 64 - 1 = 18446744073709551615 from rfl, this]
  rfl

/-- The head of a number's digits is a digit; it is a nought of nought alone. -/
theorem decDigits_head (u : Nat) : ∃ (d : Nat) (r : List UInt8), Lib.decDigits u = UInt8.ofNat (48 + d) :: r ∧ d < 10 ∧ (d = 0 → u = 0) := by
  induction u using Nat.strongRecOn with
  | _ u ih =>
    by_cases h : u < 10
    · exact ⟨u, [], Lib.decDigits_one h, h, id⟩
    · obtain ⟨d, r, h1, h2, h3⟩ := ih (u / 10) (by omega)
      refine ⟨d, r ++ [UInt8.ofNat (48 + u % 10)], ?_, h2, fun hd => ?_⟩
      · rw [Lib.decDigits, dif_neg h, h1]; rfl
      · have := h3 hd; omega

theorem parse_itoa {n : Int} (h : I64 n) : Lib.parseIntB 64 (Lib.itoa n) = .ok n := by
  obtain ⟨h0, h1⟩ := h
  unfold Lib.itoa
  split
  · rename_i hn
    rw [Lib.parseIntB_minus, parseUintB_dec (by omega)]
    simp only [Lib.signedC]
    rw [if_neg (by simp; omega)]
    congr 1
    omega
  · rename_i hn
    obtain ⟨d, r, hd, hd1, _⟩ := decDigits_head n.toNat
    have hc : (UInt8.ofNat (48 + d)).toNat = 48 + d := by simp; omega
    have hp := parseUintB_dec (u := n.toNat) (by omega)
    rw [hd] at hp ⊢
    rw [Lib.parseIntB_plain _ _ _ (by omega) (by omega), hp]
    simp only [Lib.signlessC]
    rw [if_neg (by simp; omega)]
    congr 1
    omega

theorem parseW_itoa {n : Int} (h : I64 n) : parseW (Lib.itoa n) = (n, true) := by
  unfold parseW
  rw [parse_itoa h]
  simp

theorem parseW_text {s : List UInt8} (h : (parseW s).2 = true) : Lib.itoa (parseW s).1 = s ∧ I64 (parseW s).1 := by
  unfold parseW at h ⊢
  rcases hp : Lib.parseIntB 64 s with n | _ | _
  · rw [hp] at h
    simp only at h ⊢
    split at h
    · rename_i he
      rw [if_pos he]
      refine ⟨he, ?_⟩
      have := Lib.parseIntB_bounds hp
      simp at this
      unfold I64; omega
    · cases h
  · rw [hp] at h; cases h
  · rw [hp] at h; cases h

theorem parseW_no {s : List UInt8} (h : (parseW s).2 = false) : parseW s = (0, false) := by
  unfold parseW at h ⊢
  rcases hp : Lib.parseIntB 64 s with n | _ | _
  · rw [hp] at h
    simp only at h ⊢
    split at h
    · cases h
    · rename_i he
      rw [if_neg he]
  · rfl
  · rfl

theorem parseW_I64 (s : List UInt8) : I64 (parseW s).1 := by
  cases h : (parseW s).2 with
  | true => exact (parseW_text h).2
  | false => rw [parseW_no h]; constructor <;> decide

/-! ### What the document fixes -/

theorem itoa_m12 : Lib.itoa (-12) = [45, 49, 50] := by
  unfold Lib.itoa
  rw [if_pos (by decide)]
  show 45 :: Lib.decDigits 12 = _
  rw [Lib.decDigits_two (by decide) (by decide)]
  rfl

theorem itoa_m7 : Lib.itoa (-7) = [45, 55] := by
  unfold Lib.itoa
  rw [if_pos (by decide)]
  show 45 :: Lib.decDigits 7 = _
  rw [Lib.decDigits_one (by decide)]
  rfl

end Go.Proofs.YtpfbljkfbjjlkaaDoor
