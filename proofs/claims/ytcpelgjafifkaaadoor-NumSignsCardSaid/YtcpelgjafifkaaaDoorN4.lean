/- Numbers: plain laws. -/
import Derived.Test.YtcpelgjafifkaaaDoorN2
import Derived.Test.YtcpelgjafifkaaaDoorN3
import Derived.Test.YtcpelgjafifkaaaDoorNS
namespace Go.Proofs.YtcpelgjafifkaaaDoor
open Go Go.Jq
set_option maxRecDepth 100000
set_option linter.unusedSimpArgs false

/-! ### Texts -/

theorem parseUintM_digit (M acc d : Nat) (r : List UInt8) (hd : d < 10) (ha : acc < 1844674407370955162) (hM : acc * 10 + d ≤ M) : Lib.parseUintM M acc (UInt8.ofNat (48 + d) :: r) = Lib.parseUintM M (acc * 10 + d) r := by
  have h1 : (UInt8.ofNat (48 + d)).toNat = 48 + d := by simp; omega
  rw [Lib.parseUintM, h1, if_pos (by omega), if_neg (by omega), if_neg (by omega)]
  congr 1
  omega

theorem parseUintM_dec (u : Nat) : ∀ (r : List UInt8), u ≤ 18446744073709551615 → Lib.parseUintM 18446744073709551615 0 (Lib.decDigits u ++ r) = Lib.parseUintM 18446744073709551615 u r := by
  induction u using Nat.strongRecOn with
  | _ u ih =>
    intro r hu
    by_cases h : u < 10
    · rw [Lib.decDigits_one h]
      have := parseUintM_digit 18446744073709551615 0 u r h (by omega) (by omega)
      simpa using this
    · rw [Lib.decDigits, dif_neg h, List.append_assoc, ih (u / 10) (by omega) _ (by omega), List.singleton_append, parseUintM_digit _ _ _ _ (by omega) (by omega) (by omega)]
      congr 1
      omega

theorem decDigits_ne (u : Nat) : Lib.decDigits u ≠ [] := by
  intro h
  have := Lib.decDigits_length u
  rw [h] at this
  have := Lib.nDigits_pos u
  simp at *
  omega

theorem parseUintB_dec {u : Nat} (hu : u ≤ 18446744073709551615) : Lib.parseUintB 64 (Lib.decDigits u) = .ok u := by
  unfold Lib.parseUintB
  rw [if_neg (decDigits_ne u)]
  have := parseUintM_dec u [] hu
  rw [List.append_nil] at this
  rw [show 2 ^ 64 - 1 = 18446744073709551615 from rfl, this]
  rfl

/-- The head of a number's digits is a digit; it is a nought of nought alone. -/
theorem decDigits_head (u : Nat) : ∃ (d : Nat) (r : List UInt8), Lib.decDigits u = UInt8.ofNat (48 + d) :: r ∧ d < 10 ∧ (d = 0 → u = 0) := by
  induction u using Nat.strongRecOn with
  | _ u ih =>
    by_cases h : u < 10
    · exact ⟨u, [], Lib.decDigits_one h, h, id⟩
    · obtain ⟨d, r, h1, h2, h3⟩ := ih (u / 10) (by omega)
      refine ⟨d, r ++ [UInt8.ofNat (48 + u % 10)], ?_, h2, fun hd => ?_⟩
      · rw [Lib.decDigits, dif_neg h, h1]; rfl
      · have := h3 hd; omega

theorem parse_itoa {n : Int} (h : I64 n) : Lib.parseIntB 64 (Lib.itoa n) = .ok n := by
  obtain ⟨h0, h1⟩ := h
  unfold Lib.itoa
  split
  · rename_i hn
    rw [Lib.parseIntB_minus, parseUintB_dec (by omega)]
    simp only [Lib.signedC]
    rw [if_neg (by simp; omega)]
    congr 1
    omega
  · rename_i hn
    obtain ⟨d, r, hd, hd1, _⟩ := decDigits_head n.toNat
    have hc : (UInt8.ofNat (48 + d)).toNat = 48 + d := by simp; omega
    have hp := parseUintB_dec (u := n.toNat) (by omega)
    rw [hd] at hp ⊢
    rw [Lib.parseIntB_plain _ _ _ (by omega) (by omega), hp]
    simp only [Lib.signlessC]
    rw [if_neg (by simp; omega)]
    congr 1
    omega

theorem parseW_itoa {n : Int} (h : I64 n) : parseW (Lib.itoa n) = (n, true) := by
  unfold parseW
  rw [parse_itoa h]
  simp

theorem parseW_text {s : List UInt8} (h : (parseW s).2 = true) : Lib.itoa (parseW s).1 = s ∧ I64 (parseW s).1 := by
  unfold parseW at h ⊢
  rcases hp : Lib.parseIntB 64 s with n | _ | _
  · rw [hp] at h
    simp only at h ⊢
    split at h
    · rename_i he
      rw [if_pos he]
      refine ⟨he, ?_⟩
      have := Lib.parseIntB_bounds hp
      simp at this
      unfold I64; omega
    · cases h
  · rw [hp] at h; cases h
  · rw [hp] at h; cases h

theorem parseW_no {s : List UInt8} (h : (parseW s).2 = false) : parseW s = (0, false) := by
  unfold parseW at h ⊢
  rcases hp : Lib.parseIntB 64 s with n | _ | _
  · rw [hp] at h
    simp only at h ⊢
    split at h
    · cases h
    · rename_i he
      rw [if_neg he]
  · rfl
  · rfl

theorem parseW_I64 (s : List UInt8) : I64 (parseW s).1 := by
  cases h : (parseW s).2 with
  | true => exact (parseW_text h).2
  | false => rw [parseW_no h]; constructor <;> decide

/-! ### Bits -/

def bv (n : Int) : BitVec 64 := BitVec.ofInt 64 n

theorem wrap_bv (n : Int) : IntKind.i64.wrap n = (bv n).toInt := by
  unfold bv
  rw [BitVec.toInt_ofInt, Int.bmod_def]
  have e1 : (2 : Int) ^ 64 = 18446744073709551616 := rfl
  have e2 : (2 : Int) ^ 63 = 9223372036854775808 := rfl
  simp only [IntKind.wrap, IntKind.signed, IntKind.bits, Bool.true_and, Nat.reduceSub, e1, e2, decide_eq_true_eq, ge_iff_le]
  simp only [Nat.reducePow]
  split <;> split <;> omega

theorem bv_id {n : Int} (h : I64 n) : (bv n).toInt = n := by
  rw [← wrap_bv]
  unfold I64 at h
  have e1 : (2 : Int) ^ 64 = 18446744073709551616 := rfl
  have e2 : (2 : Int) ^ 63 = 9223372036854775808 := rfl
  simp only [IntKind.wrap, IntKind.signed, IntKind.bits, Bool.true_and, Nat.reduceSub, e1, e2, decide_eq_true_eq, ge_iff_le]
  split <;> omega

theorem wrap_id {n : Int} (h : I64 n) : IntKind.i64.wrap n = n := by rw [wrap_bv, bv_id h]

theorem bv_int (v : BitVec 64) : bv v.toInt = v := BitVec.ofInt_toInt

theorem wrap_nat (v : BitVec 64) : IntKind.i64.wrap v.toNat = v.toInt := by
  rw [wrap_bv]
  congr 1
  unfold bv
  simp

theorem bits_and_bv (a b : Int) : bits .and .i64 a b = (bv a &&& bv b).toInt := wrap_nat _
theorem bits_or_bv (a b : Int) : bits .or .i64 a b = (bv a ||| bv b).toInt := wrap_nat _
theorem bits_xor_bv (a b : Int) : bits .xor .i64 a b = (bv a ^^^ bv b).toInt := wrap_nat _

theorem bv_add (a b : Int) : bv (a + b) = bv a + bv b := BitVec.ofInt_add ..

theorem bv_and_or (x y : BitVec 64) : (x &&& y) + (x ||| y) = x + y := by
  have e1 : x ||| y = x + (~~~x &&& y) := by
    rw [BitVec.add_eq_or_of_and_eq_zero]
    · apply BitVec.eq_of_getLsbD_eq; intro i hi
      simp [hi]
      cases x[i] <;> cases y[i] <;> rfl
    · apply BitVec.eq_of_getLsbD_eq; intro i hi
      simp [hi]
      cases x[i] <;> cases y[i] <;> decide
  have e2 : y = (x &&& y) + (~~~x &&& y) := by
    rw [BitVec.add_eq_or_of_and_eq_zero]
    · apply BitVec.eq_of_getLsbD_eq; intro i hi
      simp [hi]
      cases x[i] <;> cases y[i] <;> rfl
    · apply BitVec.eq_of_getLsbD_eq; intro i hi
      simp [hi]
      cases x[i] <;> cases y[i] <;> decide
  have e3 : (x &&& y) + (x + (~~~x &&& y)) = x + ((x &&& y) + (~~~x &&& y)) := by
    rw [← BitVec.add_assoc, BitVec.add_comm (x &&& y) x, BitVec.add_assoc]
  rw [e1, e3, ← e2]

theorem xor_back {a : Int} (ha : I64 a) (b : Int) : bits .xor .i64 (bits .xor .i64 a b) b = a := by
  rw [bits_xor_bv, bits_xor_bv, bv_int, BitVec.xor_assoc, BitVec.xor_self, BitVec.xor_zero, bv_id ha]

theorem and_or_sum (a b : Int) : IntKind.i64.wrap (bits .and .i64 a b + bits .or .i64 a b) = IntKind.i64.wrap (a + b) := by
  rw [bits_and_bv, bits_or_bv, wrap_bv, wrap_bv, bv_add, bv_add, bv_int, bv_int, bv_and_or]

theorem or_and_xor (a b : Int) : bits .or .i64 (bits .and .i64 a b) (bits .xor .i64 a b) = bits .or .i64 a b := by
  rw [bits_and_bv, bits_xor_bv, bits_or_bv, bits_or_bv, bv_int, bv_int]
  congr 1
  apply BitVec.eq_of_getLsbD_eq
  intro i hi
  simp only [BitVec.getLsbD_or, BitVec.getLsbD_and, BitVec.getLsbD_xor]
  cases (bv a).getLsbD i <;> cases (bv b).getLsbD i <;> rfl

theorem and_mask (k : Int) (m : Nat) (hm : m < 9223372036854775808) : 0 ≤ bits .and .i64 k m ∧ bits .and .i64 k m ≤ m := by
  have h : (bv k &&& bv m).toNat ≤ m := by
    rw [BitVec.toNat_and]
    refine Nat.le_trans Nat.and_le_right ?_
    unfold bv
    simp
    omega
  rw [bits_and_bv, ← wrap_nat, wrap_id (by unfold I64; omega)]
  omega

theorem and_one (k : Int) : bits .and .i64 k 1 = k % 2 := by
  have h : (bv k &&& bv 1).toNat = (k % 2).toNat := by
    rw [BitVec.toNat_and]
    have h1 : (bv 1).toNat = 1 := rfl
    rw [h1, Nat.and_one_is_mod]
    unfold bv
    rw [BitVec.toNat_ofInt]
    have e1 : ((2 ^ 64 : Nat) : Int) = 18446744073709551616 := rfl
    rw [e1]
    omega
  rw [bits_and_bv, ← wrap_nat, h, wrap_id (by unfold I64; omega)]
  omega

/-! ### What the document fixes -/

theorem itoa_m12 : Lib.itoa (-12) = [45, 49, 50] := by
  unfold Lib.itoa
  rw [if_pos (by decide)]
  show 45 :: Lib.decDigits 12 = _
  rw [Lib.decDigits_two (by decide) (by decide)]
  rfl

theorem itoa_m7 : Lib.itoa (-7) = [45, 55] := by
  unfold Lib.itoa
  rw [if_pos (by decide)]
  show 45 :: Lib.decDigits 7 = _
  rw [Lib.decDigits_one (by decide)]
  rfl

set_option maxHeartbeats 4000000 in
theorem awake_pure : Pure Tryd.prog 13 [] (.d (.bool true)) := by
  have k1 : Pure Tryd.prog 12 [.d (.int .i64 7), .d (.int .i64 1), .d (.int .i64 65)] (.tup [.d (.int .i64 2), .d (.bool true)]) := do_pure 7 1 65
  have k2 : Pure Tryd.prog 16 [.d (.str [45, 49, 50])] (.tup [.d (.int .i64 (-12)), .d (.bool true)]) := by
    have h := parse_pure (s := [45, 49, 50]) (by decide)
    rw [← itoa_m12, parseW_itoa (by unfold I64; omega)] at h
    exact itoa_m12 ▸ h
  have k3 : Pure Tryd.prog 14 [.d (.int .i64 (-7))] (.d (.str [45, 55])) := by
    have h := text_pure (n := -7) (by unfold I64; omega)
    rw [itoa_m7] at h
    exact h
  have k4 : Pure Tryd.prog 20 [.d (.int .i64 11)] (.d (.str [60])) := sign_pure 11
  refine acalls_of Tryd.func13 ac13_ok Tryd.ntmps13 Tryd.results13 rfl ?_
  unfold ac13
  refine bwp_seq fun K hK => bwp_region rfl ?_
  simp -implicitDefEqProofs only [go_sem, ↓reduceIte, Nat.reduceEqDiff, Nat.reduceAdd, Nat.reduceLeDiff, Nat.reduceMul, Nat.reduceSub, Int.reduceLE, Int.reduceLT, Int.reduceEq, Int.reduceToNat, Int.reducePow, Int.reduceNeg]
  refine hK _ ?_; clear hK
  refine bwp_seq fun K hK => bwp_region rfl ?_
  simp -implicitDefEqProofs only [go_sem, ↓reduceIte, Nat.reduceEqDiff, Nat.reduceAdd, Nat.reduceLeDiff, Nat.reduceMul, Nat.reduceSub, Int.reduceLE, Int.reduceLT, Int.reduceEq, Int.reduceToNat, Int.reducePow, Int.reduceNeg]
  refine callK_pure k1 rfl rfl ?_
  simp -implicitDefEqProofs only [go_sem, ↓reduceIte, Nat.reduceEqDiff, Nat.reduceAdd, Nat.reduceLeDiff, Nat.reduceMul, Nat.reduceSub, Int.reduceLE, Int.reduceLT, Int.reduceEq, Int.reduceToNat, Int.reducePow, Int.reduceNeg]
  refine hK _ ?_; clear hK
  refine bwp_seq fun K hK => bwp_region rfl ?_
  simp -implicitDefEqProofs only [go_sem, ↓reduceIte, Nat.reduceEqDiff, Nat.reduceAdd, Nat.reduceLeDiff, Nat.reduceMul, Nat.reduceSub, Int.reduceLE, Int.reduceLT, Int.reduceEq, Int.reduceToNat, Int.reducePow, Int.reduceNeg]
  refine callK_pure k2 rfl rfl ?_
  simp -implicitDefEqProofs only [go_sem, ↓reduceIte, Nat.reduceEqDiff, Nat.reduceAdd, Nat.reduceLeDiff, Nat.reduceMul, Nat.reduceSub, Int.reduceLE, Int.reduceLT, Int.reduceEq, Int.reduceToNat, Int.reducePow, Int.reduceNeg]
  refine hK _ ?_; clear hK
  refine bwp_seq fun K hK => bwp_region rfl ?_
  simp -implicitDefEqProofs only [go_sem, ↓reduceIte, Nat.reduceEqDiff, Nat.reduceAdd, Nat.reduceLeDiff, Nat.reduceMul, Nat.reduceSub, Int.reduceLE, Int.reduceLT, Int.reduceEq, Int.reduceToNat, Int.reducePow, Int.reduceNeg]
  refine callK_pure k3 rfl rfl ?_
  simp -implicitDefEqProofs only [go_sem, ↓reduceIte, Nat.reduceEqDiff, Nat.reduceAdd, Nat.reduceLeDiff, Nat.reduceMul, Nat.reduceSub, Int.reduceLE, Int.reduceLT, Int.reduceEq, Int.reduceToNat, Int.reducePow, Int.reduceNeg]
  refine callK_pure k4 rfl rfl ?_
  simp -implicitDefEqProofs only [go_sem, ↓reduceIte, Nat.reduceEqDiff, Nat.reduceAdd, Nat.reduceLeDiff, Nat.reduceMul, Nat.reduceSub, Int.reduceLE, Int.reduceLT, Int.reduceEq, Int.reduceToNat, Int.reducePow, Int.reduceNeg]
  refine hK _ ?_; clear hK
  refine bwp_ret ?_
  simp only [go_sem]
  refine aend_ret _ rfl rfl ⟨?_, rfl⟩
  simp [fget]

end Go.Proofs.YtcpelgjafifkaaaDoor
