/- Whole numbers of 64 bits: plain laws. -/
import Derived.Test.YtpfbljkfbjjlkaaDoorP0
namespace Go.Proofs.YtpfbljkfbjjlkaaDoor
open Go Go.Jq
set_option maxRecDepth 100000
set_option linter.unusedSimpArgs false

theorem u64_mod (n : Int) : IntKind.u64.wrap n = n % 18446744073709551616 := by
  simp only [IntKind.wrap, IntKind.signed, IntKind.bits, Bool.false_and, Bool.false_eq_true, if_false]
  rfl

theorem i64_mod (n : Int) : IntKind.i64.wrap (n % 18446744073709551616) = IntKind.i64.wrap n := by
  have e : (2 : Int) ^ 64 = 18446744073709551616 := rfl
  simp only [IntKind.wrap, IntKind.signed, IntKind.bits, e, Int.emod_emod]

/-! ### Bits -/

def bv (n : Int) : BitVec 64 := BitVec.ofInt 64 n

theorem wrap_bv (n : Int) : IntKind.i64.wrap n = (bv n).toInt := by
  unfold bv
  rw [BitVec.toInt_ofInt, Int.bmod_def]
  have e1 : (2 : Int) ^ 64 = 18446744073709551616 := rfl
  have e2 : (2 : Int) ^ 63 = 9223372036854775808 := rfl
  simp only [IntKind.wrap, IntKind.signed, IntKind.bits, Bool.true_and, Nat.reduceSub, e1, e2, decide_eq_true_eq, ge_iff_le]
  simp only [Nat.reducePow]
  split <;> split <;> omega

theorem bv_id {n : Int} (h : I64 n) : (bv n).toInt = n := by
  rw [← wrap_bv]
  unfold I64 at h
  have e1 : (2 : Int) ^ 64 = 18446744073709551616 := rfl
  have e2 : (2 : Int) ^ 63 = 9223372036854775808 := rfl
  simp only [IntKind.wrap, IntKind.signed, IntKind.bits, Bool.true_and, Nat.reduceSub, e1, e2, decide_eq_true_eq, ge_iff_le]
  split <;> omega

theorem wrap_id {n : Int} (h : I64 n) : IntKind.i64.wrap n = n := by rw [wrap_bv, bv_id h]

theorem bv_int (v : BitVec 64) : bv v.toInt = v := BitVec.ofInt_toInt

theorem wrap_nat (v : BitVec 64) : IntKind.i64.wrap v.toNat = v.toInt := by
  rw [wrap_bv]
  congr 1
  unfold bv
  simp

theorem bits_and_bv (a b : Int) : bits .and .i64 a b = (bv a &&& bv b).toInt := wrap_nat _
theorem bits_or_bv (a b : Int) : bits .or .i64 a b = (bv a ||| bv b).toInt := wrap_nat _
theorem bits_xor_bv (a b : Int) : bits .xor .i64 a b = (bv a ^^^ bv b).toInt := wrap_nat _

theorem bv_add (a b : Int) : bv (a + b) = bv a + bv b := BitVec.ofInt_add ..

theorem bv_and_or (x y : BitVec 64) : (x &&& y) + (x ||| y) = x + y := by
  have e1 : x ||| y = x + (~~~x &&& y) := by
    rw [BitVec.add_eq_or_of_and_eq_zero]
    · apply BitVec.eq_of_getLsbD_eq; intro i hi
      simp [hi]
      cases x[i] <;> cases y[i] <;> rfl
    · apply BitVec.eq_of_getLsbD_eq; intro i hi
      simp [hi]
      cases x[i] <;> cases y[i] <;> decide
  have e2 : y = (x &&& y) + (~~~x &&& y) := by
    rw [BitVec.add_eq_or_of_and_eq_zero]
    · apply BitVec.eq_of_getLsbD_eq; intro i hi
      simp [hi]
      cases x[i] <;> cases y[i] <;> rfl
    · apply BitVec.eq_of_getLsbD_eq; intro i hi
      simp [hi]
      cases x[i] <;> cases y[i] <;> decide
  have e3 : (x &&& y) + (x + (~~~x &&& y)) = x + ((x &&& y) + (~~~x &&& y)) := by
    rw [← BitVec.add_assoc, BitVec.add_comm (x &&& y) x, BitVec.add_assoc]
  rw [e1, e3, ← e2]

theorem xor_back {a : Int} (ha : I64 a) (b : Int) : bits .xor .i64 (bits .xor .i64 a b) b = a := by
  rw [bits_xor_bv, bits_xor_bv, bv_int, BitVec.xor_assoc, BitVec.xor_self, BitVec.xor_zero, bv_id ha]

theorem and_or_sum (a b : Int) : IntKind.i64.wrap (bits .and .i64 a b + bits .or .i64 a b) = IntKind.i64.wrap (a + b) := by
  rw [bits_and_bv, bits_or_bv, wrap_bv, wrap_bv, bv_add, bv_add, bv_int, bv_int, bv_and_or]

theorem or_and_xor (a b : Int) : bits .or .i64 (bits .and .i64 a b) (bits .xor .i64 a b) = bits .or .i64 a b := by
  rw [bits_and_bv, bits_xor_bv, bits_or_bv, bits_or_bv, bv_int, bv_int]
  congr 1
  apply BitVec.eq_of_getLsbD_eq
  intro i hi
  simp only [BitVec.getLsbD_or, BitVec.getLsbD_and, BitVec.getLsbD_xor]
  cases (bv a).getLsbD i <;> cases (bv b).getLsbD i <;> rfl

theorem and_mask (k : Int) (m : Nat) (hm : m < 9223372036854775808) : 0 ≤ bits .and .i64 k m ∧ bits .and .i64 k m ≤ m := by
  have h : (bv k &&& bv m).toNat ≤ m := by
    rw [BitVec.toNat_and]
    refine Nat.le_trans Nat.and_le_right ?_
    unfold bv
    simp
    omega
  rw [bits_and_bv, ← wrap_nat, wrap_id (by unfold I64; omega)]
  omega

theorem and_one (k : Int) : bits .and .i64 k 1 = k % 2 := by
  have h : (bv k &&& bv 1).toNat = (k % 2).toNat := by
    rw [BitVec.toNat_and]
    have h1 : (bv 1).toNat = 1 := rfl
    rw [h1, Nat.and_one_is_mod]
    unfold bv
    rw [BitVec.toNat_ofInt]
    have e1 : ((2 ^ 64 : Nat) : Int) = 18446744073709551616 := rfl
    rw [e1]
    omega
  rw [bits_and_bv, ← wrap_nat, h, wrap_id (by unfold I64; omega)]
  omega

end Go.Proofs.YtpfbljkfbjjlkaaDoor
