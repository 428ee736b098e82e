/- The abstract layer, part 28: whole numbers that are not less than nought: what Go's operations on them come to. -/
import Derived.Test.YtjfghjakpjfgpaaX24
namespace Go.Jq
open Go

@[go_sem] theorem bits_i64 : IntKind.i64.bits = 64 := rfl
@[go_sem] theorem bits_u8 : IntKind.u8.bits = 8 := rfl

section
variable (x : Nat)
theorem fdiv_nat (b : Nat) : (x : Int).fdiv (b : Int) = ((x / b : Nat) : Int) := by rw [Int.fdiv_eq_ediv_of_nonneg _ (Int.natCast_nonneg _)]; rfl
theorem tmod_nat (b : Nat) : (x : Int).tmod (b : Int) = ((x % b : Nat) : Int) := rfl
theorem tdiv_nat (b : Nat) : (x : Int).tdiv (b : Int) = ((x / b : Nat) : Int) := rfl
theorem fd8 : (x : Int).fdiv 8 = ((x / 8 : Nat) : Int) := fdiv_nat x 8
theorem fd16 : (x : Int).fdiv 16 = ((x / 16 : Nat) : Int) := fdiv_nat x 16
theorem fd32 : (x : Int).fdiv 32 = ((x / 32 : Nat) : Int) := fdiv_nat x 32
theorem fd64 : (x : Int).fdiv 64 = ((x / 64 : Nat) : Int) := fdiv_nat x 64
theorem fd128 : (x : Int).fdiv 128 = ((x / 128 : Nat) : Int) := fdiv_nat x 128
theorem fd256 : (x : Int).fdiv 256 = ((x / 256 : Nat) : Int) := fdiv_nat x 256
theorem fd1024 : (x : Int).fdiv 1024 = ((x / 1024 : Nat) : Int) := fdiv_nat x 1024
theorem fd2048 : (x : Int).fdiv 2048 = ((x / 2048 : Nat) : Int) := fdiv_nat x 2048
theorem tm2 : (x : Int).tmod 2 = ((x % 2 : Nat) : Int) := rfl
theorem tm3 : (x : Int).tmod 3 = ((x % 3 : Nat) : Int) := rfl
theorem tm4 : (x : Int).tmod 4 = ((x % 4 : Nat) : Int) := rfl
theorem tm12 : (x : Int).tmod 12 = ((x % 12 : Nat) : Int) := rfl
theorem td3 : (x : Int).tdiv 3 = ((x / 3 : Nat) : Int) := rfl
theorem and1 : bits .and .i64 (x : Int) 1 = ((x % 2 : Nat) : Int) := by
  have e : bits .and .i64 (x : Int) 1 = IntKind.i64.wrap (((BitVec.ofInt 64 (x : Int)) &&& (BitVec.ofInt 64 1)).toNat : Nat) := rfl
  have h1 : (BitVec.ofInt 64 1).toNat = 2 ^ 1 - 1 := rfl
  have h2 : (BitVec.ofInt 64 (x : Int)).toNat = x % 2 ^ 64 := by simp [BitVec.ofInt_natCast]
  rw [e, BitVec.toNat_and, h1, h2, Nat.and_two_pow_sub_one_eq_mod, wrap_i64 (by omega) (by omega)]
  congr 1
  omega
end

theorem wrap_small {n : Nat} (h : n ≤ 9223372036854775807) : IntKind.i64.wrap (n : Int) = (n : Int) := wrap_i64 (by omega) (by omega)

end Go.Jq
