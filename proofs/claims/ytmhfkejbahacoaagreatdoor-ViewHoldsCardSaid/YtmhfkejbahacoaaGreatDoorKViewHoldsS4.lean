/- Numbers for the steps: what wraps, bits of naturals. No condition. -/
import Derived.Test.YtmhfkejbahacoaaGreatDoorKViewHoldsS3
noncomputable section
namespace Go.Ev
open Go.RowKit
set_option linter.unusedVariables false
variable [Lk]
set_option linter.unusedSectionVars false

theorem wrap_u64 (n : Nat) : IntKind.u64.wrap (n : Int) = ((n % 18446744073709551616 : Nat) : Int) := by
  show (n : Int) % 18446744073709551616 = _
  omega
theorem wrap_u32 (n : Nat) : IntKind.u32.wrap (n : Int) = ((n % 4294967296 : Nat) : Int) := by
  show (n : Int) % 4294967296 = _
  omega
theorem wrap_u64i (n : Int) : IntKind.u64.wrap n = n % 18446744073709551616 := rfl
theorem wrap_u8i (n : Int) : IntKind.u8.wrap n = n % 256 := rfl
theorem wrap_i64i (n : Int) : IntKind.i64.wrap n = if n % 18446744073709551616 ≥ 9223372036854775808 then n % 18446744073709551616 - 18446744073709551616 else n % 18446744073709551616 := by
  show (if (true && decide (n % 18446744073709551616 ≥ 9223372036854775808)) = true then n % 18446744073709551616 - 18446744073709551616 else n % 18446744073709551616) = _
  simp
theorem wrap_i64 {n : Int} (h1 : -9223372036854775808 ≤ n) (h2 : n < 9223372036854775808) : IntKind.i64.wrap n = n := by
  rw [wrap_i64i]; split <;> omega
theorem bv_nat (w n : Nat) : (BitVec.ofInt w (n : Int)) = BitVec.ofNat w n := by simp
theorem or_u64 {a b : Nat} (ha : a < 18446744073709551616) (hb : b < 18446744073709551616) :
    IntKind.u64.wrap ((BitVec.ofInt IntKind.u64.bits (a : Int) ||| BitVec.ofInt IntKind.u64.bits (b : Int)).toNat : Int) = ((a ||| b : Nat) : Int) := by
  have e : IntKind.u64.bits = 64 := rfl
  rw [e, bv_nat, bv_nat, BitVec.toNat_or, BitVec.toNat_ofNat, BitVec.toNat_ofNat, wrap_u64, Nat.mod_eq_of_lt (show a < 2 ^ 64 from ha), Nat.mod_eq_of_lt (show b < 2 ^ 64 from hb)]
  have : a ||| b < 2 ^ 64 := Nat.or_lt_two_pow ha hb
  rw [Nat.mod_eq_of_lt this]
theorem xor_u64 {a b : Nat} (ha : a < 18446744073709551616) (hb : b < 18446744073709551616) :
    IntKind.u64.wrap ((BitVec.ofInt IntKind.u64.bits (a : Int) ^^^ BitVec.ofInt IntKind.u64.bits (b : Int)).toNat : Int) = ((a ^^^ b : Nat) : Int) := by
  have e : IntKind.u64.bits = 64 := rfl
  rw [e, bv_nat, bv_nat, BitVec.toNat_xor, BitVec.toNat_ofNat, BitVec.toNat_ofNat, wrap_u64, Nat.mod_eq_of_lt (show a < 2 ^ 64 from ha), Nat.mod_eq_of_lt (show b < 2 ^ 64 from hb)]
  have : a ^^^ b < 2 ^ 64 := Nat.xor_lt_two_pow ha hb
  rw [Nat.mod_eq_of_lt this]
theorem and_u64 {a b : Nat} (ha : a < 18446744073709551616) (hb : b < 18446744073709551616) :
    IntKind.u64.wrap ((BitVec.ofInt IntKind.u64.bits (a : Int) &&& BitVec.ofInt IntKind.u64.bits (b : Int)).toNat : Int) = ((a &&& b : Nat) : Int) := by
  have e : IntKind.u64.bits = 64 := rfl
  rw [e, bv_nat, bv_nat, BitVec.toNat_and, BitVec.toNat_ofNat, BitVec.toNat_ofNat, wrap_u64, Nat.mod_eq_of_lt (show a < 2 ^ 64 from ha), Nat.mod_eq_of_lt (show b < 2 ^ 64 from hb)]
  have : a &&& b < 2 ^ 64 := Nat.and_lt_two_pow a hb
  rw [Nat.mod_eq_of_lt this]
/-- x against all ones, of 64 bits. -/
theorem xor_ones {a : Nat} (ha : a < 18446744073709551616) : a ^^^ 18446744073709551615 = 18446744073709551615 - a := by
  have h : (BitVec.ofNat 64 a ^^^ BitVec.allOnes 64).toNat = (~~~ BitVec.ofNat 64 a).toNat := by rw [BitVec.xor_allOnes]
  rw [BitVec.toNat_xor, BitVec.toNat_not, BitVec.toNat_ofNat, BitVec.toNat_allOnes, Nat.mod_eq_of_lt (show a < 2 ^ 64 from ha)] at h
  exact h
/-- Bits that do not meet. -/
theorem or_shift {a b k : Nat} (h : a < 2 ^ k) : a ||| (b * 2 ^ k) = a + b * 2 ^ k := by
  have := Nat.shiftLeft_add_eq_or_of_lt h b
  rw [Nat.shiftLeft_eq] at this
  rw [Nat.or_comm, ← this]; omega
end Go.Ev
