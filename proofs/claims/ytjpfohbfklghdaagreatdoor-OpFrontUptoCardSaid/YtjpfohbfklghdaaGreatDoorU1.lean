/-
  Numbers and bytes: what the machine's arithmetic comes to.
-/
import Derived.Test.YtjpfohbfklghdaaGreatDoorS1
set_option linter.all false
set_option linter.unusedVariables false
namespace Go.AI

theorem w64 {n : Int} (h1 : -9223372036854775808 ≤ n) (h2 : n ≤ 9223372036854775807) : IntKind.i64.wrap n = n := by
  simp only [IntKind.wrap, IntKind.bits, IntKind.signed, Bool.true_and, ge_iff_le, decide_eq_true_eq]
  have e1 : (2 : Int) ^ (64 - 1) = 9223372036854775808 := by decide
  have e2 : (2 : Int) ^ 64 = 18446744073709551616 := by decide
  rw [e1, e2]
  split <;> omega
theorem w64i {n : Nat} (h : n < 256) : IntKind.i64.wrap (n : Int) = n := w64 (by omega) (by omega)

theorem and_e0 : ∀ n : Nat, n < 256 → (IntKind.i64.wrap ((BitVec.ofInt 64 (n : Int) &&& BitVec.ofInt 64 224).toNat : Nat) == 192) = (decide (192 ≤ n) && decide (n < 224)) := by decide +kernel
theorem and_f0 : ∀ n : Nat, n < 256 → (IntKind.i64.wrap ((BitVec.ofInt 64 (n : Int) &&& BitVec.ofInt 64 240).toNat : Nat) == 224) = (decide (224 ≤ n) && decide (n < 240)) := by decide +kernel
theorem and_f8 : ∀ n : Nat, n < 256 → (IntKind.i64.wrap ((BitVec.ofInt 64 (n : Int) &&& BitVec.ofInt 64 248).toNat : Nat) == 240) = (decide (240 ≤ n) && decide (n < 248)) := by decide +kernel
theorem and_1f : ∀ n : Nat, n < 256 → 192 ≤ n → n < 224 → IntKind.i64.wrap ((BitVec.ofInt 64 (n : Int) &&& BitVec.ofInt 64 31).toNat : Nat) = ((n - 192 : Nat) : Int) := by decide +kernel
theorem and_0f : ∀ n : Nat, n < 256 → 224 ≤ n → n < 240 → IntKind.i64.wrap ((BitVec.ofInt 64 (n : Int) &&& BitVec.ofInt 64 15).toNat : Nat) = ((n - 224 : Nat) : Int) := by decide +kernel
theorem and_07 : ∀ n : Nat, n < 256 → 240 ≤ n → n < 248 → IntKind.i64.wrap ((BitVec.ofInt 64 (n : Int) &&& BitVec.ofInt 64 7).toNat : Nat) = ((n - 240 : Nat) : Int) := by decide +kernel
theorem and_c0 : ∀ n : Nat, n < 256 → (IntKind.u8.wrap ((BitVec.ofInt 8 (n : Int) &&& BitVec.ofInt 8 192).toNat : Nat) != 128) = !(decide (128 ≤ n) && decide (n < 192)) := by decide +kernel
theorem and_3f : ∀ n : Nat, n < 256 → 128 ≤ n → n < 192 → IntKind.u8.wrap ((BitVec.ofInt 8 (n : Int) &&& BitVec.ofInt 8 63).toNat : Nat) = ((n - 128 : Nat) : Int) := by decide +kernel

theorem or_six {m y : Nat} (hm : m < 1099511627776) (hy : y < 64) : IntKind.i64.wrap ((BitVec.ofInt 64 ((m * 64 : Nat) : Int) ||| BitVec.ofInt 64 (y : Int)).toNat : Nat) = ((m * 64 + y : Nat) : Int) := by
  have h1 : (BitVec.ofInt 64 ((m * 64 : Nat) : Int) ||| BitVec.ofInt 64 (y : Int)).toNat = m * 64 + y := by
    rw [BitVec.ofInt_natCast, BitVec.ofInt_natCast, BitVec.toNat_or, BitVec.toNat_ofNat, BitVec.toNat_ofNat, Nat.mod_eq_of_lt (by omega), Nat.mod_eq_of_lt (by omega)]
    have := Nat.two_pow_add_eq_or_of_lt (i := 6) (b := y) hy m
    rw [show m * 64 = 2 ^ 6 * m by omega]
    exact this.symm
  rw [h1]
  exact w64 (by omega) (by omega)

end Go.AI
