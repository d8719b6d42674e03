/-
  Numbers in eight bytes: the arithmetic of the encoding (plain lemmas; nothing of the program's functions).
-/
import Derived.Test.YtgfppajbegcaeaaDoorVaE
import Derived.Laws.Bits64
import Derived.IntWalk
set_option linter.unusedSimpArgs false
set_option linter.unusedVariables false
namespace Go.Proofs.YtgfppajbegcaeaaDoor.Va
open Go Go.RowKit

theorem xor63_lt (a : Nat) (h : a < 9223372036854775808) : a ^^^ 9223372036854775808 = a + 9223372036854775808 := by
  apply Nat.eq_of_testBit_eq
  intro i
  rw [Nat.testBit_xor, show (9223372036854775808 : Nat) = 2 ^ 63 from rfl, Nat.add_comm, Nat.testBit_two_pow]
  by_cases h1 : i = 63
  · subst h1
    rw [Nat.testBit_two_pow_add_eq, Nat.testBit_lt_two_pow (by exact h)]
    rfl
  · rcases Nat.lt_or_gt_of_ne h1 with h2 | h2
    · rw [Nat.testBit_two_pow_add_gt h2]
      have : decide (63 = i) = false := by simp; omega
      rw [this, Bool.xor_false]
    · have e1 : a.testBit i = false := Nat.testBit_lt_two_pow (Nat.lt_of_lt_of_le (show a < 2 ^ 63 from h) (Nat.pow_le_pow_right (show 0 < 2 by decide) (show 63 ≤ i by omega)))
      have e2 : (2 ^ 63 + a).testBit i = false := Nat.testBit_lt_two_pow (Nat.lt_of_lt_of_le (show 2 ^ 63 + a < 2 ^ 64 by omega) (Nat.pow_le_pow_right (show 0 < 2 by decide) (show 64 ≤ i by omega)))
      have : decide (63 = i) = false := by simp; omega
      rw [e1, e2, this]; rfl
theorem xor63_ge (a : Nat) (h : 9223372036854775808 ≤ a) (h2 : a < 18446744073709551616) : a ^^^ 9223372036854775808 = a - 9223372036854775808 := by
  have e := xor63_lt (a - 9223372036854775808) (by omega)
  have e2 : a = (a - 9223372036854775808) ^^^ 9223372036854775808 := by rw [e]; omega
  calc a ^^^ 9223372036854775808 = ((a - 9223372036854775808) ^^^ 9223372036854775808) ^^^ 9223372036854775808 := by rw [← e2]
    _ = a - 9223372036854775808 := by rw [Nat.xor_assoc, Nat.xor_self, Nat.xor_zero]
/-- A signed number as the unsigned one that has the same bytes. -/
def uns (n : Int) : Nat := (n % 18446744073709551616).toNat
theorem uns_lt (n : Int) : uns n < 18446744073709551616 := by unfold uns; omega
theorem uns_xor (n : Int) (h1 : -9223372036854775808 ≤ n) (h2 : n < 9223372036854775808) : uns n ^^^ 9223372036854775808 = off63 n := by
  unfold uns off63
  by_cases h : 0 ≤ n
  · rw [xor63_lt _ (by omega)]; omega
  · rw [xor63_ge _ (by omega) (by omega)]; omega
theorem bits_uns (n : Int) (h1 : -9223372036854775808 ≤ n) (h2 : n < 9223372036854775808) : bits .xor .u64 (uns n : Int) 9223372036854775808 = (off63 n : Int) := by
  have := bits_xor_u64_nat (uns n) 9223372036854775808 (uns_lt n) (by omega)
  rw [uns_xor n h1 h2] at this
  exact this
theorem off63_lt (n : Int) (h1 : -9223372036854775808 ≤ n) (h2 : n < 9223372036854775808) : off63 n < 18446744073709551616 := by unfold off63; omega
theorem bits_back (m : Nat) (h : m < 18446744073709551616) : IntKind.i64.wrap (bits .xor .u64 (m : Int) 9223372036854775808) = (m : Int) - 9223372036854775808 := by
  have := bits_xor_u64_nat m 9223372036854775808 h (by omega)
  rw [show ((9223372036854775808 : Nat) : Int) = 9223372036854775808 from rfl] at this
  rw [this, IntKind.wrap_i64]
  by_cases h2 : m < 9223372036854775808
  · rw [xor63_lt m h2]; omega
  · rw [xor63_ge m (by omega) h]; omega
end Go.Proofs.YtgfppajbegcaeaaDoor.Va
