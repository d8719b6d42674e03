/-
  Bits of small sets: and, or, shifts of int as they are on natural numbers (plain lemmas; nothing of the program).
-/
import Derived.WalkKit
import Derived.ProofKit
import Derived.Handy
import Derived.IntWalk
namespace Go.Proofs.Ytoadihclmnjjnaa.Bt
open Go Go.RowKit

theorem ofInt_nat (a : Nat) (h : a < 2 ^ 63) : (BitVec.ofInt 64 (a : Int)).toNat = a := by
  simp [BitVec.ofInt_natCast]
  omega
theorem bits_and (a b : Nat) (ha : a < 2 ^ 63) (hb : b < 2 ^ 63) : bits .and .i64 (a : Int) (b : Int) = ((a &&& b : Nat) : Int) := by
  have h : a &&& b < 2 ^ 63 := Nat.lt_of_le_of_lt Nat.and_le_left ha
  show IntKind.i64.wrap ((BitVec.ofInt 64 (a : Int) &&& BitVec.ofInt 64 (b : Int)).toNat : Int) = _
  rw [BitVec.toNat_and, ofInt_nat a ha, ofInt_nat b hb]
  exact IntWalk.i64_in _ (by omega)
theorem bits_or (a b : Nat) (ha : a < 2 ^ 63) (hb : b < 2 ^ 63) : bits .or .i64 (a : Int) (b : Int) = ((a ||| b : Nat) : Int) := by
  have h : a ||| b < 2 ^ 63 := Nat.or_lt_two_pow ha hb
  show IntKind.i64.wrap ((BitVec.ofInt 64 (a : Int) ||| BitVec.ofInt 64 (b : Int)).toNat : Int) = _
  rw [BitVec.toNat_or, ofInt_nat a ha, ofInt_nat b hb]
  exact IntWalk.i64_in _ (by omega)
theorem wrap_pow (k : Nat) (h : k < 63) : IntKind.i64.wrap ((2 : Int) ^ k) = ((2 ^ k : Nat) : Int) := by
  have : 2 ^ k < 2 ^ 63 := Nat.pow_lt_pow_right (by omega) h
  rw [show ((2 : Int) ^ k) = ((2 ^ k : Nat) : Int) by simp]
  generalize 2 ^ k = p at this ⊢
  exact IntWalk.i64_in _ (by omega)
/-- The test 's >> k & 1 == 1' of a set. -/
theorem bit_test (m k : Nat) (hm : m < 2 ^ 63) : (bits .and .i64 ((m : Int) / 2 ^ k) 1 == 1) = m.testBit k := by
  have h1 : ((m : Int) / 2 ^ k) = ((m / 2 ^ k : Nat) : Int) := by simp
  have h2 := bits_and (m / 2 ^ k) 1 (Nat.lt_of_le_of_lt (Nat.div_le_self _ _) hm) (by omega)
  rw [h1, show (1 : Int) = ((1 : Nat) : Int) from rfl, h2]
  rw [Nat.testBit, Nat.shiftRight_eq_div_pow, Nat.and_comm 1]
  rcases Nat.mod_two_eq_zero_or_one (m / 2 ^ k) with h | h
  · simp [Nat.and_one_is_mod, h]
  · simp [Nat.and_one_is_mod, h]
end Go.Proofs.Ytoadihclmnjjnaa.Bt
