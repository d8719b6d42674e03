/-
  The walk of allen's Basic.
-/
import Derived.Test.YtoadihclmnjjnaaTab
set_option linter.unusedSimpArgs false
set_option linter.unusedVariables false
namespace Go.Proofs.Ytoadihclmnjjnaa.Al
open Go Go.RowKit Go.Proofs.Ytoadihclmnjjnaa.Bt Go.Proofs.Ytoadihclmnjjnaa.Sl Go.Proofs.Ytoadihclmnjjnaa.Iv

/-- The composition of two relations, as the table has it. -/
def bas (a b : Nat) : Nat := rowP (TS 3375) (a * 13 + b)
def inR (a : Int) : Bool := decide (0 ≤ a) && decide (a ≤ 12)
def basB (a b : Int) : Int := if inR a && inR b then ((bas a.toNat b.toNat : Nat) : Int) else -1

theorem run_ix47 (cs : Array Value) (x : Nat) (h : x ≤ 12) (w : World) : (Instr.index 123 (.agg cs) (.int .i64 (x : Int))).run Try.prog w = .ok (.agg (cs.extract (x * 13) (x * 13 + 13))) w := by
  have h2 : ((x : Int) < 13) := by omega
  have h3 : ((0 : Int) ≤ x) := by omega
  simp [Instr.index, asIntOf, run_underlying Try.underlying123, part, Result.andThen, h2, h3]
  omega
theorem run_ix46 (cs : Array Value) (y : Nat) (h : y ≤ 12) (v : Value) (hv : cs[y]? = some v) (w : World) : (Instr.index 122 (.agg cs) (.int .i64 (y : Int))).run Try.prog w = .ok v w := by
  have h2 : ((y : Int) < 13) := by omega
  have h3 : ((0 : Int) ≤ y) := by omega
  have h4 : y < 13 := by omega
  simp [Instr.index, asIntOf, run_underlying Try.underlying122, part, Result.andThen, h2, h3, h4, hv]
end Go.Proofs.Ytoadihclmnjjnaa.Al
