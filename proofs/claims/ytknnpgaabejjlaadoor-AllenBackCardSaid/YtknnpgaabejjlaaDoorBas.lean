/-
  The walk of allen's Basic.
-/
import Derived.Test.YtknnpgaabejjlaaDoorTab
set_option linter.unusedSimpArgs false
set_option linter.unusedVariables false
namespace Go.Proofs.YtknnpgaabejjlaaDoor.Al
open Go Go.RowKit Go.Proofs.YtknnpgaabejjlaaDoor.Bt Go.Proofs.YtknnpgaabejjlaaDoor.Sl Go.Proofs.YtknnpgaabejjlaaDoor.Iv

/-- The composition of two relations, as the table has it. -/
def bas (a b : Nat) : Nat := rowP (TS 3375) (a * 13 + b)
def inR (a : Int) : Bool := decide (0 ≤ a) && decide (a ≤ 12)
def basB (a b : Int) : Int := if inR a && inR b then ((bas a.toNat b.toNat : Nat) : Int) else -1

theorem run_ix47 (cs : Array Value) (x : Nat) (h : x ≤ 12) (w : World) : (Instr.index 46 (.agg cs) (.int .i64 (x : Int))).run Tryd.prog w = .ok (.agg (cs.extract (x * 13) (x * 13 + 13))) w := by
  have h2 : ((x : Int) < 13) := by omega
  have h3 : ((0 : Int) ≤ x) := by omega
  simp [Instr.index, asIntOf, run_underlying Tryd.underlying46, part, Result.andThen, h2, h3]
  omega
theorem run_ix46 (cs : Array Value) (y : Nat) (h : y ≤ 12) (v : Value) (hv : cs[y]? = some v) (w : World) : (Instr.index 45 (.agg cs) (.int .i64 (y : Int))).run Tryd.prog w = .ok v w := by
  have h2 : ((y : Int) < 13) := by omega
  have h3 : ((0 : Int) ≤ y) := by omega
  have h4 : y < 13 := by omega
  simp [Instr.index, asIntOf, run_underlying Tryd.underlying45, part, Result.andThen, h2, h3, h4, hv]
theorem basic_any (a b : Int) (w : World) : Calls Tryd.prog 13 #[.int .i64 a, .int .i64 b] w fun e w' => e = .returned (.int .i64 (basB a b)) ∧ Below w.heap.size w w' := by
  have d : basB a b = if inR a && inR b then ((bas a.toNat b.toNat : Nat) : Int) else -1 := rfl
  unfold inR at d
  by_cases h1 : a < 0
  · rw [if_neg (by simp; omega)] at d
    rw [d]
    clear d
    go_enter Tryd.func13, Tryd.ntmps13
    go_wp2
    go_ret
    exact ⟨rfl, by go_grown⟩
  by_cases h2 : 12 < a
  · rw [if_neg (by simp; omega)] at d
    rw [d]
    clear d
    go_enter Tryd.func13, Tryd.ntmps13
    go_wp2
    go_ret
    exact ⟨rfl, by go_grown⟩
  by_cases h3 : b < 0
  · rw [if_neg (by simp; omega)] at d
    rw [d]
    clear d
    go_enter Tryd.func13, Tryd.ntmps13
    go_wp2
    go_ret
    exact ⟨rfl, by go_grown⟩
  by_cases h4 : 12 < b
  · rw [if_neg (by simp; omega)] at d
    rw [d]
    clear d
    go_enter Tryd.func13, Tryd.ntmps13
    go_wp2
    go_ret
    exact ⟨rfl, by go_grown⟩
  rw [if_pos (by simp; omega)] at d
  rw [d]
  clear d
  obtain ⟨x, rfl⟩ : ∃ x : Nat, a = x := ⟨a.toNat, by omega⟩
  obtain ⟨y, rfl⟩ : ∃ y : Nat, b = y := ⟨b.toNat, by omega⟩
  simp only [Int.toNat_natCast]
  have hg := tabC_get (TS 3375) (x * 13 + y) (by omega)
  have hs := tabC_size (TS 3375)
  change _ = some (Value.int .i64 ((bas x y : Nat) : Int)) at hg
  have ht := table_any
  generalize tabC (TS 3375) = cs at hg hs ht
  go_enter Tryd.func13, Tryd.ntmps13
  go_wp2_with (go_at_call 25; refine (ht _).mono ?_; rintro e w1 ⟨rfl, hb⟩)
  have i1 := run_ix47 cs x (by omega)
  have i2 := run_ix46 (cs.extract (x * 13) (x * 13 + 13)) y (by omega) (.int .i64 ((bas x y : Nat) : Int)) (by rw [Array.getElem?_extract, if_pos (by omega)]; exact hg)
  go_simp
  go_wp2
  go_simp
  go_wp2
  go_ret
  exact ⟨rfl, by go_grown⟩
end Go.Proofs.YtknnpgaabejjlaaDoor.Al
