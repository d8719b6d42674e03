/-
  The walks of the reference of layer 10 (Line, Valid, Inverse, Meet, Hull, Move) of the program civiltime.
-/
import Derived.Test.YtoadihclmnjjnaaIvB
set_option linter.unusedSimpArgs false
set_option linter.unusedVariables false
namespace Go.Proofs.Ytoadihclmnjjnaa.Iv
open Go.RowKit Go.ChangeShapes Go.WideShapes

theorem rline_any (x : Int) (w : World) : Calls Try.prog 91 #[.int .i64 x] w fun e w' => e = .returned (.bool (lineB x)) ∧ w = w' := by
  have d : lineB x = (decide (-4398046511104 ≤ x) && decide (x ≤ 4398046511104)) := rfl
  rw [d]; clear d
  by_cases h1 : (-4398046511104 : Int) ≤ x
  · go_enter Try.func91, Try.ntmps91
    go_wp2
    go_ret
    exact ⟨by simp [h1], rfl⟩
  · go_enter Try.func91, Try.ntmps91
    go_wp2
    go_ret
    exact ⟨by simp [Int.not_le.2 h1], rfl⟩

theorem rvalid_any (a b : Int) (w : World) : Calls Try.prog 65 #[.agg #[.int .i64 a, .int .i64 b]] w fun e w' => e = .returned (.bool (validB a b)) ∧ Below w.heap.size w w' := by
  have d : validB a b = (lineB a && lineB b && decide (a < b)) := rfl
  rw [d]; clear d
  go_enter Try.func65, Try.ntmps65
  go_wp2_with (go_at_call 91; refine (rline_any _ _).mono ?_; rintro e w' ⟨rfl, rfl⟩)
  all_goals go_ret
  · rename_i h1 h2; exact ⟨by simp [h1, h2], by go_grown⟩
  · rename_i h1 h2; exact ⟨by simp [h1, h2], by go_grown⟩
  · rename_i h1; exact ⟨by simp [h1], by go_grown⟩

end Go.Proofs.Ytoadihclmnjjnaa.Iv
