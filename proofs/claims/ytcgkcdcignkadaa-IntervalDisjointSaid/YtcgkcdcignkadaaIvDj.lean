/-
  Which relation leaves what: a plain law.
-/
import Derived.Test.YtcgkcdcignkadaaIvL1
set_option linter.unusedSimpArgs false
set_option linter.unusedVariables false
namespace Go.Proofs.Ytcgkcdcignkadaa.Iv
open Go.RowKit Go.ChangeShapes Go.WideShapes Go.Proofs.Ytcgkcdcignkadaa.Sl

theorem disjoint_cases {a0 a1 b0 b1 : Int} (h1 : validB a0 a1 = true) (h2 : validB b0 b1 = true) :
    (ofZ a0 a1 b0 b1 = 0 ∧ meetB a0 a1 b0 b1 = false ∧ (minusL a0 a1 b0 b1).length = 1) ∨ (ofZ a0 a1 b0 b1 = 1 ∧ meetB a0 a1 b0 b1 = false ∧ (minusL a0 a1 b0 b1).length = 1) ∨
    (ofZ a0 a1 b0 b1 = 2 ∧ meetB a0 a1 b0 b1 = true ∧ ((meetZ a0 a1 b0 b1).1 == a0 && (meetZ a0 a1 b0 b1).2 == a1) = false ∧ (minusL a0 a1 b0 b1).length = 1) ∨
    (3 ≤ ofZ a0 a1 b0 b1 ∧ ofZ a0 a1 b0 b1 ≤ 6 ∧ meetB a0 a1 b0 b1 = true ∧ ((meetZ a0 a1 b0 b1).1 == a0 && (meetZ a0 a1 b0 b1).2 == a1) = true ∧ (minusL a0 a1 b0 b1).length = 0) ∨
    (ofZ a0 a1 b0 b1 = 7 ∧ meetB a0 a1 b0 b1 = true ∧ ((meetZ a0 a1 b0 b1).1 == a0 && (meetZ a0 a1 b0 b1).2 == a1) = false ∧ (minusL a0 a1 b0 b1).length = 1) ∨
    (ofZ a0 a1 b0 b1 = 8 ∧ meetB a0 a1 b0 b1 = true ∧ ((meetZ a0 a1 b0 b1).1 == a0 && (meetZ a0 a1 b0 b1).2 == a1) = false ∧ (minusL a0 a1 b0 b1).length = 2) ∨
    (9 ≤ ofZ a0 a1 b0 b1 ∧ ofZ a0 a1 b0 b1 ≤ 10 ∧ meetB a0 a1 b0 b1 = true ∧ ((meetZ a0 a1 b0 b1).1 == a0 && (meetZ a0 a1 b0 b1).2 == a1) = false ∧ (minusL a0 a1 b0 b1).length = 1) ∨
    (11 ≤ ofZ a0 a1 b0 b1 ∧ meetB a0 a1 b0 b1 = false ∧ (minusL a0 a1 b0 b1).length = 1) := by
  have v1 := valid_bd h1
  have v2 := valid_bd h2
  rw [← rofZ_eq h1 h2]
  have eB : meetB a0 a1 b0 b1 = decide (mxZ a0 b0 < mnZ a1 b1) := by simp [meetB, h1, h2]
  have eM : ∀ (h : mxZ a0 b0 < mnZ a1 b1), meetZ a0 a1 b0 b1 = (mxZ a0 b0, mnZ a1 b1) := fun h => by unfold meetZ; rw [if_pos (by rw [eB]; simpa using h)]
  have eL : minusL a0 a1 b0 b1 = (if a0 < mnZ a1 b0 then [(a0, mnZ a1 b0)] else []) ++ (if mxZ a0 b1 < a1 then [(mxZ a0 b1, a1)] else []) := by unfold minusL; rw [if_neg (by simp [bothB, h1, h2])]
  rw [eL]
  clear eL h1 h2
  have mxd : ∀ a b : Int, (a < b ∧ mxZ a b = b) ∨ (b ≤ a ∧ mxZ a b = a) := fun a b => by unfold mxZ; split <;> omega
  have mnd : ∀ a b : Int, (b < a ∧ mnZ a b = b) ∨ (a ≤ b ∧ mnZ a b = a) := fun a b => by unfold mnZ; split <;> omega
  have d1 := mxd a0 b0
  have d2 := mnd a1 b1
  have d3 := mnd a1 b0
  have d4 := mxd a0 b1
  have len : ((if a0 < mnZ a1 b0 then [(a0, mnZ a1 b0)] else []) ++ (if mxZ a0 b1 < a1 then [(mxZ a0 b1, a1)] else [])).length = (if a0 < mnZ a1 b0 then 1 else 0) + (if mxZ a0 b1 < a1 then 1 else 0) := by
    rw [List.length_append]; split <;> split <;> rfl
  rw [len]
  clear len mxd mnd
  have fin : ∀ p q : Bool, ((meetZ a0 a1 b0 b1).1 == a0 && (meetZ a0 a1 b0 b1).2 == a1) = true ↔ ((meetZ a0 a1 b0 b1).1 = a0 ∧ (meetZ a0 a1 b0 b1).2 = a1) := fun _ _ => by simp
  have fin' : ((meetZ a0 a1 b0 b1).1 == a0 && (meetZ a0 a1 b0 b1).2 == a1) = false ↔ ¬ ((meetZ a0 a1 b0 b1).1 = a0 ∧ (meetZ a0 a1 b0 b1).2 = a1) := by
    rw [← fin true true]; simp
  rw [fin true true, fin']
  by_cases hm : mxZ a0 b0 < mnZ a1 b1
  · rw [eM hm]
    have : meetB a0 a1 b0 b1 = true := by rw [eB]; simpa using hm
    simp only [this]
    clear eM eB fin fin' this
    unfold rofZ
    generalize mxZ a0 b0 = x1 at *
    generalize mnZ a1 b1 = x2 at *
    generalize mnZ a1 b0 = x3 at *
    generalize mxZ a0 b1 = x4 at *
    repeat' split
    all_goals simp
    all_goals omega
  · have : meetB a0 a1 b0 b1 = false := by rw [eB]; simpa using hm
    simp only [this]
    clear eM eB fin fin' this
    unfold rofZ
    generalize mxZ a0 b0 = x1 at *
    generalize mnZ a1 b1 = x2 at *
    generalize mnZ a1 b0 = x3 at *
    generalize mxZ a0 b1 = x4 at *
    repeat' split
    all_goals simp
    all_goals omega
end Go.Proofs.Ytcgkcdcignkadaa.Iv
