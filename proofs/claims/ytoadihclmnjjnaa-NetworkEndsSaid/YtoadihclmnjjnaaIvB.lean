/-
  The walks of layer 10's Inverse, Meet, Hull, Has, Length, Move of the program civiltime.
-/
import Derived.Test.YtoadihclmnjjnaaIvA
set_option linter.unusedSimpArgs false
set_option linter.unusedVariables false
namespace Go.Proofs.Ytoadihclmnjjnaa.Iv
open Go.RowKit Go.ChangeShapes Go.WideShapes

def invZ (r : Int) : Int := if 0 ≤ r ∧ r ≤ 12 then 12 - r else -1

theorem has_any (a b x : Int) (w : World) : Calls Try.prog 48 #[.agg #[.int .i64 a, .int .i64 b], .int .i64 x] w fun e w' => e = .returned (.bool (validB a b && decide (a ≤ x) && decide (x < b))) ∧ Below w.heap.size w w' := by
  cases h : validB a b
  · go_enter Try.func48, Try.ntmps48
    go_wp2_with (go_at_call 67; ((with_reducible refine (valid_any _ _ _).mono ?_); rintro e w1 ⟨rfl, hb⟩; (first | (replace hL := bstep hL hb) | (have hL := hb)); clear hb; replace hc := bcell hL))
    go_ret
    exact ⟨by simp, (by have hB := bstep (w := w) (by go_grown) hL; have hs := hB.size; go_grown)⟩
  · by_cases h2 : a ≤ x
    · go_enter Try.func48, Try.ntmps48
      go_wp2_with (go_at_call 67; ((with_reducible refine (valid_any _ _ _).mono ?_); rintro e w1 ⟨rfl, hb⟩; (first | (replace hL := bstep hL hb) | (have hL := hb)); clear hb; replace hc := bcell hL))
      go_ret
      exact ⟨by simp [h2], (by have hB := bstep (w := w) (by go_grown) hL; have hs := hB.size; go_grown)⟩
    · go_enter Try.func48, Try.ntmps48
      go_wp2_with (go_at_call 67; ((with_reducible refine (valid_any _ _ _).mono ?_); rintro e w1 ⟨rfl, hb⟩; (first | (replace hL := bstep hL hb) | (have hL := hb)); clear hb; replace hc := bcell hL))
      go_ret
      exact ⟨by simp [Int.not_le.2 h2], (by have hB := bstep (w := w) (by go_grown) hL; have hs := hB.size; go_grown)⟩

def mxZ (a b : Int) : Int := if a < b then b else a
def mnZ (a b : Int) : Int := if b < a then b else a
def meetB (a0 a1 b0 b1 : Int) : Bool := validB a0 a1 && validB b0 b1 && decide (mxZ a0 b0 < mnZ a1 b1)
def spanV (p : Int × Int) : Value := .agg #[.int .i64 p.1, .int .i64 p.2]
def meetZ (a0 a1 b0 b1 : Int) : Int × Int := if meetB a0 a1 b0 b1 then (mxZ a0 b0, mnZ a1 b1) else (0, 0)
def bothB (a0 a1 b0 b1 : Int) : Bool := validB a0 a1 && validB b0 b1
def hullZ (a0 a1 b0 b1 : Int) : Int × Int := if bothB a0 a1 b0 b1 then (mnZ a0 b0, mxZ a1 b1) else (0, 0)
def moveN (a b n : Int) : Int := if validB a b = false then 1 else if n < -8796093022208 ∨ 8796093022208 < n ∨ lineB (a + n) = false ∨ lineB (b + n) = false then 2 else 0
def moveZ (a b n : Int) : Int × Int := if moveN a b n = 0 then (a + n, b + n) else (0, 0)
theorem line_bd {x : Int} (h : lineB x = true) : -4398046511104 ≤ x ∧ x ≤ 4398046511104 := by simp [lineB] at h; omega
theorem valid_bd {a b : Int} (h : validB a b = true) : -4398046511104 ≤ a ∧ a ≤ 4398046511104 ∧ -4398046511104 ≤ b ∧ b ≤ 4398046511104 ∧ a < b := by simp [validB, lineB] at h; omega


end Go.Proofs.Ytoadihclmnjjnaa.Iv
