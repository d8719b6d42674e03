/-
  The walks of allen's Full, Holds and of the law's awake and is.
-/
import Derived.Test.YtknnpgaabejjlaaDoorCvx
import Derived.Test.YtknnpgaabejjlaaDoorBas
set_option linter.unusedSimpArgs false
set_option linter.unusedVariables false
namespace Go.Proofs.YtknnpgaabejjlaaDoor.Al
open Go Go.RowKit Go.Proofs.YtknnpgaabejjlaaDoor.Bt Go.Proofs.YtknnpgaabejjlaaDoor.Sl
open Go.Proofs.YtknnpgaabejjlaaDoor.Iv (of_any valid_any ofZ validB lineB sgn_bd sgn_cases tab sgn)

theorem full_any (w : World) : Calls Tryd.prog 14 #[] w fun e w' => e = .returned (.int .i64 8191) ∧ Below w.heap.size w w' := by
  go_enter Tryd.func14, Tryd.ntmps14
  go_wp2
  go_ret
  exact ⟨rfl, by go_grown⟩
theorem is_any (s : Int) (w : World) : Calls Tryd.prog 10 #[.int .i64 s] w fun e w' => e = .returned (.bool (isSetB s)) ∧ w = w' := by
  have d : isSetB s = (decide (0 ≤ s) && decide (s ≤ 8191)) := rfl
  rw [d]; clear d
  by_cases h : 0 ≤ s
  · go_enter Tryd.func10, Tryd.ntmps10
    go_wp2
    go_ret
    exact ⟨by simp [h], rfl⟩
  · go_enter Tryd.func10, Tryd.ntmps10
    go_wp2
    go_ret
    exact ⟨by simp [Int.not_le.2 h], rfl⟩

theorem bas04 : basB 0 4 = 31 := by kernel_rfl
theorem cvx31 : cvxB 31 = true := by kernel_rfl
theorem basic04 (w : World) : Calls Tryd.prog 13 #[.int .i64 0, .int .i64 4] w fun e w' => e = .returned (.int .i64 31) ∧ Below w.heap.size w w' := by
  rw [← bas04]; exact basic_any 0 4 w
theorem convex31 (w : World) : Calls Tryd.prog 15 #[.int .i64 31] w fun e w' => e = .returned (.bool true) ∧ Below w.heap.size w w' := by
  rw [← cvx31]; exact convex_any 31 w
theorem awake_any (w : World) : Calls Tryd.prog 5 #[] w fun e w' => e = .returned (.bool true) ∧ Below w.heap.size w w' := by
  go_enter Tryd.func5, Tryd.ntmps5
  go_wp2_with (first | (go_at_call 13; (with_reducible refine (basic04 _).mono ?_); rintro e w1 ⟨rfl, hL⟩) | (go_at_call 14; (with_reducible refine (full_any _).mono ?_); rintro e w1 ⟨rfl, hb⟩; replace hL := Sl.bstep hL hb; clear hb) | (go_at_call 15; (with_reducible refine (convex31 _).mono ?_); rintro e w1 ⟨rfl, hb⟩; replace hL := Sl.bstep hL hb; clear hb))
  go_ret
  exact ⟨rfl, hL⟩

def holdsB (s a0 a1 b0 b1 : Int) : Bool := isSetB s && validB a0 a1 && validB b0 b1 && s.toNat.testBit (ofZ a0 a1 b0 b1).toNat
theorem ofZ_bd (a0 a1 b0 b1 : Int) (h1 : validB a0 a1 = true) (h2 : validB b0 b1 = true) : 0 ≤ ofZ a0 a1 b0 b1 ∧ ofZ a0 a1 b0 b1 ≤ 12 := by
  have s1 := sgn_bd a1 b0
  have s2 := sgn_bd a0 b1
  unfold ofZ
  rw [if_neg (by simp [h1, h2])]
  split
  · omega
  split
  · omega
  unfold tab
  have s3 := sgn_cases a0 b0
  have s4 := sgn_cases a1 b1
  rcases s3 with h | h | h <;> rcases s4 with h' | h' | h' <;> rw [h, h'] <;> decide
end Go.Proofs.YtknnpgaabejjlaaDoor.Al
