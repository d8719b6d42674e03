/-
  The walks of allen's Full, Holds and of the law's awake and is.
-/
import Derived.Test.YtoadihclmnjjnaaCvx
import Derived.Test.YtoadihclmnjjnaaBas
set_option linter.unusedSimpArgs false
set_option linter.unusedVariables false
namespace Go.Proofs.Ytoadihclmnjjnaa.Al
open Go Go.RowKit Go.Proofs.Ytoadihclmnjjnaa.Bt Go.Proofs.Ytoadihclmnjjnaa.Sl
open Go.Proofs.Ytoadihclmnjjnaa.Iv (of_any valid_any ofZ validB lineB sgn_bd sgn_cases tab sgn)

theorem full_any (w : World) : Calls Try.prog 85 #[] w fun e w' => e = .returned (.int .i64 8191) ∧ Below w.heap.size w w' := by
  go_enter Try.func85, Try.ntmps85
  go_wp2
  go_ret
  exact ⟨rfl, by go_grown⟩
theorem bas04 : basB 0 4 = 31 := by kernel_rfl
theorem cvx31 : cvxB 31 = true := by kernel_rfl
def holdsB (s a0 a1 b0 b1 : Int) : Bool := isSetB s && validB a0 a1 && validB b0 b1 && s.toNat.testBit (ofZ a0 a1 b0 b1).toNat
theorem ofZ_bd (a0 a1 b0 b1 : Int) (h1 : validB a0 a1 = true) (h2 : validB b0 b1 = true) : 0 ≤ ofZ a0 a1 b0 b1 ∧ ofZ a0 a1 b0 b1 ≤ 12 := by
  have s1 := sgn_bd a1 b0
  have s2 := sgn_bd a0 b1
  unfold ofZ
  rw [if_neg (by simp [h1, h2])]
  split
  · omega
  split
  · omega
  unfold tab
  have s3 := sgn_cases a0 b0
  have s4 := sgn_cases a1 b1
  rcases s3 with h | h | h <;> rcases s4 with h' | h' | h' <;> rw [h, h'] <;> decide
set_option maxHeartbeats 2000000 in
theorem holds_any (s a0 a1 b0 b1 : Int) (w : World) : Calls Try.prog 72 #[.int .i64 s, .agg #[.int .i64 a0, .int .i64 a1], .agg #[.int .i64 b0, .int .i64 b1]] w fun e w' => e = .returned (.bool (holdsB s a0 a1 b0 b1)) ∧ Below w.heap.size w w' := by
  unfold holdsB
  cases h1 : isSetB s
  · go_enter Try.func72, Try.ntmps72
    go_wp2_with (first | (go_at_call 31; ((with_reducible refine (of_any a0 a1 b0 b1 _).mono ?_); rintro e w1 ⟨rfl, hb⟩; (first | (replace hL := bstep hL hb) | (have hL := hb)); clear hb; replace hc := bcell hL)) | (go_at_call 78; ((with_reducible refine (isSet_any s _).mono ?_); rintro e w1 ⟨rfl, rfl⟩)))
    go_ret
    exact ⟨rfl, (by have hB := bstep (w := w) (by go_grown) hL; have hs := hB.size; go_grown)⟩
  cases h2 : validB a0 a1
  · go_enter Try.func72, Try.ntmps72
    go_wp2_with (first | (go_at_call 31; ((with_reducible refine (of_any a0 a1 b0 b1 _).mono ?_); rintro e w1 ⟨rfl, hb⟩; (first | (replace hL := bstep hL hb) | (have hL := hb)); clear hb; replace hc := bcell hL)) | (go_at_call 78; ((with_reducible refine (isSet_any s _).mono ?_); rintro e w1 ⟨rfl, rfl⟩)) | (go_at_call 67; ((with_reducible refine (valid_any a0 a1 _).mono ?_); rintro e w1 ⟨rfl, hb⟩; (first | (replace hL := bstep hL hb) | (have hL := hb)); clear hb; replace hc := bcell hL)))
    go_ret
    exact ⟨rfl, (by have hB := bstep (w := w) (by go_grown) hL; have hs := hB.size; go_grown)⟩
  cases h3 : validB b0 b1
  · go_enter Try.func72, Try.ntmps72
    go_wp2_with (first | (go_at_call 31; ((with_reducible refine (of_any a0 a1 b0 b1 _).mono ?_); rintro e w1 ⟨rfl, hb⟩; (first | (replace hL := bstep hL hb) | (have hL := hb)); clear hb; replace hc := bcell hL)) | (go_at_call 78; ((with_reducible refine (isSet_any s _).mono ?_); rintro e w1 ⟨rfl, rfl⟩)) | (go_at_call 67; ((with_reducible refine (valid_any a0 a1 _).mono ?_); rintro e w1 ⟨rfl, hb⟩; (first | (replace hL := bstep hL hb) | (have hL := hb)); clear hb; replace hc := bcell hL)) | (go_at_call 67; ((with_reducible refine (valid_any b0 b1 _).mono ?_); rintro e w1 ⟨rfl, hb⟩; (first | (replace hL := bstep hL hb) | (have hL := hb)); clear hb; replace hc := bcell hL)))
    go_ret
    exact ⟨rfl, (by have hB := bstep (w := w) (by go_grown) hL; have hs := hB.size; go_grown)⟩
  obtain ⟨o0, o1⟩ := ofZ_bd a0 a1 b0 b1 h2 h3
  have hof := of_any a0 a1 b0 b1
  obtain ⟨m, rfl⟩ : ∃ m : Nat, s = m := ⟨s.toNat, by simp [isSetB] at h1; omega⟩
  have hm : m < 8192 := by simp [isSetB] at h1; omega
  obtain ⟨r, hr⟩ : ∃ r : Nat, ofZ a0 a1 b0 b1 = r := ⟨(ofZ a0 a1 b0 b1).toNat, by omega⟩
  rw [hr] at o0 o1 hof
  rw [hr]
  simp only [Int.toNat_natCast, Bool.true_and]
  clear hr
  have hbt := bit_test m r (by omega)
  have hge : decide ((0 : Int) ≤ (r : Int)) = true := by simp
  cases hb : m.testBit r
  all_goals
    rw [hb] at hbt
    go_enter Try.func72, Try.ntmps72
    go_wp2_with (first | (go_at_call 31; ((with_reducible refine (hof _).mono ?_); rintro e w1 ⟨rfl, hb⟩; (first | (replace hL := bstep hL hb) | (have hL := hb)); clear hb; replace hc := bcell hL)) | (go_at_call 78; ((with_reducible refine (isSet_any (m : Int) _).mono ?_); rintro e w1 ⟨rfl, rfl⟩)) | (go_at_call 67; ((with_reducible refine (valid_any a0 a1 _).mono ?_); rintro e w1 ⟨rfl, hb⟩; (first | (replace hL := bstep hL hb) | (have hL := hb)); clear hb; replace hc := bcell hL)) | (go_at_call 67; ((with_reducible refine (valid_any b0 b1 _).mono ?_); rintro e w1 ⟨rfl, hb⟩; (first | (replace hL := bstep hL hb) | (have hL := hb)); clear hb; replace hc := bcell hL)))
    go_ret
    exact ⟨rfl, (by have hB := bstep (w := w) (by go_grown) hL; have hs := hB.size; go_grown)⟩
end Go.Proofs.Ytoadihclmnjjnaa.Al
