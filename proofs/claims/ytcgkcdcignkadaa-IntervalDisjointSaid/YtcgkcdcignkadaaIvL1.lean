/-
  The walk of the law IntervalInverse.
-/
import Derived.Test.YtcgkcdcignkadaaIvW
import Derived.Test.YtcgkcdcignkadaaIvO
set_option linter.unusedSimpArgs false
set_option linter.unusedVariables false
namespace Go.Proofs.Ytcgkcdcignkadaa.Iv
open Go.RowKit Go.ChangeShapes Go.WideShapes Go.Proofs.Ytcgkcdcignkadaa.Sl

theorem ofZ_bad {a0 a1 b0 b1 : Int} (h : bothB a0 a1 b0 b1 = false) : ofZ a0 a1 b0 b1 = -1 := by
  unfold ofZ; rw [if_pos]
  cases h1 : validB a0 a1
  · exact .inl rfl
  · exact .inr (by simpa [bothB, h1] using h)
theorem ofZ_eq {a0 a1 b0 b1 : Int} (h1 : validB a0 a1 = true) (h2 : validB b0 b1 = true) : ofZ a0 a1 b0 b1 = rofZ a0 a1 b0 b1 := (rofZ_eq h1 h2).symm
theorem ofZ_range {a0 a1 b0 b1 : Int} (h1 : validB a0 a1 = true) (h2 : validB b0 b1 = true) : 0 ≤ ofZ a0 a1 b0 b1 ∧ ofZ a0 a1 b0 b1 ≤ 12 := by
  rw [ofZ_eq h1 h2]; unfold rofZ; (repeat' split) <;> omega
theorem ofZ_flip {a0 a1 b0 b1 : Int} (h1 : validB a0 a1 = true) (h2 : validB b0 b1 = true) : ofZ b0 b1 a0 a1 = 12 - ofZ a0 a1 b0 b1 := by
  have v1 := valid_bd h1
  have v2 := valid_bd h2
  rw [ofZ_eq h1 h2, ofZ_eq h2 h1]; unfold rofZ; clear h1 h2; (repeat' split) <;> omega
theorem ofZ_six {a0 a1 b0 b1 : Int} (h1 : validB a0 a1 = true) (h2 : validB b0 b1 = true) : ofZ a0 a1 b0 b1 = 6 ↔ (a0 = b0 ∧ a1 = b1) := by
  have v1 := valid_bd h1
  have v2 := valid_bd h2
  rw [ofZ_eq h1 h2]; unfold rofZ; clear h1 h2; (repeat' split) <;> omega

set_option maxHeartbeats 1000000 in
theorem intervalInverse_bad (a0 a1 b0 b1 : Int) (w : World) (h : validB a0 a1 = false ∨ (validB a0 a1 = true ∧ validB b0 b1 = false)) : Calls Try.prog 3 #[.agg #[.int .i64 a0, .int .i64 a1], .agg #[.int .i64 b0, .int .i64 b1]] w fun e w' => e = .returned (.bool true) ∧ Below w.heap.size w w' := by
  have r1 : ofZ a0 a1 b0 b1 = -1 := ofZ_bad (by rcases h with h | h <;> simp [bothB, h])
  have r2 : ofZ b0 b1 a0 a1 = -1 := ofZ_bad (by rcases h with h | h <;> simp [bothB, h])
  have r3 : invZ (-1) = -1 := by decide
  rcases h with h | ⟨h1, h2⟩
  all_goals
    go_enter Try.func3, Try.ntmps3
    go_wp2_with (first | (go_at_call 11; ((with_reducible refine (awake_any _).mono ?_); rintro e w1 ⟨rfl, hb⟩; (first | (replace hL := bstep hL hb) | (have hL := hb)); clear hb; replace hc := bcell hL)) | (go_at_call 13; ((with_reducible refine (valid_any _ _ _).mono ?_); rintro e w1 ⟨rfl, hb⟩; (first | (replace hL := bstep hL hb) | (have hL := hb)); clear hb; replace hc := bcell hL)) | (go_at_call 12; ((with_reducible refine (of_any _ _ _ _ _).mono ?_); rintro e w1 ⟨rfl, hb⟩; (first | (replace hL := bstep hL hb) | (have hL := hb)); clear hb; replace hc := bcell hL)) | (go_at_call 14; ((with_reducible refine (inverse_any _ _ (by decide)).mono ?_); rintro e w1 ⟨rfl, rfl⟩)))
    go_ret
    exact ⟨rfl, (by have hB := bstep (w := w) (by go_grown) hL; have hs := hB.size; go_grown)⟩
set_option maxHeartbeats 1000000 in
theorem intervalInverse_good (a0 a1 b0 b1 r : Int) (w : World) (h1 : validB a0 a1 = true) (h2 : validB b0 b1 = true) (hr : ofZ a0 a1 b0 b1 = r) (hr0 : 0 ≤ r) (hr12 : r ≤ 12) (hq : ofZ b0 b1 a0 a1 = 12 - r) (hi : invZ r = 12 - r) (hj : invZ (12 - r) = r) (h6 : ((r == 6) == (a0 == b0 && a1 == b1)) = true) : Calls Try.prog 3 #[.agg #[.int .i64 a0, .int .i64 a1], .agg #[.int .i64 b0, .int .i64 b1]] w fun e w' => e = .returned (.bool true) ∧ Below w.heap.size w w' := by
  have q := run_eql_span
  go_enter Try.func3, Try.ntmps3
  go_wp2_with (first | (go_at_call 11; ((with_reducible refine (awake_any _).mono ?_); rintro e w1 ⟨rfl, hb⟩; (first | (replace hL := bstep hL hb) | (have hL := hb)); clear hb; replace hc := bcell hL)) | (go_at_call 13; ((with_reducible refine (valid_any _ _ _).mono ?_); rintro e w1 ⟨rfl, hb⟩; (first | (replace hL := bstep hL hb) | (have hL := hb)); clear hb; replace hc := bcell hL)) | (go_at_call 12; ((with_reducible refine (of_any _ _ _ _ _).mono ?_); rintro e w1 ⟨rfl, hb⟩; (first | (replace hL := bstep hL hb) | (have hL := hb)); clear hb; replace hc := bcell hL)) | (go_at_call 14; refine (inverse_any _ _ (by go_wf)).mono ?_; rintro e w1 ⟨rfl, rfl⟩))
  go_ret
  exact ⟨rfl, (by have hB := bstep (w := w) (by go_grown) hL; have hs := hB.size; go_grown)⟩
theorem intervalInverse_walk (a0 a1 b0 b1 : Int) (wa0 : (Lit.int .i64 a0).wf = true) (wa1 : (Lit.int .i64 a1).wf = true) (wb0 : (Lit.int .i64 b0).wf = true) (wb1 : (Lit.int .i64 b1).wf = true) (w : World) : Calls Try.prog 3 #[.agg #[.int .i64 a0, .int .i64 a1], .agg #[.int .i64 b0, .int .i64 b1]] w fun e w' => e = .returned (.bool true) ∧ Below w.heap.size w w' := by
  cases h1 : validB a0 a1
  · exact intervalInverse_bad _ _ _ _ _ (.inl h1)
  cases h2 : validB b0 b1
  · exact intervalInverse_bad _ _ _ _ _ (.inr ⟨h1, h2⟩)
  obtain ⟨r0, r1⟩ := ofZ_range h1 h2
  refine intervalInverse_good _ _ _ _ _ w h1 h2 rfl r0 r1 (ofZ_flip h1 h2) (by unfold invZ; rw [if_pos ⟨r0, r1⟩]) (by unfold invZ; rw [if_pos (by omega)]; omega) ?_
  rw [beq_iff_eq, Bool.eq_iff_iff, beq_iff_eq, Bool.and_eq_true, beq_iff_eq, beq_iff_eq]
  exact ofZ_six h1 h2
end Go.Proofs.Ytcgkcdcignkadaa.Iv
