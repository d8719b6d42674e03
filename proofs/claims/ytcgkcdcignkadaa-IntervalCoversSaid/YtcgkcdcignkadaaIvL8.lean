/-
  The walk of the law IntervalCovers.
-/
import Derived.Test.YtcgkcdcignkadaaIvN
set_option linter.unusedSimpArgs false
set_option linter.unusedVariables false
namespace Go.Proofs.Ytcgkcdcignkadaa.Iv
open Go.RowKit Go.ChangeShapes Go.WideShapes Go.Proofs.Ytcgkcdcignkadaa.Sl

set_option maxHeartbeats 1000000 in
theorem intervalCovers_bad1 (a0 a1 b0 b1 x : Int) (h : validB a0 a1 = false) (w : World) : Calls Try.prog 10 #[.agg #[.int .i64 a0, .int .i64 a1], .agg #[.int .i64 b0, .int .i64 b1], .int .i64 x] w fun e w' => e = .returned (.bool true) ∧ Below w.heap.size w w' := by
  have r1 : meetB a0 a1 b0 b1 = false := by simp [meetB, h]
  have r2 : hullN a0 a1 b0 b1 = 1 := by unfold hullN; rw [if_neg (by simp [bothB, h])]
  have eL : minusL a0 a1 b0 b1 = [] := minusL_bad (by simp [bothB, h])
  go_enter Try.func10, Try.ntmps10
  go_wp2_with fail
  refine (awake_any _).mono ?_
  rintro e w1 ⟨rfl, hb⟩
  have ca0 : w1.cell? ⟨w.heap.size, 0, none⟩ = some (.int .i64 a0) := cell_kept (by simp) hb
  have ca1 : w1.cell? ⟨w.heap.size, 1, none⟩ = some (.int .i64 a1) := cell_kept (by simp) hb
  have cb0 : w1.cell? ⟨w.heap.size + 1, 0, none⟩ = some (.int .i64 b0) := cell_kept (by simp) hb
  have cb1 : w1.cell? ⟨w.heap.size + 1, 1, none⟩ = some (.int .i64 b1) := cell_kept (by simp) hb
  have hB : Below w.heap.size w w1 := bstep (by go_grown) hb
  clear hb
  have nca0 : w.heap.size < w1.heap.size := block_of_cell ca0
  have ncb0 : w.heap.size + 1 < w1.heap.size := block_of_cell cb0
  go_wp2_with fail
  refine (meet_any _ _ _ _ _).mono ?_
  rintro e w2 ⟨rfl, hb⟩; unfold spanV
  have hq : Below w1.heap.size w1 w2 := bstep (by go_grown) hb
  replace ca0 := cell_kept ca0 hq
  replace ca1 := cell_kept ca1 hq
  replace cb0 := cell_kept cb0 hq
  replace cb1 := cell_kept cb1 hq
  replace hB := bstep hB hq
  clear hq
  clear hb
  have nca0 : w.heap.size < w2.heap.size := block_of_cell ca0
  have ncb0 : w.heap.size + 1 < w2.heap.size := block_of_cell cb0
  go_wp2_with fail
  refine (minus_any _ _ _ _ _).mono ?_
  rintro e w3 ⟨v, rfl, hsl, hb⟩; rw [eL] at hsl; obtain ⟨ad1, cp1, rfl⟩ := hsl.form; clear hsl
  have hq : Below w2.heap.size w2 w3 := bstep (by go_grown) hb
  replace ca0 := cell_kept ca0 hq
  replace ca1 := cell_kept ca1 hq
  replace cb0 := cell_kept cb0 hq
  replace cb1 := cell_kept cb1 hq
  have cm0 : w3.cell? ⟨w2.heap.size, 0, none⟩ = some (.int .i64 (meetZ a0 a1 b0 b1).1) := cell_kept (by simp) hb
  have cm1 : w3.cell? ⟨w2.heap.size, 1, none⟩ = some (.int .i64 (meetZ a0 a1 b0 b1).2) := cell_kept (by simp) hb
  replace hB := bstep hB hq
  clear hq
  clear hb
  have nca0 : w.heap.size < w3.heap.size := block_of_cell ca0
  have ncb0 : w.heap.size + 1 < w3.heap.size := block_of_cell cb0
  have ncm0 : w2.heap.size < w3.heap.size := block_of_cell cm0
  go_wp2_with fail
  refine wp_loop_rounds 1 ?_
  rw [rounds_succ]
  go_wp2_with fail
  refine (hull_anyN _ _ _ _ _).mono ?_
  rintro e w4 ⟨rfl, hb⟩; unfold spanV
  have hq : Below w3.heap.size w3 w4 := bstep (by go_grown) hb
  replace ca0 := cell_kept ca0 hq
  replace ca1 := cell_kept ca1 hq
  replace cb0 := cell_kept cb0 hq
  replace cb1 := cell_kept cb1 hq
  replace cm0 := cell_kept cm0 hq
  replace cm1 := cell_kept cm1 hq
  replace hB := bstep hB hq
  clear hq
  clear hb
  have nca0 : w.heap.size < w4.heap.size := block_of_cell ca0
  have ncb0 : w.heap.size + 1 < w4.heap.size := block_of_cell cb0
  have ncm0 : w2.heap.size < w4.heap.size := block_of_cell cm0
  go_wp2_with fail
  refine (valid_any _ _ _).mono ?_
  rintro e w5 ⟨rfl, hb⟩
  have hq : Below w4.heap.size w4 w5 := bstep (by go_grown) hb
  replace ca0 := cell_kept ca0 hq
  replace ca1 := cell_kept ca1 hq
  replace cb0 := cell_kept cb0 hq
  replace cb1 := cell_kept cb1 hq
  replace cm0 := cell_kept cm0 hq
  replace cm1 := cell_kept cm1 hq
  have ch0 : w5.cell? ⟨w4.heap.size, 0, none⟩ = some (.int .i64 (hullZ a0 a1 b0 b1).1) := cell_kept (by simp) hb
  have ch1 : w5.cell? ⟨w4.heap.size, 1, none⟩ = some (.int .i64 (hullZ a0 a1 b0 b1).2) := cell_kept (by simp) hb
  replace hB := bstep hB hq
  clear hq
  clear hb
  have nca0 : w.heap.size < w5.heap.size := block_of_cell ca0
  have ncb0 : w.heap.size + 1 < w5.heap.size := block_of_cell cb0
  have ncm0 : w2.heap.size < w5.heap.size := block_of_cell cm0
  have nch0 : w4.heap.size < w5.heap.size := block_of_cell ch0
  go_wp2_with fail
  go_ret
  exact ⟨rfl, by go_grown⟩
set_option maxHeartbeats 1000000 in
theorem intervalCovers_bad2 (a0 a1 b0 b1 x : Int) (h1 : validB a0 a1 = true) (h : validB b0 b1 = false) (w : World) : Calls Try.prog 10 #[.agg #[.int .i64 a0, .int .i64 a1], .agg #[.int .i64 b0, .int .i64 b1], .int .i64 x] w fun e w' => e = .returned (.bool true) ∧ Below w.heap.size w w' := by
  have r1 : meetB a0 a1 b0 b1 = false := by simp [meetB, h]
  have r2 : hullN a0 a1 b0 b1 = 1 := by unfold hullN; rw [if_neg (by simp [bothB, h])]
  have eL : minusL a0 a1 b0 b1 = [] := minusL_bad (by simp [bothB, h])
  go_enter Try.func10, Try.ntmps10
  go_wp2_with fail
  refine (awake_any _).mono ?_
  rintro e w1 ⟨rfl, hb⟩
  have ca0 : w1.cell? ⟨w.heap.size, 0, none⟩ = some (.int .i64 a0) := cell_kept (by simp) hb
  have ca1 : w1.cell? ⟨w.heap.size, 1, none⟩ = some (.int .i64 a1) := cell_kept (by simp) hb
  have cb0 : w1.cell? ⟨w.heap.size + 1, 0, none⟩ = some (.int .i64 b0) := cell_kept (by simp) hb
  have cb1 : w1.cell? ⟨w.heap.size + 1, 1, none⟩ = some (.int .i64 b1) := cell_kept (by simp) hb
  have hB : Below w.heap.size w w1 := bstep (by go_grown) hb
  clear hb
  have nca0 : w.heap.size < w1.heap.size := block_of_cell ca0
  have ncb0 : w.heap.size + 1 < w1.heap.size := block_of_cell cb0
  go_wp2_with fail
  refine (meet_any _ _ _ _ _).mono ?_
  rintro e w2 ⟨rfl, hb⟩; unfold spanV
  have hq : Below w1.heap.size w1 w2 := bstep (by go_grown) hb
  replace ca0 := cell_kept ca0 hq
  replace ca1 := cell_kept ca1 hq
  replace cb0 := cell_kept cb0 hq
  replace cb1 := cell_kept cb1 hq
  replace hB := bstep hB hq
  clear hq
  clear hb
  have nca0 : w.heap.size < w2.heap.size := block_of_cell ca0
  have ncb0 : w.heap.size + 1 < w2.heap.size := block_of_cell cb0
  go_wp2_with fail
  refine (minus_any _ _ _ _ _).mono ?_
  rintro e w3 ⟨v, rfl, hsl, hb⟩; rw [eL] at hsl; obtain ⟨ad1, cp1, rfl⟩ := hsl.form; clear hsl
  have hq : Below w2.heap.size w2 w3 := bstep (by go_grown) hb
  replace ca0 := cell_kept ca0 hq
  replace ca1 := cell_kept ca1 hq
  replace cb0 := cell_kept cb0 hq
  replace cb1 := cell_kept cb1 hq
  have cm0 : w3.cell? ⟨w2.heap.size, 0, none⟩ = some (.int .i64 (meetZ a0 a1 b0 b1).1) := cell_kept (by simp) hb
  have cm1 : w3.cell? ⟨w2.heap.size, 1, none⟩ = some (.int .i64 (meetZ a0 a1 b0 b1).2) := cell_kept (by simp) hb
  replace hB := bstep hB hq
  clear hq
  clear hb
  have nca0 : w.heap.size < w3.heap.size := block_of_cell ca0
  have ncb0 : w.heap.size + 1 < w3.heap.size := block_of_cell cb0
  have ncm0 : w2.heap.size < w3.heap.size := block_of_cell cm0
  go_wp2_with fail
  refine wp_loop_rounds 1 ?_
  rw [rounds_succ]
  go_wp2_with fail
  refine (hull_anyN _ _ _ _ _).mono ?_
  rintro e w4 ⟨rfl, hb⟩; unfold spanV
  have hq : Below w3.heap.size w3 w4 := bstep (by go_grown) hb
  replace ca0 := cell_kept ca0 hq
  replace ca1 := cell_kept ca1 hq
  replace cb0 := cell_kept cb0 hq
  replace cb1 := cell_kept cb1 hq
  replace cm0 := cell_kept cm0 hq
  replace cm1 := cell_kept cm1 hq
  replace hB := bstep hB hq
  clear hq
  clear hb
  have nca0 : w.heap.size < w4.heap.size := block_of_cell ca0
  have ncb0 : w.heap.size + 1 < w4.heap.size := block_of_cell cb0
  have ncm0 : w2.heap.size < w4.heap.size := block_of_cell cm0
  go_wp2_with fail
  refine (valid_any _ _ _).mono ?_
  rintro e w5 ⟨rfl, hb⟩
  have hq : Below w4.heap.size w4 w5 := bstep (by go_grown) hb
  replace ca0 := cell_kept ca0 hq
  replace ca1 := cell_kept ca1 hq
  replace cb0 := cell_kept cb0 hq
  replace cb1 := cell_kept cb1 hq
  replace cm0 := cell_kept cm0 hq
  replace cm1 := cell_kept cm1 hq
  have ch0 : w5.cell? ⟨w4.heap.size, 0, none⟩ = some (.int .i64 (hullZ a0 a1 b0 b1).1) := cell_kept (by simp) hb
  have ch1 : w5.cell? ⟨w4.heap.size, 1, none⟩ = some (.int .i64 (hullZ a0 a1 b0 b1).2) := cell_kept (by simp) hb
  replace hB := bstep hB hq
  clear hq
  clear hb
  have nca0 : w.heap.size < w5.heap.size := block_of_cell ca0
  have ncb0 : w.heap.size + 1 < w5.heap.size := block_of_cell cb0
  have ncm0 : w2.heap.size < w5.heap.size := block_of_cell cm0
  have nch0 : w4.heap.size < w5.heap.size := block_of_cell ch0
  go_wp2_with fail
  refine (valid_any _ _ _).mono ?_
  rintro e w6 ⟨rfl, hb⟩
  have hq : Below w5.heap.size w5 w6 := bstep (by go_grown) hb
  replace ca0 := cell_kept ca0 hq
  replace ca1 := cell_kept ca1 hq
  replace cb0 := cell_kept cb0 hq
  replace cb1 := cell_kept cb1 hq
  replace cm0 := cell_kept cm0 hq
  replace cm1 := cell_kept cm1 hq
  replace ch0 := cell_kept ch0 hq
  replace ch1 := cell_kept ch1 hq
  replace hB := bstep hB hq
  clear hq
  clear hb
  have nca0 : w.heap.size < w6.heap.size := block_of_cell ca0
  have ncb0 : w.heap.size + 1 < w6.heap.size := block_of_cell cb0
  have ncm0 : w2.heap.size < w6.heap.size := block_of_cell cm0
  have nch0 : w4.heap.size < w6.heap.size := block_of_cell ch0
  go_wp2_with fail
  go_ret
  exact ⟨rfl, by go_grown⟩
end Go.Proofs.Ytcgkcdcignkadaa.Iv
