/-
  The walk of the law IntervalPoints.
-/
import Derived.Test.YtcgkcdcignkadaaIvN
set_option linter.unusedSimpArgs false
set_option linter.unusedVariables false
namespace Go.Proofs.Ytcgkcdcignkadaa.Iv
open Go.RowKit Go.ChangeShapes Go.WideShapes Go.Proofs.Ytcgkcdcignkadaa.Sl

set_option maxHeartbeats 4000000 in
theorem intervalPoints_bad (s0 s1 x n : Int) (h : validB s0 s1 = false) (w : World) : Calls Try.prog 9 #[.agg #[.int .i64 s0, .int .i64 s1], .int .i64 x, .int .i64 n] w fun e w' => e = .returned (.bool true) ∧ Below w.heap.size w w' := by
  have q := run_eql_span
  have e1 : lenZ s0 s1 = 0 := by unfold lenZ; rw [if_neg (by simp [h])]
  go_enter Try.func9, Try.ntmps9
  go_wp2_with fail
  refine (awake_any _).mono ?_
  rintro e w1 ⟨rfl, hb⟩
  have ca0 : w1.cell? ⟨w.heap.size, 0, none⟩ = some (.int .i64 s0) := cell_kept (by simp) hb
  have ca1 : w1.cell? ⟨w.heap.size, 1, none⟩ = some (.int .i64 s1) := cell_kept (by simp) hb
  have hB : Below w.heap.size w w1 := bstep (by go_grown) hb
  clear hb
  have nca0 : w.heap.size < w1.heap.size := block_of_cell ca0
  go_wp2_with fail
  refine (rvalid_any _ _ _).mono ?_
  rintro e w2 ⟨rfl, hb⟩
  have hq : Below w1.heap.size w1 w2 := bstep (by go_grown) hb
  replace ca0 := cell_kept ca0 hq
  replace ca1 := cell_kept ca1 hq
  replace hB := bstep hB hq
  clear hq
  clear hb
  have nca0 : w.heap.size < w2.heap.size := block_of_cell ca0
  go_wp2_with fail
  refine (move_any _ _ _ _).mono ?_
  rintro e w3 ⟨rfl, hb⟩; unfold spanV
  have hq : Below w2.heap.size w2 w3 := bstep (by go_grown) hb
  replace ca0 := cell_kept ca0 hq
  replace ca1 := cell_kept ca1 hq
  replace hB := bstep hB hq
  clear hq
  clear hb
  have nca0 : w.heap.size < w3.heap.size := block_of_cell ca0
  go_wp2_with fail
  refine (rmove_any _ _ _ _).mono ?_
  rintro e w4 ⟨rfl, hb⟩; unfold spanV
  have hq : Below w3.heap.size w3 w4 := bstep (by go_grown) hb
  replace ca0 := cell_kept ca0 hq
  replace ca1 := cell_kept ca1 hq
  have cm0 : w4.cell? ⟨w3.heap.size, 0, none⟩ = some (.int .i64 (moveZ s0 s1 n).1) := cell_kept (by simp) hb
  have cm1 : w4.cell? ⟨w3.heap.size, 1, none⟩ = some (.int .i64 (moveZ s0 s1 n).2) := cell_kept (by simp) hb
  replace hB := bstep hB hq
  clear hq
  clear hb
  have nca0 : w.heap.size < w4.heap.size := block_of_cell ca0
  have ncm0 : w3.heap.size < w4.heap.size := block_of_cell cm0
  go_wp2_with fail
  refine (valid_any _ _ _).mono ?_
  rintro e w5 ⟨rfl, hb⟩
  have hq : Below w4.heap.size w4 w5 := bstep (by go_grown) hb
  replace ca0 := cell_kept ca0 hq
  replace ca1 := cell_kept ca1 hq
  replace cm0 := cell_kept cm0 hq
  replace cm1 := cell_kept cm1 hq
  have ck0 : w5.cell? ⟨w4.heap.size, 0, none⟩ = some (.int .i64 (moveZ s0 s1 n).1) := cell_kept (by simp) hb
  have ck1 : w5.cell? ⟨w4.heap.size, 1, none⟩ = some (.int .i64 (moveZ s0 s1 n).2) := cell_kept (by simp) hb
  replace hB := bstep hB hq
  clear hq
  clear hb
  have nca0 : w.heap.size < w5.heap.size := block_of_cell ca0
  have ncm0 : w3.heap.size < w5.heap.size := block_of_cell cm0
  have nck0 : w4.heap.size < w5.heap.size := block_of_cell ck0
  go_wp2_with fail
  refine (has_any _ _ _ _).mono ?_
  rintro e w6 ⟨rfl, hb⟩
  have hq : Below w5.heap.size w5 w6 := bstep (by go_grown) hb
  replace ca0 := cell_kept ca0 hq
  replace ca1 := cell_kept ca1 hq
  replace cm0 := cell_kept cm0 hq
  replace cm1 := cell_kept cm1 hq
  replace ck0 := cell_kept ck0 hq
  replace ck1 := cell_kept ck1 hq
  replace hB := bstep hB hq
  clear hq
  clear hb
  have nca0 : w.heap.size < w6.heap.size := block_of_cell ca0
  have ncm0 : w3.heap.size < w6.heap.size := block_of_cell cm0
  have nck0 : w4.heap.size < w6.heap.size := block_of_cell ck0
  go_wp2_with fail
  refine (length_anyN _ _ _).mono ?_
  rintro e w7 ⟨rfl, hb⟩
  have hq : Below w6.heap.size w6 w7 := bstep (by go_grown) hb
  replace ca0 := cell_kept ca0 hq
  replace ca1 := cell_kept ca1 hq
  replace cm0 := cell_kept cm0 hq
  replace cm1 := cell_kept cm1 hq
  replace ck0 := cell_kept ck0 hq
  replace ck1 := cell_kept ck1 hq
  replace hB := bstep hB hq
  clear hq
  clear hb
  have nca0 : w.heap.size < w7.heap.size := block_of_cell ca0
  have ncm0 : w3.heap.size < w7.heap.size := block_of_cell cm0
  have nck0 : w4.heap.size < w7.heap.size := block_of_cell ck0
  go_wp2_with fail
  go_ret
  exact ⟨rfl, by go_grown⟩
set_option maxHeartbeats 4000000 in
theorem intervalPoints_good (s0 s1 x n : Int) (h : validB s0 s1 = true) (hx : s0 ≤ x ∨ x < s0) (b1 : -4398046511104 ≤ s0) (b2 : s1 ≤ 4398046511104) (b3 : s0 < s1) (w : World) : Calls Try.prog 9 #[.agg #[.int .i64 s0, .int .i64 s1], .int .i64 x, .int .i64 n] w fun e w' => e = .returned (.bool true) ∧ Below w.heap.size w w' := by
  have q := run_eql_span
  have e1 : lenZ s0 s1 = s1 - s0 := by unfold lenZ; rw [if_pos h]
  rcases hx with hx | hx
  all_goals
    go_enter Try.func9, Try.ntmps9
    go_wp2_with fail
    refine (awake_any _).mono ?_
    rintro e w1 ⟨rfl, hb⟩
    have ca0 : w1.cell? ⟨w.heap.size, 0, none⟩ = some (.int .i64 s0) := cell_kept (by simp) hb
    have ca1 : w1.cell? ⟨w.heap.size, 1, none⟩ = some (.int .i64 s1) := cell_kept (by simp) hb
    have hB : Below w.heap.size w w1 := bstep (by go_grown) hb
    clear hb
    have nca0 : w.heap.size < w1.heap.size := block_of_cell ca0
    go_wp2_with fail
    refine (rvalid_any _ _ _).mono ?_
    rintro e w2 ⟨rfl, hb⟩
    have hq : Below w1.heap.size w1 w2 := bstep (by go_grown) hb
    replace ca0 := cell_kept ca0 hq
    replace ca1 := cell_kept ca1 hq
    replace hB := bstep hB hq
    clear hq
    clear hb
    have nca0 : w.heap.size < w2.heap.size := block_of_cell ca0
    go_wp2_with fail
    refine (move_any _ _ _ _).mono ?_
    rintro e w3 ⟨rfl, hb⟩; unfold spanV
    have hq : Below w2.heap.size w2 w3 := bstep (by go_grown) hb
    replace ca0 := cell_kept ca0 hq
    replace ca1 := cell_kept ca1 hq
    replace hB := bstep hB hq
    clear hq
    clear hb
    have nca0 : w.heap.size < w3.heap.size := block_of_cell ca0
    go_wp2_with fail
    refine (rmove_any _ _ _ _).mono ?_
    rintro e w4 ⟨rfl, hb⟩; unfold spanV
    have hq : Below w3.heap.size w3 w4 := bstep (by go_grown) hb
    replace ca0 := cell_kept ca0 hq
    replace ca1 := cell_kept ca1 hq
    have cm0 : w4.cell? ⟨w3.heap.size, 0, none⟩ = some (.int .i64 (moveZ s0 s1 n).1) := cell_kept (by simp) hb
    have cm1 : w4.cell? ⟨w3.heap.size, 1, none⟩ = some (.int .i64 (moveZ s0 s1 n).2) := cell_kept (by simp) hb
    replace hB := bstep hB hq
    clear hq
    clear hb
    have nca0 : w.heap.size < w4.heap.size := block_of_cell ca0
    have ncm0 : w3.heap.size < w4.heap.size := block_of_cell cm0
    go_wp2_with fail
    refine (valid_any _ _ _).mono ?_
    rintro e w5 ⟨rfl, hb⟩
    have hq : Below w4.heap.size w4 w5 := bstep (by go_grown) hb
    replace ca0 := cell_kept ca0 hq
    replace ca1 := cell_kept ca1 hq
    replace cm0 := cell_kept cm0 hq
    replace cm1 := cell_kept cm1 hq
    have ck0 : w5.cell? ⟨w4.heap.size, 0, none⟩ = some (.int .i64 (moveZ s0 s1 n).1) := cell_kept (by simp) hb
    have ck1 : w5.cell? ⟨w4.heap.size, 1, none⟩ = some (.int .i64 (moveZ s0 s1 n).2) := cell_kept (by simp) hb
    replace hB := bstep hB hq
    clear hq
    clear hb
    have nca0 : w.heap.size < w5.heap.size := block_of_cell ca0
    have ncm0 : w3.heap.size < w5.heap.size := block_of_cell cm0
    have nck0 : w4.heap.size < w5.heap.size := block_of_cell ck0
    go_wp2_with fail
    refine (has_any _ _ _ _).mono ?_
    rintro e w6 ⟨rfl, hb⟩
    have hq : Below w5.heap.size w5 w6 := bstep (by go_grown) hb
    replace ca0 := cell_kept ca0 hq
    replace ca1 := cell_kept ca1 hq
    replace cm0 := cell_kept cm0 hq
    replace cm1 := cell_kept cm1 hq
    replace ck0 := cell_kept ck0 hq
    replace ck1 := cell_kept ck1 hq
    replace hB := bstep hB hq
    clear hq
    clear hb
    have nca0 : w.heap.size < w6.heap.size := block_of_cell ca0
    have ncm0 : w3.heap.size < w6.heap.size := block_of_cell cm0
    have nck0 : w4.heap.size < w6.heap.size := block_of_cell ck0
    go_wp2_with fail
    refine (length_anyN _ _ _).mono ?_
    rintro e w7 ⟨rfl, hb⟩
    have hq : Below w6.heap.size w6 w7 := bstep (by go_grown) hb
    replace ca0 := cell_kept ca0 hq
    replace ca1 := cell_kept ca1 hq
    replace cm0 := cell_kept cm0 hq
    replace cm1 := cell_kept cm1 hq
    replace ck0 := cell_kept ck0 hq
    replace ck1 := cell_kept ck1 hq
    replace hB := bstep hB hq
    clear hq
    clear hb
    have nca0 : w.heap.size < w7.heap.size := block_of_cell ca0
    have ncm0 : w3.heap.size < w7.heap.size := block_of_cell cm0
    have nck0 : w4.heap.size < w7.heap.size := block_of_cell ck0
    go_wp2_with fail
    go_ret
    exact ⟨rfl, by go_grown⟩
theorem intervalPoints_walk (s0 s1 x n : Int) (ws0 : (Lit.int .i64 s0).wf = true) (ws1 : (Lit.int .i64 s1).wf = true) (wx : (Lit.int .i64 x).wf = true) (wn : (Lit.int .i64 n).wf = true)(w : World) : Calls Try.prog 9 #[.agg #[.int .i64 s0, .int .i64 s1], .int .i64 x, .int .i64 n] w fun e w' => e = .returned (.bool true) ∧ Below w.heap.size w w' := by
  cases h : validB s0 s1
  · exact intervalPoints_bad _ _ _ _ h w
  · have v := valid_bd h
    exact intervalPoints_good _ _ _ _ h (by omega) (by omega) (by omega) (by omega) w
end Go.Proofs.Ytcgkcdcignkadaa.Iv
