/-
  The walk of the law IntervalParts.
-/
import Derived.Test.YtcgkcdcignkadaaIvN
set_option linter.unusedSimpArgs false
set_option linter.unusedVariables false
namespace Go.Proofs.Ytcgkcdcignkadaa.Iv
open Go.RowKit Go.ChangeShapes Go.WideShapes Go.Proofs.Ytcgkcdcignkadaa.Sl

theorem minusL_len (a0 a1 b0 b1 : Int) : (minusL a0 a1 b0 b1).length ≤ maxLen := by
  unfold minusL maxLen; (repeat' split) <;> simp
set_option maxHeartbeats 4000000 in
theorem intervalParts_walk (a0 a1 b0 b1 : Int) (wa0 : (Lit.int .i64 a0).wf = true) (wa1 : (Lit.int .i64 a1).wf = true) (wb0 : (Lit.int .i64 b0).wf = true) (wb1 : (Lit.int .i64 b1).wf = true) (w : World) : Calls Try.prog 7 #[.agg #[.int .i64 a0, .int .i64 a1], .agg #[.int .i64 b0, .int .i64 b1]] w fun e w' => e = .returned (.bool true) ∧ Below w.heap.size w w' := by
  clear wa0 wa1 wb0 wb1
  have q := run_eql_span
  go_enter Try.func7, Try.ntmps7
  go_wp2_with fail
  refine (awake_any _).mono ?_
  rintro e w1 ⟨rfl, hb⟩
  have ca0 : w1.cell? ⟨w.heap.size, 0, none⟩ = some (.int .i64 a0) := cell_kept (by simp) hb
  have ca1 : w1.cell? ⟨w.heap.size, 1, none⟩ = some (.int .i64 a1) := cell_kept (by simp) hb
  have cb0 : w1.cell? ⟨w.heap.size + 1, 0, none⟩ = some (.int .i64 b0) := cell_kept (by simp) hb
  have cb1 : w1.cell? ⟨w.heap.size + 1, 1, none⟩ = some (.int .i64 b1) := cell_kept (by simp) hb
  have hB : Below w.heap.size w w1 := bstep (by go_grown) hb
  clear hb
  have nca0 : w.heap.size < w1.heap.size := block_of_cell ca0
  have ncb0 : w.heap.size + 1 < w1.heap.size := block_of_cell cb0
  go_wp2_with fail
  refine (meet_any _ _ _ _ _).mono ?_
  rintro e w2 ⟨rfl, hb⟩; unfold spanV
  have hq : Below w1.heap.size w1 w2 := bstep (by go_grown) hb
  replace ca0 := cell_kept ca0 hq
  replace ca1 := cell_kept ca1 hq
  replace cb0 := cell_kept cb0 hq
  replace cb1 := cell_kept cb1 hq
  replace hB := bstep hB hq
  clear hq
  clear hb
  have nca0 : w.heap.size < w2.heap.size := block_of_cell ca0
  have ncb0 : w.heap.size + 1 < w2.heap.size := block_of_cell cb0
  go_wp2_with fail
  refine (rmeet_any _ _ _ _ _).mono ?_
  rintro e w3 ⟨rfl, hb⟩; unfold spanV
  have hq : Below w2.heap.size w2 w3 := bstep (by go_grown) hb
  replace ca0 := cell_kept ca0 hq
  replace ca1 := cell_kept ca1 hq
  replace cb0 := cell_kept cb0 hq
  replace cb1 := cell_kept cb1 hq
  have cm0 : w3.cell? ⟨w2.heap.size, 0, none⟩ = some (.int .i64 (meetZ a0 a1 b0 b1).1) := cell_kept (by simp) hb
  have cm1 : w3.cell? ⟨w2.heap.size, 1, none⟩ = some (.int .i64 (meetZ a0 a1 b0 b1).2) := cell_kept (by simp) hb
  replace hB := bstep hB hq
  clear hq
  clear hb
  have nca0 : w.heap.size < w3.heap.size := block_of_cell ca0
  have ncb0 : w.heap.size + 1 < w3.heap.size := block_of_cell cb0
  have ncm0 : w2.heap.size < w3.heap.size := block_of_cell cm0
  go_wp2_with fail
  refine (hull_anyN _ _ _ _ _).mono ?_
  rintro e w4 ⟨rfl, hb⟩; unfold spanV
  have hq : Below w3.heap.size w3 w4 := bstep (by go_grown) hb
  replace ca0 := cell_kept ca0 hq
  replace ca1 := cell_kept ca1 hq
  replace cb0 := cell_kept cb0 hq
  replace cb1 := cell_kept cb1 hq
  replace cm0 := cell_kept cm0 hq
  replace cm1 := cell_kept cm1 hq
  have cn0 : w4.cell? ⟨w3.heap.size, 0, none⟩ = some (.int .i64 (meetZ a0 a1 b0 b1).1) := cell_kept (by simp) hb
  have cn1 : w4.cell? ⟨w3.heap.size, 1, none⟩ = some (.int .i64 (meetZ a0 a1 b0 b1).2) := cell_kept (by simp) hb
  replace hB := bstep hB hq
  clear hq
  clear hb
  have nca0 : w.heap.size < w4.heap.size := block_of_cell ca0
  have ncb0 : w.heap.size + 1 < w4.heap.size := block_of_cell cb0
  have ncm0 : w2.heap.size < w4.heap.size := block_of_cell cm0
  have ncn0 : w3.heap.size < w4.heap.size := block_of_cell cn0
  go_wp2_with fail
  refine (rhull_anyN _ _ _ _ _).mono ?_
  rintro e w5 ⟨rfl, hb⟩; unfold spanV
  have hq : Below w4.heap.size w4 w5 := bstep (by go_grown) hb
  replace ca0 := cell_kept ca0 hq
  replace ca1 := cell_kept ca1 hq
  replace cb0 := cell_kept cb0 hq
  replace cb1 := cell_kept cb1 hq
  replace cm0 := cell_kept cm0 hq
  replace cm1 := cell_kept cm1 hq
  replace cn0 := cell_kept cn0 hq
  replace cn1 := cell_kept cn1 hq
  have ch0 : w5.cell? ⟨w4.heap.size, 0, none⟩ = some (.int .i64 (hullZ a0 a1 b0 b1).1) := cell_kept (by simp) hb
  have ch1 : w5.cell? ⟨w4.heap.size, 1, none⟩ = some (.int .i64 (hullZ a0 a1 b0 b1).2) := cell_kept (by simp) hb
  replace hB := bstep hB hq
  clear hq
  clear hb
  have nca0 : w.heap.size < w5.heap.size := block_of_cell ca0
  have ncb0 : w.heap.size + 1 < w5.heap.size := block_of_cell cb0
  have ncm0 : w2.heap.size < w5.heap.size := block_of_cell cm0
  have ncn0 : w3.heap.size < w5.heap.size := block_of_cell cn0
  have nch0 : w4.heap.size < w5.heap.size := block_of_cell ch0
  go_wp2_with fail
  have hz := hB.size
  have hq : Below w5.heap.size w5 (w5.alloc (Obj.cells #[.int .i64 (hullZ a0 a1 b0 b1).1, .int .i64 (hullZ a0 a1 b0 b1).2] 23)) := by go_grown
  have hK : Kp w [(w.heap.size, 0, .int .i64 a0), (w.heap.size, 1, .int .i64 a1), (w.heap.size + 1, 0, .int .i64 b0), (w.heap.size + 1, 1, .int .i64 b1), (w2.heap.size, 0, .int .i64 (meetZ a0 a1 b0 b1).1), (w2.heap.size, 1, .int .i64 (meetZ a0 a1 b0 b1).2), (w3.heap.size, 0, .int .i64 (meetZ a0 a1 b0 b1).1), (w3.heap.size, 1, .int .i64 (meetZ a0 a1 b0 b1).2), (w4.heap.size, 0, .int .i64 (hullZ a0 a1 b0 b1).1), (w4.heap.size, 1, .int .i64 (hullZ a0 a1 b0 b1).2), (w5.heap.size, 0, .int .i64 (hullZ a0 a1 b0 b1).1), (w5.heap.size, 1, .int .i64 (hullZ a0 a1 b0 b1).2)] (w5.alloc (Obj.cells #[.int .i64 (hullZ a0 a1 b0 b1).1, .int .i64 (hullZ a0 a1 b0 b1).2] 23)).drew := (((((((((((((Kp.start (bstep hB hq)).add (w5.heap.size) 1 (.int .i64 (hullZ a0 a1 b0 b1).2) (by simp)).add (w5.heap.size) 0 (.int .i64 (hullZ a0 a1 b0 b1).1) (by simp)).add (w4.heap.size) 1 (.int .i64 (hullZ a0 a1 b0 b1).2) (cell_kept ch1 hq)).add (w4.heap.size) 0 (.int .i64 (hullZ a0 a1 b0 b1).1) (cell_kept ch0 hq)).add (w3.heap.size) 1 (.int .i64 (meetZ a0 a1 b0 b1).2) (cell_kept cn1 hq)).add (w3.heap.size) 0 (.int .i64 (meetZ a0 a1 b0 b1).1) (cell_kept cn0 hq)).add (w2.heap.size) 1 (.int .i64 (meetZ a0 a1 b0 b1).2) (cell_kept cm1 hq)).add (w2.heap.size) 0 (.int .i64 (meetZ a0 a1 b0 b1).1) (cell_kept cm0 hq)).add (w.heap.size + 1) 1 (.int .i64 b1) (cell_kept cb1 hq)).add (w.heap.size + 1) 0 (.int .i64 b0) (cell_kept cb0 hq)).add (w.heap.size) 1 (.int .i64 a1) (cell_kept ca1 hq)).add (w.heap.size) 0 (.int .i64 a0) (cell_kept ca0 hq)).drew
  have kca0 : ∀ W, Kp w [(w.heap.size, 0, .int .i64 a0), (w.heap.size, 1, .int .i64 a1), (w.heap.size + 1, 0, .int .i64 b0), (w.heap.size + 1, 1, .int .i64 b1), (w2.heap.size, 0, .int .i64 (meetZ a0 a1 b0 b1).1), (w2.heap.size, 1, .int .i64 (meetZ a0 a1 b0 b1).2), (w3.heap.size, 0, .int .i64 (meetZ a0 a1 b0 b1).1), (w3.heap.size, 1, .int .i64 (meetZ a0 a1 b0 b1).2), (w4.heap.size, 0, .int .i64 (hullZ a0 a1 b0 b1).1), (w4.heap.size, 1, .int .i64 (hullZ a0 a1 b0 b1).2), (w5.heap.size, 0, .int .i64 (hullZ a0 a1 b0 b1).1), (w5.heap.size, 1, .int .i64 (hullZ a0 a1 b0 b1).2)] W → W.cell? ⟨w.heap.size, 0, none⟩ = some (.int .i64 a0) := fun _ h => h.at0
  have kca1 : ∀ W, Kp w [(w.heap.size, 0, .int .i64 a0), (w.heap.size, 1, .int .i64 a1), (w.heap.size + 1, 0, .int .i64 b0), (w.heap.size + 1, 1, .int .i64 b1), (w2.heap.size, 0, .int .i64 (meetZ a0 a1 b0 b1).1), (w2.heap.size, 1, .int .i64 (meetZ a0 a1 b0 b1).2), (w3.heap.size, 0, .int .i64 (meetZ a0 a1 b0 b1).1), (w3.heap.size, 1, .int .i64 (meetZ a0 a1 b0 b1).2), (w4.heap.size, 0, .int .i64 (hullZ a0 a1 b0 b1).1), (w4.heap.size, 1, .int .i64 (hullZ a0 a1 b0 b1).2), (w5.heap.size, 0, .int .i64 (hullZ a0 a1 b0 b1).1), (w5.heap.size, 1, .int .i64 (hullZ a0 a1 b0 b1).2)] W → W.cell? ⟨w.heap.size, 1, none⟩ = some (.int .i64 a1) := fun _ h => h.tl.at0
  have kcb0 : ∀ W, Kp w [(w.heap.size, 0, .int .i64 a0), (w.heap.size, 1, .int .i64 a1), (w.heap.size + 1, 0, .int .i64 b0), (w.heap.size + 1, 1, .int .i64 b1), (w2.heap.size, 0, .int .i64 (meetZ a0 a1 b0 b1).1), (w2.heap.size, 1, .int .i64 (meetZ a0 a1 b0 b1).2), (w3.heap.size, 0, .int .i64 (meetZ a0 a1 b0 b1).1), (w3.heap.size, 1, .int .i64 (meetZ a0 a1 b0 b1).2), (w4.heap.size, 0, .int .i64 (hullZ a0 a1 b0 b1).1), (w4.heap.size, 1, .int .i64 (hullZ a0 a1 b0 b1).2), (w5.heap.size, 0, .int .i64 (hullZ a0 a1 b0 b1).1), (w5.heap.size, 1, .int .i64 (hullZ a0 a1 b0 b1).2)] W → W.cell? ⟨w.heap.size + 1, 0, none⟩ = some (.int .i64 b0) := fun _ h => h.tl.tl.at0
  have kcb1 : ∀ W, Kp w [(w.heap.size, 0, .int .i64 a0), (w.heap.size, 1, .int .i64 a1), (w.heap.size + 1, 0, .int .i64 b0), (w.heap.size + 1, 1, .int .i64 b1), (w2.heap.size, 0, .int .i64 (meetZ a0 a1 b0 b1).1), (w2.heap.size, 1, .int .i64 (meetZ a0 a1 b0 b1).2), (w3.heap.size, 0, .int .i64 (meetZ a0 a1 b0 b1).1), (w3.heap.size, 1, .int .i64 (meetZ a0 a1 b0 b1).2), (w4.heap.size, 0, .int .i64 (hullZ a0 a1 b0 b1).1), (w4.heap.size, 1, .int .i64 (hullZ a0 a1 b0 b1).2), (w5.heap.size, 0, .int .i64 (hullZ a0 a1 b0 b1).1), (w5.heap.size, 1, .int .i64 (hullZ a0 a1 b0 b1).2)] W → W.cell? ⟨w.heap.size + 1, 1, none⟩ = some (.int .i64 b1) := fun _ h => h.tl.tl.tl.at0
  have kcm0 : ∀ W, Kp w [(w.heap.size, 0, .int .i64 a0), (w.heap.size, 1, .int .i64 a1), (w.heap.size + 1, 0, .int .i64 b0), (w.heap.size + 1, 1, .int .i64 b1), (w2.heap.size, 0, .int .i64 (meetZ a0 a1 b0 b1).1), (w2.heap.size, 1, .int .i64 (meetZ a0 a1 b0 b1).2), (w3.heap.size, 0, .int .i64 (meetZ a0 a1 b0 b1).1), (w3.heap.size, 1, .int .i64 (meetZ a0 a1 b0 b1).2), (w4.heap.size, 0, .int .i64 (hullZ a0 a1 b0 b1).1), (w4.heap.size, 1, .int .i64 (hullZ a0 a1 b0 b1).2), (w5.heap.size, 0, .int .i64 (hullZ a0 a1 b0 b1).1), (w5.heap.size, 1, .int .i64 (hullZ a0 a1 b0 b1).2)] W → W.cell? ⟨w2.heap.size, 0, none⟩ = some (.int .i64 (meetZ a0 a1 b0 b1).1) := fun _ h => h.tl.tl.tl.tl.at0
  have kcm1 : ∀ W, Kp w [(w.heap.size, 0, .int .i64 a0), (w.heap.size, 1, .int .i64 a1), (w.heap.size + 1, 0, .int .i64 b0), (w.heap.size + 1, 1, .int .i64 b1), (w2.heap.size, 0, .int .i64 (meetZ a0 a1 b0 b1).1), (w2.heap.size, 1, .int .i64 (meetZ a0 a1 b0 b1).2), (w3.heap.size, 0, .int .i64 (meetZ a0 a1 b0 b1).1), (w3.heap.size, 1, .int .i64 (meetZ a0 a1 b0 b1).2), (w4.heap.size, 0, .int .i64 (hullZ a0 a1 b0 b1).1), (w4.heap.size, 1, .int .i64 (hullZ a0 a1 b0 b1).2), (w5.heap.size, 0, .int .i64 (hullZ a0 a1 b0 b1).1), (w5.heap.size, 1, .int .i64 (hullZ a0 a1 b0 b1).2)] W → W.cell? ⟨w2.heap.size, 1, none⟩ = some (.int .i64 (meetZ a0 a1 b0 b1).2) := fun _ h => h.tl.tl.tl.tl.tl.at0
  have kcn0 : ∀ W, Kp w [(w.heap.size, 0, .int .i64 a0), (w.heap.size, 1, .int .i64 a1), (w.heap.size + 1, 0, .int .i64 b0), (w.heap.size + 1, 1, .int .i64 b1), (w2.heap.size, 0, .int .i64 (meetZ a0 a1 b0 b1).1), (w2.heap.size, 1, .int .i64 (meetZ a0 a1 b0 b1).2), (w3.heap.size, 0, .int .i64 (meetZ a0 a1 b0 b1).1), (w3.heap.size, 1, .int .i64 (meetZ a0 a1 b0 b1).2), (w4.heap.size, 0, .int .i64 (hullZ a0 a1 b0 b1).1), (w4.heap.size, 1, .int .i64 (hullZ a0 a1 b0 b1).2), (w5.heap.size, 0, .int .i64 (hullZ a0 a1 b0 b1).1), (w5.heap.size, 1, .int .i64 (hullZ a0 a1 b0 b1).2)] W → W.cell? ⟨w3.heap.size, 0, none⟩ = some (.int .i64 (meetZ a0 a1 b0 b1).1) := fun _ h => h.tl.tl.tl.tl.tl.tl.at0
  have kcn1 : ∀ W, Kp w [(w.heap.size, 0, .int .i64 a0), (w.heap.size, 1, .int .i64 a1), (w.heap.size + 1, 0, .int .i64 b0), (w.heap.size + 1, 1, .int .i64 b1), (w2.heap.size, 0, .int .i64 (meetZ a0 a1 b0 b1).1), (w2.heap.size, 1, .int .i64 (meetZ a0 a1 b0 b1).2), (w3.heap.size, 0, .int .i64 (meetZ a0 a1 b0 b1).1), (w3.heap.size, 1, .int .i64 (meetZ a0 a1 b0 b1).2), (w4.heap.size, 0, .int .i64 (hullZ a0 a1 b0 b1).1), (w4.heap.size, 1, .int .i64 (hullZ a0 a1 b0 b1).2), (w5.heap.size, 0, .int .i64 (hullZ a0 a1 b0 b1).1), (w5.heap.size, 1, .int .i64 (hullZ a0 a1 b0 b1).2)] W → W.cell? ⟨w3.heap.size, 1, none⟩ = some (.int .i64 (meetZ a0 a1 b0 b1).2) := fun _ h => h.tl.tl.tl.tl.tl.tl.tl.at0
  have kch0 : ∀ W, Kp w [(w.heap.size, 0, .int .i64 a0), (w.heap.size, 1, .int .i64 a1), (w.heap.size + 1, 0, .int .i64 b0), (w.heap.size + 1, 1, .int .i64 b1), (w2.heap.size, 0, .int .i64 (meetZ a0 a1 b0 b1).1), (w2.heap.size, 1, .int .i64 (meetZ a0 a1 b0 b1).2), (w3.heap.size, 0, .int .i64 (meetZ a0 a1 b0 b1).1), (w3.heap.size, 1, .int .i64 (meetZ a0 a1 b0 b1).2), (w4.heap.size, 0, .int .i64 (hullZ a0 a1 b0 b1).1), (w4.heap.size, 1, .int .i64 (hullZ a0 a1 b0 b1).2), (w5.heap.size, 0, .int .i64 (hullZ a0 a1 b0 b1).1), (w5.heap.size, 1, .int .i64 (hullZ a0 a1 b0 b1).2)] W → W.cell? ⟨w4.heap.size, 0, none⟩ = some (.int .i64 (hullZ a0 a1 b0 b1).1) := fun _ h => h.tl.tl.tl.tl.tl.tl.tl.tl.at0
  have kch1 : ∀ W, Kp w [(w.heap.size, 0, .int .i64 a0), (w.heap.size, 1, .int .i64 a1), (w.heap.size + 1, 0, .int .i64 b0), (w.heap.size + 1, 1, .int .i64 b1), (w2.heap.size, 0, .int .i64 (meetZ a0 a1 b0 b1).1), (w2.heap.size, 1, .int .i64 (meetZ a0 a1 b0 b1).2), (w3.heap.size, 0, .int .i64 (meetZ a0 a1 b0 b1).1), (w3.heap.size, 1, .int .i64 (meetZ a0 a1 b0 b1).2), (w4.heap.size, 0, .int .i64 (hullZ a0 a1 b0 b1).1), (w4.heap.size, 1, .int .i64 (hullZ a0 a1 b0 b1).2), (w5.heap.size, 0, .int .i64 (hullZ a0 a1 b0 b1).1), (w5.heap.size, 1, .int .i64 (hullZ a0 a1 b0 b1).2)] W → W.cell? ⟨w4.heap.size, 1, none⟩ = some (.int .i64 (hullZ a0 a1 b0 b1).2) := fun _ h => h.tl.tl.tl.tl.tl.tl.tl.tl.tl.at0
  have kci0 : ∀ W, Kp w [(w.heap.size, 0, .int .i64 a0), (w.heap.size, 1, .int .i64 a1), (w.heap.size + 1, 0, .int .i64 b0), (w.heap.size + 1, 1, .int .i64 b1), (w2.heap.size, 0, .int .i64 (meetZ a0 a1 b0 b1).1), (w2.heap.size, 1, .int .i64 (meetZ a0 a1 b0 b1).2), (w3.heap.size, 0, .int .i64 (meetZ a0 a1 b0 b1).1), (w3.heap.size, 1, .int .i64 (meetZ a0 a1 b0 b1).2), (w4.heap.size, 0, .int .i64 (hullZ a0 a1 b0 b1).1), (w4.heap.size, 1, .int .i64 (hullZ a0 a1 b0 b1).2), (w5.heap.size, 0, .int .i64 (hullZ a0 a1 b0 b1).1), (w5.heap.size, 1, .int .i64 (hullZ a0 a1 b0 b1).2)] W → W.cell? ⟨w5.heap.size, 0, none⟩ = some (.int .i64 (hullZ a0 a1 b0 b1).1) := fun _ h => h.tl.tl.tl.tl.tl.tl.tl.tl.tl.tl.at0
  have kci1 : ∀ W, Kp w [(w.heap.size, 0, .int .i64 a0), (w.heap.size, 1, .int .i64 a1), (w.heap.size + 1, 0, .int .i64 b0), (w.heap.size + 1, 1, .int .i64 b1), (w2.heap.size, 0, .int .i64 (meetZ a0 a1 b0 b1).1), (w2.heap.size, 1, .int .i64 (meetZ a0 a1 b0 b1).2), (w3.heap.size, 0, .int .i64 (meetZ a0 a1 b0 b1).1), (w3.heap.size, 1, .int .i64 (meetZ a0 a1 b0 b1).2), (w4.heap.size, 0, .int .i64 (hullZ a0 a1 b0 b1).1), (w4.heap.size, 1, .int .i64 (hullZ a0 a1 b0 b1).2), (w5.heap.size, 0, .int .i64 (hullZ a0 a1 b0 b1).1), (w5.heap.size, 1, .int .i64 (hullZ a0 a1 b0 b1).2)] W → W.cell? ⟨w5.heap.size, 1, none⟩ = some (.int .i64 (hullZ a0 a1 b0 b1).2) := fun _ h => h.tl.tl.tl.tl.tl.tl.tl.tl.tl.tl.tl.at0
  clear ca0 ca1 cb0 cb1 cm0 cm1 cn0 cn1 ch0 ch1 hB hz hq
  go_region_held3 (fun W => Kp w [(w.heap.size, 0, .int .i64 a0), (w.heap.size, 1, .int .i64 a1), (w.heap.size + 1, 0, .int .i64 b0), (w.heap.size + 1, 1, .int .i64 b1), (w2.heap.size, 0, .int .i64 (meetZ a0 a1 b0 b1).1), (w2.heap.size, 1, .int .i64 (meetZ a0 a1 b0 b1).2), (w3.heap.size, 0, .int .i64 (meetZ a0 a1 b0 b1).1), (w3.heap.size, 1, .int .i64 (meetZ a0 a1 b0 b1).2), (w4.heap.size, 0, .int .i64 (hullZ a0 a1 b0 b1).1), (w4.heap.size, 1, .int .i64 (hullZ a0 a1 b0 b1).2), (w5.heap.size, 0, .int .i64 (hullZ a0 a1 b0 b1).1), (w5.heap.size, 1, .int .i64 (hullZ a0 a1 b0 b1).2)] W)
    (first | (with_reducible exact hK) | (with_reducible exact Kp.step (by assumption) hb) | (with_reducible exact Kp.alloc (by assumption) _))
    (first
     | (go_at_call 16; ((with_reducible refine (minus_any _ _ _ _ _).mono ?_); rintro e wn ⟨v, rfl, hsl, hb⟩))
     | (go_at_call 29; ((with_reducible refine (rminus_any _ _ _ _ _).mono ?_); rintro e wn ⟨v2, rfl, hsl2, hb⟩; replace hsl := hsl.below hb))
     | (go_at_call 28; refine (eqspans_any v v2 _ _ _ hsl hsl2 (minusL_len _ _ _ _)).mono ?_; rintro e wn ⟨rfl, hb⟩))
  go_wp2
  go_ret
  exact ⟨rfl, kp_below (by assumption)⟩
end Go.Proofs.Ytcgkcdcignkadaa.Iv
