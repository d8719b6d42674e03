/-
  The walk of the law IntervalDisjoint.
-/
import Derived.Test.YtcgkcdcignkadaaIvN
import Derived.Test.YtcgkcdcignkadaaIvDj
set_option linter.unusedSimpArgs false
set_option linter.unusedVariables false
namespace Go.Proofs.Ytcgkcdcignkadaa.Iv
open Go.RowKit Go.ChangeShapes Go.WideShapes Go.Proofs.Ytcgkcdcignkadaa.Sl

set_option maxHeartbeats 1000000 in
theorem intervalDisjoint_bad1 (a0 a1 b0 b1 : Int) (h : validB a0 a1 = false) (w : World) : Calls Try.prog 4 #[.agg #[.int .i64 a0, .int .i64 a1], .agg #[.int .i64 b0, .int .i64 b1]] w fun e w' => e = .returned (.bool true) ∧ Below w.heap.size w w' := by
  have r1 : ofZ a0 a1 b0 b1 = -1 := by unfold ofZ; rw [if_pos (.inl h)]
  go_enter Try.func4, Try.ntmps4
  go_wp2_with fail
  refine (awake_any _).mono ?_
  rintro e w1 ⟨rfl, hb⟩
  have ca0 : w1.cell? ⟨w.heap.size, 0, none⟩ = some (.int .i64 a0) := cell_kept (by simp) hb
  have ca1 : w1.cell? ⟨w.heap.size, 1, none⟩ = some (.int .i64 a1) := cell_kept (by simp) hb
  have cb0 : w1.cell? ⟨w.heap.size + 1, 0, none⟩ = some (.int .i64 b0) := cell_kept (by simp) hb
  have cb1 : w1.cell? ⟨w.heap.size + 1, 1, none⟩ = some (.int .i64 b1) := cell_kept (by simp) hb
  have hB : Below w.heap.size w w1 := bstep (by go_grown) hb
  clear hb
  have nca0 : w.heap.size < w1.heap.size := block_of_cell ca0
  have ncb0 : w.heap.size + 1 < w1.heap.size := block_of_cell cb0
  go_wp2_with fail
  refine (of_any _ _ _ _ _).mono ?_
  rintro e w2 ⟨rfl, hb⟩
  have hq : Below w1.heap.size w1 w2 := bstep (by go_grown) hb
  replace ca0 := cell_kept ca0 hq
  replace ca1 := cell_kept ca1 hq
  replace cb0 := cell_kept cb0 hq
  replace cb1 := cell_kept cb1 hq
  replace hB := bstep hB hq
  clear hq
  clear hb
  have nca0 : w.heap.size < w2.heap.size := block_of_cell ca0
  have ncb0 : w.heap.size + 1 < w2.heap.size := block_of_cell cb0
  go_wp2_with fail
  refine (valid_any _ _ _).mono ?_
  rintro e w3 ⟨rfl, hb⟩
  have hq : Below w2.heap.size w2 w3 := bstep (by go_grown) hb
  replace ca0 := cell_kept ca0 hq
  replace ca1 := cell_kept ca1 hq
  replace cb0 := cell_kept cb0 hq
  replace cb1 := cell_kept cb1 hq
  replace hB := bstep hB hq
  clear hq
  clear hb
  have nca0 : w.heap.size < w3.heap.size := block_of_cell ca0
  have ncb0 : w.heap.size + 1 < w3.heap.size := block_of_cell cb0
  go_wp2_with fail
  go_ret
  exact ⟨rfl, by go_grown⟩
set_option maxHeartbeats 1000000 in
theorem intervalDisjoint_bad2 (a0 a1 b0 b1 : Int) (h1 : validB a0 a1 = true) (h : validB b0 b1 = false) (w : World) : Calls Try.prog 4 #[.agg #[.int .i64 a0, .int .i64 a1], .agg #[.int .i64 b0, .int .i64 b1]] w fun e w' => e = .returned (.bool true) ∧ Below w.heap.size w w' := by
  have r1 : ofZ a0 a1 b0 b1 = -1 := by unfold ofZ; rw [if_pos (.inr h)]
  go_enter Try.func4, Try.ntmps4
  go_wp2_with fail
  refine (awake_any _).mono ?_
  rintro e w1 ⟨rfl, hb⟩
  have ca0 : w1.cell? ⟨w.heap.size, 0, none⟩ = some (.int .i64 a0) := cell_kept (by simp) hb
  have ca1 : w1.cell? ⟨w.heap.size, 1, none⟩ = some (.int .i64 a1) := cell_kept (by simp) hb
  have cb0 : w1.cell? ⟨w.heap.size + 1, 0, none⟩ = some (.int .i64 b0) := cell_kept (by simp) hb
  have cb1 : w1.cell? ⟨w.heap.size + 1, 1, none⟩ = some (.int .i64 b1) := cell_kept (by simp) hb
  have hB : Below w.heap.size w w1 := bstep (by go_grown) hb
  clear hb
  have nca0 : w.heap.size < w1.heap.size := block_of_cell ca0
  have ncb0 : w.heap.size + 1 < w1.heap.size := block_of_cell cb0
  go_wp2_with fail
  refine (of_any _ _ _ _ _).mono ?_
  rintro e w2 ⟨rfl, hb⟩
  have hq : Below w1.heap.size w1 w2 := bstep (by go_grown) hb
  replace ca0 := cell_kept ca0 hq
  replace ca1 := cell_kept ca1 hq
  replace cb0 := cell_kept cb0 hq
  replace cb1 := cell_kept cb1 hq
  replace hB := bstep hB hq
  clear hq
  clear hb
  have nca0 : w.heap.size < w2.heap.size := block_of_cell ca0
  have ncb0 : w.heap.size + 1 < w2.heap.size := block_of_cell cb0
  go_wp2_with fail
  refine (valid_any _ _ _).mono ?_
  rintro e w3 ⟨rfl, hb⟩
  have hq : Below w2.heap.size w2 w3 := bstep (by go_grown) hb
  replace ca0 := cell_kept ca0 hq
  replace ca1 := cell_kept ca1 hq
  replace cb0 := cell_kept cb0 hq
  replace cb1 := cell_kept cb1 hq
  replace hB := bstep hB hq
  clear hq
  clear hb
  have nca0 : w.heap.size < w3.heap.size := block_of_cell ca0
  have ncb0 : w.heap.size + 1 < w3.heap.size := block_of_cell cb0
  go_wp2_with fail
  refine (valid_any _ _ _).mono ?_
  rintro e w4 ⟨rfl, hb⟩
  have hq : Below w3.heap.size w3 w4 := bstep (by go_grown) hb
  replace ca0 := cell_kept ca0 hq
  replace ca1 := cell_kept ca1 hq
  replace cb0 := cell_kept cb0 hq
  replace cb1 := cell_kept cb1 hq
  replace hB := bstep hB hq
  clear hq
  clear hb
  have nca0 : w.heap.size < w4.heap.size := block_of_cell ca0
  have ncb0 : w.heap.size + 1 < w4.heap.size := block_of_cell cb0
  go_wp2_with fail
  go_ret
  exact ⟨rfl, by go_grown⟩
set_option maxHeartbeats 8000000 in
theorem intervalDisjoint_good (a0 a1 b0 b1 : Int) (ok ins : Bool) (n : Nat) (r : Int) (hr : ofZ a0 a1 b0 b1 = r) (hok : meetB a0 a1 b0 b1 = ok) (hins : ((meetZ a0 a1 b0 b1).1 == a0 && (meetZ a0 a1 b0 b1).2 == a1) = ins) (hn : (minusL a0 a1 b0 b1).length = n) (hc : (r = 0 ∧ ok = false ∧ n = 1) ∨ (r = 1 ∧ ok = false ∧ n = 1) ∨ (r = 2 ∧ ok = true ∧ ins = false ∧ n = 1) ∨ (3 ≤ r ∧ r ≤ 6 ∧ ok = true ∧ ins = true ∧ n = 0) ∨ (r = 7 ∧ ok = true ∧ ins = false ∧ n = 1) ∨ (r = 8 ∧ ok = true ∧ ins = false ∧ n = 2) ∨ (9 ≤ r ∧ r ≤ 10 ∧ ok = true ∧ ins = false ∧ n = 1) ∨ (11 ≤ r ∧ ok = false ∧ n = 1)) (w : World) : Calls Try.prog 4 #[.agg #[.int .i64 a0, .int .i64 a1], .agg #[.int .i64 b0, .int .i64 b1]] w fun e w' => e = .returned (.bool true) ∧ Below w.heap.size w w' := by
  have q := run_eql_span
  rcases hc with ⟨rfl, rfl, rfl⟩ | ⟨rfl, rfl, rfl⟩ | ⟨rfl, rfl, rfl, rfl⟩ | ⟨hr1, hr2, rfl, rfl, rfl⟩ | ⟨rfl, rfl, rfl, rfl⟩ | ⟨rfl, rfl, rfl, rfl⟩ | ⟨hr1, hr2, rfl, rfl, rfl⟩ | ⟨hr1, rfl, rfl⟩
  all_goals (try have h8 : (r == 8) = false := by simp; omega)
  all_goals (try have h66 : decide (r ≤ 6) = false := decide_eq_false (by omega))
  all_goals (try have h11 : decide (r < 11) = false := decide_eq_false (by omega))
  all_goals
    go_enter Try.func4, Try.ntmps4
    go_wp2_with fail
    refine (awake_any _).mono ?_
    rintro e w1 ⟨rfl, hb⟩
    have ca0 : w1.cell? ⟨w.heap.size, 0, none⟩ = some (.int .i64 a0) := cell_kept (by simp) hb
    have ca1 : w1.cell? ⟨w.heap.size, 1, none⟩ = some (.int .i64 a1) := cell_kept (by simp) hb
    have cb0 : w1.cell? ⟨w.heap.size + 1, 0, none⟩ = some (.int .i64 b0) := cell_kept (by simp) hb
    have cb1 : w1.cell? ⟨w.heap.size + 1, 1, none⟩ = some (.int .i64 b1) := cell_kept (by simp) hb
    have hB : Below w.heap.size w w1 := bstep (by go_grown) hb
    clear hb
    have nca0 : w.heap.size < w1.heap.size := block_of_cell ca0
    have ncb0 : w.heap.size + 1 < w1.heap.size := block_of_cell cb0
    go_wp2_with fail
    refine (of_any _ _ _ _ _).mono ?_
    rintro e w2 ⟨rfl, hb⟩
    have hq : Below w1.heap.size w1 w2 := bstep (by go_grown) hb
    replace ca0 := cell_kept ca0 hq
    replace ca1 := cell_kept ca1 hq
    replace cb0 := cell_kept cb0 hq
    replace cb1 := cell_kept cb1 hq
    replace hB := bstep hB hq
    clear hq
    clear hb
    have nca0 : w.heap.size < w2.heap.size := block_of_cell ca0
    have ncb0 : w.heap.size + 1 < w2.heap.size := block_of_cell cb0
    go_wp2_with fail
    refine (meet_any _ _ _ _ _).mono ?_
    rintro e w3 ⟨rfl, hb⟩; unfold spanV
    have hq : Below w2.heap.size w2 w3 := bstep (by go_grown) hb
    replace ca0 := cell_kept ca0 hq
    replace ca1 := cell_kept ca1 hq
    replace cb0 := cell_kept cb0 hq
    replace cb1 := cell_kept cb1 hq
    replace hB := bstep hB hq
    clear hq
    clear hb
    have nca0 : w.heap.size < w3.heap.size := block_of_cell ca0
    have ncb0 : w.heap.size + 1 < w3.heap.size := block_of_cell cb0
    go_wp2_with fail
    refine (minus_any _ _ _ _ _).mono ?_
    rintro e w4 ⟨v, rfl, hsl, hb⟩; obtain ⟨ad1, cp1, rfl⟩ := hsl.form; clear hsl
    have hq : Below w3.heap.size w3 w4 := bstep (by go_grown) hb
    replace ca0 := cell_kept ca0 hq
    replace ca1 := cell_kept ca1 hq
    replace cb0 := cell_kept cb0 hq
    replace cb1 := cell_kept cb1 hq
    have cm0 : w4.cell? ⟨w3.heap.size, 0, none⟩ = some (.int .i64 (meetZ a0 a1 b0 b1).1) := cell_kept (by simp) hb
    have cm1 : w4.cell? ⟨w3.heap.size, 1, none⟩ = some (.int .i64 (meetZ a0 a1 b0 b1).2) := cell_kept (by simp) hb
    replace hB := bstep hB hq
    clear hq
    clear hb
    have nca0 : w.heap.size < w4.heap.size := block_of_cell ca0
    have ncb0 : w.heap.size + 1 < w4.heap.size := block_of_cell cb0
    have ncm0 : w3.heap.size < w4.heap.size := block_of_cell cm0
    go_wp2_with fail
    refine (minus_any _ _ _ _ _).mono ?_
    rintro e w5 ⟨v, rfl, hsl, hb⟩; obtain ⟨ad2, cp2, rfl⟩ := hsl.form; clear hsl
    have hq : Below w4.heap.size w4 w5 := bstep (by go_grown) hb
    replace ca0 := cell_kept ca0 hq
    replace ca1 := cell_kept ca1 hq
    replace cb0 := cell_kept cb0 hq
    replace cb1 := cell_kept cb1 hq
    replace cm0 := cell_kept cm0 hq
    replace cm1 := cell_kept cm1 hq
    replace hB := bstep hB hq
    clear hq
    clear hb
    have nca0 : w.heap.size < w5.heap.size := block_of_cell ca0
    have ncb0 : w.heap.size + 1 < w5.heap.size := block_of_cell cb0
    have ncm0 : w3.heap.size < w5.heap.size := block_of_cell cm0
    go_wp2_with fail
    go_ret
    exact ⟨rfl, by go_grown⟩
theorem intervalDisjoint_walk (a0 a1 b0 b1 : Int) (wa0 : (Lit.int .i64 a0).wf = true) (wa1 : (Lit.int .i64 a1).wf = true) (wb0 : (Lit.int .i64 b0).wf = true) (wb1 : (Lit.int .i64 b1).wf = true)(w : World) : Calls Try.prog 4 #[.agg #[.int .i64 a0, .int .i64 a1], .agg #[.int .i64 b0, .int .i64 b1]] w fun e w' => e = .returned (.bool true) ∧ Below w.heap.size w w' := by
  cases h1 : validB a0 a1
  · exact intervalDisjoint_bad1 _ _ _ _ h1 w
  cases h2 : validB b0 b1
  · exact intervalDisjoint_bad2 _ _ _ _ h1 h2 w
  refine intervalDisjoint_good _ _ _ _ _ _ _ _ rfl rfl rfl rfl ?_ w
  exact disjoint_cases h1 h2
end Go.Proofs.Ytcgkcdcignkadaa.Iv
