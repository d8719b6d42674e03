/-
  The walk of the law IntervalMoves.
-/
import Derived.Test.YtcgkcdcignkadaaIvN
set_option linter.unusedSimpArgs false
set_option linter.unusedVariables false
namespace Go.Proofs.Ytcgkcdcignkadaa.Iv
open Go.RowKit Go.ChangeShapes Go.WideShapes Go.Proofs.Ytcgkcdcignkadaa.Sl

theorem moveN_zero {a b n : Int} (h : moveN a b n = 0) : validB a b = true ∧ -8796093022208 ≤ n ∧ n ≤ 8796093022208 ∧ lineB (a + n) = true ∧ lineB (b + n) = true := by
  unfold moveN at h
  by_cases c : validB a b = false
  · rw [if_pos c] at h; cases h
  rw [if_neg c] at h
  by_cases d : n < -8796093022208 ∨ 8796093022208 < n ∨ lineB (a + n) = false ∨ lineB (b + n) = false
  · rw [if_pos d] at h; cases h
  simp only [not_or, Bool.not_eq_false] at c d
  exact ⟨c, by omega, by omega, d.2.2.1, d.2.2.2⟩
set_option maxHeartbeats 1000000 in
theorem intervalMoves_bad (a0 a1 b0 b1 n : Int) (h : (moveN a0 a1 n != 0) = true ∨ (moveN a0 a1 n = 0 ∧ (moveN b0 b1 n != 0) = true)) (w : World) : Calls Try.prog 8 #[.agg #[.int .i64 a0, .int .i64 a1], .agg #[.int .i64 b0, .int .i64 b1], .int .i64 n] w fun e w' => e = .returned (.bool true) ∧ Below w.heap.size w w' := by
  rcases h with h | ⟨h, h2⟩
  all_goals
    go_enter Try.func8, Try.ntmps8
    go_wp2_with fail
    refine (awake_any _).mono ?_
    rintro e w1 ⟨rfl, hb⟩
    have ca0 : w1.cell? ⟨w.heap.size, 0, none⟩ = some (.int .i64 a0) := cell_kept (by simp) hb
    have ca1 : w1.cell? ⟨w.heap.size, 1, none⟩ = some (.int .i64 a1) := cell_kept (by simp) hb
    have cb0 : w1.cell? ⟨w.heap.size + 1, 0, none⟩ = some (.int .i64 b0) := cell_kept (by simp) hb
    have cb1 : w1.cell? ⟨w.heap.size + 1, 1, none⟩ = some (.int .i64 b1) := cell_kept (by simp) hb
    have hB : Below w.heap.size w w1 := bstep (by go_grown) hb
    clear hb
    have nca0 : w.heap.size < w1.heap.size := block_of_cell ca0
    have ncb0 : w.heap.size + 1 < w1.heap.size := block_of_cell cb0
    go_wp2_with fail
    refine (move_any _ _ _ _).mono ?_
    rintro e w2 ⟨rfl, hb⟩; unfold spanV
    have hq : Below w1.heap.size w1 w2 := bstep (by go_grown) hb
    replace ca0 := cell_kept ca0 hq
    replace ca1 := cell_kept ca1 hq
    replace cb0 := cell_kept cb0 hq
    replace cb1 := cell_kept cb1 hq
    replace hB := bstep hB hq
    clear hq
    clear hb
    have nca0 : w.heap.size < w2.heap.size := block_of_cell ca0
    have ncb0 : w.heap.size + 1 < w2.heap.size := block_of_cell cb0
    go_wp2_with fail
    refine (move_any _ _ _ _).mono ?_
    rintro e w3 ⟨rfl, hb⟩; unfold spanV
    have hq : Below w2.heap.size w2 w3 := bstep (by go_grown) hb
    replace ca0 := cell_kept ca0 hq
    replace ca1 := cell_kept ca1 hq
    replace cb0 := cell_kept cb0 hq
    replace cb1 := cell_kept cb1 hq
    have cx0 : w3.cell? ⟨w2.heap.size, 0, none⟩ = some (.int .i64 (moveZ a0 a1 n).1) := cell_kept (by simp) hb
    have cx1 : w3.cell? ⟨w2.heap.size, 1, none⟩ = some (.int .i64 (moveZ a0 a1 n).2) := cell_kept (by simp) hb
    replace hB := bstep hB hq
    clear hq
    clear hb
    have nca0 : w.heap.size < w3.heap.size := block_of_cell ca0
    have ncb0 : w.heap.size + 1 < w3.heap.size := block_of_cell cb0
    have ncx0 : w2.heap.size < w3.heap.size := block_of_cell cx0
    go_wp2_with fail
    go_ret
    exact ⟨rfl, by go_grown⟩
theorem move_back (a b n : Int) (w : World) (h : validB a b = true) (hl : -8796093022208 ≤ n) (hu : n ≤ 8796093022208) (hn : lineB (a + n) = true) (hm : lineB (b + n) = true) : Calls Try.prog 30 #[.agg #[.int .i64 (a + n), .int .i64 (b + n)], .int .i64 (-n)] w fun e w' => e = .returned (.tuple #[.agg #[.int .i64 a, .int .i64 b], .int .i64 0]) ∧ Below w.heap.size w w' := by
  have v := valid_bd h
  have q1 : lineB a = true := by simp [lineB]; omega
  have q2 : lineB b = true := by simp [lineB]; omega
  have e1 : a + n + -n = a := by omega
  have e2 : b + n + -n = b := by omega
  have := move_3 (a + n) (b + n) (-n) w (by simp [validB, hn, hm]; omega) (by omega) (by omega) (by rw [e1]; exact q1) (by rw [e2]; exact q2)
  rwa [e1, e2] at this
theorem ofZ_shift (a0 a1 b0 b1 n : Int) (h1 : validB a0 a1 = true) (h2 : validB b0 b1 = true) (p1 : lineB (a0 + n) = true) (p2 : lineB (a1 + n) = true) (p3 : lineB (b0 + n) = true) (p4 : lineB (b1 + n) = true) : ofZ (a0 + n) (a1 + n) (b0 + n) (b1 + n) = ofZ a0 a1 b0 b1 := by
  have v1 := valid_bd h1
  have v2 := valid_bd h2
  rw [← rofZ_eq h1 h2, ← rofZ_eq (by simp [validB, p1, p2]; omega) (by simp [validB, p3, p4]; omega)]
  have l : ∀ x y : Int, (x + n < y + n) = (x < y) := fun x y => by apply propext; omega
  have e : ∀ x y : Int, (x + n = y + n) = (x = y) := fun x y => by apply propext; omega
  unfold rofZ
  simp only [l, e]
set_option maxHeartbeats 2000000 in
theorem intervalMoves_good (a0 a1 b0 b1 n : Int) (h1 : validB a0 a1 = true) (h2 : validB b0 b1 = true) (hl : -8796093022208 ≤ n) (hu : n ≤ 8796093022208) (p1 : lineB (a0 + n) = true) (p2 : lineB (a1 + n) = true) (p3 : lineB (b0 + n) = true) (p4 : lineB (b1 + n) = true) (w : World) : Calls Try.prog 8 #[.agg #[.int .i64 a0, .int .i64 a1], .agg #[.int .i64 b0, .int .i64 b1], .int .i64 n] w fun e w' => e = .returned (.bool true) ∧ Below w.heap.size w w' := by
  have q := run_eql_span
  have e1 := ofZ_shift a0 a1 b0 b1 n h1 h2 p1 p2 p3 p4
  have e2 : lenZ (a0 + n) (a1 + n) = lenZ a0 a1 := by
    have v1 := valid_bd h1
    unfold lenZ; rw [if_pos h1, if_pos (by simp [validB, p1, p2]; omega)]; omega
  go_enter Try.func8, Try.ntmps8
  go_wp2_with fail
  refine (awake_any _).mono ?_
  rintro e w1 ⟨rfl, hb⟩
  have ca0 : w1.cell? ⟨w.heap.size, 0, none⟩ = some (.int .i64 a0) := cell_kept (by simp) hb
  have ca1 : w1.cell? ⟨w.heap.size, 1, none⟩ = some (.int .i64 a1) := cell_kept (by simp) hb
  have cb0 : w1.cell? ⟨w.heap.size + 1, 0, none⟩ = some (.int .i64 b0) := cell_kept (by simp) hb
  have cb1 : w1.cell? ⟨w.heap.size + 1, 1, none⟩ = some (.int .i64 b1) := cell_kept (by simp) hb
  have hB : Below w.heap.size w w1 := bstep (by go_grown) hb
  clear hb
  have nca0 : w.heap.size < w1.heap.size := block_of_cell ca0
  have ncb0 : w.heap.size + 1 < w1.heap.size := block_of_cell cb0
  go_wp2_with fail
  refine (move_3 a0 a1 n _ h1 hl hu p1 p2).mono ?_
  rintro e w2 ⟨rfl, hb⟩
  have hq : Below w1.heap.size w1 w2 := bstep (by go_grown) hb
  replace ca0 := cell_kept ca0 hq
  replace ca1 := cell_kept ca1 hq
  replace cb0 := cell_kept cb0 hq
  replace cb1 := cell_kept cb1 hq
  replace hB := bstep hB hq
  clear hq
  clear hb
  have nca0 : w.heap.size < w2.heap.size := block_of_cell ca0
  have ncb0 : w.heap.size + 1 < w2.heap.size := block_of_cell cb0
  go_wp2_with fail
  refine (move_3 b0 b1 n _ h2 hl hu p3 p4).mono ?_
  rintro e w3 ⟨rfl, hb⟩
  have hq : Below w2.heap.size w2 w3 := bstep (by go_grown) hb
  replace ca0 := cell_kept ca0 hq
  replace ca1 := cell_kept ca1 hq
  replace cb0 := cell_kept cb0 hq
  replace cb1 := cell_kept cb1 hq
  have cx0 : w3.cell? ⟨w2.heap.size, 0, none⟩ = some (.int .i64 (a0 + n)) := cell_kept (by simp) hb
  have cx1 : w3.cell? ⟨w2.heap.size, 1, none⟩ = some (.int .i64 (a1 + n)) := cell_kept (by simp) hb
  replace hB := bstep hB hq
  clear hq
  clear hb
  have nca0 : w.heap.size < w3.heap.size := block_of_cell ca0
  have ncb0 : w.heap.size + 1 < w3.heap.size := block_of_cell cb0
  have ncx0 : w2.heap.size < w3.heap.size := block_of_cell cx0
  go_wp2_with fail
  refine (move_back a0 a1 n _ h1 hl hu p1 p2).mono ?_
  rintro e w4 ⟨rfl, hb⟩
  have hq : Below w3.heap.size w3 w4 := bstep (by go_grown) hb
  replace ca0 := cell_kept ca0 hq
  replace ca1 := cell_kept ca1 hq
  replace cb0 := cell_kept cb0 hq
  replace cb1 := cell_kept cb1 hq
  replace cx0 := cell_kept cx0 hq
  replace cx1 := cell_kept cx1 hq
  have cy0 : w4.cell? ⟨w3.heap.size, 0, none⟩ = some (.int .i64 (b0 + n)) := cell_kept (by simp) hb
  have cy1 : w4.cell? ⟨w3.heap.size, 1, none⟩ = some (.int .i64 (b1 + n)) := cell_kept (by simp) hb
  replace hB := bstep hB hq
  clear hq
  clear hb
  have nca0 : w.heap.size < w4.heap.size := block_of_cell ca0
  have ncb0 : w.heap.size + 1 < w4.heap.size := block_of_cell cb0
  have ncx0 : w2.heap.size < w4.heap.size := block_of_cell cx0
  have ncy0 : w3.heap.size < w4.heap.size := block_of_cell cy0
  go_wp2_with fail
  have hz := hB.size
  have hq : Below w4.heap.size w4 (w4.alloc (Obj.cells #[.int .i64 a0, .int .i64 a1] 23)) := by go_grown
  have hK : Kp w [(w.heap.size, 0, .int .i64 a0), (w.heap.size, 1, .int .i64 a1), (w.heap.size + 1, 0, .int .i64 b0), (w.heap.size + 1, 1, .int .i64 b1), (w2.heap.size, 0, .int .i64 (a0 + n)), (w2.heap.size, 1, .int .i64 (a1 + n)), (w3.heap.size, 0, .int .i64 (b0 + n)), (w3.heap.size, 1, .int .i64 (b1 + n)), (w4.heap.size, 0, .int .i64 a0), (w4.heap.size, 1, .int .i64 a1)] (w4.alloc (Obj.cells #[.int .i64 a0, .int .i64 a1] 23)).drew := (((((((((((Kp.start (bstep hB hq)).add (w4.heap.size) 1 (.int .i64 a1) (by simp)).add (w4.heap.size) 0 (.int .i64 a0) (by simp)).add (w3.heap.size) 1 (.int .i64 (b1 + n)) (cell_kept cy1 hq)).add (w3.heap.size) 0 (.int .i64 (b0 + n)) (cell_kept cy0 hq)).add (w2.heap.size) 1 (.int .i64 (a1 + n)) (cell_kept cx1 hq)).add (w2.heap.size) 0 (.int .i64 (a0 + n)) (cell_kept cx0 hq)).add (w.heap.size + 1) 1 (.int .i64 b1) (cell_kept cb1 hq)).add (w.heap.size + 1) 0 (.int .i64 b0) (cell_kept cb0 hq)).add (w.heap.size) 1 (.int .i64 a1) (cell_kept ca1 hq)).add (w.heap.size) 0 (.int .i64 a0) (cell_kept ca0 hq)).drew
  have kca0 : ∀ W, Kp w [(w.heap.size, 0, .int .i64 a0), (w.heap.size, 1, .int .i64 a1), (w.heap.size + 1, 0, .int .i64 b0), (w.heap.size + 1, 1, .int .i64 b1), (w2.heap.size, 0, .int .i64 (a0 + n)), (w2.heap.size, 1, .int .i64 (a1 + n)), (w3.heap.size, 0, .int .i64 (b0 + n)), (w3.heap.size, 1, .int .i64 (b1 + n)), (w4.heap.size, 0, .int .i64 a0), (w4.heap.size, 1, .int .i64 a1)] W → W.cell? ⟨w.heap.size, 0, none⟩ = some (.int .i64 a0) := fun _ h => h.at0
  have kca1 : ∀ W, Kp w [(w.heap.size, 0, .int .i64 a0), (w.heap.size, 1, .int .i64 a1), (w.heap.size + 1, 0, .int .i64 b0), (w.heap.size + 1, 1, .int .i64 b1), (w2.heap.size, 0, .int .i64 (a0 + n)), (w2.heap.size, 1, .int .i64 (a1 + n)), (w3.heap.size, 0, .int .i64 (b0 + n)), (w3.heap.size, 1, .int .i64 (b1 + n)), (w4.heap.size, 0, .int .i64 a0), (w4.heap.size, 1, .int .i64 a1)] W → W.cell? ⟨w.heap.size, 1, none⟩ = some (.int .i64 a1) := fun _ h => h.tl.at0
  have kcb0 : ∀ W, Kp w [(w.heap.size, 0, .int .i64 a0), (w.heap.size, 1, .int .i64 a1), (w.heap.size + 1, 0, .int .i64 b0), (w.heap.size + 1, 1, .int .i64 b1), (w2.heap.size, 0, .int .i64 (a0 + n)), (w2.heap.size, 1, .int .i64 (a1 + n)), (w3.heap.size, 0, .int .i64 (b0 + n)), (w3.heap.size, 1, .int .i64 (b1 + n)), (w4.heap.size, 0, .int .i64 a0), (w4.heap.size, 1, .int .i64 a1)] W → W.cell? ⟨w.heap.size + 1, 0, none⟩ = some (.int .i64 b0) := fun _ h => h.tl.tl.at0
  have kcb1 : ∀ W, Kp w [(w.heap.size, 0, .int .i64 a0), (w.heap.size, 1, .int .i64 a1), (w.heap.size + 1, 0, .int .i64 b0), (w.heap.size + 1, 1, .int .i64 b1), (w2.heap.size, 0, .int .i64 (a0 + n)), (w2.heap.size, 1, .int .i64 (a1 + n)), (w3.heap.size, 0, .int .i64 (b0 + n)), (w3.heap.size, 1, .int .i64 (b1 + n)), (w4.heap.size, 0, .int .i64 a0), (w4.heap.size, 1, .int .i64 a1)] W → W.cell? ⟨w.heap.size + 1, 1, none⟩ = some (.int .i64 b1) := fun _ h => h.tl.tl.tl.at0
  have kcx0 : ∀ W, Kp w [(w.heap.size, 0, .int .i64 a0), (w.heap.size, 1, .int .i64 a1), (w.heap.size + 1, 0, .int .i64 b0), (w.heap.size + 1, 1, .int .i64 b1), (w2.heap.size, 0, .int .i64 (a0 + n)), (w2.heap.size, 1, .int .i64 (a1 + n)), (w3.heap.size, 0, .int .i64 (b0 + n)), (w3.heap.size, 1, .int .i64 (b1 + n)), (w4.heap.size, 0, .int .i64 a0), (w4.heap.size, 1, .int .i64 a1)] W → W.cell? ⟨w2.heap.size, 0, none⟩ = some (.int .i64 (a0 + n)) := fun _ h => h.tl.tl.tl.tl.at0
  have kcx1 : ∀ W, Kp w [(w.heap.size, 0, .int .i64 a0), (w.heap.size, 1, .int .i64 a1), (w.heap.size + 1, 0, .int .i64 b0), (w.heap.size + 1, 1, .int .i64 b1), (w2.heap.size, 0, .int .i64 (a0 + n)), (w2.heap.size, 1, .int .i64 (a1 + n)), (w3.heap.size, 0, .int .i64 (b0 + n)), (w3.heap.size, 1, .int .i64 (b1 + n)), (w4.heap.size, 0, .int .i64 a0), (w4.heap.size, 1, .int .i64 a1)] W → W.cell? ⟨w2.heap.size, 1, none⟩ = some (.int .i64 (a1 + n)) := fun _ h => h.tl.tl.tl.tl.tl.at0
  have kcy0 : ∀ W, Kp w [(w.heap.size, 0, .int .i64 a0), (w.heap.size, 1, .int .i64 a1), (w.heap.size + 1, 0, .int .i64 b0), (w.heap.size + 1, 1, .int .i64 b1), (w2.heap.size, 0, .int .i64 (a0 + n)), (w2.heap.size, 1, .int .i64 (a1 + n)), (w3.heap.size, 0, .int .i64 (b0 + n)), (w3.heap.size, 1, .int .i64 (b1 + n)), (w4.heap.size, 0, .int .i64 a0), (w4.heap.size, 1, .int .i64 a1)] W → W.cell? ⟨w3.heap.size, 0, none⟩ = some (.int .i64 (b0 + n)) := fun _ h => h.tl.tl.tl.tl.tl.tl.at0
  have kcy1 : ∀ W, Kp w [(w.heap.size, 0, .int .i64 a0), (w.heap.size, 1, .int .i64 a1), (w.heap.size + 1, 0, .int .i64 b0), (w.heap.size + 1, 1, .int .i64 b1), (w2.heap.size, 0, .int .i64 (a0 + n)), (w2.heap.size, 1, .int .i64 (a1 + n)), (w3.heap.size, 0, .int .i64 (b0 + n)), (w3.heap.size, 1, .int .i64 (b1 + n)), (w4.heap.size, 0, .int .i64 a0), (w4.heap.size, 1, .int .i64 a1)] W → W.cell? ⟨w3.heap.size, 1, none⟩ = some (.int .i64 (b1 + n)) := fun _ h => h.tl.tl.tl.tl.tl.tl.tl.at0
  have kcz0 : ∀ W, Kp w [(w.heap.size, 0, .int .i64 a0), (w.heap.size, 1, .int .i64 a1), (w.heap.size + 1, 0, .int .i64 b0), (w.heap.size + 1, 1, .int .i64 b1), (w2.heap.size, 0, .int .i64 (a0 + n)), (w2.heap.size, 1, .int .i64 (a1 + n)), (w3.heap.size, 0, .int .i64 (b0 + n)), (w3.heap.size, 1, .int .i64 (b1 + n)), (w4.heap.size, 0, .int .i64 a0), (w4.heap.size, 1, .int .i64 a1)] W → W.cell? ⟨w4.heap.size, 0, none⟩ = some (.int .i64 a0) := fun _ h => h.tl.tl.tl.tl.tl.tl.tl.tl.at0
  have kcz1 : ∀ W, Kp w [(w.heap.size, 0, .int .i64 a0), (w.heap.size, 1, .int .i64 a1), (w.heap.size + 1, 0, .int .i64 b0), (w.heap.size + 1, 1, .int .i64 b1), (w2.heap.size, 0, .int .i64 (a0 + n)), (w2.heap.size, 1, .int .i64 (a1 + n)), (w3.heap.size, 0, .int .i64 (b0 + n)), (w3.heap.size, 1, .int .i64 (b1 + n)), (w4.heap.size, 0, .int .i64 a0), (w4.heap.size, 1, .int .i64 a1)] W → W.cell? ⟨w4.heap.size, 1, none⟩ = some (.int .i64 a1) := fun _ h => h.tl.tl.tl.tl.tl.tl.tl.tl.tl.at0
  clear ca0 ca1 cb0 cb1 cx0 cx1 cy0 cy1 hB hz hq
  go_region_held3 (fun W => Kp w [(w.heap.size, 0, .int .i64 a0), (w.heap.size, 1, .int .i64 a1), (w.heap.size + 1, 0, .int .i64 b0), (w.heap.size + 1, 1, .int .i64 b1), (w2.heap.size, 0, .int .i64 (a0 + n)), (w2.heap.size, 1, .int .i64 (a1 + n)), (w3.heap.size, 0, .int .i64 (b0 + n)), (w3.heap.size, 1, .int .i64 (b1 + n)), (w4.heap.size, 0, .int .i64 a0), (w4.heap.size, 1, .int .i64 a1)] W)
    (first | (with_reducible exact hK) | (with_reducible assumption) | (with_reducible exact Kp.step (by assumption) hb) | (with_reducible exact Kp.alloc (by assumption) _))
    (first
     | (go_at_call 12; ((with_reducible refine (of_any _ _ _ _ _).mono ?_); rintro e wn ⟨rfl, hb⟩))
     | (go_at_call 31; ((with_reducible refine (length_anyN _ _ _).mono ?_); rintro e wn ⟨rfl, hb⟩)))
  go_wp2
  go_ret
  exact ⟨rfl, kp_below (by assumption)⟩
theorem intervalMoves_walk (a0 a1 b0 b1 n : Int) (wa0 : (Lit.int .i64 a0).wf = true) (wa1 : (Lit.int .i64 a1).wf = true) (wb0 : (Lit.int .i64 b0).wf = true) (wb1 : (Lit.int .i64 b1).wf = true) (wn : (Lit.int .i64 n).wf = true)(w : World) : Calls Try.prog 8 #[.agg #[.int .i64 a0, .int .i64 a1], .agg #[.int .i64 b0, .int .i64 b1], .int .i64 n] w fun e w' => e = .returned (.bool true) ∧ Below w.heap.size w w' := by
  by_cases c1 : moveN a0 a1 n = 0
  · by_cases c2 : moveN b0 b1 n = 0
    · obtain ⟨h1, hl, hu, p1, p2⟩ := moveN_zero c1
      obtain ⟨h2, _, _, p3, p4⟩ := moveN_zero c2
      exact intervalMoves_good _ _ _ _ _ h1 h2 hl hu p1 p2 p3 p4 w
    · exact intervalMoves_bad _ _ _ _ _ (.inr ⟨c1, by simpa using c2⟩) w
  · exact intervalMoves_bad _ _ _ _ _ (.inl (by simpa using c1)) w
end Go.Proofs.Ytcgkcdcignkadaa.Iv
