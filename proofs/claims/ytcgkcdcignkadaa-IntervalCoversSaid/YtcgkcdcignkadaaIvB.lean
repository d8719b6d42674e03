/-
  The walks of layer 10's Inverse, Meet, Hull, Has, Length, Move of the program civiltime.
-/
import Derived.Test.YtcgkcdcignkadaaIvA
set_option linter.unusedSimpArgs false
set_option linter.unusedVariables false
namespace Go.Proofs.Ytcgkcdcignkadaa.Iv
open Go.RowKit Go.ChangeShapes Go.WideShapes

def invZ (r : Int) : Int := if 0 ≤ r ∧ r ≤ 12 then 12 - r else -1

theorem inverse_any (r : Int) (w : World) (hw : (Lit.int .i64 r).wf = true) : Calls Try.prog 14 #[.int .i64 r] w fun e w' => e = .returned (.int .i64 (invZ r)) ∧ w = w' := by
  by_cases h1 : 0 ≤ r
  · by_cases h2 : r ≤ 12
    · rw [show invZ r = 12 - r by unfold invZ; rw [if_pos ⟨h1, h2⟩]]
      go_enter Try.func14, Try.ntmps14
      go_wp2
      go_ret
      exact ⟨rfl, rfl⟩
    · rw [show invZ r = -1 by unfold invZ; rw [if_neg (by omega)]]
      go_enter Try.func14, Try.ntmps14
      go_wp2
      go_ret
      exact ⟨rfl, rfl⟩
  · rw [show invZ r = -1 by unfold invZ; rw [if_neg (by omega)]]
    go_enter Try.func14, Try.ntmps14
    go_wp2
    go_ret
    exact ⟨rfl, rfl⟩

theorem length_any (a b : Int) (w : World) : Calls Try.prog 31 #[.agg #[.int .i64 a, .int .i64 b]] w fun e w' => e = .returned (.int .i64 (if validB a b then b - a else 0)) ∧ Below w.heap.size w w' := by
  cases h : validB a b
  · go_enter Try.func31, Try.ntmps31
    go_wp2_with (go_at_call 13; ((with_reducible refine (valid_any _ _ _).mono ?_); rintro e w1 ⟨rfl, hb⟩; (first | (replace hL := bstep hL hb) | (have hL := hb)); clear hb; replace hc := bcell hL))
    go_ret
    exact ⟨by simp, (by have hB := bstep (w := w) (by go_grown) hL; go_grown)⟩
  · have hb1 : -4398046511104 ≤ a ∧ b ≤ 4398046511104 ∧ a < b := by simp [validB, lineB] at h; omega
    go_enter Try.func31, Try.ntmps31
    go_wp2_with (go_at_call 13; ((with_reducible refine (valid_any _ _ _).mono ?_); rintro e w1 ⟨rfl, hb⟩; (first | (replace hL := bstep hL hb) | (have hL := hb)); clear hb; replace hc := bcell hL))
    go_ret
    exact ⟨by simp, (by have hB := bstep (w := w) (by go_grown) hL; go_grown)⟩

theorem has_any (a b x : Int) (w : World) : Calls Try.prog 34 #[.agg #[.int .i64 a, .int .i64 b], .int .i64 x] w fun e w' => e = .returned (.bool (validB a b && decide (a ≤ x) && decide (x < b))) ∧ Below w.heap.size w w' := by
  cases h : validB a b
  · go_enter Try.func34, Try.ntmps34
    go_wp2_with (go_at_call 13; ((with_reducible refine (valid_any _ _ _).mono ?_); rintro e w1 ⟨rfl, hb⟩; (first | (replace hL := bstep hL hb) | (have hL := hb)); clear hb; replace hc := bcell hL))
    go_ret
    exact ⟨by simp, (by have hB := bstep (w := w) (by go_grown) hL; go_grown)⟩
  · by_cases h2 : a ≤ x
    · go_enter Try.func34, Try.ntmps34
      go_wp2_with (go_at_call 13; ((with_reducible refine (valid_any _ _ _).mono ?_); rintro e w1 ⟨rfl, hb⟩; (first | (replace hL := bstep hL hb) | (have hL := hb)); clear hb; replace hc := bcell hL))
      go_ret
      exact ⟨by simp [h2], (by have hB := bstep (w := w) (by go_grown) hL; go_grown)⟩
    · go_enter Try.func34, Try.ntmps34
      go_wp2_with (go_at_call 13; ((with_reducible refine (valid_any _ _ _).mono ?_); rintro e w1 ⟨rfl, hb⟩; (first | (replace hL := bstep hL hb) | (have hL := hb)); clear hb; replace hc := bcell hL))
      go_ret
      exact ⟨by simp [Int.not_le.2 h2], (by have hB := bstep (w := w) (by go_grown) hL; go_grown)⟩

def mxZ (a b : Int) : Int := if a < b then b else a
def mnZ (a b : Int) : Int := if b < a then b else a
def meetB (a0 a1 b0 b1 : Int) : Bool := validB a0 a1 && validB b0 b1 && decide (mxZ a0 b0 < mnZ a1 b1)
def spanV (p : Int × Int) : Value := .agg #[.int .i64 p.1, .int .i64 p.2]
def meetZ (a0 a1 b0 b1 : Int) : Int × Int := if meetB a0 a1 b0 b1 then (mxZ a0 b0, mnZ a1 b1) else (0, 0)
def bothB (a0 a1 b0 b1 : Int) : Bool := validB a0 a1 && validB b0 b1
def hullZ (a0 a1 b0 b1 : Int) : Int × Int := if bothB a0 a1 b0 b1 then (mnZ a0 b0, mxZ a1 b1) else (0, 0)
def moveN (a b n : Int) : Int := if validB a b = false then 1 else if n < -8796093022208 ∨ 8796093022208 < n ∨ lineB (a + n) = false ∨ lineB (b + n) = false then 2 else 0
def moveZ (a b n : Int) : Int × Int := if moveN a b n = 0 then (a + n, b + n) else (0, 0)
theorem line_bd {x : Int} (h : lineB x = true) : -4398046511104 ≤ x ∧ x ≤ 4398046511104 := by simp [lineB] at h; omega
theorem valid_bd {a b : Int} (h : validB a b = true) : -4398046511104 ≤ a ∧ a ≤ 4398046511104 ∧ -4398046511104 ≤ b ∧ b ≤ 4398046511104 ∧ a < b := by simp [validB, lineB] at h; omega


set_option maxHeartbeats 400000 in
theorem meet_none2 (a0 a1 b0 b1 : Int) (w : World) (h1 : validB a0 a1 = true) (h2 : validB b0 b1 = true) (hd : (if b1 < a1 then b1 else a1) ≤ if a0 < b0 then b0 else a0) : Calls Try.prog 15 #[.agg #[.int .i64 a0, .int .i64 a1], .agg #[.int .i64 b0, .int .i64 b1]] w fun e w' => e = .returned (.tuple #[.agg #[.int .i64 0, .int .i64 0], .bool false]) ∧ Below w.heap.size w w' := by
  go_enter Try.func15, Try.ntmps15
  go_wp2_with (go_at_call 13; ((with_reducible refine (valid_any _ _ _).mono ?_); rintro e w1 ⟨rfl, hb⟩; (first | (replace hL := bstep hL hb) | (have hL := hb)); clear hb; replace hc := bcell hL))
  all_goals
    refine bodyPost_ret (by simp [results, Try.results15, go_sem, hc]; try rfl) rfl ?_
    exact ⟨rfl, (by have hB := bstep (w := w) (by go_grown) hL; go_grown)⟩

theorem meet_none (a0 a1 b0 b1 : Int) (w : World) (h : meetB a0 a1 b0 b1 = false) : Calls Try.prog 15 #[.agg #[.int .i64 a0, .int .i64 a1], .agg #[.int .i64 b0, .int .i64 b1]] w fun e w' => e = .returned (.tuple #[.agg #[.int .i64 0, .int .i64 0], .bool false]) ∧ Below w.heap.size w w' := by
  cases h1 : validB a0 a1
  · clear h
    go_enter Try.func15, Try.ntmps15
    go_wp2_with (go_at_call 13; ((with_reducible refine (valid_any _ _ _).mono ?_); rintro e w1 ⟨rfl, hb⟩; (first | (replace hL := bstep hL hb) | (have hL := hb)); clear hb; replace hc := bcell hL))
    all_goals
      refine bodyPost_ret (by simp [results, Try.results15, go_sem, hc]; try rfl) rfl ?_
      exact ⟨rfl, (by have hB := bstep (w := w) (by go_grown) hL; go_grown)⟩
  · cases h2 : validB b0 b1
    · clear h
      go_enter Try.func15, Try.ntmps15
      go_wp2_with (go_at_call 13; ((with_reducible refine (valid_any _ _ _).mono ?_); rintro e w1 ⟨rfl, hb⟩; (first | (replace hL := bstep hL hb) | (have hL := hb)); clear hb; replace hc := bcell hL))
      all_goals
        refine bodyPost_ret (by simp [results, Try.results15, go_sem, hc]; try rfl) rfl ?_
        exact ⟨rfl, (by have hB := bstep (w := w) (by go_grown) hL; go_grown)⟩
    · have hd : (if b1 < a1 then b1 else a1) ≤ if a0 < b0 then b0 else a0 := by
        simp only [meetB, h1, h2, Bool.true_and, decide_eq_false_iff_not, Int.not_lt] at h; exact h
      exact meet_none2 _ _ _ _ _ h1 h2 hd

theorem meet_some (a0 a1 b0 b1 : Int) (w : World) (h1 : validB a0 a1 = true) (h2 : validB b0 b1 = true) (hd : (if a0 < b0 then b0 else a0) < if b1 < a1 then b1 else a1) : Calls Try.prog 15 #[.agg #[.int .i64 a0, .int .i64 a1], .agg #[.int .i64 b0, .int .i64 b1]] w fun e w' => e = .returned (.tuple #[.agg #[.int .i64 (if a0 < b0 then b0 else a0), .int .i64 (if b1 < a1 then b1 else a1)], .bool true]) ∧ Below w.heap.size w w' := by
  go_enter Try.func15, Try.ntmps15
  go_wp2_with (go_at_call 13; ((with_reducible refine (valid_any _ _ _).mono ?_); rintro e w1 ⟨rfl, hb⟩; (first | (replace hL := bstep hL hb) | (have hL := hb)); clear hb; replace hc := bcell hL))
  all_goals
    refine bodyPost_ret (by simp [results, Try.results15, go_sem, hc]; try rfl) rfl ?_
    exact ⟨by simp [*], (by have hB := bstep (w := w) (by go_grown) hL; go_grown)⟩

theorem meet_any (a0 a1 b0 b1 : Int) (w : World) : Calls Try.prog 15 #[.agg #[.int .i64 a0, .int .i64 a1], .agg #[.int .i64 b0, .int .i64 b1]] w fun e w' => e = .returned (.tuple #[spanV (meetZ a0 a1 b0 b1), .bool (meetB a0 a1 b0 b1)]) ∧ Below w.heap.size w w' := by
  cases h : meetB a0 a1 b0 b1
  · rw [show meetZ a0 a1 b0 b1 = (0, 0) by simp [meetZ, h]]; exact meet_none _ _ _ _ _ h
  · rw [show meetZ a0 a1 b0 b1 = (mxZ a0 b0, mnZ a1 b1) by simp [meetZ, h]]
    simp only [meetB, Bool.and_eq_true, decide_eq_true_eq] at h
    exact meet_some _ _ _ _ _ h.1.1 h.1.2 h.2

theorem hull_none (a0 a1 b0 b1 : Int) (w : World) (h : bothB a0 a1 b0 b1 = false) : Calls Try.prog 26 #[.agg #[.int .i64 a0, .int .i64 a1], .agg #[.int .i64 b0, .int .i64 b1]] w fun e w' => e = .returned (.tuple #[.agg #[.int .i64 0, .int .i64 0], .int .i64 1]) ∧ Below w.heap.size w w' := by
  cases h1 : validB a0 a1
  · clear h
    go_enter Try.func26, Try.ntmps26
    go_wp2_with (go_at_call 13; ((with_reducible refine (valid_any _ _ _).mono ?_); rintro e w1 ⟨rfl, hb⟩; (first | (replace hL := bstep hL hb) | (have hL := hb)); clear hb; replace hc := bcell hL))
    refine bodyPost_ret (by simp [results, Try.results26, go_sem, hc]; try rfl) rfl ?_
    exact ⟨rfl, (by have hB := bstep (w := w) (by go_grown) hL; go_grown)⟩
  · have h2 : validB b0 b1 = false := by simpa [bothB, h1] using h
    clear h
    go_enter Try.func26, Try.ntmps26
    go_wp2_with (go_at_call 13; ((with_reducible refine (valid_any _ _ _).mono ?_); rintro e w1 ⟨rfl, hb⟩; (first | (replace hL := bstep hL hb) | (have hL := hb)); clear hb; replace hc := bcell hL))
    refine bodyPost_ret (by simp [results, Try.results26, go_sem, hc]; try rfl) rfl ?_
    exact ⟨rfl, (by have hB := bstep (w := w) (by go_grown) hL; go_grown)⟩

theorem hull_some (a0 a1 b0 b1 : Int) (w : World) (h1 : validB a0 a1 = true) (h2 : validB b0 b1 = true) : Calls Try.prog 26 #[.agg #[.int .i64 a0, .int .i64 a1], .agg #[.int .i64 b0, .int .i64 b1]] w fun e w' => e = .returned (.tuple #[.agg #[.int .i64 (if b0 < a0 then b0 else a0), .int .i64 (if a1 < b1 then b1 else a1)], .int .i64 0]) ∧ Below w.heap.size w w' := by
  go_enter Try.func26, Try.ntmps26
  go_wp2_with (go_at_call 13; ((with_reducible refine (valid_any _ _ _).mono ?_); rintro e w1 ⟨rfl, hb⟩; (first | (replace hL := bstep hL hb) | (have hL := hb)); clear hb; replace hc := bcell hL))
  all_goals
    refine bodyPost_ret (by simp [results, Try.results26, go_sem, hc]; try rfl) rfl ?_
    exact ⟨by simp [*], (by have hB := bstep (w := w) (by go_grown) hL; go_grown)⟩

theorem hull_any (a0 a1 b0 b1 : Int) (w : World) : Calls Try.prog 26 #[.agg #[.int .i64 a0, .int .i64 a1], .agg #[.int .i64 b0, .int .i64 b1]] w fun e w' => e = .returned (.tuple #[spanV (hullZ a0 a1 b0 b1), .int .i64 (if bothB a0 a1 b0 b1 then 0 else 1)]) ∧ Below w.heap.size w w' := by
  cases h : bothB a0 a1 b0 b1
  · rw [show hullZ a0 a1 b0 b1 = (0, 0) by simp [hullZ, h]]; exact hull_none _ _ _ _ _ h
  · rw [show hullZ a0 a1 b0 b1 = (mnZ a0 b0, mxZ a1 b1) by simp [hullZ, h]]
    simp only [bothB, Bool.and_eq_true] at h
    exact hull_some _ _ _ _ _ h.1 h.2

theorem move_1 (a b n : Int) (w : World) (h : validB a b = false) : Calls Try.prog 30 #[.agg #[.int .i64 a, .int .i64 b], .int .i64 n] w fun e w' => e = .returned (.tuple #[.agg #[.int .i64 0, .int .i64 0], .int .i64 1]) ∧ Below w.heap.size w w' := by
  go_enter Try.func30, Try.ntmps30
  go_wp2_with (first | (go_at_call 13; ((with_reducible refine (valid_any _ _ _).mono ?_); rintro e w1 ⟨rfl, hb⟩; (first | (replace hL := bstep hL hb) | (have hL := hb)); clear hb; replace hc := bcell hL)) | (go_at_call 37; ((with_reducible refine (line_any _ _).mono ?_); rintro e w1 ⟨rfl, rfl⟩)))
  refine bodyPost_ret (by simp [results, Try.results30, go_sem, hc]; try rfl) rfl ?_
  exact ⟨rfl, (by have hB := bstep (w := w) (by go_grown) hL; go_grown)⟩

theorem move_2 (a b n : Int) (w : World) (h : validB a b = true) (hn : n < -8796093022208 ∨ 8796093022208 < n ∨ (-8796093022208 ≤ n ∧ n ≤ 8796093022208 ∧ (lineB (a + n) = false ∨ (lineB (a + n) = true ∧ lineB (b + n) = false)))) : Calls Try.prog 30 #[.agg #[.int .i64 a, .int .i64 b], .int .i64 n] w fun e w' => e = .returned (.tuple #[.agg #[.int .i64 0, .int .i64 0], .int .i64 2]) ∧ Below w.heap.size w w' := by
  have hb := valid_bd h
  rcases hn with hn | hn | ⟨hl, hu, hn | ⟨hn, hm⟩⟩
  all_goals
    go_enter Try.func30, Try.ntmps30
    go_wp2_with (first | (go_at_call 13; ((with_reducible refine (valid_any _ _ _).mono ?_); rintro e w1 ⟨rfl, hb⟩; (first | (replace hL := bstep hL hb) | (have hL := hb)); clear hb; replace hc := bcell hL)) | (go_at_call 37; ((with_reducible refine (line_any _ _).mono ?_); rintro e w1 ⟨rfl, rfl⟩)))
    refine bodyPost_ret (by simp [results, Try.results30, go_sem, hc]; try rfl) rfl ?_
    exact ⟨rfl, (by have hB := bstep (w := w) (by go_grown) hL; go_grown)⟩

theorem move_3 (a b n : Int) (w : World) (h : validB a b = true) (hl : -8796093022208 ≤ n) (hu : n ≤ 8796093022208) (hn : lineB (a + n) = true) (hm : lineB (b + n) = true) : Calls Try.prog 30 #[.agg #[.int .i64 a, .int .i64 b], .int .i64 n] w fun e w' => e = .returned (.tuple #[.agg #[.int .i64 (a + n), .int .i64 (b + n)], .int .i64 0]) ∧ Below w.heap.size w w' := by
  have hb := valid_bd h
  go_enter Try.func30, Try.ntmps30
  go_wp2_with (first | (go_at_call 13; ((with_reducible refine (valid_any _ _ _).mono ?_); rintro e w1 ⟨rfl, hb⟩; (first | (replace hL := bstep hL hb) | (have hL := hb)); clear hb; replace hc := bcell hL)) | (go_at_call 37; ((with_reducible refine (line_any _ _).mono ?_); rintro e w1 ⟨rfl, rfl⟩)))
  refine bodyPost_ret (by simp [results, Try.results30, go_sem, hc]; try rfl) rfl ?_
  exact ⟨rfl, (by have hB := bstep (w := w) (by go_grown) hL; go_grown)⟩

theorem move_any (a b n : Int) (w : World) : Calls Try.prog 30 #[.agg #[.int .i64 a, .int .i64 b], .int .i64 n] w fun e w' => e = .returned (.tuple #[spanV (moveZ a b n), .int .i64 (moveN a b n)]) ∧ Below w.heap.size w w' := by
  cases h : validB a b
  · rw [show moveZ a b n = (0, 0) by simp [moveZ, moveN, h], show moveN a b n = 1 by simp [moveN, h]]; exact move_1 _ _ _ _ h
  by_cases hc : n < -8796093022208 ∨ 8796093022208 < n ∨ lineB (a + n) = false ∨ lineB (b + n) = false
  · have hN : moveN a b n = 2 := by unfold moveN; rw [if_neg (by simp [h]), if_pos hc]
    rw [show moveZ a b n = (0, 0) by simp [moveZ, hN], hN]
    refine move_2 _ _ _ _ h ?_
    by_cases c1 : n < -8796093022208
    · exact .inl c1
    by_cases c2 : 8796093022208 < n
    · exact .inr (.inl c2)
    refine .inr (.inr ⟨by omega, by omega, ?_⟩)
    cases c3 : lineB (a + n)
    · exact .inl rfl
    · exact .inr ⟨rfl, by simpa [c1, c2, c3] using hc⟩
  · have hN : moveN a b n = 0 := by unfold moveN; rw [if_neg (by simp [h]), if_neg hc]
    rw [show moveZ a b n = (a + n, b + n) by simp [moveZ, hN], hN]
    simp only [not_or, Bool.not_eq_false] at hc
    exact move_3 _ _ _ _ h (by omega) (by omega) hc.2.2.1 hc.2.2.2
end Go.Proofs.Ytcgkcdcignkadaa.Iv
