/-
  The walks of the reference of layer 10 (Line, Valid, Inverse, Meet, Hull, Move) of the program civiltime.
-/
import Derived.Test.YtcgkcdcignkadaaIvB
set_option linter.unusedSimpArgs false
set_option linter.unusedVariables false
namespace Go.Proofs.Ytcgkcdcignkadaa.Iv
open Go.RowKit Go.ChangeShapes Go.WideShapes

theorem rline_any (x : Int) (w : World) : Calls Try.prog 40 #[.int .i64 x] w fun e w' => e = .returned (.bool (lineB x)) ∧ w = w' := by
  have d : lineB x = (decide (-4398046511104 ≤ x) && decide (x ≤ 4398046511104)) := rfl
  rw [d]; clear d
  by_cases h1 : (-4398046511104 : Int) ≤ x
  · go_enter Try.func40, Try.ntmps40
    go_wp2
    go_ret
    exact ⟨by simp [h1], rfl⟩
  · go_enter Try.func40, Try.ntmps40
    go_wp2
    go_ret
    exact ⟨by simp [Int.not_le.2 h1], rfl⟩

theorem rvalid_any (a b : Int) (w : World) : Calls Try.prog 32 #[.agg #[.int .i64 a, .int .i64 b]] w fun e w' => e = .returned (.bool (validB a b)) ∧ Below w.heap.size w w' := by
  have d : validB a b = (lineB a && lineB b && decide (a < b)) := rfl
  rw [d]; clear d
  go_enter Try.func32, Try.ntmps32
  go_wp2_with (go_at_call 40; refine (rline_any _ _).mono ?_; rintro e w' ⟨rfl, rfl⟩)
  all_goals go_ret
  · rename_i h1 h2; exact ⟨by simp [h1, h2], by go_grown⟩
  · rename_i h1 h2; exact ⟨by simp [h1, h2], by go_grown⟩
  · rename_i h1; exact ⟨by simp [h1], by go_grown⟩

theorem rinverse_any (r : Int) (w : World) (hw : (Lit.int .i64 r).wf = true) : Calls Try.prog 22 #[.int .i64 r] w fun e w' => e = .returned (.int .i64 (invZ r)) ∧ w = w' := by
  by_cases h1 : 0 ≤ r
  · by_cases h2 : r ≤ 12
    · rw [show invZ r = 12 - r by unfold invZ; rw [if_pos ⟨h1, h2⟩]]
      go_enter Try.func22, Try.ntmps22
      go_wp2
      go_ret
      exact ⟨rfl, rfl⟩
    · rw [show invZ r = -1 by unfold invZ; rw [if_neg (by omega)]]
      go_enter Try.func22, Try.ntmps22
      go_wp2
      go_ret
      exact ⟨rfl, rfl⟩
  · rw [show invZ r = -1 by unfold invZ; rw [if_neg (by omega)]]
    go_enter Try.func22, Try.ntmps22
    go_wp2
    go_ret
    exact ⟨rfl, rfl⟩

set_option maxHeartbeats 400000 in
theorem rmeet_none2 (a0 a1 b0 b1 : Int) (w : World) (h1 : validB a0 a1 = true) (h2 : validB b0 b1 = true) (hd : (if b1 < a1 then b1 else a1) ≤ if a0 < b0 then b0 else a0) : Calls Try.prog 25 #[.agg #[.int .i64 a0, .int .i64 a1], .agg #[.int .i64 b0, .int .i64 b1]] w fun e w' => e = .returned (.tuple #[.agg #[.int .i64 0, .int .i64 0], .bool false]) ∧ Below w.heap.size w w' := by
  go_enter Try.func25, Try.ntmps25
  go_wp2_with (go_at_call 32; ((with_reducible refine (rvalid_any _ _ _).mono ?_); rintro e w1 ⟨rfl, hb⟩; (first | (replace hL := bstep hL hb) | (have hL := hb)); clear hb; replace hc := bcell hL))
  all_goals
    refine bodyPost_ret (by simp [results, Try.results25, go_sem, hc]; try rfl) rfl ?_
    exact ⟨rfl, (by have hB := bstep (w := w) (by go_grown) hL; go_grown)⟩

theorem rmeet_none (a0 a1 b0 b1 : Int) (w : World) (h : meetB a0 a1 b0 b1 = false) : Calls Try.prog 25 #[.agg #[.int .i64 a0, .int .i64 a1], .agg #[.int .i64 b0, .int .i64 b1]] w fun e w' => e = .returned (.tuple #[.agg #[.int .i64 0, .int .i64 0], .bool false]) ∧ Below w.heap.size w w' := by
  cases h1 : validB a0 a1
  · clear h
    go_enter Try.func25, Try.ntmps25
    go_wp2_with (go_at_call 32; ((with_reducible refine (rvalid_any _ _ _).mono ?_); rintro e w1 ⟨rfl, hb⟩; (first | (replace hL := bstep hL hb) | (have hL := hb)); clear hb; replace hc := bcell hL))
    all_goals
      refine bodyPost_ret (by simp [results, Try.results25, go_sem, hc]; try rfl) rfl ?_
      exact ⟨rfl, (by have hB := bstep (w := w) (by go_grown) hL; go_grown)⟩
  · cases h2 : validB b0 b1
    · clear h
      go_enter Try.func25, Try.ntmps25
      go_wp2_with (go_at_call 32; ((with_reducible refine (rvalid_any _ _ _).mono ?_); rintro e w1 ⟨rfl, hb⟩; (first | (replace hL := bstep hL hb) | (have hL := hb)); clear hb; replace hc := bcell hL))
      all_goals
        refine bodyPost_ret (by simp [results, Try.results25, go_sem, hc]; try rfl) rfl ?_
        exact ⟨rfl, (by have hB := bstep (w := w) (by go_grown) hL; go_grown)⟩
    · have hd : (if b1 < a1 then b1 else a1) ≤ if a0 < b0 then b0 else a0 := by
        simp only [meetB, h1, h2, Bool.true_and, decide_eq_false_iff_not, Int.not_lt] at h; exact h
      exact rmeet_none2 _ _ _ _ _ h1 h2 hd

theorem rmeet_some (a0 a1 b0 b1 : Int) (w : World) (h1 : validB a0 a1 = true) (h2 : validB b0 b1 = true) (hd : (if a0 < b0 then b0 else a0) < if b1 < a1 then b1 else a1) : Calls Try.prog 25 #[.agg #[.int .i64 a0, .int .i64 a1], .agg #[.int .i64 b0, .int .i64 b1]] w fun e w' => e = .returned (.tuple #[.agg #[.int .i64 (if a0 < b0 then b0 else a0), .int .i64 (if b1 < a1 then b1 else a1)], .bool true]) ∧ Below w.heap.size w w' := by
  go_enter Try.func25, Try.ntmps25
  go_wp2_with (go_at_call 32; ((with_reducible refine (rvalid_any _ _ _).mono ?_); rintro e w1 ⟨rfl, hb⟩; (first | (replace hL := bstep hL hb) | (have hL := hb)); clear hb; replace hc := bcell hL))
  all_goals
    refine bodyPost_ret (by simp [results, Try.results25, go_sem, hc]; try rfl) rfl ?_
    exact ⟨by simp [*], (by have hB := bstep (w := w) (by go_grown) hL; go_grown)⟩

theorem rmeet_any (a0 a1 b0 b1 : Int) (w : World) : Calls Try.prog 25 #[.agg #[.int .i64 a0, .int .i64 a1], .agg #[.int .i64 b0, .int .i64 b1]] w fun e w' => e = .returned (.tuple #[spanV (meetZ a0 a1 b0 b1), .bool (meetB a0 a1 b0 b1)]) ∧ Below w.heap.size w w' := by
  cases h : meetB a0 a1 b0 b1
  · rw [show meetZ a0 a1 b0 b1 = (0, 0) by simp [meetZ, h]]; exact rmeet_none _ _ _ _ _ h
  · rw [show meetZ a0 a1 b0 b1 = (mxZ a0 b0, mnZ a1 b1) by simp [meetZ, h]]
    simp only [meetB, Bool.and_eq_true, decide_eq_true_eq] at h
    exact rmeet_some _ _ _ _ _ h.1.1 h.1.2 h.2

theorem rhull_none (a0 a1 b0 b1 : Int) (w : World) (h : bothB a0 a1 b0 b1 = false) : Calls Try.prog 27 #[.agg #[.int .i64 a0, .int .i64 a1], .agg #[.int .i64 b0, .int .i64 b1]] w fun e w' => e = .returned (.tuple #[.agg #[.int .i64 0, .int .i64 0], .int .i64 1]) ∧ Below w.heap.size w w' := by
  cases h1 : validB a0 a1
  · clear h
    go_enter Try.func27, Try.ntmps27
    go_wp2_with (go_at_call 32; ((with_reducible refine (rvalid_any _ _ _).mono ?_); rintro e w1 ⟨rfl, hb⟩; (first | (replace hL := bstep hL hb) | (have hL := hb)); clear hb; replace hc := bcell hL))
    refine bodyPost_ret (by simp [results, Try.results27, go_sem, hc]; try rfl) rfl ?_
    exact ⟨rfl, (by have hB := bstep (w := w) (by go_grown) hL; go_grown)⟩
  · have h2 : validB b0 b1 = false := by simpa [bothB, h1] using h
    clear h
    go_enter Try.func27, Try.ntmps27
    go_wp2_with (go_at_call 32; ((with_reducible refine (rvalid_any _ _ _).mono ?_); rintro e w1 ⟨rfl, hb⟩; (first | (replace hL := bstep hL hb) | (have hL := hb)); clear hb; replace hc := bcell hL))
    refine bodyPost_ret (by simp [results, Try.results27, go_sem, hc]; try rfl) rfl ?_
    exact ⟨rfl, (by have hB := bstep (w := w) (by go_grown) hL; go_grown)⟩

theorem rhull_some (a0 a1 b0 b1 : Int) (w : World) (h1 : validB a0 a1 = true) (h2 : validB b0 b1 = true) : Calls Try.prog 27 #[.agg #[.int .i64 a0, .int .i64 a1], .agg #[.int .i64 b0, .int .i64 b1]] w fun e w' => e = .returned (.tuple #[.agg #[.int .i64 (if b0 < a0 then b0 else a0), .int .i64 (if a1 < b1 then b1 else a1)], .int .i64 0]) ∧ Below w.heap.size w w' := by
  go_enter Try.func27, Try.ntmps27
  go_wp2_with (go_at_call 32; ((with_reducible refine (rvalid_any _ _ _).mono ?_); rintro e w1 ⟨rfl, hb⟩; (first | (replace hL := bstep hL hb) | (have hL := hb)); clear hb; replace hc := bcell hL))
  all_goals
    refine bodyPost_ret (by simp [results, Try.results27, go_sem, hc]; try rfl) rfl ?_
    exact ⟨by simp [*], (by have hB := bstep (w := w) (by go_grown) hL; go_grown)⟩

theorem rhull_any (a0 a1 b0 b1 : Int) (w : World) : Calls Try.prog 27 #[.agg #[.int .i64 a0, .int .i64 a1], .agg #[.int .i64 b0, .int .i64 b1]] w fun e w' => e = .returned (.tuple #[spanV (hullZ a0 a1 b0 b1), .int .i64 (if bothB a0 a1 b0 b1 then 0 else 1)]) ∧ Below w.heap.size w w' := by
  cases h : bothB a0 a1 b0 b1
  · rw [show hullZ a0 a1 b0 b1 = (0, 0) by simp [hullZ, h]]; exact rhull_none _ _ _ _ _ h
  · rw [show hullZ a0 a1 b0 b1 = (mnZ a0 b0, mxZ a1 b1) by simp [hullZ, h]]
    simp only [bothB, Bool.and_eq_true] at h
    exact rhull_some _ _ _ _ _ h.1 h.2

theorem rmove_1 (a b n : Int) (w : World) (h : validB a b = false) : Calls Try.prog 33 #[.agg #[.int .i64 a, .int .i64 b], .int .i64 n] w fun e w' => e = .returned (.tuple #[.agg #[.int .i64 0, .int .i64 0], .int .i64 1]) ∧ Below w.heap.size w w' := by
  go_enter Try.func33, Try.ntmps33
  go_wp2_with (first | (go_at_call 32; ((with_reducible refine (rvalid_any _ _ _).mono ?_); rintro e w1 ⟨rfl, hb⟩; (first | (replace hL := bstep hL hb) | (have hL := hb)); clear hb; replace hc := bcell hL)) | (go_at_call 40; ((with_reducible refine (rline_any _ _).mono ?_); rintro e w1 ⟨rfl, rfl⟩)))
  refine bodyPost_ret (by simp [results, Try.results33, go_sem, hc]; try rfl) rfl ?_
  exact ⟨rfl, (by have hB := bstep (w := w) (by go_grown) hL; go_grown)⟩

theorem rmove_2 (a b n : Int) (w : World) (h : validB a b = true) (hn : n < -8796093022208 ∨ 8796093022208 < n ∨ (-8796093022208 ≤ n ∧ n ≤ 8796093022208 ∧ (lineB (a + n) = false ∨ (lineB (a + n) = true ∧ lineB (b + n) = false)))) : Calls Try.prog 33 #[.agg #[.int .i64 a, .int .i64 b], .int .i64 n] w fun e w' => e = .returned (.tuple #[.agg #[.int .i64 0, .int .i64 0], .int .i64 2]) ∧ Below w.heap.size w w' := by
  have hb := valid_bd h
  rcases hn with hn | hn | ⟨hl, hu, hn | ⟨hn, hm⟩⟩
  all_goals
    go_enter Try.func33, Try.ntmps33
    go_wp2_with (first | (go_at_call 32; ((with_reducible refine (rvalid_any _ _ _).mono ?_); rintro e w1 ⟨rfl, hb⟩; (first | (replace hL := bstep hL hb) | (have hL := hb)); clear hb; replace hc := bcell hL)) | (go_at_call 40; ((with_reducible refine (rline_any _ _).mono ?_); rintro e w1 ⟨rfl, rfl⟩)))
    refine bodyPost_ret (by simp [results, Try.results33, go_sem, hc]; try rfl) rfl ?_
    exact ⟨rfl, (by have hB := bstep (w := w) (by go_grown) hL; go_grown)⟩

theorem rmove_3 (a b n : Int) (w : World) (h : validB a b = true) (hl : -8796093022208 ≤ n) (hu : n ≤ 8796093022208) (hn : lineB (a + n) = true) (hm : lineB (b + n) = true) : Calls Try.prog 33 #[.agg #[.int .i64 a, .int .i64 b], .int .i64 n] w fun e w' => e = .returned (.tuple #[.agg #[.int .i64 (a + n), .int .i64 (b + n)], .int .i64 0]) ∧ Below w.heap.size w w' := by
  have hb := valid_bd h
  go_enter Try.func33, Try.ntmps33
  go_wp2_with (first | (go_at_call 32; ((with_reducible refine (rvalid_any _ _ _).mono ?_); rintro e w1 ⟨rfl, hb⟩; (first | (replace hL := bstep hL hb) | (have hL := hb)); clear hb; replace hc := bcell hL)) | (go_at_call 40; ((with_reducible refine (rline_any _ _).mono ?_); rintro e w1 ⟨rfl, rfl⟩)))
  refine bodyPost_ret (by simp [results, Try.results33, go_sem, hc]; try rfl) rfl ?_
  exact ⟨rfl, (by have hB := bstep (w := w) (by go_grown) hL; go_grown)⟩

theorem rmove_any (a b n : Int) (w : World) : Calls Try.prog 33 #[.agg #[.int .i64 a, .int .i64 b], .int .i64 n] w fun e w' => e = .returned (.tuple #[spanV (moveZ a b n), .int .i64 (moveN a b n)]) ∧ Below w.heap.size w w' := by
  cases h : validB a b
  · rw [show moveZ a b n = (0, 0) by simp [moveZ, moveN, h], show moveN a b n = 1 by simp [moveN, h]]; exact rmove_1 _ _ _ _ h
  by_cases hc : n < -8796093022208 ∨ 8796093022208 < n ∨ lineB (a + n) = false ∨ lineB (b + n) = false
  · have hN : moveN a b n = 2 := by unfold moveN; rw [if_neg (by simp [h]), if_pos hc]
    rw [show moveZ a b n = (0, 0) by simp [moveZ, hN], hN]
    refine rmove_2 _ _ _ _ h ?_
    by_cases c1 : n < -8796093022208
    · exact .inl c1
    by_cases c2 : 8796093022208 < n
    · exact .inr (.inl c2)
    refine .inr (.inr ⟨by omega, by omega, ?_⟩)
    cases c3 : lineB (a + n)
    · exact .inl rfl
    · exact .inr ⟨rfl, by simpa [c1, c2, c3] using hc⟩
  · have hN : moveN a b n = 0 := by unfold moveN; rw [if_neg (by simp [h]), if_neg hc]
    rw [show moveZ a b n = (a + n, b + n) by simp [moveZ, hN], hN]
    simp only [not_or, Bool.not_eq_false] at hc
    exact rmove_3 _ _ _ _ h (by omega) (by omega) hc.2.2.1 hc.2.2.2
end Go.Proofs.Ytcgkcdcignkadaa.Iv
