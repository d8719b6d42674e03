/-
  The walks of layer 10's Minus, of the program civiltime.
-/
import Derived.Test.YtcgkcdcignkadaaIvF
set_option linter.unusedSimpArgs false
set_option linter.unusedVariables false
namespace Go.Proofs.Ytcgkcdcignkadaa.Iv
open Go.RowKit Go.ChangeShapes Go.WideShapes Go.Proofs.Ytcgkcdcignkadaa.Sl

theorem ix0 (a b c d : Int) (w : World) : (Instr.index 59 (.agg #[.int .i64 a, .int .i64 b, .int .i64 c, .int .i64 d]) (.int .i64 0)).run Try.prog w = .ok (.agg #[.int .i64 a, .int .i64 b]) w := by kernel_rfl
theorem ix1 (a b c d : Int) (w : World) : (Instr.index 59 (.agg #[.int .i64 a, .int .i64 b, .int .i64 c, .int .i64 d]) (.int .i64 1)).run Try.prog w = .ok (.agg #[.int .i64 c, .int .i64 d]) w := by kernel_rfl
theorem minus_bad (a0 a1 b0 b1 : Int) (w : World) (h : validB a0 a1 = false ∨ (validB a0 a1 = true ∧ validB b0 b1 = false)) : Calls Try.prog 16 #[.agg #[.int .i64 a0, .int .i64 a1], .agg #[.int .i64 b0, .int .i64 b1]] w (SomeSl [] w) := by
  rcases h with h | ⟨h1, h2⟩
  all_goals
    go_enter Try.func16, Try.ntmps16
    go_wp2_with (go_at_call 13; ((with_reducible refine (valid_any _ _ _).mono ?_); rintro e w1 ⟨rfl, hb⟩; (first | (replace hL := bstep hL hb) | (have hL := hb)); clear hb; replace hc := bcell hL))
    go_ret
    exact ⟨_, rfl, Sl.mk0 _ _ _ _, (by have hB := bstep (w := w) (by go_grown) hL; have hs := hB.size; go_grown)⟩

set_option maxHeartbeats 2000000 in
theorem minus_1 (a0 a1 b0 b1 : Int) (w : World) (h1 : validB a0 a1 = true) (h2 : validB b0 b1 = true) (d1 : a0 < a1) (c : a1 ≤ b0) (d3 : a0 < b1) (d4 : ¬ b1 < a1) : Calls Try.prog 16 #[.agg #[.int .i64 a0, .int .i64 a1], .agg #[.int .i64 b0, .int .i64 b1]] w (SomeSl [(a0, a1)] w) := by
  obtain ⟨ii, hi, hz0, hz1, hz2⟩ := info_parts info_span
  skip
  go_enter Try.func16, Try.ntmps16
  go_wp2_with (first | (go_at_call 13; ((with_reducible refine (valid_any _ _ _).mono ?_); rintro e w1 ⟨rfl, hb⟩; (first | (replace hL := bstep hL hb) | (have hL := hb)); clear hb; replace hc := bcell hL)))
  have i0 := ix0
  have i1 := ix1
  refine wp_loop_rounds 3 ?_
  rw [rounds_succ]
  go_wp2_with (first | (at_builtin; go_must (refine wpList_app1 (hL.alloc hL.size _) rfl (.tmp 41) (.tmp 43) 31 rfl 23 Try.underlying31 hi hz0 hz1 hz2 rfl (by decide) (.slice none 0 0) 0 [] rfl [.int .i64 a0, .int .i64 a1] 23 (World.ownsRow_nil _ _ _ _) rfl (by simp) rfl (by intro u hu; simp at hu; rcases hu with rfl | rfl <;> rfl) (by unfold maxLen; omega) (by omega) ?_); intro g cap w1 hown hL'; clear hL; have hL := hL'; clear hL'; replace hc := bcell hL))
  rw [rounds_succ]
  go_wp2_with (first | (at_builtin; go_must (refine wpList_app1 (hL.alloc hL.size _) rfl (.tmp 41) (.tmp 43) 31 rfl 23 Try.underlying31 hi hz0 hz1 hz2 rfl (by decide) (.slice none 0 0) 0 [] rfl [.int .i64 a0, .int .i64 a1] 23 (World.ownsRow_nil _ _ _ _) rfl (by simp) rfl (by intro u hu; simp at hu; rcases hu with rfl | rfl <;> rfl) (by unfold maxLen; omega) (by omega) ?_); intro g cap w1 hown hL'; clear hL; have hL := hL'; clear hL'; replace hc := bcell hL))
  rw [rounds_succ]
  go_wp2_with fail
  go_ret
  exact ⟨_, rfl, (Sl.of_owns ((hown.alloc _))).cast rfl rfl, (by have hB := bstep (w := w) (by go_grown) hL; have hs := hB.size; go_grown)⟩

set_option maxHeartbeats 2000000 in
theorem minus_2 (a0 a1 b0 b1 : Int) (w : World) (h1 : validB a0 a1 = true) (h2 : validB b0 b1 = true) (d1 : a0 < a1) (c : b1 ≤ a0) (d3 : b0 < a1) (d4 : ¬ a0 < b0) : Calls Try.prog 16 #[.agg #[.int .i64 a0, .int .i64 a1], .agg #[.int .i64 b0, .int .i64 b1]] w (SomeSl [(a0, a1)] w) := by
  obtain ⟨ii, hi, hz0, hz1, hz2⟩ := info_parts info_span
  skip
  go_enter Try.func16, Try.ntmps16
  go_wp2_with (first | (go_at_call 13; ((with_reducible refine (valid_any _ _ _).mono ?_); rintro e w1 ⟨rfl, hb⟩; (first | (replace hL := bstep hL hb) | (have hL := hb)); clear hb; replace hc := bcell hL)))
  have i0 := ix0
  have i1 := ix1
  refine wp_loop_rounds 3 ?_
  rw [rounds_succ]
  go_wp2_with (first | (at_builtin; go_must (refine wpList_app1 ((hL.alloc hL.size _).alloc (Nat.le_trans hL.size (by simp)) _) rfl (.tmp 41) (.tmp 43) 31 rfl 23 Try.underlying31 hi hz0 hz1 hz2 rfl (by decide) (.slice none 0 0) 0 [] rfl [.int .i64 a0, .int .i64 a1] 23 (World.ownsRow_nil _ _ _ _) rfl (by simp) rfl (by intro u hu; simp at hu; rcases hu with rfl | rfl <;> rfl) (by unfold maxLen; omega) (by omega) ?_); intro g cap w1 hown hL'; clear hL; have hL := hL'; clear hL'; replace hc := bcell hL))
  rw [rounds_succ]
  go_wp2_with (first | (at_builtin; go_must (refine wpList_app1 ((hL.alloc hL.size _).alloc (Nat.le_trans hL.size (by simp)) _) rfl (.tmp 41) (.tmp 43) 31 rfl 23 Try.underlying31 hi hz0 hz1 hz2 rfl (by decide) (.slice none 0 0) 0 [] rfl [.int .i64 a0, .int .i64 a1] 23 (World.ownsRow_nil _ _ _ _) rfl (by simp) rfl (by intro u hu; simp at hu; rcases hu with rfl | rfl <;> rfl) (by unfold maxLen; omega) (by omega) ?_); intro g cap w1 hown hL'; clear hL; have hL := hL'; clear hL'; replace hc := bcell hL))
  rw [rounds_succ]
  go_wp2_with fail
  go_ret
  exact ⟨_, rfl, Sl.of_owns hown, (by have hB := bstep (w := w) (by go_grown) hL; have hs := hB.size; go_grown)⟩

set_option maxHeartbeats 2000000 in
theorem minus_4 (a0 a1 b0 b1 : Int) (w : World) (h1 : validB a0 a1 = true) (h2 : validB b0 b1 = true) (d1 : a0 < b0) (c : a1 ≤ b1) (d3 : b0 < a1) (d4 : a0 < b1) : Calls Try.prog 16 #[.agg #[.int .i64 a0, .int .i64 a1], .agg #[.int .i64 b0, .int .i64 b1]] w (SomeSl [(a0, b0)] w) := by
  obtain ⟨ii, hi, hz0, hz1, hz2⟩ := info_parts info_span
  skip
  go_enter Try.func16, Try.ntmps16
  go_wp2_with (first | (go_at_call 13; ((with_reducible refine (valid_any _ _ _).mono ?_); rintro e w1 ⟨rfl, hb⟩; (first | (replace hL := bstep hL hb) | (have hL := hb)); clear hb; replace hc := bcell hL)))
  have i0 := ix0
  have i1 := ix1
  refine wp_loop_rounds 3 ?_
  rw [rounds_succ]
  go_wp2_with (first | (at_builtin; go_must (refine wpList_app1 (hL.alloc hL.size _) rfl (.tmp 41) (.tmp 43) 31 rfl 23 Try.underlying31 hi hz0 hz1 hz2 rfl (by decide) (.slice none 0 0) 0 [] rfl [.int .i64 a0, .int .i64 b0] 23 (World.ownsRow_nil _ _ _ _) rfl (by simp) rfl (by intro u hu; simp at hu; rcases hu with rfl | rfl <;> rfl) (by unfold maxLen; omega) (by omega) ?_); intro g cap w1 hown hL'; clear hL; have hL := hL'; clear hL'; replace hc := bcell hL))
  rw [rounds_succ]
  go_wp2_with (first | (at_builtin; go_must (refine wpList_app1 (hL.alloc hL.size _) rfl (.tmp 41) (.tmp 43) 31 rfl 23 Try.underlying31 hi hz0 hz1 hz2 rfl (by decide) (.slice none 0 0) 0 [] rfl [.int .i64 a0, .int .i64 b0] 23 (World.ownsRow_nil _ _ _ _) rfl (by simp) rfl (by intro u hu; simp at hu; rcases hu with rfl | rfl <;> rfl) (by unfold maxLen; omega) (by omega) ?_); intro g cap w1 hown hL'; clear hL; have hL := hL'; clear hL'; replace hc := bcell hL))
  rw [rounds_succ]
  go_wp2_with fail
  go_ret
  exact ⟨_, rfl, (Sl.of_owns ((hown.alloc _))).cast rfl rfl, (by have hB := bstep (w := w) (by go_grown) hL; have hs := hB.size; go_grown)⟩

set_option maxHeartbeats 2000000 in
theorem minus_5 (a0 a1 b0 b1 : Int) (w : World) (h1 : validB a0 a1 = true) (h2 : validB b0 b1 = true) (d1 : b0 ≤ a0) (c : b1 < a1) (d3 : b0 < a1) (d4 : a0 < b1) : Calls Try.prog 16 #[.agg #[.int .i64 a0, .int .i64 a1], .agg #[.int .i64 b0, .int .i64 b1]] w (SomeSl [(b1, a1)] w) := by
  obtain ⟨ii, hi, hz0, hz1, hz2⟩ := info_parts info_span
  skip
  go_enter Try.func16, Try.ntmps16
  go_wp2_with (first | (go_at_call 13; ((with_reducible refine (valid_any _ _ _).mono ?_); rintro e w1 ⟨rfl, hb⟩; (first | (replace hL := bstep hL hb) | (have hL := hb)); clear hb; replace hc := bcell hL)))
  have i0 := ix0
  have i1 := ix1
  refine wp_loop_rounds 3 ?_
  rw [rounds_succ]
  go_wp2_with (first | (at_builtin; go_must (refine wpList_app1 ((hL.alloc hL.size _).alloc (Nat.le_trans hL.size (by simp)) _) rfl (.tmp 41) (.tmp 43) 31 rfl 23 Try.underlying31 hi hz0 hz1 hz2 rfl (by decide) (.slice none 0 0) 0 [] rfl [.int .i64 b1, .int .i64 a1] 23 (World.ownsRow_nil _ _ _ _) rfl (by simp) rfl (by intro u hu; simp at hu; rcases hu with rfl | rfl <;> rfl) (by unfold maxLen; omega) (by omega) ?_); intro g cap w1 hown hL'; clear hL; have hL := hL'; clear hL'; replace hc := bcell hL))
  rw [rounds_succ]
  go_wp2_with (first | (at_builtin; go_must (refine wpList_app1 ((hL.alloc hL.size _).alloc (Nat.le_trans hL.size (by simp)) _) rfl (.tmp 41) (.tmp 43) 31 rfl 23 Try.underlying31 hi hz0 hz1 hz2 rfl (by decide) (.slice none 0 0) 0 [] rfl [.int .i64 b1, .int .i64 a1] 23 (World.ownsRow_nil _ _ _ _) rfl (by simp) rfl (by intro u hu; simp at hu; rcases hu with rfl | rfl <;> rfl) (by unfold maxLen; omega) (by omega) ?_); intro g cap w1 hown hL'; clear hL; have hL := hL'; clear hL'; replace hc := bcell hL))
  rw [rounds_succ]
  go_wp2_with fail
  go_ret
  exact ⟨_, rfl, Sl.of_owns hown, (by have hB := bstep (w := w) (by go_grown) hL; have hs := hB.size; go_grown)⟩

set_option maxHeartbeats 2000000 in
theorem minus_6 (a0 a1 b0 b1 : Int) (w : World) (h1 : validB a0 a1 = true) (h2 : validB b0 b1 = true) (d1 : b0 ≤ a0) (c : a1 ≤ b1) (d3 : b0 < a1) (d4 : a0 < b1) : Calls Try.prog 16 #[.agg #[.int .i64 a0, .int .i64 a1], .agg #[.int .i64 b0, .int .i64 b1]] w (SomeSl [] w) := by
  obtain ⟨ii, hi, hz0, hz1, hz2⟩ := info_parts info_span
  skip
  go_enter Try.func16, Try.ntmps16
  go_wp2_with (first | (go_at_call 13; ((with_reducible refine (valid_any _ _ _).mono ?_); rintro e w1 ⟨rfl, hb⟩; (first | (replace hL := bstep hL hb) | (have hL := hb)); clear hb; replace hc := bcell hL)))
  have i0 := ix0
  have i1 := ix1
  refine wp_loop_rounds 3 ?_
  rw [rounds_succ]
  go_wp2_with (first | fail)
  rw [rounds_succ]
  go_wp2_with (first | fail)
  rw [rounds_succ]
  go_wp2_with fail
  go_ret
  exact ⟨_, rfl, Sl.mk0 _ _ _ _, (by have hB := bstep (w := w) (by go_grown) hL; have hs := hB.size; go_grown)⟩

set_option maxHeartbeats 2000000 in
theorem minus_3 (a0 a1 b0 b1 : Int) (w : World) (h1 : validB a0 a1 = true) (h2 : validB b0 b1 = true) (d1 : a0 < b0) (c : b1 < a1) (d3 : b0 < a1) (d4 : a0 < b1) : Calls Try.prog 16 #[.agg #[.int .i64 a0, .int .i64 a1], .agg #[.int .i64 b0, .int .i64 b1]] w (SomeSl [(a0, b0), (b1, a1)] w) := by
  obtain ⟨ii, hi, hz0, hz1, hz2⟩ := info_parts info_span
  have tok1 : True := trivial
  go_enter Try.func16, Try.ntmps16
  go_wp2_with (first | (go_at_call 13; ((with_reducible refine (valid_any _ _ _).mono ?_); rintro e w1 ⟨rfl, hb⟩; (first | (replace hL := bstep hL hb) | (have hL := hb)); clear hb; replace hc := bcell hL)))
  have i0 := ix0
  have i1 := ix1
  refine wp_loop_rounds 3 ?_
  rw [rounds_succ]
  go_wp2_with (first | (have _t := tok1; at_builtin; go_must (refine wpList_app1 (hL.alloc hL.size _) rfl (.tmp 41) (.tmp 43) 31 rfl 23 Try.underlying31 hi hz0 hz1 hz2 rfl (by decide) (.slice none 0 0) 0 [] rfl [.int .i64 a0, .int .i64 b0] 23 (World.ownsRow_nil _ _ _ _) rfl (by simp) rfl (by intro u hu; simp at hu; rcases hu with rfl | rfl <;> rfl) (by unfold maxLen; omega) (by omega) ?_); intro g cap w1 hown hL'; clear hL; have hL := hL'; clear hL'; replace hc := bcell hL; clear tok1) | (at_builtin; go_must (refine wpList_app1 (hL.alloc hL.size _) rfl (.tmp 41) (.tmp 43) 31 rfl 23 Try.underlying31 hi hz0 hz1 hz2 rfl (by decide) (.slice (some ⟨g, 0, none⟩) 1 cap) 1 ([] ++ [.int .i64 a0, .int .i64 b0]) rfl [.int .i64 b1, .int .i64 a1] 23 (hown.alloc _) rfl (by simp) rfl (by intro u hu; simp at hu; rcases hu with rfl | rfl <;> rfl) (by unfold maxLen; omega) (by omega) ?_); intro g cap w1 hown hL'; clear hL; have hL := hL'; clear hL'; replace hc := bcell hL))
  rw [rounds_succ]
  go_wp2_with (first | (have _t := tok1; at_builtin; go_must (refine wpList_app1 (hL.alloc hL.size _) rfl (.tmp 41) (.tmp 43) 31 rfl 23 Try.underlying31 hi hz0 hz1 hz2 rfl (by decide) (.slice none 0 0) 0 [] rfl [.int .i64 a0, .int .i64 b0] 23 (World.ownsRow_nil _ _ _ _) rfl (by simp) rfl (by intro u hu; simp at hu; rcases hu with rfl | rfl <;> rfl) (by unfold maxLen; omega) (by omega) ?_); intro g cap w1 hown hL'; clear hL; have hL := hL'; clear hL'; replace hc := bcell hL; clear tok1) | (at_builtin; go_must (refine wpList_app1 (hL.alloc hL.size _) rfl (.tmp 41) (.tmp 43) 31 rfl 23 Try.underlying31 hi hz0 hz1 hz2 rfl (by decide) (.slice (some ⟨g, 0, none⟩) 1 cap) 1 ([] ++ [.int .i64 a0, .int .i64 b0]) rfl [.int .i64 b1, .int .i64 a1] 23 (hown.alloc _) rfl (by simp) rfl (by intro u hu; simp at hu; rcases hu with rfl | rfl <;> rfl) (by unfold maxLen; omega) (by omega) ?_); intro g cap w1 hown hL'; clear hL; have hL := hL'; clear hL'; replace hc := bcell hL))
  rw [rounds_succ]
  go_wp2_with fail
  go_ret
  exact ⟨_, rfl, Sl.of_owns hown, (by have hB := bstep (w := w) (by go_grown) hL; have hs := hB.size; go_grown)⟩

def minusL (a0 a1 b0 b1 : Int) : List (Int × Int) :=
  if bothB a0 a1 b0 b1 = false then [] else
  (if a0 < mnZ a1 b0 then [(a0, mnZ a1 b0)] else []) ++ (if mxZ a0 b1 < a1 then [(mxZ a0 b1, a1)] else [])
theorem minusL_bad {a0 a1 b0 b1 : Int} (h : bothB a0 a1 b0 b1 = false) : minusL a0 a1 b0 b1 = [] := by unfold minusL; rw [if_pos h]
theorem minus_cases (P : List (Int × Int) → Prop) (a0 a1 b0 b1 : Int) (h1 : validB a0 a1 = true) (h2 : validB b0 b1 = true)
    (p1 : a0 < a1 → a1 ≤ b0 → a0 < b1 → ¬ b1 < a1 → P [(a0, a1)]) (p2 : a0 < a1 → b1 ≤ a0 → b0 < a1 → ¬ a0 < b0 → P [(a0, a1)])
    (p3 : a0 < b0 → b1 < a1 → b0 < a1 → a0 < b1 → P [(a0, b0), (b1, a1)]) (p4 : a0 < b0 → a1 ≤ b1 → b0 < a1 → a0 < b1 → P [(a0, b0)])
    (p5 : b0 ≤ a0 → b1 < a1 → b0 < a1 → a0 < b1 → P [(b1, a1)]) (p6 : b0 ≤ a0 → a1 ≤ b1 → b0 < a1 → a0 < b1 → P []) : P (minusL a0 a1 b0 b1) := by
  have v1 := valid_bd h1
  have v2 := valid_bd h2
  unfold minusL
  rw [if_neg (by simp [bothB, h1, h2])]
  unfold mnZ mxZ
  by_cases c1 : b0 < a1
  · rw [if_pos c1]
    by_cases c2 : a0 < b1
    · rw [if_pos c2]
      by_cases c3 : a0 < b0
      · rw [if_pos c3]
        by_cases c4 : b1 < a1
        · rw [if_pos c4]; exact p3 c3 c4 c1 c2
        · rw [if_neg c4]; exact p4 c3 (by omega) c1 c2
      · rw [if_neg c3]
        by_cases c4 : b1 < a1
        · rw [if_pos c4]; exact p5 (by omega) c4 c1 c2
        · rw [if_neg c4]; exact p6 (by omega) (by omega) c1 c2
    · rw [if_neg c2, if_neg (by omega), if_pos (by omega)]; exact p2 (by omega) (by omega) c1 (by omega)
  · rw [if_neg c1, if_pos (show a0 < b1 by omega), if_pos (show a0 < a1 by omega), if_neg (show ¬ b1 < a1 by omega)]; exact p1 (by omega) (by omega) (by omega) (by omega)
theorem minus_any (a0 a1 b0 b1 : Int) (w : World) : Calls Try.prog 16 #[.agg #[.int .i64 a0, .int .i64 a1], .agg #[.int .i64 b0, .int .i64 b1]] w (SomeSl (minusL a0 a1 b0 b1) w) := by
  cases h1 : validB a0 a1
  · rw [minusL_bad (by simp [bothB, h1])]; exact minus_bad _ _ _ _ _ (.inl h1)
  cases h2 : validB b0 b1
  · rw [minusL_bad (by simp [bothB, h2])]; exact minus_bad _ _ _ _ _ (.inr ⟨h1, h2⟩)
  exact minus_cases (fun L => Calls Try.prog 16 #[.agg #[.int .i64 a0, .int .i64 a1], .agg #[.int .i64 b0, .int .i64 b1]] w (SomeSl L w)) _ _ _ _ h1 h2 (minus_1 _ _ _ _ w h1 h2) (minus_2 _ _ _ _ w h1 h2) (minus_3 _ _ _ _ w h1 h2) (minus_4 _ _ _ _ w h1 h2) (minus_5 _ _ _ _ w h1 h2) (minus_6 _ _ _ _ w h1 h2)
theorem rminus_any (a0 a1 b0 b1 : Int) (w : World) : Calls Try.prog 29 #[.agg #[.int .i64 a0, .int .i64 a1], .agg #[.int .i64 b0, .int .i64 b1]] w (SomeSl (minusL a0 a1 b0 b1) w) := by
  cases h1 : validB a0 a1
  · rw [minusL_bad (by simp [bothB, h1])]; exact rminus_bad _ _ _ _ _ (.inl h1)
  cases h2 : validB b0 b1
  · rw [minusL_bad (by simp [bothB, h2])]; exact rminus_bad _ _ _ _ _ (.inr ⟨h1, h2⟩)
  exact minus_cases (fun L => Calls Try.prog 29 #[.agg #[.int .i64 a0, .int .i64 a1], .agg #[.int .i64 b0, .int .i64 b1]] w (SomeSl L w)) _ _ _ _ h1 h2 (rminus_1 _ _ _ _ w h1 h2) (rminus_2 _ _ _ _ w h1 h2) (rminus_3 _ _ _ _ w h1 h2) (rminus_4 _ _ _ _ w h1 h2) (rminus_5 _ _ _ _ w h1 h2) (rminus_6 _ _ _ _ w h1 h2)
end Go.Proofs.Ytcgkcdcignkadaa.Iv
