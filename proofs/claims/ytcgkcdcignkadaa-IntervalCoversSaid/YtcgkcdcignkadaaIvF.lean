/-
  The walks of the reference's Minus of layer 10, of the program civiltime.
-/
import Derived.Test.YtcgkcdcignkadaaIvR
import Derived.Test.YtcgkcdcignkadaaIvD2
import Derived.Deep.DeepMust
set_option linter.unusedSimpArgs false
set_option linter.unusedVariables false
namespace Go.Proofs.Ytcgkcdcignkadaa.Iv
open Go.RowKit Go.ChangeShapes Go.WideShapes Go.Proofs.Ytcgkcdcignkadaa.Sl

theorem info_span : (Try.prog.info? 23).map (fun i => (i.zero, i.size, i.bytes)) = some (some (.agg #[.int .i64 0, .int .i64 0]), 2, 16) := by kernel_rfl
/-- A slice of these spans comes back; of what was there nothing has turned. -/
def SomeSl (L : List (Int × Int)) (w : World) (e : Ending) (w' : World) : Prop := ∃ v, e = .returned v ∧ Sl w' v L.length 2 (flat L) ∧ Below w.heap.size w w'
theorem rminus_bad (a0 a1 b0 b1 : Int) (w : World) (h : validB a0 a1 = false ∨ (validB a0 a1 = true ∧ validB b0 b1 = false)) : Calls Try.prog 29 #[.agg #[.int .i64 a0, .int .i64 a1], .agg #[.int .i64 b0, .int .i64 b1]] w (SomeSl [] w) := by
  rcases h with h | ⟨h1, h2⟩
  all_goals
    go_enter Try.func29, Try.ntmps29
    go_wp2_with (go_at_call 32; ((with_reducible refine (rvalid_any _ _ _).mono ?_); rintro e w1 ⟨rfl, hb⟩; (first | (replace hL := bstep hL hb) | (have hL := hb)); clear hb; replace hc := bcell hL))
    go_ret
    exact ⟨_, rfl, Sl.mk0 _ _ _ _, (by have hB := bstep (w := w) (by go_grown) hL; have hs := hB.size; go_grown)⟩

set_option maxHeartbeats 2000000 in
theorem rminus_1 (a0 a1 b0 b1 : Int) (w : World) (h1 : validB a0 a1 = true) (h2 : validB b0 b1 = true) (d1 : a0 < a1) (c : a1 ≤ b0) (d3 : a0 < b1) (d4 : ¬ b1 < a1) : Calls Try.prog 29 #[.agg #[.int .i64 a0, .int .i64 a1], .agg #[.int .i64 b0, .int .i64 b1]] w (SomeSl [(a0, a1)] w) := by
  obtain ⟨ii, hi, hz0, hz1, hz2⟩ := info_parts info_span
  go_enter Try.func29, Try.ntmps29
  go_wp2_with (first | (go_at_call 32; ((with_reducible refine (rvalid_any _ _ _).mono ?_); rintro e w1 ⟨rfl, hb⟩; (first | (replace hL := bstep hL hb) | (have hL := hb)); clear hb; replace hc := bcell hL)) | (at_builtin; go_must (refine wpList_app1 hL rfl (.tmp 22) (.tmp 31) 31 rfl 23 Try.underlying31 hi hz0 hz1 hz2 rfl (by decide) (.slice none 0 0) 0 [] rfl [.int .i64 a0, .int .i64 a1] 23 (World.ownsRow_nil _ _ _ _) rfl (by simp) rfl (by intro u hu; simp at hu; rcases hu with rfl | rfl <;> rfl) (by unfold maxLen; omega) (by omega) ?_); intro g cap w1 hown hL'; clear hL; have hL := hL'; clear hL'; replace hc := bcell hL))
  go_ret
  exact ⟨_, rfl, (Sl.of_owns hown).cast rfl rfl, (by have hB := bstep (w := w) (by go_grown) hL; have hs := hB.size; go_grown)⟩

set_option maxHeartbeats 2000000 in
theorem rminus_2 (a0 a1 b0 b1 : Int) (w : World) (h1 : validB a0 a1 = true) (h2 : validB b0 b1 = true) (d1 : a0 < a1) (c : b1 ≤ a0) (d3 : b0 < a1) (d4 : ¬ a0 < b0) : Calls Try.prog 29 #[.agg #[.int .i64 a0, .int .i64 a1], .agg #[.int .i64 b0, .int .i64 b1]] w (SomeSl [(a0, a1)] w) := by
  obtain ⟨ii, hi, hz0, hz1, hz2⟩ := info_parts info_span
  go_enter Try.func29, Try.ntmps29
  go_wp2_with (first | (go_at_call 32; ((with_reducible refine (rvalid_any _ _ _).mono ?_); rintro e w1 ⟨rfl, hb⟩; (first | (replace hL := bstep hL hb) | (have hL := hb)); clear hb; replace hc := bcell hL)) | (at_builtin; go_must (refine wpList_app1 hL rfl (.tmp 41) (.tmp 50) 31 rfl 23 Try.underlying31 hi hz0 hz1 hz2 rfl (by decide) (.slice none 0 0) 0 [] rfl [.int .i64 a0, .int .i64 a1] 23 (World.ownsRow_nil _ _ _ _) rfl (by simp) rfl (by intro u hu; simp at hu; rcases hu with rfl | rfl <;> rfl) (by unfold maxLen; omega) (by omega) ?_); intro g cap w1 hown hL'; clear hL; have hL := hL'; clear hL'; replace hc := bcell hL))
  go_ret
  exact ⟨_, rfl, (Sl.of_owns hown).cast rfl rfl, (by have hB := bstep (w := w) (by go_grown) hL; have hs := hB.size; go_grown)⟩

set_option maxHeartbeats 2000000 in
theorem rminus_4 (a0 a1 b0 b1 : Int) (w : World) (h1 : validB a0 a1 = true) (h2 : validB b0 b1 = true) (d1 : a0 < b0) (c : a1 ≤ b1) (d3 : b0 < a1) (d4 : a0 < b1) : Calls Try.prog 29 #[.agg #[.int .i64 a0, .int .i64 a1], .agg #[.int .i64 b0, .int .i64 b1]] w (SomeSl [(a0, b0)] w) := by
  obtain ⟨ii, hi, hz0, hz1, hz2⟩ := info_parts info_span
  go_enter Try.func29, Try.ntmps29
  go_wp2_with (first | (go_at_call 32; ((with_reducible refine (rvalid_any _ _ _).mono ?_); rintro e w1 ⟨rfl, hb⟩; (first | (replace hL := bstep hL hb) | (have hL := hb)); clear hb; replace hc := bcell hL)) | (at_builtin; go_must (refine wpList_app1 hL rfl (.tmp 22) (.tmp 31) 31 rfl 23 Try.underlying31 hi hz0 hz1 hz2 rfl (by decide) (.slice none 0 0) 0 [] rfl [.int .i64 a0, .int .i64 b0] 23 (World.ownsRow_nil _ _ _ _) rfl (by simp) rfl (by intro u hu; simp at hu; rcases hu with rfl | rfl <;> rfl) (by unfold maxLen; omega) (by omega) ?_); intro g cap w1 hown hL'; clear hL; have hL := hL'; clear hL'; replace hc := bcell hL))
  go_ret
  exact ⟨_, rfl, (Sl.of_owns hown).cast rfl rfl, (by have hB := bstep (w := w) (by go_grown) hL; have hs := hB.size; go_grown)⟩

set_option maxHeartbeats 2000000 in
theorem rminus_5 (a0 a1 b0 b1 : Int) (w : World) (h1 : validB a0 a1 = true) (h2 : validB b0 b1 = true) (d1 : b0 ≤ a0) (c : b1 < a1) (d3 : b0 < a1) (d4 : a0 < b1) : Calls Try.prog 29 #[.agg #[.int .i64 a0, .int .i64 a1], .agg #[.int .i64 b0, .int .i64 b1]] w (SomeSl [(b1, a1)] w) := by
  obtain ⟨ii, hi, hz0, hz1, hz2⟩ := info_parts info_span
  go_enter Try.func29, Try.ntmps29
  go_wp2_with (first | (go_at_call 32; ((with_reducible refine (rvalid_any _ _ _).mono ?_); rintro e w1 ⟨rfl, hb⟩; (first | (replace hL := bstep hL hb) | (have hL := hb)); clear hb; replace hc := bcell hL)) | (at_builtin; go_must (refine wpList_app1 hL rfl (.tmp 41) (.tmp 50) 31 rfl 23 Try.underlying31 hi hz0 hz1 hz2 rfl (by decide) (.slice none 0 0) 0 [] rfl [.int .i64 b1, .int .i64 a1] 23 (World.ownsRow_nil _ _ _ _) rfl (by simp) rfl (by intro u hu; simp at hu; rcases hu with rfl | rfl <;> rfl) (by unfold maxLen; omega) (by omega) ?_); intro g cap w1 hown hL'; clear hL; have hL := hL'; clear hL'; replace hc := bcell hL))
  go_ret
  exact ⟨_, rfl, (Sl.of_owns hown).cast rfl rfl, (by have hB := bstep (w := w) (by go_grown) hL; have hs := hB.size; go_grown)⟩

set_option maxHeartbeats 2000000 in
theorem rminus_6 (a0 a1 b0 b1 : Int) (w : World) (h1 : validB a0 a1 = true) (h2 : validB b0 b1 = true) (d1 : b0 ≤ a0) (c : a1 ≤ b1) (d3 : b0 < a1) (d4 : a0 < b1) : Calls Try.prog 29 #[.agg #[.int .i64 a0, .int .i64 a1], .agg #[.int .i64 b0, .int .i64 b1]] w (SomeSl [] w) := by
  obtain ⟨ii, hi, hz0, hz1, hz2⟩ := info_parts info_span
  go_enter Try.func29, Try.ntmps29
  go_wp2_with (first | (go_at_call 32; ((with_reducible refine (rvalid_any _ _ _).mono ?_); rintro e w1 ⟨rfl, hb⟩; (first | (replace hL := bstep hL hb) | (have hL := hb)); clear hb; replace hc := bcell hL)))
  go_ret
  exact ⟨_, rfl, Sl.mk0 _ _ _ _, (by have hB := bstep (w := w) (by go_grown) hL; have hs := hB.size; go_grown)⟩

set_option maxHeartbeats 2000000 in
theorem rminus_3 (a0 a1 b0 b1 : Int) (w : World) (h1 : validB a0 a1 = true) (h2 : validB b0 b1 = true) (d1 : a0 < b0) (c : b1 < a1) (d3 : b0 < a1) (d4 : a0 < b1) : Calls Try.prog 29 #[.agg #[.int .i64 a0, .int .i64 a1], .agg #[.int .i64 b0, .int .i64 b1]] w (SomeSl [(a0, b0), (b1, a1)] w) := by
  obtain ⟨ii, hi, hz0, hz1, hz2⟩ := info_parts info_span
  have tok1 : True := trivial
  go_enter Try.func29, Try.ntmps29
  go_wp2_with (first | (go_at_call 32; ((with_reducible refine (rvalid_any _ _ _).mono ?_); rintro e w1 ⟨rfl, hb⟩; (first | (replace hL := bstep hL hb) | (have hL := hb)); clear hb; replace hc := bcell hL)) | (have _t := tok1; at_builtin; go_must (refine wpList_app1 hL rfl (.tmp 22) (.tmp 31) 31 rfl 23 Try.underlying31 hi hz0 hz1 hz2 rfl (by decide) (.slice none 0 0) 0 [] rfl [.int .i64 a0, .int .i64 b0] 23 (World.ownsRow_nil _ _ _ _) rfl (by simp) rfl (by intro u hu; simp at hu; rcases hu with rfl | rfl <;> rfl) (by unfold maxLen; omega) (by omega) ?_); intro g cap w1 hown hL'; clear hL; have hL := hL'; clear hL'; replace hc := bcell hL; clear tok1) | (at_builtin; go_must (refine wpList_app1 hL rfl (.tmp 41) (.tmp 50) 31 rfl 23 Try.underlying31 hi hz0 hz1 hz2 rfl (by decide) (.slice (some ⟨g, 0, none⟩) 1 cap) 1 ([] ++ [.int .i64 a0, .int .i64 b0]) rfl [.int .i64 b1, .int .i64 a1] 23 hown rfl (by simp) rfl (by intro u hu; simp at hu; rcases hu with rfl | rfl <;> rfl) (by unfold maxLen; omega) (by omega) ?_); intro g cap w1 hown hL'; clear hL; have hL := hL'; clear hL'; replace hc := bcell hL))
  go_ret
  exact ⟨_, rfl, (Sl.of_owns hown).cast rfl rfl, (by have hB := bstep (w := w) (by go_grown) hL; have hs := hB.size; go_grown)⟩
end Go.Proofs.Ytcgkcdcignkadaa.Iv
