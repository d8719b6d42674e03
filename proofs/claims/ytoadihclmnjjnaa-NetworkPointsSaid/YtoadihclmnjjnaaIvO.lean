/-
  The walks of the reference of layer 10 (Line, Valid, Inverse, Of) of the program civiltime.
-/
import Derived.Test.YtoadihclmnjjnaaIvR
set_option linter.unusedSimpArgs false
set_option linter.unusedVariables false
namespace Go.Proofs.Ytoadihclmnjjnaa.Iv
open Go.RowKit Go.ChangeShapes Go.WideShapes


/-- The reference's own chain of tests. -/
def rofZ (a0 a1 b0 b1 : Int) : Int :=
  if a1 < b0 then 0 else if a1 = b0 then 1 else if b1 < a0 then 12 else if b1 = a0 then 11
  else if a0 < b0 then (if a1 < b1 then 2 else if a1 = b1 then 7 else 8)
  else if a0 = b0 then (if a1 < b1 then 3 else if a1 = b1 then 6 else 9)
  else (if a1 < b1 then 4 else if a1 = b1 then 5 else 10)
theorem rof_bad (a0 a1 b0 b1 : Int) (w : World) (h : validB a0 a1 = false ∨ (validB a0 a1 = true ∧ validB b0 b1 = false)) : Calls Try.prog 66 #[.agg #[.int .i64 a0, .int .i64 a1], .agg #[.int .i64 b0, .int .i64 b1]] w fun e w' => e = .returned (.int .i64 (-1)) ∧ Below w.heap.size w w' := by
  rcases h with h | ⟨h1, h2⟩
  all_goals
    go_enter Try.func66, Try.ntmps66
    go_wp2_with (go_at_call 65; ((with_reducible refine (rvalid_any _ _ _).mono ?_); rintro e w1 ⟨rfl, hb⟩; (first | (replace hL := bstep hL hb) | (have hL := hb)); clear hb; replace hc := bcell hL))
    go_ret
    exact ⟨rfl, (by have hB := bstep (w := w) (by go_grown) hL; have hs := hB.size; go_grown)⟩
set_option maxHeartbeats 2000000 in
theorem rof_good (a0 a1 b0 b1 : Int) (w : World) (h1 : validB a0 a1 = true) (h2 : validB b0 b1 = true) : Calls Try.prog 66 #[.agg #[.int .i64 a0, .int .i64 a1], .agg #[.int .i64 b0, .int .i64 b1]] w fun e w' => Hid (e = .returned (.int .i64 (rofZ a0 a1 b0 b1))) ∧ Below w.heap.size w w' := by
  go_enter Try.func66, Try.ntmps66
  go_wp2_with (go_at_call 65; ((with_reducible refine (rvalid_any _ _ _).mono ?_); rintro e w1 ⟨rfl, hb⟩; (first | (replace hL := bstep hL hb) | (have hL := hb)); clear hb; replace hc := bcell hL))
  all_goals
    go_ret
    refine ⟨Lib.hid ?_, (by have hB := bstep (w := w) (by go_grown) hL; have hs := hB.size; go_grown)⟩
    unfold rofZ
    simp_all [Int.not_lt] <;> (repeat' split) <;> first | rfl | omega
theorem sgn_lt {a b : Int} (h : a < b) : sgn a b = -1 := by unfold sgn; rw [if_pos h]
theorem sgn_self (a : Int) : sgn a a = 0 := by unfold sgn; rw [if_neg (by omega), if_neg (by omega)]
theorem sgn_gt {a b : Int} (h : b < a) : sgn a b = 1 := by unfold sgn; rw [if_neg (by omega), if_pos h]
theorem rofZ_eq {a0 a1 b0 b1 : Int} (h1 : validB a0 a1 = true) (h2 : validB b0 b1 = true) : rofZ a0 a1 b0 b1 = ofZ a0 a1 b0 b1 := by
  have v1 := valid_bd h1
  have v2 := valid_bd h2
  unfold ofZ
  rw [if_neg (by simp [h1, h2])]
  unfold rofZ
  clear h1 h2
  rcases Int.lt_trichotomy a1 b0 with c | c | c
  · rw [sgn_lt c, if_pos c]; rfl
  · subst c; rw [sgn_self, if_neg (by omega)]; simp
  rw [sgn_gt c, if_neg (by omega), if_neg (by omega)]
  rcases Int.lt_trichotomy a0 b1 with d | d | d
  · rw [sgn_lt d, if_neg (by omega), if_neg (by omega)]
    rcases Int.lt_trichotomy a0 b0 with e | e | e
    · rw [sgn_lt e, if_pos e]
      rcases Int.lt_trichotomy a1 b1 with f | f | f
      · rw [sgn_lt f, if_pos f]; rfl
      · subst f; rw [sgn_self, if_neg (by omega)]; simp [tab]
      · rw [sgn_gt f, if_neg (by omega), if_neg (by omega)]; rfl
    · subst e; rw [sgn_self, if_neg (by omega), if_pos rfl]
      rcases Int.lt_trichotomy a1 b1 with f | f | f
      · rw [sgn_lt f, if_pos f]; rfl
      · subst f; rw [sgn_self, if_neg (by omega)]; simp [tab]
      · rw [sgn_gt f, if_neg (by omega), if_neg (by omega)]; rfl
    · rw [sgn_gt e, if_neg (by omega), if_neg (by omega)]
      rcases Int.lt_trichotomy a1 b1 with f | f | f
      · rw [sgn_lt f, if_pos f]; rfl
      · subst f; rw [sgn_self, if_neg (by omega)]; simp [tab]
      · rw [sgn_gt f, if_neg (by omega), if_neg (by omega)]; rfl
  · subst d; rw [sgn_self, if_neg (by omega)]; simp
  · rw [sgn_gt d, if_pos d]; rfl
theorem rof_any (a0 a1 b0 b1 : Int) (w : World) : Calls Try.prog 66 #[.agg #[.int .i64 a0, .int .i64 a1], .agg #[.int .i64 b0, .int .i64 b1]] w fun e w' => e = .returned (.int .i64 (ofZ a0 a1 b0 b1)) ∧ Below w.heap.size w w' := by
  cases h1 : validB a0 a1
  · rw [show ofZ a0 a1 b0 b1 = -1 by unfold ofZ; rw [if_pos (by simp [h1])]]; exact rof_bad _ _ _ _ _ (.inl h1)
  cases h2 : validB b0 b1
  · rw [show ofZ a0 a1 b0 b1 = -1 by unfold ofZ; rw [if_pos (by simp [h2])]]; exact rof_bad _ _ _ _ _ (.inr ⟨h1, h2⟩)
  rw [← rofZ_eq h1 h2]
  exact (rof_good _ _ _ _ w h1 h2).mono fun _ _ ⟨a, b⟩ => ⟨a.out, b⟩
end Go.Proofs.Ytoadihclmnjjnaa.Iv
