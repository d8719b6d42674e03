/-
  The walk of the law IntervalRelations.
-/
import Derived.Test.YtcgkcdcignkadaaIvN
import Derived.Test.YtcgkcdcignkadaaIvG
set_option linter.unusedSimpArgs false
set_option linter.unusedVariables false
namespace Go.Proofs.Ytcgkcdcignkadaa.Iv
open Go.RowKit Go.ChangeShapes Go.WideShapes Go.Proofs.Ytcgkcdcignkadaa.Sl

theorem lit13 (W : World) : Sl (W.alloc (.cells #[.int .i64 0, .int .i64 1, .int .i64 2, .int .i64 3, .int .i64 4, .int .i64 5, .int .i64 6, .int .i64 7, .int .i64 8, .int .i64 9, .int .i64 10, .int .i64 11, .int .i64 12] 3)) (.slice (some ⟨W.heap.size, 0, none⟩) 13 13) 13 1 (ints [0, 1, 2, 3, 4, 5, 6, 7, 8, 9, 10, 11, 12]) := Sl.lit W (ints [0, 1, 2, 3, 4, 5, 6, 7, 8, 9, 10, 11, 12]) 3 13 13 1 rfl
theorem eq13 (v v2 : Value) (W : World) (h1 : Sl W v 13 1 (ints [0, 1, 2, 3, 4, 5, 6, 7, 8, 9, 10, 11, 12])) (h2 : Sl W v2 13 1 (ints [0, 1, 2, 3, 4, 5, 6, 7, 8, 9, 10, 11, 12])) : Calls Try.prog 23 #[v, v2] W fun e w' => e = .returned (.bool true) ∧ Below W.heap.size W w' := eqints_any v v2 [0, 1, 2, 3, 4, 5, 6, 7, 8, 9, 10, 11, 12] [0, 1, 2, 3, 4, 5, 6, 7, 8, 9, 10, 11, 12] W h1 h2 (by decide)
theorem all_anyS (w : World) : Calls Try.prog 24 #[] w fun e w' => ∃ v, e = .returned v ∧ Sl w' v 13 1 (ints [0, 1, 2, 3, 4, 5, 6, 7, 8, 9, 10, 11, 12]) ∧ Below w.heap.size w w' :=
  (all_any w).mono fun e w' h => by
    obtain ⟨rfl, rfl⟩ := h
    exact ⟨_, rfl, Sl.lit w (ints [0, 1, 2, 3, 4, 5, 6, 7, 8, 9, 10, 11, 12]) 3 13 13 1 rfl, (Below.refl _ _).alloc (Nat.le_refl _) _⟩
set_option maxHeartbeats 4000000 in
theorem intervalRelations_walk (a0 a1 b0 b1 r : Int) (wa0 : (Lit.int .i64 a0).wf = true) (wa1 : (Lit.int .i64 a1).wf = true) (wb0 : (Lit.int .i64 b0).wf = true) (wb1 : (Lit.int .i64 b1).wf = true) (wr : (Lit.int .i64 r).wf = true)(w : World) : Calls Try.prog 6 #[.agg #[.int .i64 a0, .int .i64 a1], .agg #[.int .i64 b0, .int .i64 b1], .int .i64 r] w fun e w' => e = .returned (.bool true) ∧ Below w.heap.size w w' := by
  clear wa0 wa1 wb0 wb1
  go_enter Try.func6, Try.ntmps6
  go_wp2_with fail
  refine (awake_any _).mono ?_
  rintro e w1 ⟨rfl, hb⟩
  have ca0 : w1.cell? ⟨w.heap.size, 0, none⟩ = some (.int .i64 a0) := cell_kept (by simp) hb
  have ca1 : w1.cell? ⟨w.heap.size, 1, none⟩ = some (.int .i64 a1) := cell_kept (by simp) hb
  have cb0 : w1.cell? ⟨w.heap.size + 1, 0, none⟩ = some (.int .i64 b0) := cell_kept (by simp) hb
  have cb1 : w1.cell? ⟨w.heap.size + 1, 1, none⟩ = some (.int .i64 b1) := cell_kept (by simp) hb
  have hB : Below w.heap.size w w1 := bstep (by go_grown) hb
  clear hb
  have nca0 : w.heap.size < w1.heap.size := block_of_cell ca0
  have ncb0 : w.heap.size + 1 < w1.heap.size := block_of_cell cb0
  go_wp2_with fail
  have hz := hB.size
  have hK : Kp w [(w.heap.size, 0, .int .i64 a0), (w.heap.size, 1, .int .i64 a1), (w.heap.size + 1, 0, .int .i64 b0), (w.heap.size + 1, 1, .int .i64 b1)] w1.drew := (((((Kp.start hB).add (w.heap.size + 1) 1 (.int .i64 b1) cb1).add (w.heap.size + 1) 0 (.int .i64 b0) cb0).add (w.heap.size) 1 (.int .i64 a1) ca1).add (w.heap.size) 0 (.int .i64 a0) ca0).drew
  have kca0 : ∀ W, Kp w [(w.heap.size, 0, .int .i64 a0), (w.heap.size, 1, .int .i64 a1), (w.heap.size + 1, 0, .int .i64 b0), (w.heap.size + 1, 1, .int .i64 b1)] W → W.cell? ⟨w.heap.size, 0, none⟩ = some (.int .i64 a0) := fun _ h => h.at0
  have kca1 : ∀ W, Kp w [(w.heap.size, 0, .int .i64 a0), (w.heap.size, 1, .int .i64 a1), (w.heap.size + 1, 0, .int .i64 b0), (w.heap.size + 1, 1, .int .i64 b1)] W → W.cell? ⟨w.heap.size, 1, none⟩ = some (.int .i64 a1) := fun _ h => h.tl.at0
  have kcb0 : ∀ W, Kp w [(w.heap.size, 0, .int .i64 a0), (w.heap.size, 1, .int .i64 a1), (w.heap.size + 1, 0, .int .i64 b0), (w.heap.size + 1, 1, .int .i64 b1)] W → W.cell? ⟨w.heap.size + 1, 0, none⟩ = some (.int .i64 b0) := fun _ h => h.tl.tl.at0
  have kcb1 : ∀ W, Kp w [(w.heap.size, 0, .int .i64 a0), (w.heap.size, 1, .int .i64 a1), (w.heap.size + 1, 0, .int .i64 b0), (w.heap.size + 1, 1, .int .i64 b1)] W → W.cell? ⟨w.heap.size + 1, 1, none⟩ = some (.int .i64 b1) := fun _ h => h.tl.tl.tl.at0
  clear ca0 ca1 cb0 cb1 hB hz
  go_region_held3 (fun W => Kp w [(w.heap.size, 0, .int .i64 a0), (w.heap.size, 1, .int .i64 a1), (w.heap.size + 1, 0, .int .i64 b0), (w.heap.size + 1, 1, .int .i64 b1)] W)
    (first | (with_reducible exact hK) | (with_reducible assumption) | (with_reducible exact Kp.step (by assumption) hb) | (with_reducible exact Kp.alloc (by assumption) _))
    (first
     | (go_at_call 12; ((with_reducible refine (of_any _ _ _ _ _).mono ?_); rintro e wn ⟨rfl, hb⟩))
     | (go_at_call 21; ((with_reducible refine (rof_any _ _ _ _ _).mono ?_); rintro e wn ⟨rfl, hb⟩))
     | (go_at_call 14; ((with_reducible refine (inverse_any _ _ wr).mono ?_); rintro e wn ⟨rfl, rfl⟩))
     | (go_at_call 22; ((with_reducible refine (rinverse_any _ _ wr).mono ?_); rintro e wn ⟨rfl, rfl⟩))
     | (go_at_call 24; ((with_reducible refine (all_anyS _).mono ?_); rintro e wn ⟨v, rfl, hsl, hb⟩; (try have hlt := (lit13 _).below hb)))
     | (go_at_call 23; (first | (with_reducible refine (eq13 v _ _ (hsl.alloc _) (lit13 _)).mono ?_) | (with_reducible refine (eq13 v _ _ hsl hlt).mono ?_)); rintro e wn ⟨rfl, hb⟩))
  all_goals
    go_wp2
    go_ret
    exact ⟨rfl, kp_below (by assumption)⟩
end Go.Proofs.Ytcgkcdcignkadaa.Iv
