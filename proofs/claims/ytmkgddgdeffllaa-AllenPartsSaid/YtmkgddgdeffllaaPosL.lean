/-
  The walk of AllenPossible.
-/
import Derived.Test.YtmkgddgdeffllaaPos
set_option linter.unusedSimpArgs false
set_option linter.unusedVariables false
namespace Go.Proofs.Ytmkgddgdeffllaa.Al
open Go Go.RowKit Go.Proofs.Ytmkgddgdeffllaa.Bt Go.Proofs.Ytmkgddgdeffllaa.Sl
open Go.Proofs.Ytmkgddgdeffllaa.Iv (of_any valid_any ofZ validB lineB sgn_bd sgn_cases tab sgn)

theorem poss_len (s a0 a1 lo hi : Int) : (poss s a0 a1 lo hi).length ≤ 1640 := by
  unfold poss
  split
  · rename_i h
    simp only [posB, Bool.and_eq_true, decide_eq_true_eq] at h
    exact keep_len s a0 a1 lo _ _ _ (by omega) (Nat.le_refl _) (Nat.le_refl _)
  · simp
theorem kp_below {w W : World} {cs : List (Nat × Nat × Value)} (h : Kp w cs W) : Below w.heap.size w W := h.1
theorem eqsame (L : List (Int × Int)) (hL : L.length ≤ 1640) (v1 v2 : Value) (w : World) (h1 : Sl w v1 L.length 2 (flat L)) (h2 : Sl w v2 L.length 2 (flat L)) : Calls Try.prog 25 #[v1, v2] w fun e w' => e = .returned (.bool true) ∧ Below w.heap.size w w' := by
  have := eqspans_any v1 v2 L L w h1 h2 (by unfold maxLen; omega)
  simpa using this
set_option maxHeartbeats 4000000 in
theorem allenPossible_walk (s a0 a1 lo hi : Int) (_ : (Lit.int .i64 s).wf = true) (_ : (Lit.int .i64 a0).wf = true) (_ : (Lit.int .i64 a1).wf = true) (_ : (Lit.int .i64 lo).wf = true) (_ : (Lit.int .i64 hi).wf = true) (w : World) :
    Calls Try.prog 9 #[.int .i64 s, .agg #[.int .i64 a0, .int .i64 a1], .int .i64 lo, .int .i64 hi] w fun e w' => e = .returned (.bool true) ∧ Below w.heap.size w w' := by
  have hlen := poss_len s a0 a1 lo hi
  have f1 := possible_any s a0 a1 lo hi
  have f2 := rpossible_any s a0 a1 lo hi
  generalize poss s a0 a1 lo hi = L at *
  go_enter Try.func9, Try.ntmps9
  go_wp2_with (go_at_call 11; (with_reducible refine (awake_any _).mono ?_); rintro e w1 ⟨rfl, hb⟩)
  have c0 : w1.cell? ⟨w.heap.size, 0, none⟩ = some (.int .i64 a0) := Sl.cell_kept (by simp) hb
  have c1 : w1.cell? ⟨w.heap.size, 1, none⟩ = some (.int .i64 a1) := Sl.cell_kept (by simp) hb
  have hB : Below w.heap.size w w1 := Sl.bstep (by go_grown) hb
  have hK : Kp w [(w.heap.size, 0, .int .i64 a0), (w.heap.size, 1, .int .i64 a1)] w1.drew := (((Kp.start hB).add _ _ _ c1).add _ _ _ c0).drew
  have k0 : ∀ w', Kp w [(w.heap.size, 0, .int .i64 a0), (w.heap.size, 1, .int .i64 a1)] w' → w'.cell? ⟨w.heap.size, 0, none⟩ = some (.int .i64 a0) := fun w' h => h.at0
  have k1 : ∀ w', Kp w [(w.heap.size, 0, .int .i64 a0), (w.heap.size, 1, .int .i64 a1)] w' → w'.cell? ⟨w.heap.size, 1, none⟩ = some (.int .i64 a1) := fun w' h => h.tl.at0
  clear hb c0 c1 hB
  go_region_held3 (fun w' => Kp w [(w.heap.size, 0, .int .i64 a0), (w.heap.size, 1, .int .i64 a1)] w') (first | (with_reducible exact hK) | (with_reducible assumption) | (with_reducible exact Kp.step (by assumption) hb) | (with_reducible exact Kp.alloc (by assumption) _)) (first | (go_at_call 23; (with_reducible refine (f1 _).mono ?_); rintro e wn ⟨v, rfl, hsl, hb⟩) | (go_at_call 26; (with_reducible refine (f2 _).mono ?_); rintro e wn ⟨v2, rfl, hsl2, hb⟩; replace hsl := hsl.below hb) | (go_at_call 25; refine (eqsame L hlen v v2 _ hsl hsl2).mono ?_; rintro e wn ⟨rfl, hb⟩))
  go_wp2
  go_ret
  exact ⟨rfl, kp_below (by assumption)⟩
end Go.Proofs.Ytmkgddgdeffllaa.Al
