/-
  The walk of AllenConvex.
-/
import Derived.Test.YtmkgddgdeffllaaPl4
import Derived.Test.YtmkgddgdeffllaaRef4
set_option linter.unusedSimpArgs false
set_option linter.unusedVariables false
namespace Go.Proofs.Ytmkgddgdeffllaa.Al
open Go Go.RowKit Go.Proofs.Ytmkgddgdeffllaa.Bt Go.Proofs.Ytmkgddgdeffllaa.Sl

theorem cvxB_set {s : Int} (h : cvxB s = true) : ∃ m : Nat, s = m ∧ m < 8192 ∧ cvx m = true := by
  unfold cvxB at h
  rw [Bool.and_eq_true] at h
  obtain ⟨h1, h2⟩ := h
  have h3 : 0 ≤ s ∧ s ≤ 8191 := by simpa [isSetB] using h1
  exact ⟨s.toNat, by omega, by omega, h2⟩
theorem convex_is (m : Nat) (hm : m < 8192) (h : cvx m = true) (w : World) : Calls Try.prog 19 #[.int .i64 (m : Int)] w fun e w' => e = .returned (.bool true) ∧ Below w.heap.size w w' := by
  have e : cvxB (m : Int) = true := by
    unfold cvxB
    rw [show isSetB (m : Int) = true by simp [isSetB]; omega]
    simpa using h
  rw [← e]; exact convex_any _ w
set_option maxHeartbeats 2000000 in
theorem allenConvex_walk (a b : Int) (_ : (Lit.int .i64 a).wf = true) (_ : (Lit.int .i64 b).wf = true) (w : World) : Calls Try.prog 6 #[.int .i64 a, .int .i64 b] w fun e w' => e = .returned (.bool true) ∧ Below w.heap.size w w' := by
  have f1 := convex_any a
  have f2 := convex_any b
  have f3 := rconvex_any a
  have f4 := rconvex_any b
  cases h1 : cvxB a
  · rw [h1] at f1 f3
    generalize cvxB b = B at *
    go_enter Try.func6, Try.ntmps6
    go_wp2_with (first | (go_at_call 11; (with_reducible refine (awake_any _).mono ?_); rintro e w1 ⟨rfl, hL⟩) | (go_at_call 19; (first | (with_reducible refine (f1 _).mono ?_) | (with_reducible refine (f2 _).mono ?_)); rintro e w1 ⟨rfl, hb⟩; replace hL := Sl.bstep hL hb; clear hb) | (go_at_call 20; (first | (with_reducible refine (f3 _).mono ?_) | (with_reducible refine (f4 _).mono ?_)); rintro e w1 ⟨rfl, hb⟩; replace hL := Sl.bstep hL hb; clear hb))
    go_ret
    exact ⟨rfl, hL⟩
  cases h2 : cvxB b
  · rw [h1] at f1 f3
    rw [h2] at f2 f4
    go_enter Try.func6, Try.ntmps6
    go_wp2_with (first | (go_at_call 11; (with_reducible refine (awake_any _).mono ?_); rintro e w1 ⟨rfl, hL⟩) | (go_at_call 19; (first | (with_reducible refine (f1 _).mono ?_) | (with_reducible refine (f2 _).mono ?_)); rintro e w1 ⟨rfl, hb⟩; replace hL := Sl.bstep hL hb; clear hb) | (go_at_call 20; (first | (with_reducible refine (f3 _).mono ?_) | (with_reducible refine (f4 _).mono ?_)); rintro e w1 ⟨rfl, hb⟩; replace hL := Sl.bstep hL hb; clear hb))
    go_ret
    exact ⟨rfl, hL⟩
  rw [h1] at f1 f3
  rw [h2] at f2 f4
  obtain ⟨x, rfl, hx, cx⟩ := cvxB_set h1
  obtain ⟨y, rfl, hy, cy⟩ := cvxB_set h2
  have mx := cvx_mem x hx cx
  have my := cvx_mem y hy cy
  have g1 := convex_is (x &&& y) (Nat.lt_of_le_of_lt Nat.and_le_left hx) (cvx_and x y mx my)
  have g2 := convex_is (invN x) (invN_lt _) (cvx_inv x mx)
  have g3 := convex_is (cmp x y) (cmp_lt _ _) (cvx_cmp x y mx my)
  have g4 := inverse_any x hx
  have g5 := compose_set x y hx hy
  have ho : bits .and .i64 (x : Int) (y : Int) = ((x &&& y : Nat) : Int) := bits_and _ _ (by omega) (by omega)
  clear h1 h2 cx cy mx my
  generalize x &&& y = X1 at *
  generalize invN x = X2 at *
  generalize cmp x y = X3 at *
  go_enter Try.func6, Try.ntmps6
  go_wp2_with (first | (go_at_call 11; (with_reducible refine (awake_any _).mono ?_); rintro e w1 ⟨rfl, hL⟩) | (go_at_call 19; (first | (with_reducible refine (f1 _).mono ?_) | (with_reducible refine (f2 _).mono ?_) | (with_reducible refine (g1 _).mono ?_) | (with_reducible refine (g2 _).mono ?_) | (with_reducible refine (g3 _).mono ?_)); rintro e w1 ⟨rfl, hb⟩; replace hL := Sl.bstep hL hb; clear hb) | (go_at_call 20; (first | (with_reducible refine (f3 _).mono ?_) | (with_reducible refine (f4 _).mono ?_)); rintro e w1 ⟨rfl, hb⟩; replace hL := Sl.bstep hL hb; clear hb) | (go_at_call 18; (with_reducible refine (g4 _).mono ?_); rintro e w1 ⟨rfl, hb⟩; replace hL := Sl.bstep hL hb; clear hb) | (go_at_call 21; (with_reducible refine (g5 _).mono ?_); rintro e w1 ⟨rfl, hb⟩; replace hL := Sl.bstep hL hb; clear hb))
  go_ret
  exact ⟨rfl, hL⟩
end Go.Proofs.Ytmkgddgdeffllaa.Al
