/-
  The walk of the reference's Meaning (layer 33).
-/
import Derived.Test.YtgfppajbegcaeaaDoorVcW
import Derived.Test.YtgfppajbegcaeaaDoorVcU
set_option linter.unusedSimpArgs false
set_option linter.unusedVariables false
namespace Go.Proofs.YtgfppajbegcaeaaDoor.Va
open Go.RowKit Go.ChangeShapes Go.WideShapes Go.Proofs.YtgfppajbegcaeaaDoor.Sl Go.Lib

set_option maxRecDepth 20000 in
theorem rmg1_o (col oth : ByteArray) (ho : ¬ oth = ⟨#[]⟩) (v0 v1 : Int) (v2 : ByteArray) (ad : Option Addr) (cap : Nat) (w : World) (sl : Value) (g off n capl : Nat) (i : Nat) (hi : i < n) (a0 a1 : Int) (a2 : ByteArray) (c0 : w.cell? ⟨g, off + i * 3, none⟩ = some (.int .i64 a0)) (c1 : w.cell? ⟨g, off + i * 3 + 1, none⟩ = some (.int .i64 a1)) (c2 : w.cell? ⟨g, off + i * 3 + 2, none⟩ = some (.string a2)) (m : Nat) (hm : m < n) (b0 b1 : Int) (b2 : ByteArray) (d0 : w.cell? ⟨g, off + m * 3, none⟩ = some (.int .i64 b0)) (d1 : w.cell? ⟨g, off + m * 3 + 1, none⟩ = some (.int .i64 b1)) (d2 : w.cell? ⟨g, off + m * 3 + 2, none⟩ = some (.string b2)) (HF1 : ∀ W, Below w.heap.size w W → Calls Tryd.prog 69 #[sl, .string col] W fun e w' => e = .returned (.int .i64 (i : Int)) ∧ Below W.heap.size W w') (HF2 : ∀ W, Below w.heap.size w W → Calls Tryd.prog 69 #[sl, .string oth] W fun e w' => e = .returned (.int .i64 (m : Int)) ∧ Below W.heap.size W w') (z : Int) (hz : z = -1 ∨ z = 0 ∨ z = 1) (HO : ∀ W, Calls Tryd.prog 35 #[.agg #[.int .i64 a0, .int .i64 a1, .string a2], .agg #[.int .i64 b0, .int .i64 b1, .string b2]] W fun e w' => e = .returned (.int .i64 z) ∧ Below W.heap.size W w') :
    Calls Tryd.prog 50 #[agC 1 col oth v0 v1 v2 (.slice ad 0 cap), sl, .slice (some ⟨g, off, none⟩) n capl] w fun e w' => e = .returned (.bool (cmpN 1 z)) ∧ Below w.heap.size w w' := by
  obtain ⟨q1, q2, q3⟩ := list_ne oth ho
  have hg := block_of_cell c1
  have i0 : (0 : Int) ≤ (i : Int) := by omega
  have i1 : (i : Int) < (n : Int) := by omega
  have m0 : (0 : Int) ≤ (m : Int) := by omega
  have m1 : (m : Int) < (n : Int) := by omega
  go_enter Tryd.func50, Tryd.ntmps50
  go_upto_region 7 with (go_at_call 69; (with_reducible refine (HF2 _ (by go_grown)).mono ?_); rintro e w1 ⟨rfl, hb⟩; obtain ⟨hL, c0, c1, c2, d0, d1, d2, p0, p1, p2, p3, p4, p5, p6, bx, z0, z1, z2, fz⟩ := mg_cells c0 c1 c2 d0 d1 d2 hb; clear hb)
  obtain ⟨W, hW⟩ : ∃ W, ((w1.setCell ⟨w.heap.size + 1, 0, none⟩ (.int .i64 b0)).setCell ⟨w.heap.size + 1, 1, none⟩ (.int .i64 b1)).setCell ⟨w.heap.size + 1, 2, none⟩ (.string b2) = W := ⟨_, rfl⟩
  obtain ⟨hLW, z0, z1, z2, hk⟩ := mg_set hL (Nat.le_succ _) bx hW
  rw [hW]
  replace c0 := hk _ _ _ (by omega) c0
  replace c1 := hk _ _ _ (by omega) c1
  replace c2 := hk _ _ _ (by omega) c2
  replace p0 := hk _ _ _ (by omega) p0
  replace p1 := hk _ _ _ (by omega) p1
  clear hW hk bx fz d0 d1 d2 p2 p3 p4 p5 p6 hL
  have g0 := cell_regrown c0
  have g1 := cell_regrown c1
  have g2 := cell_regrown c2
  have y0 := cell_regrown p0
  have y1 := cell_regrown p1
  have x0 := cell_regrown z0
  have x1 := cell_regrown z1
  have x2 := cell_regrown z2
  refine wp_region_quiet_below (by kernel_rfl) (by kernel_rfl) ?_
  repeat (go_big_quiet_step (first | (go_at_call 69; with_reducible exact Calls.regrown_of (HF1 _ (bstep hLW (below_regrown _ _ _)))) | (go_at_call 35; with_reducible exact Calls.regrown_of (HO _))))
  refine wpQuiet_nil ?_
  intro _ hw9
  obtain ⟨⟨dq, osq⟩, hw9⟩ := hw9
  subst hw9
  have hL2 := bstep hLW (below_regrown W dq osq)
  clear hLW
  rcases hz with rfl | rfl | rfl
  · go_wp2
    go_ret
    exact ⟨rfl, hL2⟩
  · go_wp2
    go_ret
    exact ⟨rfl, hL2⟩
  · go_wp2
    go_ret
    exact ⟨rfl, hL2⟩
set_option maxRecDepth 20000 in
theorem rmg1_e (col : ByteArray) (v0 v1 : Int) (v2 : ByteArray) (ad : Option Addr) (cap : Nat) (w : World) (sl : Value) (g off n capl : Nat) (i : Nat) (hi : i < n) (a0 a1 : Int) (a2 : ByteArray) (c0 : w.cell? ⟨g, off + i * 3, none⟩ = some (.int .i64 a0)) (c1 : w.cell? ⟨g, off + i * 3 + 1, none⟩ = some (.int .i64 a1)) (c2 : w.cell? ⟨g, off + i * 3 + 2, none⟩ = some (.string a2)) (HF1 : ∀ W, Below w.heap.size w W → Calls Tryd.prog 69 #[sl, .string col] W fun e w' => e = .returned (.int .i64 (i : Int)) ∧ Below W.heap.size W w') (z : Int) (hz : z = -1 ∨ z = 0 ∨ z = 1) (HO : ∀ W, Calls Tryd.prog 35 #[.agg #[.int .i64 a0, .int .i64 a1, .string a2], .agg #[.int .i64 v0, .int .i64 v1, .string v2]] W fun e w' => e = .returned (.int .i64 z) ∧ Below W.heap.size W w') :
    Calls Tryd.prog 50 #[agC 1 col ⟨#[]⟩ v0 v1 v2 (.slice ad 0 cap), sl, .slice (some ⟨g, off, none⟩) n capl] w fun e w' => e = .returned (.bool (cmpN 1 z)) ∧ Below w.heap.size w w' := by
  have hg := block_of_cell c1
  have i0 : (0 : Int) ≤ (i : Int) := by omega
  have i1 : (i : Int) < (n : Int) := by omega
  go_enter Tryd.func50, Tryd.ntmps50
  go_upto_region 7 with fail
  obtain ⟨W, hW⟩ : ∃ W, (w.alloc (.cells #[.int .i64 1, .string col, .string ⟨#[]⟩, .int .i64 v0, .int .i64 v1, .string v2, .slice ad 0 cap] 46)).alloc (.cells #[.int .i64 v0, .int .i64 v1, .string v2] 32) = W := ⟨_, rfl⟩
  rw [hW]
  obtain ⟨hL, c0, c1, c2, d0, d1, d2, p0, p1, p2, p3, p4, p5, p6, bx, z0, z1, z2, fz⟩ := mg_cells c0 c1 c2 c0 c1 c2 (show Below ((w.alloc (.cells #[.int .i64 1, .string col, .string ⟨#[]⟩, .int .i64 v0, .int .i64 v1, .string v2, .slice ad 0 cap] 46)).alloc (.cells #[.int .i64 v0, .int .i64 v1, .string v2] 32)).heap.size _ W from hW ▸ Below.refl _ _)
  clear hW bx fz d0 d1 d2 p2 p3 p4 p5 p6
  have g0 := cell_regrown c0
  have g1 := cell_regrown c1
  have g2 := cell_regrown c2
  have y0 := cell_regrown p0
  have y1 := cell_regrown p1
  have x0 := cell_regrown z0
  have x1 := cell_regrown z1
  have x2 := cell_regrown z2
  refine wp_region_quiet_below (by kernel_rfl) (by kernel_rfl) ?_
  repeat (go_big_quiet_step (first | (go_at_call 69; with_reducible exact Calls.regrown_of (HF1 _ (bstep hL (below_regrown _ _ _)))) | (go_at_call 35; with_reducible exact Calls.regrown_of (HO _))))
  refine wpQuiet_nil ?_
  intro _ hw9
  obtain ⟨⟨dq, osq⟩, hw9⟩ := hw9
  subst hw9
  have hL2 := bstep hL (below_regrown W dq osq)
  clear hL
  rcases hz with rfl | rfl | rfl
  · go_wp2
    go_ret
    exact ⟨rfl, hL2⟩
  · go_wp2
    go_ret
    exact ⟨rfl, hL2⟩
  · go_wp2
    go_ret
    exact ⟨rfl, hL2⟩
set_option maxRecDepth 20000 in
theorem rmg2_o (col oth : ByteArray) (ho : ¬ oth = ⟨#[]⟩) (v0 v1 : Int) (v2 : ByteArray) (ad : Option Addr) (cap : Nat) (w : World) (sl : Value) (g off n capl : Nat) (i : Nat) (hi : i < n) (a0 a1 : Int) (a2 : ByteArray) (c0 : w.cell? ⟨g, off + i * 3, none⟩ = some (.int .i64 a0)) (c1 : w.cell? ⟨g, off + i * 3 + 1, none⟩ = some (.int .i64 a1)) (c2 : w.cell? ⟨g, off + i * 3 + 2, none⟩ = some (.string a2)) (m : Nat) (hm : m < n) (b0 b1 : Int) (b2 : ByteArray) (d0 : w.cell? ⟨g, off + m * 3, none⟩ = some (.int .i64 b0)) (d1 : w.cell? ⟨g, off + m * 3 + 1, none⟩ = some (.int .i64 b1)) (d2 : w.cell? ⟨g, off + m * 3 + 2, none⟩ = some (.string b2)) (HF1 : ∀ W, Below w.heap.size w W → Calls Tryd.prog 69 #[sl, .string col] W fun e w' => e = .returned (.int .i64 (i : Int)) ∧ Below W.heap.size W w') (HF2 : ∀ W, Below w.heap.size w W → Calls Tryd.prog 69 #[sl, .string oth] W fun e w' => e = .returned (.int .i64 (m : Int)) ∧ Below W.heap.size W w') (z : Int) (hz : z = -1 ∨ z = 0 ∨ z = 1) (HO : ∀ W, Calls Tryd.prog 35 #[.agg #[.int .i64 a0, .int .i64 a1, .string a2], .agg #[.int .i64 b0, .int .i64 b1, .string b2]] W fun e w' => e = .returned (.int .i64 z) ∧ Below W.heap.size W w') :
    Calls Tryd.prog 50 #[agC 2 col oth v0 v1 v2 (.slice ad 0 cap), sl, .slice (some ⟨g, off, none⟩) n capl] w fun e w' => e = .returned (.bool (cmpN 2 z)) ∧ Below w.heap.size w w' := by
  obtain ⟨q1, q2, q3⟩ := list_ne oth ho
  have hg := block_of_cell c1
  have i0 : (0 : Int) ≤ (i : Int) := by omega
  have i1 : (i : Int) < (n : Int) := by omega
  have m0 : (0 : Int) ≤ (m : Int) := by omega
  have m1 : (m : Int) < (n : Int) := by omega
  go_enter Tryd.func50, Tryd.ntmps50
  go_upto_region 7 with (go_at_call 69; (with_reducible refine (HF2 _ (by go_grown)).mono ?_); rintro e w1 ⟨rfl, hb⟩; obtain ⟨hL, c0, c1, c2, d0, d1, d2, p0, p1, p2, p3, p4, p5, p6, bx, z0, z1, z2, fz⟩ := mg_cells c0 c1 c2 d0 d1 d2 hb; clear hb)
  obtain ⟨W, hW⟩ : ∃ W, ((w1.setCell ⟨w.heap.size + 1, 0, none⟩ (.int .i64 b0)).setCell ⟨w.heap.size + 1, 1, none⟩ (.int .i64 b1)).setCell ⟨w.heap.size + 1, 2, none⟩ (.string b2) = W := ⟨_, rfl⟩
  obtain ⟨hLW, z0, z1, z2, hk⟩ := mg_set hL (Nat.le_succ _) bx hW
  rw [hW]
  replace c0 := hk _ _ _ (by omega) c0
  replace c1 := hk _ _ _ (by omega) c1
  replace c2 := hk _ _ _ (by omega) c2
  replace p0 := hk _ _ _ (by omega) p0
  replace p1 := hk _ _ _ (by omega) p1
  clear hW hk bx fz d0 d1 d2 p2 p3 p4 p5 p6 hL
  have g0 := cell_regrown c0
  have g1 := cell_regrown c1
  have g2 := cell_regrown c2
  have y0 := cell_regrown p0
  have y1 := cell_regrown p1
  have x0 := cell_regrown z0
  have x1 := cell_regrown z1
  have x2 := cell_regrown z2
  refine wp_region_quiet_below (by kernel_rfl) (by kernel_rfl) ?_
  repeat (go_big_quiet_step (first | (go_at_call 69; with_reducible exact Calls.regrown_of (HF1 _ (bstep hLW (below_regrown _ _ _)))) | (go_at_call 35; with_reducible exact Calls.regrown_of (HO _))))
  refine wpQuiet_nil ?_
  intro _ hw9
  obtain ⟨⟨dq, osq⟩, hw9⟩ := hw9
  subst hw9
  have hL2 := bstep hLW (below_regrown W dq osq)
  clear hLW
  rcases hz with rfl | rfl | rfl
  · go_wp2
    go_ret
    exact ⟨rfl, hL2⟩
  · go_wp2
    go_ret
    exact ⟨rfl, hL2⟩
  · go_wp2
    go_ret
    exact ⟨rfl, hL2⟩
set_option maxRecDepth 20000 in
theorem rmg2_e (col : ByteArray) (v0 v1 : Int) (v2 : ByteArray) (ad : Option Addr) (cap : Nat) (w : World) (sl : Value) (g off n capl : Nat) (i : Nat) (hi : i < n) (a0 a1 : Int) (a2 : ByteArray) (c0 : w.cell? ⟨g, off + i * 3, none⟩ = some (.int .i64 a0)) (c1 : w.cell? ⟨g, off + i * 3 + 1, none⟩ = some (.int .i64 a1)) (c2 : w.cell? ⟨g, off + i * 3 + 2, none⟩ = some (.string a2)) (HF1 : ∀ W, Below w.heap.size w W → Calls Tryd.prog 69 #[sl, .string col] W fun e w' => e = .returned (.int .i64 (i : Int)) ∧ Below W.heap.size W w') (z : Int) (hz : z = -1 ∨ z = 0 ∨ z = 1) (HO : ∀ W, Calls Tryd.prog 35 #[.agg #[.int .i64 a0, .int .i64 a1, .string a2], .agg #[.int .i64 v0, .int .i64 v1, .string v2]] W fun e w' => e = .returned (.int .i64 z) ∧ Below W.heap.size W w') :
    Calls Tryd.prog 50 #[agC 2 col ⟨#[]⟩ v0 v1 v2 (.slice ad 0 cap), sl, .slice (some ⟨g, off, none⟩) n capl] w fun e w' => e = .returned (.bool (cmpN 2 z)) ∧ Below w.heap.size w w' := by
  have hg := block_of_cell c1
  have i0 : (0 : Int) ≤ (i : Int) := by omega
  have i1 : (i : Int) < (n : Int) := by omega
  go_enter Tryd.func50, Tryd.ntmps50
  go_upto_region 7 with fail
  obtain ⟨W, hW⟩ : ∃ W, (w.alloc (.cells #[.int .i64 2, .string col, .string ⟨#[]⟩, .int .i64 v0, .int .i64 v1, .string v2, .slice ad 0 cap] 46)).alloc (.cells #[.int .i64 v0, .int .i64 v1, .string v2] 32) = W := ⟨_, rfl⟩
  rw [hW]
  obtain ⟨hL, c0, c1, c2, d0, d1, d2, p0, p1, p2, p3, p4, p5, p6, bx, z0, z1, z2, fz⟩ := mg_cells c0 c1 c2 c0 c1 c2 (show Below ((w.alloc (.cells #[.int .i64 2, .string col, .string ⟨#[]⟩, .int .i64 v0, .int .i64 v1, .string v2, .slice ad 0 cap] 46)).alloc (.cells #[.int .i64 v0, .int .i64 v1, .string v2] 32)).heap.size _ W from hW ▸ Below.refl _ _)
  clear hW bx fz d0 d1 d2 p2 p3 p4 p5 p6
  have g0 := cell_regrown c0
  have g1 := cell_regrown c1
  have g2 := cell_regrown c2
  have y0 := cell_regrown p0
  have y1 := cell_regrown p1
  have x0 := cell_regrown z0
  have x1 := cell_regrown z1
  have x2 := cell_regrown z2
  refine wp_region_quiet_below (by kernel_rfl) (by kernel_rfl) ?_
  repeat (go_big_quiet_step (first | (go_at_call 69; with_reducible exact Calls.regrown_of (HF1 _ (bstep hL (below_regrown _ _ _)))) | (go_at_call 35; with_reducible exact Calls.regrown_of (HO _))))
  refine wpQuiet_nil ?_
  intro _ hw9
  obtain ⟨⟨dq, osq⟩, hw9⟩ := hw9
  subst hw9
  have hL2 := bstep hL (below_regrown W dq osq)
  clear hL
  rcases hz with rfl | rfl | rfl
  · go_wp2
    go_ret
    exact ⟨rfl, hL2⟩
  · go_wp2
    go_ret
    exact ⟨rfl, hL2⟩
  · go_wp2
    go_ret
    exact ⟨rfl, hL2⟩
set_option maxRecDepth 20000 in
theorem rmg3 (sl sv s : Value) (w : World) :
    Calls Tryd.prog 50 #[agC 3 ⟨#[]⟩ ⟨#[]⟩ 0 0 ⟨#[]⟩ s, sl, sv] w fun e w' => e = .returned (.bool true) ∧ Below w.heap.size w w' := by
  go_enter Tryd.func50, Tryd.ntmps50
  go_wp2
  go_ret
  exact ⟨rfl, by go_grown⟩
set_option maxRecDepth 20000 in
theorem rmg4 (g off cap : Nat) (w : World) (sl sv : Value) (xa : Int) (ya za : ByteArray) (sa ta : Int) (ua : ByteArray) (ra : Value) (ea0 : w.cell? ⟨g, off + 0 * 7, none⟩ = some (.int .i64 xa)) (ea1 : w.cell? ⟨g, off + 0 * 7 + 1, none⟩ = some (.string ya)) (ea2 : w.cell? ⟨g, off + 0 * 7 + 2, none⟩ = some (.string za)) (ea3 : w.cell? ⟨g, off + 0 * 7 + 3, none⟩ = some (.int .i64 sa)) (ea4 : w.cell? ⟨g, off + 0 * 7 + 4, none⟩ = some (.int .i64 ta)) (ea5 : w.cell? ⟨g, off + 0 * 7 + 5, none⟩ = some (.string ua)) (ea6 : w.cell? ⟨g, off + 0 * 7 + 6, none⟩ = some ra) (ba : Bool) (Ha : ∀ W, Below w.heap.size w W → Calls Tryd.prog 50 #[agC xa ya za sa ta ua ra, sl, sv] W fun e w' => e = .returned (.bool ba) ∧ Below W.heap.size W w') :
    Calls Tryd.prog 50 #[agC 4 ⟨#[]⟩ ⟨#[]⟩ 0 0 ⟨#[]⟩ (.slice (some ⟨g, off, none⟩) 1 cap), sl, sv] w fun e w' => e = .returned (.bool (!ba)) ∧ Below w.heap.size w w' := by
  simp only [Nat.zero_mul, Nat.add_zero, Nat.one_mul] at ea0 ea1 ea2 ea3 ea4 ea5 ea6
  have hga := block_of_cell ea0
  go_enter Tryd.func50, Tryd.ntmps50
  go_wp2_with (go_at_call 50; (with_reducible refine (Ha _ (by go_grown)).mono ?_); rintro e w1 ⟨rfl, hb⟩; have hL : Below w.heap.size w w1 := bstep (by go_grown) hb; clear hb)
  go_ret
  exact ⟨rfl, hL⟩
set_option maxRecDepth 20000 in
theorem rmg5 (g off cap : Nat) (w : World) (sl sv : Value) (xa : Int) (ya za : ByteArray) (sa ta : Int) (ua : ByteArray) (ra : Value) (ea0 : w.cell? ⟨g, off + 0 * 7, none⟩ = some (.int .i64 xa)) (ea1 : w.cell? ⟨g, off + 0 * 7 + 1, none⟩ = some (.string ya)) (ea2 : w.cell? ⟨g, off + 0 * 7 + 2, none⟩ = some (.string za)) (ea3 : w.cell? ⟨g, off + 0 * 7 + 3, none⟩ = some (.int .i64 sa)) (ea4 : w.cell? ⟨g, off + 0 * 7 + 4, none⟩ = some (.int .i64 ta)) (ea5 : w.cell? ⟨g, off + 0 * 7 + 5, none⟩ = some (.string ua)) (ea6 : w.cell? ⟨g, off + 0 * 7 + 6, none⟩ = some ra) (xb : Int) (yb zb : ByteArray) (sb tb : Int) (ub : ByteArray) (rb : Value) (eb0 : w.cell? ⟨g, off + 1 * 7, none⟩ = some (.int .i64 xb)) (eb1 : w.cell? ⟨g, off + 1 * 7 + 1, none⟩ = some (.string yb)) (eb2 : w.cell? ⟨g, off + 1 * 7 + 2, none⟩ = some (.string zb)) (eb3 : w.cell? ⟨g, off + 1 * 7 + 3, none⟩ = some (.int .i64 sb)) (eb4 : w.cell? ⟨g, off + 1 * 7 + 4, none⟩ = some (.int .i64 tb)) (eb5 : w.cell? ⟨g, off + 1 * 7 + 5, none⟩ = some (.string ub)) (eb6 : w.cell? ⟨g, off + 1 * 7 + 6, none⟩ = some rb) (ba : Bool) (Ha : ∀ W, Below w.heap.size w W → Calls Tryd.prog 50 #[agC xa ya za sa ta ua ra, sl, sv] W fun e w' => e = .returned (.bool ba) ∧ Below W.heap.size W w') (bb : Bool) (Hb : ∀ W, Below w.heap.size w W → Calls Tryd.prog 50 #[agC xb yb zb sb tb ub rb, sl, sv] W fun e w' => e = .returned (.bool bb) ∧ Below W.heap.size W w') :
    Calls Tryd.prog 50 #[agC 5 ⟨#[]⟩ ⟨#[]⟩ 0 0 ⟨#[]⟩ (.slice (some ⟨g, off, none⟩) 2 cap), sl, sv] w fun e w' => e = .returned (.bool (ba && bb)) ∧ Below w.heap.size w w' := by
  simp only [Nat.zero_mul, Nat.add_zero, Nat.one_mul] at ea0 ea1 ea2 ea3 ea4 ea5 ea6
  have hga := block_of_cell ea0
  simp only [Nat.zero_mul, Nat.add_zero, Nat.one_mul] at eb0 eb1 eb2 eb3 eb4 eb5 eb6
  have hgb := block_of_cell eb0
  have hbx : ∀ w1 : World, Below (w.alloc (.cells #[.int .i64 5, .string ⟨#[]⟩, .string ⟨#[]⟩, .int .i64 0, .int .i64 0, .string ⟨#[]⟩, .slice (some ⟨g, off, none⟩) 2 cap] 46)).heap.size (w.alloc (.cells #[.int .i64 5, .string ⟨#[]⟩, .string ⟨#[]⟩, .int .i64 0, .int .i64 0, .string ⟨#[]⟩, .slice (some ⟨g, off, none⟩) 2 cap] 46)) w1 → w1.cell? ⟨w.heap.size, 6, none⟩ = some (.slice (some ⟨g, off, none⟩) 2 cap) := fun w1 hb => Go.Proofs.YtgfppajbegcaeaaDoor.Sl.cell_kept (box_cell (box_new w _ _) 6 _ rfl) hb
  cases ba
  · go_enter Tryd.func50, Tryd.ntmps50
    go_wp2_with (first | (go_at_call 50; (with_reducible refine (Ha _ (by go_grown)).mono ?_); rintro e w1 ⟨rfl, hb⟩; have hx := hbx _ hb; have hL : Below w.heap.size w w1 := bstep (by go_grown) hb; clear hb; have eb0 := Go.Proofs.YtgfppajbegcaeaaDoor.Sl.cell_kept eb0 hL; have eb1 := Go.Proofs.YtgfppajbegcaeaaDoor.Sl.cell_kept eb1 hL; have eb2 := Go.Proofs.YtgfppajbegcaeaaDoor.Sl.cell_kept eb2 hL; have eb3 := Go.Proofs.YtgfppajbegcaeaaDoor.Sl.cell_kept eb3 hL; have eb4 := Go.Proofs.YtgfppajbegcaeaaDoor.Sl.cell_kept eb4 hL; have eb5 := Go.Proofs.YtgfppajbegcaeaaDoor.Sl.cell_kept eb5 hL; have eb6 := Go.Proofs.YtgfppajbegcaeaaDoor.Sl.cell_kept eb6 hL) | (go_at_call 50; (with_reducible refine (Hb _ hL).mono ?_); rintro e w2 ⟨rfl, hb⟩; have hL2 : Below w.heap.size w w2 := bstep hL hb; clear hb))
    go_ret
    exact ⟨rfl, hL⟩
  · go_enter Tryd.func50, Tryd.ntmps50
    go_wp2_with (first | (go_at_call 50; (with_reducible refine (Ha _ (by go_grown)).mono ?_); rintro e w1 ⟨rfl, hb⟩; have hx := hbx _ hb; have hL : Below w.heap.size w w1 := bstep (by go_grown) hb; clear hb; have eb0 := Go.Proofs.YtgfppajbegcaeaaDoor.Sl.cell_kept eb0 hL; have eb1 := Go.Proofs.YtgfppajbegcaeaaDoor.Sl.cell_kept eb1 hL; have eb2 := Go.Proofs.YtgfppajbegcaeaaDoor.Sl.cell_kept eb2 hL; have eb3 := Go.Proofs.YtgfppajbegcaeaaDoor.Sl.cell_kept eb3 hL; have eb4 := Go.Proofs.YtgfppajbegcaeaaDoor.Sl.cell_kept eb4 hL; have eb5 := Go.Proofs.YtgfppajbegcaeaaDoor.Sl.cell_kept eb5 hL; have eb6 := Go.Proofs.YtgfppajbegcaeaaDoor.Sl.cell_kept eb6 hL) | (go_at_call 50; (with_reducible refine (Hb _ hL).mono ?_); rintro e w2 ⟨rfl, hb⟩; have hL2 : Below w.heap.size w w2 := bstep hL hb; clear hb))
    go_ret
    exact ⟨rfl, hL2⟩
set_option maxRecDepth 20000 in
theorem rmg6 (g off cap : Nat) (w : World) (sl sv : Value) (xa : Int) (ya za : ByteArray) (sa ta : Int) (ua : ByteArray) (ra : Value) (ea0 : w.cell? ⟨g, off + 0 * 7, none⟩ = some (.int .i64 xa)) (ea1 : w.cell? ⟨g, off + 0 * 7 + 1, none⟩ = some (.string ya)) (ea2 : w.cell? ⟨g, off + 0 * 7 + 2, none⟩ = some (.string za)) (ea3 : w.cell? ⟨g, off + 0 * 7 + 3, none⟩ = some (.int .i64 sa)) (ea4 : w.cell? ⟨g, off + 0 * 7 + 4, none⟩ = some (.int .i64 ta)) (ea5 : w.cell? ⟨g, off + 0 * 7 + 5, none⟩ = some (.string ua)) (ea6 : w.cell? ⟨g, off + 0 * 7 + 6, none⟩ = some ra) (xb : Int) (yb zb : ByteArray) (sb tb : Int) (ub : ByteArray) (rb : Value) (eb0 : w.cell? ⟨g, off + 1 * 7, none⟩ = some (.int .i64 xb)) (eb1 : w.cell? ⟨g, off + 1 * 7 + 1, none⟩ = some (.string yb)) (eb2 : w.cell? ⟨g, off + 1 * 7 + 2, none⟩ = some (.string zb)) (eb3 : w.cell? ⟨g, off + 1 * 7 + 3, none⟩ = some (.int .i64 sb)) (eb4 : w.cell? ⟨g, off + 1 * 7 + 4, none⟩ = some (.int .i64 tb)) (eb5 : w.cell? ⟨g, off + 1 * 7 + 5, none⟩ = some (.string ub)) (eb6 : w.cell? ⟨g, off + 1 * 7 + 6, none⟩ = some rb) (ba : Bool) (Ha : ∀ W, Below w.heap.size w W → Calls Tryd.prog 50 #[agC xa ya za sa ta ua ra, sl, sv] W fun e w' => e = .returned (.bool ba) ∧ Below W.heap.size W w') (bb : Bool) (Hb : ∀ W, Below w.heap.size w W → Calls Tryd.prog 50 #[agC xb yb zb sb tb ub rb, sl, sv] W fun e w' => e = .returned (.bool bb) ∧ Below W.heap.size W w') :
    Calls Tryd.prog 50 #[agC 6 ⟨#[]⟩ ⟨#[]⟩ 0 0 ⟨#[]⟩ (.slice (some ⟨g, off, none⟩) 2 cap), sl, sv] w fun e w' => e = .returned (.bool (ba || bb)) ∧ Below w.heap.size w w' := by
  simp only [Nat.zero_mul, Nat.add_zero, Nat.one_mul] at ea0 ea1 ea2 ea3 ea4 ea5 ea6
  have hga := block_of_cell ea0
  simp only [Nat.zero_mul, Nat.add_zero, Nat.one_mul] at eb0 eb1 eb2 eb3 eb4 eb5 eb6
  have hgb := block_of_cell eb0
  have hbx : ∀ w1 : World, Below (w.alloc (.cells #[.int .i64 6, .string ⟨#[]⟩, .string ⟨#[]⟩, .int .i64 0, .int .i64 0, .string ⟨#[]⟩, .slice (some ⟨g, off, none⟩) 2 cap] 46)).heap.size (w.alloc (.cells #[.int .i64 6, .string ⟨#[]⟩, .string ⟨#[]⟩, .int .i64 0, .int .i64 0, .string ⟨#[]⟩, .slice (some ⟨g, off, none⟩) 2 cap] 46)) w1 → w1.cell? ⟨w.heap.size, 6, none⟩ = some (.slice (some ⟨g, off, none⟩) 2 cap) := fun w1 hb => Go.Proofs.YtgfppajbegcaeaaDoor.Sl.cell_kept (box_cell (box_new w _ _) 6 _ rfl) hb
  cases ba
  · go_enter Tryd.func50, Tryd.ntmps50
    go_wp2_with (first | (go_at_call 50; (with_reducible refine (Ha _ (by go_grown)).mono ?_); rintro e w1 ⟨rfl, hb⟩; have hx := hbx _ hb; have hL : Below w.heap.size w w1 := bstep (by go_grown) hb; clear hb; have eb0 := Go.Proofs.YtgfppajbegcaeaaDoor.Sl.cell_kept eb0 hL; have eb1 := Go.Proofs.YtgfppajbegcaeaaDoor.Sl.cell_kept eb1 hL; have eb2 := Go.Proofs.YtgfppajbegcaeaaDoor.Sl.cell_kept eb2 hL; have eb3 := Go.Proofs.YtgfppajbegcaeaaDoor.Sl.cell_kept eb3 hL; have eb4 := Go.Proofs.YtgfppajbegcaeaaDoor.Sl.cell_kept eb4 hL; have eb5 := Go.Proofs.YtgfppajbegcaeaaDoor.Sl.cell_kept eb5 hL; have eb6 := Go.Proofs.YtgfppajbegcaeaaDoor.Sl.cell_kept eb6 hL) | (go_at_call 50; (with_reducible refine (Hb _ hL).mono ?_); rintro e w2 ⟨rfl, hb⟩; have hL2 : Below w.heap.size w w2 := bstep hL hb; clear hb))
    go_ret
    exact ⟨rfl, hL2⟩
  · go_enter Tryd.func50, Tryd.ntmps50
    go_wp2_with (first | (go_at_call 50; (with_reducible refine (Ha _ (by go_grown)).mono ?_); rintro e w1 ⟨rfl, hb⟩; have hx := hbx _ hb; have hL : Below w.heap.size w w1 := bstep (by go_grown) hb; clear hb; have eb0 := Go.Proofs.YtgfppajbegcaeaaDoor.Sl.cell_kept eb0 hL; have eb1 := Go.Proofs.YtgfppajbegcaeaaDoor.Sl.cell_kept eb1 hL; have eb2 := Go.Proofs.YtgfppajbegcaeaaDoor.Sl.cell_kept eb2 hL; have eb3 := Go.Proofs.YtgfppajbegcaeaaDoor.Sl.cell_kept eb3 hL; have eb4 := Go.Proofs.YtgfppajbegcaeaaDoor.Sl.cell_kept eb4 hL; have eb5 := Go.Proofs.YtgfppajbegcaeaaDoor.Sl.cell_kept eb5 hL; have eb6 := Go.Proofs.YtgfppajbegcaeaaDoor.Sl.cell_kept eb6 hL) | (go_at_call 50; (with_reducible refine (Hb _ hL).mono ?_); rintro e w2 ⟨rfl, hb⟩; have hL2 : Below w.heap.size w w2 := bstep hL hb; clear hb))
    go_ret
    exact ⟨rfl, hL⟩
/-- What the reference's Meaning does for one condition. -/
def rmgOk (l : List Cl) (vs : List V3) (x : CN) : Prop := ∀ (cs : List Value) (d : Nat) (sl sv : Value) (w : World), CnAt w cs x → good x d = true → typ x l = 0 → Cs w sl l → Vs w sv vs → szC x → SzL vs →
  Calls Tryd.prog 50 #[.agg cs.toArray, sl, sv] w fun e w' => e = .returned (.bool (mng x l vs)) ∧ Below w.heap.size w w'
theorem rmg_any (l : List Cl) (vs : List V3) (hl : l.length ≤ 2000000) (hlv : l.length = vs.length) : ∀ c, rmgOk l vs c := by
  intro c
  induction c using CN.ind with
  | h k col oth v L ih =>
    intro cs d sl sv w hc hgd ht hs hv hsz hsv
    obtain ⟨s, ad, cap, rfl, rfl, had⟩ := hc.open
    obtain ⟨v0, v1, v2⟩ := v
    obtain ⟨hok, hgL⟩ := good_mk hgd
    obtain ⟨hn2, hn0, har⟩ := okN_len hok
    obtain ⟨ht1, ht2⟩ := typ_mk ht
    rw [szC] at hsz
    obtain ⟨hsz0, hszL⟩ := hsz
    show Calls Tryd.prog 50 #[agC k col oth v0 v1 v2 (.slice ad L.length cap), sl, sv] w _
    rw [mng]
    by_cases hk : k = 1 ∨ k = 2
    · obtain rfl : L = [] := List.length_eq_zero_iff.1 (hn0 hk)
      rw [if_pos hk]
      obtain ⟨hi0, hm0⟩ := typN_zero hk ht1
      have HF1 := fun W (hb : Below w.heap.size w W) => calls_below (rat_any l sl col W hl (hs.below hb))
      rcases idx_nat col l with h1 | ⟨i, h1, hi⟩
      · exact absurd h1 (by omega)
      rw [h1] at HF1 ⊢
      obtain ⟨g, off, capl, rfl, hcl⟩ := hv.open (by omega)
      obtain ⟨⟨a0, a1, a2⟩, hta⟩ : ∃ t, vs[i]? = some t := ⟨_, List.getElem?_eq_getElem (by omega)⟩
      obtain ⟨c0, c1, c2⟩ := vs_get hcl hta
      rw [valAt_get vs i _ hta]
      by_cases hoth : oth = ⟨#[]⟩
      · subst hoth
        rw [if_pos (show (⟨#[]⟩ : ByteArray).size = 0 from rfl)]
        have HO := fun W => rcompare_any (a0, a1, a2) (v0, v1, v2) W (hsv _ (List.mem_of_getElem? hta)) hsz0
        have hz := ordV_cmp.rng (a0, a1, a2) (v0, v1, v2)
        generalize ordV (a0, a1, a2) (v0, v1, v2) = z at HO hz ⊢
        rcases hk with rfl | rfl
        · exact rmg1_e col v0 v1 v2 ad cap w sl g off vs.length capl i (by omega) a0 a1 a2 c0 c1 c2 HF1 z hz HO
        · exact rmg2_e col v0 v1 v2 ad cap w sl g off vs.length capl i (by omega) a0 a1 a2 c0 c1 c2 HF1 z hz HO
      · have hos := size0 oth hoth
        rw [if_neg hos]
        have HF2 := fun W (hb : Below w.heap.size w W) => calls_below (rat_any l sl oth W hl (hs.below hb))
        have hm1 := hm0 hos
        rcases idx_nat oth l with h2 | ⟨m, h2, hm⟩
        · exact absurd h2 (by omega)
        rw [h2] at HF2 ⊢
        obtain ⟨⟨b0, b1, b2⟩, htb⟩ : ∃ t, vs[m]? = some t := ⟨_, List.getElem?_eq_getElem (by omega)⟩
        obtain ⟨d0, d1, d2⟩ := vs_get hcl htb
        rw [valAt_get vs m _ htb]
        have HO := fun W => rcompare_any (a0, a1, a2) (b0, b1, b2) W (hsv _ (List.mem_of_getElem? hta)) (hsv _ (List.mem_of_getElem? htb))
        have hz := ordV_cmp.rng (a0, a1, a2) (b0, b1, b2)
        generalize ordV (a0, a1, a2) (b0, b1, b2) = z at HO hz ⊢
        rcases hk with rfl | rfl
        · exact rmg1_o col oth hoth v0 v1 v2 ad cap w sl g off vs.length capl i (by omega) a0 a1 a2 c0 c1 c2 m (by omega) b0 b1 b2 d0 d1 d2 HF1 HF2 z hz HO
        · exact rmg2_o col oth hoth v0 v1 v2 ad cap w sl g off vs.length capl i (by omega) a0 a1 a2 c0 c1 c2 m (by omega) b0 b1 b2 d0 d1 d2 HF1 HF2 z hz HO
    · have hk2 : k = 3 ∨ k = 4 ∨ k = 5 ∨ k = 6 := by
        unfold okN at hok
        rw [if_neg hk] at hok
        by_cases h : k = 3 ∨ k = 4 ∨ k = 5 ∨ k = 6
        · exact h
        · rw [if_neg h] at hok; cases hok
      rw [okN3456 k hk2, Bool.and_eq_true, Bool.and_eq_true, Bool.and_eq_true] at hok
      obtain ⟨⟨⟨o1, o2⟩, o3⟩, _⟩ := hok
      obtain rfl := size_zero col (of_decide_eq_true o1)
      obtain rfl := size_zero oth (of_decide_eq_true o2)
      obtain ⟨rfl, rfl, rfl⟩ : v0 = 0 ∧ v1 = 0 ∧ v2 = ⟨#[]⟩ := by simpa [zeroV] using of_decide_eq_true o3
      have hz := typL_zero L l ht2
      rw [if_neg hk]
      rcases hk2 with rfl | rfl | rfl | rfl
      · rw [if_neg (by decide), if_neg (by decide), if_neg (by decide)]
        exact rmg3 sl sv _ w
      · rw [if_pos rfl]
        obtain ⟨x, rfl⟩ : ∃ x, L = [x] := List.length_eq_one_iff.1 har
        obtain ⟨g, off, rfl, hk0⟩ := had (by simp)
        obtain ⟨r, hr, hrc⟩ := hk0 0 x rfl
        obtain ⟨x0, x1, x2, x3, x4, x5, ad', n', cap', rfl⟩ := hr.shape
        obtain ⟨e0, e1, e2, e3, e4, e5, e6⟩ := kid_cells (Below.refl _ w) hrc rfl
        exact rmg4 g off cap w sl sv x0 x1 x2 x3 x4 x5 _ e0 e1 e2 e3 e4 e5 e6 (mng x l vs) (fun W hb => ih x (by simp) _ (d + 1) sl sv W (CnAt.below hb _ _ hr) (goodL_get _ _ 0 x hgL rfl) (hz x (by simp)) (hs.below hb) (hv.below hb) (szCL_get _ hszL _ (by simp)) hsv)
      all_goals
        first
        | (rw [if_neg (by decide), if_pos rfl])
        | (rw [if_neg (by decide), if_neg (by decide), if_pos rfl])
        obtain ⟨x, y, rfl⟩ : ∃ x y, L = [x, y] := List.length_eq_two_iff_local har
        obtain ⟨g, off, rfl, hk0⟩ := had (by simp)
        obtain ⟨r, hr, hrc⟩ := hk0 0 x rfl
        obtain ⟨x0, x1, x2, x3, x4, x5, ad', n', cap', rfl⟩ := hr.shape
        obtain ⟨e0, e1, e2, e3, e4, e5, e6⟩ := kid_cells (Below.refl _ w) hrc rfl
        obtain ⟨r2, hr2, hrc2⟩ := hk0 1 y rfl
        obtain ⟨y0, y1, y2, y3, y4, y5, ad2, n2, cap2, rfl⟩ := hr2.shape
        obtain ⟨f0, f1, f2, f3, f4, f5, f6⟩ := kid_cells (Below.refl _ w) hrc2 rfl
        first
        | exact rmg5 g off cap w sl sv x0 x1 x2 x3 x4 x5 _ e0 e1 e2 e3 e4 e5 e6 y0 y1 y2 y3 y4 y5 _ f0 f1 f2 f3 f4 f5 f6 (mng x l vs) (fun W hb => ih x (by simp) _ (d + 1) sl sv W (CnAt.below hb _ _ hr) (goodL_get _ _ 0 x hgL rfl) (hz x (by simp)) (hs.below hb) (hv.below hb) (szCL_get _ hszL _ (by simp)) hsv) (mng y l vs) (fun W hb => ih y (by simp) _ (d + 1) sl sv W (CnAt.below hb _ _ hr2) (goodL_get _ _ 1 y hgL rfl) (hz y (by simp)) (hs.below hb) (hv.below hb) (szCL_get _ hszL _ (by simp)) hsv)
        | exact rmg6 g off cap w sl sv x0 x1 x2 x3 x4 x5 _ e0 e1 e2 e3 e4 e5 e6 y0 y1 y2 y3 y4 y5 _ f0 f1 f2 f3 f4 f5 f6 (mng x l vs) (fun W hb => ih x (by simp) _ (d + 1) sl sv W (CnAt.below hb _ _ hr) (goodL_get _ _ 0 x hgL rfl) (hz x (by simp)) (hs.below hb) (hv.below hb) (szCL_get _ hszL _ (by simp)) hsv) (mng y l vs) (fun W hb => ih y (by simp) _ (d + 1) sl sv W (CnAt.below hb _ _ hr2) (goodL_get _ _ 1 y hgL rfl) (hz y (by simp)) (hs.below hb) (hv.below hb) (szCL_get _ hszL _ (by simp)) hsv)
end Go.Proofs.YtgfppajbegcaeaaDoor.Va
