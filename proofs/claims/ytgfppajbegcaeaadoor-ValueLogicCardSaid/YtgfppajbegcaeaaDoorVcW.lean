/-
  The walk of meaning (layer 33).
-/
import Derived.Test.YtgfppajbegcaeaaDoorVcT
import Derived.Test.YtgfppajbegcaeaaDoorVaD
import Derived.Lib.SmallJoins
set_option linter.unusedSimpArgs false
set_option linter.unusedVariables false
namespace Go.Proofs.YtgfppajbegcaeaaDoor.Va
open Go.RowKit Go.ChangeShapes Go.WideShapes Go.Proofs.YtgfppajbegcaeaaDoor.Sl Go.Lib

theorem mg_cells {w w1 : World} {g o1 o2 o3 o4 o5 o6 : Nat} {a0 a1 a2 b0 b1 b2 c0 c1 c2 c3 c4 c5 c6 e0 e1 e2 : Value} {t t2 : TypeId} (h0 : w.cell? ⟨g, o1, none⟩ = some a0) (h1 : w.cell? ⟨g, o2, none⟩ = some a1) (h2 : w.cell? ⟨g, o3, none⟩ = some a2)
    (h3 : w.cell? ⟨g, o4, none⟩ = some b0) (h4 : w.cell? ⟨g, o5, none⟩ = some b1) (h5 : w.cell? ⟨g, o6, none⟩ = some b2)
    (hb : Below ((w.alloc (.cells #[c0, c1, c2, c3, c4, c5, c6] t)).alloc (.cells #[e0, e1, e2] t2)).heap.size ((w.alloc (.cells #[c0, c1, c2, c3, c4, c5, c6] t)).alloc (.cells #[e0, e1, e2] t2)) w1) :
    Below w.heap.size w w1 ∧ w1.cell? ⟨g, o1, none⟩ = some a0 ∧ w1.cell? ⟨g, o2, none⟩ = some a1 ∧ w1.cell? ⟨g, o3, none⟩ = some a2 ∧ w1.cell? ⟨g, o4, none⟩ = some b0 ∧ w1.cell? ⟨g, o5, none⟩ = some b1 ∧ w1.cell? ⟨g, o6, none⟩ = some b2 ∧
      w1.cell? ⟨w.heap.size, 0, none⟩ = some c0 ∧ w1.cell? ⟨w.heap.size, 1, none⟩ = some c1 ∧ w1.cell? ⟨w.heap.size, 2, none⟩ = some c2 ∧ w1.cell? ⟨w.heap.size, 3, none⟩ = some c3 ∧ w1.cell? ⟨w.heap.size, 4, none⟩ = some c4 ∧ w1.cell? ⟨w.heap.size, 5, none⟩ = some c5 ∧ w1.cell? ⟨w.heap.size, 6, none⟩ = some c6 ∧
      w1.heap[w.heap.size + 1]? = some (Obj.cells #[e0, e1, e2] t2 (0, 0)) ∧ w1.cell? ⟨w.heap.size + 1, 0, none⟩ = some e0 ∧ w1.cell? ⟨w.heap.size + 1, 1, none⟩ = some e1 ∧ w1.cell? ⟨w.heap.size + 1, 2, none⟩ = some e2 ∧ (∀ j, w1.frozen? ⟨w.heap.size + 1, j, none⟩ = false) := by
  have hb1 : Below w.heap.size w (w.alloc (.cells #[c0, c1, c2, c3, c4, c5, c6] t)) := (Below.refl _ _).alloc (Nat.le_refl _) _
  have hL := bstep (hb1.alloc hb1.size (.cells #[e0, e1, e2] t2)) hb
  have b1 := box_new w #[c0, c1, c2, c3, c4, c5, c6] t
  have k : ∀ j u, #[c0, c1, c2, c3, c4, c5, c6][j]? = some u → w1.cell? ⟨w.heap.size, j, none⟩ = some u := fun j u hu => Go.Proofs.YtgfppajbegcaeaaDoor.Sl.cell_kept (cell_alloc (box_cell b1 j u hu) _) hb
  have b2 := box_new (w.alloc (.cells #[c0, c1, c2, c3, c4, c5, c6] t)) #[e0, e1, e2] t2
  have b3 : w1.heap[w.heap.size + 1]? = some (Obj.cells #[e0, e1, e2] t2 (0, 0)) := by
    rw [show (w.alloc (.cells #[c0, c1, c2, c3, c4, c5, c6] t)).heap.size = w.heap.size + 1 by simp] at b2
    rw [hb.block _ (by simp)]; exact b2
  exact ⟨hL, Go.Proofs.YtgfppajbegcaeaaDoor.Sl.cell_kept h0 hL, Go.Proofs.YtgfppajbegcaeaaDoor.Sl.cell_kept h1 hL, Go.Proofs.YtgfppajbegcaeaaDoor.Sl.cell_kept h2 hL, Go.Proofs.YtgfppajbegcaeaaDoor.Sl.cell_kept h3 hL, Go.Proofs.YtgfppajbegcaeaaDoor.Sl.cell_kept h4 hL, Go.Proofs.YtgfppajbegcaeaaDoor.Sl.cell_kept h5 hL, k 0 _ rfl, k 1 _ rfl, k 2 _ rfl, k 3 _ rfl, k 4 _ rfl, k 5 _ rfl, k 6 _ rfl, b3, box_cell b3 0 _ rfl, box_cell b3 1 _ rfl, box_cell b3 2 _ rfl, fun j => by simp [World.frozen?, b3]⟩
/-- Three cells of a box of one's own written. -/
theorem mg_set {w w1 W : World} {P : Nat} {e0 e1 e2 b0 b1 b2 : Value} {t2 : TypeId} (hL : Below w.heap.size w w1) (hP : w.heap.size ≤ P) (bx : w1.heap[P]? = some (Obj.cells #[e0, e1, e2] t2 (0, 0)))
    (hW : ((w1.setCell ⟨P, 0, none⟩ b0).setCell ⟨P, 1, none⟩ b1).setCell ⟨P, 2, none⟩ b2 = W) :
    Below w.heap.size w W ∧ W.cell? ⟨P, 0, none⟩ = some b0 ∧ W.cell? ⟨P, 1, none⟩ = some b1 ∧ W.cell? ⟨P, 2, none⟩ = some b2 ∧ ∀ b o u, b ≠ P → w1.cell? ⟨b, o, none⟩ = some u → W.cell? ⟨b, o, none⟩ = some u := by
  have h1 := Go.Joins.block_setCell (i := 0) bx b0
  have h2 := Go.Joins.block_setCell (i := 1) h1 b1
  have h3 := Go.Joins.block_setCell (i := 2) h2 b2
  rw [hW] at h3
  refine ⟨?_, box_cell h3 0 _ rfl, box_cell h3 1 _ rfl, box_cell h3 2 _ rfl, fun b o u hb hu => ?_⟩
  · rw [← hW]
    exact ((hL.setCell (p := ⟨P, 0, none⟩) hP _).setCell (p := ⟨P, 1, none⟩) hP _).setCell (p := ⟨P, 2, none⟩) hP _
  · have hne : ∀ j, (⟨P, j, none⟩ : Addr) ≠ ⟨b, o, none⟩ := fun j e => hb (by cases e; rfl)
    rw [← hW, World.cell?_setCell_other _ _ _ _ (hne 2), World.cell?_setCell_other _ _ _ _ (hne 1), World.cell?_setCell_other _ _ _ _ (hne 0)]
    exact hu
theorem cmp_eq (z : Int) : cmpN 1 z = decide (z = 0) := by simp [cmpN]
theorem cmp_lt (z : Int) : cmpN 2 z = decide (z < 0) := by simp [cmpN]
theorem valAt_get (l : List V3) (i : Nat) (v : V3) (h : l[i]? = some v) : valAt l (i : Int) = v := by
  unfold valAt; rw [Int.toNat_natCast, h]; rfl
theorem typL_zero : ∀ (L : List CN) (l : List Cl), typL L l = 0 → ∀ x ∈ L, typ x l = 0
  | [], l, _, x, h => by cases h
  | y :: L, l, h, x, hx => by
    rw [typL] at h
    by_cases hy : typ y l = 0
    · rw [if_pos hy] at h
      rcases List.mem_cons.1 hx with rfl | h2
      · exact hy
      · exact typL_zero L l h x h2
    · rw [if_neg hy] at h; exact absurd h hy
theorem typ_mk {k : Int} {col oth : ByteArray} {v : V3} {L : List CN} {l : List Cl} (h : typ (.mk k col oth v L) l = 0) : typN k col oth v l = 0 ∧ typL L l = 0 := by
  rw [typ] at h
  by_cases h1 : typN k col oth v l = 0
  · rw [if_pos h1] at h; exact ⟨h1, h⟩
  · rw [if_neg h1] at h; exact absurd h h1
theorem typN_zero {k : Int} {col oth : ByteArray} {v : V3} {l : List Cl} (hk : k = 1 ∨ k = 2) (h : typN k col oth v l = 0) : ¬ idxC col 0 l < 0 ∧ (¬ oth.size = 0 → ¬ idxC oth 0 l < 0) := by
  unfold typN at h
  rw [if_pos hk] at h
  by_cases h1 : idxC col 0 l < 0
  · rw [if_pos h1] at h; cases h
  · rw [if_neg h1] at h
    refine ⟨h1, fun h2 h3 => ?_⟩
    rw [if_neg h2, if_pos h3] at h; cases h
mutual
/-- The texts of a condition's values fit. -/
def szC : CN → Prop
  | .mk _ _ _ v L => v.2.2.size ≤ 9223372036854775807 ∧ szCL L
def szCL : List CN → Prop
  | [] => True
  | x :: L => szC x ∧ szCL L
end
theorem szCL_get : ∀ (L : List CN), szCL L → ∀ x ∈ L, szC x
  | [], _, x, h => by cases h
  | y :: L, h, x, hx => by
    rw [szCL] at h
    rcases List.mem_cons.1 hx with rfl | h2
    · exact h.1
    · exact szCL_get L h.2 x h2
theorem List.length_eq_two_iff_local {α : Type} {L : List α} (h : L.length = 2) : ∃ x y, L = [x, y] := by
  match L, h with
  | [x, y], _ => exact ⟨x, y, rfl⟩
set_option maxRecDepth 20000 in
theorem mg1_o (col oth : ByteArray) (ho : ¬ oth = ⟨#[]⟩) (v0 v1 : Int) (v2 : ByteArray) (ad : Option Addr) (cap : Nat) (w : World) (sl : Value) (g off n capl : Nat) (i : Nat) (hi : i < n) (a0 a1 : Int) (a2 : ByteArray) (c0 : w.cell? ⟨g, off + i * 3, none⟩ = some (.int .i64 a0)) (c1 : w.cell? ⟨g, off + i * 3 + 1, none⟩ = some (.int .i64 a1)) (c2 : w.cell? ⟨g, off + i * 3 + 2, none⟩ = some (.string a2)) (m : Nat) (hm : m < n) (b0 b1 : Int) (b2 : ByteArray) (d0 : w.cell? ⟨g, off + m * 3, none⟩ = some (.int .i64 b0)) (d1 : w.cell? ⟨g, off + m * 3 + 1, none⟩ = some (.int .i64 b1)) (d2 : w.cell? ⟨g, off + m * 3 + 2, none⟩ = some (.string b2)) (HF1 : ∀ W, Below w.heap.size w W → Calls Tryd.prog 68 #[sl, .string col] W fun e w' => e = .returned (.int .i64 (i : Int)) ∧ Below W.heap.size W w') (HF2 : ∀ W, Below w.heap.size w W → Calls Tryd.prog 68 #[sl, .string oth] W fun e w' => e = .returned (.int .i64 (m : Int)) ∧ Below W.heap.size W w') (z : Int) (hz : z = -1 ∨ z = 0 ∨ z = 1) (HO : ∀ W, Calls Tryd.prog 46 #[.agg #[.int .i64 a0, .int .i64 a1, .string a2], .agg #[.int .i64 b0, .int .i64 b1, .string b2]] W fun e w' => e = .returned (.int .i64 z) ∧ Below W.heap.size W w') :
    Calls Tryd.prog 49 #[agC 1 col oth v0 v1 v2 (.slice ad 0 cap), sl, .slice (some ⟨g, off, none⟩) n capl] w fun e w' => e = .returned (.bool (cmpN 1 z)) ∧ Below w.heap.size w w' := by
  obtain ⟨q1, q2, q3⟩ := list_ne oth ho
  have hg := block_of_cell c1
  have i0 : (0 : Int) ≤ (i : Int) := by omega
  have i1 : (i : Int) < (n : Int) := by omega
  have m0 : (0 : Int) ≤ (m : Int) := by omega
  have m1 : (m : Int) < (n : Int) := by omega
  go_enter Tryd.func49, Tryd.ntmps49
  go_upto_region 7 with (go_at_call 68; (with_reducible refine (HF2 _ (by go_grown)).mono ?_); rintro e w1 ⟨rfl, hb⟩; obtain ⟨hL, c0, c1, c2, d0, d1, d2, p0, p1, p2, p3, p4, p5, p6, bx, z0, z1, z2, fz⟩ := mg_cells c0 c1 c2 d0 d1 d2 hb; clear hb)
  obtain ⟨W, hW⟩ : ∃ W, ((w1.setCell ⟨w.heap.size + 1, 0, none⟩ (.int .i64 b0)).setCell ⟨w.heap.size + 1, 1, none⟩ (.int .i64 b1)).setCell ⟨w.heap.size + 1, 2, none⟩ (.string b2) = W := ⟨_, rfl⟩
  obtain ⟨hLW, z0, z1, z2, hk⟩ := mg_set hL (Nat.le_succ _) bx hW
  rw [hW]
  replace c0 := hk _ _ _ (by omega) c0
  replace c1 := hk _ _ _ (by omega) c1
  replace c2 := hk _ _ _ (by omega) c2
  replace p0 := hk _ _ _ (by omega) p0
  replace p1 := hk _ _ _ (by omega) p1
  clear hW hk bx fz d0 d1 d2 p2 p3 p4 p5 p6 hL
  have g0 := cell_regrown c0
  have g1 := cell_regrown c1
  have g2 := cell_regrown c2
  have y0 := cell_regrown p0
  have y1 := cell_regrown p1
  have x0 := cell_regrown z0
  have x1 := cell_regrown z1
  have x2 := cell_regrown z2
  refine wp_region_quiet_below (by kernel_rfl) (by kernel_rfl) ?_
  repeat (go_big_quiet_step (first | (go_at_call 68; with_reducible exact Calls.regrown_of (HF1 _ (bstep hLW (below_regrown _ _ _)))) | (go_at_call 46; with_reducible exact Calls.regrown_of (HO _))))
  refine wpQuiet_nil ?_
  intro _ hw9
  obtain ⟨⟨dq, osq⟩, hw9⟩ := hw9
  subst hw9
  have hL2 := bstep hLW (below_regrown W dq osq)
  clear hLW
  rcases hz with rfl | rfl | rfl
  · go_wp2
    go_ret
    exact ⟨rfl, hL2⟩
  · go_wp2
    go_ret
    exact ⟨rfl, hL2⟩
  · go_wp2
    go_ret
    exact ⟨rfl, hL2⟩
set_option maxRecDepth 20000 in
theorem mg1_e (col : ByteArray) (v0 v1 : Int) (v2 : ByteArray) (ad : Option Addr) (cap : Nat) (w : World) (sl : Value) (g off n capl : Nat) (i : Nat) (hi : i < n) (a0 a1 : Int) (a2 : ByteArray) (c0 : w.cell? ⟨g, off + i * 3, none⟩ = some (.int .i64 a0)) (c1 : w.cell? ⟨g, off + i * 3 + 1, none⟩ = some (.int .i64 a1)) (c2 : w.cell? ⟨g, off + i * 3 + 2, none⟩ = some (.string a2)) (HF1 : ∀ W, Below w.heap.size w W → Calls Tryd.prog 68 #[sl, .string col] W fun e w' => e = .returned (.int .i64 (i : Int)) ∧ Below W.heap.size W w') (z : Int) (hz : z = -1 ∨ z = 0 ∨ z = 1) (HO : ∀ W, Calls Tryd.prog 46 #[.agg #[.int .i64 a0, .int .i64 a1, .string a2], .agg #[.int .i64 v0, .int .i64 v1, .string v2]] W fun e w' => e = .returned (.int .i64 z) ∧ Below W.heap.size W w') :
    Calls Tryd.prog 49 #[agC 1 col ⟨#[]⟩ v0 v1 v2 (.slice ad 0 cap), sl, .slice (some ⟨g, off, none⟩) n capl] w fun e w' => e = .returned (.bool (cmpN 1 z)) ∧ Below w.heap.size w w' := by
  have hg := block_of_cell c1
  have i0 : (0 : Int) ≤ (i : Int) := by omega
  have i1 : (i : Int) < (n : Int) := by omega
  go_enter Tryd.func49, Tryd.ntmps49
  go_upto_region 7 with fail
  obtain ⟨W, hW⟩ : ∃ W, (w.alloc (.cells #[.int .i64 1, .string col, .string ⟨#[]⟩, .int .i64 v0, .int .i64 v1, .string v2, .slice ad 0 cap] 46)).alloc (.cells #[.int .i64 v0, .int .i64 v1, .string v2] 32) = W := ⟨_, rfl⟩
  rw [hW]
  obtain ⟨hL, c0, c1, c2, d0, d1, d2, p0, p1, p2, p3, p4, p5, p6, bx, z0, z1, z2, fz⟩ := mg_cells c0 c1 c2 c0 c1 c2 (show Below ((w.alloc (.cells #[.int .i64 1, .string col, .string ⟨#[]⟩, .int .i64 v0, .int .i64 v1, .string v2, .slice ad 0 cap] 46)).alloc (.cells #[.int .i64 v0, .int .i64 v1, .string v2] 32)).heap.size _ W from hW ▸ Below.refl _ _)
  clear hW bx fz d0 d1 d2 p2 p3 p4 p5 p6
  have g0 := cell_regrown c0
  have g1 := cell_regrown c1
  have g2 := cell_regrown c2
  have y0 := cell_regrown p0
  have y1 := cell_regrown p1
  have x0 := cell_regrown z0
  have x1 := cell_regrown z1
  have x2 := cell_regrown z2
  refine wp_region_quiet_below (by kernel_rfl) (by kernel_rfl) ?_
  repeat (go_big_quiet_step (first | (go_at_call 68; with_reducible exact Calls.regrown_of (HF1 _ (bstep hL (below_regrown _ _ _)))) | (go_at_call 46; with_reducible exact Calls.regrown_of (HO _))))
  refine wpQuiet_nil ?_
  intro _ hw9
  obtain ⟨⟨dq, osq⟩, hw9⟩ := hw9
  subst hw9
  have hL2 := bstep hL (below_regrown W dq osq)
  clear hL
  rcases hz with rfl | rfl | rfl
  · go_wp2
    go_ret
    exact ⟨rfl, hL2⟩
  · go_wp2
    go_ret
    exact ⟨rfl, hL2⟩
  · go_wp2
    go_ret
    exact ⟨rfl, hL2⟩
set_option maxRecDepth 20000 in
theorem mg2_o (col oth : ByteArray) (ho : ¬ oth = ⟨#[]⟩) (v0 v1 : Int) (v2 : ByteArray) (ad : Option Addr) (cap : Nat) (w : World) (sl : Value) (g off n capl : Nat) (i : Nat) (hi : i < n) (a0 a1 : Int) (a2 : ByteArray) (c0 : w.cell? ⟨g, off + i * 3, none⟩ = some (.int .i64 a0)) (c1 : w.cell? ⟨g, off + i * 3 + 1, none⟩ = some (.int .i64 a1)) (c2 : w.cell? ⟨g, off + i * 3 + 2, none⟩ = some (.string a2)) (m : Nat) (hm : m < n) (b0 b1 : Int) (b2 : ByteArray) (d0 : w.cell? ⟨g, off + m * 3, none⟩ = some (.int .i64 b0)) (d1 : w.cell? ⟨g, off + m * 3 + 1, none⟩ = some (.int .i64 b1)) (d2 : w.cell? ⟨g, off + m * 3 + 2, none⟩ = some (.string b2)) (HF1 : ∀ W, Below w.heap.size w W → Calls Tryd.prog 68 #[sl, .string col] W fun e w' => e = .returned (.int .i64 (i : Int)) ∧ Below W.heap.size W w') (HF2 : ∀ W, Below w.heap.size w W → Calls Tryd.prog 68 #[sl, .string oth] W fun e w' => e = .returned (.int .i64 (m : Int)) ∧ Below W.heap.size W w') (z : Int) (hz : z = -1 ∨ z = 0 ∨ z = 1) (HO : ∀ W, Calls Tryd.prog 46 #[.agg #[.int .i64 a0, .int .i64 a1, .string a2], .agg #[.int .i64 b0, .int .i64 b1, .string b2]] W fun e w' => e = .returned (.int .i64 z) ∧ Below W.heap.size W w') :
    Calls Tryd.prog 49 #[agC 2 col oth v0 v1 v2 (.slice ad 0 cap), sl, .slice (some ⟨g, off, none⟩) n capl] w fun e w' => e = .returned (.bool (cmpN 2 z)) ∧ Below w.heap.size w w' := by
  obtain ⟨q1, q2, q3⟩ := list_ne oth ho
  have hg := block_of_cell c1
  have i0 : (0 : Int) ≤ (i : Int) := by omega
  have i1 : (i : Int) < (n : Int) := by omega
  have m0 : (0 : Int) ≤ (m : Int) := by omega
  have m1 : (m : Int) < (n : Int) := by omega
  go_enter Tryd.func49, Tryd.ntmps49
  go_upto_region 7 with (go_at_call 68; (with_reducible refine (HF2 _ (by go_grown)).mono ?_); rintro e w1 ⟨rfl, hb⟩; obtain ⟨hL, c0, c1, c2, d0, d1, d2, p0, p1, p2, p3, p4, p5, p6, bx, z0, z1, z2, fz⟩ := mg_cells c0 c1 c2 d0 d1 d2 hb; clear hb)
  obtain ⟨W, hW⟩ : ∃ W, ((w1.setCell ⟨w.heap.size + 1, 0, none⟩ (.int .i64 b0)).setCell ⟨w.heap.size + 1, 1, none⟩ (.int .i64 b1)).setCell ⟨w.heap.size + 1, 2, none⟩ (.string b2) = W := ⟨_, rfl⟩
  obtain ⟨hLW, z0, z1, z2, hk⟩ := mg_set hL (Nat.le_succ _) bx hW
  rw [hW]
  replace c0 := hk _ _ _ (by omega) c0
  replace c1 := hk _ _ _ (by omega) c1
  replace c2 := hk _ _ _ (by omega) c2
  replace p0 := hk _ _ _ (by omega) p0
  replace p1 := hk _ _ _ (by omega) p1
  clear hW hk bx fz d0 d1 d2 p2 p3 p4 p5 p6 hL
  have g0 := cell_regrown c0
  have g1 := cell_regrown c1
  have g2 := cell_regrown c2
  have y0 := cell_regrown p0
  have y1 := cell_regrown p1
  have x0 := cell_regrown z0
  have x1 := cell_regrown z1
  have x2 := cell_regrown z2
  refine wp_region_quiet_below (by kernel_rfl) (by kernel_rfl) ?_
  repeat (go_big_quiet_step (first | (go_at_call 68; with_reducible exact Calls.regrown_of (HF1 _ (bstep hLW (below_regrown _ _ _)))) | (go_at_call 46; with_reducible exact Calls.regrown_of (HO _))))
  refine wpQuiet_nil ?_
  intro _ hw9
  obtain ⟨⟨dq, osq⟩, hw9⟩ := hw9
  subst hw9
  have hL2 := bstep hLW (below_regrown W dq osq)
  clear hLW
  rcases hz with rfl | rfl | rfl
  · go_wp2
    go_ret
    exact ⟨rfl, hL2⟩
  · go_wp2
    go_ret
    exact ⟨rfl, hL2⟩
  · go_wp2
    go_ret
    exact ⟨rfl, hL2⟩
set_option maxRecDepth 20000 in
theorem mg2_e (col : ByteArray) (v0 v1 : Int) (v2 : ByteArray) (ad : Option Addr) (cap : Nat) (w : World) (sl : Value) (g off n capl : Nat) (i : Nat) (hi : i < n) (a0 a1 : Int) (a2 : ByteArray) (c0 : w.cell? ⟨g, off + i * 3, none⟩ = some (.int .i64 a0)) (c1 : w.cell? ⟨g, off + i * 3 + 1, none⟩ = some (.int .i64 a1)) (c2 : w.cell? ⟨g, off + i * 3 + 2, none⟩ = some (.string a2)) (HF1 : ∀ W, Below w.heap.size w W → Calls Tryd.prog 68 #[sl, .string col] W fun e w' => e = .returned (.int .i64 (i : Int)) ∧ Below W.heap.size W w') (z : Int) (hz : z = -1 ∨ z = 0 ∨ z = 1) (HO : ∀ W, Calls Tryd.prog 46 #[.agg #[.int .i64 a0, .int .i64 a1, .string a2], .agg #[.int .i64 v0, .int .i64 v1, .string v2]] W fun e w' => e = .returned (.int .i64 z) ∧ Below W.heap.size W w') :
    Calls Tryd.prog 49 #[agC 2 col ⟨#[]⟩ v0 v1 v2 (.slice ad 0 cap), sl, .slice (some ⟨g, off, none⟩) n capl] w fun e w' => e = .returned (.bool (cmpN 2 z)) ∧ Below w.heap.size w w' := by
  have hg := block_of_cell c1
  have i0 : (0 : Int) ≤ (i : Int) := by omega
  have i1 : (i : Int) < (n : Int) := by omega
  go_enter Tryd.func49, Tryd.ntmps49
  go_upto_region 7 with fail
  obtain ⟨W, hW⟩ : ∃ W, (w.alloc (.cells #[.int .i64 2, .string col, .string ⟨#[]⟩, .int .i64 v0, .int .i64 v1, .string v2, .slice ad 0 cap] 46)).alloc (.cells #[.int .i64 v0, .int .i64 v1, .string v2] 32) = W := ⟨_, rfl⟩
  rw [hW]
  obtain ⟨hL, c0, c1, c2, d0, d1, d2, p0, p1, p2, p3, p4, p5, p6, bx, z0, z1, z2, fz⟩ := mg_cells c0 c1 c2 c0 c1 c2 (show Below ((w.alloc (.cells #[.int .i64 2, .string col, .string ⟨#[]⟩, .int .i64 v0, .int .i64 v1, .string v2, .slice ad 0 cap] 46)).alloc (.cells #[.int .i64 v0, .int .i64 v1, .string v2] 32)).heap.size _ W from hW ▸ Below.refl _ _)
  clear hW bx fz d0 d1 d2 p2 p3 p4 p5 p6
  have g0 := cell_regrown c0
  have g1 := cell_regrown c1
  have g2 := cell_regrown c2
  have y0 := cell_regrown p0
  have y1 := cell_regrown p1
  have x0 := cell_regrown z0
  have x1 := cell_regrown z1
  have x2 := cell_regrown z2
  refine wp_region_quiet_below (by kernel_rfl) (by kernel_rfl) ?_
  repeat (go_big_quiet_step (first | (go_at_call 68; with_reducible exact Calls.regrown_of (HF1 _ (bstep hL (below_regrown _ _ _)))) | (go_at_call 46; with_reducible exact Calls.regrown_of (HO _))))
  refine wpQuiet_nil ?_
  intro _ hw9
  obtain ⟨⟨dq, osq⟩, hw9⟩ := hw9
  subst hw9
  have hL2 := bstep hL (below_regrown W dq osq)
  clear hL
  rcases hz with rfl | rfl | rfl
  · go_wp2
    go_ret
    exact ⟨rfl, hL2⟩
  · go_wp2
    go_ret
    exact ⟨rfl, hL2⟩
  · go_wp2
    go_ret
    exact ⟨rfl, hL2⟩
set_option maxRecDepth 20000 in
theorem mg3 (sl sv s : Value) (w : World) :
    Calls Tryd.prog 49 #[agC 3 ⟨#[]⟩ ⟨#[]⟩ 0 0 ⟨#[]⟩ s, sl, sv] w fun e w' => e = .returned (.bool true) ∧ Below w.heap.size w w' := by
  go_enter Tryd.func49, Tryd.ntmps49
  go_wp2
  go_ret
  exact ⟨rfl, by go_grown⟩
set_option maxRecDepth 20000 in
theorem mg4 (g off cap : Nat) (w : World) (sl sv : Value) (xa : Int) (ya za : ByteArray) (sa ta : Int) (ua : ByteArray) (ra : Value) (ea0 : w.cell? ⟨g, off + 0 * 7, none⟩ = some (.int .i64 xa)) (ea1 : w.cell? ⟨g, off + 0 * 7 + 1, none⟩ = some (.string ya)) (ea2 : w.cell? ⟨g, off + 0 * 7 + 2, none⟩ = some (.string za)) (ea3 : w.cell? ⟨g, off + 0 * 7 + 3, none⟩ = some (.int .i64 sa)) (ea4 : w.cell? ⟨g, off + 0 * 7 + 4, none⟩ = some (.int .i64 ta)) (ea5 : w.cell? ⟨g, off + 0 * 7 + 5, none⟩ = some (.string ua)) (ea6 : w.cell? ⟨g, off + 0 * 7 + 6, none⟩ = some ra) (ba : Bool) (Ha : ∀ W, Below w.heap.size w W → Calls Tryd.prog 49 #[agC xa ya za sa ta ua ra, sl, sv] W fun e w' => e = .returned (.bool ba) ∧ Below W.heap.size W w') :
    Calls Tryd.prog 49 #[agC 4 ⟨#[]⟩ ⟨#[]⟩ 0 0 ⟨#[]⟩ (.slice (some ⟨g, off, none⟩) 1 cap), sl, sv] w fun e w' => e = .returned (.bool (!ba)) ∧ Below w.heap.size w w' := by
  simp only [Nat.zero_mul, Nat.add_zero, Nat.one_mul] at ea0 ea1 ea2 ea3 ea4 ea5 ea6
  have hga := block_of_cell ea0
  go_enter Tryd.func49, Tryd.ntmps49
  go_wp2_with (go_at_call 49; (with_reducible refine (Ha _ (by go_grown)).mono ?_); rintro e w1 ⟨rfl, hb⟩; have hL : Below w.heap.size w w1 := bstep (by go_grown) hb; clear hb)
  go_ret
  exact ⟨rfl, hL⟩
set_option maxRecDepth 20000 in
theorem mg5 (g off cap : Nat) (w : World) (sl sv : Value) (xa : Int) (ya za : ByteArray) (sa ta : Int) (ua : ByteArray) (ra : Value) (ea0 : w.cell? ⟨g, off + 0 * 7, none⟩ = some (.int .i64 xa)) (ea1 : w.cell? ⟨g, off + 0 * 7 + 1, none⟩ = some (.string ya)) (ea2 : w.cell? ⟨g, off + 0 * 7 + 2, none⟩ = some (.string za)) (ea3 : w.cell? ⟨g, off + 0 * 7 + 3, none⟩ = some (.int .i64 sa)) (ea4 : w.cell? ⟨g, off + 0 * 7 + 4, none⟩ = some (.int .i64 ta)) (ea5 : w.cell? ⟨g, off + 0 * 7 + 5, none⟩ = some (.string ua)) (ea6 : w.cell? ⟨g, off + 0 * 7 + 6, none⟩ = some ra) (xb : Int) (yb zb : ByteArray) (sb tb : Int) (ub : ByteArray) (rb : Value) (eb0 : w.cell? ⟨g, off + 1 * 7, none⟩ = some (.int .i64 xb)) (eb1 : w.cell? ⟨g, off + 1 * 7 + 1, none⟩ = some (.string yb)) (eb2 : w.cell? ⟨g, off + 1 * 7 + 2, none⟩ = some (.string zb)) (eb3 : w.cell? ⟨g, off + 1 * 7 + 3, none⟩ = some (.int .i64 sb)) (eb4 : w.cell? ⟨g, off + 1 * 7 + 4, none⟩ = some (.int .i64 tb)) (eb5 : w.cell? ⟨g, off + 1 * 7 + 5, none⟩ = some (.string ub)) (eb6 : w.cell? ⟨g, off + 1 * 7 + 6, none⟩ = some rb) (ba : Bool) (Ha : ∀ W, Below w.heap.size w W → Calls Tryd.prog 49 #[agC xa ya za sa ta ua ra, sl, sv] W fun e w' => e = .returned (.bool ba) ∧ Below W.heap.size W w') (bb : Bool) (Hb : ∀ W, Below w.heap.size w W → Calls Tryd.prog 49 #[agC xb yb zb sb tb ub rb, sl, sv] W fun e w' => e = .returned (.bool bb) ∧ Below W.heap.size W w') :
    Calls Tryd.prog 49 #[agC 5 ⟨#[]⟩ ⟨#[]⟩ 0 0 ⟨#[]⟩ (.slice (some ⟨g, off, none⟩) 2 cap), sl, sv] w fun e w' => e = .returned (.bool (ba && bb)) ∧ Below w.heap.size w w' := by
  simp only [Nat.zero_mul, Nat.add_zero, Nat.one_mul] at ea0 ea1 ea2 ea3 ea4 ea5 ea6
  have hga := block_of_cell ea0
  simp only [Nat.zero_mul, Nat.add_zero, Nat.one_mul] at eb0 eb1 eb2 eb3 eb4 eb5 eb6
  have hgb := block_of_cell eb0
  have hbx : ∀ w1 : World, Below (w.alloc (.cells #[.int .i64 5, .string ⟨#[]⟩, .string ⟨#[]⟩, .int .i64 0, .int .i64 0, .string ⟨#[]⟩, .slice (some ⟨g, off, none⟩) 2 cap] 46)).heap.size (w.alloc (.cells #[.int .i64 5, .string ⟨#[]⟩, .string ⟨#[]⟩, .int .i64 0, .int .i64 0, .string ⟨#[]⟩, .slice (some ⟨g, off, none⟩) 2 cap] 46)) w1 → w1.cell? ⟨w.heap.size, 6, none⟩ = some (.slice (some ⟨g, off, none⟩) 2 cap) := fun w1 hb => Go.Proofs.YtgfppajbegcaeaaDoor.Sl.cell_kept (box_cell (box_new w _ _) 6 _ rfl) hb
  cases ba
  · go_enter Tryd.func49, Tryd.ntmps49
    go_wp2_with (first | (go_at_call 49; (with_reducible refine (Ha _ (by go_grown)).mono ?_); rintro e w1 ⟨rfl, hb⟩; have hx := hbx _ hb; have hL : Below w.heap.size w w1 := bstep (by go_grown) hb; clear hb; have eb0 := Go.Proofs.YtgfppajbegcaeaaDoor.Sl.cell_kept eb0 hL; have eb1 := Go.Proofs.YtgfppajbegcaeaaDoor.Sl.cell_kept eb1 hL; have eb2 := Go.Proofs.YtgfppajbegcaeaaDoor.Sl.cell_kept eb2 hL; have eb3 := Go.Proofs.YtgfppajbegcaeaaDoor.Sl.cell_kept eb3 hL; have eb4 := Go.Proofs.YtgfppajbegcaeaaDoor.Sl.cell_kept eb4 hL; have eb5 := Go.Proofs.YtgfppajbegcaeaaDoor.Sl.cell_kept eb5 hL; have eb6 := Go.Proofs.YtgfppajbegcaeaaDoor.Sl.cell_kept eb6 hL) | (go_at_call 49; (with_reducible refine (Hb _ hL).mono ?_); rintro e w2 ⟨rfl, hb⟩; have hL2 : Below w.heap.size w w2 := bstep hL hb; clear hb))
    go_ret
    exact ⟨rfl, hL⟩
  · go_enter Tryd.func49, Tryd.ntmps49
    go_wp2_with (first | (go_at_call 49; (with_reducible refine (Ha _ (by go_grown)).mono ?_); rintro e w1 ⟨rfl, hb⟩; have hx := hbx _ hb; have hL : Below w.heap.size w w1 := bstep (by go_grown) hb; clear hb; have eb0 := Go.Proofs.YtgfppajbegcaeaaDoor.Sl.cell_kept eb0 hL; have eb1 := Go.Proofs.YtgfppajbegcaeaaDoor.Sl.cell_kept eb1 hL; have eb2 := Go.Proofs.YtgfppajbegcaeaaDoor.Sl.cell_kept eb2 hL; have eb3 := Go.Proofs.YtgfppajbegcaeaaDoor.Sl.cell_kept eb3 hL; have eb4 := Go.Proofs.YtgfppajbegcaeaaDoor.Sl.cell_kept eb4 hL; have eb5 := Go.Proofs.YtgfppajbegcaeaaDoor.Sl.cell_kept eb5 hL; have eb6 := Go.Proofs.YtgfppajbegcaeaaDoor.Sl.cell_kept eb6 hL) | (go_at_call 49; (with_reducible refine (Hb _ hL).mono ?_); rintro e w2 ⟨rfl, hb⟩; have hL2 : Below w.heap.size w w2 := bstep hL hb; clear hb))
    go_ret
    exact ⟨rfl, hL2⟩
set_option maxRecDepth 20000 in
theorem mg6 (g off cap : Nat) (w : World) (sl sv : Value) (xa : Int) (ya za : ByteArray) (sa ta : Int) (ua : ByteArray) (ra : Value) (ea0 : w.cell? ⟨g, off + 0 * 7, none⟩ = some (.int .i64 xa)) (ea1 : w.cell? ⟨g, off + 0 * 7 + 1, none⟩ = some (.string ya)) (ea2 : w.cell? ⟨g, off + 0 * 7 + 2, none⟩ = some (.string za)) (ea3 : w.cell? ⟨g, off + 0 * 7 + 3, none⟩ = some (.int .i64 sa)) (ea4 : w.cell? ⟨g, off + 0 * 7 + 4, none⟩ = some (.int .i64 ta)) (ea5 : w.cell? ⟨g, off + 0 * 7 + 5, none⟩ = some (.string ua)) (ea6 : w.cell? ⟨g, off + 0 * 7 + 6, none⟩ = some ra) (xb : Int) (yb zb : ByteArray) (sb tb : Int) (ub : ByteArray) (rb : Value) (eb0 : w.cell? ⟨g, off + 1 * 7, none⟩ = some (.int .i64 xb)) (eb1 : w.cell? ⟨g, off + 1 * 7 + 1, none⟩ = some (.string yb)) (eb2 : w.cell? ⟨g, off + 1 * 7 + 2, none⟩ = some (.string zb)) (eb3 : w.cell? ⟨g, off + 1 * 7 + 3, none⟩ = some (.int .i64 sb)) (eb4 : w.cell? ⟨g, off + 1 * 7 + 4, none⟩ = some (.int .i64 tb)) (eb5 : w.cell? ⟨g, off + 1 * 7 + 5, none⟩ = some (.string ub)) (eb6 : w.cell? ⟨g, off + 1 * 7 + 6, none⟩ = some rb) (ba : Bool) (Ha : ∀ W, Below w.heap.size w W → Calls Tryd.prog 49 #[agC xa ya za sa ta ua ra, sl, sv] W fun e w' => e = .returned (.bool ba) ∧ Below W.heap.size W w') (bb : Bool) (Hb : ∀ W, Below w.heap.size w W → Calls Tryd.prog 49 #[agC xb yb zb sb tb ub rb, sl, sv] W fun e w' => e = .returned (.bool bb) ∧ Below W.heap.size W w') :
    Calls Tryd.prog 49 #[agC 6 ⟨#[]⟩ ⟨#[]⟩ 0 0 ⟨#[]⟩ (.slice (some ⟨g, off, none⟩) 2 cap), sl, sv] w fun e w' => e = .returned (.bool (ba || bb)) ∧ Below w.heap.size w w' := by
  simp only [Nat.zero_mul, Nat.add_zero, Nat.one_mul] at ea0 ea1 ea2 ea3 ea4 ea5 ea6
  have hga := block_of_cell ea0
  simp only [Nat.zero_mul, Nat.add_zero, Nat.one_mul] at eb0 eb1 eb2 eb3 eb4 eb5 eb6
  have hgb := block_of_cell eb0
  have hbx : ∀ w1 : World, Below (w.alloc (.cells #[.int .i64 6, .string ⟨#[]⟩, .string ⟨#[]⟩, .int .i64 0, .int .i64 0, .string ⟨#[]⟩, .slice (some ⟨g, off, none⟩) 2 cap] 46)).heap.size (w.alloc (.cells #[.int .i64 6, .string ⟨#[]⟩, .string ⟨#[]⟩, .int .i64 0, .int .i64 0, .string ⟨#[]⟩, .slice (some ⟨g, off, none⟩) 2 cap] 46)) w1 → w1.cell? ⟨w.heap.size, 6, none⟩ = some (.slice (some ⟨g, off, none⟩) 2 cap) := fun w1 hb => Go.Proofs.YtgfppajbegcaeaaDoor.Sl.cell_kept (box_cell (box_new w _ _) 6 _ rfl) hb
  cases ba
  · go_enter Tryd.func49, Tryd.ntmps49
    go_wp2_with (first | (go_at_call 49; (with_reducible refine (Ha _ (by go_grown)).mono ?_); rintro e w1 ⟨rfl, hb⟩; have hx := hbx _ hb; have hL : Below w.heap.size w w1 := bstep (by go_grown) hb; clear hb; have eb0 := Go.Proofs.YtgfppajbegcaeaaDoor.Sl.cell_kept eb0 hL; have eb1 := Go.Proofs.YtgfppajbegcaeaaDoor.Sl.cell_kept eb1 hL; have eb2 := Go.Proofs.YtgfppajbegcaeaaDoor.Sl.cell_kept eb2 hL; have eb3 := Go.Proofs.YtgfppajbegcaeaaDoor.Sl.cell_kept eb3 hL; have eb4 := Go.Proofs.YtgfppajbegcaeaaDoor.Sl.cell_kept eb4 hL; have eb5 := Go.Proofs.YtgfppajbegcaeaaDoor.Sl.cell_kept eb5 hL; have eb6 := Go.Proofs.YtgfppajbegcaeaaDoor.Sl.cell_kept eb6 hL) | (go_at_call 49; (with_reducible refine (Hb _ hL).mono ?_); rintro e w2 ⟨rfl, hb⟩; have hL2 : Below w.heap.size w w2 := bstep hL hb; clear hb))
    go_ret
    exact ⟨rfl, hL2⟩
  · go_enter Tryd.func49, Tryd.ntmps49
    go_wp2_with (first | (go_at_call 49; (with_reducible refine (Ha _ (by go_grown)).mono ?_); rintro e w1 ⟨rfl, hb⟩; have hx := hbx _ hb; have hL : Below w.heap.size w w1 := bstep (by go_grown) hb; clear hb; have eb0 := Go.Proofs.YtgfppajbegcaeaaDoor.Sl.cell_kept eb0 hL; have eb1 := Go.Proofs.YtgfppajbegcaeaaDoor.Sl.cell_kept eb1 hL; have eb2 := Go.Proofs.YtgfppajbegcaeaaDoor.Sl.cell_kept eb2 hL; have eb3 := Go.Proofs.YtgfppajbegcaeaaDoor.Sl.cell_kept eb3 hL; have eb4 := Go.Proofs.YtgfppajbegcaeaaDoor.Sl.cell_kept eb4 hL; have eb5 := Go.Proofs.YtgfppajbegcaeaaDoor.Sl.cell_kept eb5 hL; have eb6 := Go.Proofs.YtgfppajbegcaeaaDoor.Sl.cell_kept eb6 hL) | (go_at_call 49; (with_reducible refine (Hb _ hL).mono ?_); rintro e w2 ⟨rfl, hb⟩; have hL2 : Below w.heap.size w w2 := bstep hL hb; clear hb))
    go_ret
    exact ⟨rfl, hL⟩
/-- What meaning does for one condition. -/
def mgOk (l : List Cl) (vs : List V3) (x : CN) : Prop := ∀ (cs : List Value) (d : Nat) (sl sv : Value) (w : World), CnAt w cs x → good x d = true → typ x l = 0 → Cs w sl l → Vs w sv vs →
  Calls Tryd.prog 49 #[.agg cs.toArray, sl, sv] w fun e w' => e = .returned (.bool (mng x l vs)) ∧ Below w.heap.size w w'
theorem mg_any (l : List Cl) (vs : List V3) (hl : l.length ≤ 2000000) (hlv : l.length = vs.length) : ∀ c, mgOk l vs c := by
  intro c
  induction c using CN.ind with
  | h k col oth v L ih =>
    intro cs d sl sv w hc hgd ht hs hv
    obtain ⟨s, ad, cap, rfl, rfl, had⟩ := hc.open
    obtain ⟨v0, v1, v2⟩ := v
    obtain ⟨hok, hgL⟩ := good_mk hgd
    obtain ⟨hn2, hn0, har⟩ := okN_len hok
    obtain ⟨ht1, ht2⟩ := typ_mk ht


    show Calls Tryd.prog 49 #[agC k col oth v0 v1 v2 (.slice ad L.length cap), sl, sv] w _
    rw [mng]
    by_cases hk : k = 1 ∨ k = 2
    · obtain rfl : L = [] := List.length_eq_zero_iff.1 (hn0 hk)
      rw [if_pos hk]
      obtain ⟨hi0, hm0⟩ := typN_zero hk ht1
      have HF1 := fun W (hb : Below w.heap.size w W) => find_any l sl col W hl (hs.below hb)
      rcases idx_nat col l with h1 | ⟨i, h1, hi⟩
      · exact absurd h1 (by omega)
      rw [h1] at HF1 ⊢
      obtain ⟨g, off, capl, rfl, hcl⟩ := hv.open (by omega)
      obtain ⟨⟨a0, a1, a2⟩, hta⟩ : ∃ t, vs[i]? = some t := ⟨_, List.getElem?_eq_getElem (by omega)⟩
      obtain ⟨c0, c1, c2⟩ := vs_get hcl hta
      rw [valAt_get vs i _ hta]
      by_cases hoth : oth = ⟨#[]⟩
      · subst hoth
        rw [if_pos (show (⟨#[]⟩ : ByteArray).size = 0 from rfl)]
        have HO := fun W => order_any (a0, a1, a2) (v0, v1, v2) W
        have hz := ordV_cmp.rng (a0, a1, a2) (v0, v1, v2)
        generalize ordV (a0, a1, a2) (v0, v1, v2) = z at HO hz ⊢
        rcases hk with rfl | rfl
        · exact mg1_e col v0 v1 v2 ad cap w sl g off vs.length capl i (by omega) a0 a1 a2 c0 c1 c2 HF1 z hz HO
        · exact mg2_e col v0 v1 v2 ad cap w sl g off vs.length capl i (by omega) a0 a1 a2 c0 c1 c2 HF1 z hz HO
      · have hos := size0 oth hoth
        rw [if_neg hos]
        have HF2 := fun W (hb : Below w.heap.size w W) => find_any l sl oth W hl (hs.below hb)
        have hm1 := hm0 hos
        rcases idx_nat oth l with h2 | ⟨m, h2, hm⟩
        · exact absurd h2 (by omega)
        rw [h2] at HF2 ⊢
        obtain ⟨⟨b0, b1, b2⟩, htb⟩ : ∃ t, vs[m]? = some t := ⟨_, List.getElem?_eq_getElem (by omega)⟩
        obtain ⟨d0, d1, d2⟩ := vs_get hcl htb
        rw [valAt_get vs m _ htb]
        have HO := fun W => order_any (a0, a1, a2) (b0, b1, b2) W
        have hz := ordV_cmp.rng (a0, a1, a2) (b0, b1, b2)
        generalize ordV (a0, a1, a2) (b0, b1, b2) = z at HO hz ⊢
        rcases hk with rfl | rfl
        · exact mg1_o col oth hoth v0 v1 v2 ad cap w sl g off vs.length capl i (by omega) a0 a1 a2 c0 c1 c2 m (by omega) b0 b1 b2 d0 d1 d2 HF1 HF2 z hz HO
        · exact mg2_o col oth hoth v0 v1 v2 ad cap w sl g off vs.length capl i (by omega) a0 a1 a2 c0 c1 c2 m (by omega) b0 b1 b2 d0 d1 d2 HF1 HF2 z hz HO
    · have hk2 : k = 3 ∨ k = 4 ∨ k = 5 ∨ k = 6 := by
        unfold okN at hok
        rw [if_neg hk] at hok
        by_cases h : k = 3 ∨ k = 4 ∨ k = 5 ∨ k = 6
        · exact h
        · rw [if_neg h] at hok; cases hok
      rw [okN3456 k hk2, Bool.and_eq_true, Bool.and_eq_true, Bool.and_eq_true] at hok
      obtain ⟨⟨⟨o1, o2⟩, o3⟩, _⟩ := hok
      obtain rfl := size_zero col (of_decide_eq_true o1)
      obtain rfl := size_zero oth (of_decide_eq_true o2)
      obtain ⟨rfl, rfl, rfl⟩ : v0 = 0 ∧ v1 = 0 ∧ v2 = ⟨#[]⟩ := by simpa [zeroV] using of_decide_eq_true o3
      have hz := typL_zero L l ht2
      rw [if_neg hk]
      rcases hk2 with rfl | rfl | rfl | rfl
      · rw [if_neg (by decide), if_neg (by decide), if_neg (by decide)]
        exact mg3 sl sv _ w
      · rw [if_pos rfl]
        obtain ⟨x, rfl⟩ : ∃ x, L = [x] := List.length_eq_one_iff.1 har
        obtain ⟨g, off, rfl, hk0⟩ := had (by simp)
        obtain ⟨r, hr, hrc⟩ := hk0 0 x rfl
        obtain ⟨x0, x1, x2, x3, x4, x5, ad', n', cap', rfl⟩ := hr.shape
        obtain ⟨e0, e1, e2, e3, e4, e5, e6⟩ := kid_cells (Below.refl _ w) hrc rfl
        exact mg4 g off cap w sl sv x0 x1 x2 x3 x4 x5 _ e0 e1 e2 e3 e4 e5 e6 (mng x l vs) (fun W hb => ih x (by simp) _ (d + 1) sl sv W (CnAt.below hb _ _ hr) (goodL_get _ _ 0 x hgL rfl) (hz x (by simp)) (hs.below hb) (hv.below hb))
      all_goals
        first
        | (rw [if_neg (by decide), if_pos rfl])
        | (rw [if_neg (by decide), if_neg (by decide), if_pos rfl])
        obtain ⟨x, y, rfl⟩ : ∃ x y, L = [x, y] := List.length_eq_two_iff_local har
        obtain ⟨g, off, rfl, hk0⟩ := had (by simp)
        obtain ⟨r, hr, hrc⟩ := hk0 0 x rfl
        obtain ⟨x0, x1, x2, x3, x4, x5, ad', n', cap', rfl⟩ := hr.shape
        obtain ⟨e0, e1, e2, e3, e4, e5, e6⟩ := kid_cells (Below.refl _ w) hrc rfl
        obtain ⟨r2, hr2, hrc2⟩ := hk0 1 y rfl
        obtain ⟨y0, y1, y2, y3, y4, y5, ad2, n2, cap2, rfl⟩ := hr2.shape
        obtain ⟨f0, f1, f2, f3, f4, f5, f6⟩ := kid_cells (Below.refl _ w) hrc2 rfl
        first
        | exact mg5 g off cap w sl sv x0 x1 x2 x3 x4 x5 _ e0 e1 e2 e3 e4 e5 e6 y0 y1 y2 y3 y4 y5 _ f0 f1 f2 f3 f4 f5 f6 (mng x l vs) (fun W hb => ih x (by simp) _ (d + 1) sl sv W (CnAt.below hb _ _ hr) (goodL_get _ _ 0 x hgL rfl) (hz x (by simp)) (hs.below hb) (hv.below hb)) (mng y l vs) (fun W hb => ih y (by simp) _ (d + 1) sl sv W (CnAt.below hb _ _ hr2) (goodL_get _ _ 1 y hgL rfl) (hz y (by simp)) (hs.below hb) (hv.below hb))
        | exact mg6 g off cap w sl sv x0 x1 x2 x3 x4 x5 _ e0 e1 e2 e3 e4 e5 e6 y0 y1 y2 y3 y4 y5 _ f0 f1 f2 f3 f4 f5 f6 (mng x l vs) (fun W hb => ih x (by simp) _ (d + 1) sl sv W (CnAt.below hb _ _ hr) (goodL_get _ _ 0 x hgL rfl) (hz x (by simp)) (hs.below hb) (hv.below hb)) (mng y l vs) (fun W hb => ih y (by simp) _ (d + 1) sl sv W (CnAt.below hb _ _ hr2) (goodL_get _ _ 1 y hgL rfl) (hz y (by simp)) (hs.below hb) (hv.below hb))
end Go.Proofs.YtgfppajbegcaeaaDoor.Va
