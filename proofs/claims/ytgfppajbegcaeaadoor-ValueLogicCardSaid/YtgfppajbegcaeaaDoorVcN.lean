/-
  The walk of formed (layer 33): every way that ends at the node itself.
-/
import Derived.Test.YtgfppajbegcaeaaDoorVcM
import Derived.Test.YtgfppajbegcaeaaDoorVaM
import Derived.Lib.QuietBelow
import Derived.Deep.Cut
set_option linter.unusedSimpArgs false
set_option linter.unusedVariables false
namespace Go.Proofs.YtgfppajbegcaeaaDoor.Va
open Go.RowKit Go.ChangeShapes Go.WideShapes Go.Proofs.YtgfppajbegcaeaaDoor.Sl Go.Lib

theorem fm_cells (w : World) (B : Nat) (u c0 c1 c2 c3 c4 c5 c6 e0 e1 e2 : Value) (W : World) (h : ((w.setCell ⟨B, 0, none⟩ u).alloc (.cells #[c0, c1, c2, c3, c4, c5, c6] 46)).alloc (.cells #[e0, e1, e2] 32) = W) :
    Below (w.setCell ⟨B, 0, none⟩ u).heap.size (w.setCell ⟨B, 0, none⟩ u) W ∧ w.heap.size + 1 < W.heap.size ∧ W.cell? ⟨w.heap.size, 0, none⟩ = some c0 ∧ W.cell? ⟨w.heap.size, 1, none⟩ = some c1 ∧ W.cell? ⟨w.heap.size, 2, none⟩ = some c2 ∧ W.cell? ⟨w.heap.size, 3, none⟩ = some c3 ∧ W.cell? ⟨w.heap.size, 4, none⟩ = some c4 ∧ W.cell? ⟨w.heap.size, 5, none⟩ = some c5 ∧ W.cell? ⟨w.heap.size, 6, none⟩ = some c6 ∧
      W.cell? ⟨w.heap.size + 1, 0, none⟩ = some e0 ∧ W.cell? ⟨w.heap.size + 1, 1, none⟩ = some e1 ∧ W.cell? ⟨w.heap.size + 1, 2, none⟩ = some e2 := by
  subst h
  have hsz : (w.setCell ⟨B, 0, none⟩ u).heap.size = w.heap.size := by simp
  generalize w.setCell ⟨B, 0, none⟩ u = w1 at *
  have p1 : (w1.alloc (.cells #[c0, c1, c2, c3, c4, c5, c6] 46)).heap.size = w.heap.size + 1 := by simp [hsz]
  have hb : Below w1.heap.size w1 (w1.alloc (.cells #[c0, c1, c2, c3, c4, c5, c6] 46)) := (Below.refl _ _).alloc (Nat.le_refl _) _
  have hb2 : Below (w1.alloc (.cells #[c0, c1, c2, c3, c4, c5, c6] 46)).heap.size (w1.alloc (.cells #[c0, c1, c2, c3, c4, c5, c6] 46)) ((w1.alloc (.cells #[c0, c1, c2, c3, c4, c5, c6] 46)).alloc (.cells #[e0, e1, e2] 32)) := (Below.refl _ _).alloc (Nat.le_refl _) _
  have b1 := box_new w1 #[c0, c1, c2, c3, c4, c5, c6] 46
  have b2 := box_new (w1.alloc (.cells #[c0, c1, c2, c3, c4, c5, c6] 46)) #[e0, e1, e2] 32
  rw [hsz] at b1
  rw [p1] at b2
  refine ⟨bstep hb hb2, by simp [hsz], ?_, ?_, ?_, ?_, ?_, ?_, ?_, box_cell b2 0 _ rfl, box_cell b2 1 _ rfl, box_cell b2 2 _ rfl⟩
  · exact Go.Proofs.YtgfppajbegcaeaaDoor.Sl.cell_kept (box_cell b1 0 _ rfl) hb2
  · exact Go.Proofs.YtgfppajbegcaeaaDoor.Sl.cell_kept (box_cell b1 1 _ rfl) hb2
  · exact Go.Proofs.YtgfppajbegcaeaaDoor.Sl.cell_kept (box_cell b1 2 _ rfl) hb2
  · exact Go.Proofs.YtgfppajbegcaeaaDoor.Sl.cell_kept (box_cell b1 3 _ rfl) hb2
  · exact Go.Proofs.YtgfppajbegcaeaaDoor.Sl.cell_kept (box_cell b1 4 _ rfl) hb2
  · exact Go.Proofs.YtgfppajbegcaeaaDoor.Sl.cell_kept (box_cell b1 5 _ rfl) hb2
  · exact Go.Proofs.YtgfppajbegcaeaaDoor.Sl.cell_kept (box_cell b1 6 _ rfl) hb2
set_option maxRecDepth 20000 in
theorem fno_n (k : Int) (col oth : ByteArray) (v0 v1 : Int) (v2 : ByteArray) (s : Value) (n d B : Nat) (w : World) (hn : n ≤ 60) (hd : (d : Int) ≤ 100) (hB : Boxed w B 3 (.int .i64 n)) (h : (60 : Int) < (n : Int) + 1) :
    Calls Tryd.prog 51 #[agC k col oth v0 v1 v2 s, .int .i64 d, .pointer (some ⟨B, 0, none⟩)] w (FmP w B (false, n + 1)) := by
  have hb0 := hB.cell
  have hb1 := hB.frozen
  have hb2 := hB.lt
  go_enter Tryd.func51, Tryd.ntmps51
  go_wp2
  go_ret
  refine FmP.end (y := (n : Int) + 1) hB (by omega) ?_
  go_grown
set_option maxRecDepth 20000 in
theorem fno_d (k : Int) (col oth : ByteArray) (v0 v1 : Int) (v2 : ByteArray) (s : Value) (n d B : Nat) (w : World) (hn : (n : Int) + 1 ≤ 60) (hd : (12 : Int) < (d : Int)) (hd2 : (d : Int) ≤ 100) (hB : Boxed w B 3 (.int .i64 n)) :
    Calls Tryd.prog 51 #[agC k col oth v0 v1 v2 s, .int .i64 d, .pointer (some ⟨B, 0, none⟩)] w (FmP w B (false, n + 1)) := by
  have hb0 := hB.cell
  have hb1 := hB.frozen
  have hb2 := hB.lt
  go_enter Tryd.func51, Tryd.ntmps51
  go_wp2
  go_ret
  refine FmP.end (y := (n : Int) + 1) hB (by omega) ?_
  go_grown
set_option maxRecDepth 20000 in
theorem fno_k (k : Int) (col oth : ByteArray) (v0 v1 : Int) (v2 : ByteArray) (s : Value) (n d B : Nat) (w : World) (hn : (n : Int) + 1 ≤ 60) (hd0 : (0 : Int) ≤ (d : Int)) (hd : (d : Int) ≤ 12) (hB : Boxed w B 3 (.int .i64 n)) (h1 : ¬ k = 1) (h2 : ¬ k = 2) (h3 : ¬ k = 3) (h4 : ¬ k = 4) (h5 : ¬ k = 5) (h6 : ¬ k = 6) :
    Calls Tryd.prog 51 #[agC k col oth v0 v1 v2 s, .int .i64 d, .pointer (some ⟨B, 0, none⟩)] w (FmP w B (false, n + 1)) := by
  have hb0 := hB.cell
  have hb1 := hB.frozen
  have hb2 := hB.lt
  go_enter Tryd.func51, Tryd.ntmps51
  go_wp2
  go_ret
  refine FmP.end (y := (n : Int) + 1) hB (by omega) ?_
  go_grown
set_option maxRecDepth 20000 in
theorem fno1_c (oth : ByteArray) (v0 v1 : Int) (v2 : ByteArray) (s : Value) (n d B : Nat) (w : World) (hn : (n : Int) + 1 ≤ 60) (hd0 : (0 : Int) ≤ (d : Int)) (hd : (d : Int) ≤ 12) (hB : Boxed w B 3 (.int .i64 n)) :
    Calls Tryd.prog 51 #[agC 1 ⟨#[]⟩ oth v0 v1 v2 s, .int .i64 d, .pointer (some ⟨B, 0, none⟩)] w (FmP w B (false, n + 1)) := by
  have hb0 := hB.cell
  have hb1 := hB.frozen
  have hb2 := hB.lt
  have HV := fun W => valid_any (v0, v1, v2) W
  go_enter Tryd.func51, Tryd.ntmps51
  go_upto_region 10 with fail
  obtain ⟨W, hW⟩ : ∃ W, ((w.setCell ⟨B, 0, none⟩ (.int .i64 ((n : Int) + 1))).alloc (.cells #[.int .i64 1, .string ⟨#[]⟩, .string oth, .int .i64 v0, .int .i64 v1, .string v2, s] 46)).alloc (.cells #[.int .i64 0, .int .i64 0, .string ⟨#[]⟩] 32) = W := ⟨_, rfl⟩
  obtain ⟨hL, hlt, f0, f1, f2, f3, f4, f5, f6, z0, z1, z2⟩ := fm_cells w B _ _ _ _ _ _ _ _ _ _ _ W hW
  rw [hW]
  clear hW
  have g0 := cell_regrown f0
  have g1 := cell_regrown f1
  have g2 := cell_regrown f2
  have g3 := cell_regrown f3
  have g4 := cell_regrown f4
  have g5 := cell_regrown f5
  have g6 := cell_regrown f6
  have y0 := cell_regrown z0
  have y1 := cell_regrown z1
  have y2 := cell_regrown z2
  refine wp_region_quiet_below (by kernel_rfl) (by kernel_rfl) ?_
  repeat (go_big_quiet_step (first | (go_at_call 21; with_reducible exact Calls.regrown_of (HV _))))
  refine wpQuiet_nil ?_
  intro _ hw9
  obtain ⟨⟨dq, osq⟩, hw9⟩ := hw9
  subst hw9
  have hL2 := hL.trans ((below_regrown W dq osq).mono hL.size)
  clear hL
  go_wp2
  go_ret
  exact FmP.end (y := (n : Int) + 1) hB (by omega) hL2
set_option maxRecDepth 20000 in
theorem fno1_i (col : ByteArray) (v0 v1 : Int) (v2 : ByteArray) (hc : ¬ col = ⟨#[]⟩) (hv : validV (v0, v1, v2) = false) (s : Value) (n d B : Nat) (w : World) (hn : (n : Int) + 1 ≤ 60) (hd0 : (0 : Int) ≤ (d : Int)) (hd : (d : Int) ≤ 12) (hB : Boxed w B 3 (.int .i64 n)) :
    Calls Tryd.prog 51 #[agC 1 col ⟨#[]⟩ v0 v1 v2 s, .int .i64 d, .pointer (some ⟨B, 0, none⟩)] w (FmP w B (false, n + 1)) := by
  have hb0 := hB.cell
  have hb1 := hB.frozen
  have hb2 := hB.lt
  obtain ⟨p1, p2, p3⟩ := list_ne col hc
  have HV := fun W => valid_any (v0, v1, v2) W
  rw [hv] at HV
  go_enter Tryd.func51, Tryd.ntmps51
  go_upto_region 10 with fail
  obtain ⟨W, hW⟩ : ∃ W, ((w.setCell ⟨B, 0, none⟩ (.int .i64 ((n : Int) + 1))).alloc (.cells #[.int .i64 1, .string col, .string ⟨#[]⟩, .int .i64 v0, .int .i64 v1, .string v2, s] 46)).alloc (.cells #[.int .i64 0, .int .i64 0, .string ⟨#[]⟩] 32) = W := ⟨_, rfl⟩
  obtain ⟨hL, hlt, f0, f1, f2, f3, f4, f5, f6, z0, z1, z2⟩ := fm_cells w B _ _ _ _ _ _ _ _ _ _ _ W hW
  rw [hW]
  clear hW
  have g0 := cell_regrown f0
  have g1 := cell_regrown f1
  have g2 := cell_regrown f2
  have g3 := cell_regrown f3
  have g4 := cell_regrown f4
  have g5 := cell_regrown f5
  have g6 := cell_regrown f6
  have y0 := cell_regrown z0
  have y1 := cell_regrown z1
  have y2 := cell_regrown z2
  refine wp_region_quiet_below (by kernel_rfl) (by kernel_rfl) ?_
  repeat (go_big_quiet_step (first | (go_at_call 21; with_reducible exact Calls.regrown_of (HV _))))
  refine wpQuiet_nil ?_
  intro _ hw9
  obtain ⟨⟨dq, osq⟩, hw9⟩ := hw9
  subst hw9
  have hL2 := hL.trans ((below_regrown W dq osq).mono hL.size)
  clear hL
  go_wp2
  go_ret
  exact FmP.end (y := (n : Int) + 1) hB (by omega) hL2
set_option maxRecDepth 20000 in
theorem fno1_v (col oth : ByteArray) (v0 v1 : Int) (v2 : ByteArray) (hc : ¬ col = ⟨#[]⟩) (ho : ¬ oth = ⟨#[]⟩) (hz : ¬ ((v0, v1, v2) : V3) = zeroV) (s : Value) (n d B : Nat) (w : World) (hn : (n : Int) + 1 ≤ 60) (hd0 : (0 : Int) ≤ (d : Int)) (hd : (d : Int) ≤ 12) (hB : Boxed w B 3 (.int .i64 n)) :
    Calls Tryd.prog 51 #[agC 1 col oth v0 v1 v2 s, .int .i64 d, .pointer (some ⟨B, 0, none⟩)] w (FmP w B (false, n + 1)) := by
  have hb0 := hB.cell
  have hb1 := hB.frozen
  have hb2 := hB.lt
  obtain ⟨p1, p2, p3⟩ := list_ne col hc
  obtain ⟨q1, q2, q3⟩ := list_ne oth ho
  have hvn : ∀ W : World, (binOp .neq 32 (.agg #[.int .i64 v0, .int .i64 v1, .string v2]) (.agg #[.int .i64 0, .int .i64 0, .string ⟨#[]⟩])).run Tryd.prog W = .ok (.bool true) W := fun W => by have := val_ne (v0, v1, v2) zeroV W; rw [decide_eq_false hz] at this; exact this
  have HV := fun W => valid_any (v0, v1, v2) W
  generalize validV (v0, v1, v2) = vb at HV
  cases vb
  · go_enter Tryd.func51, Tryd.ntmps51
    go_upto_region 10 with fail
    obtain ⟨W, hW⟩ : ∃ W, ((w.setCell ⟨B, 0, none⟩ (.int .i64 ((n : Int) + 1))).alloc (.cells #[.int .i64 1, .string col, .string oth, .int .i64 v0, .int .i64 v1, .string v2, s] 46)).alloc (.cells #[.int .i64 0, .int .i64 0, .string ⟨#[]⟩] 32) = W := ⟨_, rfl⟩
    obtain ⟨hL, hlt, f0, f1, f2, f3, f4, f5, f6, z0, z1, z2⟩ := fm_cells w B _ _ _ _ _ _ _ _ _ _ _ W hW
    rw [hW]
    clear hW
    have g0 := cell_regrown f0
    have g1 := cell_regrown f1
    have g2 := cell_regrown f2
    have g3 := cell_regrown f3
    have g4 := cell_regrown f4
    have g5 := cell_regrown f5
    have g6 := cell_regrown f6
    have y0 := cell_regrown z0
    have y1 := cell_regrown z1
    have y2 := cell_regrown z2
    refine wp_region_quiet_below (by kernel_rfl) (by kernel_rfl) ?_
    repeat (go_big_quiet_step (first | (go_at_call 21; with_reducible exact Calls.regrown_of (HV _))))
    refine wpQuiet_nil ?_
    intro _ hw9
    obtain ⟨⟨dq, osq⟩, hw9⟩ := hw9
    subst hw9
    have hL2 := hL.trans ((below_regrown W dq osq).mono hL.size)
    clear hL
    go_wp2
    go_ret
    exact FmP.end (y := (n : Int) + 1) hB (by omega) hL2
  · go_enter Tryd.func51, Tryd.ntmps51
    go_upto_region 10 with fail
    obtain ⟨W, hW⟩ : ∃ W, ((w.setCell ⟨B, 0, none⟩ (.int .i64 ((n : Int) + 1))).alloc (.cells #[.int .i64 1, .string col, .string oth, .int .i64 v0, .int .i64 v1, .string v2, s] 46)).alloc (.cells #[.int .i64 0, .int .i64 0, .string ⟨#[]⟩] 32) = W := ⟨_, rfl⟩
    obtain ⟨hL, hlt, f0, f1, f2, f3, f4, f5, f6, z0, z1, z2⟩ := fm_cells w B _ _ _ _ _ _ _ _ _ _ _ W hW
    rw [hW]
    clear hW
    have g0 := cell_regrown f0
    have g1 := cell_regrown f1
    have g2 := cell_regrown f2
    have g3 := cell_regrown f3
    have g4 := cell_regrown f4
    have g5 := cell_regrown f5
    have g6 := cell_regrown f6
    have y0 := cell_regrown z0
    have y1 := cell_regrown z1
    have y2 := cell_regrown z2
    refine wp_region_quiet_below (by kernel_rfl) (by kernel_rfl) ?_
    repeat (go_big_quiet_step (first | (go_at_call 21; with_reducible exact Calls.regrown_of (HV _))))
    refine wpQuiet_nil ?_
    intro _ hw9
    obtain ⟨⟨dq, osq⟩, hw9⟩ := hw9
    subst hw9
    have hL2 := hL.trans ((below_regrown W dq osq).mono hL.size)
    clear hL
    go_wp2
    go_ret
    exact FmP.end (y := (n : Int) + 1) hB (by omega) hL2
set_option maxRecDepth 20000 in
theorem fno1_l1 (col : ByteArray) (v0 v1 : Int) (v2 : ByteArray) (ad : Option Addr) (m cap : Nat) (hm : ¬ m = 0) (hc : ¬ col = ⟨#[]⟩) (hv : validV (v0, v1, v2) = true) (s : Value) (n d B : Nat) (w : World) (hn : (n : Int) + 1 ≤ 60) (hd0 : (0 : Int) ≤ (d : Int)) (hd : (d : Int) ≤ 12) (hB : Boxed w B 3 (.int .i64 n)) :
    Calls Tryd.prog 51 #[agC 1 col ⟨#[]⟩ v0 v1 v2 (.slice ad m cap), .int .i64 d, .pointer (some ⟨B, 0, none⟩)] w (FmP w B (false, n + 1)) := by
  have hb0 := hB.cell
  have hb1 := hB.frozen
  have hb2 := hB.lt
  have hm2 : ¬ (m : Int) = 0 := by omega
  have hm3 : ((m : Int) == 0) = false := by simp; omega
  obtain ⟨p1, p2, p3⟩ := list_ne col hc
  have HV := fun W => valid_any (v0, v1, v2) W
  rw [hv] at HV
  go_enter Tryd.func51, Tryd.ntmps51
  go_upto_region 10 with fail
  obtain ⟨W, hW⟩ : ∃ W, ((w.setCell ⟨B, 0, none⟩ (.int .i64 ((n : Int) + 1))).alloc (.cells #[.int .i64 1, .string col, .string ⟨#[]⟩, .int .i64 v0, .int .i64 v1, .string v2, .slice ad m cap] 46)).alloc (.cells #[.int .i64 0, .int .i64 0, .string ⟨#[]⟩] 32) = W := ⟨_, rfl⟩
  obtain ⟨hL, hlt, f0, f1, f2, f3, f4, f5, f6, z0, z1, z2⟩ := fm_cells w B _ _ _ _ _ _ _ _ _ _ _ W hW
  rw [hW]
  clear hW
  have g0 := cell_regrown f0
  have g1 := cell_regrown f1
  have g2 := cell_regrown f2
  have g3 := cell_regrown f3
  have g4 := cell_regrown f4
  have g5 := cell_regrown f5
  have g6 := cell_regrown f6
  have y0 := cell_regrown z0
  have y1 := cell_regrown z1
  have y2 := cell_regrown z2
  refine wp_region_quiet_below (by kernel_rfl) (by kernel_rfl) ?_
  repeat (go_big_quiet_step (first | (go_at_call 21; with_reducible exact Calls.regrown_of (HV _))))
  refine wpQuiet_nil ?_
  intro _ hw9
  obtain ⟨⟨dq, osq⟩, hw9⟩ := hw9
  subst hw9
  have hL2 := hL.trans ((below_regrown W dq osq).mono hL.size)
  clear hL
  go_wp2
  go_ret
  exact FmP.end (y := (n : Int) + 1) hB (by omega) hL2
set_option maxRecDepth 20000 in
theorem fno1_l2 (col oth : ByteArray) (ad : Option Addr) (m cap : Nat) (hm : ¬ m = 0) (hc : ¬ col = ⟨#[]⟩) (ho : ¬ oth = ⟨#[]⟩) (s : Value) (n d B : Nat) (w : World) (hn : (n : Int) + 1 ≤ 60) (hd0 : (0 : Int) ≤ (d : Int)) (hd : (d : Int) ≤ 12) (hB : Boxed w B 3 (.int .i64 n)) :
    Calls Tryd.prog 51 #[agC 1 col oth 0 0 ⟨#[]⟩ (.slice ad m cap), .int .i64 d, .pointer (some ⟨B, 0, none⟩)] w (FmP w B (false, n + 1)) := by
  have hb0 := hB.cell
  have hb1 := hB.frozen
  have hb2 := hB.lt
  have hm2 : ¬ (m : Int) = 0 := by omega
  have hm3 : ((m : Int) == 0) = false := by simp; omega
  obtain ⟨p1, p2, p3⟩ := list_ne col hc
  obtain ⟨q1, q2, q3⟩ := list_ne oth ho
  have hvn : ∀ W : World, (binOp .neq 32 (.agg #[.int .i64 0, .int .i64 0, .string ⟨#[]⟩]) (.agg #[.int .i64 0, .int .i64 0, .string ⟨#[]⟩])).run Tryd.prog W = .ok (.bool false) W := fun W => val_ne zeroV zeroV W
  have HV := fun W => valid_any (0, 0, ⟨#[]⟩) W
  rw [show validV (0, 0, ⟨#[]⟩) = false from rfl] at HV
  go_enter Tryd.func51, Tryd.ntmps51
  go_upto_region 10 with fail
  obtain ⟨W, hW⟩ : ∃ W, ((w.setCell ⟨B, 0, none⟩ (.int .i64 ((n : Int) + 1))).alloc (.cells #[.int .i64 1, .string col, .string oth, .int .i64 0, .int .i64 0, .string ⟨#[]⟩, .slice ad m cap] 46)).alloc (.cells #[.int .i64 0, .int .i64 0, .string ⟨#[]⟩] 32) = W := ⟨_, rfl⟩
  obtain ⟨hL, hlt, f0, f1, f2, f3, f4, f5, f6, z0, z1, z2⟩ := fm_cells w B _ _ _ _ _ _ _ _ _ _ _ W hW
  rw [hW]
  clear hW
  have g0 := cell_regrown f0
  have g1 := cell_regrown f1
  have g2 := cell_regrown f2
  have g3 := cell_regrown f3
  have g4 := cell_regrown f4
  have g5 := cell_regrown f5
  have g6 := cell_regrown f6
  have y0 := cell_regrown z0
  have y1 := cell_regrown z1
  have y2 := cell_regrown z2
  refine wp_region_quiet_below (by kernel_rfl) (by kernel_rfl) ?_
  repeat (go_big_quiet_step (first | (go_at_call 21; with_reducible exact Calls.regrown_of (HV _))))
  refine wpQuiet_nil ?_
  intro _ hw9
  obtain ⟨⟨dq, osq⟩, hw9⟩ := hw9
  subst hw9
  have hL2 := hL.trans ((below_regrown W dq osq).mono hL.size)
  clear hL
  go_wp2
  go_ret
  exact FmP.end (y := (n : Int) + 1) hB (by omega) hL2
set_option maxRecDepth 20000 in
theorem fno1_k1 (col : ByteArray) (v0 v1 : Int) (v2 : ByteArray) (ad : Option Addr) (cap : Nat) (hc : ¬ col = ⟨#[]⟩) (hv : validV (v0, v1, v2) = true) (s : Value) (n d B : Nat) (w : World) (hn : (n : Int) + 1 ≤ 60) (hd0 : (0 : Int) ≤ (d : Int)) (hd : (d : Int) ≤ 12) (hB : Boxed w B 3 (.int .i64 n)) :
    Calls Tryd.prog 51 #[agC 1 col ⟨#[]⟩ v0 v1 v2 (.slice ad 0 cap), .int .i64 d, .pointer (some ⟨B, 0, none⟩)] w (FmP w B (true, n + 1)) := by
  have hb0 := hB.cell
  have hb1 := hB.frozen
  have hb2 := hB.lt
  obtain ⟨p1, p2, p3⟩ := list_ne col hc
  have HV := fun W => valid_any (v0, v1, v2) W
  rw [hv] at HV
  go_enter Tryd.func51, Tryd.ntmps51
  go_upto_region 10 with fail
  obtain ⟨W, hW⟩ : ∃ W, ((w.setCell ⟨B, 0, none⟩ (.int .i64 ((n : Int) + 1))).alloc (.cells #[.int .i64 1, .string col, .string ⟨#[]⟩, .int .i64 v0, .int .i64 v1, .string v2, .slice ad 0 cap] 46)).alloc (.cells #[.int .i64 0, .int .i64 0, .string ⟨#[]⟩] 32) = W := ⟨_, rfl⟩
  obtain ⟨hL, hlt, f0, f1, f2, f3, f4, f5, f6, z0, z1, z2⟩ := fm_cells w B _ _ _ _ _ _ _ _ _ _ _ W hW
  rw [hW]
  clear hW
  have g0 := cell_regrown f0
  have g1 := cell_regrown f1
  have g2 := cell_regrown f2
  have g3 := cell_regrown f3
  have g4 := cell_regrown f4
  have g5 := cell_regrown f5
  have g6 := cell_regrown f6
  have y0 := cell_regrown z0
  have y1 := cell_regrown z1
  have y2 := cell_regrown z2
  refine wp_region_quiet_below (by kernel_rfl) (by kernel_rfl) ?_
  repeat (go_big_quiet_step (first | (go_at_call 21; with_reducible exact Calls.regrown_of (HV _))))
  refine wpQuiet_nil ?_
  intro _ hw9
  obtain ⟨⟨dq, osq⟩, hw9⟩ := hw9
  subst hw9
  have hL2 := hL.trans ((below_regrown W dq osq).mono hL.size)
  clear hL
  go_wp2
  refine wp_loop_rounds 1 ?_
  rw [rounds_succ]
  go_wp2
  go_ret
  exact FmP.end (y := (n : Int) + 1) hB (by omega) hL2
set_option maxRecDepth 20000 in
theorem fno1_k2 (col oth : ByteArray) (ad : Option Addr) (cap : Nat) (hc : ¬ col = ⟨#[]⟩) (ho : ¬ oth = ⟨#[]⟩) (s : Value) (n d B : Nat) (w : World) (hn : (n : Int) + 1 ≤ 60) (hd0 : (0 : Int) ≤ (d : Int)) (hd : (d : Int) ≤ 12) (hB : Boxed w B 3 (.int .i64 n)) :
    Calls Tryd.prog 51 #[agC 1 col oth 0 0 ⟨#[]⟩ (.slice ad 0 cap), .int .i64 d, .pointer (some ⟨B, 0, none⟩)] w (FmP w B (true, n + 1)) := by
  have hb0 := hB.cell
  have hb1 := hB.frozen
  have hb2 := hB.lt
  obtain ⟨p1, p2, p3⟩ := list_ne col hc
  obtain ⟨q1, q2, q3⟩ := list_ne oth ho
  have hvn : ∀ W : World, (binOp .neq 32 (.agg #[.int .i64 0, .int .i64 0, .string ⟨#[]⟩]) (.agg #[.int .i64 0, .int .i64 0, .string ⟨#[]⟩])).run Tryd.prog W = .ok (.bool false) W := fun W => val_ne zeroV zeroV W
  have HV := fun W => valid_any (0, 0, ⟨#[]⟩) W
  rw [show validV (0, 0, ⟨#[]⟩) = false from rfl] at HV
  go_enter Tryd.func51, Tryd.ntmps51
  go_upto_region 10 with fail
  obtain ⟨W, hW⟩ : ∃ W, ((w.setCell ⟨B, 0, none⟩ (.int .i64 ((n : Int) + 1))).alloc (.cells #[.int .i64 1, .string col, .string oth, .int .i64 0, .int .i64 0, .string ⟨#[]⟩, .slice ad 0 cap] 46)).alloc (.cells #[.int .i64 0, .int .i64 0, .string ⟨#[]⟩] 32) = W := ⟨_, rfl⟩
  obtain ⟨hL, hlt, f0, f1, f2, f3, f4, f5, f6, z0, z1, z2⟩ := fm_cells w B _ _ _ _ _ _ _ _ _ _ _ W hW
  rw [hW]
  clear hW
  have g0 := cell_regrown f0
  have g1 := cell_regrown f1
  have g2 := cell_regrown f2
  have g3 := cell_regrown f3
  have g4 := cell_regrown f4
  have g5 := cell_regrown f5
  have g6 := cell_regrown f6
  have y0 := cell_regrown z0
  have y1 := cell_regrown z1
  have y2 := cell_regrown z2
  refine wp_region_quiet_below (by kernel_rfl) (by kernel_rfl) ?_
  repeat (go_big_quiet_step (first | (go_at_call 21; with_reducible exact Calls.regrown_of (HV _))))
  refine wpQuiet_nil ?_
  intro _ hw9
  obtain ⟨⟨dq, osq⟩, hw9⟩ := hw9
  subst hw9
  have hL2 := hL.trans ((below_regrown W dq osq).mono hL.size)
  clear hL
  go_wp2
  refine wp_loop_rounds 1 ?_
  rw [rounds_succ]
  go_wp2
  go_ret
  exact FmP.end (y := (n : Int) + 1) hB (by omega) hL2
set_option maxRecDepth 20000 in
theorem fno2_c (oth : ByteArray) (v0 v1 : Int) (v2 : ByteArray) (s : Value) (n d B : Nat) (w : World) (hn : (n : Int) + 1 ≤ 60) (hd0 : (0 : Int) ≤ (d : Int)) (hd : (d : Int) ≤ 12) (hB : Boxed w B 3 (.int .i64 n)) :
    Calls Tryd.prog 51 #[agC 2 ⟨#[]⟩ oth v0 v1 v2 s, .int .i64 d, .pointer (some ⟨B, 0, none⟩)] w (FmP w B (false, n + 1)) := by
  have hb0 := hB.cell
  have hb1 := hB.frozen
  have hb2 := hB.lt
  have HV := fun W => valid_any (v0, v1, v2) W
  go_enter Tryd.func51, Tryd.ntmps51
  go_upto_region 10 with fail
  obtain ⟨W, hW⟩ : ∃ W, ((w.setCell ⟨B, 0, none⟩ (.int .i64 ((n : Int) + 1))).alloc (.cells #[.int .i64 2, .string ⟨#[]⟩, .string oth, .int .i64 v0, .int .i64 v1, .string v2, s] 46)).alloc (.cells #[.int .i64 0, .int .i64 0, .string ⟨#[]⟩] 32) = W := ⟨_, rfl⟩
  obtain ⟨hL, hlt, f0, f1, f2, f3, f4, f5, f6, z0, z1, z2⟩ := fm_cells w B _ _ _ _ _ _ _ _ _ _ _ W hW
  rw [hW]
  clear hW
  have g0 := cell_regrown f0
  have g1 := cell_regrown f1
  have g2 := cell_regrown f2
  have g3 := cell_regrown f3
  have g4 := cell_regrown f4
  have g5 := cell_regrown f5
  have g6 := cell_regrown f6
  have y0 := cell_regrown z0
  have y1 := cell_regrown z1
  have y2 := cell_regrown z2
  refine wp_region_quiet_below (by kernel_rfl) (by kernel_rfl) ?_
  repeat (go_big_quiet_step (first | (go_at_call 21; with_reducible exact Calls.regrown_of (HV _))))
  refine wpQuiet_nil ?_
  intro _ hw9
  obtain ⟨⟨dq, osq⟩, hw9⟩ := hw9
  subst hw9
  have hL2 := hL.trans ((below_regrown W dq osq).mono hL.size)
  clear hL
  go_wp2
  go_ret
  exact FmP.end (y := (n : Int) + 1) hB (by omega) hL2
set_option maxRecDepth 20000 in
theorem fno2_i (col : ByteArray) (v0 v1 : Int) (v2 : ByteArray) (hc : ¬ col = ⟨#[]⟩) (hv : validV (v0, v1, v2) = false) (s : Value) (n d B : Nat) (w : World) (hn : (n : Int) + 1 ≤ 60) (hd0 : (0 : Int) ≤ (d : Int)) (hd : (d : Int) ≤ 12) (hB : Boxed w B 3 (.int .i64 n)) :
    Calls Tryd.prog 51 #[agC 2 col ⟨#[]⟩ v0 v1 v2 s, .int .i64 d, .pointer (some ⟨B, 0, none⟩)] w (FmP w B (false, n + 1)) := by
  have hb0 := hB.cell
  have hb1 := hB.frozen
  have hb2 := hB.lt
  obtain ⟨p1, p2, p3⟩ := list_ne col hc
  have HV := fun W => valid_any (v0, v1, v2) W
  rw [hv] at HV
  go_enter Tryd.func51, Tryd.ntmps51
  go_upto_region 10 with fail
  obtain ⟨W, hW⟩ : ∃ W, ((w.setCell ⟨B, 0, none⟩ (.int .i64 ((n : Int) + 1))).alloc (.cells #[.int .i64 2, .string col, .string ⟨#[]⟩, .int .i64 v0, .int .i64 v1, .string v2, s] 46)).alloc (.cells #[.int .i64 0, .int .i64 0, .string ⟨#[]⟩] 32) = W := ⟨_, rfl⟩
  obtain ⟨hL, hlt, f0, f1, f2, f3, f4, f5, f6, z0, z1, z2⟩ := fm_cells w B _ _ _ _ _ _ _ _ _ _ _ W hW
  rw [hW]
  clear hW
  have g0 := cell_regrown f0
  have g1 := cell_regrown f1
  have g2 := cell_regrown f2
  have g3 := cell_regrown f3
  have g4 := cell_regrown f4
  have g5 := cell_regrown f5
  have g6 := cell_regrown f6
  have y0 := cell_regrown z0
  have y1 := cell_regrown z1
  have y2 := cell_regrown z2
  refine wp_region_quiet_below (by kernel_rfl) (by kernel_rfl) ?_
  repeat (go_big_quiet_step (first | (go_at_call 21; with_reducible exact Calls.regrown_of (HV _))))
  refine wpQuiet_nil ?_
  intro _ hw9
  obtain ⟨⟨dq, osq⟩, hw9⟩ := hw9
  subst hw9
  have hL2 := hL.trans ((below_regrown W dq osq).mono hL.size)
  clear hL
  go_wp2
  go_ret
  exact FmP.end (y := (n : Int) + 1) hB (by omega) hL2
set_option maxRecDepth 20000 in
theorem fno2_v (col oth : ByteArray) (v0 v1 : Int) (v2 : ByteArray) (hc : ¬ col = ⟨#[]⟩) (ho : ¬ oth = ⟨#[]⟩) (hz : ¬ ((v0, v1, v2) : V3) = zeroV) (s : Value) (n d B : Nat) (w : World) (hn : (n : Int) + 1 ≤ 60) (hd0 : (0 : Int) ≤ (d : Int)) (hd : (d : Int) ≤ 12) (hB : Boxed w B 3 (.int .i64 n)) :
    Calls Tryd.prog 51 #[agC 2 col oth v0 v1 v2 s, .int .i64 d, .pointer (some ⟨B, 0, none⟩)] w (FmP w B (false, n + 1)) := by
  have hb0 := hB.cell
  have hb1 := hB.frozen
  have hb2 := hB.lt
  obtain ⟨p1, p2, p3⟩ := list_ne col hc
  obtain ⟨q1, q2, q3⟩ := list_ne oth ho
  have hvn : ∀ W : World, (binOp .neq 32 (.agg #[.int .i64 v0, .int .i64 v1, .string v2]) (.agg #[.int .i64 0, .int .i64 0, .string ⟨#[]⟩])).run Tryd.prog W = .ok (.bool true) W := fun W => by have := val_ne (v0, v1, v2) zeroV W; rw [decide_eq_false hz] at this; exact this
  have HV := fun W => valid_any (v0, v1, v2) W
  generalize validV (v0, v1, v2) = vb at HV
  cases vb
  · go_enter Tryd.func51, Tryd.ntmps51
    go_upto_region 10 with fail
    obtain ⟨W, hW⟩ : ∃ W, ((w.setCell ⟨B, 0, none⟩ (.int .i64 ((n : Int) + 1))).alloc (.cells #[.int .i64 2, .string col, .string oth, .int .i64 v0, .int .i64 v1, .string v2, s] 46)).alloc (.cells #[.int .i64 0, .int .i64 0, .string ⟨#[]⟩] 32) = W := ⟨_, rfl⟩
    obtain ⟨hL, hlt, f0, f1, f2, f3, f4, f5, f6, z0, z1, z2⟩ := fm_cells w B _ _ _ _ _ _ _ _ _ _ _ W hW
    rw [hW]
    clear hW
    have g0 := cell_regrown f0
    have g1 := cell_regrown f1
    have g2 := cell_regrown f2
    have g3 := cell_regrown f3
    have g4 := cell_regrown f4
    have g5 := cell_regrown f5
    have g6 := cell_regrown f6
    have y0 := cell_regrown z0
    have y1 := cell_regrown z1
    have y2 := cell_regrown z2
    refine wp_region_quiet_below (by kernel_rfl) (by kernel_rfl) ?_
    repeat (go_big_quiet_step (first | (go_at_call 21; with_reducible exact Calls.regrown_of (HV _))))
    refine wpQuiet_nil ?_
    intro _ hw9
    obtain ⟨⟨dq, osq⟩, hw9⟩ := hw9
    subst hw9
    have hL2 := hL.trans ((below_regrown W dq osq).mono hL.size)
    clear hL
    go_wp2
    go_ret
    exact FmP.end (y := (n : Int) + 1) hB (by omega) hL2
  · go_enter Tryd.func51, Tryd.ntmps51
    go_upto_region 10 with fail
    obtain ⟨W, hW⟩ : ∃ W, ((w.setCell ⟨B, 0, none⟩ (.int .i64 ((n : Int) + 1))).alloc (.cells #[.int .i64 2, .string col, .string oth, .int .i64 v0, .int .i64 v1, .string v2, s] 46)).alloc (.cells #[.int .i64 0, .int .i64 0, .string ⟨#[]⟩] 32) = W := ⟨_, rfl⟩
    obtain ⟨hL, hlt, f0, f1, f2, f3, f4, f5, f6, z0, z1, z2⟩ := fm_cells w B _ _ _ _ _ _ _ _ _ _ _ W hW
    rw [hW]
    clear hW
    have g0 := cell_regrown f0
    have g1 := cell_regrown f1
    have g2 := cell_regrown f2
    have g3 := cell_regrown f3
    have g4 := cell_regrown f4
    have g5 := cell_regrown f5
    have g6 := cell_regrown f6
    have y0 := cell_regrown z0
    have y1 := cell_regrown z1
    have y2 := cell_regrown z2
    refine wp_region_quiet_below (by kernel_rfl) (by kernel_rfl) ?_
    repeat (go_big_quiet_step (first | (go_at_call 21; with_reducible exact Calls.regrown_of (HV _))))
    refine wpQuiet_nil ?_
    intro _ hw9
    obtain ⟨⟨dq, osq⟩, hw9⟩ := hw9
    subst hw9
    have hL2 := hL.trans ((below_regrown W dq osq).mono hL.size)
    clear hL
    go_wp2
    go_ret
    exact FmP.end (y := (n : Int) + 1) hB (by omega) hL2
set_option maxRecDepth 20000 in
theorem fno2_l1 (col : ByteArray) (v0 v1 : Int) (v2 : ByteArray) (ad : Option Addr) (m cap : Nat) (hm : ¬ m = 0) (hc : ¬ col = ⟨#[]⟩) (hv : validV (v0, v1, v2) = true) (s : Value) (n d B : Nat) (w : World) (hn : (n : Int) + 1 ≤ 60) (hd0 : (0 : Int) ≤ (d : Int)) (hd : (d : Int) ≤ 12) (hB : Boxed w B 3 (.int .i64 n)) :
    Calls Tryd.prog 51 #[agC 2 col ⟨#[]⟩ v0 v1 v2 (.slice ad m cap), .int .i64 d, .pointer (some ⟨B, 0, none⟩)] w (FmP w B (false, n + 1)) := by
  have hb0 := hB.cell
  have hb1 := hB.frozen
  have hb2 := hB.lt
  have hm2 : ¬ (m : Int) = 0 := by omega
  have hm3 : ((m : Int) == 0) = false := by simp; omega
  obtain ⟨p1, p2, p3⟩ := list_ne col hc
  have HV := fun W => valid_any (v0, v1, v2) W
  rw [hv] at HV
  go_enter Tryd.func51, Tryd.ntmps51
  go_upto_region 10 with fail
  obtain ⟨W, hW⟩ : ∃ W, ((w.setCell ⟨B, 0, none⟩ (.int .i64 ((n : Int) + 1))).alloc (.cells #[.int .i64 2, .string col, .string ⟨#[]⟩, .int .i64 v0, .int .i64 v1, .string v2, .slice ad m cap] 46)).alloc (.cells #[.int .i64 0, .int .i64 0, .string ⟨#[]⟩] 32) = W := ⟨_, rfl⟩
  obtain ⟨hL, hlt, f0, f1, f2, f3, f4, f5, f6, z0, z1, z2⟩ := fm_cells w B _ _ _ _ _ _ _ _ _ _ _ W hW
  rw [hW]
  clear hW
  have g0 := cell_regrown f0
  have g1 := cell_regrown f1
  have g2 := cell_regrown f2
  have g3 := cell_regrown f3
  have g4 := cell_regrown f4
  have g5 := cell_regrown f5
  have g6 := cell_regrown f6
  have y0 := cell_regrown z0
  have y1 := cell_regrown z1
  have y2 := cell_regrown z2
  refine wp_region_quiet_below (by kernel_rfl) (by kernel_rfl) ?_
  repeat (go_big_quiet_step (first | (go_at_call 21; with_reducible exact Calls.regrown_of (HV _))))
  refine wpQuiet_nil ?_
  intro _ hw9
  obtain ⟨⟨dq, osq⟩, hw9⟩ := hw9
  subst hw9
  have hL2 := hL.trans ((below_regrown W dq osq).mono hL.size)
  clear hL
  go_wp2
  go_ret
  exact FmP.end (y := (n : Int) + 1) hB (by omega) hL2
set_option maxRecDepth 20000 in
theorem fno2_l2 (col oth : ByteArray) (ad : Option Addr) (m cap : Nat) (hm : ¬ m = 0) (hc : ¬ col = ⟨#[]⟩) (ho : ¬ oth = ⟨#[]⟩) (s : Value) (n d B : Nat) (w : World) (hn : (n : Int) + 1 ≤ 60) (hd0 : (0 : Int) ≤ (d : Int)) (hd : (d : Int) ≤ 12) (hB : Boxed w B 3 (.int .i64 n)) :
    Calls Tryd.prog 51 #[agC 2 col oth 0 0 ⟨#[]⟩ (.slice ad m cap), .int .i64 d, .pointer (some ⟨B, 0, none⟩)] w (FmP w B (false, n + 1)) := by
  have hb0 := hB.cell
  have hb1 := hB.frozen
  have hb2 := hB.lt
  have hm2 : ¬ (m : Int) = 0 := by omega
  have hm3 : ((m : Int) == 0) = false := by simp; omega
  obtain ⟨p1, p2, p3⟩ := list_ne col hc
  obtain ⟨q1, q2, q3⟩ := list_ne oth ho
  have hvn : ∀ W : World, (binOp .neq 32 (.agg #[.int .i64 0, .int .i64 0, .string ⟨#[]⟩]) (.agg #[.int .i64 0, .int .i64 0, .string ⟨#[]⟩])).run Tryd.prog W = .ok (.bool false) W := fun W => val_ne zeroV zeroV W
  have HV := fun W => valid_any (0, 0, ⟨#[]⟩) W
  rw [show validV (0, 0, ⟨#[]⟩) = false from rfl] at HV
  go_enter Tryd.func51, Tryd.ntmps51
  go_upto_region 10 with fail
  obtain ⟨W, hW⟩ : ∃ W, ((w.setCell ⟨B, 0, none⟩ (.int .i64 ((n : Int) + 1))).alloc (.cells #[.int .i64 2, .string col, .string oth, .int .i64 0, .int .i64 0, .string ⟨#[]⟩, .slice ad m cap] 46)).alloc (.cells #[.int .i64 0, .int .i64 0, .string ⟨#[]⟩] 32) = W := ⟨_, rfl⟩
  obtain ⟨hL, hlt, f0, f1, f2, f3, f4, f5, f6, z0, z1, z2⟩ := fm_cells w B _ _ _ _ _ _ _ _ _ _ _ W hW
  rw [hW]
  clear hW
  have g0 := cell_regrown f0
  have g1 := cell_regrown f1
  have g2 := cell_regrown f2
  have g3 := cell_regrown f3
  have g4 := cell_regrown f4
  have g5 := cell_regrown f5
  have g6 := cell_regrown f6
  have y0 := cell_regrown z0
  have y1 := cell_regrown z1
  have y2 := cell_regrown z2
  refine wp_region_quiet_below (by kernel_rfl) (by kernel_rfl) ?_
  repeat (go_big_quiet_step (first | (go_at_call 21; with_reducible exact Calls.regrown_of (HV _))))
  refine wpQuiet_nil ?_
  intro _ hw9
  obtain ⟨⟨dq, osq⟩, hw9⟩ := hw9
  subst hw9
  have hL2 := hL.trans ((below_regrown W dq osq).mono hL.size)
  clear hL
  go_wp2
  go_ret
  exact FmP.end (y := (n : Int) + 1) hB (by omega) hL2
set_option maxRecDepth 20000 in
theorem fno2_k1 (col : ByteArray) (v0 v1 : Int) (v2 : ByteArray) (ad : Option Addr) (cap : Nat) (hc : ¬ col = ⟨#[]⟩) (hv : validV (v0, v1, v2) = true) (s : Value) (n d B : Nat) (w : World) (hn : (n : Int) + 1 ≤ 60) (hd0 : (0 : Int) ≤ (d : Int)) (hd : (d : Int) ≤ 12) (hB : Boxed w B 3 (.int .i64 n)) :
    Calls Tryd.prog 51 #[agC 2 col ⟨#[]⟩ v0 v1 v2 (.slice ad 0 cap), .int .i64 d, .pointer (some ⟨B, 0, none⟩)] w (FmP w B (true, n + 1)) := by
  have hb0 := hB.cell
  have hb1 := hB.frozen
  have hb2 := hB.lt
  obtain ⟨p1, p2, p3⟩ := list_ne col hc
  have HV := fun W => valid_any (v0, v1, v2) W
  rw [hv] at HV
  go_enter Tryd.func51, Tryd.ntmps51
  go_upto_region 10 with fail
  obtain ⟨W, hW⟩ : ∃ W, ((w.setCell ⟨B, 0, none⟩ (.int .i64 ((n : Int) + 1))).alloc (.cells #[.int .i64 2, .string col, .string ⟨#[]⟩, .int .i64 v0, .int .i64 v1, .string v2, .slice ad 0 cap] 46)).alloc (.cells #[.int .i64 0, .int .i64 0, .string ⟨#[]⟩] 32) = W := ⟨_, rfl⟩
  obtain ⟨hL, hlt, f0, f1, f2, f3, f4, f5, f6, z0, z1, z2⟩ := fm_cells w B _ _ _ _ _ _ _ _ _ _ _ W hW
  rw [hW]
  clear hW
  have g0 := cell_regrown f0
  have g1 := cell_regrown f1
  have g2 := cell_regrown f2
  have g3 := cell_regrown f3
  have g4 := cell_regrown f4
  have g5 := cell_regrown f5
  have g6 := cell_regrown f6
  have y0 := cell_regrown z0
  have y1 := cell_regrown z1
  have y2 := cell_regrown z2
  refine wp_region_quiet_below (by kernel_rfl) (by kernel_rfl) ?_
  repeat (go_big_quiet_step (first | (go_at_call 21; with_reducible exact Calls.regrown_of (HV _))))
  refine wpQuiet_nil ?_
  intro _ hw9
  obtain ⟨⟨dq, osq⟩, hw9⟩ := hw9
  subst hw9
  have hL2 := hL.trans ((below_regrown W dq osq).mono hL.size)
  clear hL
  go_wp2
  refine wp_loop_rounds 1 ?_
  rw [rounds_succ]
  go_wp2
  go_ret
  exact FmP.end (y := (n : Int) + 1) hB (by omega) hL2
set_option maxRecDepth 20000 in
theorem fno2_k2 (col oth : ByteArray) (ad : Option Addr) (cap : Nat) (hc : ¬ col = ⟨#[]⟩) (ho : ¬ oth = ⟨#[]⟩) (s : Value) (n d B : Nat) (w : World) (hn : (n : Int) + 1 ≤ 60) (hd0 : (0 : Int) ≤ (d : Int)) (hd : (d : Int) ≤ 12) (hB : Boxed w B 3 (.int .i64 n)) :
    Calls Tryd.prog 51 #[agC 2 col oth 0 0 ⟨#[]⟩ (.slice ad 0 cap), .int .i64 d, .pointer (some ⟨B, 0, none⟩)] w (FmP w B (true, n + 1)) := by
  have hb0 := hB.cell
  have hb1 := hB.frozen
  have hb2 := hB.lt
  obtain ⟨p1, p2, p3⟩ := list_ne col hc
  obtain ⟨q1, q2, q3⟩ := list_ne oth ho
  have hvn : ∀ W : World, (binOp .neq 32 (.agg #[.int .i64 0, .int .i64 0, .string ⟨#[]⟩]) (.agg #[.int .i64 0, .int .i64 0, .string ⟨#[]⟩])).run Tryd.prog W = .ok (.bool false) W := fun W => val_ne zeroV zeroV W
  have HV := fun W => valid_any (0, 0, ⟨#[]⟩) W
  rw [show validV (0, 0, ⟨#[]⟩) = false from rfl] at HV
  go_enter Tryd.func51, Tryd.ntmps51
  go_upto_region 10 with fail
  obtain ⟨W, hW⟩ : ∃ W, ((w.setCell ⟨B, 0, none⟩ (.int .i64 ((n : Int) + 1))).alloc (.cells #[.int .i64 2, .string col, .string oth, .int .i64 0, .int .i64 0, .string ⟨#[]⟩, .slice ad 0 cap] 46)).alloc (.cells #[.int .i64 0, .int .i64 0, .string ⟨#[]⟩] 32) = W := ⟨_, rfl⟩
  obtain ⟨hL, hlt, f0, f1, f2, f3, f4, f5, f6, z0, z1, z2⟩ := fm_cells w B _ _ _ _ _ _ _ _ _ _ _ W hW
  rw [hW]
  clear hW
  have g0 := cell_regrown f0
  have g1 := cell_regrown f1
  have g2 := cell_regrown f2
  have g3 := cell_regrown f3
  have g4 := cell_regrown f4
  have g5 := cell_regrown f5
  have g6 := cell_regrown f6
  have y0 := cell_regrown z0
  have y1 := cell_regrown z1
  have y2 := cell_regrown z2
  refine wp_region_quiet_below (by kernel_rfl) (by kernel_rfl) ?_
  repeat (go_big_quiet_step (first | (go_at_call 21; with_reducible exact Calls.regrown_of (HV _))))
  refine wpQuiet_nil ?_
  intro _ hw9
  obtain ⟨⟨dq, osq⟩, hw9⟩ := hw9
  subst hw9
  have hL2 := hL.trans ((below_regrown W dq osq).mono hL.size)
  clear hL
  go_wp2
  refine wp_loop_rounds 1 ?_
  rw [rounds_succ]
  go_wp2
  go_ret
  exact FmP.end (y := (n : Int) + 1) hB (by omega) hL2
set_option maxRecDepth 20000 in
theorem fno3_c (col oth : ByteArray) (v0 v1 : Int) (v2 : ByteArray) (hc : ¬ col = ⟨#[]⟩) (s : Value) (n d B : Nat) (w : World) (hn : (n : Int) + 1 ≤ 60) (hd0 : (0 : Int) ≤ (d : Int)) (hd : (d : Int) ≤ 12) (hB : Boxed w B 3 (.int .i64 n)) :
    Calls Tryd.prog 51 #[agC 3 col oth v0 v1 v2 s, .int .i64 d, .pointer (some ⟨B, 0, none⟩)] w (FmP w B (false, n + 1)) := by
  have hb0 := hB.cell
  have hb1 := hB.frozen
  have hb2 := hB.lt
  obtain ⟨p1, p2, p3⟩ := list_ne col hc
  go_enter Tryd.func51, Tryd.ntmps51
  go_upto_region 16 with fail
  obtain ⟨W, hW⟩ : ∃ W, ((w.setCell ⟨B, 0, none⟩ (.int .i64 ((n : Int) + 1))).alloc (.cells #[.int .i64 3, .string col, .string oth, .int .i64 v0, .int .i64 v1, .string v2, s] 46)).alloc (.cells #[.int .i64 0, .int .i64 0, .string ⟨#[]⟩] 32) = W := ⟨_, rfl⟩
  obtain ⟨hL, hlt, f0, f1, f2, f3, f4, f5, f6, z0, z1, z2⟩ := fm_cells w B _ _ _ _ _ _ _ _ _ _ _ W hW
  rw [hW]
  clear hW
  go_wp2
  go_ret
  exact FmP.end (y := (n : Int) + 1) hB (by omega) hL
set_option maxRecDepth 20000 in
theorem fno3_o (oth : ByteArray) (v0 v1 : Int) (v2 : ByteArray) (ho : ¬ oth = ⟨#[]⟩) (s : Value) (n d B : Nat) (w : World) (hn : (n : Int) + 1 ≤ 60) (hd0 : (0 : Int) ≤ (d : Int)) (hd : (d : Int) ≤ 12) (hB : Boxed w B 3 (.int .i64 n)) :
    Calls Tryd.prog 51 #[agC 3 ⟨#[]⟩ oth v0 v1 v2 s, .int .i64 d, .pointer (some ⟨B, 0, none⟩)] w (FmP w B (false, n + 1)) := by
  have hb0 := hB.cell
  have hb1 := hB.frozen
  have hb2 := hB.lt
  obtain ⟨q1, q2, q3⟩ := list_ne oth ho
  go_enter Tryd.func51, Tryd.ntmps51
  go_upto_region 16 with fail
  obtain ⟨W, hW⟩ : ∃ W, ((w.setCell ⟨B, 0, none⟩ (.int .i64 ((n : Int) + 1))).alloc (.cells #[.int .i64 3, .string ⟨#[]⟩, .string oth, .int .i64 v0, .int .i64 v1, .string v2, s] 46)).alloc (.cells #[.int .i64 0, .int .i64 0, .string ⟨#[]⟩] 32) = W := ⟨_, rfl⟩
  obtain ⟨hL, hlt, f0, f1, f2, f3, f4, f5, f6, z0, z1, z2⟩ := fm_cells w B _ _ _ _ _ _ _ _ _ _ _ W hW
  rw [hW]
  clear hW
  go_wp2
  go_ret
  exact FmP.end (y := (n : Int) + 1) hB (by omega) hL
set_option maxRecDepth 20000 in
theorem fno3_v (v0 v1 : Int) (v2 : ByteArray) (hz : ¬ ((v0, v1, v2) : V3) = zeroV) (s : Value) (n d B : Nat) (w : World) (hn : (n : Int) + 1 ≤ 60) (hd0 : (0 : Int) ≤ (d : Int)) (hd : (d : Int) ≤ 12) (hB : Boxed w B 3 (.int .i64 n)) :
    Calls Tryd.prog 51 #[agC 3 ⟨#[]⟩ ⟨#[]⟩ v0 v1 v2 s, .int .i64 d, .pointer (some ⟨B, 0, none⟩)] w (FmP w B (false, n + 1)) := by
  have hb0 := hB.cell
  have hb1 := hB.frozen
  have hb2 := hB.lt
  have hvn : ∀ W : World, (binOp .neq 32 (.agg #[.int .i64 v0, .int .i64 v1, .string v2]) (.agg #[.int .i64 0, .int .i64 0, .string ⟨#[]⟩])).run Tryd.prog W = .ok (.bool true) W := fun W => by have := val_ne (v0, v1, v2) zeroV W; rw [decide_eq_false hz] at this; exact this
  go_enter Tryd.func51, Tryd.ntmps51
  go_upto_region 16 with fail
  obtain ⟨W, hW⟩ : ∃ W, ((w.setCell ⟨B, 0, none⟩ (.int .i64 ((n : Int) + 1))).alloc (.cells #[.int .i64 3, .string ⟨#[]⟩, .string ⟨#[]⟩, .int .i64 v0, .int .i64 v1, .string v2, s] 46)).alloc (.cells #[.int .i64 0, .int .i64 0, .string ⟨#[]⟩] 32) = W := ⟨_, rfl⟩
  obtain ⟨hL, hlt, f0, f1, f2, f3, f4, f5, f6, z0, z1, z2⟩ := fm_cells w B _ _ _ _ _ _ _ _ _ _ _ W hW
  rw [hW]
  clear hW
  go_wp2
  go_ret
  exact FmP.end (y := (n : Int) + 1) hB (by omega) hL
set_option maxRecDepth 20000 in
theorem fno3_l (ad : Option Addr) (m cap : Nat) (hm : ¬ m = 0) (s : Value) (n d B : Nat) (w : World) (hn : (n : Int) + 1 ≤ 60) (hd0 : (0 : Int) ≤ (d : Int)) (hd : (d : Int) ≤ 12) (hB : Boxed w B 3 (.int .i64 n)) :
    Calls Tryd.prog 51 #[agC 3 ⟨#[]⟩ ⟨#[]⟩ 0 0 ⟨#[]⟩ (.slice ad m cap), .int .i64 d, .pointer (some ⟨B, 0, none⟩)] w (FmP w B (false, n + 1)) := by
  have hb0 := hB.cell
  have hb1 := hB.frozen
  have hb2 := hB.lt
  have hm2 : ¬ (m : Int) = 0 := by omega
  have hm3 : ((m : Int) == 0) = false := by simp; omega
  have hvn : ∀ W : World, (binOp .neq 32 (.agg #[.int .i64 0, .int .i64 0, .string ⟨#[]⟩]) (.agg #[.int .i64 0, .int .i64 0, .string ⟨#[]⟩])).run Tryd.prog W = .ok (.bool false) W := fun W => val_ne zeroV zeroV W
  go_enter Tryd.func51, Tryd.ntmps51
  go_upto_region 16 with fail
  obtain ⟨W, hW⟩ : ∃ W, ((w.setCell ⟨B, 0, none⟩ (.int .i64 ((n : Int) + 1))).alloc (.cells #[.int .i64 3, .string ⟨#[]⟩, .string ⟨#[]⟩, .int .i64 0, .int .i64 0, .string ⟨#[]⟩, .slice ad m cap] 46)).alloc (.cells #[.int .i64 0, .int .i64 0, .string ⟨#[]⟩] 32) = W := ⟨_, rfl⟩
  obtain ⟨hL, hlt, f0, f1, f2, f3, f4, f5, f6, z0, z1, z2⟩ := fm_cells w B _ _ _ _ _ _ _ _ _ _ _ W hW
  rw [hW]
  clear hW
  have hmm := @run_makeMap Tryd.prog
  have i1 := ins1 W
  have i2 := ins2 W
  have i3 := ins3 W
  have i4 := look3 W 3
  rw [show arity 3 = 0 from rfl] at i4
  have a0 := cell_alloc f0 M3
  have a4 := cell_alloc f4 M3
  have a6 := cell_alloc f6 M3
  have hL3 : Below (w.setCell ⟨B, 0, none⟩ (.int .i64 ((n : Int) + 1))).heap.size (w.setCell ⟨B, 0, none⟩ (.int .i64 ((n : Int) + 1))) (W.alloc M3) := hL.alloc hL.size _
  go_wp2
  go_ret
  exact FmP.end (y := (n : Int) + 1) hB (by omega) hL3
set_option maxRecDepth 20000 in
theorem fno3_k (ad : Option Addr) (cap : Nat) (s : Value) (n d B : Nat) (w : World) (hn : (n : Int) + 1 ≤ 60) (hd0 : (0 : Int) ≤ (d : Int)) (hd : (d : Int) ≤ 12) (hB : Boxed w B 3 (.int .i64 n)) :
    Calls Tryd.prog 51 #[agC 3 ⟨#[]⟩ ⟨#[]⟩ 0 0 ⟨#[]⟩ (.slice ad 0 cap), .int .i64 d, .pointer (some ⟨B, 0, none⟩)] w (FmP w B (true, n + 1)) := by
  have hb0 := hB.cell
  have hb1 := hB.frozen
  have hb2 := hB.lt
  have hvn : ∀ W : World, (binOp .neq 32 (.agg #[.int .i64 0, .int .i64 0, .string ⟨#[]⟩]) (.agg #[.int .i64 0, .int .i64 0, .string ⟨#[]⟩])).run Tryd.prog W = .ok (.bool false) W := fun W => val_ne zeroV zeroV W
  go_enter Tryd.func51, Tryd.ntmps51
  go_upto_region 16 with fail
  obtain ⟨W, hW⟩ : ∃ W, ((w.setCell ⟨B, 0, none⟩ (.int .i64 ((n : Int) + 1))).alloc (.cells #[.int .i64 3, .string ⟨#[]⟩, .string ⟨#[]⟩, .int .i64 0, .int .i64 0, .string ⟨#[]⟩, .slice ad 0 cap] 46)).alloc (.cells #[.int .i64 0, .int .i64 0, .string ⟨#[]⟩] 32) = W := ⟨_, rfl⟩
  obtain ⟨hL, hlt, f0, f1, f2, f3, f4, f5, f6, z0, z1, z2⟩ := fm_cells w B _ _ _ _ _ _ _ _ _ _ _ W hW
  rw [hW]
  clear hW
  have hmm := @run_makeMap Tryd.prog
  have i1 := ins1 W
  have i2 := ins2 W
  have i3 := ins3 W
  have i4 := look3 W 3
  rw [show arity 3 = 0 from rfl] at i4
  have a0 := cell_alloc f0 M3
  have a4 := cell_alloc f4 M3
  have a6 := cell_alloc f6 M3
  have hL3 : Below (w.setCell ⟨B, 0, none⟩ (.int .i64 ((n : Int) + 1))).heap.size (w.setCell ⟨B, 0, none⟩ (.int .i64 ((n : Int) + 1))) (W.alloc M3) := hL.alloc hL.size _
  go_wp2
  refine wp_loop_rounds 1 ?_
  rw [rounds_succ]
  go_wp2
  go_ret
  exact FmP.end (y := (n : Int) + 1) hB (by omega) hL3
set_option maxRecDepth 20000 in
theorem fno4_c (col oth : ByteArray) (v0 v1 : Int) (v2 : ByteArray) (hc : ¬ col = ⟨#[]⟩) (s : Value) (n d B : Nat) (w : World) (hn : (n : Int) + 1 ≤ 60) (hd0 : (0 : Int) ≤ (d : Int)) (hd : (d : Int) ≤ 12) (hB : Boxed w B 3 (.int .i64 n)) :
    Calls Tryd.prog 51 #[agC 4 col oth v0 v1 v2 s, .int .i64 d, .pointer (some ⟨B, 0, none⟩)] w (FmP w B (false, n + 1)) := by
  have hb0 := hB.cell
  have hb1 := hB.frozen
  have hb2 := hB.lt
  obtain ⟨p1, p2, p3⟩ := list_ne col hc
  go_enter Tryd.func51, Tryd.ntmps51
  go_upto_region 16 with fail
  obtain ⟨W, hW⟩ : ∃ W, ((w.setCell ⟨B, 0, none⟩ (.int .i64 ((n : Int) + 1))).alloc (.cells #[.int .i64 4, .string col, .string oth, .int .i64 v0, .int .i64 v1, .string v2, s] 46)).alloc (.cells #[.int .i64 0, .int .i64 0, .string ⟨#[]⟩] 32) = W := ⟨_, rfl⟩
  obtain ⟨hL, hlt, f0, f1, f2, f3, f4, f5, f6, z0, z1, z2⟩ := fm_cells w B _ _ _ _ _ _ _ _ _ _ _ W hW
  rw [hW]
  clear hW
  go_wp2
  go_ret
  exact FmP.end (y := (n : Int) + 1) hB (by omega) hL
set_option maxRecDepth 20000 in
theorem fno4_o (oth : ByteArray) (v0 v1 : Int) (v2 : ByteArray) (ho : ¬ oth = ⟨#[]⟩) (s : Value) (n d B : Nat) (w : World) (hn : (n : Int) + 1 ≤ 60) (hd0 : (0 : Int) ≤ (d : Int)) (hd : (d : Int) ≤ 12) (hB : Boxed w B 3 (.int .i64 n)) :
    Calls Tryd.prog 51 #[agC 4 ⟨#[]⟩ oth v0 v1 v2 s, .int .i64 d, .pointer (some ⟨B, 0, none⟩)] w (FmP w B (false, n + 1)) := by
  have hb0 := hB.cell
  have hb1 := hB.frozen
  have hb2 := hB.lt
  obtain ⟨q1, q2, q3⟩ := list_ne oth ho
  go_enter Tryd.func51, Tryd.ntmps51
  go_upto_region 16 with fail
  obtain ⟨W, hW⟩ : ∃ W, ((w.setCell ⟨B, 0, none⟩ (.int .i64 ((n : Int) + 1))).alloc (.cells #[.int .i64 4, .string ⟨#[]⟩, .string oth, .int .i64 v0, .int .i64 v1, .string v2, s] 46)).alloc (.cells #[.int .i64 0, .int .i64 0, .string ⟨#[]⟩] 32) = W := ⟨_, rfl⟩
  obtain ⟨hL, hlt, f0, f1, f2, f3, f4, f5, f6, z0, z1, z2⟩ := fm_cells w B _ _ _ _ _ _ _ _ _ _ _ W hW
  rw [hW]
  clear hW
  go_wp2
  go_ret
  exact FmP.end (y := (n : Int) + 1) hB (by omega) hL
set_option maxRecDepth 20000 in
theorem fno4_v (v0 v1 : Int) (v2 : ByteArray) (hz : ¬ ((v0, v1, v2) : V3) = zeroV) (s : Value) (n d B : Nat) (w : World) (hn : (n : Int) + 1 ≤ 60) (hd0 : (0 : Int) ≤ (d : Int)) (hd : (d : Int) ≤ 12) (hB : Boxed w B 3 (.int .i64 n)) :
    Calls Tryd.prog 51 #[agC 4 ⟨#[]⟩ ⟨#[]⟩ v0 v1 v2 s, .int .i64 d, .pointer (some ⟨B, 0, none⟩)] w (FmP w B (false, n + 1)) := by
  have hb0 := hB.cell
  have hb1 := hB.frozen
  have hb2 := hB.lt
  have hvn : ∀ W : World, (binOp .neq 32 (.agg #[.int .i64 v0, .int .i64 v1, .string v2]) (.agg #[.int .i64 0, .int .i64 0, .string ⟨#[]⟩])).run Tryd.prog W = .ok (.bool true) W := fun W => by have := val_ne (v0, v1, v2) zeroV W; rw [decide_eq_false hz] at this; exact this
  go_enter Tryd.func51, Tryd.ntmps51
  go_upto_region 16 with fail
  obtain ⟨W, hW⟩ : ∃ W, ((w.setCell ⟨B, 0, none⟩ (.int .i64 ((n : Int) + 1))).alloc (.cells #[.int .i64 4, .string ⟨#[]⟩, .string ⟨#[]⟩, .int .i64 v0, .int .i64 v1, .string v2, s] 46)).alloc (.cells #[.int .i64 0, .int .i64 0, .string ⟨#[]⟩] 32) = W := ⟨_, rfl⟩
  obtain ⟨hL, hlt, f0, f1, f2, f3, f4, f5, f6, z0, z1, z2⟩ := fm_cells w B _ _ _ _ _ _ _ _ _ _ _ W hW
  rw [hW]
  clear hW
  go_wp2
  go_ret
  exact FmP.end (y := (n : Int) + 1) hB (by omega) hL
set_option maxRecDepth 20000 in
theorem fno4_l (ad : Option Addr) (m cap : Nat) (hm : ¬ m = 1) (s : Value) (n d B : Nat) (w : World) (hn : (n : Int) + 1 ≤ 60) (hd0 : (0 : Int) ≤ (d : Int)) (hd : (d : Int) ≤ 12) (hB : Boxed w B 3 (.int .i64 n)) :
    Calls Tryd.prog 51 #[agC 4 ⟨#[]⟩ ⟨#[]⟩ 0 0 ⟨#[]⟩ (.slice ad m cap), .int .i64 d, .pointer (some ⟨B, 0, none⟩)] w (FmP w B (false, n + 1)) := by
  have hb0 := hB.cell
  have hb1 := hB.frozen
  have hb2 := hB.lt
  have hm2 : ¬ (m : Int) = 1 := by omega
  have hm3 : ((m : Int) == 1) = false := by simp; omega
  have hvn : ∀ W : World, (binOp .neq 32 (.agg #[.int .i64 0, .int .i64 0, .string ⟨#[]⟩]) (.agg #[.int .i64 0, .int .i64 0, .string ⟨#[]⟩])).run Tryd.prog W = .ok (.bool false) W := fun W => val_ne zeroV zeroV W
  go_enter Tryd.func51, Tryd.ntmps51
  go_upto_region 16 with fail
  obtain ⟨W, hW⟩ : ∃ W, ((w.setCell ⟨B, 0, none⟩ (.int .i64 ((n : Int) + 1))).alloc (.cells #[.int .i64 4, .string ⟨#[]⟩, .string ⟨#[]⟩, .int .i64 0, .int .i64 0, .string ⟨#[]⟩, .slice ad m cap] 46)).alloc (.cells #[.int .i64 0, .int .i64 0, .string ⟨#[]⟩] 32) = W := ⟨_, rfl⟩
  obtain ⟨hL, hlt, f0, f1, f2, f3, f4, f5, f6, z0, z1, z2⟩ := fm_cells w B _ _ _ _ _ _ _ _ _ _ _ W hW
  rw [hW]
  clear hW
  have hmm := @run_makeMap Tryd.prog
  have i1 := ins1 W
  have i2 := ins2 W
  have i3 := ins3 W
  have i4 := look3 W 4
  rw [show arity 4 = 1 from rfl] at i4
  have a0 := cell_alloc f0 M3
  have a4 := cell_alloc f4 M3
  have a6 := cell_alloc f6 M3
  have hL3 : Below (w.setCell ⟨B, 0, none⟩ (.int .i64 ((n : Int) + 1))).heap.size (w.setCell ⟨B, 0, none⟩ (.int .i64 ((n : Int) + 1))) (W.alloc M3) := hL.alloc hL.size _
  go_wp2
  go_ret
  exact FmP.end (y := (n : Int) + 1) hB (by omega) hL3
set_option maxRecDepth 20000 in
theorem fno5_c (col oth : ByteArray) (v0 v1 : Int) (v2 : ByteArray) (hc : ¬ col = ⟨#[]⟩) (s : Value) (n d B : Nat) (w : World) (hn : (n : Int) + 1 ≤ 60) (hd0 : (0 : Int) ≤ (d : Int)) (hd : (d : Int) ≤ 12) (hB : Boxed w B 3 (.int .i64 n)) :
    Calls Tryd.prog 51 #[agC 5 col oth v0 v1 v2 s, .int .i64 d, .pointer (some ⟨B, 0, none⟩)] w (FmP w B (false, n + 1)) := by
  have hb0 := hB.cell
  have hb1 := hB.frozen
  have hb2 := hB.lt
  obtain ⟨p1, p2, p3⟩ := list_ne col hc
  go_enter Tryd.func51, Tryd.ntmps51
  go_upto_region 16 with fail
  obtain ⟨W, hW⟩ : ∃ W, ((w.setCell ⟨B, 0, none⟩ (.int .i64 ((n : Int) + 1))).alloc (.cells #[.int .i64 5, .string col, .string oth, .int .i64 v0, .int .i64 v1, .string v2, s] 46)).alloc (.cells #[.int .i64 0, .int .i64 0, .string ⟨#[]⟩] 32) = W := ⟨_, rfl⟩
  obtain ⟨hL, hlt, f0, f1, f2, f3, f4, f5, f6, z0, z1, z2⟩ := fm_cells w B _ _ _ _ _ _ _ _ _ _ _ W hW
  rw [hW]
  clear hW
  go_wp2
  go_ret
  exact FmP.end (y := (n : Int) + 1) hB (by omega) hL
set_option maxRecDepth 20000 in
theorem fno5_o (oth : ByteArray) (v0 v1 : Int) (v2 : ByteArray) (ho : ¬ oth = ⟨#[]⟩) (s : Value) (n d B : Nat) (w : World) (hn : (n : Int) + 1 ≤ 60) (hd0 : (0 : Int) ≤ (d : Int)) (hd : (d : Int) ≤ 12) (hB : Boxed w B 3 (.int .i64 n)) :
    Calls Tryd.prog 51 #[agC 5 ⟨#[]⟩ oth v0 v1 v2 s, .int .i64 d, .pointer (some ⟨B, 0, none⟩)] w (FmP w B (false, n + 1)) := by
  have hb0 := hB.cell
  have hb1 := hB.frozen
  have hb2 := hB.lt
  obtain ⟨q1, q2, q3⟩ := list_ne oth ho
  go_enter Tryd.func51, Tryd.ntmps51
  go_upto_region 16 with fail
  obtain ⟨W, hW⟩ : ∃ W, ((w.setCell ⟨B, 0, none⟩ (.int .i64 ((n : Int) + 1))).alloc (.cells #[.int .i64 5, .string ⟨#[]⟩, .string oth, .int .i64 v0, .int .i64 v1, .string v2, s] 46)).alloc (.cells #[.int .i64 0, .int .i64 0, .string ⟨#[]⟩] 32) = W := ⟨_, rfl⟩
  obtain ⟨hL, hlt, f0, f1, f2, f3, f4, f5, f6, z0, z1, z2⟩ := fm_cells w B _ _ _ _ _ _ _ _ _ _ _ W hW
  rw [hW]
  clear hW
  go_wp2
  go_ret
  exact FmP.end (y := (n : Int) + 1) hB (by omega) hL
set_option maxRecDepth 20000 in
theorem fno5_v (v0 v1 : Int) (v2 : ByteArray) (hz : ¬ ((v0, v1, v2) : V3) = zeroV) (s : Value) (n d B : Nat) (w : World) (hn : (n : Int) + 1 ≤ 60) (hd0 : (0 : Int) ≤ (d : Int)) (hd : (d : Int) ≤ 12) (hB : Boxed w B 3 (.int .i64 n)) :
    Calls Tryd.prog 51 #[agC 5 ⟨#[]⟩ ⟨#[]⟩ v0 v1 v2 s, .int .i64 d, .pointer (some ⟨B, 0, none⟩)] w (FmP w B (false, n + 1)) := by
  have hb0 := hB.cell
  have hb1 := hB.frozen
  have hb2 := hB.lt
  have hvn : ∀ W : World, (binOp .neq 32 (.agg #[.int .i64 v0, .int .i64 v1, .string v2]) (.agg #[.int .i64 0, .int .i64 0, .string ⟨#[]⟩])).run Tryd.prog W = .ok (.bool true) W := fun W => by have := val_ne (v0, v1, v2) zeroV W; rw [decide_eq_false hz] at this; exact this
  go_enter Tryd.func51, Tryd.ntmps51
  go_upto_region 16 with fail
  obtain ⟨W, hW⟩ : ∃ W, ((w.setCell ⟨B, 0, none⟩ (.int .i64 ((n : Int) + 1))).alloc (.cells #[.int .i64 5, .string ⟨#[]⟩, .string ⟨#[]⟩, .int .i64 v0, .int .i64 v1, .string v2, s] 46)).alloc (.cells #[.int .i64 0, .int .i64 0, .string ⟨#[]⟩] 32) = W := ⟨_, rfl⟩
  obtain ⟨hL, hlt, f0, f1, f2, f3, f4, f5, f6, z0, z1, z2⟩ := fm_cells w B _ _ _ _ _ _ _ _ _ _ _ W hW
  rw [hW]
  clear hW
  go_wp2
  go_ret
  exact FmP.end (y := (n : Int) + 1) hB (by omega) hL
set_option maxRecDepth 20000 in
theorem fno5_l (ad : Option Addr) (m cap : Nat) (hm : ¬ m = 2) (s : Value) (n d B : Nat) (w : World) (hn : (n : Int) + 1 ≤ 60) (hd0 : (0 : Int) ≤ (d : Int)) (hd : (d : Int) ≤ 12) (hB : Boxed w B 3 (.int .i64 n)) :
    Calls Tryd.prog 51 #[agC 5 ⟨#[]⟩ ⟨#[]⟩ 0 0 ⟨#[]⟩ (.slice ad m cap), .int .i64 d, .pointer (some ⟨B, 0, none⟩)] w (FmP w B (false, n + 1)) := by
  have hb0 := hB.cell
  have hb1 := hB.frozen
  have hb2 := hB.lt
  have hm2 : ¬ (m : Int) = 2 := by omega
  have hm3 : ((m : Int) == 2) = false := by simp; omega
  have hvn : ∀ W : World, (binOp .neq 32 (.agg #[.int .i64 0, .int .i64 0, .string ⟨#[]⟩]) (.agg #[.int .i64 0, .int .i64 0, .string ⟨#[]⟩])).run Tryd.prog W = .ok (.bool false) W := fun W => val_ne zeroV zeroV W
  go_enter Tryd.func51, Tryd.ntmps51
  go_upto_region 16 with fail
  obtain ⟨W, hW⟩ : ∃ W, ((w.setCell ⟨B, 0, none⟩ (.int .i64 ((n : Int) + 1))).alloc (.cells #[.int .i64 5, .string ⟨#[]⟩, .string ⟨#[]⟩, .int .i64 0, .int .i64 0, .string ⟨#[]⟩, .slice ad m cap] 46)).alloc (.cells #[.int .i64 0, .int .i64 0, .string ⟨#[]⟩] 32) = W := ⟨_, rfl⟩
  obtain ⟨hL, hlt, f0, f1, f2, f3, f4, f5, f6, z0, z1, z2⟩ := fm_cells w B _ _ _ _ _ _ _ _ _ _ _ W hW
  rw [hW]
  clear hW
  have hmm := @run_makeMap Tryd.prog
  have i1 := ins1 W
  have i2 := ins2 W
  have i3 := ins3 W
  have i4 := look3 W 5
  rw [show arity 5 = 2 from rfl] at i4
  have a0 := cell_alloc f0 M3
  have a4 := cell_alloc f4 M3
  have a6 := cell_alloc f6 M3
  have hL3 : Below (w.setCell ⟨B, 0, none⟩ (.int .i64 ((n : Int) + 1))).heap.size (w.setCell ⟨B, 0, none⟩ (.int .i64 ((n : Int) + 1))) (W.alloc M3) := hL.alloc hL.size _
  go_wp2
  go_ret
  exact FmP.end (y := (n : Int) + 1) hB (by omega) hL3
set_option maxRecDepth 20000 in
theorem fno6_c (col oth : ByteArray) (v0 v1 : Int) (v2 : ByteArray) (hc : ¬ col = ⟨#[]⟩) (s : Value) (n d B : Nat) (w : World) (hn : (n : Int) + 1 ≤ 60) (hd0 : (0 : Int) ≤ (d : Int)) (hd : (d : Int) ≤ 12) (hB : Boxed w B 3 (.int .i64 n)) :
    Calls Tryd.prog 51 #[agC 6 col oth v0 v1 v2 s, .int .i64 d, .pointer (some ⟨B, 0, none⟩)] w (FmP w B (false, n + 1)) := by
  have hb0 := hB.cell
  have hb1 := hB.frozen
  have hb2 := hB.lt
  obtain ⟨p1, p2, p3⟩ := list_ne col hc
  go_enter Tryd.func51, Tryd.ntmps51
  go_upto_region 16 with fail
  obtain ⟨W, hW⟩ : ∃ W, ((w.setCell ⟨B, 0, none⟩ (.int .i64 ((n : Int) + 1))).alloc (.cells #[.int .i64 6, .string col, .string oth, .int .i64 v0, .int .i64 v1, .string v2, s] 46)).alloc (.cells #[.int .i64 0, .int .i64 0, .string ⟨#[]⟩] 32) = W := ⟨_, rfl⟩
  obtain ⟨hL, hlt, f0, f1, f2, f3, f4, f5, f6, z0, z1, z2⟩ := fm_cells w B _ _ _ _ _ _ _ _ _ _ _ W hW
  rw [hW]
  clear hW
  go_wp2
  go_ret
  exact FmP.end (y := (n : Int) + 1) hB (by omega) hL
set_option maxRecDepth 20000 in
theorem fno6_o (oth : ByteArray) (v0 v1 : Int) (v2 : ByteArray) (ho : ¬ oth = ⟨#[]⟩) (s : Value) (n d B : Nat) (w : World) (hn : (n : Int) + 1 ≤ 60) (hd0 : (0 : Int) ≤ (d : Int)) (hd : (d : Int) ≤ 12) (hB : Boxed w B 3 (.int .i64 n)) :
    Calls Tryd.prog 51 #[agC 6 ⟨#[]⟩ oth v0 v1 v2 s, .int .i64 d, .pointer (some ⟨B, 0, none⟩)] w (FmP w B (false, n + 1)) := by
  have hb0 := hB.cell
  have hb1 := hB.frozen
  have hb2 := hB.lt
  obtain ⟨q1, q2, q3⟩ := list_ne oth ho
  go_enter Tryd.func51, Tryd.ntmps51
  go_upto_region 16 with fail
  obtain ⟨W, hW⟩ : ∃ W, ((w.setCell ⟨B, 0, none⟩ (.int .i64 ((n : Int) + 1))).alloc (.cells #[.int .i64 6, .string ⟨#[]⟩, .string oth, .int .i64 v0, .int .i64 v1, .string v2, s] 46)).alloc (.cells #[.int .i64 0, .int .i64 0, .string ⟨#[]⟩] 32) = W := ⟨_, rfl⟩
  obtain ⟨hL, hlt, f0, f1, f2, f3, f4, f5, f6, z0, z1, z2⟩ := fm_cells w B _ _ _ _ _ _ _ _ _ _ _ W hW
  rw [hW]
  clear hW
  go_wp2
  go_ret
  exact FmP.end (y := (n : Int) + 1) hB (by omega) hL
set_option maxRecDepth 20000 in
theorem fno6_v (v0 v1 : Int) (v2 : ByteArray) (hz : ¬ ((v0, v1, v2) : V3) = zeroV) (s : Value) (n d B : Nat) (w : World) (hn : (n : Int) + 1 ≤ 60) (hd0 : (0 : Int) ≤ (d : Int)) (hd : (d : Int) ≤ 12) (hB : Boxed w B 3 (.int .i64 n)) :
    Calls Tryd.prog 51 #[agC 6 ⟨#[]⟩ ⟨#[]⟩ v0 v1 v2 s, .int .i64 d, .pointer (some ⟨B, 0, none⟩)] w (FmP w B (false, n + 1)) := by
  have hb0 := hB.cell
  have hb1 := hB.frozen
  have hb2 := hB.lt
  have hvn : ∀ W : World, (binOp .neq 32 (.agg #[.int .i64 v0, .int .i64 v1, .string v2]) (.agg #[.int .i64 0, .int .i64 0, .string ⟨#[]⟩])).run Tryd.prog W = .ok (.bool true) W := fun W => by have := val_ne (v0, v1, v2) zeroV W; rw [decide_eq_false hz] at this; exact this
  go_enter Tryd.func51, Tryd.ntmps51
  go_upto_region 16 with fail
  obtain ⟨W, hW⟩ : ∃ W, ((w.setCell ⟨B, 0, none⟩ (.int .i64 ((n : Int) + 1))).alloc (.cells #[.int .i64 6, .string ⟨#[]⟩, .string ⟨#[]⟩, .int .i64 v0, .int .i64 v1, .string v2, s] 46)).alloc (.cells #[.int .i64 0, .int .i64 0, .string ⟨#[]⟩] 32) = W := ⟨_, rfl⟩
  obtain ⟨hL, hlt, f0, f1, f2, f3, f4, f5, f6, z0, z1, z2⟩ := fm_cells w B _ _ _ _ _ _ _ _ _ _ _ W hW
  rw [hW]
  clear hW
  go_wp2
  go_ret
  exact FmP.end (y := (n : Int) + 1) hB (by omega) hL
set_option maxRecDepth 20000 in
theorem fno6_l (ad : Option Addr) (m cap : Nat) (hm : ¬ m = 2) (s : Value) (n d B : Nat) (w : World) (hn : (n : Int) + 1 ≤ 60) (hd0 : (0 : Int) ≤ (d : Int)) (hd : (d : Int) ≤ 12) (hB : Boxed w B 3 (.int .i64 n)) :
    Calls Tryd.prog 51 #[agC 6 ⟨#[]⟩ ⟨#[]⟩ 0 0 ⟨#[]⟩ (.slice ad m cap), .int .i64 d, .pointer (some ⟨B, 0, none⟩)] w (FmP w B (false, n + 1)) := by
  have hb0 := hB.cell
  have hb1 := hB.frozen
  have hb2 := hB.lt
  have hm2 : ¬ (m : Int) = 2 := by omega
  have hm3 : ((m : Int) == 2) = false := by simp; omega
  have hvn : ∀ W : World, (binOp .neq 32 (.agg #[.int .i64 0, .int .i64 0, .string ⟨#[]⟩]) (.agg #[.int .i64 0, .int .i64 0, .string ⟨#[]⟩])).run Tryd.prog W = .ok (.bool false) W := fun W => val_ne zeroV zeroV W
  go_enter Tryd.func51, Tryd.ntmps51
  go_upto_region 16 with fail
  obtain ⟨W, hW⟩ : ∃ W, ((w.setCell ⟨B, 0, none⟩ (.int .i64 ((n : Int) + 1))).alloc (.cells #[.int .i64 6, .string ⟨#[]⟩, .string ⟨#[]⟩, .int .i64 0, .int .i64 0, .string ⟨#[]⟩, .slice ad m cap] 46)).alloc (.cells #[.int .i64 0, .int .i64 0, .string ⟨#[]⟩] 32) = W := ⟨_, rfl⟩
  obtain ⟨hL, hlt, f0, f1, f2, f3, f4, f5, f6, z0, z1, z2⟩ := fm_cells w B _ _ _ _ _ _ _ _ _ _ _ W hW
  rw [hW]
  clear hW
  have hmm := @run_makeMap Tryd.prog
  have i1 := ins1 W
  have i2 := ins2 W
  have i3 := ins3 W
  have i4 := look3 W 6
  rw [show arity 6 = 2 from rfl] at i4
  have a0 := cell_alloc f0 M3
  have a4 := cell_alloc f4 M3
  have a6 := cell_alloc f6 M3
  have hL3 : Below (w.setCell ⟨B, 0, none⟩ (.int .i64 ((n : Int) + 1))).heap.size (w.setCell ⟨B, 0, none⟩ (.int .i64 ((n : Int) + 1))) (W.alloc M3) := hL.alloc hL.size _
  go_wp2
  go_ret
  exact FmP.end (y := (n : Int) + 1) hB (by omega) hL3
end Go.Proofs.YtgfppajbegcaeaaDoor.Va
