/-
  The walk of the law LexJoins.
-/
import Derived.Test.YtcpfbemmlmdcaaaDoorLxEs
set_option linter.unusedSimpArgs false
set_option linter.unusedVariables false
namespace Go.Proofs.YtcpfbemmlmdcaaaDoor.Lx
open Go.RowKit Go.ChangeShapes Go.WideShapes Go.Proofs.YtcpfbemmlmdcaaaDoor.Sl

theorem ab_size (a b : ByteArray) (ha : a.size ≤ 2000) (hb : b.size ≤ 2000) : (a ++ (⟨#[10]⟩ : ByteArray)).size ≤ 2001 ∧ (a ++ (⟨#[10]⟩ : ByteArray) ++ b).size ≤ 4001 := by
  have e : (a ++ (⟨#[10]⟩ : ByteArray)).size = a.size + 1 := by rw [ByteArray.size_append]; rfl
  exact ⟨by omega, by rw [ByteArray.size_append, e]; omega⟩

set_option maxRecDepth 100000 in
set_option maxHeartbeats 1000000 in
theorem joins_e (a b : ByteArray) (X Y Z : List (List Tok)) (p1 q1 n1 p2 q2 n2 p3 q3 n3 : Nat) (m : Int) (w : World) (hm : w.cell? ⟨0, 0, none⟩ = some (.int .i64 m)) (ha : a.size ≤ 2000) (hb : b.size ≤ 2000)
    (h1 : linesR a = (X, (p1, q1), n1)) (h2 : linesR b = (Y, (p2, q2), n2)) (h3 : linesR (a ++ ⟨#[10]⟩ ++ b) = (Z, (p3, q3), n3)) (hn : n1 ≠ 0) (hp : p3 = p1) (hq : q3 = q1) (hr : n3 = n1) :
    Calls Tryd.prog 9 #[.string a, .string b] w fun e w' => e = .returned (.bool true) ∧ Below w.heap.size w w' := by
  obtain ⟨z1, z2⟩ := ab_size a b ha hb
  subst hp; subst hq; subst hr
  have hq : ∀ wz : World, (binOp .eql 38 (.agg #[.int .i64 p3, .int .i64 q3]) (.agg #[.int .i64 p3, .int .i64 q3])).run Tryd.prog wz = .ok (.bool true) wz := fun wz => pos_eql _ _ wz
  have nb : ((n3 : Int) != 0) = true := by simp; omega
  have HZ1 := Lib.hid h1
  have HZ2 := Lib.hid h2
  have HZ3 := Lib.hid h3
  clear h1 h2 h3
  go_enter Tryd.func9, Tryd.ntmps9
  go_upto_region 6 with (first | (go_at_call 11; ((with_reducible refine (awake_any m _ hm).mono ?_); rintro e w1 ⟨rfl, hb⟩; (first | (replace hL := bstep hL hb) | (have hL := hb)); clear hb; replace hc := bcell hL)) | (go_at_call 20; with_reducible refine (lines_is a X p3 q3 n3 m _ (cell_kept hm (by go_grown)) HZ1.out).mono ?_; rintro e w1 ⟨v1, rfl, hv1, hb⟩; replace hL := bstep hL hb; clear hb))
  have p0 := pos_new w1 p3 q3 38
  have hl1 : w1.heap.size < (w1.alloc (.cells #[.int .i64 p3, .int .i64 q3] 38)).heap.size := by simp
  replace hv1 := hv1.below (w' := w1.alloc (.cells #[.int .i64 p3, .int .i64 q3] 38)) ((Below.refl _ _).alloc (Nat.le_refl _) _)
  replace hL := hL.alloc hL.size (.cells #[.int .i64 p3, .int .i64 q3] 38)
  obtain ⟨W1, hW1⟩ : ∃ W, W = w1.alloc (.cells #[.int .i64 p3, .int .i64 q3] 38) := ⟨_, rfl⟩
  rw [← hW1] at p0 hl1 hv1 hL ⊢
  clear hW1
  go_upto_region 7 with (go_at_call 20; with_reducible refine (lines_is b Y p2 q2 n2 m _ (cell_kept hm hL) HZ2.out).mono ?_; rintro e w2 ⟨v2, rfl, hv2, hb2⟩)
  have d0 := cell_kept p0.1 hb2
  have d1 := cell_kept p0.2.1 hb2
  have hl12 : w1.heap.size < w2.heap.size := block_of_cell d0
  replace hv1 := (hv1.below hb2).below (w' := w2.alloc (.cells #[.int .i64 p2, .int .i64 q2] 38)) ((Below.refl _ _).alloc (Nat.le_refl _) _)
  replace hv2 := hv2.below (w' := w2.alloc (.cells #[.int .i64 p2, .int .i64 q2] 38)) ((Below.refl _ _).alloc (Nat.le_refl _) _)
  replace hL := bstep hL hb2
  replace hL := hL.alloc hL.size (.cells #[.int .i64 p2, .int .i64 q2] 38)
  replace d0 := cell_kept d0 ((Below.refl _ _).alloc (Nat.le_refl _) (.cells #[.int .i64 p2, .int .i64 q2] 38))
  replace d1 := cell_kept d1 ((Below.refl _ _).alloc (Nat.le_refl _) (.cells #[.int .i64 p2, .int .i64 q2] 38))
  obtain ⟨W2, hW2⟩ : ∃ W, W = w2.alloc (.cells #[.int .i64 p2, .int .i64 q2] 38) := ⟨_, rfl⟩
  rw [← hW2] at d0 d1 hv1 hv2 hL ⊢
  clear hW2 p0 hb2 hl1 hl12
  go_upto_region 8 with (go_at_call 20; with_reducible refine (lines_is (a ++ ⟨#[10]⟩ ++ b) Z p3 q3 n3 m _ (cell_kept hm hL) HZ3.out).mono ?_; rintro e w3 ⟨v3, rfl, hv3, hb3⟩)
  replace d0 := cell_kept d0 hb3
  replace d1 := cell_kept d1 hb3
  have hl13 : w1.heap.size < w3.heap.size := block_of_cell d0
  have g0 := pos_new w3 p3 q3 38
  replace hv1 := (hv1.below hb3).below (w' := w3.alloc (.cells #[.int .i64 p3, .int .i64 q3] 38)) ((Below.refl _ _).alloc (Nat.le_refl _) _)
  replace hv2 := (hv2.below hb3).below (w' := w3.alloc (.cells #[.int .i64 p3, .int .i64 q3] 38)) ((Below.refl _ _).alloc (Nat.le_refl _) _)
  replace hv3 := hv3.below (w' := w3.alloc (.cells #[.int .i64 p3, .int .i64 q3] 38)) ((Below.refl _ _).alloc (Nat.le_refl _) _)
  replace hL := bstep hL hb3
  replace hL := hL.alloc hL.size (.cells #[.int .i64 p3, .int .i64 q3] 38)
  replace d0 := cell_kept d0 ((Below.refl _ _).alloc (Nat.le_refl _) (.cells #[.int .i64 p3, .int .i64 q3] 38))
  replace d1 := cell_kept d1 ((Below.refl _ _).alloc (Nat.le_refl _) (.cells #[.int .i64 p3, .int .i64 q3] 38))
  obtain ⟨W3, hW3⟩ : ∃ W, W = w3.alloc (.cells #[.int .i64 p3, .int .i64 q3] 38) := ⟨_, rfl⟩
  rw [← hW3] at d0 d1 g0 hv1 hv2 hv3 hL ⊢
  clear hW3 hb3
  obtain ⟨g0, g1, _, _⟩ := g0
  go_wp2
  go_ret
  exact ⟨rfl, hL⟩

set_option maxRecDepth 100000 in
set_option maxHeartbeats 1000000 in
theorem joins_f (a b : ByteArray) (X Y Z : List (List Tok)) (p1 q1 n1 p2 q2 n2 p3 q3 n3 : Nat) (m : Int) (w : World) (hm : w.cell? ⟨0, 0, none⟩ = some (.int .i64 m)) (ha : a.size ≤ 2000) (hb : b.size ≤ 2000)
    (h1 : linesR a = (X, (p1, q1), n1)) (h2 : linesR b = (Y, (p2, q2), n2)) (h3 : linesR (a ++ ⟨#[10]⟩ ++ b) = (Z, (p3, q3), n3)) (hn1 : n1 = 0) (hn : n2 ≠ 0) (hr : n3 = n2) :
    Calls Tryd.prog 9 #[.string a, .string b] w fun e w' => e = .returned (.bool true) ∧ Below w.heap.size w w' := by
  obtain ⟨z1, z2⟩ := ab_size a b ha hb
  subst hn1; subst hr
  have nb : ((n3 : Int) != 0) = true := by simp; omega
  have HZ1 := Lib.hid h1
  have HZ2 := Lib.hid h2
  have HZ3 := Lib.hid h3
  clear h1 h2 h3
  go_enter Tryd.func9, Tryd.ntmps9
  go_upto_region 6 with (first | (go_at_call 11; ((with_reducible refine (awake_any m _ hm).mono ?_); rintro e w1 ⟨rfl, hb⟩; (first | (replace hL := bstep hL hb) | (have hL := hb)); clear hb; replace hc := bcell hL)) | (go_at_call 20; with_reducible refine (lines_is a X p1 q1 0 m _ (cell_kept hm (by go_grown)) HZ1.out).mono ?_; rintro e w1 ⟨v1, rfl, hv1, hb⟩; replace hL := bstep hL hb; clear hb))
  have p0 := pos_new w1 p1 q1 38
  have hl1 : w1.heap.size < (w1.alloc (.cells #[.int .i64 p1, .int .i64 q1] 38)).heap.size := by simp
  replace hv1 := hv1.below (w' := w1.alloc (.cells #[.int .i64 p1, .int .i64 q1] 38)) ((Below.refl _ _).alloc (Nat.le_refl _) _)
  replace hL := hL.alloc hL.size (.cells #[.int .i64 p1, .int .i64 q1] 38)
  obtain ⟨W1, hW1⟩ : ∃ W, W = w1.alloc (.cells #[.int .i64 p1, .int .i64 q1] 38) := ⟨_, rfl⟩
  rw [← hW1] at p0 hl1 hv1 hL ⊢
  clear hW1
  go_upto_region 7 with (go_at_call 20; with_reducible refine (lines_is b Y p2 q2 n3 m _ (cell_kept hm hL) HZ2.out).mono ?_; rintro e w2 ⟨v2, rfl, hv2, hb2⟩)
  have d0 := cell_kept p0.1 hb2
  have d1 := cell_kept p0.2.1 hb2
  have hl12 : w1.heap.size < w2.heap.size := block_of_cell d0
  replace hv1 := (hv1.below hb2).below (w' := w2.alloc (.cells #[.int .i64 p2, .int .i64 q2] 38)) ((Below.refl _ _).alloc (Nat.le_refl _) _)
  replace hv2 := hv2.below (w' := w2.alloc (.cells #[.int .i64 p2, .int .i64 q2] 38)) ((Below.refl _ _).alloc (Nat.le_refl _) _)
  replace hL := bstep hL hb2
  replace hL := hL.alloc hL.size (.cells #[.int .i64 p2, .int .i64 q2] 38)
  replace d0 := cell_kept d0 ((Below.refl _ _).alloc (Nat.le_refl _) (.cells #[.int .i64 p2, .int .i64 q2] 38))
  replace d1 := cell_kept d1 ((Below.refl _ _).alloc (Nat.le_refl _) (.cells #[.int .i64 p2, .int .i64 q2] 38))
  obtain ⟨W2, hW2⟩ : ∃ W, W = w2.alloc (.cells #[.int .i64 p2, .int .i64 q2] 38) := ⟨_, rfl⟩
  rw [← hW2] at d0 d1 hv1 hv2 hL ⊢
  clear hW2 p0 hb2 hl1 hl12
  go_upto_region 8 with (go_at_call 20; with_reducible refine (lines_is (a ++ ⟨#[10]⟩ ++ b) Z p3 q3 n3 m _ (cell_kept hm hL) HZ3.out).mono ?_; rintro e w3 ⟨v3, rfl, hv3, hb3⟩)
  replace d0 := cell_kept d0 hb3
  replace d1 := cell_kept d1 hb3
  have hl13 : w1.heap.size < w3.heap.size := block_of_cell d0
  have g0 := pos_new w3 p3 q3 38
  replace hv1 := (hv1.below hb3).below (w' := w3.alloc (.cells #[.int .i64 p3, .int .i64 q3] 38)) ((Below.refl _ _).alloc (Nat.le_refl _) _)
  replace hv2 := (hv2.below hb3).below (w' := w3.alloc (.cells #[.int .i64 p3, .int .i64 q3] 38)) ((Below.refl _ _).alloc (Nat.le_refl _) _)
  replace hv3 := hv3.below (w' := w3.alloc (.cells #[.int .i64 p3, .int .i64 q3] 38)) ((Below.refl _ _).alloc (Nat.le_refl _) _)
  replace hL := bstep hL hb3
  replace hL := hL.alloc hL.size (.cells #[.int .i64 p3, .int .i64 q3] 38)
  replace d0 := cell_kept d0 ((Below.refl _ _).alloc (Nat.le_refl _) (.cells #[.int .i64 p3, .int .i64 q3] 38))
  replace d1 := cell_kept d1 ((Below.refl _ _).alloc (Nat.le_refl _) (.cells #[.int .i64 p3, .int .i64 q3] 38))
  obtain ⟨W3, hW3⟩ : ∃ W, W = w3.alloc (.cells #[.int .i64 p3, .int .i64 q3] 38) := ⟨_, rfl⟩
  rw [← hW3] at d0 d1 g0 hv1 hv2 hv3 hL ⊢
  clear hW3 hb3
  obtain ⟨g0, g1, _, _⟩ := g0
  go_wp2
  go_ret
  exact ⟨rfl, hL⟩
end Go.Proofs.YtcpfbemmlmdcaaaDoor.Lx
