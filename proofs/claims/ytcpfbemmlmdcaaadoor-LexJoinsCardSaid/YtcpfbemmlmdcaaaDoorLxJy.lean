/-
  The walk of the law LexJoins where the second text has no words; and the law's walk.
-/
import Derived.Test.YtcpfbemmlmdcaaaDoorLxJx
set_option linter.unusedSimpArgs false
set_option linter.unusedVariables false
namespace Go.Proofs.YtcpfbemmlmdcaaaDoor.Lx
open Go.RowKit Go.ChangeShapes Go.WideShapes Go.Proofs.YtcpfbemmlmdcaaaDoor.Sl

theorem own_shape {B : Nat} {w : World} {e : TypeId} {size : Nat} {v : Value} {n : Nat} {xs : List Value} (h : w.ownsRow B e size v n xs) : v = .slice none 0 0 ∨ ∃ g cap, v = .slice (some ⟨g, 0, none⟩) n cap ∧ n ≤ cap := by
  rcases h.2 with ⟨h1, _⟩ | ⟨g, cap, cur, h1, _, _, h2, _⟩
  · exact .inl h1
  · exact .inr ⟨g, cap, h1, by omega⟩

set_option maxRecDepth 100000 in
set_option maxHeartbeats 2000000 in
theorem joins_nil (a b : ByteArray) (X Y Z C : List (List Tok)) (p1 q1 p2 q2 p3 q3 p4 q4 : Nat) (m : Int) (w : World) (hm : w.cell? ⟨0, 0, none⟩ = some (.int .i64 m)) (ha : a.size ≤ 2000) (hb : b.size ≤ 2000)
    (h1 : linesR a = (X, (p1, q1), 0)) (h2 : linesR b = (Y, (p2, q2), 0)) (h3 : linesR (a ++ ⟨#[10]⟩ ++ b) = (Z, (p3, q3), 0)) (R : ByteArray) (h4 : linesR R = (C, (p4, q4), 0)) (hR : R = replT a) (hJ : txs Z = txs X ++ txs Y) (hC : txs C = txs X) (hY : Y = []) :
    Calls Tryd.prog 9 #[.string a, .string b] w fun e w' => e = .returned (.bool true) ∧ Below w.heap.size w w' := by
  obtain ⟨z1, z2⟩ := ab_size a b ha hb
  have sX := Lib.hid (show Short X by have := linesR_short a; rw [h1] at this; exact this)
  have sY := Lib.hid (show Short Y by have := linesR_short b; rw [h2] at this; exact this)
  have sZ := Lib.hid (show Short Z by have := linesR_short (a ++ ⟨#[10]⟩ ++ b); rw [h3] at this; exact this)
  have sC := Lib.hid (show Short C by have := linesR_short R; rw [h4] at this; exact this)
  have nX := Lib.hid (lines_ne a X _ h1)
  have nY := Lib.hid (lines_ne b Y _ h2)
  have nZ := Lib.hid (lines_ne _ Z _ h3)
  have nC := Lib.hid (lines_ne R C _ h4)
  have HJ := Lib.hid hJ
  have HCC := Lib.hid hC
  have HZ4 := Lib.hid h4
  have HRR := Lib.hid hR
  clear hJ hC h4 hR
  have HZ1 := Lib.hid h1
  have HZ2 := Lib.hid h2
  have HZ3 := Lib.hid h3
  clear h1 h2 h3
  go_enter Tryd.func9, Tryd.ntmps9
  go_upto_region 6 with (first | (go_at_call 11; ((with_reducible refine (awake_any m _ hm).mono ?_); rintro e w1 ⟨rfl, hb⟩; (first | (replace hL := bstep hL hb) | (have hL := hb)); clear hb; replace hc := bcell hL)) | (go_at_call 20; with_reducible refine (lines_is a X p1 q1 0 m _ (cell_kept hm (by go_grown)) HZ1.out).mono ?_; rintro e w1 ⟨v1, rfl, hv1, hb⟩; replace hL := bstep hL hb; clear hb))
  have p0 := pos_new w1 p1 q1 38
  have hl1 : w1.heap.size < (w1.alloc (.cells #[.int .i64 p1, .int .i64 q1] 38)).heap.size := by simp
  replace hv1 := hv1.below (w' := w1.alloc (.cells #[.int .i64 p1, .int .i64 q1] 38)) ((Below.refl _ _).alloc (Nat.le_refl _) _)
  replace hL := hL.alloc hL.size (.cells #[.int .i64 p1, .int .i64 q1] 38)
  obtain ⟨W1, hW1⟩ : ∃ W, W = w1.alloc (.cells #[.int .i64 p1, .int .i64 q1] 38) := ⟨_, rfl⟩
  rw [← hW1] at p0 hl1 hv1 hL ⊢
  clear hW1
  go_upto_region 7 with (go_at_call 20; with_reducible refine (lines_is b Y p2 q2 0 m _ (cell_kept hm hL) HZ2.out).mono ?_; rintro e w2 ⟨v2, rfl, hv2, hb2⟩)
  have d0 := cell_kept p0.1 hb2
  have d1 := cell_kept p0.2.1 hb2
  have hl12 : w1.heap.size < w2.heap.size := block_of_cell d0
  replace hv1 := (hv1.below hb2).below (w' := w2.alloc (.cells #[.int .i64 p2, .int .i64 q2] 38)) ((Below.refl _ _).alloc (Nat.le_refl _) _)
  replace hv2 := hv2.below (w' := w2.alloc (.cells #[.int .i64 p2, .int .i64 q2] 38)) ((Below.refl _ _).alloc (Nat.le_refl _) _)
  replace hL := bstep hL hb2
  replace hL := hL.alloc hL.size (.cells #[.int .i64 p2, .int .i64 q2] 38)
  replace d0 := cell_kept d0 ((Below.refl _ _).alloc (Nat.le_refl _) (.cells #[.int .i64 p2, .int .i64 q2] 38))
  replace d1 := cell_kept d1 ((Below.refl _ _).alloc (Nat.le_refl _) (.cells #[.int .i64 p2, .int .i64 q2] 38))
  obtain ⟨W2, hW2⟩ : ∃ W, W = w2.alloc (.cells #[.int .i64 p2, .int .i64 q2] 38) := ⟨_, rfl⟩
  rw [← hW2] at d0 d1 hv1 hv2 hL ⊢
  clear hW2 p0 hb2 hl1 hl12
  go_upto_region 8 with (go_at_call 20; with_reducible refine (lines_is (a ++ ⟨#[10]⟩ ++ b) Z p3 q3 0 m _ (cell_kept hm hL) HZ3.out).mono ?_; rintro e w3 ⟨v3, rfl, hv3, hb3⟩)
  replace d0 := cell_kept d0 hb3
  replace d1 := cell_kept d1 hb3
  have hl13 : w1.heap.size < w3.heap.size := block_of_cell d0
  have g0 := pos_new w3 p3 q3 38
  replace hv1 := (hv1.below hb3).below (w' := w3.alloc (.cells #[.int .i64 p3, .int .i64 q3] 38)) ((Below.refl _ _).alloc (Nat.le_refl _) _)
  replace hv2 := (hv2.below hb3).below (w' := w3.alloc (.cells #[.int .i64 p3, .int .i64 q3] 38)) ((Below.refl _ _).alloc (Nat.le_refl _) _)
  replace hv3 := hv3.below (w' := w3.alloc (.cells #[.int .i64 p3, .int .i64 q3] 38)) ((Below.refl _ _).alloc (Nat.le_refl _) _)
  replace hL := bstep hL hb3
  replace hL := hL.alloc hL.size (.cells #[.int .i64 p3, .int .i64 q3] 38)
  replace d0 := cell_kept d0 ((Below.refl _ _).alloc (Nat.le_refl _) (.cells #[.int .i64 p3, .int .i64 q3] 38))
  replace d1 := cell_kept d1 ((Below.refl _ _).alloc (Nat.le_refl _) (.cells #[.int .i64 p3, .int .i64 q3] 38))
  obtain ⟨W3, hW3⟩ : ∃ W, W = w3.alloc (.cells #[.int .i64 p3, .int .i64 q3] 38) := ⟨_, rfl⟩
  rw [← hW3] at d0 d1 g0 hv1 hv2 hv3 hL ⊢
  clear hW3 hb3
  obtain ⟨g0, g1, _, _⟩ := g0
  go_wp2_with fail
  with_reducible refine (texts_any Z v3 _ sZ.out nZ.out hv3).mono ?_
  rintro e x1 ⟨u3, rfl, hu3, hb1⟩
  replace hv1 := hv1.below hb1
  replace hv2 := hv2.below hb1
  replace hL := bstep hL hb1
  have HU3 := Lib.hid hu3.ts
  have hv1a := Lib.hid hv1
  have hLa := Lib.hid hL
  clear hu3 hb1 hv3 d0 d1 g0 g1
  go_wp2_with fail
  with_reducible refine (texts_any X v1 _ sX.out nX.out hv1).mono ?_
  rintro e x2 ⟨u1, rfl, hu1, hb1⟩
  replace hv1 := hv1.below hb1
  replace hv2 := hv2.below hb1
  replace hL := bstep hL hb1
  have hB1 := hb1
  have hx12 := hb1.size
  clear hb1
  go_wp2_with fail
  with_reducible refine (texts_any Y v2 _ sY.out nY.out hv2).mono ?_
  rintro e x3 ⟨u2, rfl, hu2, hb1⟩
  replace hv1 := hv1.below hb1
  replace hL := bstep hL hb1
  have hu1b := hu1.below hb1
  have hx23 := hb1.size
  replace hB1 := hB1.trans (hb1.mono hx12)
  have T3 := HU3.out.below hB1
  have hv4 := hv1
  have hL4 := hL
  have TJ : Ts x3 u1 (txs Z) := by
    rw [HJ.out, hY]
    show Ts x3 u1 (txs X ++ [])
    rw [List.append_nil]
    exact hu1b.ts
  have z4 : ((⟨#[32]⟩ : ByteArray) ++ a).size ≤ 2001 := by rw [ByteArray.size_append]; show 1 + a.size ≤ 2001; omega
  obtain ⟨hs1, o1, _⟩ := hu1b
  obtain ⟨hs2, r1, _⟩ := hu2
  rw [show (txs Y).length = 0 by rw [hY]; rfl] at r1
  clear hu1 hb1 hB1 hv1 hL hv1a hLa HU3 hY
  rcases own_shape o1 with hu | ⟨g1, cap1, hu, hc1⟩
  · have hu' : u1 = .slice none 0 0 := hu
    clear hu o1
    subst hu'
    rcases own_shape r1 with hw | ⟨g2, cap2, hw, hc3⟩
    · clear r1
      subst hw
      go_wp2_with fail
      with_reducible refine (eqS1_any (txs Z) u3 _ _ (txs_short Z sZ.out) T3 TJ).mono ?_
      rintro e x5 ⟨rfl, hb5⟩
      have hL5 := bstep hL4 hb5
      have hv5 := hv4.below hb5
      clear T3 TJ
      go_wp2_with fail
      with_reducible refine (repl_is a R m _ HRR.out ha (cell_kept hm hL5)).mono ?_
      rintro e x6 ⟨rfl, hb6⟩
      have hL6 := bstep hL5 hb6
      have hv6 := hv5.below hb6
      go_wp2_with fail
      with_reducible refine (lines_is R C p4 q4 0 m _ (cell_kept hm hL6) HZ4.out).mono ?_
      rintro e x7 ⟨v4, rfl, hvc, hb7⟩
      have hL7 := bstep hL6 hb7
      have hv7 := (hv6.below hb7).below (w' := x7.alloc (.cells #[.int .i64 p4, .int .i64 q4] 38)) ((Below.refl _ _).alloc (Nat.le_refl _) _)
      have hvc2 := hvc.below (w' := x7.alloc (.cells #[.int .i64 p4, .int .i64 q4] 38)) ((Below.refl _ _).alloc (Nat.le_refl _) _)
      have hL8 := hL7.alloc hL7.size (.cells #[.int .i64 p4, .int .i64 q4] 38)
      clear hb5 hb6 hb7 hvc hv5 hv6 hv4
      go_wp2_with fail
      with_reducible refine (texts_any C v4 _ sC.out nC.out hvc2).mono ?_
      rintro e x9 ⟨u4, rfl, hu4, hb9⟩
      have hL9 := bstep hL8 hb9
      have hv9 := hv7.below hb9
      have T4 := hu4.ts
      clear hu4 hb9 hv7 hvc2
      go_wp2_with fail
      with_reducible refine (texts_any X v1 _ sX.out nX.out hv9).mono ?_
      rintro e y1 ⟨u5, rfl, hu5, hb1⟩
      have hL10 := bstep hL9 hb1
      have T5 := hu5.ts
      replace T4 := T4.below hb1
      rw [← HCC.out] at T5
      clear hu5 hb1
      go_wp2_with fail
      with_reducible refine (eqS2_any (txs C) u4 _ _ (txs_short C sC.out) T4 T5).mono ?_
      rintro e y2 ⟨rfl, hb2⟩
      have hL11 := bstep hL10 hb2
      go_wp2
      go_ret
      exact ⟨rfl, hL11⟩
    · clear r1
      subst hw
      go_wp2_with fail
      with_reducible refine (eqS1_any (txs Z) u3 _ _ (txs_short Z sZ.out) T3 TJ).mono ?_
      rintro e x5 ⟨rfl, hb5⟩
      have hL5 := bstep hL4 hb5
      have hv5 := hv4.below hb5
      clear T3 TJ
      go_wp2_with fail
      with_reducible refine (repl_is a R m _ HRR.out ha (cell_kept hm hL5)).mono ?_
      rintro e x6 ⟨rfl, hb6⟩
      have hL6 := bstep hL5 hb6
      have hv6 := hv5.below hb6
      go_wp2_with fail
      with_reducible refine (lines_is R C p4 q4 0 m _ (cell_kept hm hL6) HZ4.out).mono ?_
      rintro e x7 ⟨v4, rfl, hvc, hb7⟩
      have hL7 := bstep hL6 hb7
      have hv7 := (hv6.below hb7).below (w' := x7.alloc (.cells #[.int .i64 p4, .int .i64 q4] 38)) ((Below.refl _ _).alloc (Nat.le_refl _) _)
      have hvc2 := hvc.below (w' := x7.alloc (.cells #[.int .i64 p4, .int .i64 q4] 38)) ((Below.refl _ _).alloc (Nat.le_refl _) _)
      have hL8 := hL7.alloc hL7.size (.cells #[.int .i64 p4, .int .i64 q4] 38)
      clear hb5 hb6 hb7 hvc hv5 hv6 hv4
      go_wp2_with fail
      with_reducible refine (texts_any C v4 _ sC.out nC.out hvc2).mono ?_
      rintro e x9 ⟨u4, rfl, hu4, hb9⟩
      have hL9 := bstep hL8 hb9
      have hv9 := hv7.below hb9
      have T4 := hu4.ts
      clear hu4 hb9 hv7 hvc2
      go_wp2_with fail
      with_reducible refine (texts_any X v1 _ sX.out nX.out hv9).mono ?_
      rintro e y1 ⟨u5, rfl, hu5, hb1⟩
      have hL10 := bstep hL9 hb1
      have T5 := hu5.ts
      replace T4 := T4.below hb1
      rw [← HCC.out] at T5
      clear hu5 hb1
      go_wp2_with fail
      with_reducible refine (eqS2_any (txs C) u4 _ _ (txs_short C sC.out) T4 T5).mono ?_
      rintro e y2 ⟨rfl, hb2⟩
      have hL11 := bstep hL10 hb2
      go_wp2
      go_ret
      exact ⟨rfl, hL11⟩
  · obtain ⟨nx, hnx⟩ : ∃ n, n = (txs X).length := ⟨_, rfl⟩
    rw [← hnx] at hu hc1
    have hc2 : nx + 0 ≤ cap1 := hc1
    clear o1 hnx
    subst hu
    rcases own_shape r1 with hw | ⟨g2, cap2, hw, hc3⟩
    · clear r1
      subst hw
      go_wp2_with fail
      with_reducible refine (eqS1_any (txs Z) u3 _ _ (txs_short Z sZ.out) T3 TJ).mono ?_
      rintro e x5 ⟨rfl, hb5⟩
      have hL5 := bstep hL4 hb5
      have hv5 := hv4.below hb5
      clear T3 TJ
      go_wp2_with fail
      with_reducible refine (repl_is a R m _ HRR.out ha (cell_kept hm hL5)).mono ?_
      rintro e x6 ⟨rfl, hb6⟩
      have hL6 := bstep hL5 hb6
      have hv6 := hv5.below hb6
      go_wp2_with fail
      with_reducible refine (lines_is R C p4 q4 0 m _ (cell_kept hm hL6) HZ4.out).mono ?_
      rintro e x7 ⟨v4, rfl, hvc, hb7⟩
      have hL7 := bstep hL6 hb7
      have hv7 := (hv6.below hb7).below (w' := x7.alloc (.cells #[.int .i64 p4, .int .i64 q4] 38)) ((Below.refl _ _).alloc (Nat.le_refl _) _)
      have hvc2 := hvc.below (w' := x7.alloc (.cells #[.int .i64 p4, .int .i64 q4] 38)) ((Below.refl _ _).alloc (Nat.le_refl _) _)
      have hL8 := hL7.alloc hL7.size (.cells #[.int .i64 p4, .int .i64 q4] 38)
      clear hb5 hb6 hb7 hvc hv5 hv6 hv4
      go_wp2_with fail
      with_reducible refine (texts_any C v4 _ sC.out nC.out hvc2).mono ?_
      rintro e x9 ⟨u4, rfl, hu4, hb9⟩
      have hL9 := bstep hL8 hb9
      have hv9 := hv7.below hb9
      have T4 := hu4.ts
      clear hu4 hb9 hv7 hvc2
      go_wp2_with fail
      with_reducible refine (texts_any X v1 _ sX.out nX.out hv9).mono ?_
      rintro e y1 ⟨u5, rfl, hu5, hb1⟩
      have hL10 := bstep hL9 hb1
      have T5 := hu5.ts
      replace T4 := T4.below hb1
      rw [← HCC.out] at T5
      clear hu5 hb1
      go_wp2_with fail
      with_reducible refine (eqS2_any (txs C) u4 _ _ (txs_short C sC.out) T4 T5).mono ?_
      rintro e y2 ⟨rfl, hb2⟩
      have hL11 := bstep hL10 hb2
      go_wp2
      go_ret
      exact ⟨rfl, hL11⟩
    · clear r1
      subst hw
      go_wp2_with fail
      with_reducible refine (eqS1_any (txs Z) u3 _ _ (txs_short Z sZ.out) T3 TJ).mono ?_
      rintro e x5 ⟨rfl, hb5⟩
      have hL5 := bstep hL4 hb5
      have hv5 := hv4.below hb5
      clear T3 TJ
      go_wp2_with fail
      with_reducible refine (repl_is a R m _ HRR.out ha (cell_kept hm hL5)).mono ?_
      rintro e x6 ⟨rfl, hb6⟩
      have hL6 := bstep hL5 hb6
      have hv6 := hv5.below hb6
      go_wp2_with fail
      with_reducible refine (lines_is R C p4 q4 0 m _ (cell_kept hm hL6) HZ4.out).mono ?_
      rintro e x7 ⟨v4, rfl, hvc, hb7⟩
      have hL7 := bstep hL6 hb7
      have hv7 := (hv6.below hb7).below (w' := x7.alloc (.cells #[.int .i64 p4, .int .i64 q4] 38)) ((Below.refl _ _).alloc (Nat.le_refl _) _)
      have hvc2 := hvc.below (w' := x7.alloc (.cells #[.int .i64 p4, .int .i64 q4] 38)) ((Below.refl _ _).alloc (Nat.le_refl _) _)
      have hL8 := hL7.alloc hL7.size (.cells #[.int .i64 p4, .int .i64 q4] 38)
      clear hb5 hb6 hb7 hvc hv5 hv6 hv4
      go_wp2_with fail
      with_reducible refine (texts_any C v4 _ sC.out nC.out hvc2).mono ?_
      rintro e x9 ⟨u4, rfl, hu4, hb9⟩
      have hL9 := bstep hL8 hb9
      have hv9 := hv7.below hb9
      have T4 := hu4.ts
      clear hu4 hb9 hv7 hvc2
      go_wp2_with fail
      with_reducible refine (texts_any X v1 _ sX.out nX.out hv9).mono ?_
      rintro e y1 ⟨u5, rfl, hu5, hb1⟩
      have hL10 := bstep hL9 hb1
      have T5 := hu5.ts
      replace T4 := T4.below hb1
      rw [← HCC.out] at T5
      clear hu5 hb1
      go_wp2_with fail
      with_reducible refine (eqS2_any (txs C) u4 _ _ (txs_short C sC.out) T4 T5).mono ?_
      rintro e y2 ⟨rfl, hb2⟩
      have hL11 := bstep hL10 hb2
      go_wp2
      go_ret
      exact ⟨rfl, hL11⟩

theorem ab_list (a b : ByteArray) : (a ++ (⟨#[10]⟩ : ByteArray) ++ b).data.toList = a.data.toList ++ 10 :: b.data.toList := by simp
set_option maxRecDepth 20000 in
theorem lexJoins_walk (a b : ByteArray) (m : Int) (w : World) (hm : w.cell? ⟨0, 0, none⟩ = some (.int .i64 m)) :
    Calls Tryd.prog 9 #[.string a, .string b] w fun e w' => e = .returned (.bool true) ∧ Below w.heap.size w w' := by
  by_cases ha : 2000 < a.size
  · go_enter Tryd.func9, Tryd.ntmps9
    go_wp2_with (go_at_call 11; ((with_reducible refine (awake_any m _ hm).mono ?_); rintro e w1 ⟨rfl, hb⟩; (first | (replace hL := bstep hL hb) | (have hL := hb)); clear hb; replace hc := bcell hL))
    go_ret
    exact ⟨rfl, (by have hB := bstep (w := w) (by go_grown) hL; have hs := hB.size; go_grown)⟩
  by_cases hb : 2000 < b.size
  · go_enter Tryd.func9, Tryd.ntmps9
    go_wp2_with (go_at_call 11; ((with_reducible refine (awake_any m _ hm).mono ?_); rintro e w1 ⟨rfl, hb⟩; (first | (replace hL := bstep hL hb) | (have hL := hb)); clear hb; replace hc := bcell hL))
    go_ret
    exact ⟨rfl, (by have hB := bstep (w := w) (by go_grown) hL; have hs := hB.size; go_grown)⟩
  have ha2 : a.size ≤ 2000 := by omega
  have hb2 : b.size ≤ 2000 := by omega
  obtain ⟨X, p1, q1, n1, h1⟩ : ∃ X p q n, linesR a = (X, (p, q), n) := ⟨_, _, _, _, rfl⟩
  obtain ⟨Y, p2, q2, n2, h2⟩ : ∃ X p q n, linesR b = (X, (p, q), n) := ⟨_, _, _, _, rfl⟩
  obtain ⟨j1, j2, j3⟩ := joins a b ha2 hb2 _ (ab_list a b)
  by_cases hn1 : n1 = 0
  · subst hn1
    by_cases hn2 : n2 = 0
    · subst hn2
      obtain ⟨Z, h3, hJ⟩ := j3 X _ Y _ h1 h2
      obtain ⟨_, C, h4, hC⟩ := blanks a (replT a) ha2 (replT_list a) X _ h1
      by_cases hY : Y = []
      · exact joins_nil a b X Y Z C p1 q1 p2 q2 0 0 0 0 m w hm ha2 hb2 h1 h2 h3 (replT a) h4 rfl hJ hC hY
      · exact joins_ok a b X Y Z C p1 q1 p2 q2 0 0 0 0 m w hm ha2 hb2 h1 h2 h3 (replT a) h4 rfl hJ hC hY
    · obtain ⟨⟨p3, q3⟩, h3⟩ := j2 X _ Y _ n2 h1 h2 hn2
      exact joins_f a b X Y [] p1 q1 0 p2 q2 n2 p3 q3 n2 m w hm ha2 hb2 h1 h2 h3 rfl hn2 rfl
  · have h3 := j1 X _ n1 h1 hn1
    exact joins_e a b X Y [] p1 q1 n1 p2 q2 n2 p1 q1 n1 m w hm ha2 hb2 h1 h2 h3 hn1 rfl rfl rfl
end Go.Proofs.YtcpfbemmlmdcaaaDoor.Lx
