/-
  Networks: the signs of a relation (layer 46): sign, example, signs.
-/
import Derived.Test.YtoadihclmnjjnaaNxN
set_option linter.unusedSimpArgs false
set_option linter.unusedVariables false
set_option maxRecDepth 100000
namespace Go.Proofs.Ytoadihclmnjjnaa.Nw
open Go Go.RowKit Go.ChangeShapes Go.WideShapes Go.Proofs.Ytoadihclmnjjnaa.Sl Go.Proofs.Ytoadihclmnjjnaa.Al Go.Lib
open Go.Proofs.Ytoadihclmnjjnaa.Iv (validB ofZ sgn)

theorem sign_any (n : Int) (w : World) (h1 : -100 ≤ n) (h2 : n ≤ 100) : Calls Try.prog 95 #[.int .i64 n] w fun e w' => e = .returned (.int .i64 (sgn n 0)) ∧ Below w.heap.size w w' := by
  unfold sgn
  by_cases a : n < 0
  · have e1 : max (-1) n = -1 := by omega
    rw [if_pos a]
    go_enter Try.func95, Try.ntmps95
    go_wp2
    go_ret
    exact ⟨by simp <;> omega, Below.refl _ _⟩
  · rw [if_neg a]
    by_cases b : 0 < n
    · rw [if_pos b]
      go_enter Try.func95, Try.ntmps95
      go_wp2
      go_ret
      exact ⟨by simp <;> omega, Below.refl _ _⟩
    · obtain rfl : n = 0 := by omega
      rw [if_neg b]
      go_enter Try.func95, Try.ntmps95
      go_wp2
      go_ret
      exact ⟨rfl, Below.refl _ _⟩
def exX : List Int := [0, 10, 12, 20, 25]
def exY : List Int := [5, 10, 17, 20, 28]
def hitB (r : Nat) (x y : Int) : Bool := decide (x < y) && decide (ofZ x y 10 20 = (r : Int))
def exP (r : Nat) : Int × Int := ((exX.flatMap fun x => exY.map fun y => (x, y)).find? fun p => hitB r p.1 p.2).getD (0, 0)
/-- The sign of an end of the second interval less one of the first. -/
def sgT (r k : Nat) : Int := if k = 0 then sgn (10 - (exP r).1) 0 else if k = 1 then sgn (20 - (exP r).1) 0 else if k = 2 then sgn (10 - (exP r).2) 0 else sgn (20 - (exP r).2) 0
theorem sgT_ok : ∀ r < 13, (exX.all fun x => exY.all fun y => !hitB r x y || (sgn (10 - x) 0 == sgT r 0 && sgn (20 - x) 0 == sgT r 1 && sgn (10 - y) 0 == sgT r 2 && sgn (20 - y) 0 == sgT r 3)) = true := of_decide_eq_true (by kernel_rfl)
theorem hit_ex : ∀ r < 13, (exX.any fun x => exY.any fun y => hitB r x y) = true := of_decide_eq_true (by kernel_rfl)
theorem ex_bd : ∀ x ∈ exX, 0 ≤ x ∧ x ≤ 25 := by decide
theorem ey_bd : ∀ x ∈ exY, 0 ≤ x ∧ x ≤ 28 := by decide
def ExO (r : Nat) (x y : Int) : Prop := x ∈ exX ∧ y ∈ exY ∧ hitB r x y = true
theorem sgT_of {r : Nat} (hr : r < 13) {x y : Int} (h : ExO r x y) : sgn (10 - x) 0 = sgT r 0 ∧ sgn (20 - x) 0 = sgT r 1 ∧ sgn (10 - y) 0 = sgT r 2 ∧ sgn (20 - y) 0 = sgT r 3 := by
  have h1 := (List.all_eq_true.1 ((List.all_eq_true.1 (sgT_ok r hr)) x h.1)) y h.2.1
  rw [h.2.2] at h1
  simpa [and_assoc] using h1
theorem four2 (w : World) (A B C D : Obj) : ∀ W, W = (((w.alloc A).alloc B).alloc C).alloc D →
    Below w.heap.size w W ∧ W.heap[w.heap.size]? = some A ∧ W.heap[w.heap.size + 1]? = some B ∧ W.heap[w.heap.size + 1 + 1]? = some C ∧ W.heap[w.heap.size + 1 + 1 + 1]? = some D := by
  rintro W rfl
  refine ⟨((((Below.refl _ _).alloc (Nat.le_refl _) _).alloc (by simp) _).alloc (by simp; omega) _).alloc (by simp; omega) _, ?_, ?_, ?_, ?_⟩
  · rw [Below.heap_alloc _ _ _ (by simp <;> omega), Below.heap_alloc _ _ _ (by simp <;> omega), Below.heap_alloc _ _ _ (by simp)]
    exact heap_alloc_new w A
  · rw [Below.heap_alloc _ _ _ (by simp <;> omega), Below.heap_alloc _ _ _ (by simp)]
    have := heap_alloc_new (w.alloc A) B
    simpa using this
  · rw [Below.heap_alloc _ _ _ (by simp)]
    have := heap_alloc_new ((w.alloc A).alloc B) C
    simpa using this
  · have := heap_alloc_new (((w.alloc A).alloc B).alloc C) D
    simpa using this
theorem two_set {w : World} {b : Nat} {t : TypeId} {x y u v : Value} (h : w.heap[b]? = some (.cells #[u, v] t (0, 0))) : ((w.setCell ⟨b, 0, none⟩ x).setCell ⟨b, 1, none⟩ y).heap[b]? = some (.cells #[x, y] t (0, 0)) := by
  rw [heap_setCell_same _ _ _ _ _ _ (heap_setCell_same _ _ _ _ _ _ h)]; rfl
set_option maxHeartbeats 8000000 in
theorem example_any (r : Nat) (hr : r < 13) (w : World) : Calls Try.prog 94 #[.int .i64 (r : Int)] w fun e w' => ∃ x y : Int, e = .returned (.tuple #[.agg #[.int .i64 x, .int .i64 y], .agg #[.int .i64 10, .int .i64 20]]) ∧ ExO r x y ∧ Below w.heap.size w w' := by
  have HEX := Lib.hid (hit_ex r hr)
  have r0 : (0 : Int) ≤ (r : Int) := by omega
  go_enter Try.func94, Try.ntmps94
  go_wp2
  obtain ⟨W0, hW0⟩ : ∃ W0, W0 = (((w.alloc (.cells #[.int .i64 0, .int .i64 0] 48)).alloc (.cells #[.int .i64 0, .int .i64 0] 48)).alloc (.cells #[.int .i64 10, .int .i64 20] 48)).alloc (.cells #[.int .i64 0, .int .i64 10, .int .i64 12, .int .i64 20, .int .i64 25] 3) := ⟨_, rfl⟩
  obtain ⟨hL0, h2, h3, h4, hX⟩ := four2 w _ _ _ _ W0 hW0
  rw [← hW0]
  obtain ⟨B2, hB2⟩ : ∃ b, b = w.heap.size := ⟨_, rfl⟩
  obtain ⟨B3, hB3⟩ : ∃ b, b = w.heap.size + 1 := ⟨_, rfl⟩
  obtain ⟨B4, hB4⟩ : ∃ b, b = w.heap.size + 1 + 1 := ⟨_, rfl⟩
  obtain ⟨BX, hBX⟩ : ∃ b, b = w.heap.size + 1 + 1 + 1 := ⟨_, rfl⟩
  rw [← hBX] at hX ⊢
  rw [← hB4] at h4 ⊢
  rw [← hB3] at h3 ⊢
  rw [← hB2] at h2 ⊢
  have HORD := Lib.hid (show w.heap.size = B2 ∧ B3 = B2 + 1 ∧ B4 = B2 + 2 ∧ BX = B2 + 3 from ⟨hB2.symm, by omega, by omega, by omega⟩)
  have HL0 := Lib.hid hL0
  have HH := Lib.hid (show W0.heap[B2]? = _ ∧ W0.heap[B3]? = _ ∧ W0.heap[B4]? = _ ∧ W0.heap[BX]? = _ from ⟨h2, h3, h4, hX⟩)
  clear hW0 hB2 hB3 hB4 hBX h2 h3 h4 hX hL0
  go_loopw [13] (fun pv wr => ∃ p : Nat, p ≤ 5 ∧ pv = .int .i64 (p : Int) ∧ Hid (((exX.take p).any fun x => exY.any fun y => hitB r x y) = false) ∧ Below W0.heap.size W0 wr) (fun pv _ => 5 - (RowKit.intOf pv).toNat)
  case atStart => exact ⟨0, by omega, rfl, Lib.hid rfl, Below.refl _ _⟩
  case round =>
    obtain ⟨p, hp, rfl, hno, hL⟩ := hrel
    by_cases hp5 : p < 5
    · obtain ⟨x, hx⟩ : ∃ x, exX[p]? = some x := ⟨_, List.getElem?_eq_getElem hp5⟩
      have hxm := List.mem_of_getElem? hx
      obtain ⟨xb0, xb1⟩ := ex_bd x hxm
      have cX : wr.cell? ⟨BX, p, none⟩ = some (.int .i64 x) := by
        refine Go.Proofs.Ytoadihclmnjjnaa.Sl.cell_kept ?_ hL
        rw [cell_of_row _ _ p _ _ _ HH.out.2.2.2]
        have : (exX.map fun x => Value.int .i64 x)[p]? = some (.int .i64 x) := by rw [List.getElem?_map, hx]; rfl
        simpa [exX] using this
      have p0 : (0 : Int) ≤ (p : Int) := by omega
      have p1 : (p : Int) < 5 := by omega
      have HXM := Lib.hid hxm
      have HX := Lib.hid hx
      clear hx hxm
      go_wp2
      obtain ⟨W1, hW1⟩ : ∃ W1, W1 = wr.alloc (.cells #[.int .i64 5, .int .i64 10, .int .i64 17, .int .i64 20, .int .i64 28] 3) := ⟨_, rfl⟩
      have hY : W1.heap[wr.heap.size]? = some (.cells #[.int .i64 5, .int .i64 10, .int .i64 17, .int .i64 20, .int .i64 28] 3 (0, 0)) := by rw [hW1]; exact heap_alloc_new wr _
      have hL1 : Below W0.heap.size W0 W1 := by rw [hW1]; exact hL.alloc hL.size _
      rw [← hW1]
      clear hW1 cX hL
      generalize wr.heap.size = BY at *
      have HY := Lib.hid hY
      have HL1 := Lib.hid hL1
      clear hY hL1
      go_loopw [19] (fun sv wr => ∃ s : Nat, s ≤ 5 ∧ sv = .int .i64 (s : Int) ∧ Hid (((exY.take s).any fun y => hitB r x y) = false) ∧ Below W1.heap.size W1 wr) (fun sv _ => 5 - (RowKit.intOf sv).toNat)
      case atStart => exact ⟨0, by omega, rfl, Lib.hid rfl, Below.refl _ _⟩
      case round =>
        obtain ⟨s, hs, rfl, hno2, hL2⟩ := hrel
        by_cases hs5 : s < 5
        · obtain ⟨y, hy⟩ : ∃ y, exY[s]? = some y := ⟨_, List.getElem?_eq_getElem hs5⟩
          have hym := List.mem_of_getElem? hy
          obtain ⟨yb0, yb1⟩ := ey_bd y hym
          have cY : wr.cell? ⟨BY, s, none⟩ = some (.int .i64 y) := by
            refine Go.Proofs.Ytoadihclmnjjnaa.Sl.cell_kept ?_ hL2
            rw [cell_of_row _ _ s _ _ _ HY.out]
            have : (exY.map fun x => Value.int .i64 x)[s]? = some (.int .i64 y) := by rw [List.getElem?_map, hy]; rfl
            simpa [exY] using this
          have hL3 := bstep HL1.out hL2
          obtain ⟨h2, h3, h4, _⟩ := HH.out
          have h2 := (hL3.block B2 (Array.getElem?_eq_some_iff.1 h2).1).trans h2
          have h3 := (hL3.block B3 (Array.getElem?_eq_some_iff.1 h3).1).trans h3
          have h4 := (hL3.block B4 (Array.getElem?_eq_some_iff.1 h4).1).trans h4
          have d0 : wr.cell? ⟨B4, 0, none⟩ = some (.int .i64 10) := by rw [cell_of_row _ _ 0 _ _ _ h4]; rfl
          have d1 : wr.cell? ⟨B4, 1, none⟩ = some (.int .i64 20) := by rw [cell_of_row _ _ 1 _ _ _ h4]; rfl
          have lb4 := block_of_cell d0
          have s0 : (0 : Int) ≤ (s : Int) := by omega
          have s1 : (s : Int) < 5 := by omega
          have HN2 : Hid (hitB r x y = false → ((exY.take (s + 1)).any fun y => hitB r x y) = false) := Lib.hid (fun h => by
            rw [List.take_add_one, hy, List.any_append, hno2.out]; simp [h])
          have HYM := Lib.hid hym
          have HOF := fun W => Iv.of_any x y 10 20 W
          have HR := Lib.hid (show wr.heap[B2]? = _ ∧ wr.heap[B3]? = _ from ⟨h2, h3⟩)
          have HL3 := Lib.hid hL3
          clear hy hym h2 h3 h4 hno2 hL3
          by_cases hxy : x < y
          · obtain ⟨z, hz⟩ : ∃ z, z = ofZ x y 10 20 := ⟨_, rfl⟩
            rw [← hz] at HOF
            have gxy : decide (x < y) = true := by simpa using hxy
            by_cases hzr : z = (r : Int)
            · have hhit : hitB r x y = true := by unfold hitB; rw [← hz]; simp [hxy, hzr]
              have HH2 := Lib.hid (show ExO r x y from ⟨HXM.out, HYM.out, hhit⟩)
              rw [hzr] at HOF
              clear hz hzr hhit hxy HN2
              go_upto_region 10 with (go_at_call 31; (with_reducible refine (HOF _).mono ?_); rintro e w4 ⟨rfl, hb4⟩)
              have hbw : Below wr.heap.size wr w4 := bstep ((Below.refl _ _).alloc (Nat.le_refl _) _) hb4
              have a0 := Go.Proofs.Ytoadihclmnjjnaa.Sl.cell_kept (show (wr.alloc (.cells #[.int .i64 x, .int .i64 y] 48)).cell? ⟨wr.heap.size, 0, none⟩ = some (.int .i64 x) by rw [cell_of_row _ _ 0 _ _ _ (heap_alloc_new wr _)]; rfl) hb4
              have a1 := Go.Proofs.Ytoadihclmnjjnaa.Sl.cell_kept (show (wr.alloc (.cells #[.int .i64 x, .int .i64 y] 48)).cell? ⟨wr.heap.size, 1, none⟩ = some (.int .i64 y) by rw [cell_of_row _ _ 1 _ _ _ (heap_alloc_new wr _)]; rfl) hb4
              replace d0 := Go.Proofs.Ytoadihclmnjjnaa.Sl.cell_kept d0 hbw
              replace d1 := Go.Proofs.Ytoadihclmnjjnaa.Sl.cell_kept d1 hbw
              have lB2 : B2 < wr.heap.size := (Array.getElem?_eq_some_iff.1 HR.out.1).1
              have lB3 : B3 < wr.heap.size := (Array.getElem?_eq_some_iff.1 HR.out.2).1
              have r2 := (hbw.block B2 lB2).trans HR.out.1
              have r3 := (hbw.block B3 lB3).trans HR.out.2
              have c20 : w4.cell? ⟨B2, 0, none⟩ = some (.int .i64 0) := by rw [cell_of_row _ _ 0 _ _ _ r2]; rfl
              have c21 : w4.cell? ⟨B2, 1, none⟩ = some (.int .i64 0) := by rw [cell_of_row _ _ 1 _ _ _ r2]; rfl
              have c30 : w4.cell? ⟨B3, 0, none⟩ = some (.int .i64 0) := by rw [cell_of_row _ _ 0 _ _ _ r3]; rfl
              have c31 : w4.cell? ⟨B3, 1, none⟩ = some (.int .i64 0) := by rw [cell_of_row _ _ 1 _ _ _ r3]; rfl
              have f20 := frozen_of_row w4 B2 0 _ _ r2
              have f21 := frozen_of_row w4 B2 1 _ _ r2
              have f30 := frozen_of_row w4 B3 0 _ _ r3
              have f31 := frozen_of_row w4 B3 1 _ _ r3
              have nA2 : ¬ wr.heap.size = B2 := by omega
              have nA3 : ¬ wr.heap.size = B3 := by omega
              have n42 : ¬ B4 = B2 := by have := HORD.out; omega
              have n43 : ¬ B4 = B3 := by have := HORD.out; omega
              have n32 : ¬ B3 = B2 := by have := HORD.out; omega
              have n23 : ¬ B2 = B3 := by omega
              have HBW := Lib.hid (bstep HL0.out (bstep HL3.out hbw))
              have HR4 := Lib.hid (show w4.heap[B2]? = _ ∧ w4.heap[B3]? = _ from ⟨r2, r3⟩)
              clear hbw hb4 r2 r3 cY lB2 lB3 lb4 hL2
              generalize wr.heap.size = BA at *
              have HSS := Lib.hid (fun V (h : Md (fun k => k = B2 ∨ k = B3) w4 V) => (show V.cell? ⟨BA, 0, none⟩ = some (.int .i64 x) ∧ V.cell? ⟨BA, 1, none⟩ = some (.int .i64 y) ∧ V.cell? ⟨B4, 0, none⟩ = some (.int .i64 10) ∧ V.cell? ⟨B4, 1, none⟩ = some (.int .i64 20) from ⟨h.kept a0 (by omega), h.kept a1 (by omega), h.kept d0 (by omega), h.kept d1 (by omega)⟩))
              have hS0 := HSS.out _ (Md.refl _ w4).drew
              refine wp_region_held_drew (S := fun V => V.cell? ⟨BA, 0, none⟩ = some (.int .i64 x) ∧ V.cell? ⟨BA, 1, none⟩ = some (.int .i64 y) ∧ V.cell? ⟨B4, 0, none⟩ = some (.int .i64 10) ∧ V.cell? ⟨B4, 1, none⟩ = some (.int .i64 20)) (by kernel_rfl) hS0 (fun hHeld => ?_)
              (refine wpAnyH_take (i := 0) (v := ?tkv0_1) rfl (by kernel_rfl) (by kernel_rfl) (by kernel_rfl) (fun _ _ _ h => h) (Or.inl ⟨by rfl, ?tky0_1⟩) (by assumption) ?tkr0_1; case tky0_1 => (intro V hV; (try dsimp only at hV); go_simp; (try with_reducible rfl)); try simp only [Act.put, List.setIfInBounds_toArray, List.set_cons_zero, List.set_cons_succ])
              (refine wpAnyH_take (i := 1) (v := ?tkv1_2) rfl (by kernel_rfl) (by kernel_rfl) (by kernel_rfl) (fun _ _ _ h => h) (Or.inl ⟨by rfl, ?tky1_2⟩) (by assumption) ?tkr1_2; case tky1_2 => (intro V hV; (try dsimp only at hV); go_simp; (try with_reducible rfl)); try simp only [Act.put, List.setIfInBounds_toArray, List.set_cons_zero, List.set_cons_succ])
              (refine wpAnyH_ready (rs := [2]) (by kernel_rfl) (by simp) ?_; refine AllReadyH.cons rfl (fun K hK => ?_) AllReadyH.nil; (try go_simp); refine hK.out _ _ (by (exact HSS.out _ (Md.drew (Md.setCell (Md.setCell (Md.refl _ _) 0 (Or.inl (Or.inl rfl)) _) 1 (Or.inl (Or.inl rfl)) _)))) (fun hHeld => ?_); clear hK K; try simp only [Act.put, List.setIfInBounds_toArray, List.set_cons_zero, List.set_cons_succ])
              (refine wpAnyH_ready (rs := [3]) (by kernel_rfl) (by simp) ?_; refine AllReadyH.cons rfl (fun K hK => ?_) AllReadyH.nil; (try go_simp); refine hK.out _ _ (by (exact HSS.out _ (Md.drew (Md.setCell (Md.setCell (Md.setCell (Md.setCell (Md.refl _ _) 0 (Or.inl (Or.inl rfl)) _) 1 (Or.inl (Or.inl rfl)) _) 0 (Or.inl (Or.inr rfl)) _) 1 (Or.inl (Or.inr rfl)) _)))) (fun hHeld => ?_); clear hK K; try simp only [Act.put, List.setIfInBounds_toArray, List.set_cons_zero, List.set_cons_succ])
              refine wpAnyH_done (by kernel_rfl) ?_ _
              have hMW : Md (fun k => k = B2 ∨ k = B3) w4 ((((w4.setCell ⟨B2, 0, none⟩ (.int .i64 x)).setCell ⟨B2, 1, none⟩ (.int .i64 y)).setCell ⟨B3, 0, none⟩ (.int .i64 10)).setCell ⟨B3, 1, none⟩ (.int .i64 20)).drew := Md.drew (Md.setCell (Md.setCell (Md.setCell (Md.setCell (Md.refl _ _) 0 (Or.inl (Or.inl rfl)) _) 1 (Or.inl (Or.inl rfl)) _) 0 (Or.inl (Or.inr rfl)) _) 1 (Or.inl (Or.inr rfl)) _)
              have q2 : ((((w4.setCell ⟨B2, 0, none⟩ (.int .i64 x)).setCell ⟨B2, 1, none⟩ (.int .i64 y)).setCell ⟨B3, 0, none⟩ (.int .i64 10)).setCell ⟨B3, 1, none⟩ (.int .i64 20)).drew.heap[B2]? = some (.cells #[.int .i64 x, .int .i64 y] 48 (0, 0)) := by
                rw [heap_drew, heap_setCell_other _ _ _ _ n23, heap_setCell_other _ _ _ _ n23]
                exact two_set HR4.out.1
              have q3 : ((((w4.setCell ⟨B2, 0, none⟩ (.int .i64 x)).setCell ⟨B2, 1, none⟩ (.int .i64 y)).setCell ⟨B3, 0, none⟩ (.int .i64 10)).setCell ⟨B3, 1, none⟩ (.int .i64 20)).drew.heap[B3]? = some (.cells #[.int .i64 10, .int .i64 20] 48 (0, 0)) := by
                rw [heap_drew]
                exact two_set (by rw [heap_setCell_other _ _ _ _ n32, heap_setCell_other _ _ _ _ n32]; exact HR4.out.2)
              generalize ((((w4.setCell ⟨B2, 0, none⟩ (.int .i64 x)).setCell ⟨B2, 1, none⟩ (.int .i64 y)).setCell ⟨B3, 0, none⟩ (.int .i64 10)).setCell ⟨B3, 1, none⟩ (.int .i64 20)).drew = W9 at *
              have e20 : W9.cell? ⟨B2, 0, none⟩ = some (.int .i64 x) := by rw [cell_of_row _ _ 0 _ _ _ q2]; rfl
              have e21 : W9.cell? ⟨B2, 1, none⟩ = some (.int .i64 y) := by rw [cell_of_row _ _ 1 _ _ _ q2]; rfl
              have e30 : W9.cell? ⟨B3, 0, none⟩ = some (.int .i64 10) := by rw [cell_of_row _ _ 0 _ _ _ q3]; rfl
              have e31 : W9.cell? ⟨B3, 1, none⟩ = some (.int .i64 20) := by rw [cell_of_row _ _ 1 _ _ _ q3]; rfl
              have hBB : Below w.heap.size w W9 := HBW.out.trans (hMW.below HBW.out.size (by have h9 := HORD.out; rintro k (rfl | rfl) <;> omega))
              have HBB := Lib.hid hBB
              clear hMW q2 q3 c20 c21 c30 c31 f20 f21 f30 f31 a0 a1 d0 d1 hS0 hHeld hBB
              go_wp2
              refine bodyPost_ret (by simp [results, Try.results94, go_sem, e20, e21, e30, e31]; try rfl) rfl ?_
              exact ⟨x, y, rfl, HH2.out, HBB.out⟩
            · have hhit : hitB r x y = false := by unfold hitB; rw [← hz]; simp [hxy, hzr]
              have HNX := Lib.hid (HN2.out hhit)
              have gz : (z == (r : Int)) = false := by simpa using hzr
              clear hz hzr hhit hxy HN2
              go_wp2_with (go_at_call 31; (with_reducible refine (HOF _).mono ?_); rintro e w4 ⟨rfl, hb4⟩; have hL5 : Below W1.heap.size W1 w4 := bstep (bstep hL2 ((Below.refl _ _).alloc (Nat.le_refl _) _)) hb4)
              go_roundw
              case rel => exact ⟨s + 1, by omega, by go_num, HNX, hL5⟩
              case measure => simp [RowKit.intOf]; omega
          · have hhit : hitB r x y = false := by unfold hitB; simp [hxy]
            have HNX := Lib.hid (HN2.out hhit)
            have gxy : decide (x < y) = false := by simpa using hxy
            clear hhit hxy HN2
            go_wp2
            go_roundw
            case rel => exact ⟨s + 1, by omega, by go_num, HNX, bstep hL2 ((Below.refl _ _).alloc (Nat.le_refl _) _)⟩
            case measure => simp [RowKit.intOf]; omega
        · obtain rfl : 5 = s := by omega
          have HNX : Hid (((exX.take (p + 1)).any fun x => exY.any fun y => hitB r x y) = false) := Lib.hid (by
            rw [List.take_add_one, HX.out, List.any_append, hno.out]
            have := hno2.out
            rw [List.take_of_length_le (by decide)] at this
            simpa using this)
          go_wp2
          go_roundw
          case rel => exact ⟨p + 1, by omega, by go_num, HNX, bstep HL1.out hL2⟩
          case measure => simp [RowKit.intOf]; omega
    · obtain rfl : 5 = p := by omega
      have h1 := hno.out
      rw [List.take_of_length_le (by decide), HEX.out] at h1
      cases h1
def sgA (r : Nat) : Array Value := #[.int .i64 (sgT r 0), .int .i64 (sgT r 1), .int .i64 (sgT r 2), .int .i64 (sgT r 3)]
theorem info_four : (Try.prog.info? 98).map (·.size) = some 4 := by kernel_rfl
set_option maxHeartbeats 8000000 in
theorem signs_any (r : Nat) (hr : r < 13) (w : World) : Calls Try.prog 76 #[.int .i64 (r : Int)] w fun e w' => e = .returned (.agg (sgA r)) ∧ Below w.heap.size w w' := by
  have HE := fun W => example_any r hr W
  go_enter Try.func76, Try.ntmps76
  go_upto_region 2 with (go_at_call 94; (with_reducible refine (HE _).mono ?_); rintro e w1 ⟨x, y, rfl, hxy, hb1⟩)
  obtain ⟨t0, t1, t2, t3⟩ := sgT_of hr hxy
  obtain ⟨xb0, xb1⟩ := ex_bd x hxy.1
  obtain ⟨yb0, yb1⟩ := ey_bd y hxy.2.1
  have hw0 : IntKind.i64.wrap (10 - x) = 10 - x := IntWalk.i64_in _ (by omega)
  have hw1 : IntKind.i64.wrap (20 - x) = 20 - x := IntWalk.i64_in _ (by omega)
  have hw2 : IntKind.i64.wrap (10 - y) = 10 - y := IntWalk.i64_in _ (by omega)
  have hw3 : IntKind.i64.wrap (20 - y) = 20 - y := IntWalk.i64_in _ (by omega)
  have HS0 := fun W => sign_any (10 - x) W (by omega) (by omega)
  have HS1 := fun W => sign_any (20 - x) W (by omega) (by omega)
  have HS2 := fun W => sign_any (10 - y) W (by omega) (by omega)
  have HS3 := fun W => sign_any (20 - y) W (by omega) (by omega)
  rw [t0] at HS0
  rw [t1] at HS1
  rw [t2] at HS2
  rw [t3] at HS3
  have hRw := (hb1.block w.heap.size (by simp)).trans (heap_alloc_new w _)
  obtain ⟨R, hR⟩ : ∃ R, R = w.heap.size := ⟨_, rfl⟩
  have hbw : Below w.heap.size w w1 := bstep ((Below.refl _ _).alloc (Nat.le_refl _) _) hb1
  have lR : R < w1.heap.size := by have := hb1.size; rw [hR]; simp at this; omega
  obtain ⟨W2, hW2⟩ : ∃ W2, W2 = (w1.alloc (.cells #[.int .i64 x, .int .i64 y] 48)).alloc (.cells #[.int .i64 10, .int .i64 20] 48) := ⟨_, rfl⟩
  have hb2 : Below w1.heap.size w1 W2 := by rw [hW2]; exact ((Below.refl _ _).alloc (Nat.le_refl _) _).alloc (by simp) _
  have hA : W2.heap[w1.heap.size]? = some (.cells #[.int .i64 x, .int .i64 y] 48 (0, 0)) := by
    rw [hW2, Below.heap_alloc _ _ _ (by simp)]
    exact heap_alloc_new w1 _
  have hB : W2.heap[w1.heap.size + 1]? = some (.cells #[.int .i64 10, .int .i64 20] 48 (0, 0)) := by
    have := heap_alloc_new (w1.alloc (.cells #[.int .i64 x, .int .i64 y] 48)) (.cells #[.int .i64 10, .int .i64 20] 48)
    rw [hW2]
    simpa using this
  have z0 := cell_regrown (show W2.cell? ⟨w1.heap.size, 0, none⟩ = some (.int .i64 x) by rw [cell_of_row _ _ 0 _ _ _ hA]; rfl)
  have z1 := cell_regrown (show W2.cell? ⟨w1.heap.size, 1, none⟩ = some (.int .i64 y) by rw [cell_of_row _ _ 1 _ _ _ hA]; rfl)
  have z2 := cell_regrown (show W2.cell? ⟨w1.heap.size + 1, 0, none⟩ = some (.int .i64 10) by rw [cell_of_row _ _ 0 _ _ _ hB]; rfl)
  have z3 := cell_regrown (show W2.cell? ⟨w1.heap.size + 1, 1, none⟩ = some (.int .i64 20) by rw [cell_of_row _ _ 1 _ _ _ hB]; rfl)
  rw [← hR] at hRw
  have hRW2 := (hb2.block R lR).trans hRw
  have lR2 : R < W2.heap.size := Nat.lt_of_lt_of_le lR hb2.size
  rw [← hW2, ← hR]
  have HLW := Lib.hid (bstep hbw hb2)
  generalize w1.heap.size + 1 = A1 at *
  generalize w1.heap.size = A0 at *
  have HR := Lib.hid hR
  have HRW := Lib.hid hRW2
  have HBW := Lib.hid hbw
  have HB2 := Lib.hid hb2
  clear hW2 hA hB hRw hRW2 hb1 hbw hb2 hxy t0 t1 t2 t3 hR
  refine Lst.wp_region_below_lastN 25 rfl rfl (by kernel_rfl) (by kernel_rfl) (by kernel_rfl) ?_
  simp only [List.take_succ_cons, List.take_zero]
  repeat (go_big_quiet_step (first | (go_at_call 95; with_reducible exact Calls.regrown_of (HS0 _)) | (go_at_call 95; with_reducible exact Calls.regrown_of (HS1 _)) | (go_at_call 95; with_reducible exact Calls.regrown_of (HS2 _)) | (go_at_call 95; with_reducible exact Calls.regrown_of (HS3 _))))
  refine wpQuiet_nil ?_
  intro w9 hb9
  refine ⟨by rfl, ?_⟩
  have hR9 := (hb9.block R lR2).trans HRW.out
  have hL9 : Below w.heap.size w w9 := bstep HLW.out hb9
  clear z0 z1 z2 z3
  refine wp_store_row 98 (.tmp 2) (.tmp 34) rfl R (sgA r) rfl rfl _ _ hR9 info_four rfl (by simp [sgA, Value.oneCell']) ?_
  have hz := setRow_heap w9 R _ (sgA r) _ _ hR9
  have hbz : Below R w9 (w9.setRow R (sgA r)) := ⟨rfl, rfl, rfl, by simp [World.setRow], fun k hk => setRow_other w9 R k _ (by omega)⟩
  generalize w9.setRow R (sgA r) = wz at hz hbz ⊢
  have hld := run_loadVar_row wz R 98 98 (sgA r) (0, 0) _ hz Try.underlying98 rfl info_four
  have hLz : Below w.heap.size w wz := hL9.trans (by rw [HR.out] at hbz; exact hbz)
  go_wp2
  exact bodyPost_ret (results_cell1 Try.results76 rfl hld) rfl ⟨rfl, hLz⟩
end Go.Proofs.Ytoadihclmnjjnaa.Nw
