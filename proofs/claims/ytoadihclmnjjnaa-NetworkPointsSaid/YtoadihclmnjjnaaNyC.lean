/-
  Networks: the reference's Signs (layer 46).
-/
import Derived.Test.YtoadihclmnjjnaaNyA
import Derived.Test.YtoadihclmnjjnaaCut
import Derived.Test.YtoadihclmnjjnaaIvO
set_option linter.unusedSimpArgs false
set_option linter.unusedVariables false
set_option maxRecDepth 100000
namespace Go.Proofs.Ytoadihclmnjjnaa.Nw
open Go Go.RowKit Go.ChangeShapes Go.WideShapes Go.Proofs.Ytoadihclmnjjnaa.Sl Go.Proofs.Ytoadihclmnjjnaa.Al Go.Lib
open Go.Proofs.Ytoadihclmnjjnaa.Iv (validB ofZ sgn)

theorem rsign_any (n : Int) (w : World) (h1 : -100 ≤ n) (h2 : n ≤ 100) : Calls Try.prog 97 #[.int .i64 n] w fun e w' => e = .returned (.int .i64 (sgn n 0)) ∧ Below w.heap.size w w' := by
  unfold sgn
  by_cases a : n < 0
  · rw [if_pos a]
    go_enter Try.func97, Try.ntmps97
    go_wp2
    go_ret
    exact ⟨rfl, Below.refl _ _⟩
  · rw [if_neg a]
    by_cases b : 0 < n
    · rw [if_pos b]
      go_enter Try.func97, Try.ntmps97
      go_wp2
      go_ret
      exact ⟨rfl, Below.refl _ _⟩
    · obtain rfl : n = 0 := by omega
      rw [if_neg b]
      go_enter Try.func97, Try.ntmps97
      go_wp2
      go_ret
      exact ⟨rfl, Below.refl _ _⟩
def hitR (r : Nat) (x y : Nat) : Bool := decide (ofZ (x : Int) (y : Int) 3 6 = (r : Int))
theorem rsg_ok : ∀ r < 13, ((List.range 9).all fun x => (List.range 10).all fun y => !(decide (x < y) && hitR r x y) || (sgn (3 - (x : Int)) 0 == sgT r 0 && sgn (6 - (x : Int)) 0 == sgT r 1 && sgn (3 - (y : Int)) 0 == sgT r 2 && sgn (6 - (y : Int)) 0 == sgT r 3)) = true := of_decide_eq_true (by kernel_rfl)
theorem rhit_ex : ∀ r < 13, ((List.range 9).any fun x => (List.range 10).any fun y => decide (x < y) && hitR r x y) = true := of_decide_eq_true (by kernel_rfl)
theorem rsg_of {r : Nat} (hr : r < 13) {x y : Nat} (hx : x < 9) (hy : y < 10) (hxy : x < y) (h : ofZ (x : Int) (y : Int) 3 6 = (r : Int)) : sgn (3 - (x : Int)) 0 = sgT r 0 ∧ sgn (6 - (x : Int)) 0 = sgT r 1 ∧ sgn (3 - (y : Int)) 0 = sgT r 2 ∧ sgn (6 - (y : Int)) 0 = sgT r 3 := by
  have h1 := (List.all_eq_true.1 ((List.all_eq_true.1 (rsg_ok r hr)) x (List.mem_range.2 hx))) y (List.mem_range.2 hy)
  rw [show hitR r x y = true by unfold hitR; simpa using h, decide_eq_true hxy] at h1
  simpa [and_assoc] using h1
/-- What the reference's Signs leaves behind. -/
def RgE (r : Nat) (w : World) (e : Ending) (w' : World) : Prop := ∃ g, e = .returned (.slice (some ⟨g, 0, none⟩) 4 4) ∧ w.heap.size ≤ g ∧ w'.heap[g]? = some (.cells #[.int .i64 ((sg1 r 0 : Nat) : Int), .int .i64 ((sg1 r 1 : Nat) : Int), .int .i64 ((sg1 r 2 : Nat) : Int), .int .i64 ((sg1 r 3 : Nat) : Int)] 3 (0, 0)) ∧ Below w.heap.size w w'
set_option maxHeartbeats 8000000 in
theorem rsigns_any (r : Nat) (hr : r < 13) (w : World) : Calls Try.prog 81 #[.int .i64 (r : Int)] w (RgE r w) := by
  have HEX := Lib.hid (rhit_ex r hr)
  have HRS := Lib.hid (fun x y hx hy hxy h => rsg_of (r := r) hr (x := x) (y := y) hx hy hxy h)
  have HSG := Lib.hid (show sgT r 0 + 1 = ((sg1 r 0 : Nat) : Int) ∧ sgT r 1 + 1 = ((sg1 r 1 : Nat) : Int) ∧ sgT r 2 + 1 = ((sg1 r 2 : Nat) : Int) ∧ sgT r 3 + 1 = ((sg1 r 3 : Nat) : Int) ∧ sg1 r 0 ≤ 2 ∧ sg1 r 1 ≤ 2 ∧ sg1 r 2 ≤ 2 ∧ sg1 r 3 ≤ 2 from
    ⟨(sg1_bd r hr 0 (by omega)).1, (sg1_bd r hr 1 (by omega)).1, (sg1_bd r hr 2 (by omega)).1, (sg1_bd r hr 3 (by omega)).1, (sg1_bd r hr 0 (by omega)).2, (sg1_bd r hr 1 (by omega)).2, (sg1_bd r hr 2 (by omega)).2, (sg1_bd r hr 3 (by omega)).2⟩)
  go_enter Try.func81, Try.ntmps81
  go_wp2
  obtain ⟨W0, hW0⟩ : ∃ W0, W0 = w.alloc (.cells #[.int .i64 3, .int .i64 6] 48) := ⟨_, rfl⟩
  have hb0 : Below w.heap.size w W0 := by rw [hW0]; exact (Below.refl _ _).alloc (Nat.le_refl _) _
  have hB3 : W0.heap[w.heap.size]? = some (.cells #[.int .i64 3, .int .i64 6] 48 (0, 0)) := by rw [hW0]; exact heap_alloc_new w _
  have d0 : W0.cell? ⟨w.heap.size, 0, none⟩ = some (.int .i64 3) := by rw [cell_of_row _ _ 0 _ _ _ hB3]; rfl
  have d1 : W0.cell? ⟨w.heap.size, 1, none⟩ = some (.int .i64 6) := by rw [cell_of_row _ _ 1 _ _ _ hB3]; rfl
  rw [← hW0]
  have HB0 := Lib.hid hb0
  obtain ⟨B3, hB3e⟩ : ∃ b, b = w.heap.size := ⟨_, rfl⟩
  rw [← hB3e] at d0 d1 ⊢
  have HD := Lib.hid (show W0.cell? ⟨B3, 0, none⟩ = some (.int .i64 3) ∧ W0.cell? ⟨B3, 1, none⟩ = some (.int .i64 6) from ⟨d0, d1⟩)
  clear hW0 hB3 d0 d1 hb0 hB3e
  go_loopw [4] (fun xv wr => ∃ x : Nat, x ≤ 9 ∧ xv = .int .i64 (x : Int) ∧ Hid (((List.range x).any fun x => (List.range 10).any fun y => decide (x < y) && hitR r x y) = false) ∧ Below W0.heap.size W0 wr) (fun xv _ => 9 - (RowKit.intOf xv).toNat)
  case atStart => exact ⟨0, by omega, rfl, Lib.hid rfl, Below.refl _ _⟩
  case round =>
    obtain ⟨x, hx, rfl, hno, hL⟩ := hrel
    by_cases hx9 : x < 9
    · have x0 : (0 : Int) ≤ (x : Int) := by omega
      have x1 : (x : Int) < 9 := by omega
      go_wp2
      go_loopw [5] (fun yv wr => ∃ y : Nat, x + 1 ≤ y ∧ y ≤ 10 ∧ yv = .int .i64 (y : Int) ∧ Hid (((List.range y).any fun y => decide (x < y) && hitR r x y) = false) ∧ Below W0.heap.size W0 wr) (fun yv _ => 10 - (RowKit.intOf yv).toNat)
      case atStart => exact ⟨x + 1, Nat.le_refl _, by omega, by go_num, Lib.hid (List.any_eq_false.2 fun y hy => by
        have := List.mem_range.1 hy
        simp; intro h; omega), hL⟩
      case round =>
        clear hL
        obtain ⟨y, hxy, hy, rfl, hno2, hL⟩ := hrel
        by_cases hy10 : y < 10
        · have y0 : (0 : Int) ≤ (y : Int) := by omega
          have y1 : (y : Int) < 10 := by omega
          have d0 := Go.Proofs.Ytoadihclmnjjnaa.Sl.cell_kept HD.out.1 hL
          have d1 := Go.Proofs.Ytoadihclmnjjnaa.Sl.cell_kept HD.out.2 hL
          have lb := block_of_cell d0
          have HOF := fun W => Iv.rof_any (x : Int) (y : Int) 3 6 W
          by_cases hz : ofZ (x : Int) (y : Int) 3 6 = (r : Int)
          · rw [hz] at HOF
            obtain ⟨t0, t1, t2, t3⟩ := HRS.out x y hx9 hy10 (by omega) hz
            have a0 : IntKind.i64.wrap (3 - (x : Int)) = 3 - (x : Int) := IntWalk.i64_in _ (by omega)
            have a1 : IntKind.i64.wrap (6 - (x : Int)) = 6 - (x : Int) := IntWalk.i64_in _ (by omega)
            have a2 : IntKind.i64.wrap (3 - (y : Int)) = 3 - (y : Int) := IntWalk.i64_in _ (by omega)
            have a3 : IntKind.i64.wrap (6 - (y : Int)) = 6 - (y : Int) := IntWalk.i64_in _ (by omega)
            have HS0 := fun W => rsign_any (3 - (x : Int)) W (by omega) (by omega)
            have HS1 := fun W => rsign_any (6 - (x : Int)) W (by omega) (by omega)
            have HS2 := fun W => rsign_any (3 - (y : Int)) W (by omega) (by omega)
            have HS3 := fun W => rsign_any (6 - (y : Int)) W (by omega) (by omega)
            rw [t0] at HS0
            rw [t1] at HS1
            rw [t2] at HS2
            rw [t3] at HS3
            obtain ⟨g0, g1, g2, g3, b0, b1, b2, b3⟩ := HSG.out
            have c0 : IntKind.i64.wrap (1 + sgT r 0) = ((sg1 r 0 : Nat) : Int) := by rw [Int.add_comm, g0]; exact IntWalk.i64_in _ (by omega)
            have c1 : IntKind.i64.wrap (1 + sgT r 1) = ((sg1 r 1 : Nat) : Int) := by rw [Int.add_comm, g1]; exact IntWalk.i64_in _ (by omega)
            have c2 : IntKind.i64.wrap (1 + sgT r 2) = ((sg1 r 2 : Nat) : Int) := by rw [Int.add_comm, g2]; exact IntWalk.i64_in _ (by omega)
            have c3 : IntKind.i64.wrap (1 + sgT r 3) = ((sg1 r 3 : Nat) : Int) := by rw [Int.add_comm, g3]; exact IntWalk.i64_in _ (by omega)
            clear t0 t1 t2 t3 g0 g1 g2 g3 b0 b1 b2 b3 hz
            generalize sgT r 0 = s0 at *
            generalize sgT r 1 = s1 at *
            generalize sgT r 2 = s2 at *
            generalize sgT r 3 = s3 at *
            generalize hq0 : sg1 r 0 = q0 at c0
            generalize hq1 : sg1 r 1 = q1 at c1
            generalize hq2 : sg1 r 2 = q2 at c2
            generalize hq3 : sg1 r 3 = q3 at c3
            have HQ := Lib.hid (show sg1 r 0 = q0 ∧ sg1 r 1 = q1 ∧ sg1 r 2 = q2 ∧ sg1 r 3 = q3 from ⟨hq0, hq1, hq2, hq3⟩)
            clear hq0 hq1 hq2 hq3
            go_upto_region 10 with (go_at_call 66; (with_reducible refine (HOF _).mono ?_); rintro e w4 ⟨rfl, hb4⟩)
            have hb5 : Below wr.heap.size wr w4 := bstep ((Below.refl _ _).alloc (Nat.le_refl _) _) hb4
            have z0 := cell_regrown (Go.Proofs.Ytoadihclmnjjnaa.Sl.cell_kept d0 hb5)
            have z1 := cell_regrown (Go.Proofs.Ytoadihclmnjjnaa.Sl.cell_kept d1 hb5)
            have HL4 := Lib.hid (bstep HB0.out (bstep hL hb5))
            clear d0 d1 lb hb4 hb5 hL
            refine Lst.wp_region_below_cut2 24 _ rfl (by rfl) (by kernel_rfl) (by kernel_rfl) (by kernel_rfl) (by kernel_rfl) ?_
            simp only [List.take_succ_cons, List.take_zero]
            repeat (go_big_quiet_step (first | (go_at_call 97; with_reducible exact Calls.regrown_of (HS0 _)) | (go_at_call 97; with_reducible exact Calls.regrown_of (HS1 _)) | (go_at_call 97; with_reducible exact Calls.regrown_of (HS2 _)) | (go_at_call 97; with_reducible exact Calls.regrown_of (HS3 _))))
            refine wpQuiet_nil ?_
            clear z0 z1
            intro wd hbd
            have hLd := bstep HL4.out hbd
            clear hbd
            refine wpAny_of_held (S := fun _ => True) _ _ _ _ ?_
            have hHeld : True := trivial
            (refine wpAnyH_ready (rs := [24]) (by kernel_rfl) (by simp) ?_; refine AllReadyH.cons rfl (fun K hK => ?_) AllReadyH.nil; (try go_simp); refine hK.out _ _ (by (exact trivial)) (fun hHeld => ?_); clear hK K; try simp only [Act.put, List.setIfInBounds_toArray, List.set_cons_zero, List.set_cons_succ])
            (refine wpAnyH_ready (rs := [25]) (by kernel_rfl) (by simp) ?_; refine AllReadyH.cons rfl (fun K hK => ?_) AllReadyH.nil; (try go_simp); refine hK.out _ _ (by (exact trivial)) (fun hHeld => ?_); clear hK K; try simp only [Act.put, List.setIfInBounds_toArray, List.set_cons_zero, List.set_cons_succ])
            refine wpAnyH_done (by kernel_rfl) ?_ _
            have HN := Lib.hid (heap_alloc_new wd (.cells #[.int .i64 ((q0 : Nat) : Int), .int .i64 ((q1 : Nat) : Int), .int .i64 ((q2 : Nat) : Int), .int .i64 ((q3 : Nat) : Int)] 3))
            clear hHeld
            go_wp2
            go_ret
            obtain ⟨e0, e1, e2, e3⟩ := HQ.out
            exact ⟨wd.heap.size, rfl, hLd.size, by rw [e0, e1, e2, e3]; exact HN.out, hLd.alloc hLd.size _⟩
          · have hh : hitR r x y = false := by unfold hitR; simpa using hz
            have HNX : Hid (((List.range (y + 1)).any fun y => decide (x < y) && hitR r x y) = false) := Lib.hid (by rw [List.range_succ, List.any_append, hno2.out]; simp [hh])
            obtain ⟨z, hze⟩ : ∃ z, z = ofZ (x : Int) (y : Int) 3 6 := ⟨_, rfl⟩
            rw [← hze] at HOF hz
            have gz : (z == (r : Int)) = false := by simpa using hz
            clear hze hz hh
            go_wp2_with (go_at_call 66; (with_reducible refine (HOF _).mono ?_); rintro e w4 ⟨rfl, hb4⟩; have hL5 : Below W0.heap.size W0 w4 := bstep (bstep hL ((Below.refl _ _).alloc (Nat.le_refl _) _)) hb4)
            go_roundw
            case rel => exact ⟨y + 1, by omega, by omega, by go_num, HNX, hL5⟩
            case measure => simp [RowKit.intOf]; omega
        · obtain rfl : 10 = y := by omega
          have HNX : Hid (((List.range (x + 1)).any fun x => (List.range 10).any fun y => decide (x < y) && hitR r x y) = false) := Lib.hid (by
            rw [List.range_succ, List.any_append, hno.out, List.any_cons, hno2.out]; rfl)
          go_wp2
          go_roundw
          case rel => exact ⟨x + 1, by omega, by go_num, HNX, hL⟩
          case measure => simp [RowKit.intOf]; omega
    · obtain rfl : 9 = x := by omega
      have h1 := hno.out
      rw [HEX.out] at h1
      cases h1
end Go.Proofs.Ytoadihclmnjjnaa.Nw
