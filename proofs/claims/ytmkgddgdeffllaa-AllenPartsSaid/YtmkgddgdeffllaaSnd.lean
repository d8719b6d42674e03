/-
  The walk of AllenSound.
-/
import Derived.Test.YtmkgddgdeffllaaPl
set_option linter.unusedSimpArgs false
set_option linter.unusedVariables false
namespace Go.Proofs.Ytmkgddgdeffllaa.Al
open Go Go.RowKit Go.Proofs.Ytmkgddgdeffllaa.Bt Go.Proofs.Ytmkgddgdeffllaa.Sl
open Go.Proofs.Ytmkgddgdeffllaa.Iv (of_any valid_any ofZ validB lineB sgn_bd sgn_cases tab sgn)

theorem inverse_any (m : Nat) (hm : m < 8192) (w : World) : Calls Try.prog 18 #[.int .i64 (m : Int)] w fun e w' => e = .returned (.int .i64 ((invN m : Nat) : Int)) ∧ Below w.heap.size w w' := callsIn_wide.1 (inverse_in m hm w)
theorem kept1 {w : World} {b o : Nat} {v : Value} (o' : Obj) (h : w.cell? ⟨b, o, none⟩ = some v) : (w.alloc o').cell? ⟨b, o, none⟩ = some v := Sl.cell_kept h ((Below.refl _ _).alloc (Nat.le_refl _) _)
theorem new2 (w : World) (u v : Value) (t : TypeId) : (w.alloc (.cells #[u, v] t)).cell? ⟨w.heap.size, 0, none⟩ = some u ∧ (w.alloc (.cells #[u, v] t)).cell? ⟨w.heap.size, 1, none⟩ = some v := ⟨by simp, by simp⟩
/-- The cells of three boxes. -/
theorem boxes3 (w : World) (x0 x1 y0 y1 z0 z1 : Value) (t : TypeId) : ∀ W, W = ((w.alloc (.cells #[x0, x1] t)).alloc (.cells #[y0, y1] t)).alloc (.cells #[z0, z1] t) →
    W.cell? ⟨w.heap.size, 0, none⟩ = some x0 ∧ W.cell? ⟨w.heap.size, 1, none⟩ = some x1 ∧ W.cell? ⟨w.heap.size + 1, 0, none⟩ = some y0 ∧ W.cell? ⟨w.heap.size + 1, 1, none⟩ = some y1 ∧ W.cell? ⟨w.heap.size + 1 + 1, 0, none⟩ = some z0 ∧ W.cell? ⟨w.heap.size + 1 + 1, 1, none⟩ = some z1 := by
  rintro W rfl
  have a := new2 w x0 x1 t
  have b := new2 (w.alloc (.cells #[x0, x1] t)) y0 y1 t
  have c := new2 ((w.alloc (.cells #[x0, x1] t)).alloc (.cells #[y0, y1] t)) z0 z1 t
  simp only [World.size_alloc] at b c
  exact ⟨kept1 _ (kept1 _ a.1), kept1 _ (kept1 _ a.2), kept1 _ b.1, kept1 _ b.2, c.1, c.2⟩
/-- The three relations, as the walk meets them. -/
theorem ofZ_none {a0 a1 b0 b1 : Int} (h : validB a0 a1 = false ∨ validB b0 b1 = false) : ofZ a0 a1 b0 b1 = -1 := by
  unfold ofZ; rw [if_pos h]
set_option maxHeartbeats 2000000 in
theorem sound_bad (x0 x1 y0 y1 z0 z1 : Int) (h : validB x0 x1 = false ∨ (validB x0 x1 = true ∧ validB y0 y1 = false) ∨ (validB x0 x1 = true ∧ validB y0 y1 = true ∧ validB z0 z1 = false)) (w : World) :
    Calls Try.prog 5 #[.agg #[.int .i64 x0, .int .i64 x1], .agg #[.int .i64 y0, .int .i64 y1], .agg #[.int .i64 z0, .int .i64 z1]] w fun e w' => e = .returned (.bool true) ∧ Below w.heap.size w w' := by
  have hab : ofZ x0 x1 y0 y1 = -1 ∨ (0 ≤ ofZ x0 x1 y0 y1 ∧ ofZ y0 y1 z0 z1 = -1) := by
    rcases h with h | ⟨_, h⟩ | ⟨h1, h2, h3⟩
    · exact .inl (ofZ_none (.inl h))
    · exact .inl (ofZ_none (.inr h))
    · exact .inr ⟨(ofZ_bd _ _ _ _ h1 h2).1, ofZ_none (.inr h3)⟩
  have f1 := of_any x0 x1 y0 y1
  have f2 := of_any y0 y1 z0 z1
  have f3 := of_any x0 x1 z0 z1
  have g1 := valid_any x0 x1
  have g2 := valid_any y0 y1
  have g3 := valid_any z0 z1
  generalize ofZ x0 x1 y0 y1 = A at *
  generalize ofZ y0 y1 z0 z1 = B at *
  generalize ofZ x0 x1 z0 z1 = C at *
  generalize validB x0 x1 = X at *
  generalize validB y0 y1 = Y at *
  generalize validB z0 z1 = Z at *
  go_enter Try.func5, Try.ntmps5
  go_wp2_with (go_at_call 11; (with_reducible refine (awake_any _).mono ?_); rintro e w1 ⟨rfl, hb⟩)
  obtain ⟨c0, c1, d0, d1, e0, e1⟩ := boxes3 w (.int .i64 x0) (.int .i64 x1) (.int .i64 y0) (.int .i64 y1) (.int .i64 z0) (.int .i64 z1) 25 _ rfl
  replace c0 := Sl.cell_kept c0 hb
  replace c1 := Sl.cell_kept c1 hb
  replace d0 := Sl.cell_kept d0 hb
  replace d1 := Sl.cell_kept d1 hb
  replace e0 := Sl.cell_kept e0 hb
  replace e1 := Sl.cell_kept e1 hb
  have hB : Below w.heap.size w w1 := Sl.bstep (by go_grown) hb
  have k0 := cell_regrown c0
  have k1 := cell_regrown c1
  have k2 := cell_regrown d0
  have k3 := cell_regrown d1
  have k4 := cell_regrown e0
  have k5 := cell_regrown e1
  clear hb
  refine wp_region_quiet_below (by kernel_rfl) (by kernel_rfl) ?_
  repeat (go_big_quiet_step (first | (go_at_call 12; with_reducible exact Calls.regrown_of (f1 _)) | (go_at_call 12; with_reducible exact Calls.regrown_of (f2 _)) | (go_at_call 12; with_reducible exact Calls.regrown_of (f3 _))))
  refine wpQuiet_nil ?_
  intro _ hw9
  obtain ⟨⟨dq, osq⟩, hw9⟩ := hw9
  subst hw9
  have hr := below_regrown w1 dq osq
  have hr1 : Below w1.heap.size w1 (Go.Sort.grow (redrawn w1 dq) osq) := hr
  generalize Go.Sort.grow (redrawn w1 dq) osq = w2 at *
  replace c0 := Sl.cell_kept c0 hr
  replace c1 := Sl.cell_kept c1 hr
  replace d0 := Sl.cell_kept d0 hr
  replace d1 := Sl.cell_kept d1 hr
  replace e0 := Sl.cell_kept e0 hr
  replace e1 := Sl.cell_kept e1 hr
  replace hB := Sl.bstep hB hr
  clear k0 k1 k2 k3 k4 k5 f1 f2 f3 hr hr1
  have hL : Below w2.heap.size w2 w2 := Below.refl _ _
  have n0 := block_of_cell c0
  have n1 := block_of_cell d0
  have n2 := block_of_cell e0
  rcases hab with rfl | ⟨hA, rfl⟩
  · rcases h with rfl | ⟨rfl, rfl⟩ | ⟨rfl, rfl, rfl⟩
    all_goals
      go_wp2_with (first | (go_at_call 17; ((with_reducible refine (g1 _).mono ?_); rintro e w1 ⟨rfl, hb⟩; (first | (replace hL := bstep hL hb) | (have hL := hb)); clear hb; replace hc := bcell hL)) | (go_at_call 17; ((with_reducible refine (g2 _).mono ?_); rintro e w1 ⟨rfl, hb⟩; (first | (replace hL := bstep hL hb) | (have hL := hb)); clear hb; replace hc := bcell hL)) | (go_at_call 17; ((with_reducible refine (g3 _).mono ?_); rintro e w1 ⟨rfl, hb⟩; (first | (replace hL := bstep hL hb) | (have hL := hb)); clear hb; replace hc := bcell hL)))
      go_ret
      exact ⟨rfl, Sl.bstep hB hL⟩
  · have hA' : decide (A < 0) = false := by simp; omega
    rcases h with rfl | ⟨rfl, rfl⟩ | ⟨rfl, rfl, rfl⟩
    all_goals
      go_wp2_with (first | (go_at_call 17; ((with_reducible refine (g1 _).mono ?_); rintro e w1 ⟨rfl, hb⟩; (first | (replace hL := bstep hL hb) | (have hL := hb)); clear hb; replace hc := bcell hL)) | (go_at_call 17; ((with_reducible refine (g2 _).mono ?_); rintro e w1 ⟨rfl, hb⟩; (first | (replace hL := bstep hL hb) | (have hL := hb)); clear hb; replace hc := bcell hL)) | (go_at_call 17; ((with_reducible refine (g3 _).mono ?_); rintro e w1 ⟨rfl, hb⟩; (first | (replace hL := bstep hL hb) | (have hL := hb)); clear hb; replace hc := bcell hL)))
      go_ret
      exact ⟨rfl, Sl.bstep hB hL⟩
theorem holdsB_nat (m : Nat) (hm : m < 8192) {a0 a1 b0 b1 : Int} (h1 : validB a0 a1 = true) (h2 : validB b0 b1 = true) (r : Nat) (hr : ofZ a0 a1 b0 b1 = r) (hb : m.testBit r = true) : holdsB (m : Int) a0 a1 b0 b1 = true := by
  have his : isSetB (m : Int) = true := by simp [isSetB]; omega
  unfold holdsB
  rw [his, h1, h2, hr]
  simpa using hb
set_option maxHeartbeats 4000000 in
theorem sound_good (x0 x1 y0 y1 z0 z1 : Int) (hx : validB x0 x1 = true) (hy : validB y0 y1 = true) (hz : validB z0 z1 = true) (w : World) :
    Calls Try.prog 5 #[.agg #[.int .i64 x0, .int .i64 x1], .agg #[.int .i64 y0, .int .i64 y1], .agg #[.int .i64 z0, .int .i64 z1]] w fun e w' => e = .returned (.bool true) ∧ Below w.heap.size w w' := by
  obtain ⟨i, j, m, hi, hj, hm, o1, o2, o3, o4⟩ := three x0 x1 y0 y1 z0 z1 hx hy hz
  have ha := rl_lt i j hi hj
  have hb := rl_lt j m hj hm
  have hc := rl_lt i m hi hm
  have hbit := bas_bit i j m hi hj hm
  have hlt := bas_lt (rl i j) (rl j m)
  rw [rl_inv i hi m hm] at o4
  have q1 := holds_any ((bas (rl i j) (rl j m) : Nat) : Int) x0 x1 z0 z1
  rw [holdsB_nat _ hlt hx hz _ o3 hbit] at q1
  have q2 := holds_any ((invN (bas (rl i j) (rl j m)) : Nat) : Int) z0 z1 x0 x1
  rw [holdsB_nat _ (invN_lt _) hz hx _ o4 (by rw [invN_bit _ _ (by omega), show 12 - (12 - rl i m) = rl i m by omega]; exact hbit)] at q2
  have q3 := holds_any ((pw (rl i j) : Nat) : Int) x0 x1 y0 y1
  rw [holdsB_nat (pw (rl i j)) (pow_lt _ (by omega)) hx hy _ o1 (Nat.testBit_two_pow_self)] at q3
  have q4 := inverse_any (bas (rl i j) (rl j m)) hlt
  have q5 := basic_nat (rl i j) (rl j m) ha hb
  have f1 := of_any x0 x1 y0 y1
  have f2 := of_any y0 y1 z0 z1
  have f3 := of_any x0 x1 z0 z1
  rw [o1] at f1
  rw [o2] at f2
  rw [o3] at f3
  have hbt := bit_test (bas (rl i j) (rl j m)) (rl i m) (by omega)
  rw [hbit] at hbt
  have hpw := wrap_pw (rl i j) (by omega)
  clear o1 o2 o3 o4 hbit hx hy hz
  generalize bas (rl i j) (rl j m) = S at *
  generalize invN S = S' at *
  generalize rl i j = A at *
  generalize rl j m = B at *
  generalize rl i m = C at *
  have hA0 : (0 : Int) ≤ (A : Int) := by omega
  have hA1 : (A : Int) < 13 := by omega
  have hC0 : (0 : Int) ≤ (C : Int) := by omega
  have hC1 : (C : Int) < 13 := by omega
  go_enter Try.func5, Try.ntmps5
  go_wp2_with (go_at_call 11; (with_reducible refine (awake_any _).mono ?_); rintro e w1 ⟨rfl, hb⟩)
  obtain ⟨c0, c1, d0, d1, e0, e1⟩ := boxes3 w (.int .i64 x0) (.int .i64 x1) (.int .i64 y0) (.int .i64 y1) (.int .i64 z0) (.int .i64 z1) 25 _ rfl
  replace c0 := Sl.cell_kept c0 hb
  replace c1 := Sl.cell_kept c1 hb
  replace d0 := Sl.cell_kept d0 hb
  replace d1 := Sl.cell_kept d1 hb
  replace e0 := Sl.cell_kept e0 hb
  replace e1 := Sl.cell_kept e1 hb
  have hB : Below w.heap.size w w1 := Sl.bstep (by go_grown) hb
  have k0 := cell_regrown c0
  have k1 := cell_regrown c1
  have k2 := cell_regrown d0
  have k3 := cell_regrown d1
  have k4 := cell_regrown e0
  have k5 := cell_regrown e1
  clear hb
  refine wp_region_quiet_below (by kernel_rfl) (by kernel_rfl) ?_
  repeat (go_big_quiet_step (first | (go_at_call 12; with_reducible exact Calls.regrown_of (f1 _)) | (go_at_call 12; with_reducible exact Calls.regrown_of (f2 _)) | (go_at_call 12; with_reducible exact Calls.regrown_of (f3 _))))
  refine wpQuiet_nil ?_
  intro _ hw9
  obtain ⟨⟨dq, osq⟩, hw9⟩ := hw9
  subst hw9
  have hr := below_regrown w1 dq osq
  have hr1 : Below w1.heap.size w1 (Go.Sort.grow (redrawn w1 dq) osq) := hr
  generalize Go.Sort.grow (redrawn w1 dq) osq = w2 at *
  replace c0 := Sl.cell_kept c0 hr
  replace c1 := Sl.cell_kept c1 hr
  replace d0 := Sl.cell_kept d0 hr
  replace d1 := Sl.cell_kept d1 hr
  replace e0 := Sl.cell_kept e0 hr
  replace e1 := Sl.cell_kept e1 hr
  replace hB := Sl.bstep hB hr
  clear k0 k1 k2 k3 k4 k5 f1 f2 f3 hr hr1
  have hL : Below w2.heap.size w2 w2 := Below.refl _ _
  have n0 := block_of_cell c0
  have n1 := block_of_cell d0
  have n2 := block_of_cell e0
  clear n0 n1 n2
  have k0 := cell_regrown c0
  have k1 := cell_regrown c1
  have k2 := cell_regrown d0
  have k3 := cell_regrown d1
  have k4 := cell_regrown e0
  have k5 := cell_regrown e1
  go_upto_region 6 with fail
  go_wp2_with (go_at_call 13; (with_reducible refine (q5 _).mono ?_); rintro e w3 ⟨rfl, hb3⟩)
  replace hB := Sl.bstep hB hb3
  replace c0 := Sl.cell_kept c0 hb3
  replace c1 := Sl.cell_kept c1 hb3
  replace d0 := Sl.cell_kept d0 hb3
  replace d1 := Sl.cell_kept d1 hb3
  replace e0 := Sl.cell_kept e0 hb3
  replace e1 := Sl.cell_kept e1 hb3
  replace k0 := cell_regrown c0
  replace k1 := cell_regrown c1
  replace k2 := cell_regrown d0
  replace k3 := cell_regrown d1
  replace k4 := cell_regrown e0
  replace k5 := cell_regrown e1
  clear hb3 hL c0 c1 d0 d1 e0 e1
  refine wp_region_quiet_below (by kernel_rfl) (by kernel_rfl) ?_
  repeat (go_big_quiet_step (first | (go_at_call 15; with_reducible exact Calls.regrown_of (q1 _)) | (go_at_call 15; with_reducible exact Calls.regrown_of (q2 _)) | (go_at_call 15; with_reducible exact Calls.regrown_of (q3 _)) | (go_at_call 18; with_reducible exact Calls.regrown_of (q4 _))))
  refine wpQuiet_nil ?_
  intro _ hw9
  obtain ⟨⟨dq, osq⟩, hw9⟩ := hw9
  subst hw9
  go_wp2
  go_ret
  exact ⟨rfl, Sl.bstep hB (below_regrown w3 dq osq)⟩

theorem allenSound_walk (x0 x1 y0 y1 z0 z1 : Int) (_ : (Lit.int .i64 x0).wf = true) (_ : (Lit.int .i64 x1).wf = true) (_ : (Lit.int .i64 y0).wf = true) (_ : (Lit.int .i64 y1).wf = true) (_ : (Lit.int .i64 z0).wf = true) (_ : (Lit.int .i64 z1).wf = true) (w : World) :
    Calls Try.prog 5 #[.agg #[.int .i64 x0, .int .i64 x1], .agg #[.int .i64 y0, .int .i64 y1], .agg #[.int .i64 z0, .int .i64 z1]] w fun e w' => e = .returned (.bool true) ∧ Below w.heap.size w w' := by
  cases hx : validB x0 x1
  · exact sound_bad _ _ _ _ _ _ (.inl hx) w
  cases hy : validB y0 y1
  · exact sound_bad _ _ _ _ _ _ (.inr (.inl ⟨hx, hy⟩)) w
  cases hz : validB z0 z1
  · exact sound_bad _ _ _ _ _ _ (.inr (.inr ⟨hx, hy, hz⟩)) w
  exact sound_good _ _ _ _ _ _ hx hy hz w
end Go.Proofs.Ytmkgddgdeffllaa.Al
