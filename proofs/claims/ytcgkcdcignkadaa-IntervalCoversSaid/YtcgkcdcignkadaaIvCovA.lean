/-
  Walks of the law IntervalCovers for two valid intervals.
-/
import Derived.Test.YtcgkcdcignkadaaIvCov
import Derived.Deep.DeepCutAuto
import Derived.Lib.QuietBelow
set_option linter.unusedSimpArgs false
set_option linter.unusedVariables false
namespace Go.Proofs.Ytcgkcdcignkadaa.Iv
open Go.RowKit Go.ChangeShapes Go.WideShapes Go.Proofs.Ytcgkcdcignkadaa.Sl

set_option maxRecDepth 100000 in
set_option maxHeartbeats 8000000 in
theorem cov_e_ttt (a0 a1 b0 b1 x h0 h1 m0 m1 : Int) (hv1 : validB a0 a1 = true) (hv2 : validB b0 b1 = true) (hO : meetB a0 a1 b0 b1 = true) (hZ : meetZ a0 a1 b0 b1 = (m0, m1)) (hN : hullN a0 a1 b0 b1 = 0) (hH : hullZ a0 a1 b0 b1 = (h0, h1)) (hA : hasB a0 a1 x = true) (hB2 : hasB b0 b1 x = true) (hM : hasB m0 m1 x = true) (hHh : hasB a0 a1 x = true ∨ hasB b0 b1 x = true → hasB h0 h1 x = true) (hd0 : (h0 == a0) = true ∨ ((h0 == a0) = false ∧ (h0 == b0) = true)) (hd1 : (h1 == a1) = true ∨ ((h1 == a1) = false ∧ (h1 == b1) = true)) (hla : lenZ a0 a1 ≤ lenZ h0 h1) (hlb : lenZ b0 b1 ≤ lenZ h0 h1) (L : List (Int × Int)) (hL : minusL a0 a1 b0 b1 = L) (hLe : L.length = 0) (hML : L.length ≤ 2) (hcnt : ((cnt L x : Nat) : Int) = 0) (w : World) : Calls Try.prog 10 #[.agg #[.int .i64 a0, .int .i64 a1], .agg #[.int .i64 b0, .int .i64 b1], .int .i64 x] w fun e w' => e = .returned (.bool true) ∧ Below w.heap.size w w' := by
  have cMeet := fun W => meet_is a0 a1 b0 b1 m0 m1 true W hO hZ
  have cHull := fun W => hull_is a0 a1 b0 b1 h0 h1 W hN hH
  have cMin := fun W => minus_is a0 a1 b0 b1 L W hL
  clear hO hZ hN hH hL
  have hHi : hasB h0 h1 x = true := hHh (by first | exact .inl hA | exact .inr hB2)
  clear hHh
  have HL := Lib.hid (And.intro hla hlb)
  clear hla hlb
  have HD := Lib.hid (And.intro hd0 hd1)
  clear hd0 hd1
  obtain rfl : L = [] := List.length_eq_zero_iff.1 hLe
  clear hLe hcnt
  go_enter Try.func10, Try.ntmps10
  go_wp2_with fail
  refine (awake_any _).mono ?_
  rintro e w1 ⟨rfl, hb⟩
  have ca0 : w1.cell? ⟨w.heap.size, 0, none⟩ = some (.int .i64 a0) := cell_kept (by simp) hb
  have ca1 : w1.cell? ⟨w.heap.size, 1, none⟩ = some (.int .i64 a1) := cell_kept (by simp) hb
  have cb0 : w1.cell? ⟨w.heap.size + 1, 0, none⟩ = some (.int .i64 b0) := cell_kept (by simp) hb
  have cb1 : w1.cell? ⟨w.heap.size + 1, 1, none⟩ = some (.int .i64 b1) := cell_kept (by simp) hb
  have hB : Below w.heap.size w w1 := bstep (by go_grown) hb
  clear hb
  have nca0 : w.heap.size < w1.heap.size := block_of_cell ca0
  have ncb0 : w.heap.size + 1 < w1.heap.size := block_of_cell cb0
  go_wp2_with fail
  refine (cMeet _).mono ?_
  rintro e w2 ⟨rfl, hb⟩
  have hq : Below w1.heap.size w1 w2 := bstep (by go_grown) hb
  replace ca0 := cell_kept ca0 hq
  replace ca1 := cell_kept ca1 hq
  replace cb0 := cell_kept cb0 hq
  replace cb1 := cell_kept cb1 hq
  replace hB := bstep hB hq
  clear hq
  clear hb
  have nca0 : w.heap.size < w2.heap.size := block_of_cell ca0
  have ncb0 : w.heap.size + 1 < w2.heap.size := block_of_cell cb0
  go_wp2_with fail
  refine (cMin _).mono ?_
  rintro e w3 ⟨v, rfl, hsl, hb⟩; obtain ⟨ad1, cp1, rfl⟩ := hsl.form; clear hsl
  have hq : Below w2.heap.size w2 w3 := bstep (by go_grown) hb
  replace ca0 := cell_kept ca0 hq
  replace ca1 := cell_kept ca1 hq
  replace cb0 := cell_kept cb0 hq
  replace cb1 := cell_kept cb1 hq
  have cm0 : w3.cell? ⟨w2.heap.size, 0, none⟩ = some (.int .i64 m0) := cell_kept (by simp) hb
  have cm1 : w3.cell? ⟨w2.heap.size, 1, none⟩ = some (.int .i64 m1) := cell_kept (by simp) hb
  replace hB := bstep hB hq
  clear hq
  clear hb
  have nca0 : w.heap.size < w3.heap.size := block_of_cell ca0
  have ncb0 : w.heap.size + 1 < w3.heap.size := block_of_cell cb0
  have ncm0 : w2.heap.size < w3.heap.size := block_of_cell cm0
  go_wp2_with fail
  refine wp_loop_rounds 1 ?_
  rw [rounds_succ]
  go_wp2_with fail
  refine (cHull _).mono ?_
  rintro e w4 ⟨rfl, hb⟩
  have hq : Below w3.heap.size w3 w4 := bstep (by go_grown) hb
  replace ca0 := cell_kept ca0 hq
  replace ca1 := cell_kept ca1 hq
  replace cb0 := cell_kept cb0 hq
  replace cb1 := cell_kept cb1 hq
  replace cm0 := cell_kept cm0 hq
  replace cm1 := cell_kept cm1 hq
  replace hB := bstep hB hq
  clear hq
  clear hb
  have nca0 : w.heap.size < w4.heap.size := block_of_cell ca0
  have ncb0 : w.heap.size + 1 < w4.heap.size := block_of_cell cb0
  have ncm0 : w2.heap.size < w4.heap.size := block_of_cell cm0
  go_wp2_with fail
  refine (valid_any _ _ _).mono ?_
  rintro e w5 ⟨rfl, hb⟩
  have hq : Below w4.heap.size w4 w5 := bstep (by go_grown) hb
  replace ca0 := cell_kept ca0 hq
  replace ca1 := cell_kept ca1 hq
  replace cb0 := cell_kept cb0 hq
  replace cb1 := cell_kept cb1 hq
  replace cm0 := cell_kept cm0 hq
  replace cm1 := cell_kept cm1 hq
  have ch0 : w5.cell? ⟨w4.heap.size, 0, none⟩ = some (.int .i64 h0) := cell_kept (by simp) hb
  have ch1 : w5.cell? ⟨w4.heap.size, 1, none⟩ = some (.int .i64 h1) := cell_kept (by simp) hb
  replace hB := bstep hB hq
  clear hq
  clear hb
  have nca0 : w.heap.size < w5.heap.size := block_of_cell ca0
  have ncb0 : w.heap.size + 1 < w5.heap.size := block_of_cell cb0
  have ncm0 : w2.heap.size < w5.heap.size := block_of_cell cm0
  have nch0 : w4.heap.size < w5.heap.size := block_of_cell ch0
  go_wp2_with fail
  refine (valid_any _ _ _).mono ?_
  rintro e w6 ⟨rfl, hb⟩
  have hq : Below w5.heap.size w5 w6 := bstep (by go_grown) hb
  replace ca0 := cell_kept ca0 hq
  replace ca1 := cell_kept ca1 hq
  replace cb0 := cell_kept cb0 hq
  replace cb1 := cell_kept cb1 hq
  replace cm0 := cell_kept cm0 hq
  replace cm1 := cell_kept cm1 hq
  replace ch0 := cell_kept ch0 hq
  replace ch1 := cell_kept ch1 hq
  replace hB := bstep hB hq
  clear hq
  clear hb
  have nca0 : w.heap.size < w6.heap.size := block_of_cell ca0
  have ncb0 : w.heap.size + 1 < w6.heap.size := block_of_cell cb0
  have ncm0 : w2.heap.size < w6.heap.size := block_of_cell cm0
  have nch0 : w4.heap.size < w6.heap.size := block_of_cell ch0
  go_wp2_with fail
  have hz := hB.size
  have hK : Kp w [(w.heap.size, 0, .int .i64 a0), (w.heap.size, 1, .int .i64 a1), (w.heap.size + 1, 0, .int .i64 b0), (w.heap.size + 1, 1, .int .i64 b1), (w2.heap.size, 0, .int .i64 m0), (w2.heap.size, 1, .int .i64 m1), (w4.heap.size, 0, .int .i64 h0), (w4.heap.size, 1, .int .i64 h1)] w6.drew := (((((((((Kp.start hB).add (w4.heap.size) 1 (.int .i64 h1) ch1).add (w4.heap.size) 0 (.int .i64 h0) ch0).add (w2.heap.size) 1 (.int .i64 m1) cm1).add (w2.heap.size) 0 (.int .i64 m0) cm0).add (w.heap.size + 1) 1 (.int .i64 b1) cb1).add (w.heap.size + 1) 0 (.int .i64 b0) cb0).add (w.heap.size) 1 (.int .i64 a1) ca1).add (w.heap.size) 0 (.int .i64 a0) ca0).drew
  have kca0 : ∀ W, Kp w [(w.heap.size, 0, .int .i64 a0), (w.heap.size, 1, .int .i64 a1), (w.heap.size + 1, 0, .int .i64 b0), (w.heap.size + 1, 1, .int .i64 b1), (w2.heap.size, 0, .int .i64 m0), (w2.heap.size, 1, .int .i64 m1), (w4.heap.size, 0, .int .i64 h0), (w4.heap.size, 1, .int .i64 h1)] W → W.cell? ⟨w.heap.size, 0, none⟩ = some (.int .i64 a0) := fun _ h => h.at0
  have kca1 : ∀ W, Kp w [(w.heap.size, 0, .int .i64 a0), (w.heap.size, 1, .int .i64 a1), (w.heap.size + 1, 0, .int .i64 b0), (w.heap.size + 1, 1, .int .i64 b1), (w2.heap.size, 0, .int .i64 m0), (w2.heap.size, 1, .int .i64 m1), (w4.heap.size, 0, .int .i64 h0), (w4.heap.size, 1, .int .i64 h1)] W → W.cell? ⟨w.heap.size, 1, none⟩ = some (.int .i64 a1) := fun _ h => h.tl.at0
  have kcb0 : ∀ W, Kp w [(w.heap.size, 0, .int .i64 a0), (w.heap.size, 1, .int .i64 a1), (w.heap.size + 1, 0, .int .i64 b0), (w.heap.size + 1, 1, .int .i64 b1), (w2.heap.size, 0, .int .i64 m0), (w2.heap.size, 1, .int .i64 m1), (w4.heap.size, 0, .int .i64 h0), (w4.heap.size, 1, .int .i64 h1)] W → W.cell? ⟨w.heap.size + 1, 0, none⟩ = some (.int .i64 b0) := fun _ h => h.tl.tl.at0
  have kcb1 : ∀ W, Kp w [(w.heap.size, 0, .int .i64 a0), (w.heap.size, 1, .int .i64 a1), (w.heap.size + 1, 0, .int .i64 b0), (w.heap.size + 1, 1, .int .i64 b1), (w2.heap.size, 0, .int .i64 m0), (w2.heap.size, 1, .int .i64 m1), (w4.heap.size, 0, .int .i64 h0), (w4.heap.size, 1, .int .i64 h1)] W → W.cell? ⟨w.heap.size + 1, 1, none⟩ = some (.int .i64 b1) := fun _ h => h.tl.tl.tl.at0
  have kcm0 : ∀ W, Kp w [(w.heap.size, 0, .int .i64 a0), (w.heap.size, 1, .int .i64 a1), (w.heap.size + 1, 0, .int .i64 b0), (w.heap.size + 1, 1, .int .i64 b1), (w2.heap.size, 0, .int .i64 m0), (w2.heap.size, 1, .int .i64 m1), (w4.heap.size, 0, .int .i64 h0), (w4.heap.size, 1, .int .i64 h1)] W → W.cell? ⟨w2.heap.size, 0, none⟩ = some (.int .i64 m0) := fun _ h => h.tl.tl.tl.tl.at0
  have kcm1 : ∀ W, Kp w [(w.heap.size, 0, .int .i64 a0), (w.heap.size, 1, .int .i64 a1), (w.heap.size + 1, 0, .int .i64 b0), (w.heap.size + 1, 1, .int .i64 b1), (w2.heap.size, 0, .int .i64 m0), (w2.heap.size, 1, .int .i64 m1), (w4.heap.size, 0, .int .i64 h0), (w4.heap.size, 1, .int .i64 h1)] W → W.cell? ⟨w2.heap.size, 1, none⟩ = some (.int .i64 m1) := fun _ h => h.tl.tl.tl.tl.tl.at0
  have kch0 : ∀ W, Kp w [(w.heap.size, 0, .int .i64 a0), (w.heap.size, 1, .int .i64 a1), (w.heap.size + 1, 0, .int .i64 b0), (w.heap.size + 1, 1, .int .i64 b1), (w2.heap.size, 0, .int .i64 m0), (w2.heap.size, 1, .int .i64 m1), (w4.heap.size, 0, .int .i64 h0), (w4.heap.size, 1, .int .i64 h1)] W → W.cell? ⟨w4.heap.size, 0, none⟩ = some (.int .i64 h0) := fun _ h => h.tl.tl.tl.tl.tl.tl.at0
  have kch1 : ∀ W, Kp w [(w.heap.size, 0, .int .i64 a0), (w.heap.size, 1, .int .i64 a1), (w.heap.size + 1, 0, .int .i64 b0), (w.heap.size + 1, 1, .int .i64 b1), (w2.heap.size, 0, .int .i64 m0), (w2.heap.size, 1, .int .i64 m1), (w4.heap.size, 0, .int .i64 h0), (w4.heap.size, 1, .int .i64 h1)] W → W.cell? ⟨w4.heap.size, 1, none⟩ = some (.int .i64 h1) := fun _ h => h.tl.tl.tl.tl.tl.tl.tl.at0
  clear ca0 ca1 cb0 cb1 cm0 cm1 ch0 ch1 hB hz
  first
    | go_region_held3 (fun W => Kp w [(w.heap.size, 0, .int .i64 a0), (w.heap.size, 1, .int .i64 a1), (w.heap.size + 1, 0, .int .i64 b0), (w.heap.size + 1, 1, .int .i64 b1), (w2.heap.size, 0, .int .i64 m0), (w2.heap.size, 1, .int .i64 m1), (w4.heap.size, 0, .int .i64 h0), (w4.heap.size, 1, .int .i64 h1)] W)
    (first | (with_reducible exact hK) | (with_reducible assumption) | (with_reducible exact Kp.step (by assumption) hb) | (with_reducible exact Kp.alloc (by assumption) _))
    (first
     | (go_at_call 34; ((with_reducible refine (has_anyN _ _ _ _).mono ?_); rintro e wn ⟨rfl, hb⟩)))
    | fail
  obtain ⟨w7, rfl⟩ : ∃ W, W = wn := ⟨_, rfl⟩
  have ca0 : w7.cell? ⟨w.heap.size, 0, none⟩ = some (.int .i64 a0) := kca0 _ (by assumption)
  have ca1 : w7.cell? ⟨w.heap.size, 1, none⟩ = some (.int .i64 a1) := kca1 _ (by assumption)
  have cb0 : w7.cell? ⟨w.heap.size + 1, 0, none⟩ = some (.int .i64 b0) := kcb0 _ (by assumption)
  have cb1 : w7.cell? ⟨w.heap.size + 1, 1, none⟩ = some (.int .i64 b1) := kcb1 _ (by assumption)
  have cm0 : w7.cell? ⟨w2.heap.size, 0, none⟩ = some (.int .i64 m0) := kcm0 _ (by assumption)
  have cm1 : w7.cell? ⟨w2.heap.size, 1, none⟩ = some (.int .i64 m1) := kcm1 _ (by assumption)
  have ch0 : w7.cell? ⟨w4.heap.size, 0, none⟩ = some (.int .i64 h0) := kch0 _ (by assumption)
  have ch1 : w7.cell? ⟨w4.heap.size, 1, none⟩ = some (.int .i64 h1) := kch1 _ (by assumption)
  have hB : Below w.heap.size w w7 := kp_below (by assumption)
  clear kca0 kca1 kcb0 kcb1 kcm0 kcm1 kch0 kch1 hK
  have nca0 : w.heap.size < w7.heap.size := block_of_cell ca0
  have ncb0 : w.heap.size + 1 < w7.heap.size := block_of_cell cb0
  have ncm0 : w2.heap.size < w7.heap.size := block_of_cell cm0
  have nch0 : w4.heap.size < w7.heap.size := block_of_cell ch0
  go_wp2_with fail
  refine (has_anyN _ _ _ _).mono ?_
  rintro e w8 ⟨rfl, hb⟩
  have hq : Below w7.heap.size w7 w8 := bstep (by go_grown) hb
  replace ca0 := cell_kept ca0 hq
  replace ca1 := cell_kept ca1 hq
  replace cb0 := cell_kept cb0 hq
  replace cb1 := cell_kept cb1 hq
  replace cm0 := cell_kept cm0 hq
  replace cm1 := cell_kept cm1 hq
  replace ch0 := cell_kept ch0 hq
  replace ch1 := cell_kept ch1 hq
  replace hB := bstep hB hq
  clear hq
  clear hb
  have nca0 : w.heap.size < w8.heap.size := block_of_cell ca0
  have ncb0 : w.heap.size + 1 < w8.heap.size := block_of_cell cb0
  have ncm0 : w2.heap.size < w8.heap.size := block_of_cell cm0
  have nch0 : w4.heap.size < w8.heap.size := block_of_cell ch0
  go_upto_region 17 with fail
  go_cut [16] (fun s wx => s = .bool true ∧ w8 = wx)
  case first =>
    obtain ⟨g0 | ⟨g0, g1⟩, g2 | ⟨g2, g3⟩⟩ := HD.out
    all_goals
      go_wp2
      go_meet
      exact ⟨rfl, rfl⟩
  case rest =>
    obtain ⟨rfl, rfl⟩ := hcut
    go_wp2_with fail
    have kca0 := cell_regrown ca0
    have kca1 := cell_regrown ca1
    have kcb0 := cell_regrown cb0
    have kcb1 := cell_regrown cb1
    have kcm0 := cell_regrown cm0
    have kcm1 := cell_regrown cm1
    have kch0 := cell_regrown ch0
    have kch1 := cell_regrown ch1
    refine wp_region_quiet_below (by kernel_rfl) (by kernel_rfl) ?_
    repeat (go_big_quiet_step (first | (go_at_call 34; with_reducible exact Calls.regrown_of (has_anyN _ _ _ _)) | (go_at_call 31; with_reducible exact Calls.regrown_of (length_anyN _ _ _))))
    refine wpQuiet_nil ?_
    intro _ hw9
    obtain ⟨⟨dq, osq⟩, hw9⟩ := hw9
    subst hw9
    go_wp2
    all_goals
      go_ret
      have hl := HL.out
      refine ⟨?_, bstep hB (below_regrown _ _ _)⟩
      simp
      (try split) <;> omega

set_option maxRecDepth 100000 in
set_option maxHeartbeats 8000000 in
theorem cov_e_ftt (a0 a1 b0 b1 x h0 h1 m0 m1 : Int) (hv1 : validB a0 a1 = true) (hv2 : validB b0 b1 = true) (hO : meetB a0 a1 b0 b1 = true) (hZ : meetZ a0 a1 b0 b1 = (m0, m1)) (hN : hullN a0 a1 b0 b1 = 0) (hH : hullZ a0 a1 b0 b1 = (h0, h1)) (hA : hasB a0 a1 x = false) (hB2 : hasB b0 b1 x = true) (hM : hasB m0 m1 x = false) (hHh : hasB a0 a1 x = true ∨ hasB b0 b1 x = true → hasB h0 h1 x = true) (hd0 : (h0 == a0) = true ∨ ((h0 == a0) = false ∧ (h0 == b0) = true)) (hd1 : (h1 == a1) = true ∨ ((h1 == a1) = false ∧ (h1 == b1) = true)) (hla : lenZ a0 a1 ≤ lenZ h0 h1) (hlb : lenZ b0 b1 ≤ lenZ h0 h1) (L : List (Int × Int)) (hL : minusL a0 a1 b0 b1 = L) (hLe : L.length = 0) (hML : L.length ≤ 2) (hcnt : ((cnt L x : Nat) : Int) = 0) (w : World) : Calls Try.prog 10 #[.agg #[.int .i64 a0, .int .i64 a1], .agg #[.int .i64 b0, .int .i64 b1], .int .i64 x] w fun e w' => e = .returned (.bool true) ∧ Below w.heap.size w w' := by
  have cMeet := fun W => meet_is a0 a1 b0 b1 m0 m1 true W hO hZ
  have cHull := fun W => hull_is a0 a1 b0 b1 h0 h1 W hN hH
  have cMin := fun W => minus_is a0 a1 b0 b1 L W hL
  clear hO hZ hN hH hL
  have hHi : hasB h0 h1 x = true := hHh (by first | exact .inl hA | exact .inr hB2)
  clear hHh
  have HL := Lib.hid (And.intro hla hlb)
  clear hla hlb
  have HD := Lib.hid (And.intro hd0 hd1)
  clear hd0 hd1
  obtain rfl : L = [] := List.length_eq_zero_iff.1 hLe
  clear hLe hcnt
  go_enter Try.func10, Try.ntmps10
  go_wp2_with fail
  refine (awake_any _).mono ?_
  rintro e w1 ⟨rfl, hb⟩
  have ca0 : w1.cell? ⟨w.heap.size, 0, none⟩ = some (.int .i64 a0) := cell_kept (by simp) hb
  have ca1 : w1.cell? ⟨w.heap.size, 1, none⟩ = some (.int .i64 a1) := cell_kept (by simp) hb
  have cb0 : w1.cell? ⟨w.heap.size + 1, 0, none⟩ = some (.int .i64 b0) := cell_kept (by simp) hb
  have cb1 : w1.cell? ⟨w.heap.size + 1, 1, none⟩ = some (.int .i64 b1) := cell_kept (by simp) hb
  have hB : Below w.heap.size w w1 := bstep (by go_grown) hb
  clear hb
  have nca0 : w.heap.size < w1.heap.size := block_of_cell ca0
  have ncb0 : w.heap.size + 1 < w1.heap.size := block_of_cell cb0
  go_wp2_with fail
  refine (cMeet _).mono ?_
  rintro e w2 ⟨rfl, hb⟩
  have hq : Below w1.heap.size w1 w2 := bstep (by go_grown) hb
  replace ca0 := cell_kept ca0 hq
  replace ca1 := cell_kept ca1 hq
  replace cb0 := cell_kept cb0 hq
  replace cb1 := cell_kept cb1 hq
  replace hB := bstep hB hq
  clear hq
  clear hb
  have nca0 : w.heap.size < w2.heap.size := block_of_cell ca0
  have ncb0 : w.heap.size + 1 < w2.heap.size := block_of_cell cb0
  go_wp2_with fail
  refine (cMin _).mono ?_
  rintro e w3 ⟨v, rfl, hsl, hb⟩; obtain ⟨ad1, cp1, rfl⟩ := hsl.form; clear hsl
  have hq : Below w2.heap.size w2 w3 := bstep (by go_grown) hb
  replace ca0 := cell_kept ca0 hq
  replace ca1 := cell_kept ca1 hq
  replace cb0 := cell_kept cb0 hq
  replace cb1 := cell_kept cb1 hq
  have cm0 : w3.cell? ⟨w2.heap.size, 0, none⟩ = some (.int .i64 m0) := cell_kept (by simp) hb
  have cm1 : w3.cell? ⟨w2.heap.size, 1, none⟩ = some (.int .i64 m1) := cell_kept (by simp) hb
  replace hB := bstep hB hq
  clear hq
  clear hb
  have nca0 : w.heap.size < w3.heap.size := block_of_cell ca0
  have ncb0 : w.heap.size + 1 < w3.heap.size := block_of_cell cb0
  have ncm0 : w2.heap.size < w3.heap.size := block_of_cell cm0
  go_wp2_with fail
  refine wp_loop_rounds 1 ?_
  rw [rounds_succ]
  go_wp2_with fail
  refine (cHull _).mono ?_
  rintro e w4 ⟨rfl, hb⟩
  have hq : Below w3.heap.size w3 w4 := bstep (by go_grown) hb
  replace ca0 := cell_kept ca0 hq
  replace ca1 := cell_kept ca1 hq
  replace cb0 := cell_kept cb0 hq
  replace cb1 := cell_kept cb1 hq
  replace cm0 := cell_kept cm0 hq
  replace cm1 := cell_kept cm1 hq
  replace hB := bstep hB hq
  clear hq
  clear hb
  have nca0 : w.heap.size < w4.heap.size := block_of_cell ca0
  have ncb0 : w.heap.size + 1 < w4.heap.size := block_of_cell cb0
  have ncm0 : w2.heap.size < w4.heap.size := block_of_cell cm0
  go_wp2_with fail
  refine (valid_any _ _ _).mono ?_
  rintro e w5 ⟨rfl, hb⟩
  have hq : Below w4.heap.size w4 w5 := bstep (by go_grown) hb
  replace ca0 := cell_kept ca0 hq
  replace ca1 := cell_kept ca1 hq
  replace cb0 := cell_kept cb0 hq
  replace cb1 := cell_kept cb1 hq
  replace cm0 := cell_kept cm0 hq
  replace cm1 := cell_kept cm1 hq
  have ch0 : w5.cell? ⟨w4.heap.size, 0, none⟩ = some (.int .i64 h0) := cell_kept (by simp) hb
  have ch1 : w5.cell? ⟨w4.heap.size, 1, none⟩ = some (.int .i64 h1) := cell_kept (by simp) hb
  replace hB := bstep hB hq
  clear hq
  clear hb
  have nca0 : w.heap.size < w5.heap.size := block_of_cell ca0
  have ncb0 : w.heap.size + 1 < w5.heap.size := block_of_cell cb0
  have ncm0 : w2.heap.size < w5.heap.size := block_of_cell cm0
  have nch0 : w4.heap.size < w5.heap.size := block_of_cell ch0
  go_wp2_with fail
  refine (valid_any _ _ _).mono ?_
  rintro e w6 ⟨rfl, hb⟩
  have hq : Below w5.heap.size w5 w6 := bstep (by go_grown) hb
  replace ca0 := cell_kept ca0 hq
  replace ca1 := cell_kept ca1 hq
  replace cb0 := cell_kept cb0 hq
  replace cb1 := cell_kept cb1 hq
  replace cm0 := cell_kept cm0 hq
  replace cm1 := cell_kept cm1 hq
  replace ch0 := cell_kept ch0 hq
  replace ch1 := cell_kept ch1 hq
  replace hB := bstep hB hq
  clear hq
  clear hb
  have nca0 : w.heap.size < w6.heap.size := block_of_cell ca0
  have ncb0 : w.heap.size + 1 < w6.heap.size := block_of_cell cb0
  have ncm0 : w2.heap.size < w6.heap.size := block_of_cell cm0
  have nch0 : w4.heap.size < w6.heap.size := block_of_cell ch0
  go_wp2_with fail
  have hz := hB.size
  have hK : Kp w [(w.heap.size, 0, .int .i64 a0), (w.heap.size, 1, .int .i64 a1), (w.heap.size + 1, 0, .int .i64 b0), (w.heap.size + 1, 1, .int .i64 b1), (w2.heap.size, 0, .int .i64 m0), (w2.heap.size, 1, .int .i64 m1), (w4.heap.size, 0, .int .i64 h0), (w4.heap.size, 1, .int .i64 h1)] w6.drew := (((((((((Kp.start hB).add (w4.heap.size) 1 (.int .i64 h1) ch1).add (w4.heap.size) 0 (.int .i64 h0) ch0).add (w2.heap.size) 1 (.int .i64 m1) cm1).add (w2.heap.size) 0 (.int .i64 m0) cm0).add (w.heap.size + 1) 1 (.int .i64 b1) cb1).add (w.heap.size + 1) 0 (.int .i64 b0) cb0).add (w.heap.size) 1 (.int .i64 a1) ca1).add (w.heap.size) 0 (.int .i64 a0) ca0).drew
  have kca0 : ∀ W, Kp w [(w.heap.size, 0, .int .i64 a0), (w.heap.size, 1, .int .i64 a1), (w.heap.size + 1, 0, .int .i64 b0), (w.heap.size + 1, 1, .int .i64 b1), (w2.heap.size, 0, .int .i64 m0), (w2.heap.size, 1, .int .i64 m1), (w4.heap.size, 0, .int .i64 h0), (w4.heap.size, 1, .int .i64 h1)] W → W.cell? ⟨w.heap.size, 0, none⟩ = some (.int .i64 a0) := fun _ h => h.at0
  have kca1 : ∀ W, Kp w [(w.heap.size, 0, .int .i64 a0), (w.heap.size, 1, .int .i64 a1), (w.heap.size + 1, 0, .int .i64 b0), (w.heap.size + 1, 1, .int .i64 b1), (w2.heap.size, 0, .int .i64 m0), (w2.heap.size, 1, .int .i64 m1), (w4.heap.size, 0, .int .i64 h0), (w4.heap.size, 1, .int .i64 h1)] W → W.cell? ⟨w.heap.size, 1, none⟩ = some (.int .i64 a1) := fun _ h => h.tl.at0
  have kcb0 : ∀ W, Kp w [(w.heap.size, 0, .int .i64 a0), (w.heap.size, 1, .int .i64 a1), (w.heap.size + 1, 0, .int .i64 b0), (w.heap.size + 1, 1, .int .i64 b1), (w2.heap.size, 0, .int .i64 m0), (w2.heap.size, 1, .int .i64 m1), (w4.heap.size, 0, .int .i64 h0), (w4.heap.size, 1, .int .i64 h1)] W → W.cell? ⟨w.heap.size + 1, 0, none⟩ = some (.int .i64 b0) := fun _ h => h.tl.tl.at0
  have kcb1 : ∀ W, Kp w [(w.heap.size, 0, .int .i64 a0), (w.heap.size, 1, .int .i64 a1), (w.heap.size + 1, 0, .int .i64 b0), (w.heap.size + 1, 1, .int .i64 b1), (w2.heap.size, 0, .int .i64 m0), (w2.heap.size, 1, .int .i64 m1), (w4.heap.size, 0, .int .i64 h0), (w4.heap.size, 1, .int .i64 h1)] W → W.cell? ⟨w.heap.size + 1, 1, none⟩ = some (.int .i64 b1) := fun _ h => h.tl.tl.tl.at0
  have kcm0 : ∀ W, Kp w [(w.heap.size, 0, .int .i64 a0), (w.heap.size, 1, .int .i64 a1), (w.heap.size + 1, 0, .int .i64 b0), (w.heap.size + 1, 1, .int .i64 b1), (w2.heap.size, 0, .int .i64 m0), (w2.heap.size, 1, .int .i64 m1), (w4.heap.size, 0, .int .i64 h0), (w4.heap.size, 1, .int .i64 h1)] W → W.cell? ⟨w2.heap.size, 0, none⟩ = some (.int .i64 m0) := fun _ h => h.tl.tl.tl.tl.at0
  have kcm1 : ∀ W, Kp w [(w.heap.size, 0, .int .i64 a0), (w.heap.size, 1, .int .i64 a1), (w.heap.size + 1, 0, .int .i64 b0), (w.heap.size + 1, 1, .int .i64 b1), (w2.heap.size, 0, .int .i64 m0), (w2.heap.size, 1, .int .i64 m1), (w4.heap.size, 0, .int .i64 h0), (w4.heap.size, 1, .int .i64 h1)] W → W.cell? ⟨w2.heap.size, 1, none⟩ = some (.int .i64 m1) := fun _ h => h.tl.tl.tl.tl.tl.at0
  have kch0 : ∀ W, Kp w [(w.heap.size, 0, .int .i64 a0), (w.heap.size, 1, .int .i64 a1), (w.heap.size + 1, 0, .int .i64 b0), (w.heap.size + 1, 1, .int .i64 b1), (w2.heap.size, 0, .int .i64 m0), (w2.heap.size, 1, .int .i64 m1), (w4.heap.size, 0, .int .i64 h0), (w4.heap.size, 1, .int .i64 h1)] W → W.cell? ⟨w4.heap.size, 0, none⟩ = some (.int .i64 h0) := fun _ h => h.tl.tl.tl.tl.tl.tl.at0
  have kch1 : ∀ W, Kp w [(w.heap.size, 0, .int .i64 a0), (w.heap.size, 1, .int .i64 a1), (w.heap.size + 1, 0, .int .i64 b0), (w.heap.size + 1, 1, .int .i64 b1), (w2.heap.size, 0, .int .i64 m0), (w2.heap.size, 1, .int .i64 m1), (w4.heap.size, 0, .int .i64 h0), (w4.heap.size, 1, .int .i64 h1)] W → W.cell? ⟨w4.heap.size, 1, none⟩ = some (.int .i64 h1) := fun _ h => h.tl.tl.tl.tl.tl.tl.tl.at0
  clear ca0 ca1 cb0 cb1 cm0 cm1 ch0 ch1 hB hz
  first
    | go_region_held3 (fun W => Kp w [(w.heap.size, 0, .int .i64 a0), (w.heap.size, 1, .int .i64 a1), (w.heap.size + 1, 0, .int .i64 b0), (w.heap.size + 1, 1, .int .i64 b1), (w2.heap.size, 0, .int .i64 m0), (w2.heap.size, 1, .int .i64 m1), (w4.heap.size, 0, .int .i64 h0), (w4.heap.size, 1, .int .i64 h1)] W)
    (first | (with_reducible exact hK) | (with_reducible assumption) | (with_reducible exact Kp.step (by assumption) hb) | (with_reducible exact Kp.alloc (by assumption) _))
    (first
     | (go_at_call 34; ((with_reducible refine (has_anyN _ _ _ _).mono ?_); rintro e wn ⟨rfl, hb⟩)))
    | fail
  obtain ⟨w7, rfl⟩ : ∃ W, W = wn := ⟨_, rfl⟩
  have ca0 : w7.cell? ⟨w.heap.size, 0, none⟩ = some (.int .i64 a0) := kca0 _ (by assumption)
  have ca1 : w7.cell? ⟨w.heap.size, 1, none⟩ = some (.int .i64 a1) := kca1 _ (by assumption)
  have cb0 : w7.cell? ⟨w.heap.size + 1, 0, none⟩ = some (.int .i64 b0) := kcb0 _ (by assumption)
  have cb1 : w7.cell? ⟨w.heap.size + 1, 1, none⟩ = some (.int .i64 b1) := kcb1 _ (by assumption)
  have cm0 : w7.cell? ⟨w2.heap.size, 0, none⟩ = some (.int .i64 m0) := kcm0 _ (by assumption)
  have cm1 : w7.cell? ⟨w2.heap.size, 1, none⟩ = some (.int .i64 m1) := kcm1 _ (by assumption)
  have ch0 : w7.cell? ⟨w4.heap.size, 0, none⟩ = some (.int .i64 h0) := kch0 _ (by assumption)
  have ch1 : w7.cell? ⟨w4.heap.size, 1, none⟩ = some (.int .i64 h1) := kch1 _ (by assumption)
  have hB : Below w.heap.size w w7 := kp_below (by assumption)
  clear kca0 kca1 kcb0 kcb1 kcm0 kcm1 kch0 kch1 hK
  have nca0 : w.heap.size < w7.heap.size := block_of_cell ca0
  have ncb0 : w.heap.size + 1 < w7.heap.size := block_of_cell cb0
  have ncm0 : w2.heap.size < w7.heap.size := block_of_cell cm0
  have nch0 : w4.heap.size < w7.heap.size := block_of_cell ch0
  go_wp2_with fail
  refine (has_anyN _ _ _ _).mono ?_
  rintro e w8 ⟨rfl, hb⟩
  have hq : Below w7.heap.size w7 w8 := bstep (by go_grown) hb
  replace ca0 := cell_kept ca0 hq
  replace ca1 := cell_kept ca1 hq
  replace cb0 := cell_kept cb0 hq
  replace cb1 := cell_kept cb1 hq
  replace cm0 := cell_kept cm0 hq
  replace cm1 := cell_kept cm1 hq
  replace ch0 := cell_kept ch0 hq
  replace ch1 := cell_kept ch1 hq
  replace hB := bstep hB hq
  clear hq
  clear hb
  have nca0 : w.heap.size < w8.heap.size := block_of_cell ca0
  have ncb0 : w.heap.size + 1 < w8.heap.size := block_of_cell cb0
  have ncm0 : w2.heap.size < w8.heap.size := block_of_cell cm0
  have nch0 : w4.heap.size < w8.heap.size := block_of_cell ch0
  go_upto_region 17 with fail
  go_cut [16] (fun s wx => s = .bool true ∧ w8 = wx)
  case first =>
    obtain ⟨g0 | ⟨g0, g1⟩, g2 | ⟨g2, g3⟩⟩ := HD.out
    all_goals
      go_wp2
      go_meet
      exact ⟨rfl, rfl⟩
  case rest =>
    obtain ⟨rfl, rfl⟩ := hcut
    go_wp2_with fail
    have kca0 := cell_regrown ca0
    have kca1 := cell_regrown ca1
    have kcb0 := cell_regrown cb0
    have kcb1 := cell_regrown cb1
    have kcm0 := cell_regrown cm0
    have kcm1 := cell_regrown cm1
    have kch0 := cell_regrown ch0
    have kch1 := cell_regrown ch1
    refine wp_region_quiet_below (by kernel_rfl) (by kernel_rfl) ?_
    repeat (go_big_quiet_step (first | (go_at_call 34; with_reducible exact Calls.regrown_of (has_anyN _ _ _ _)) | (go_at_call 31; with_reducible exact Calls.regrown_of (length_anyN _ _ _))))
    refine wpQuiet_nil ?_
    intro _ hw9
    obtain ⟨⟨dq, osq⟩, hw9⟩ := hw9
    subst hw9
    go_wp2
    all_goals
      go_ret
      have hl := HL.out
      refine ⟨?_, bstep hB (below_regrown _ _ _)⟩
      simp
      (try split) <;> omega

set_option maxRecDepth 100000 in
set_option maxHeartbeats 8000000 in
theorem cov_e_ftf (a0 a1 b0 b1 x h0 h1 m0 m1 : Int) (hv1 : validB a0 a1 = true) (hv2 : validB b0 b1 = true) (hO : meetB a0 a1 b0 b1 = false) (hZ : meetZ a0 a1 b0 b1 = (m0, m1)) (hN : hullN a0 a1 b0 b1 = 0) (hH : hullZ a0 a1 b0 b1 = (h0, h1)) (hA : hasB a0 a1 x = false) (hB2 : hasB b0 b1 x = true) (hM : hasB m0 m1 x = false) (hHh : hasB a0 a1 x = true ∨ hasB b0 b1 x = true → hasB h0 h1 x = true) (hd0 : (h0 == a0) = true ∨ ((h0 == a0) = false ∧ (h0 == b0) = true)) (hd1 : (h1 == a1) = true ∨ ((h1 == a1) = false ∧ (h1 == b1) = true)) (hla : lenZ a0 a1 ≤ lenZ h0 h1) (hlb : lenZ b0 b1 ≤ lenZ h0 h1) (L : List (Int × Int)) (hL : minusL a0 a1 b0 b1 = L) (hLe : L.length = 0) (hML : L.length ≤ 2) (hcnt : ((cnt L x : Nat) : Int) = 0) (w : World) : Calls Try.prog 10 #[.agg #[.int .i64 a0, .int .i64 a1], .agg #[.int .i64 b0, .int .i64 b1], .int .i64 x] w fun e w' => e = .returned (.bool true) ∧ Below w.heap.size w w' := by
  have cMeet := fun W => meet_is a0 a1 b0 b1 m0 m1 false W hO hZ
  have cHull := fun W => hull_is a0 a1 b0 b1 h0 h1 W hN hH
  have cMin := fun W => minus_is a0 a1 b0 b1 L W hL
  clear hO hZ hN hH hL
  have hHi : hasB h0 h1 x = true := hHh (by first | exact .inl hA | exact .inr hB2)
  clear hHh
  have HL := Lib.hid (And.intro hla hlb)
  clear hla hlb
  have HD := Lib.hid (And.intro hd0 hd1)
  clear hd0 hd1
  obtain rfl : L = [] := List.length_eq_zero_iff.1 hLe
  clear hLe hcnt
  go_enter Try.func10, Try.ntmps10
  go_wp2_with fail
  refine (awake_any _).mono ?_
  rintro e w1 ⟨rfl, hb⟩
  have ca0 : w1.cell? ⟨w.heap.size, 0, none⟩ = some (.int .i64 a0) := cell_kept (by simp) hb
  have ca1 : w1.cell? ⟨w.heap.size, 1, none⟩ = some (.int .i64 a1) := cell_kept (by simp) hb
  have cb0 : w1.cell? ⟨w.heap.size + 1, 0, none⟩ = some (.int .i64 b0) := cell_kept (by simp) hb
  have cb1 : w1.cell? ⟨w.heap.size + 1, 1, none⟩ = some (.int .i64 b1) := cell_kept (by simp) hb
  have hB : Below w.heap.size w w1 := bstep (by go_grown) hb
  clear hb
  have nca0 : w.heap.size < w1.heap.size := block_of_cell ca0
  have ncb0 : w.heap.size + 1 < w1.heap.size := block_of_cell cb0
  go_wp2_with fail
  refine (cMeet _).mono ?_
  rintro e w2 ⟨rfl, hb⟩
  have hq : Below w1.heap.size w1 w2 := bstep (by go_grown) hb
  replace ca0 := cell_kept ca0 hq
  replace ca1 := cell_kept ca1 hq
  replace cb0 := cell_kept cb0 hq
  replace cb1 := cell_kept cb1 hq
  replace hB := bstep hB hq
  clear hq
  clear hb
  have nca0 : w.heap.size < w2.heap.size := block_of_cell ca0
  have ncb0 : w.heap.size + 1 < w2.heap.size := block_of_cell cb0
  go_wp2_with fail
  refine (cMin _).mono ?_
  rintro e w3 ⟨v, rfl, hsl, hb⟩; obtain ⟨ad1, cp1, rfl⟩ := hsl.form; clear hsl
  have hq : Below w2.heap.size w2 w3 := bstep (by go_grown) hb
  replace ca0 := cell_kept ca0 hq
  replace ca1 := cell_kept ca1 hq
  replace cb0 := cell_kept cb0 hq
  replace cb1 := cell_kept cb1 hq
  have cm0 : w3.cell? ⟨w2.heap.size, 0, none⟩ = some (.int .i64 m0) := cell_kept (by simp) hb
  have cm1 : w3.cell? ⟨w2.heap.size, 1, none⟩ = some (.int .i64 m1) := cell_kept (by simp) hb
  replace hB := bstep hB hq
  clear hq
  clear hb
  have nca0 : w.heap.size < w3.heap.size := block_of_cell ca0
  have ncb0 : w.heap.size + 1 < w3.heap.size := block_of_cell cb0
  have ncm0 : w2.heap.size < w3.heap.size := block_of_cell cm0
  go_wp2_with fail
  refine wp_loop_rounds 1 ?_
  rw [rounds_succ]
  go_wp2_with fail
  refine (cHull _).mono ?_
  rintro e w4 ⟨rfl, hb⟩
  have hq : Below w3.heap.size w3 w4 := bstep (by go_grown) hb
  replace ca0 := cell_kept ca0 hq
  replace ca1 := cell_kept ca1 hq
  replace cb0 := cell_kept cb0 hq
  replace cb1 := cell_kept cb1 hq
  replace cm0 := cell_kept cm0 hq
  replace cm1 := cell_kept cm1 hq
  replace hB := bstep hB hq
  clear hq
  clear hb
  have nca0 : w.heap.size < w4.heap.size := block_of_cell ca0
  have ncb0 : w.heap.size + 1 < w4.heap.size := block_of_cell cb0
  have ncm0 : w2.heap.size < w4.heap.size := block_of_cell cm0
  go_wp2_with fail
  refine (valid_any _ _ _).mono ?_
  rintro e w5 ⟨rfl, hb⟩
  have hq : Below w4.heap.size w4 w5 := bstep (by go_grown) hb
  replace ca0 := cell_kept ca0 hq
  replace ca1 := cell_kept ca1 hq
  replace cb0 := cell_kept cb0 hq
  replace cb1 := cell_kept cb1 hq
  replace cm0 := cell_kept cm0 hq
  replace cm1 := cell_kept cm1 hq
  have ch0 : w5.cell? ⟨w4.heap.size, 0, none⟩ = some (.int .i64 h0) := cell_kept (by simp) hb
  have ch1 : w5.cell? ⟨w4.heap.size, 1, none⟩ = some (.int .i64 h1) := cell_kept (by simp) hb
  replace hB := bstep hB hq
  clear hq
  clear hb
  have nca0 : w.heap.size < w5.heap.size := block_of_cell ca0
  have ncb0 : w.heap.size + 1 < w5.heap.size := block_of_cell cb0
  have ncm0 : w2.heap.size < w5.heap.size := block_of_cell cm0
  have nch0 : w4.heap.size < w5.heap.size := block_of_cell ch0
  go_wp2_with fail
  refine (valid_any _ _ _).mono ?_
  rintro e w6 ⟨rfl, hb⟩
  have hq : Below w5.heap.size w5 w6 := bstep (by go_grown) hb
  replace ca0 := cell_kept ca0 hq
  replace ca1 := cell_kept ca1 hq
  replace cb0 := cell_kept cb0 hq
  replace cb1 := cell_kept cb1 hq
  replace cm0 := cell_kept cm0 hq
  replace cm1 := cell_kept cm1 hq
  replace ch0 := cell_kept ch0 hq
  replace ch1 := cell_kept ch1 hq
  replace hB := bstep hB hq
  clear hq
  clear hb
  have nca0 : w.heap.size < w6.heap.size := block_of_cell ca0
  have ncb0 : w.heap.size + 1 < w6.heap.size := block_of_cell cb0
  have ncm0 : w2.heap.size < w6.heap.size := block_of_cell cm0
  have nch0 : w4.heap.size < w6.heap.size := block_of_cell ch0
  go_wp2_with fail
  have hz := hB.size
  have hK : Kp w [(w.heap.size, 0, .int .i64 a0), (w.heap.size, 1, .int .i64 a1), (w.heap.size + 1, 0, .int .i64 b0), (w.heap.size + 1, 1, .int .i64 b1), (w2.heap.size, 0, .int .i64 m0), (w2.heap.size, 1, .int .i64 m1), (w4.heap.size, 0, .int .i64 h0), (w4.heap.size, 1, .int .i64 h1)] w6.drew := (((((((((Kp.start hB).add (w4.heap.size) 1 (.int .i64 h1) ch1).add (w4.heap.size) 0 (.int .i64 h0) ch0).add (w2.heap.size) 1 (.int .i64 m1) cm1).add (w2.heap.size) 0 (.int .i64 m0) cm0).add (w.heap.size + 1) 1 (.int .i64 b1) cb1).add (w.heap.size + 1) 0 (.int .i64 b0) cb0).add (w.heap.size) 1 (.int .i64 a1) ca1).add (w.heap.size) 0 (.int .i64 a0) ca0).drew
  have kca0 : ∀ W, Kp w [(w.heap.size, 0, .int .i64 a0), (w.heap.size, 1, .int .i64 a1), (w.heap.size + 1, 0, .int .i64 b0), (w.heap.size + 1, 1, .int .i64 b1), (w2.heap.size, 0, .int .i64 m0), (w2.heap.size, 1, .int .i64 m1), (w4.heap.size, 0, .int .i64 h0), (w4.heap.size, 1, .int .i64 h1)] W → W.cell? ⟨w.heap.size, 0, none⟩ = some (.int .i64 a0) := fun _ h => h.at0
  have kca1 : ∀ W, Kp w [(w.heap.size, 0, .int .i64 a0), (w.heap.size, 1, .int .i64 a1), (w.heap.size + 1, 0, .int .i64 b0), (w.heap.size + 1, 1, .int .i64 b1), (w2.heap.size, 0, .int .i64 m0), (w2.heap.size, 1, .int .i64 m1), (w4.heap.size, 0, .int .i64 h0), (w4.heap.size, 1, .int .i64 h1)] W → W.cell? ⟨w.heap.size, 1, none⟩ = some (.int .i64 a1) := fun _ h => h.tl.at0
  have kcb0 : ∀ W, Kp w [(w.heap.size, 0, .int .i64 a0), (w.heap.size, 1, .int .i64 a1), (w.heap.size + 1, 0, .int .i64 b0), (w.heap.size + 1, 1, .int .i64 b1), (w2.heap.size, 0, .int .i64 m0), (w2.heap.size, 1, .int .i64 m1), (w4.heap.size, 0, .int .i64 h0), (w4.heap.size, 1, .int .i64 h1)] W → W.cell? ⟨w.heap.size + 1, 0, none⟩ = some (.int .i64 b0) := fun _ h => h.tl.tl.at0
  have kcb1 : ∀ W, Kp w [(w.heap.size, 0, .int .i64 a0), (w.heap.size, 1, .int .i64 a1), (w.heap.size + 1, 0, .int .i64 b0), (w.heap.size + 1, 1, .int .i64 b1), (w2.heap.size, 0, .int .i64 m0), (w2.heap.size, 1, .int .i64 m1), (w4.heap.size, 0, .int .i64 h0), (w4.heap.size, 1, .int .i64 h1)] W → W.cell? ⟨w.heap.size + 1, 1, none⟩ = some (.int .i64 b1) := fun _ h => h.tl.tl.tl.at0
  have kcm0 : ∀ W, Kp w [(w.heap.size, 0, .int .i64 a0), (w.heap.size, 1, .int .i64 a1), (w.heap.size + 1, 0, .int .i64 b0), (w.heap.size + 1, 1, .int .i64 b1), (w2.heap.size, 0, .int .i64 m0), (w2.heap.size, 1, .int .i64 m1), (w4.heap.size, 0, .int .i64 h0), (w4.heap.size, 1, .int .i64 h1)] W → W.cell? ⟨w2.heap.size, 0, none⟩ = some (.int .i64 m0) := fun _ h => h.tl.tl.tl.tl.at0
  have kcm1 : ∀ W, Kp w [(w.heap.size, 0, .int .i64 a0), (w.heap.size, 1, .int .i64 a1), (w.heap.size + 1, 0, .int .i64 b0), (w.heap.size + 1, 1, .int .i64 b1), (w2.heap.size, 0, .int .i64 m0), (w2.heap.size, 1, .int .i64 m1), (w4.heap.size, 0, .int .i64 h0), (w4.heap.size, 1, .int .i64 h1)] W → W.cell? ⟨w2.heap.size, 1, none⟩ = some (.int .i64 m1) := fun _ h => h.tl.tl.tl.tl.tl.at0
  have kch0 : ∀ W, Kp w [(w.heap.size, 0, .int .i64 a0), (w.heap.size, 1, .int .i64 a1), (w.heap.size + 1, 0, .int .i64 b0), (w.heap.size + 1, 1, .int .i64 b1), (w2.heap.size, 0, .int .i64 m0), (w2.heap.size, 1, .int .i64 m1), (w4.heap.size, 0, .int .i64 h0), (w4.heap.size, 1, .int .i64 h1)] W → W.cell? ⟨w4.heap.size, 0, none⟩ = some (.int .i64 h0) := fun _ h => h.tl.tl.tl.tl.tl.tl.at0
  have kch1 : ∀ W, Kp w [(w.heap.size, 0, .int .i64 a0), (w.heap.size, 1, .int .i64 a1), (w.heap.size + 1, 0, .int .i64 b0), (w.heap.size + 1, 1, .int .i64 b1), (w2.heap.size, 0, .int .i64 m0), (w2.heap.size, 1, .int .i64 m1), (w4.heap.size, 0, .int .i64 h0), (w4.heap.size, 1, .int .i64 h1)] W → W.cell? ⟨w4.heap.size, 1, none⟩ = some (.int .i64 h1) := fun _ h => h.tl.tl.tl.tl.tl.tl.tl.at0
  clear ca0 ca1 cb0 cb1 cm0 cm1 ch0 ch1 hB hz
  first
    | go_region_held3 (fun W => Kp w [(w.heap.size, 0, .int .i64 a0), (w.heap.size, 1, .int .i64 a1), (w.heap.size + 1, 0, .int .i64 b0), (w.heap.size + 1, 1, .int .i64 b1), (w2.heap.size, 0, .int .i64 m0), (w2.heap.size, 1, .int .i64 m1), (w4.heap.size, 0, .int .i64 h0), (w4.heap.size, 1, .int .i64 h1)] W)
    (first | (with_reducible exact hK) | (with_reducible assumption) | (with_reducible exact Kp.step (by assumption) hb) | (with_reducible exact Kp.alloc (by assumption) _))
    (first
     | (go_at_call 34; ((with_reducible refine (has_anyN _ _ _ _).mono ?_); rintro e wn ⟨rfl, hb⟩)))
    | fail
  obtain ⟨w7, rfl⟩ : ∃ W, W = wn := ⟨_, rfl⟩
  have ca0 : w7.cell? ⟨w.heap.size, 0, none⟩ = some (.int .i64 a0) := kca0 _ (by assumption)
  have ca1 : w7.cell? ⟨w.heap.size, 1, none⟩ = some (.int .i64 a1) := kca1 _ (by assumption)
  have cb0 : w7.cell? ⟨w.heap.size + 1, 0, none⟩ = some (.int .i64 b0) := kcb0 _ (by assumption)
  have cb1 : w7.cell? ⟨w.heap.size + 1, 1, none⟩ = some (.int .i64 b1) := kcb1 _ (by assumption)
  have cm0 : w7.cell? ⟨w2.heap.size, 0, none⟩ = some (.int .i64 m0) := kcm0 _ (by assumption)
  have cm1 : w7.cell? ⟨w2.heap.size, 1, none⟩ = some (.int .i64 m1) := kcm1 _ (by assumption)
  have ch0 : w7.cell? ⟨w4.heap.size, 0, none⟩ = some (.int .i64 h0) := kch0 _ (by assumption)
  have ch1 : w7.cell? ⟨w4.heap.size, 1, none⟩ = some (.int .i64 h1) := kch1 _ (by assumption)
  have hB : Below w.heap.size w w7 := kp_below (by assumption)
  clear kca0 kca1 kcb0 kcb1 kcm0 kcm1 kch0 kch1 hK
  have nca0 : w.heap.size < w7.heap.size := block_of_cell ca0
  have ncb0 : w.heap.size + 1 < w7.heap.size := block_of_cell cb0
  have ncm0 : w2.heap.size < w7.heap.size := block_of_cell cm0
  have nch0 : w4.heap.size < w7.heap.size := block_of_cell ch0
  go_upto_region 17 with fail
  go_cut [16] (fun s wx => s = .bool true ∧ w7 = wx)
  case first =>
    obtain ⟨g0 | ⟨g0, g1⟩, g2 | ⟨g2, g3⟩⟩ := HD.out
    all_goals
      go_wp2
      go_meet
      exact ⟨rfl, rfl⟩
  case rest =>
    obtain ⟨rfl, rfl⟩ := hcut
    go_wp2_with fail
    have kca0 := cell_regrown ca0
    have kca1 := cell_regrown ca1
    have kcb0 := cell_regrown cb0
    have kcb1 := cell_regrown cb1
    have kcm0 := cell_regrown cm0
    have kcm1 := cell_regrown cm1
    have kch0 := cell_regrown ch0
    have kch1 := cell_regrown ch1
    refine wp_region_quiet_below (by kernel_rfl) (by kernel_rfl) ?_
    repeat (go_big_quiet_step (first | (go_at_call 34; with_reducible exact Calls.regrown_of (has_anyN _ _ _ _)) | (go_at_call 31; with_reducible exact Calls.regrown_of (length_anyN _ _ _))))
    refine wpQuiet_nil ?_
    intro _ hw9
    obtain ⟨⟨dq, osq⟩, hw9⟩ := hw9
    subst hw9
    go_wp2
    all_goals
      go_ret
      have hl := HL.out
      refine ⟨?_, bstep hB (below_regrown _ _ _)⟩
      simp
      (try split) <;> omega

set_option maxRecDepth 100000 in
set_option maxHeartbeats 8000000 in
theorem cov_e_fft (a0 a1 b0 b1 x h0 h1 m0 m1 : Int) (hv1 : validB a0 a1 = true) (hv2 : validB b0 b1 = true) (hO : meetB a0 a1 b0 b1 = true) (hZ : meetZ a0 a1 b0 b1 = (m0, m1)) (hN : hullN a0 a1 b0 b1 = 0) (hH : hullZ a0 a1 b0 b1 = (h0, h1)) (hA : hasB a0 a1 x = false) (hB2 : hasB b0 b1 x = false) (hM : hasB m0 m1 x = false) (hHh : hasB a0 a1 x = true ∨ hasB b0 b1 x = true → hasB h0 h1 x = true) (hd0 : (h0 == a0) = true ∨ ((h0 == a0) = false ∧ (h0 == b0) = true)) (hd1 : (h1 == a1) = true ∨ ((h1 == a1) = false ∧ (h1 == b1) = true)) (hla : lenZ a0 a1 ≤ lenZ h0 h1) (hlb : lenZ b0 b1 ≤ lenZ h0 h1) (L : List (Int × Int)) (hL : minusL a0 a1 b0 b1 = L) (hLe : L.length = 0) (hML : L.length ≤ 2) (hcnt : ((cnt L x : Nat) : Int) = 0) (w : World) : Calls Try.prog 10 #[.agg #[.int .i64 a0, .int .i64 a1], .agg #[.int .i64 b0, .int .i64 b1], .int .i64 x] w fun e w' => e = .returned (.bool true) ∧ Below w.heap.size w w' := by
  have cMeet := fun W => meet_is a0 a1 b0 b1 m0 m1 true W hO hZ
  have cHull := fun W => hull_is a0 a1 b0 b1 h0 h1 W hN hH
  have cMin := fun W => minus_is a0 a1 b0 b1 L W hL
  clear hO hZ hN hH hL
  clear hHh
  have HL := Lib.hid (And.intro hla hlb)
  clear hla hlb
  have HD := Lib.hid (And.intro hd0 hd1)
  clear hd0 hd1
  obtain rfl : L = [] := List.length_eq_zero_iff.1 hLe
  clear hLe hcnt
  go_enter Try.func10, Try.ntmps10
  go_wp2_with fail
  refine (awake_any _).mono ?_
  rintro e w1 ⟨rfl, hb⟩
  have ca0 : w1.cell? ⟨w.heap.size, 0, none⟩ = some (.int .i64 a0) := cell_kept (by simp) hb
  have ca1 : w1.cell? ⟨w.heap.size, 1, none⟩ = some (.int .i64 a1) := cell_kept (by simp) hb
  have cb0 : w1.cell? ⟨w.heap.size + 1, 0, none⟩ = some (.int .i64 b0) := cell_kept (by simp) hb
  have cb1 : w1.cell? ⟨w.heap.size + 1, 1, none⟩ = some (.int .i64 b1) := cell_kept (by simp) hb
  have hB : Below w.heap.size w w1 := bstep (by go_grown) hb
  clear hb
  have nca0 : w.heap.size < w1.heap.size := block_of_cell ca0
  have ncb0 : w.heap.size + 1 < w1.heap.size := block_of_cell cb0
  go_wp2_with fail
  refine (cMeet _).mono ?_
  rintro e w2 ⟨rfl, hb⟩
  have hq : Below w1.heap.size w1 w2 := bstep (by go_grown) hb
  replace ca0 := cell_kept ca0 hq
  replace ca1 := cell_kept ca1 hq
  replace cb0 := cell_kept cb0 hq
  replace cb1 := cell_kept cb1 hq
  replace hB := bstep hB hq
  clear hq
  clear hb
  have nca0 : w.heap.size < w2.heap.size := block_of_cell ca0
  have ncb0 : w.heap.size + 1 < w2.heap.size := block_of_cell cb0
  go_wp2_with fail
  refine (cMin _).mono ?_
  rintro e w3 ⟨v, rfl, hsl, hb⟩; obtain ⟨ad1, cp1, rfl⟩ := hsl.form; clear hsl
  have hq : Below w2.heap.size w2 w3 := bstep (by go_grown) hb
  replace ca0 := cell_kept ca0 hq
  replace ca1 := cell_kept ca1 hq
  replace cb0 := cell_kept cb0 hq
  replace cb1 := cell_kept cb1 hq
  have cm0 : w3.cell? ⟨w2.heap.size, 0, none⟩ = some (.int .i64 m0) := cell_kept (by simp) hb
  have cm1 : w3.cell? ⟨w2.heap.size, 1, none⟩ = some (.int .i64 m1) := cell_kept (by simp) hb
  replace hB := bstep hB hq
  clear hq
  clear hb
  have nca0 : w.heap.size < w3.heap.size := block_of_cell ca0
  have ncb0 : w.heap.size + 1 < w3.heap.size := block_of_cell cb0
  have ncm0 : w2.heap.size < w3.heap.size := block_of_cell cm0
  go_wp2_with fail
  refine wp_loop_rounds 1 ?_
  rw [rounds_succ]
  go_wp2_with fail
  refine (cHull _).mono ?_
  rintro e w4 ⟨rfl, hb⟩
  have hq : Below w3.heap.size w3 w4 := bstep (by go_grown) hb
  replace ca0 := cell_kept ca0 hq
  replace ca1 := cell_kept ca1 hq
  replace cb0 := cell_kept cb0 hq
  replace cb1 := cell_kept cb1 hq
  replace cm0 := cell_kept cm0 hq
  replace cm1 := cell_kept cm1 hq
  replace hB := bstep hB hq
  clear hq
  clear hb
  have nca0 : w.heap.size < w4.heap.size := block_of_cell ca0
  have ncb0 : w.heap.size + 1 < w4.heap.size := block_of_cell cb0
  have ncm0 : w2.heap.size < w4.heap.size := block_of_cell cm0
  go_wp2_with fail
  refine (valid_any _ _ _).mono ?_
  rintro e w5 ⟨rfl, hb⟩
  have hq : Below w4.heap.size w4 w5 := bstep (by go_grown) hb
  replace ca0 := cell_kept ca0 hq
  replace ca1 := cell_kept ca1 hq
  replace cb0 := cell_kept cb0 hq
  replace cb1 := cell_kept cb1 hq
  replace cm0 := cell_kept cm0 hq
  replace cm1 := cell_kept cm1 hq
  have ch0 : w5.cell? ⟨w4.heap.size, 0, none⟩ = some (.int .i64 h0) := cell_kept (by simp) hb
  have ch1 : w5.cell? ⟨w4.heap.size, 1, none⟩ = some (.int .i64 h1) := cell_kept (by simp) hb
  replace hB := bstep hB hq
  clear hq
  clear hb
  have nca0 : w.heap.size < w5.heap.size := block_of_cell ca0
  have ncb0 : w.heap.size + 1 < w5.heap.size := block_of_cell cb0
  have ncm0 : w2.heap.size < w5.heap.size := block_of_cell cm0
  have nch0 : w4.heap.size < w5.heap.size := block_of_cell ch0
  go_wp2_with fail
  refine (valid_any _ _ _).mono ?_
  rintro e w6 ⟨rfl, hb⟩
  have hq : Below w5.heap.size w5 w6 := bstep (by go_grown) hb
  replace ca0 := cell_kept ca0 hq
  replace ca1 := cell_kept ca1 hq
  replace cb0 := cell_kept cb0 hq
  replace cb1 := cell_kept cb1 hq
  replace cm0 := cell_kept cm0 hq
  replace cm1 := cell_kept cm1 hq
  replace ch0 := cell_kept ch0 hq
  replace ch1 := cell_kept ch1 hq
  replace hB := bstep hB hq
  clear hq
  clear hb
  have nca0 : w.heap.size < w6.heap.size := block_of_cell ca0
  have ncb0 : w.heap.size + 1 < w6.heap.size := block_of_cell cb0
  have ncm0 : w2.heap.size < w6.heap.size := block_of_cell cm0
  have nch0 : w4.heap.size < w6.heap.size := block_of_cell ch0
  go_wp2_with fail
  have hz := hB.size
  have hK : Kp w [(w.heap.size, 0, .int .i64 a0), (w.heap.size, 1, .int .i64 a1), (w.heap.size + 1, 0, .int .i64 b0), (w.heap.size + 1, 1, .int .i64 b1), (w2.heap.size, 0, .int .i64 m0), (w2.heap.size, 1, .int .i64 m1), (w4.heap.size, 0, .int .i64 h0), (w4.heap.size, 1, .int .i64 h1)] w6.drew := (((((((((Kp.start hB).add (w4.heap.size) 1 (.int .i64 h1) ch1).add (w4.heap.size) 0 (.int .i64 h0) ch0).add (w2.heap.size) 1 (.int .i64 m1) cm1).add (w2.heap.size) 0 (.int .i64 m0) cm0).add (w.heap.size + 1) 1 (.int .i64 b1) cb1).add (w.heap.size + 1) 0 (.int .i64 b0) cb0).add (w.heap.size) 1 (.int .i64 a1) ca1).add (w.heap.size) 0 (.int .i64 a0) ca0).drew
  have kca0 : ∀ W, Kp w [(w.heap.size, 0, .int .i64 a0), (w.heap.size, 1, .int .i64 a1), (w.heap.size + 1, 0, .int .i64 b0), (w.heap.size + 1, 1, .int .i64 b1), (w2.heap.size, 0, .int .i64 m0), (w2.heap.size, 1, .int .i64 m1), (w4.heap.size, 0, .int .i64 h0), (w4.heap.size, 1, .int .i64 h1)] W → W.cell? ⟨w.heap.size, 0, none⟩ = some (.int .i64 a0) := fun _ h => h.at0
  have kca1 : ∀ W, Kp w [(w.heap.size, 0, .int .i64 a0), (w.heap.size, 1, .int .i64 a1), (w.heap.size + 1, 0, .int .i64 b0), (w.heap.size + 1, 1, .int .i64 b1), (w2.heap.size, 0, .int .i64 m0), (w2.heap.size, 1, .int .i64 m1), (w4.heap.size, 0, .int .i64 h0), (w4.heap.size, 1, .int .i64 h1)] W → W.cell? ⟨w.heap.size, 1, none⟩ = some (.int .i64 a1) := fun _ h => h.tl.at0
  have kcb0 : ∀ W, Kp w [(w.heap.size, 0, .int .i64 a0), (w.heap.size, 1, .int .i64 a1), (w.heap.size + 1, 0, .int .i64 b0), (w.heap.size + 1, 1, .int .i64 b1), (w2.heap.size, 0, .int .i64 m0), (w2.heap.size, 1, .int .i64 m1), (w4.heap.size, 0, .int .i64 h0), (w4.heap.size, 1, .int .i64 h1)] W → W.cell? ⟨w.heap.size + 1, 0, none⟩ = some (.int .i64 b0) := fun _ h => h.tl.tl.at0
  have kcb1 : ∀ W, Kp w [(w.heap.size, 0, .int .i64 a0), (w.heap.size, 1, .int .i64 a1), (w.heap.size + 1, 0, .int .i64 b0), (w.heap.size + 1, 1, .int .i64 b1), (w2.heap.size, 0, .int .i64 m0), (w2.heap.size, 1, .int .i64 m1), (w4.heap.size, 0, .int .i64 h0), (w4.heap.size, 1, .int .i64 h1)] W → W.cell? ⟨w.heap.size + 1, 1, none⟩ = some (.int .i64 b1) := fun _ h => h.tl.tl.tl.at0
  have kcm0 : ∀ W, Kp w [(w.heap.size, 0, .int .i64 a0), (w.heap.size, 1, .int .i64 a1), (w.heap.size + 1, 0, .int .i64 b0), (w.heap.size + 1, 1, .int .i64 b1), (w2.heap.size, 0, .int .i64 m0), (w2.heap.size, 1, .int .i64 m1), (w4.heap.size, 0, .int .i64 h0), (w4.heap.size, 1, .int .i64 h1)] W → W.cell? ⟨w2.heap.size, 0, none⟩ = some (.int .i64 m0) := fun _ h => h.tl.tl.tl.tl.at0
  have kcm1 : ∀ W, Kp w [(w.heap.size, 0, .int .i64 a0), (w.heap.size, 1, .int .i64 a1), (w.heap.size + 1, 0, .int .i64 b0), (w.heap.size + 1, 1, .int .i64 b1), (w2.heap.size, 0, .int .i64 m0), (w2.heap.size, 1, .int .i64 m1), (w4.heap.size, 0, .int .i64 h0), (w4.heap.size, 1, .int .i64 h1)] W → W.cell? ⟨w2.heap.size, 1, none⟩ = some (.int .i64 m1) := fun _ h => h.tl.tl.tl.tl.tl.at0
  have kch0 : ∀ W, Kp w [(w.heap.size, 0, .int .i64 a0), (w.heap.size, 1, .int .i64 a1), (w.heap.size + 1, 0, .int .i64 b0), (w.heap.size + 1, 1, .int .i64 b1), (w2.heap.size, 0, .int .i64 m0), (w2.heap.size, 1, .int .i64 m1), (w4.heap.size, 0, .int .i64 h0), (w4.heap.size, 1, .int .i64 h1)] W → W.cell? ⟨w4.heap.size, 0, none⟩ = some (.int .i64 h0) := fun _ h => h.tl.tl.tl.tl.tl.tl.at0
  have kch1 : ∀ W, Kp w [(w.heap.size, 0, .int .i64 a0), (w.heap.size, 1, .int .i64 a1), (w.heap.size + 1, 0, .int .i64 b0), (w.heap.size + 1, 1, .int .i64 b1), (w2.heap.size, 0, .int .i64 m0), (w2.heap.size, 1, .int .i64 m1), (w4.heap.size, 0, .int .i64 h0), (w4.heap.size, 1, .int .i64 h1)] W → W.cell? ⟨w4.heap.size, 1, none⟩ = some (.int .i64 h1) := fun _ h => h.tl.tl.tl.tl.tl.tl.tl.at0
  clear ca0 ca1 cb0 cb1 cm0 cm1 ch0 ch1 hB hz
  first
    | go_region_held3 (fun W => Kp w [(w.heap.size, 0, .int .i64 a0), (w.heap.size, 1, .int .i64 a1), (w.heap.size + 1, 0, .int .i64 b0), (w.heap.size + 1, 1, .int .i64 b1), (w2.heap.size, 0, .int .i64 m0), (w2.heap.size, 1, .int .i64 m1), (w4.heap.size, 0, .int .i64 h0), (w4.heap.size, 1, .int .i64 h1)] W)
    (first | (with_reducible exact hK) | (with_reducible assumption) | (with_reducible exact Kp.step (by assumption) hb) | (with_reducible exact Kp.alloc (by assumption) _))
    (first
     | (go_at_call 34; ((with_reducible refine (has_anyN _ _ _ _).mono ?_); rintro e wn ⟨rfl, hb⟩)))
    | fail
  obtain ⟨w7, rfl⟩ : ∃ W, W = wn := ⟨_, rfl⟩
  have ca0 : w7.cell? ⟨w.heap.size, 0, none⟩ = some (.int .i64 a0) := kca0 _ (by assumption)
  have ca1 : w7.cell? ⟨w.heap.size, 1, none⟩ = some (.int .i64 a1) := kca1 _ (by assumption)
  have cb0 : w7.cell? ⟨w.heap.size + 1, 0, none⟩ = some (.int .i64 b0) := kcb0 _ (by assumption)
  have cb1 : w7.cell? ⟨w.heap.size + 1, 1, none⟩ = some (.int .i64 b1) := kcb1 _ (by assumption)
  have cm0 : w7.cell? ⟨w2.heap.size, 0, none⟩ = some (.int .i64 m0) := kcm0 _ (by assumption)
  have cm1 : w7.cell? ⟨w2.heap.size, 1, none⟩ = some (.int .i64 m1) := kcm1 _ (by assumption)
  have ch0 : w7.cell? ⟨w4.heap.size, 0, none⟩ = some (.int .i64 h0) := kch0 _ (by assumption)
  have ch1 : w7.cell? ⟨w4.heap.size, 1, none⟩ = some (.int .i64 h1) := kch1 _ (by assumption)
  have hB : Below w.heap.size w w7 := kp_below (by assumption)
  clear kca0 kca1 kcb0 kcb1 kcm0 kcm1 kch0 kch1 hK
  have nca0 : w.heap.size < w7.heap.size := block_of_cell ca0
  have ncb0 : w.heap.size + 1 < w7.heap.size := block_of_cell cb0
  have ncm0 : w2.heap.size < w7.heap.size := block_of_cell cm0
  have nch0 : w4.heap.size < w7.heap.size := block_of_cell ch0
  go_wp2_with fail
  refine (has_anyN _ _ _ _).mono ?_
  rintro e w8 ⟨rfl, hb⟩
  have hq : Below w7.heap.size w7 w8 := bstep (by go_grown) hb
  replace ca0 := cell_kept ca0 hq
  replace ca1 := cell_kept ca1 hq
  replace cb0 := cell_kept cb0 hq
  replace cb1 := cell_kept cb1 hq
  replace cm0 := cell_kept cm0 hq
  replace cm1 := cell_kept cm1 hq
  replace ch0 := cell_kept ch0 hq
  replace ch1 := cell_kept ch1 hq
  replace hB := bstep hB hq
  clear hq
  clear hb
  have nca0 : w.heap.size < w8.heap.size := block_of_cell ca0
  have ncb0 : w.heap.size + 1 < w8.heap.size := block_of_cell cb0
  have ncm0 : w2.heap.size < w8.heap.size := block_of_cell cm0
  have nch0 : w4.heap.size < w8.heap.size := block_of_cell ch0
  go_upto_region 17 with fail
  go_cut [16] (fun s wx => s = .bool true ∧ w8 = wx)
  case first =>
    obtain ⟨g0 | ⟨g0, g1⟩, g2 | ⟨g2, g3⟩⟩ := HD.out
    all_goals
      go_wp2
      go_meet
      exact ⟨rfl, rfl⟩
  case rest =>
    obtain ⟨rfl, rfl⟩ := hcut
    go_wp2_with fail
    have kca0 := cell_regrown ca0
    have kca1 := cell_regrown ca1
    have kcb0 := cell_regrown cb0
    have kcb1 := cell_regrown cb1
    have kcm0 := cell_regrown cm0
    have kcm1 := cell_regrown cm1
    have kch0 := cell_regrown ch0
    have kch1 := cell_regrown ch1
    refine wp_region_quiet_below (by kernel_rfl) (by kernel_rfl) ?_
    repeat (go_big_quiet_step (first | (go_at_call 34; with_reducible exact Calls.regrown_of (has_anyN _ _ _ _)) | (go_at_call 31; with_reducible exact Calls.regrown_of (length_anyN _ _ _))))
    refine wpQuiet_nil ?_
    intro _ hw9
    obtain ⟨⟨dq, osq⟩, hw9⟩ := hw9
    subst hw9
    go_wp2
    all_goals
      go_ret
      have hl := HL.out
      refine ⟨?_, bstep hB (below_regrown _ _ _)⟩
      simp
      (try split) <;> omega

set_option maxRecDepth 100000 in
set_option maxHeartbeats 8000000 in
theorem cov_e_fff (a0 a1 b0 b1 x h0 h1 m0 m1 : Int) (hv1 : validB a0 a1 = true) (hv2 : validB b0 b1 = true) (hO : meetB a0 a1 b0 b1 = false) (hZ : meetZ a0 a1 b0 b1 = (m0, m1)) (hN : hullN a0 a1 b0 b1 = 0) (hH : hullZ a0 a1 b0 b1 = (h0, h1)) (hA : hasB a0 a1 x = false) (hB2 : hasB b0 b1 x = false) (hM : hasB m0 m1 x = false) (hHh : hasB a0 a1 x = true ∨ hasB b0 b1 x = true → hasB h0 h1 x = true) (hd0 : (h0 == a0) = true ∨ ((h0 == a0) = false ∧ (h0 == b0) = true)) (hd1 : (h1 == a1) = true ∨ ((h1 == a1) = false ∧ (h1 == b1) = true)) (hla : lenZ a0 a1 ≤ lenZ h0 h1) (hlb : lenZ b0 b1 ≤ lenZ h0 h1) (L : List (Int × Int)) (hL : minusL a0 a1 b0 b1 = L) (hLe : L.length = 0) (hML : L.length ≤ 2) (hcnt : ((cnt L x : Nat) : Int) = 0) (w : World) : Calls Try.prog 10 #[.agg #[.int .i64 a0, .int .i64 a1], .agg #[.int .i64 b0, .int .i64 b1], .int .i64 x] w fun e w' => e = .returned (.bool true) ∧ Below w.heap.size w w' := by
  have cMeet := fun W => meet_is a0 a1 b0 b1 m0 m1 false W hO hZ
  have cHull := fun W => hull_is a0 a1 b0 b1 h0 h1 W hN hH
  have cMin := fun W => minus_is a0 a1 b0 b1 L W hL
  clear hO hZ hN hH hL
  clear hHh
  have HL := Lib.hid (And.intro hla hlb)
  clear hla hlb
  have HD := Lib.hid (And.intro hd0 hd1)
  clear hd0 hd1
  obtain rfl : L = [] := List.length_eq_zero_iff.1 hLe
  clear hLe hcnt
  go_enter Try.func10, Try.ntmps10
  go_wp2_with fail
  refine (awake_any _).mono ?_
  rintro e w1 ⟨rfl, hb⟩
  have ca0 : w1.cell? ⟨w.heap.size, 0, none⟩ = some (.int .i64 a0) := cell_kept (by simp) hb
  have ca1 : w1.cell? ⟨w.heap.size, 1, none⟩ = some (.int .i64 a1) := cell_kept (by simp) hb
  have cb0 : w1.cell? ⟨w.heap.size + 1, 0, none⟩ = some (.int .i64 b0) := cell_kept (by simp) hb
  have cb1 : w1.cell? ⟨w.heap.size + 1, 1, none⟩ = some (.int .i64 b1) := cell_kept (by simp) hb
  have hB : Below w.heap.size w w1 := bstep (by go_grown) hb
  clear hb
  have nca0 : w.heap.size < w1.heap.size := block_of_cell ca0
  have ncb0 : w.heap.size + 1 < w1.heap.size := block_of_cell cb0
  go_wp2_with fail
  refine (cMeet _).mono ?_
  rintro e w2 ⟨rfl, hb⟩
  have hq : Below w1.heap.size w1 w2 := bstep (by go_grown) hb
  replace ca0 := cell_kept ca0 hq
  replace ca1 := cell_kept ca1 hq
  replace cb0 := cell_kept cb0 hq
  replace cb1 := cell_kept cb1 hq
  replace hB := bstep hB hq
  clear hq
  clear hb
  have nca0 : w.heap.size < w2.heap.size := block_of_cell ca0
  have ncb0 : w.heap.size + 1 < w2.heap.size := block_of_cell cb0
  go_wp2_with fail
  refine (cMin _).mono ?_
  rintro e w3 ⟨v, rfl, hsl, hb⟩; obtain ⟨ad1, cp1, rfl⟩ := hsl.form; clear hsl
  have hq : Below w2.heap.size w2 w3 := bstep (by go_grown) hb
  replace ca0 := cell_kept ca0 hq
  replace ca1 := cell_kept ca1 hq
  replace cb0 := cell_kept cb0 hq
  replace cb1 := cell_kept cb1 hq
  have cm0 : w3.cell? ⟨w2.heap.size, 0, none⟩ = some (.int .i64 m0) := cell_kept (by simp) hb
  have cm1 : w3.cell? ⟨w2.heap.size, 1, none⟩ = some (.int .i64 m1) := cell_kept (by simp) hb
  replace hB := bstep hB hq
  clear hq
  clear hb
  have nca0 : w.heap.size < w3.heap.size := block_of_cell ca0
  have ncb0 : w.heap.size + 1 < w3.heap.size := block_of_cell cb0
  have ncm0 : w2.heap.size < w3.heap.size := block_of_cell cm0
  go_wp2_with fail
  refine wp_loop_rounds 1 ?_
  rw [rounds_succ]
  go_wp2_with fail
  refine (cHull _).mono ?_
  rintro e w4 ⟨rfl, hb⟩
  have hq : Below w3.heap.size w3 w4 := bstep (by go_grown) hb
  replace ca0 := cell_kept ca0 hq
  replace ca1 := cell_kept ca1 hq
  replace cb0 := cell_kept cb0 hq
  replace cb1 := cell_kept cb1 hq
  replace cm0 := cell_kept cm0 hq
  replace cm1 := cell_kept cm1 hq
  replace hB := bstep hB hq
  clear hq
  clear hb
  have nca0 : w.heap.size < w4.heap.size := block_of_cell ca0
  have ncb0 : w.heap.size + 1 < w4.heap.size := block_of_cell cb0
  have ncm0 : w2.heap.size < w4.heap.size := block_of_cell cm0
  go_wp2_with fail
  refine (valid_any _ _ _).mono ?_
  rintro e w5 ⟨rfl, hb⟩
  have hq : Below w4.heap.size w4 w5 := bstep (by go_grown) hb
  replace ca0 := cell_kept ca0 hq
  replace ca1 := cell_kept ca1 hq
  replace cb0 := cell_kept cb0 hq
  replace cb1 := cell_kept cb1 hq
  replace cm0 := cell_kept cm0 hq
  replace cm1 := cell_kept cm1 hq
  have ch0 : w5.cell? ⟨w4.heap.size, 0, none⟩ = some (.int .i64 h0) := cell_kept (by simp) hb
  have ch1 : w5.cell? ⟨w4.heap.size, 1, none⟩ = some (.int .i64 h1) := cell_kept (by simp) hb
  replace hB := bstep hB hq
  clear hq
  clear hb
  have nca0 : w.heap.size < w5.heap.size := block_of_cell ca0
  have ncb0 : w.heap.size + 1 < w5.heap.size := block_of_cell cb0
  have ncm0 : w2.heap.size < w5.heap.size := block_of_cell cm0
  have nch0 : w4.heap.size < w5.heap.size := block_of_cell ch0
  go_wp2_with fail
  refine (valid_any _ _ _).mono ?_
  rintro e w6 ⟨rfl, hb⟩
  have hq : Below w5.heap.size w5 w6 := bstep (by go_grown) hb
  replace ca0 := cell_kept ca0 hq
  replace ca1 := cell_kept ca1 hq
  replace cb0 := cell_kept cb0 hq
  replace cb1 := cell_kept cb1 hq
  replace cm0 := cell_kept cm0 hq
  replace cm1 := cell_kept cm1 hq
  replace ch0 := cell_kept ch0 hq
  replace ch1 := cell_kept ch1 hq
  replace hB := bstep hB hq
  clear hq
  clear hb
  have nca0 : w.heap.size < w6.heap.size := block_of_cell ca0
  have ncb0 : w.heap.size + 1 < w6.heap.size := block_of_cell cb0
  have ncm0 : w2.heap.size < w6.heap.size := block_of_cell cm0
  have nch0 : w4.heap.size < w6.heap.size := block_of_cell ch0
  go_wp2_with fail
  have hz := hB.size
  have hK : Kp w [(w.heap.size, 0, .int .i64 a0), (w.heap.size, 1, .int .i64 a1), (w.heap.size + 1, 0, .int .i64 b0), (w.heap.size + 1, 1, .int .i64 b1), (w2.heap.size, 0, .int .i64 m0), (w2.heap.size, 1, .int .i64 m1), (w4.heap.size, 0, .int .i64 h0), (w4.heap.size, 1, .int .i64 h1)] w6.drew := (((((((((Kp.start hB).add (w4.heap.size) 1 (.int .i64 h1) ch1).add (w4.heap.size) 0 (.int .i64 h0) ch0).add (w2.heap.size) 1 (.int .i64 m1) cm1).add (w2.heap.size) 0 (.int .i64 m0) cm0).add (w.heap.size + 1) 1 (.int .i64 b1) cb1).add (w.heap.size + 1) 0 (.int .i64 b0) cb0).add (w.heap.size) 1 (.int .i64 a1) ca1).add (w.heap.size) 0 (.int .i64 a0) ca0).drew
  have kca0 : ∀ W, Kp w [(w.heap.size, 0, .int .i64 a0), (w.heap.size, 1, .int .i64 a1), (w.heap.size + 1, 0, .int .i64 b0), (w.heap.size + 1, 1, .int .i64 b1), (w2.heap.size, 0, .int .i64 m0), (w2.heap.size, 1, .int .i64 m1), (w4.heap.size, 0, .int .i64 h0), (w4.heap.size, 1, .int .i64 h1)] W → W.cell? ⟨w.heap.size, 0, none⟩ = some (.int .i64 a0) := fun _ h => h.at0
  have kca1 : ∀ W, Kp w [(w.heap.size, 0, .int .i64 a0), (w.heap.size, 1, .int .i64 a1), (w.heap.size + 1, 0, .int .i64 b0), (w.heap.size + 1, 1, .int .i64 b1), (w2.heap.size, 0, .int .i64 m0), (w2.heap.size, 1, .int .i64 m1), (w4.heap.size, 0, .int .i64 h0), (w4.heap.size, 1, .int .i64 h1)] W → W.cell? ⟨w.heap.size, 1, none⟩ = some (.int .i64 a1) := fun _ h => h.tl.at0
  have kcb0 : ∀ W, Kp w [(w.heap.size, 0, .int .i64 a0), (w.heap.size, 1, .int .i64 a1), (w.heap.size + 1, 0, .int .i64 b0), (w.heap.size + 1, 1, .int .i64 b1), (w2.heap.size, 0, .int .i64 m0), (w2.heap.size, 1, .int .i64 m1), (w4.heap.size, 0, .int .i64 h0), (w4.heap.size, 1, .int .i64 h1)] W → W.cell? ⟨w.heap.size + 1, 0, none⟩ = some (.int .i64 b0) := fun _ h => h.tl.tl.at0
  have kcb1 : ∀ W, Kp w [(w.heap.size, 0, .int .i64 a0), (w.heap.size, 1, .int .i64 a1), (w.heap.size + 1, 0, .int .i64 b0), (w.heap.size + 1, 1, .int .i64 b1), (w2.heap.size, 0, .int .i64 m0), (w2.heap.size, 1, .int .i64 m1), (w4.heap.size, 0, .int .i64 h0), (w4.heap.size, 1, .int .i64 h1)] W → W.cell? ⟨w.heap.size + 1, 1, none⟩ = some (.int .i64 b1) := fun _ h => h.tl.tl.tl.at0
  have kcm0 : ∀ W, Kp w [(w.heap.size, 0, .int .i64 a0), (w.heap.size, 1, .int .i64 a1), (w.heap.size + 1, 0, .int .i64 b0), (w.heap.size + 1, 1, .int .i64 b1), (w2.heap.size, 0, .int .i64 m0), (w2.heap.size, 1, .int .i64 m1), (w4.heap.size, 0, .int .i64 h0), (w4.heap.size, 1, .int .i64 h1)] W → W.cell? ⟨w2.heap.size, 0, none⟩ = some (.int .i64 m0) := fun _ h => h.tl.tl.tl.tl.at0
  have kcm1 : ∀ W, Kp w [(w.heap.size, 0, .int .i64 a0), (w.heap.size, 1, .int .i64 a1), (w.heap.size + 1, 0, .int .i64 b0), (w.heap.size + 1, 1, .int .i64 b1), (w2.heap.size, 0, .int .i64 m0), (w2.heap.size, 1, .int .i64 m1), (w4.heap.size, 0, .int .i64 h0), (w4.heap.size, 1, .int .i64 h1)] W → W.cell? ⟨w2.heap.size, 1, none⟩ = some (.int .i64 m1) := fun _ h => h.tl.tl.tl.tl.tl.at0
  have kch0 : ∀ W, Kp w [(w.heap.size, 0, .int .i64 a0), (w.heap.size, 1, .int .i64 a1), (w.heap.size + 1, 0, .int .i64 b0), (w.heap.size + 1, 1, .int .i64 b1), (w2.heap.size, 0, .int .i64 m0), (w2.heap.size, 1, .int .i64 m1), (w4.heap.size, 0, .int .i64 h0), (w4.heap.size, 1, .int .i64 h1)] W → W.cell? ⟨w4.heap.size, 0, none⟩ = some (.int .i64 h0) := fun _ h => h.tl.tl.tl.tl.tl.tl.at0
  have kch1 : ∀ W, Kp w [(w.heap.size, 0, .int .i64 a0), (w.heap.size, 1, .int .i64 a1), (w.heap.size + 1, 0, .int .i64 b0), (w.heap.size + 1, 1, .int .i64 b1), (w2.heap.size, 0, .int .i64 m0), (w2.heap.size, 1, .int .i64 m1), (w4.heap.size, 0, .int .i64 h0), (w4.heap.size, 1, .int .i64 h1)] W → W.cell? ⟨w4.heap.size, 1, none⟩ = some (.int .i64 h1) := fun _ h => h.tl.tl.tl.tl.tl.tl.tl.at0
  clear ca0 ca1 cb0 cb1 cm0 cm1 ch0 ch1 hB hz
  first
    | go_region_held3 (fun W => Kp w [(w.heap.size, 0, .int .i64 a0), (w.heap.size, 1, .int .i64 a1), (w.heap.size + 1, 0, .int .i64 b0), (w.heap.size + 1, 1, .int .i64 b1), (w2.heap.size, 0, .int .i64 m0), (w2.heap.size, 1, .int .i64 m1), (w4.heap.size, 0, .int .i64 h0), (w4.heap.size, 1, .int .i64 h1)] W)
    (first | (with_reducible exact hK) | (with_reducible assumption) | (with_reducible exact Kp.step (by assumption) hb) | (with_reducible exact Kp.alloc (by assumption) _))
    (first
     | (go_at_call 34; ((with_reducible refine (has_anyN _ _ _ _).mono ?_); rintro e wn ⟨rfl, hb⟩)))
    | fail
  obtain ⟨w7, rfl⟩ : ∃ W, W = wn := ⟨_, rfl⟩
  have ca0 : w7.cell? ⟨w.heap.size, 0, none⟩ = some (.int .i64 a0) := kca0 _ (by assumption)
  have ca1 : w7.cell? ⟨w.heap.size, 1, none⟩ = some (.int .i64 a1) := kca1 _ (by assumption)
  have cb0 : w7.cell? ⟨w.heap.size + 1, 0, none⟩ = some (.int .i64 b0) := kcb0 _ (by assumption)
  have cb1 : w7.cell? ⟨w.heap.size + 1, 1, none⟩ = some (.int .i64 b1) := kcb1 _ (by assumption)
  have cm0 : w7.cell? ⟨w2.heap.size, 0, none⟩ = some (.int .i64 m0) := kcm0 _ (by assumption)
  have cm1 : w7.cell? ⟨w2.heap.size, 1, none⟩ = some (.int .i64 m1) := kcm1 _ (by assumption)
  have ch0 : w7.cell? ⟨w4.heap.size, 0, none⟩ = some (.int .i64 h0) := kch0 _ (by assumption)
  have ch1 : w7.cell? ⟨w4.heap.size, 1, none⟩ = some (.int .i64 h1) := kch1 _ (by assumption)
  have hB : Below w.heap.size w w7 := kp_below (by assumption)
  clear kca0 kca1 kcb0 kcb1 kcm0 kcm1 kch0 kch1 hK
  have nca0 : w.heap.size < w7.heap.size := block_of_cell ca0
  have ncb0 : w.heap.size + 1 < w7.heap.size := block_of_cell cb0
  have ncm0 : w2.heap.size < w7.heap.size := block_of_cell cm0
  have nch0 : w4.heap.size < w7.heap.size := block_of_cell ch0
  go_upto_region 17 with fail
  go_cut [16] (fun s wx => s = .bool true ∧ w7 = wx)
  case first =>
    obtain ⟨g0 | ⟨g0, g1⟩, g2 | ⟨g2, g3⟩⟩ := HD.out
    all_goals
      go_wp2
      go_meet
      exact ⟨rfl, rfl⟩
  case rest =>
    obtain ⟨rfl, rfl⟩ := hcut
    go_wp2_with fail
    have kca0 := cell_regrown ca0
    have kca1 := cell_regrown ca1
    have kcb0 := cell_regrown cb0
    have kcb1 := cell_regrown cb1
    have kcm0 := cell_regrown cm0
    have kcm1 := cell_regrown cm1
    have kch0 := cell_regrown ch0
    have kch1 := cell_regrown ch1
    refine wp_region_quiet_below (by kernel_rfl) (by kernel_rfl) ?_
    repeat (go_big_quiet_step (first | (go_at_call 34; with_reducible exact Calls.regrown_of (has_anyN _ _ _ _)) | (go_at_call 31; with_reducible exact Calls.regrown_of (length_anyN _ _ _))))
    refine wpQuiet_nil ?_
    intro _ hw9
    obtain ⟨⟨dq, osq⟩, hw9⟩ := hw9
    subst hw9
    go_wp2
    all_goals
      go_ret
      have hl := HL.out
      refine ⟨?_, bstep hB (below_regrown _ _ _)⟩
      simp
      (try split) <;> omega
end Go.Proofs.Ytcgkcdcignkadaa.Iv
