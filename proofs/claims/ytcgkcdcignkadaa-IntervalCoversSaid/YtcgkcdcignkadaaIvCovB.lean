/-
  Walks of the law IntervalCovers for two valid intervals.
-/
import Derived.Test.YtcgkcdcignkadaaIvCov
import Derived.Deep.DeepCutAuto
import Derived.Lib.QuietBelow
set_option linter.unusedSimpArgs false
set_option linter.unusedVariables false
namespace Go.Proofs.Ytcgkcdcignkadaa.Iv
open Go.RowKit Go.ChangeShapes Go.WideShapes Go.Proofs.Ytcgkcdcignkadaa.Sl

set_option maxRecDepth 100000 in
set_option maxHeartbeats 8000000 in
theorem cov_n_ttt (a0 a1 b0 b1 x h0 h1 m0 m1 : Int) (hv1 : validB a0 a1 = true) (hv2 : validB b0 b1 = true) (hO : meetB a0 a1 b0 b1 = true) (hZ : meetZ a0 a1 b0 b1 = (m0, m1)) (hN : hullN a0 a1 b0 b1 = 0) (hH : hullZ a0 a1 b0 b1 = (h0, h1)) (hA : hasB a0 a1 x = true) (hB2 : hasB b0 b1 x = true) (hM : hasB m0 m1 x = true) (hHh : hasB a0 a1 x = true ∨ hasB b0 b1 x = true → hasB h0 h1 x = true) (hd0 : (h0 == a0) = true ∨ ((h0 == a0) = false ∧ (h0 == b0) = true)) (hd1 : (h1 == a1) = true ∨ ((h1 == a1) = false ∧ (h1 == b1) = true)) (hla : lenZ a0 a1 ≤ lenZ h0 h1) (hlb : lenZ b0 b1 ≤ lenZ h0 h1) (L : List (Int × Int)) (hL : minusL a0 a1 b0 b1 = L) (hLe : L.length ≠ 0) (hML : L.length ≤ 2) (hcnt : ((cnt L x : Nat) : Int) = 0) (w : World) : Calls Try.prog 10 #[.agg #[.int .i64 a0, .int .i64 a1], .agg #[.int .i64 b0, .int .i64 b1], .int .i64 x] w fun e w' => e = .returned (.bool true) ∧ Below w.heap.size w w' := by
  have cMeet := fun W => meet_is a0 a1 b0 b1 m0 m1 true W hO hZ
  have cHull := fun W => hull_is a0 a1 b0 b1 h0 h1 W hN hH
  have cMin := fun W => minus_is a0 a1 b0 b1 L W hL
  clear hO hZ hN hH hL
  have hHi : hasB h0 h1 x = true := hHh (by first | exact .inl hA | exact .inr hB2)
  clear hHh
  have HL := Lib.hid (And.intro hla hlb)
  clear hla hlb
  have HD := Lib.hid (And.intro hd0 hd1)
  clear hd0 hd1
  have HC := Lib.hid hcnt
  clear hcnt
  go_enter Try.func10, Try.ntmps10
  go_wp2_with fail
  refine (awake_any _).mono ?_
  rintro e w1 ⟨rfl, hb⟩
  have ca0 : w1.cell? ⟨w.heap.size, 0, none⟩ = some (.int .i64 a0) := cell_kept (by simp) hb
  have ca1 : w1.cell? ⟨w.heap.size, 1, none⟩ = some (.int .i64 a1) := cell_kept (by simp) hb
  have cb0 : w1.cell? ⟨w.heap.size + 1, 0, none⟩ = some (.int .i64 b0) := cell_kept (by simp) hb
  have cb1 : w1.cell? ⟨w.heap.size + 1, 1, none⟩ = some (.int .i64 b1) := cell_kept (by simp) hb
  have hB : Below w.heap.size w w1 := bstep (by go_grown) hb
  clear hb
  have nca0 : w.heap.size < w1.heap.size := block_of_cell ca0
  have ncb0 : w.heap.size + 1 < w1.heap.size := block_of_cell cb0
  go_wp2_with fail
  refine (cMeet _).mono ?_
  rintro e w2 ⟨rfl, hb⟩
  have hq : Below w1.heap.size w1 w2 := bstep (by go_grown) hb
  replace ca0 := cell_kept ca0 hq
  replace ca1 := cell_kept ca1 hq
  replace cb0 := cell_kept cb0 hq
  replace cb1 := cell_kept cb1 hq
  replace hB := bstep hB hq
  clear hq
  clear hb
  have nca0 : w.heap.size < w2.heap.size := block_of_cell ca0
  have ncb0 : w.heap.size + 1 < w2.heap.size := block_of_cell cb0
  go_wp2_with fail
  refine (cMin _).mono ?_
  rintro e w3 ⟨v, rfl, hsl, hb⟩; obtain ⟨g, off, cp1, rfl, hcs⟩ := hsl.open hLe; clear hsl; have HS := Lib.hid hcs; clear hcs
  have hq : Below w2.heap.size w2 w3 := bstep (by go_grown) hb
  replace ca0 := cell_kept ca0 hq
  replace ca1 := cell_kept ca1 hq
  replace cb0 := cell_kept cb0 hq
  replace cb1 := cell_kept cb1 hq
  have cm0 : w3.cell? ⟨w2.heap.size, 0, none⟩ = some (.int .i64 m0) := cell_kept (by simp) hb
  have cm1 : w3.cell? ⟨w2.heap.size, 1, none⟩ = some (.int .i64 m1) := cell_kept (by simp) hb
  replace hB := bstep hB hq
  clear hq
  clear hb
  have nca0 : w.heap.size < w3.heap.size := block_of_cell ca0
  have ncb0 : w.heap.size + 1 < w3.heap.size := block_of_cell cb0
  have ncm0 : w2.heap.size < w3.heap.size := block_of_cell cm0
  go_wp2_with fail
  go_loopw [9, 29] (fun l i wr => ∃ k : Nat, k ≤ L.length ∧ i = .int .i64 k ∧ l = .int .i64 ((cnt (L.take k) x : Nat) : Int) ∧ Below w3.heap.size w3 wr) (fun _ i _ => L.length - (intOf i).toNat)
  case atStart => exact ⟨0, Nat.zero_le _, rfl, by simp [cnt], Below.refl _ _⟩
  case round =>
    obtain ⟨k, hk, rfl, rfl, hq⟩ := hrel
    by_cases hlt : k < L.length
    · have d0 := HS.out _ _ (flat_get0 L k hlt)
      have d1 := HS.out _ _ (flat_get1 L k hlt)
      rw [← Nat.add_assoc] at d1
      have cs := cnt_step L x k hlt
      have cb := cnt_le (L.take k) x
      have cl : (L.take k).length ≤ k := List.length_take_le _ _
      obtain ⟨p, hp⟩ : ∃ p, L.getD k (0, 0) = p := ⟨_, rfl⟩
      rw [hp] at d0 d1 cs
      clear hp
      have CS := Lib.hid cs
      clear cs
      have e0 := cell_kept d0 hq
      have e1 := cell_kept d1 hq
      have ng : g < wr.heap.size := block_of_cell e0
      clear d0 d1
      replace ca0 := cell_kept ca0 hq
      replace ca1 := cell_kept ca1 hq
      replace cb0 := cell_kept cb0 hq
      replace cb1 := cell_kept cb1 hq
      replace cm0 := cell_kept cm0 hq
      replace cm1 := cell_kept cm1 hq
    
      cases hh : hasB p.1 p.2 x
      all_goals
        go_wp2_with fail
        refine (has_anyN _ _ _ _).mono ?_
        rintro e w9 ⟨rfl, hb⟩
        have hq2 := Below.trans hq ((bstep (by go_grown) hb : Below wr.heap.size wr w9).mono hq.size)
        go_wp2_with fail
        go_roundw
        case rel => exact ⟨k + 1, by omega, by go_num, by rw [CS.out, hh]; first | rfl | go_num, hq2⟩
        case measure => simp [intOf]; omega
    · obtain rfl : k = L.length := by omega
      rw [List.take_of_length_le (Nat.le_refl _)]
      rw [HC.out]
      obtain ⟨w4, rfl⟩ : ∃ W, W = wr := ⟨_, rfl⟩
      replace ca0 := cell_kept ca0 hq
      replace ca1 := cell_kept ca1 hq
      replace cb0 := cell_kept cb0 hq
      replace cb1 := cell_kept cb1 hq
      replace cm0 := cell_kept cm0 hq
      replace cm1 := cell_kept cm1 hq
      replace hB := bstep hB hq
      clear hq hlt hk
      have nca0 : w.heap.size < w4.heap.size := block_of_cell ca0
      have ncb0 : w.heap.size + 1 < w4.heap.size := block_of_cell cb0
      have ncm0 : w2.heap.size < w4.heap.size := block_of_cell cm0
      go_wp2_with fail
      refine (cHull _).mono ?_
      rintro e w5 ⟨rfl, hb⟩
      have hq : Below w4.heap.size w4 w5 := bstep (by go_grown) hb
      replace ca0 := cell_kept ca0 hq
      replace ca1 := cell_kept ca1 hq
      replace cb0 := cell_kept cb0 hq
      replace cb1 := cell_kept cb1 hq
      replace cm0 := cell_kept cm0 hq
      replace cm1 := cell_kept cm1 hq
      replace hB := bstep hB hq
      clear hq
      clear hb
      have nca0 : w.heap.size < w5.heap.size := block_of_cell ca0
      have ncb0 : w.heap.size + 1 < w5.heap.size := block_of_cell cb0
      have ncm0 : w2.heap.size < w5.heap.size := block_of_cell cm0
      go_wp2_with fail
      refine (valid_any _ _ _).mono ?_
      rintro e w6 ⟨rfl, hb⟩
      have hq : Below w5.heap.size w5 w6 := bstep (by go_grown) hb
      replace ca0 := cell_kept ca0 hq
      replace ca1 := cell_kept ca1 hq
      replace cb0 := cell_kept cb0 hq
      replace cb1 := cell_kept cb1 hq
      replace cm0 := cell_kept cm0 hq
      replace cm1 := cell_kept cm1 hq
      have ch0 : w6.cell? ⟨w5.heap.size, 0, none⟩ = some (.int .i64 h0) := cell_kept (by simp) hb
      have ch1 : w6.cell? ⟨w5.heap.size, 1, none⟩ = some (.int .i64 h1) := cell_kept (by simp) hb
      replace hB := bstep hB hq
      clear hq
      clear hb
      have nca0 : w.heap.size < w6.heap.size := block_of_cell ca0
      have ncb0 : w.heap.size + 1 < w6.heap.size := block_of_cell cb0
      have ncm0 : w2.heap.size < w6.heap.size := block_of_cell cm0
      have nch0 : w5.heap.size < w6.heap.size := block_of_cell ch0
      go_wp2_with fail
      refine (valid_any _ _ _).mono ?_
      rintro e w7 ⟨rfl, hb⟩
      have hq : Below w6.heap.size w6 w7 := bstep (by go_grown) hb
      replace ca0 := cell_kept ca0 hq
      replace ca1 := cell_kept ca1 hq
      replace cb0 := cell_kept cb0 hq
      replace cb1 := cell_kept cb1 hq
      replace cm0 := cell_kept cm0 hq
      replace cm1 := cell_kept cm1 hq
      replace ch0 := cell_kept ch0 hq
      replace ch1 := cell_kept ch1 hq
      replace hB := bstep hB hq
      clear hq
      clear hb
      have nca0 : w.heap.size < w7.heap.size := block_of_cell ca0
      have ncb0 : w.heap.size + 1 < w7.heap.size := block_of_cell cb0
      have ncm0 : w2.heap.size < w7.heap.size := block_of_cell cm0
      have nch0 : w5.heap.size < w7.heap.size := block_of_cell ch0
      go_wp2_with fail
      have hz := hB.size
      have hK : Kp w [(w.heap.size, 0, .int .i64 a0), (w.heap.size, 1, .int .i64 a1), (w.heap.size + 1, 0, .int .i64 b0), (w.heap.size + 1, 1, .int .i64 b1), (w2.heap.size, 0, .int .i64 m0), (w2.heap.size, 1, .int .i64 m1), (w5.heap.size, 0, .int .i64 h0), (w5.heap.size, 1, .int .i64 h1)] w7.drew := (((((((((Kp.start hB).add (w5.heap.size) 1 (.int .i64 h1) ch1).add (w5.heap.size) 0 (.int .i64 h0) ch0).add (w2.heap.size) 1 (.int .i64 m1) cm1).add (w2.heap.size) 0 (.int .i64 m0) cm0).add (w.heap.size + 1) 1 (.int .i64 b1) cb1).add (w.heap.size + 1) 0 (.int .i64 b0) cb0).add (w.heap.size) 1 (.int .i64 a1) ca1).add (w.heap.size) 0 (.int .i64 a0) ca0).drew
      have kca0 : ∀ W, Kp w [(w.heap.size, 0, .int .i64 a0), (w.heap.size, 1, .int .i64 a1), (w.heap.size + 1, 0, .int .i64 b0), (w.heap.size + 1, 1, .int .i64 b1), (w2.heap.size, 0, .int .i64 m0), (w2.heap.size, 1, .int .i64 m1), (w5.heap.size, 0, .int .i64 h0), (w5.heap.size, 1, .int .i64 h1)] W → W.cell? ⟨w.heap.size, 0, none⟩ = some (.int .i64 a0) := fun _ h => h.at0
      have kca1 : ∀ W, Kp w [(w.heap.size, 0, .int .i64 a0), (w.heap.size, 1, .int .i64 a1), (w.heap.size + 1, 0, .int .i64 b0), (w.heap.size + 1, 1, .int .i64 b1), (w2.heap.size, 0, .int .i64 m0), (w2.heap.size, 1, .int .i64 m1), (w5.heap.size, 0, .int .i64 h0), (w5.heap.size, 1, .int .i64 h1)] W → W.cell? ⟨w.heap.size, 1, none⟩ = some (.int .i64 a1) := fun _ h => h.tl.at0
      have kcb0 : ∀ W, Kp w [(w.heap.size, 0, .int .i64 a0), (w.heap.size, 1, .int .i64 a1), (w.heap.size + 1, 0, .int .i64 b0), (w.heap.size + 1, 1, .int .i64 b1), (w2.heap.size, 0, .int .i64 m0), (w2.heap.size, 1, .int .i64 m1), (w5.heap.size, 0, .int .i64 h0), (w5.heap.size, 1, .int .i64 h1)] W → W.cell? ⟨w.heap.size + 1, 0, none⟩ = some (.int .i64 b0) := fun _ h => h.tl.tl.at0
      have kcb1 : ∀ W, Kp w [(w.heap.size, 0, .int .i64 a0), (w.heap.size, 1, .int .i64 a1), (w.heap.size + 1, 0, .int .i64 b0), (w.heap.size + 1, 1, .int .i64 b1), (w2.heap.size, 0, .int .i64 m0), (w2.heap.size, 1, .int .i64 m1), (w5.heap.size, 0, .int .i64 h0), (w5.heap.size, 1, .int .i64 h1)] W → W.cell? ⟨w.heap.size + 1, 1, none⟩ = some (.int .i64 b1) := fun _ h => h.tl.tl.tl.at0
      have kcm0 : ∀ W, Kp w [(w.heap.size, 0, .int .i64 a0), (w.heap.size, 1, .int .i64 a1), (w.heap.size + 1, 0, .int .i64 b0), (w.heap.size + 1, 1, .int .i64 b1), (w2.heap.size, 0, .int .i64 m0), (w2.heap.size, 1, .int .i64 m1), (w5.heap.size, 0, .int .i64 h0), (w5.heap.size, 1, .int .i64 h1)] W → W.cell? ⟨w2.heap.size, 0, none⟩ = some (.int .i64 m0) := fun _ h => h.tl.tl.tl.tl.at0
      have kcm1 : ∀ W, Kp w [(w.heap.size, 0, .int .i64 a0), (w.heap.size, 1, .int .i64 a1), (w.heap.size + 1, 0, .int .i64 b0), (w.heap.size + 1, 1, .int .i64 b1), (w2.heap.size, 0, .int .i64 m0), (w2.heap.size, 1, .int .i64 m1), (w5.heap.size, 0, .int .i64 h0), (w5.heap.size, 1, .int .i64 h1)] W → W.cell? ⟨w2.heap.size, 1, none⟩ = some (.int .i64 m1) := fun _ h => h.tl.tl.tl.tl.tl.at0
      have kch0 : ∀ W, Kp w [(w.heap.size, 0, .int .i64 a0), (w.heap.size, 1, .int .i64 a1), (w.heap.size + 1, 0, .int .i64 b0), (w.heap.size + 1, 1, .int .i64 b1), (w2.heap.size, 0, .int .i64 m0), (w2.heap.size, 1, .int .i64 m1), (w5.heap.size, 0, .int .i64 h0), (w5.heap.size, 1, .int .i64 h1)] W → W.cell? ⟨w5.heap.size, 0, none⟩ = some (.int .i64 h0) := fun _ h => h.tl.tl.tl.tl.tl.tl.at0
      have kch1 : ∀ W, Kp w [(w.heap.size, 0, .int .i64 a0), (w.heap.size, 1, .int .i64 a1), (w.heap.size + 1, 0, .int .i64 b0), (w.heap.size + 1, 1, .int .i64 b1), (w2.heap.size, 0, .int .i64 m0), (w2.heap.size, 1, .int .i64 m1), (w5.heap.size, 0, .int .i64 h0), (w5.heap.size, 1, .int .i64 h1)] W → W.cell? ⟨w5.heap.size, 1, none⟩ = some (.int .i64 h1) := fun _ h => h.tl.tl.tl.tl.tl.tl.tl.at0
      clear ca0 ca1 cb0 cb1 cm0 cm1 ch0 ch1 hB hz
      first
        | go_region_held3 (fun W => Kp w [(w.heap.size, 0, .int .i64 a0), (w.heap.size, 1, .int .i64 a1), (w.heap.size + 1, 0, .int .i64 b0), (w.heap.size + 1, 1, .int .i64 b1), (w2.heap.size, 0, .int .i64 m0), (w2.heap.size, 1, .int .i64 m1), (w5.heap.size, 0, .int .i64 h0), (w5.heap.size, 1, .int .i64 h1)] W)
        (first | (with_reducible exact hK) | (with_reducible assumption) | (with_reducible exact Kp.step (by assumption) hb) | (with_reducible exact Kp.alloc (by assumption) _))
        (first
         | (go_at_call 34; ((with_reducible refine (has_anyN _ _ _ _).mono ?_); rintro e wn ⟨rfl, hb⟩)))
        | fail
      obtain ⟨w8, rfl⟩ : ∃ W, W = wn := ⟨_, rfl⟩
      have ca0 : w8.cell? ⟨w.heap.size, 0, none⟩ = some (.int .i64 a0) := kca0 _ (by assumption)
      have ca1 : w8.cell? ⟨w.heap.size, 1, none⟩ = some (.int .i64 a1) := kca1 _ (by assumption)
      have cb0 : w8.cell? ⟨w.heap.size + 1, 0, none⟩ = some (.int .i64 b0) := kcb0 _ (by assumption)
      have cb1 : w8.cell? ⟨w.heap.size + 1, 1, none⟩ = some (.int .i64 b1) := kcb1 _ (by assumption)
      have cm0 : w8.cell? ⟨w2.heap.size, 0, none⟩ = some (.int .i64 m0) := kcm0 _ (by assumption)
      have cm1 : w8.cell? ⟨w2.heap.size, 1, none⟩ = some (.int .i64 m1) := kcm1 _ (by assumption)
      have ch0 : w8.cell? ⟨w5.heap.size, 0, none⟩ = some (.int .i64 h0) := kch0 _ (by assumption)
      have ch1 : w8.cell? ⟨w5.heap.size, 1, none⟩ = some (.int .i64 h1) := kch1 _ (by assumption)
      have hB : Below w.heap.size w w8 := kp_below (by assumption)
      clear kca0 kca1 kcb0 kcb1 kcm0 kcm1 kch0 kch1 hK
      have nca0 : w.heap.size < w8.heap.size := block_of_cell ca0
      have ncb0 : w.heap.size + 1 < w8.heap.size := block_of_cell cb0
      have ncm0 : w2.heap.size < w8.heap.size := block_of_cell cm0
      have nch0 : w5.heap.size < w8.heap.size := block_of_cell ch0
      go_wp2_with fail
      refine (has_anyN _ _ _ _).mono ?_
      rintro e w9 ⟨rfl, hb⟩
      have hq : Below w8.heap.size w8 w9 := bstep (by go_grown) hb
      replace ca0 := cell_kept ca0 hq
      replace ca1 := cell_kept ca1 hq
      replace cb0 := cell_kept cb0 hq
      replace cb1 := cell_kept cb1 hq
      replace cm0 := cell_kept cm0 hq
      replace cm1 := cell_kept cm1 hq
      replace ch0 := cell_kept ch0 hq
      replace ch1 := cell_kept ch1 hq
      replace hB := bstep hB hq
      clear hq
      clear hb
      have nca0 : w.heap.size < w9.heap.size := block_of_cell ca0
      have ncb0 : w.heap.size + 1 < w9.heap.size := block_of_cell cb0
      have ncm0 : w2.heap.size < w9.heap.size := block_of_cell cm0
      have nch0 : w5.heap.size < w9.heap.size := block_of_cell ch0
      go_upto_region 17 with fail
      go_cut [16] (fun s wx => s = .bool true ∧ w9 = wx)
      case first =>
        obtain ⟨g0 | ⟨g0, g1⟩, g2 | ⟨g2, g3⟩⟩ := HD.out
        all_goals
          go_wp2
          go_meet
          exact ⟨rfl, rfl⟩
      case rest =>
        obtain ⟨rfl, rfl⟩ := hcut
        go_wp2_with fail
        have kca0 := cell_regrown ca0
        have kca1 := cell_regrown ca1
        have kcb0 := cell_regrown cb0
        have kcb1 := cell_regrown cb1
        have kcm0 := cell_regrown cm0
        have kcm1 := cell_regrown cm1
        have kch0 := cell_regrown ch0
        have kch1 := cell_regrown ch1
        refine wp_region_quiet_below (by kernel_rfl) (by kernel_rfl) ?_
        repeat (go_big_quiet_step (first | (go_at_call 34; with_reducible exact Calls.regrown_of (has_anyN _ _ _ _)) | (go_at_call 31; with_reducible exact Calls.regrown_of (length_anyN _ _ _))))
        refine wpQuiet_nil ?_
        intro _ hw9
        obtain ⟨⟨dq, osq⟩, hw9⟩ := hw9
        subst hw9
        go_wp2
        all_goals
          go_ret
          have hl := HL.out
          refine ⟨?_, bstep hB (below_regrown _ _ _)⟩
          simp
          (try split) <;> omega

set_option maxRecDepth 100000 in
set_option maxHeartbeats 8000000 in
theorem cov_n_tft (a0 a1 b0 b1 x h0 h1 m0 m1 : Int) (hv1 : validB a0 a1 = true) (hv2 : validB b0 b1 = true) (hO : meetB a0 a1 b0 b1 = true) (hZ : meetZ a0 a1 b0 b1 = (m0, m1)) (hN : hullN a0 a1 b0 b1 = 0) (hH : hullZ a0 a1 b0 b1 = (h0, h1)) (hA : hasB a0 a1 x = true) (hB2 : hasB b0 b1 x = false) (hM : hasB m0 m1 x = false) (hHh : hasB a0 a1 x = true ∨ hasB b0 b1 x = true → hasB h0 h1 x = true) (hd0 : (h0 == a0) = true ∨ ((h0 == a0) = false ∧ (h0 == b0) = true)) (hd1 : (h1 == a1) = true ∨ ((h1 == a1) = false ∧ (h1 == b1) = true)) (hla : lenZ a0 a1 ≤ lenZ h0 h1) (hlb : lenZ b0 b1 ≤ lenZ h0 h1) (L : List (Int × Int)) (hL : minusL a0 a1 b0 b1 = L) (hLe : L.length ≠ 0) (hML : L.length ≤ 2) (hcnt : ((cnt L x : Nat) : Int) = 1) (w : World) : Calls Try.prog 10 #[.agg #[.int .i64 a0, .int .i64 a1], .agg #[.int .i64 b0, .int .i64 b1], .int .i64 x] w fun e w' => e = .returned (.bool true) ∧ Below w.heap.size w w' := by
  have cMeet := fun W => meet_is a0 a1 b0 b1 m0 m1 true W hO hZ
  have cHull := fun W => hull_is a0 a1 b0 b1 h0 h1 W hN hH
  have cMin := fun W => minus_is a0 a1 b0 b1 L W hL
  clear hO hZ hN hH hL
  have hHi : hasB h0 h1 x = true := hHh (by first | exact .inl hA | exact .inr hB2)
  clear hHh
  have HL := Lib.hid (And.intro hla hlb)
  clear hla hlb
  have HD := Lib.hid (And.intro hd0 hd1)
  clear hd0 hd1
  have HC := Lib.hid hcnt
  clear hcnt
  go_enter Try.func10, Try.ntmps10
  go_wp2_with fail
  refine (awake_any _).mono ?_
  rintro e w1 ⟨rfl, hb⟩
  have ca0 : w1.cell? ⟨w.heap.size, 0, none⟩ = some (.int .i64 a0) := cell_kept (by simp) hb
  have ca1 : w1.cell? ⟨w.heap.size, 1, none⟩ = some (.int .i64 a1) := cell_kept (by simp) hb
  have cb0 : w1.cell? ⟨w.heap.size + 1, 0, none⟩ = some (.int .i64 b0) := cell_kept (by simp) hb
  have cb1 : w1.cell? ⟨w.heap.size + 1, 1, none⟩ = some (.int .i64 b1) := cell_kept (by simp) hb
  have hB : Below w.heap.size w w1 := bstep (by go_grown) hb
  clear hb
  have nca0 : w.heap.size < w1.heap.size := block_of_cell ca0
  have ncb0 : w.heap.size + 1 < w1.heap.size := block_of_cell cb0
  go_wp2_with fail
  refine (cMeet _).mono ?_
  rintro e w2 ⟨rfl, hb⟩
  have hq : Below w1.heap.size w1 w2 := bstep (by go_grown) hb
  replace ca0 := cell_kept ca0 hq
  replace ca1 := cell_kept ca1 hq
  replace cb0 := cell_kept cb0 hq
  replace cb1 := cell_kept cb1 hq
  replace hB := bstep hB hq
  clear hq
  clear hb
  have nca0 : w.heap.size < w2.heap.size := block_of_cell ca0
  have ncb0 : w.heap.size + 1 < w2.heap.size := block_of_cell cb0
  go_wp2_with fail
  refine (cMin _).mono ?_
  rintro e w3 ⟨v, rfl, hsl, hb⟩; obtain ⟨g, off, cp1, rfl, hcs⟩ := hsl.open hLe; clear hsl; have HS := Lib.hid hcs; clear hcs
  have hq : Below w2.heap.size w2 w3 := bstep (by go_grown) hb
  replace ca0 := cell_kept ca0 hq
  replace ca1 := cell_kept ca1 hq
  replace cb0 := cell_kept cb0 hq
  replace cb1 := cell_kept cb1 hq
  have cm0 : w3.cell? ⟨w2.heap.size, 0, none⟩ = some (.int .i64 m0) := cell_kept (by simp) hb
  have cm1 : w3.cell? ⟨w2.heap.size, 1, none⟩ = some (.int .i64 m1) := cell_kept (by simp) hb
  replace hB := bstep hB hq
  clear hq
  clear hb
  have nca0 : w.heap.size < w3.heap.size := block_of_cell ca0
  have ncb0 : w.heap.size + 1 < w3.heap.size := block_of_cell cb0
  have ncm0 : w2.heap.size < w3.heap.size := block_of_cell cm0
  go_wp2_with fail
  go_loopw [9, 29] (fun l i wr => ∃ k : Nat, k ≤ L.length ∧ i = .int .i64 k ∧ l = .int .i64 ((cnt (L.take k) x : Nat) : Int) ∧ Below w3.heap.size w3 wr) (fun _ i _ => L.length - (intOf i).toNat)
  case atStart => exact ⟨0, Nat.zero_le _, rfl, by simp [cnt], Below.refl _ _⟩
  case round =>
    obtain ⟨k, hk, rfl, rfl, hq⟩ := hrel
    by_cases hlt : k < L.length
    · have d0 := HS.out _ _ (flat_get0 L k hlt)
      have d1 := HS.out _ _ (flat_get1 L k hlt)
      rw [← Nat.add_assoc] at d1
      have cs := cnt_step L x k hlt
      have cb := cnt_le (L.take k) x
      have cl : (L.take k).length ≤ k := List.length_take_le _ _
      obtain ⟨p, hp⟩ : ∃ p, L.getD k (0, 0) = p := ⟨_, rfl⟩
      rw [hp] at d0 d1 cs
      clear hp
      have CS := Lib.hid cs
      clear cs
      have e0 := cell_kept d0 hq
      have e1 := cell_kept d1 hq
      have ng : g < wr.heap.size := block_of_cell e0
      clear d0 d1
      replace ca0 := cell_kept ca0 hq
      replace ca1 := cell_kept ca1 hq
      replace cb0 := cell_kept cb0 hq
      replace cb1 := cell_kept cb1 hq
      replace cm0 := cell_kept cm0 hq
      replace cm1 := cell_kept cm1 hq
    
      cases hh : hasB p.1 p.2 x
      all_goals
        go_wp2_with fail
        refine (has_anyN _ _ _ _).mono ?_
        rintro e w9 ⟨rfl, hb⟩
        have hq2 := Below.trans hq ((bstep (by go_grown) hb : Below wr.heap.size wr w9).mono hq.size)
        go_wp2_with fail
        go_roundw
        case rel => exact ⟨k + 1, by omega, by go_num, by rw [CS.out, hh]; first | rfl | go_num, hq2⟩
        case measure => simp [intOf]; omega
    · obtain rfl : k = L.length := by omega
      rw [List.take_of_length_le (Nat.le_refl _)]
      rw [HC.out]
      obtain ⟨w4, rfl⟩ : ∃ W, W = wr := ⟨_, rfl⟩
      replace ca0 := cell_kept ca0 hq
      replace ca1 := cell_kept ca1 hq
      replace cb0 := cell_kept cb0 hq
      replace cb1 := cell_kept cb1 hq
      replace cm0 := cell_kept cm0 hq
      replace cm1 := cell_kept cm1 hq
      replace hB := bstep hB hq
      clear hq hlt hk
      have nca0 : w.heap.size < w4.heap.size := block_of_cell ca0
      have ncb0 : w.heap.size + 1 < w4.heap.size := block_of_cell cb0
      have ncm0 : w2.heap.size < w4.heap.size := block_of_cell cm0
      go_wp2_with fail
      refine (cHull _).mono ?_
      rintro e w5 ⟨rfl, hb⟩
      have hq : Below w4.heap.size w4 w5 := bstep (by go_grown) hb
      replace ca0 := cell_kept ca0 hq
      replace ca1 := cell_kept ca1 hq
      replace cb0 := cell_kept cb0 hq
      replace cb1 := cell_kept cb1 hq
      replace cm0 := cell_kept cm0 hq
      replace cm1 := cell_kept cm1 hq
      replace hB := bstep hB hq
      clear hq
      clear hb
      have nca0 : w.heap.size < w5.heap.size := block_of_cell ca0
      have ncb0 : w.heap.size + 1 < w5.heap.size := block_of_cell cb0
      have ncm0 : w2.heap.size < w5.heap.size := block_of_cell cm0
      go_wp2_with fail
      refine (valid_any _ _ _).mono ?_
      rintro e w6 ⟨rfl, hb⟩
      have hq : Below w5.heap.size w5 w6 := bstep (by go_grown) hb
      replace ca0 := cell_kept ca0 hq
      replace ca1 := cell_kept ca1 hq
      replace cb0 := cell_kept cb0 hq
      replace cb1 := cell_kept cb1 hq
      replace cm0 := cell_kept cm0 hq
      replace cm1 := cell_kept cm1 hq
      have ch0 : w6.cell? ⟨w5.heap.size, 0, none⟩ = some (.int .i64 h0) := cell_kept (by simp) hb
      have ch1 : w6.cell? ⟨w5.heap.size, 1, none⟩ = some (.int .i64 h1) := cell_kept (by simp) hb
      replace hB := bstep hB hq
      clear hq
      clear hb
      have nca0 : w.heap.size < w6.heap.size := block_of_cell ca0
      have ncb0 : w.heap.size + 1 < w6.heap.size := block_of_cell cb0
      have ncm0 : w2.heap.size < w6.heap.size := block_of_cell cm0
      have nch0 : w5.heap.size < w6.heap.size := block_of_cell ch0
      go_wp2_with fail
      refine (valid_any _ _ _).mono ?_
      rintro e w7 ⟨rfl, hb⟩
      have hq : Below w6.heap.size w6 w7 := bstep (by go_grown) hb
      replace ca0 := cell_kept ca0 hq
      replace ca1 := cell_kept ca1 hq
      replace cb0 := cell_kept cb0 hq
      replace cb1 := cell_kept cb1 hq
      replace cm0 := cell_kept cm0 hq
      replace cm1 := cell_kept cm1 hq
      replace ch0 := cell_kept ch0 hq
      replace ch1 := cell_kept ch1 hq
      replace hB := bstep hB hq
      clear hq
      clear hb
      have nca0 : w.heap.size < w7.heap.size := block_of_cell ca0
      have ncb0 : w.heap.size + 1 < w7.heap.size := block_of_cell cb0
      have ncm0 : w2.heap.size < w7.heap.size := block_of_cell cm0
      have nch0 : w5.heap.size < w7.heap.size := block_of_cell ch0
      go_wp2_with fail
      have hz := hB.size
      have hK : Kp w [(w.heap.size, 0, .int .i64 a0), (w.heap.size, 1, .int .i64 a1), (w.heap.size + 1, 0, .int .i64 b0), (w.heap.size + 1, 1, .int .i64 b1), (w2.heap.size, 0, .int .i64 m0), (w2.heap.size, 1, .int .i64 m1), (w5.heap.size, 0, .int .i64 h0), (w5.heap.size, 1, .int .i64 h1)] w7.drew := (((((((((Kp.start hB).add (w5.heap.size) 1 (.int .i64 h1) ch1).add (w5.heap.size) 0 (.int .i64 h0) ch0).add (w2.heap.size) 1 (.int .i64 m1) cm1).add (w2.heap.size) 0 (.int .i64 m0) cm0).add (w.heap.size + 1) 1 (.int .i64 b1) cb1).add (w.heap.size + 1) 0 (.int .i64 b0) cb0).add (w.heap.size) 1 (.int .i64 a1) ca1).add (w.heap.size) 0 (.int .i64 a0) ca0).drew
      have kca0 : ∀ W, Kp w [(w.heap.size, 0, .int .i64 a0), (w.heap.size, 1, .int .i64 a1), (w.heap.size + 1, 0, .int .i64 b0), (w.heap.size + 1, 1, .int .i64 b1), (w2.heap.size, 0, .int .i64 m0), (w2.heap.size, 1, .int .i64 m1), (w5.heap.size, 0, .int .i64 h0), (w5.heap.size, 1, .int .i64 h1)] W → W.cell? ⟨w.heap.size, 0, none⟩ = some (.int .i64 a0) := fun _ h => h.at0
      have kca1 : ∀ W, Kp w [(w.heap.size, 0, .int .i64 a0), (w.heap.size, 1, .int .i64 a1), (w.heap.size + 1, 0, .int .i64 b0), (w.heap.size + 1, 1, .int .i64 b1), (w2.heap.size, 0, .int .i64 m0), (w2.heap.size, 1, .int .i64 m1), (w5.heap.size, 0, .int .i64 h0), (w5.heap.size, 1, .int .i64 h1)] W → W.cell? ⟨w.heap.size, 1, none⟩ = some (.int .i64 a1) := fun _ h => h.tl.at0
      have kcb0 : ∀ W, Kp w [(w.heap.size, 0, .int .i64 a0), (w.heap.size, 1, .int .i64 a1), (w.heap.size + 1, 0, .int .i64 b0), (w.heap.size + 1, 1, .int .i64 b1), (w2.heap.size, 0, .int .i64 m0), (w2.heap.size, 1, .int .i64 m1), (w5.heap.size, 0, .int .i64 h0), (w5.heap.size, 1, .int .i64 h1)] W → W.cell? ⟨w.heap.size + 1, 0, none⟩ = some (.int .i64 b0) := fun _ h => h.tl.tl.at0
      have kcb1 : ∀ W, Kp w [(w.heap.size, 0, .int .i64 a0), (w.heap.size, 1, .int .i64 a1), (w.heap.size + 1, 0, .int .i64 b0), (w.heap.size + 1, 1, .int .i64 b1), (w2.heap.size, 0, .int .i64 m0), (w2.heap.size, 1, .int .i64 m1), (w5.heap.size, 0, .int .i64 h0), (w5.heap.size, 1, .int .i64 h1)] W → W.cell? ⟨w.heap.size + 1, 1, none⟩ = some (.int .i64 b1) := fun _ h => h.tl.tl.tl.at0
      have kcm0 : ∀ W, Kp w [(w.heap.size, 0, .int .i64 a0), (w.heap.size, 1, .int .i64 a1), (w.heap.size + 1, 0, .int .i64 b0), (w.heap.size + 1, 1, .int .i64 b1), (w2.heap.size, 0, .int .i64 m0), (w2.heap.size, 1, .int .i64 m1), (w5.heap.size, 0, .int .i64 h0), (w5.heap.size, 1, .int .i64 h1)] W → W.cell? ⟨w2.heap.size, 0, none⟩ = some (.int .i64 m0) := fun _ h => h.tl.tl.tl.tl.at0
      have kcm1 : ∀ W, Kp w [(w.heap.size, 0, .int .i64 a0), (w.heap.size, 1, .int .i64 a1), (w.heap.size + 1, 0, .int .i64 b0), (w.heap.size + 1, 1, .int .i64 b1), (w2.heap.size, 0, .int .i64 m0), (w2.heap.size, 1, .int .i64 m1), (w5.heap.size, 0, .int .i64 h0), (w5.heap.size, 1, .int .i64 h1)] W → W.cell? ⟨w2.heap.size, 1, none⟩ = some (.int .i64 m1) := fun _ h => h.tl.tl.tl.tl.tl.at0
      have kch0 : ∀ W, Kp w [(w.heap.size, 0, .int .i64 a0), (w.heap.size, 1, .int .i64 a1), (w.heap.size + 1, 0, .int .i64 b0), (w.heap.size + 1, 1, .int .i64 b1), (w2.heap.size, 0, .int .i64 m0), (w2.heap.size, 1, .int .i64 m1), (w5.heap.size, 0, .int .i64 h0), (w5.heap.size, 1, .int .i64 h1)] W → W.cell? ⟨w5.heap.size, 0, none⟩ = some (.int .i64 h0) := fun _ h => h.tl.tl.tl.tl.tl.tl.at0
      have kch1 : ∀ W, Kp w [(w.heap.size, 0, .int .i64 a0), (w.heap.size, 1, .int .i64 a1), (w.heap.size + 1, 0, .int .i64 b0), (w.heap.size + 1, 1, .int .i64 b1), (w2.heap.size, 0, .int .i64 m0), (w2.heap.size, 1, .int .i64 m1), (w5.heap.size, 0, .int .i64 h0), (w5.heap.size, 1, .int .i64 h1)] W → W.cell? ⟨w5.heap.size, 1, none⟩ = some (.int .i64 h1) := fun _ h => h.tl.tl.tl.tl.tl.tl.tl.at0
      clear ca0 ca1 cb0 cb1 cm0 cm1 ch0 ch1 hB hz
      first
        | go_region_held3 (fun W => Kp w [(w.heap.size, 0, .int .i64 a0), (w.heap.size, 1, .int .i64 a1), (w.heap.size + 1, 0, .int .i64 b0), (w.heap.size + 1, 1, .int .i64 b1), (w2.heap.size, 0, .int .i64 m0), (w2.heap.size, 1, .int .i64 m1), (w5.heap.size, 0, .int .i64 h0), (w5.heap.size, 1, .int .i64 h1)] W)
        (first | (with_reducible exact hK) | (with_reducible assumption) | (with_reducible exact Kp.step (by assumption) hb) | (with_reducible exact Kp.alloc (by assumption) _))
        (first
         | (go_at_call 34; ((with_reducible refine (has_anyN _ _ _ _).mono ?_); rintro e wn ⟨rfl, hb⟩)))
        | fail
      obtain ⟨w8, rfl⟩ : ∃ W, W = wn := ⟨_, rfl⟩
      have ca0 : w8.cell? ⟨w.heap.size, 0, none⟩ = some (.int .i64 a0) := kca0 _ (by assumption)
      have ca1 : w8.cell? ⟨w.heap.size, 1, none⟩ = some (.int .i64 a1) := kca1 _ (by assumption)
      have cb0 : w8.cell? ⟨w.heap.size + 1, 0, none⟩ = some (.int .i64 b0) := kcb0 _ (by assumption)
      have cb1 : w8.cell? ⟨w.heap.size + 1, 1, none⟩ = some (.int .i64 b1) := kcb1 _ (by assumption)
      have cm0 : w8.cell? ⟨w2.heap.size, 0, none⟩ = some (.int .i64 m0) := kcm0 _ (by assumption)
      have cm1 : w8.cell? ⟨w2.heap.size, 1, none⟩ = some (.int .i64 m1) := kcm1 _ (by assumption)
      have ch0 : w8.cell? ⟨w5.heap.size, 0, none⟩ = some (.int .i64 h0) := kch0 _ (by assumption)
      have ch1 : w8.cell? ⟨w5.heap.size, 1, none⟩ = some (.int .i64 h1) := kch1 _ (by assumption)
      have hB : Below w.heap.size w w8 := kp_below (by assumption)
      clear kca0 kca1 kcb0 kcb1 kcm0 kcm1 kch0 kch1 hK
      have nca0 : w.heap.size < w8.heap.size := block_of_cell ca0
      have ncb0 : w.heap.size + 1 < w8.heap.size := block_of_cell cb0
      have ncm0 : w2.heap.size < w8.heap.size := block_of_cell cm0
      have nch0 : w5.heap.size < w8.heap.size := block_of_cell ch0
      go_wp2_with fail
      refine (has_anyN _ _ _ _).mono ?_
      rintro e w9 ⟨rfl, hb⟩
      have hq : Below w8.heap.size w8 w9 := bstep (by go_grown) hb
      replace ca0 := cell_kept ca0 hq
      replace ca1 := cell_kept ca1 hq
      replace cb0 := cell_kept cb0 hq
      replace cb1 := cell_kept cb1 hq
      replace cm0 := cell_kept cm0 hq
      replace cm1 := cell_kept cm1 hq
      replace ch0 := cell_kept ch0 hq
      replace ch1 := cell_kept ch1 hq
      replace hB := bstep hB hq
      clear hq
      clear hb
      have nca0 : w.heap.size < w9.heap.size := block_of_cell ca0
      have ncb0 : w.heap.size + 1 < w9.heap.size := block_of_cell cb0
      have ncm0 : w2.heap.size < w9.heap.size := block_of_cell cm0
      have nch0 : w5.heap.size < w9.heap.size := block_of_cell ch0
      go_upto_region 17 with fail
      go_cut [16] (fun s wx => s = .bool true ∧ w9 = wx)
      case first =>
        obtain ⟨g0 | ⟨g0, g1⟩, g2 | ⟨g2, g3⟩⟩ := HD.out
        all_goals
          go_wp2
          go_meet
          exact ⟨rfl, rfl⟩
      case rest =>
        obtain ⟨rfl, rfl⟩ := hcut
        go_wp2_with fail
        have kca0 := cell_regrown ca0
        have kca1 := cell_regrown ca1
        have kcb0 := cell_regrown cb0
        have kcb1 := cell_regrown cb1
        have kcm0 := cell_regrown cm0
        have kcm1 := cell_regrown cm1
        have kch0 := cell_regrown ch0
        have kch1 := cell_regrown ch1
        refine wp_region_quiet_below (by kernel_rfl) (by kernel_rfl) ?_
        repeat (go_big_quiet_step (first | (go_at_call 34; with_reducible exact Calls.regrown_of (has_anyN _ _ _ _)) | (go_at_call 31; with_reducible exact Calls.regrown_of (length_anyN _ _ _))))
        refine wpQuiet_nil ?_
        intro _ hw9
        obtain ⟨⟨dq, osq⟩, hw9⟩ := hw9
        subst hw9
        go_wp2
        all_goals
          go_ret
          have hl := HL.out
          refine ⟨?_, bstep hB (below_regrown _ _ _)⟩
          simp
          (try split) <;> omega

set_option maxRecDepth 100000 in
set_option maxHeartbeats 8000000 in
theorem cov_n_tff (a0 a1 b0 b1 x h0 h1 m0 m1 : Int) (hv1 : validB a0 a1 = true) (hv2 : validB b0 b1 = true) (hO : meetB a0 a1 b0 b1 = false) (hZ : meetZ a0 a1 b0 b1 = (m0, m1)) (hN : hullN a0 a1 b0 b1 = 0) (hH : hullZ a0 a1 b0 b1 = (h0, h1)) (hA : hasB a0 a1 x = true) (hB2 : hasB b0 b1 x = false) (hM : hasB m0 m1 x = false) (hHh : hasB a0 a1 x = true ∨ hasB b0 b1 x = true → hasB h0 h1 x = true) (hd0 : (h0 == a0) = true ∨ ((h0 == a0) = false ∧ (h0 == b0) = true)) (hd1 : (h1 == a1) = true ∨ ((h1 == a1) = false ∧ (h1 == b1) = true)) (hla : lenZ a0 a1 ≤ lenZ h0 h1) (hlb : lenZ b0 b1 ≤ lenZ h0 h1) (L : List (Int × Int)) (hL : minusL a0 a1 b0 b1 = L) (hLe : L.length ≠ 0) (hML : L.length ≤ 2) (hcnt : ((cnt L x : Nat) : Int) = 1) (w : World) : Calls Try.prog 10 #[.agg #[.int .i64 a0, .int .i64 a1], .agg #[.int .i64 b0, .int .i64 b1], .int .i64 x] w fun e w' => e = .returned (.bool true) ∧ Below w.heap.size w w' := by
  have cMeet := fun W => meet_is a0 a1 b0 b1 m0 m1 false W hO hZ
  have cHull := fun W => hull_is a0 a1 b0 b1 h0 h1 W hN hH
  have cMin := fun W => minus_is a0 a1 b0 b1 L W hL
  clear hO hZ hN hH hL
  have hHi : hasB h0 h1 x = true := hHh (by first | exact .inl hA | exact .inr hB2)
  clear hHh
  have HL := Lib.hid (And.intro hla hlb)
  clear hla hlb
  have HD := Lib.hid (And.intro hd0 hd1)
  clear hd0 hd1
  have HC := Lib.hid hcnt
  clear hcnt
  go_enter Try.func10, Try.ntmps10
  go_wp2_with fail
  refine (awake_any _).mono ?_
  rintro e w1 ⟨rfl, hb⟩
  have ca0 : w1.cell? ⟨w.heap.size, 0, none⟩ = some (.int .i64 a0) := cell_kept (by simp) hb
  have ca1 : w1.cell? ⟨w.heap.size, 1, none⟩ = some (.int .i64 a1) := cell_kept (by simp) hb
  have cb0 : w1.cell? ⟨w.heap.size + 1, 0, none⟩ = some (.int .i64 b0) := cell_kept (by simp) hb
  have cb1 : w1.cell? ⟨w.heap.size + 1, 1, none⟩ = some (.int .i64 b1) := cell_kept (by simp) hb
  have hB : Below w.heap.size w w1 := bstep (by go_grown) hb
  clear hb
  have nca0 : w.heap.size < w1.heap.size := block_of_cell ca0
  have ncb0 : w.heap.size + 1 < w1.heap.size := block_of_cell cb0
  go_wp2_with fail
  refine (cMeet _).mono ?_
  rintro e w2 ⟨rfl, hb⟩
  have hq : Below w1.heap.size w1 w2 := bstep (by go_grown) hb
  replace ca0 := cell_kept ca0 hq
  replace ca1 := cell_kept ca1 hq
  replace cb0 := cell_kept cb0 hq
  replace cb1 := cell_kept cb1 hq
  replace hB := bstep hB hq
  clear hq
  clear hb
  have nca0 : w.heap.size < w2.heap.size := block_of_cell ca0
  have ncb0 : w.heap.size + 1 < w2.heap.size := block_of_cell cb0
  go_wp2_with fail
  refine (cMin _).mono ?_
  rintro e w3 ⟨v, rfl, hsl, hb⟩; obtain ⟨g, off, cp1, rfl, hcs⟩ := hsl.open hLe; clear hsl; have HS := Lib.hid hcs; clear hcs
  have hq : Below w2.heap.size w2 w3 := bstep (by go_grown) hb
  replace ca0 := cell_kept ca0 hq
  replace ca1 := cell_kept ca1 hq
  replace cb0 := cell_kept cb0 hq
  replace cb1 := cell_kept cb1 hq
  have cm0 : w3.cell? ⟨w2.heap.size, 0, none⟩ = some (.int .i64 m0) := cell_kept (by simp) hb
  have cm1 : w3.cell? ⟨w2.heap.size, 1, none⟩ = some (.int .i64 m1) := cell_kept (by simp) hb
  replace hB := bstep hB hq
  clear hq
  clear hb
  have nca0 : w.heap.size < w3.heap.size := block_of_cell ca0
  have ncb0 : w.heap.size + 1 < w3.heap.size := block_of_cell cb0
  have ncm0 : w2.heap.size < w3.heap.size := block_of_cell cm0
  go_wp2_with fail
  go_loopw [9, 29] (fun l i wr => ∃ k : Nat, k ≤ L.length ∧ i = .int .i64 k ∧ l = .int .i64 ((cnt (L.take k) x : Nat) : Int) ∧ Below w3.heap.size w3 wr) (fun _ i _ => L.length - (intOf i).toNat)
  case atStart => exact ⟨0, Nat.zero_le _, rfl, by simp [cnt], Below.refl _ _⟩
  case round =>
    obtain ⟨k, hk, rfl, rfl, hq⟩ := hrel
    by_cases hlt : k < L.length
    · have d0 := HS.out _ _ (flat_get0 L k hlt)
      have d1 := HS.out _ _ (flat_get1 L k hlt)
      rw [← Nat.add_assoc] at d1
      have cs := cnt_step L x k hlt
      have cb := cnt_le (L.take k) x
      have cl : (L.take k).length ≤ k := List.length_take_le _ _
      obtain ⟨p, hp⟩ : ∃ p, L.getD k (0, 0) = p := ⟨_, rfl⟩
      rw [hp] at d0 d1 cs
      clear hp
      have CS := Lib.hid cs
      clear cs
      have e0 := cell_kept d0 hq
      have e1 := cell_kept d1 hq
      have ng : g < wr.heap.size := block_of_cell e0
      clear d0 d1
      replace ca0 := cell_kept ca0 hq
      replace ca1 := cell_kept ca1 hq
      replace cb0 := cell_kept cb0 hq
      replace cb1 := cell_kept cb1 hq
      replace cm0 := cell_kept cm0 hq
      replace cm1 := cell_kept cm1 hq
    
      cases hh : hasB p.1 p.2 x
      all_goals
        go_wp2_with fail
        refine (has_anyN _ _ _ _).mono ?_
        rintro e w9 ⟨rfl, hb⟩
        have hq2 := Below.trans hq ((bstep (by go_grown) hb : Below wr.heap.size wr w9).mono hq.size)
        go_wp2_with fail
        go_roundw
        case rel => exact ⟨k + 1, by omega, by go_num, by rw [CS.out, hh]; first | rfl | go_num, hq2⟩
        case measure => simp [intOf]; omega
    · obtain rfl : k = L.length := by omega
      rw [List.take_of_length_le (Nat.le_refl _)]
      rw [HC.out]
      obtain ⟨w4, rfl⟩ : ∃ W, W = wr := ⟨_, rfl⟩
      replace ca0 := cell_kept ca0 hq
      replace ca1 := cell_kept ca1 hq
      replace cb0 := cell_kept cb0 hq
      replace cb1 := cell_kept cb1 hq
      replace cm0 := cell_kept cm0 hq
      replace cm1 := cell_kept cm1 hq
      replace hB := bstep hB hq
      clear hq hlt hk
      have nca0 : w.heap.size < w4.heap.size := block_of_cell ca0
      have ncb0 : w.heap.size + 1 < w4.heap.size := block_of_cell cb0
      have ncm0 : w2.heap.size < w4.heap.size := block_of_cell cm0
      go_wp2_with fail
      refine (cHull _).mono ?_
      rintro e w5 ⟨rfl, hb⟩
      have hq : Below w4.heap.size w4 w5 := bstep (by go_grown) hb
      replace ca0 := cell_kept ca0 hq
      replace ca1 := cell_kept ca1 hq
      replace cb0 := cell_kept cb0 hq
      replace cb1 := cell_kept cb1 hq
      replace cm0 := cell_kept cm0 hq
      replace cm1 := cell_kept cm1 hq
      replace hB := bstep hB hq
      clear hq
      clear hb
      have nca0 : w.heap.size < w5.heap.size := block_of_cell ca0
      have ncb0 : w.heap.size + 1 < w5.heap.size := block_of_cell cb0
      have ncm0 : w2.heap.size < w5.heap.size := block_of_cell cm0
      go_wp2_with fail
      refine (valid_any _ _ _).mono ?_
      rintro e w6 ⟨rfl, hb⟩
      have hq : Below w5.heap.size w5 w6 := bstep (by go_grown) hb
      replace ca0 := cell_kept ca0 hq
      replace ca1 := cell_kept ca1 hq
      replace cb0 := cell_kept cb0 hq
      replace cb1 := cell_kept cb1 hq
      replace cm0 := cell_kept cm0 hq
      replace cm1 := cell_kept cm1 hq
      have ch0 : w6.cell? ⟨w5.heap.size, 0, none⟩ = some (.int .i64 h0) := cell_kept (by simp) hb
      have ch1 : w6.cell? ⟨w5.heap.size, 1, none⟩ = some (.int .i64 h1) := cell_kept (by simp) hb
      replace hB := bstep hB hq
      clear hq
      clear hb
      have nca0 : w.heap.size < w6.heap.size := block_of_cell ca0
      have ncb0 : w.heap.size + 1 < w6.heap.size := block_of_cell cb0
      have ncm0 : w2.heap.size < w6.heap.size := block_of_cell cm0
      have nch0 : w5.heap.size < w6.heap.size := block_of_cell ch0
      go_wp2_with fail
      refine (valid_any _ _ _).mono ?_
      rintro e w7 ⟨rfl, hb⟩
      have hq : Below w6.heap.size w6 w7 := bstep (by go_grown) hb
      replace ca0 := cell_kept ca0 hq
      replace ca1 := cell_kept ca1 hq
      replace cb0 := cell_kept cb0 hq
      replace cb1 := cell_kept cb1 hq
      replace cm0 := cell_kept cm0 hq
      replace cm1 := cell_kept cm1 hq
      replace ch0 := cell_kept ch0 hq
      replace ch1 := cell_kept ch1 hq
      replace hB := bstep hB hq
      clear hq
      clear hb
      have nca0 : w.heap.size < w7.heap.size := block_of_cell ca0
      have ncb0 : w.heap.size + 1 < w7.heap.size := block_of_cell cb0
      have ncm0 : w2.heap.size < w7.heap.size := block_of_cell cm0
      have nch0 : w5.heap.size < w7.heap.size := block_of_cell ch0
      go_wp2_with fail
      have hz := hB.size
      have hK : Kp w [(w.heap.size, 0, .int .i64 a0), (w.heap.size, 1, .int .i64 a1), (w.heap.size + 1, 0, .int .i64 b0), (w.heap.size + 1, 1, .int .i64 b1), (w2.heap.size, 0, .int .i64 m0), (w2.heap.size, 1, .int .i64 m1), (w5.heap.size, 0, .int .i64 h0), (w5.heap.size, 1, .int .i64 h1)] w7.drew := (((((((((Kp.start hB).add (w5.heap.size) 1 (.int .i64 h1) ch1).add (w5.heap.size) 0 (.int .i64 h0) ch0).add (w2.heap.size) 1 (.int .i64 m1) cm1).add (w2.heap.size) 0 (.int .i64 m0) cm0).add (w.heap.size + 1) 1 (.int .i64 b1) cb1).add (w.heap.size + 1) 0 (.int .i64 b0) cb0).add (w.heap.size) 1 (.int .i64 a1) ca1).add (w.heap.size) 0 (.int .i64 a0) ca0).drew
      have kca0 : ∀ W, Kp w [(w.heap.size, 0, .int .i64 a0), (w.heap.size, 1, .int .i64 a1), (w.heap.size + 1, 0, .int .i64 b0), (w.heap.size + 1, 1, .int .i64 b1), (w2.heap.size, 0, .int .i64 m0), (w2.heap.size, 1, .int .i64 m1), (w5.heap.size, 0, .int .i64 h0), (w5.heap.size, 1, .int .i64 h1)] W → W.cell? ⟨w.heap.size, 0, none⟩ = some (.int .i64 a0) := fun _ h => h.at0
      have kca1 : ∀ W, Kp w [(w.heap.size, 0, .int .i64 a0), (w.heap.size, 1, .int .i64 a1), (w.heap.size + 1, 0, .int .i64 b0), (w.heap.size + 1, 1, .int .i64 b1), (w2.heap.size, 0, .int .i64 m0), (w2.heap.size, 1, .int .i64 m1), (w5.heap.size, 0, .int .i64 h0), (w5.heap.size, 1, .int .i64 h1)] W → W.cell? ⟨w.heap.size, 1, none⟩ = some (.int .i64 a1) := fun _ h => h.tl.at0
      have kcb0 : ∀ W, Kp w [(w.heap.size, 0, .int .i64 a0), (w.heap.size, 1, .int .i64 a1), (w.heap.size + 1, 0, .int .i64 b0), (w.heap.size + 1, 1, .int .i64 b1), (w2.heap.size, 0, .int .i64 m0), (w2.heap.size, 1, .int .i64 m1), (w5.heap.size, 0, .int .i64 h0), (w5.heap.size, 1, .int .i64 h1)] W → W.cell? ⟨w.heap.size + 1, 0, none⟩ = some (.int .i64 b0) := fun _ h => h.tl.tl.at0
      have kcb1 : ∀ W, Kp w [(w.heap.size, 0, .int .i64 a0), (w.heap.size, 1, .int .i64 a1), (w.heap.size + 1, 0, .int .i64 b0), (w.heap.size + 1, 1, .int .i64 b1), (w2.heap.size, 0, .int .i64 m0), (w2.heap.size, 1, .int .i64 m1), (w5.heap.size, 0, .int .i64 h0), (w5.heap.size, 1, .int .i64 h1)] W → W.cell? ⟨w.heap.size + 1, 1, none⟩ = some (.int .i64 b1) := fun _ h => h.tl.tl.tl.at0
      have kcm0 : ∀ W, Kp w [(w.heap.size, 0, .int .i64 a0), (w.heap.size, 1, .int .i64 a1), (w.heap.size + 1, 0, .int .i64 b0), (w.heap.size + 1, 1, .int .i64 b1), (w2.heap.size, 0, .int .i64 m0), (w2.heap.size, 1, .int .i64 m1), (w5.heap.size, 0, .int .i64 h0), (w5.heap.size, 1, .int .i64 h1)] W → W.cell? ⟨w2.heap.size, 0, none⟩ = some (.int .i64 m0) := fun _ h => h.tl.tl.tl.tl.at0
      have kcm1 : ∀ W, Kp w [(w.heap.size, 0, .int .i64 a0), (w.heap.size, 1, .int .i64 a1), (w.heap.size + 1, 0, .int .i64 b0), (w.heap.size + 1, 1, .int .i64 b1), (w2.heap.size, 0, .int .i64 m0), (w2.heap.size, 1, .int .i64 m1), (w5.heap.size, 0, .int .i64 h0), (w5.heap.size, 1, .int .i64 h1)] W → W.cell? ⟨w2.heap.size, 1, none⟩ = some (.int .i64 m1) := fun _ h => h.tl.tl.tl.tl.tl.at0
      have kch0 : ∀ W, Kp w [(w.heap.size, 0, .int .i64 a0), (w.heap.size, 1, .int .i64 a1), (w.heap.size + 1, 0, .int .i64 b0), (w.heap.size + 1, 1, .int .i64 b1), (w2.heap.size, 0, .int .i64 m0), (w2.heap.size, 1, .int .i64 m1), (w5.heap.size, 0, .int .i64 h0), (w5.heap.size, 1, .int .i64 h1)] W → W.cell? ⟨w5.heap.size, 0, none⟩ = some (.int .i64 h0) := fun _ h => h.tl.tl.tl.tl.tl.tl.at0
      have kch1 : ∀ W, Kp w [(w.heap.size, 0, .int .i64 a0), (w.heap.size, 1, .int .i64 a1), (w.heap.size + 1, 0, .int .i64 b0), (w.heap.size + 1, 1, .int .i64 b1), (w2.heap.size, 0, .int .i64 m0), (w2.heap.size, 1, .int .i64 m1), (w5.heap.size, 0, .int .i64 h0), (w5.heap.size, 1, .int .i64 h1)] W → W.cell? ⟨w5.heap.size, 1, none⟩ = some (.int .i64 h1) := fun _ h => h.tl.tl.tl.tl.tl.tl.tl.at0
      clear ca0 ca1 cb0 cb1 cm0 cm1 ch0 ch1 hB hz
      first
        | go_region_held3 (fun W => Kp w [(w.heap.size, 0, .int .i64 a0), (w.heap.size, 1, .int .i64 a1), (w.heap.size + 1, 0, .int .i64 b0), (w.heap.size + 1, 1, .int .i64 b1), (w2.heap.size, 0, .int .i64 m0), (w2.heap.size, 1, .int .i64 m1), (w5.heap.size, 0, .int .i64 h0), (w5.heap.size, 1, .int .i64 h1)] W)
        (first | (with_reducible exact hK) | (with_reducible assumption) | (with_reducible exact Kp.step (by assumption) hb) | (with_reducible exact Kp.alloc (by assumption) _))
        (first
         | (go_at_call 34; ((with_reducible refine (has_anyN _ _ _ _).mono ?_); rintro e wn ⟨rfl, hb⟩)))
        | fail
      obtain ⟨w8, rfl⟩ : ∃ W, W = wn := ⟨_, rfl⟩
      have ca0 : w8.cell? ⟨w.heap.size, 0, none⟩ = some (.int .i64 a0) := kca0 _ (by assumption)
      have ca1 : w8.cell? ⟨w.heap.size, 1, none⟩ = some (.int .i64 a1) := kca1 _ (by assumption)
      have cb0 : w8.cell? ⟨w.heap.size + 1, 0, none⟩ = some (.int .i64 b0) := kcb0 _ (by assumption)
      have cb1 : w8.cell? ⟨w.heap.size + 1, 1, none⟩ = some (.int .i64 b1) := kcb1 _ (by assumption)
      have cm0 : w8.cell? ⟨w2.heap.size, 0, none⟩ = some (.int .i64 m0) := kcm0 _ (by assumption)
      have cm1 : w8.cell? ⟨w2.heap.size, 1, none⟩ = some (.int .i64 m1) := kcm1 _ (by assumption)
      have ch0 : w8.cell? ⟨w5.heap.size, 0, none⟩ = some (.int .i64 h0) := kch0 _ (by assumption)
      have ch1 : w8.cell? ⟨w5.heap.size, 1, none⟩ = some (.int .i64 h1) := kch1 _ (by assumption)
      have hB : Below w.heap.size w w8 := kp_below (by assumption)
      clear kca0 kca1 kcb0 kcb1 kcm0 kcm1 kch0 kch1 hK
      have nca0 : w.heap.size < w8.heap.size := block_of_cell ca0
      have ncb0 : w.heap.size + 1 < w8.heap.size := block_of_cell cb0
      have ncm0 : w2.heap.size < w8.heap.size := block_of_cell cm0
      have nch0 : w5.heap.size < w8.heap.size := block_of_cell ch0
      go_upto_region 17 with fail
      go_cut [16] (fun s wx => s = .bool true ∧ w8 = wx)
      case first =>
        obtain ⟨g0 | ⟨g0, g1⟩, g2 | ⟨g2, g3⟩⟩ := HD.out
        all_goals
          go_wp2
          go_meet
          exact ⟨rfl, rfl⟩
      case rest =>
        obtain ⟨rfl, rfl⟩ := hcut
        go_wp2_with fail
        have kca0 := cell_regrown ca0
        have kca1 := cell_regrown ca1
        have kcb0 := cell_regrown cb0
        have kcb1 := cell_regrown cb1
        have kcm0 := cell_regrown cm0
        have kcm1 := cell_regrown cm1
        have kch0 := cell_regrown ch0
        have kch1 := cell_regrown ch1
        refine wp_region_quiet_below (by kernel_rfl) (by kernel_rfl) ?_
        repeat (go_big_quiet_step (first | (go_at_call 34; with_reducible exact Calls.regrown_of (has_anyN _ _ _ _)) | (go_at_call 31; with_reducible exact Calls.regrown_of (length_anyN _ _ _))))
        refine wpQuiet_nil ?_
        intro _ hw9
        obtain ⟨⟨dq, osq⟩, hw9⟩ := hw9
        subst hw9
        go_wp2
        all_goals
          go_ret
          have hl := HL.out
          refine ⟨?_, bstep hB (below_regrown _ _ _)⟩
          simp
          (try split) <;> omega
end Go.Proofs.Ytcgkcdcignkadaa.Iv
