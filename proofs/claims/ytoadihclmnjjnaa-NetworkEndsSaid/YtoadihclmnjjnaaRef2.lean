/-
  The walks of the reference of layer 11: small, Compose, Basic, Holds.
-/
import Derived.Test.YtoadihclmnjjnaaRef
set_option linter.unusedSimpArgs false
set_option linter.unusedVariables false
set_option maxRecDepth 100000
namespace Go.Proofs.Ytoadihclmnjjnaa.Al
open Go Go.RowKit Go.Proofs.Ytoadihclmnjjnaa.Bt Go.Proofs.Ytoadihclmnjjnaa.Sl
open Go.Proofs.Ytoadihclmnjjnaa.Iv (of_any ofZ validB lineB sgn_bd sgn_cases tab sgn)

set_option maxHeartbeats 2000000 in
theorem small_any (w : World) : Calls Try.prog 100 #[] w fun e w' => ∃ v, e = .returned v ∧ w'.ownsRow w.heap.size 48 2 v spL.length (flat spL) ∧ Below w.heap.size w w' := by
  obtain ⟨i0, hi, hz0, hz1, hz2⟩ := info_parts info_span
  go_enter Try.func100, Try.ntmps100
  go_wp2
  go_loopw [1, 2] (fun v i wr => ∃ k : Nat, k ≤ 5 ∧ i = .int .i64 k ∧ wr.ownsRow w.heap.size 48 2 v (spTo k (k + 1)).length (flat (spTo k (k + 1))) ∧ Below w.heap.size w wr) (fun _ i _ => 5 - (intOf i).toNat)
  case atStart => exact ⟨0, by omega, rfl, by rw [spTo_zero]; exact World.ownsRow_nil _ _ _ _, Below.refl _ _⟩
  case round =>
    obtain ⟨wo, rfl⟩ : ∃ wo : World, wo = wr := ⟨_, rfl⟩
    obtain ⟨k, hk, rfl, hown, hL⟩ := hrel
    by_cases hlt : k < 5
    · have h5 : decide ((k : Int) < 5) = true := by simp; omega
      go_wp2
      go_loopw [1, 3] (fun v t wr => ∃ j : Nat, k < j ∧ j ≤ 6 ∧ t = .int .i64 j ∧ wr.ownsRow w.heap.size 48 2 v (spTo k j).length (flat (spTo k j)) ∧ Below w.heap.size w wr) (fun _ t _ => 6 - (intOf t).toNat)
      case atStart => exact ⟨k + 1, by omega, by omega, by go_num, hown, hL⟩
      case round =>
        obtain ⟨j, hj, hj6, rfl, hown2, hL2⟩ := hrel
        have hlen := spTo_len k (by omega) j (by omega)
        by_cases hjl : j < 6
        · have hs := Lib.hid (spTo_step k hlt j hjl hj)
          go_wp2_with (at_builtin; go_must (refine wpList_app1 hL2 rfl (.tmp 14) (.tmp 18) 46 rfl 48 Try.underlying46 hi hz0 hz1 hz2 rfl (by decide) u1 (spTo k j).length (flat (spTo k j)) rfl [.int .i64 (k : Int), .int .i64 (j : Int)] 48 hown2 rfl (by simp) rfl (by intro u hu; simp at hu; rcases hu with rfl | rfl <;> rfl) (by unfold maxLen; omega) (by omega) ?_); intro g cap w1 hown1 hL1)
          go_roundw
          case rel =>
            have R : w1.ownsRow w.heap.size 48 2 (.slice (some ⟨g, 0, none⟩) ((spTo k j).length + 1) cap) (spTo k (j + 1)).length (flat (spTo k (j + 1))) := by
              rw [hs.out, flat_snoc, List.length_append]
              exact hown1
            exact ⟨j + 1, by omega, by omega, by go_num, R, hL1⟩
          case measure => simp [intOf]; omega
        · obtain rfl : j = 6 := by omega
          have hn := Lib.hid (spTo_next k hlt)
          go_wp2
          go_roundw
          case rel => exact ⟨k + 1, by omega, by go_num, by rw [← hn.out]; exact hown2, hL2⟩
          case measure => simp [intOf]; omega
    · obtain rfl : k = 5 := by omega
      go_wp2
      go_ret
      exact ⟨_, rfl, hown, hL⟩

theorem sp_valid : ∀ k < 15, validB (spA k) (spB k) = true := of_decide_eq_true (by kernel_rfl)
theorem rof_sp (i j : Nat) (hi : i < 15) (hj : j < 15) (w : World) : Calls Try.prog 101 #[.agg #[.int .i64 (spA i), .int .i64 (spB i)], .agg #[.int .i64 (spA j), .int .i64 (spB j)]] w fun e w' => e = .returned (.int .i64 ((rl i j : Nat) : Int)) ∧ Below w.heap.size w w' := by
  rw [← (rl_all i hi j hj).1]; exact rof_any _ _ _ _ (sp_valid i hi) (sp_valid j hj) w

/-- What n rounds of the reference's composition give: sets a, b as numbers. -/
def CS (a b : Nat) : Nat → Nat
  | 0 => 0
  | n + 1 => if a.testBit (rl (n / 225) (n / 15 % 15)) = true ∧ b.testBit (rl (n / 15 % 15) (n % 15)) = true then CS a b n ||| 2 ^ rl (n / 225) (n % 15) else CS a b n
/-- The composition of two sets. -/
def cmp (a b : Nat) : Nat := CS a b 3375
theorem CS_step (a b k j m : Nat) (hj : j < 15) (hm : m < 15) : CS a b (k * 225 + j * 15 + m + 1) = if a.testBit (rl k j) = true ∧ b.testBit (rl j m) = true then CS a b (k * 225 + j * 15 + m) ||| 2 ^ rl k m else CS a b (k * 225 + j * 15 + m) := by
  rw [CS, show (k * 225 + j * 15 + m) / 225 = k by omega, show (k * 225 + j * 15 + m) / 15 % 15 = j by omega, show (k * 225 + j * 15 + m) % 15 = m by omega]
theorem CS_skip (a b k j : Nat) (hj : j < 15) (h : a.testBit (rl k j) = false) : ∀ m ≤ 15, CS a b (k * 225 + j * 15 + m) = CS a b (k * 225 + j * 15) := by
  intro m
  induction m with
  | zero => intro _; rfl
  | succ m ih =>
    intro hm
    rw [show k * 225 + j * 15 + (m + 1) = k * 225 + j * 15 + m + 1 from rfl, CS_step a b k j m hj (by omega), if_neg (by rw [h]; simp)]
    exact ih (by omega)
theorem CS_lt (a b : Nat) : ∀ n ≤ 3375, CS a b n < 8192 := by
  intro n
  induction n with
  | zero => intro _; simp [CS]
  | succ n ih =>
    intro hn
    unfold CS
    split
    · exact Nat.or_lt_two_pow (n := 13) (ih (by omega)) (pow_lt _ (by have := (rl_all (n / 225) (by omega) (n % 15) (by omega)).2; omega))
    · exact ih (by omega)
/-- The list's cells lie in block g. -/
def LJ (w : World) (g : Nat) (W : World) : Prop := (∀ j u, (flat spL)[j]? = some u → W.cell? ⟨g, j, none⟩ = some u) ∧ Below w.heap.size w W
theorem LJ.step {w W W' : World} {g : Nat} (h : LJ w g W) (hb : Below W.heap.size W W') : LJ w g W' := ⟨fun j u hu => Sl.cell_kept (h.1 j u hu) hb, Sl.bstep h.2 hb⟩

theorem rcompose_none (a b : Int) (w : World) (h : isSetB a = false ∨ (isSetB a = true ∧ isSetB b = false)) : Calls Try.prog 89 #[.int .i64 a, .int .i64 b] w fun e w' => e = .returned (.int .i64 (-1)) ∧ Below w.heap.size w w' := by
  rcases h with h | ⟨h1, h2⟩
  all_goals
    go_enter Try.func89, Try.ntmps89
    go_wp2_with (first | (go_at_call 56; ((with_reducible refine (rIsSet_any a _).mono ?_); rintro e w1 ⟨rfl, rfl⟩)) | (go_at_call 56; ((with_reducible refine (rIsSet_any b _).mono ?_); rintro e w1 ⟨rfl, rfl⟩)))
    go_ret
    exact ⟨rfl, by go_grown⟩

theorem rhas_below (m r : Nat) (hm : m < 8192) (hr : r < 64) (w : World) : Calls Try.prog 90 #[.int .i64 (m : Int), .int .i64 (r : Int)] w fun e w' => e = .returned (.bool (m.testBit r)) ∧ Below w.heap.size w w' :=
  (rhas_any m r hm hr w).mono fun e w' ⟨h1, h2⟩ => ⟨h1, by subst h2; exact Below.refl _ _⟩

set_option maxRecDepth 100000 in
set_option maxHeartbeats 4000000 in
theorem rcompose_set (a b : Nat) (ha : a < 8192) (hb : b < 8192) (w : World) : Calls Try.prog 89 #[.int .i64 (a : Int), .int .i64 (b : Int)] w fun e w' => e = .returned (.int .i64 ((cmp a b : Nat) : Int)) ∧ Below w.heap.size w w' := by
  have s1 : isSetB (a : Int) = true := by simp [isSetB]; omega
  have s2 : isSetB (b : Int) = true := by simp [isSetB]; omega
  go_enter Try.func89, Try.ntmps89
  go_wp2_with (first | (go_at_call 56; ((with_reducible refine (rIsSet_any (a : Int) _).mono ?_); rintro e w1 ⟨rfl, rfl⟩)) | (go_at_call 56; ((with_reducible refine (rIsSet_any (b : Int) _).mono ?_); rintro e w1 ⟨rfl, rfl⟩)) | (go_at_call 100; (with_reducible refine (small_any _).mono ?_); rintro e w1 ⟨v, rfl, hown, hL⟩))
  have hSl := Sl.of_owns hown
  rw [spL_len] at hown hSl
  obtain ⟨g, cap, rfl⟩ : ∃ g cap, v = .slice (some ⟨g, 0, none⟩) 15 cap := ownsRow_succ hown
  have hLJ : LJ w g w1 := ⟨fun j u hu => by
    obtain ⟨g2, off, cap2, hv2, hc2⟩ := hSl.open (by omega)
    simp only [Value.slice.injEq, Option.some.injEq, Addr.mk.injEq] at hv2
    obtain ⟨⟨rfl, rfl, _⟩, _⟩ := hv2
    have := hc2 j u hu
    simpa using this, hL⟩
  clear hown hSl hL
  have hlen : ∀ W : World, (Builtin.len_ #[46] 3 #[.slice (some ⟨g, 0, none⟩) 15 cap]).run Try.prog W = .ok (.int .i64 15) W := fun W => run_len_slice (P := Try.prog) (w := W) 46 3 (some ⟨g, 0, none⟩) 15 cap Try.underlying46
  have HL := Lib.hid hLJ
  clear hLJ
  go_loopw [5, 7] (fun f i wr => ∃ k : Nat, k ≤ 15 ∧ i = .int .i64 k ∧ f = .int .i64 ((CS a b (k * 225) : Nat) : Int) ∧ LJ w g wr) (fun _ i _ => 15 - (intOf i).toNat)
  case atStart => exact ⟨0, by omega, rfl, rfl, HL.out⟩
  case round =>
    clear HL w1
    obtain ⟨wo, rfl⟩ : ∃ wo : World, wo = wr := ⟨_, rfl⟩
    obtain ⟨k, hk, rfl, rfl, hT⟩ := hrel
    have HT := Lib.hid hT
    by_cases hlt : k < 15
    · have h15 : decide ((k : Int) < 15) = true := by simp; omega
      go_wp2
      go_simp
      go_wp2
      go_loopw [5, 8] (fun f i wr => ∃ j : Nat, j ≤ 15 ∧ i = .int .i64 j ∧ f = .int .i64 ((CS a b (k * 225 + j * 15) : Nat) : Int) ∧ LJ w g wr) (fun _ i _ => 15 - (intOf i).toNat)
      case atStart => exact ⟨0, by omega, rfl, rfl, HT.out⟩
      case round =>
        clear HT hT wo
        obtain ⟨wp, rfl⟩ : ∃ wp : World, wp = wr := ⟨_, rfl⟩
        obtain ⟨j, hj, rfl, rfl, hT2⟩ := hrel
        have HT2 := Lib.hid hT2
        by_cases hlj : j < 15
        · have j15 : decide ((j : Int) < 15) = true := by simp; omega
          go_wp2
          go_simp
          have c0 := cell_regrown (show wp.cell? ⟨g, k * 2, none⟩ = some (.int .i64 (spA k)) from hT2.1 _ _ (flat_get0 spL k (by rw [spL_len]; omega)))
          have c1 := cell_regrown (show wp.cell? ⟨g, k * 2 + 1, none⟩ = some (.int .i64 (spB k)) from hT2.1 _ _ (flat_get1 spL k (by rw [spL_len]; omega)))
          have d0 := cell_regrown (show wp.cell? ⟨g, j * 2, none⟩ = some (.int .i64 (spA j)) from hT2.1 _ _ (flat_get0 spL j (by rw [spL_len]; omega)))
          have d1 := cell_regrown (show wp.cell? ⟨g, j * 2 + 1, none⟩ = some (.int .i64 (spB j)) from hT2.1 _ _ (flat_get1 spL j (by rw [spL_len]; omega)))
          have l1 := (rl_all k hlt j hlj).2
          have hbd := HT2
          clear hT2
          cases hA : a.testBit (rl k j)
          · have hh := rhas_below a (rl k j) ha (by omega)
            rw [hA] at hh
            go_upto_region 11 with fail
            refine wp_region_quiet_below (by kernel_rfl) (by kernel_rfl) ?_
            repeat (go_big_quiet_step (first | (go_at_call 101; with_reducible exact Calls.regrown_of (rof_sp k j hlt hlj _)) | (go_at_call 90; with_reducible exact Calls.regrown_of (hh _))))
            refine wpQuiet_nil ?_
            intro _ hw9
            obtain ⟨⟨dq, osq⟩, hw9⟩ := hw9
            subst hw9
            have hb9 := below_regrown wp dq osq
            generalize Go.Sort.grow (redrawn wp dq) osq = wv at *
            go_wp2
            go_roundw
            case rel => exact ⟨j + 1, by omega, by go_num, by rw [show k * 225 + (j + 1) * 15 = k * 225 + j * 15 + 15 by omega, CS_skip a b k j hlj hA 15 (by omega)], HT2.out.step hb9⟩
            case measure => simp [intOf]; omega
          · have hh := rhas_below a (rl k j) ha (by omega)
            rw [hA] at hh
            go_upto_region 11 with fail
            refine wp_region_quiet_below (by kernel_rfl) (by kernel_rfl) ?_
            repeat (go_big_quiet_step (first | (go_at_call 101; with_reducible exact Calls.regrown_of (rof_sp k j hlt hlj _)) | (go_at_call 90; with_reducible exact Calls.regrown_of (hh _))))
            refine wpQuiet_nil ?_
            intro _ hw9
            obtain ⟨⟨dq, osq⟩, hw9⟩ := hw9
            subst hw9
            have hb9 := below_regrown wp dq osq
            generalize Go.Sort.grow (redrawn wp dq) osq = wv at *
            have HV := Lib.hid (HT2.out.step hb9)
            clear c0 c1 d0 d1 hh hbd HT2 hb9
            go_wp2
            go_loopw [5, 9] (fun f i wr => ∃ m : Nat, m ≤ 15 ∧ i = .int .i64 m ∧ f = .int .i64 ((CS a b (k * 225 + j * 15 + m) : Nat) : Int) ∧ LJ w g wr) (fun _ i _ => 15 - (intOf i).toNat)
            case atStart => exact ⟨0, by omega, rfl, rfl, HV.out⟩
            case round =>
              clear HV wv
              obtain ⟨wq, rfl⟩ : ∃ wq : World, wq = wr := ⟨_, rfl⟩
              obtain ⟨m, hm, rfl, rfl, hT3⟩ := hrel
              by_cases hlm : m < 15
              · have m15 : decide ((m : Int) < 15) = true := by simp; omega
                have c0 := cell_regrown (show wq.cell? ⟨g, j * 2, none⟩ = some (.int .i64 (spA j)) from hT3.1 _ _ (flat_get0 spL j (by rw [spL_len]; omega)))
                have c1 := cell_regrown (show wq.cell? ⟨g, j * 2 + 1, none⟩ = some (.int .i64 (spB j)) from hT3.1 _ _ (flat_get1 spL j (by rw [spL_len]; omega)))
                have d0 := cell_regrown (show wq.cell? ⟨g, m * 2, none⟩ = some (.int .i64 (spA m)) from hT3.1 _ _ (flat_get0 spL m (by rw [spL_len]; omega)))
                have d1 := cell_regrown (show wq.cell? ⟨g, m * 2 + 1, none⟩ = some (.int .i64 (spB m)) from hT3.1 _ _ (flat_get1 spL m (by rw [spL_len]; omega)))
                have l2 := (rl_all j hlj m hlm).2
                have l3 := (rl_all k hlt m hlm).2
                have hpw := wrap_pw (rl k m) (by omega)
                have hfl := CS_lt a b (k * 225 + j * 15 + m) (by omega)
                have hor : bits .or .i64 ((CS a b (k * 225 + j * 15 + m) : Nat) : Int) ((pw (rl k m) : Nat) : Int) = ((CS a b (k * 225 + j * 15 + m) ||| 2 ^ rl k m : Nat) : Int) := by
                  rw [bits_or _ _ (by omega) (by have := pow_lt (rl k m) (by omega); unfold pw; omega)]; rfl
                have HS := Lib.hid (CS_step a b k j m hlj hlm)
                have HT3 := Lib.hid hT3
                clear hT3
                have hh := rhas_below b (rl j m) hb (by omega)
                cases hBb : b.testBit (rl j m)
                · rw [hBb] at hh
                  go_wp2
                  go_simp
                  go_upto_region 15 with fail
                  refine wp_region_quiet_below (by kernel_rfl) (by kernel_rfl) ?_
                  repeat (go_big_quiet_step (first | (go_at_call 101; with_reducible exact Calls.regrown_of (rof_sp j m hlj hlm _)) | (go_at_call 90; with_reducible exact Calls.regrown_of (hh _))))
                  refine wpQuiet_nil ?_
                  intro _ hw9
                  obtain ⟨⟨dq, osq⟩, hw9⟩ := hw9
                  subst hw9
                  have hbwv := below_regrown wq dq osq
                  generalize Go.Sort.grow (redrawn wq dq) osq = wv at *
                  go_wp2
                  go_roundw
                  case rel => exact ⟨m + 1, by omega, by go_num, by rw [show k * 225 + j * 15 + (m + 1) = k * 225 + j * 15 + m + 1 from rfl, HS.out, if_neg (by rw [hBb]; simp)], HT3.out.step hbwv⟩
                  case measure => simp [intOf]; omega
                · rw [hBb] at hh
                  go_wp2
                  go_simp
                  go_upto_region 15 with fail
                  refine wp_region_quiet_below (by kernel_rfl) (by kernel_rfl) ?_
                  repeat (go_big_quiet_step (first | (go_at_call 101; with_reducible exact Calls.regrown_of (rof_sp j m hlj hlm _)) | (go_at_call 90; with_reducible exact Calls.regrown_of (hh _))))
                  refine wpQuiet_nil ?_
                  intro _ hw9
                  obtain ⟨⟨dq, osq⟩, hw9⟩ := hw9
                  subst hw9
                  have hbwv := below_regrown wq dq osq
                  generalize Go.Sort.grow (redrawn wq dq) osq = wv at *
                  clear c0 c1 d0 d1
                  have hT4 := HT3.out.step hbwv
                  have c0 := cell_regrown (show wv.cell? ⟨g, k * 2, none⟩ = some (.int .i64 (spA k)) from hT4.1 _ _ (flat_get0 spL k (by rw [spL_len]; omega)))
                  have c1 := cell_regrown (show wv.cell? ⟨g, k * 2 + 1, none⟩ = some (.int .i64 (spB k)) from hT4.1 _ _ (flat_get1 spL k (by rw [spL_len]; omega)))
                  have d0 := cell_regrown (show wv.cell? ⟨g, m * 2, none⟩ = some (.int .i64 (spA m)) from hT4.1 _ _ (flat_get0 spL m (by rw [spL_len]; omega)))
                  have d1 := cell_regrown (show wv.cell? ⟨g, m * 2 + 1, none⟩ = some (.int .i64 (spB m)) from hT4.1 _ _ (flat_get1 spL m (by rw [spL_len]; omega)))
                  have HT4 := Lib.hid hT4
                  clear hT4 HT3 hbwv
                  go_upto_region 16 with fail
                  refine wp_region_quiet_below (by kernel_rfl) (by kernel_rfl) ?_
                  repeat (go_big_quiet_step (first | (go_at_call 101; with_reducible exact Calls.regrown_of (rof_sp k m hlt hlm _))))
                  refine wpQuiet_nil ?_
                  intro _ hw9
                  obtain ⟨⟨dq, osq⟩, hw9⟩ := hw9
                  subst hw9
                  have hbwu := below_regrown wv dq osq
                  generalize Go.Sort.grow (redrawn wv dq) osq = wu at *
                  go_wp2
                  go_roundw
                  case rel => exact ⟨m + 1, by omega, by go_num, by rw [show k * 225 + j * 15 + (m + 1) = k * 225 + j * 15 + m + 1 from rfl, HS.out, if_pos ⟨hA, hBb⟩], HT4.out.step hbwu⟩
                  case measure => simp [intOf]; omega
              · obtain rfl : m = 15 := by omega
                have HT4 := Lib.hid hT3
                clear hT3
                go_wp2
                go_simp
                go_wp2
                go_roundw
                case rel => exact ⟨j + 1, by omega, by go_num, by rw [show k * 225 + (j + 1) * 15 = k * 225 + j * 15 + 15 by omega], HT4.out⟩
                case measure => simp [intOf]; omega
        · obtain rfl : j = 15 := by omega
          clear hT2
          go_wp2
          go_simp
          go_wp2
          go_roundw
          case rel => exact ⟨k + 1, by omega, by go_num, by rw [show (k + 1) * 225 = k * 225 + 15 * 15 by omega], HT2.out⟩
          case measure => simp [intOf]; omega
    · obtain rfl : k = 15 := by omega
      have hB := hT.2
      clear hT
      go_wp2
      go_simp
      go_wp2
      go_ret
      exact ⟨rfl, hB⟩
end Go.Proofs.Ytoadihclmnjjnaa.Al
