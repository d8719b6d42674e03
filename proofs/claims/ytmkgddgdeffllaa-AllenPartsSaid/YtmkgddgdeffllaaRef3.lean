/-
  The walks of the reference of layer 11: Basic, Holds; the law AllenBasics.
-/
import Derived.Test.YtmkgddgdeffllaaRef2
import Derived.Test.YtmkgddgdeffllaaTgt
set_option linter.unusedSimpArgs false
set_option linter.unusedVariables false
namespace Go.Proofs.Ytmkgddgdeffllaa.Al
open Go Go.RowKit Go.Proofs.Ytmkgddgdeffllaa.Bt Go.Proofs.Ytmkgddgdeffllaa.Sl
open Go.Proofs.Ytmkgddgdeffllaa.Iv (of_any ofZ validB lineB sgn_bd sgn_cases tab sgn)

def cmpB (a b : Int) : Int := if isSetB a && isSetB b then ((cmp a.toNat b.toNat : Nat) : Int) else -1
theorem rcompose_any (a b : Int) (w : World) : Calls Try.prog 27 #[.int .i64 a, .int .i64 b] w fun e w' => e = .returned (.int .i64 (cmpB a b)) ∧ Below w.heap.size w w' := by
  unfold cmpB
  cases h1 : isSetB a
  · exact rcompose_none a b w (.inl h1)
  cases h2 : isSetB b
  · exact rcompose_none a b w (.inr ⟨h1, h2⟩)
  obtain ⟨x, rfl⟩ : ∃ x : Nat, a = x := ⟨a.toNat, by simp [isSetB] at h1; omega⟩
  obtain ⟨y, rfl⟩ : ∃ y : Nat, b = y := ⟨b.toNat, by simp [isSetB] at h2; omega⟩
  exact rcompose_set x y (by simp [isSetB] at h1; omega) (by simp [isSetB] at h2; omega) w

theorem CS_pow (a b : Nat) : ∀ n, CS (2 ^ a) (2 ^ b) n = FS a b n := by
  intro n
  induction n with
  | zero => rfl
  | succ n ih =>
    unfold CS FS
    rw [ih]
    simp only [Nat.testBit_two_pow, decide_eq_true_eq]
    by_cases h : a = rl (n / 225) (n / 15 % 15) ∧ b = rl (n / 15 % 15) (n % 15)
    · rw [if_pos h, if_pos ⟨h.1.symm, h.2.symm⟩]
    · rw [if_neg h, if_neg (fun e => h ⟨e.1.symm, e.2.symm⟩)]
theorem cmp_pow (a b : Nat) (ha : a < 13) (hb : b < 13) : cmp (2 ^ a) (2 ^ b) = bas a b := by
  unfold cmp; rw [CS_pow, FS_bas a b ha hb]

theorem rbasic_any (a b : Int) (w : World) : Calls Try.prog 14 #[.int .i64 a, .int .i64 b] w fun e w' => e = .returned (.int .i64 (basB a b)) ∧ Below w.heap.size w w' := by
  have d : basB a b = if inR a && inR b then ((bas a.toNat b.toNat : Nat) : Int) else -1 := rfl
  unfold inR at d
  by_cases h1 : a < 0
  · rw [if_neg (by simp; omega)] at d
    rw [d]
    clear d
    go_enter Try.func14, Try.ntmps14
    go_wp2
    go_ret
    exact ⟨rfl, by go_grown⟩
  by_cases h2 : 12 < a
  · rw [if_neg (by simp; omega)] at d
    rw [d]
    clear d
    go_enter Try.func14, Try.ntmps14
    go_wp2
    go_ret
    exact ⟨rfl, by go_grown⟩
  by_cases h3 : b < 0
  · rw [if_neg (by simp; omega)] at d
    rw [d]
    clear d
    go_enter Try.func14, Try.ntmps14
    go_wp2
    go_ret
    exact ⟨rfl, by go_grown⟩
  by_cases h4 : 12 < b
  · rw [if_neg (by simp; omega)] at d
    rw [d]
    clear d
    go_enter Try.func14, Try.ntmps14
    go_wp2
    go_ret
    exact ⟨rfl, by go_grown⟩
  rw [if_pos (by simp; omega)] at d
  rw [d]
  clear d
  obtain ⟨x, rfl⟩ : ∃ x : Nat, a = x := ⟨a.toNat, by omega⟩
  obtain ⟨y, rfl⟩ : ∃ y : Nat, b = y := ⟨b.toNat, by omega⟩
  simp only [Int.toNat_natCast]
  have hx : x < 13 := by omega
  have hy : y < 13 := by omega
  have p1 := wrap_pw x (by omega)
  have p2 := wrap_pw y (by omega)
  have hc := rcompose_set (pw x) (pw y) (pow_lt x (by omega)) (pow_lt y (by omega))
  rw [show cmp (pw x) (pw y) = bas x y from cmp_pow x y hx hy] at hc
  go_enter Try.func14, Try.ntmps14
  go_upto_region 3 with fail
  refine wp_region_quiet_below (by kernel_rfl) (by kernel_rfl) ?_
  repeat (go_big_quiet_step (first | (go_at_call 27; with_reducible exact Calls.regrown_of (hc _))))
  refine wpQuiet_nil ?_
  intro _ hw9
  obtain ⟨⟨dq, osq⟩, hw9⟩ := hw9
  subst hw9
  go_wp2
  go_ret
  exact ⟨rfl, below_regrown w dq osq⟩

set_option maxHeartbeats 2000000 in
theorem rholds_any (s a0 a1 b0 b1 : Int) (w : World) : Calls Try.prog 16 #[.int .i64 s, .agg #[.int .i64 a0, .int .i64 a1], .agg #[.int .i64 b0, .int .i64 b1]] w fun e w' => e = .returned (.bool (holdsB s a0 a1 b0 b1)) ∧ Below w.heap.size w w' := by
  unfold holdsB
  cases h1 : isSetB s
  · go_enter Try.func16, Try.ntmps16
    go_wp2_with (first | (go_at_call 35; ((with_reducible refine (rIsSet_any s _).mono ?_); rintro e w1 ⟨rfl, rfl⟩)))
    go_ret
    exact ⟨rfl, by go_grown⟩
  cases h2 : validB a0 a1
  · go_enter Try.func16, Try.ntmps16
    go_wp2_with (first | (go_at_call 35; ((with_reducible refine (rIsSet_any s _).mono ?_); rintro e w1 ⟨rfl, rfl⟩)) | (go_at_call 36; ((with_reducible refine (rvalid_any a0 a1 _).mono ?_); rintro e w1 ⟨rfl, hb⟩; (first | (replace hL := bstep hL hb) | (have hL := hb)); clear hb; replace hc := bcell hL)))
    go_ret
    exact ⟨rfl, (by have hB := bstep (w := w) (by go_grown) hL; have hs := hB.size; go_grown)⟩
  cases h3 : validB b0 b1
  · go_enter Try.func16, Try.ntmps16
    go_wp2_with (first | (go_at_call 35; ((with_reducible refine (rIsSet_any s _).mono ?_); rintro e w1 ⟨rfl, rfl⟩)) | (go_at_call 36; ((with_reducible refine (rvalid_any a0 a1 _).mono ?_); rintro e w1 ⟨rfl, hb⟩; (first | (replace hL := bstep hL hb) | (have hL := hb)); clear hb; replace hc := bcell hL)) | (go_at_call 36; ((with_reducible refine (rvalid_any b0 b1 _).mono ?_); rintro e w1 ⟨rfl, hb⟩; (first | (replace hL := bstep hL hb) | (have hL := hb)); clear hb; replace hc := bcell hL)))
    go_ret
    exact ⟨rfl, (by have hB := bstep (w := w) (by go_grown) hL; have hs := hB.size; go_grown)⟩
  obtain ⟨o0, o1⟩ := ofZ_bd a0 a1 b0 b1 h2 h3
  have hof := rof_any a0 a1 b0 b1 h2 h3
  obtain ⟨m, rfl⟩ : ∃ m : Nat, s = m := ⟨s.toNat, by simp [isSetB] at h1; omega⟩
  have hm : m < 8192 := by simp [isSetB] at h1; omega
  obtain ⟨r, hr⟩ : ∃ r : Nat, ofZ a0 a1 b0 b1 = r := ⟨(ofZ a0 a1 b0 b1).toNat, by omega⟩
  rw [hr] at o0 o1 hof
  rw [hr]
  simp only [Int.toNat_natCast, Bool.true_and]
  clear hr
  have hh := rhas_any m r hm (by omega)
  go_enter Try.func16, Try.ntmps16
  go_wp2_with (first | (go_at_call 35; ((with_reducible refine (rIsSet_any (m : Int) _).mono ?_); rintro e w1 ⟨rfl, rfl⟩)) | (go_at_call 38; ((with_reducible refine (hof _).mono ?_); rintro e w1 ⟨rfl, hb⟩; (first | (replace hL := bstep hL hb) | (have hL := hb)); clear hb; replace hc := bcell hL)) | (go_at_call 36; ((with_reducible refine (rvalid_any a0 a1 _).mono ?_); rintro e w1 ⟨rfl, hb⟩; (first | (replace hL := bstep hL hb) | (have hL := hb)); clear hb; replace hc := bcell hL)) | (go_at_call 36; ((with_reducible refine (rvalid_any b0 b1 _).mono ?_); rintro e w1 ⟨rfl, hb⟩; (first | (replace hL := bstep hL hb) | (have hL := hb)); clear hb; replace hc := bcell hL)) | (go_at_call 37; ((with_reducible refine (hh _).mono ?_); rintro e w1 ⟨rfl, rfl⟩)))
  go_ret
  exact ⟨rfl, (by have hB := bstep (w := w) (by go_grown) hL; have hs := hB.size; go_grown)⟩

set_option maxHeartbeats 2000000 in
theorem allenBasics_walk (r q s a0 a1 b0 b1 : Int) (_ : (Lit.int .i64 r).wf = true) (_ : (Lit.int .i64 q).wf = true) (_ : (Lit.int .i64 s).wf = true) (_ : (Lit.int .i64 a0).wf = true) (_ : (Lit.int .i64 a1).wf = true) (_ : (Lit.int .i64 b0).wf = true) (_ : (Lit.int .i64 b1).wf = true) (w : World) :
    Calls Try.prog 4 #[.int .i64 r, .int .i64 q, .int .i64 s, .agg #[.int .i64 a0, .int .i64 a1], .agg #[.int .i64 b0, .int .i64 b1]] w fun e w' => e = .returned (.bool true) ∧ Below w.heap.size w w' := by
  go_enter Try.func4, Try.ntmps4
  go_wp2_with (go_at_call 11; (with_reducible refine (awake_any _).mono ?_); rintro e w1 ⟨rfl, hb⟩)
  have c0 : w1.cell? ⟨w.heap.size, 0, none⟩ = some (.int .i64 a0) := Sl.cell_kept (by simp) hb
  have c1 : w1.cell? ⟨w.heap.size, 1, none⟩ = some (.int .i64 a1) := Sl.cell_kept (by simp) hb
  have d0 : w1.cell? ⟨w.heap.size + 1, 0, none⟩ = some (.int .i64 b0) := Sl.cell_kept (by simp) hb
  have d1 : w1.cell? ⟨w.heap.size + 1, 1, none⟩ = some (.int .i64 b1) := Sl.cell_kept (by simp) hb
  have hB : Below w.heap.size w w1 := Sl.bstep (by go_grown) hb
  have k0 := cell_regrown c0
  have k1 := cell_regrown c1
  have k2 := cell_regrown d0
  have k3 := cell_regrown d1
  clear hb c0 c1 d0 d1
  refine wp_region_quiet_below (by kernel_rfl) (by kernel_rfl) ?_
  repeat (go_big_quiet_step (first | (go_at_call 13; with_reducible exact Calls.regrown_of (basic_any r q _)) | (go_at_call 14; with_reducible exact Calls.regrown_of (rbasic_any r q _)) | (go_at_call 15; with_reducible exact Calls.regrown_of (holds_any s a0 a1 b0 b1 _)) | (go_at_call 16; with_reducible exact Calls.regrown_of (rholds_any s a0 a1 b0 b1 _))))
  refine wpQuiet_nil ?_
  intro _ hw9
  obtain ⟨⟨dq, osq⟩, hw9⟩ := hw9
  subst hw9
  go_wp2
  go_ret
  exact ⟨rfl, bstep hB (below_regrown w1 dq osq)⟩
end Go.Proofs.Ytmkgddgdeffllaa.Al
