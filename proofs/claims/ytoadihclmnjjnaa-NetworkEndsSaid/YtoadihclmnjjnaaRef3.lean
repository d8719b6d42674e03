/-
  The walks of the reference of layer 11: Basic, Holds; the law AllenBasics.
-/
import Derived.Test.YtoadihclmnjjnaaRef2
import Derived.Test.YtoadihclmnjjnaaTgt
set_option linter.unusedSimpArgs false
set_option linter.unusedVariables false
set_option maxRecDepth 100000
namespace Go.Proofs.Ytoadihclmnjjnaa.Al
open Go Go.RowKit Go.Proofs.Ytoadihclmnjjnaa.Bt Go.Proofs.Ytoadihclmnjjnaa.Sl
open Go.Proofs.Ytoadihclmnjjnaa.Iv (of_any ofZ validB lineB sgn_bd sgn_cases tab sgn)

def cmpB (a b : Int) : Int := if isSetB a && isSetB b then ((cmp a.toNat b.toNat : Nat) : Int) else -1
theorem rcompose_any (a b : Int) (w : World) : Calls Try.prog 89 #[.int .i64 a, .int .i64 b] w fun e w' => e = .returned (.int .i64 (cmpB a b)) ∧ Below w.heap.size w w' := by
  unfold cmpB
  cases h1 : isSetB a
  · exact rcompose_none a b w (.inl h1)
  cases h2 : isSetB b
  · exact rcompose_none a b w (.inr ⟨h1, h2⟩)
  obtain ⟨x, rfl⟩ : ∃ x : Nat, a = x := ⟨a.toNat, by simp [isSetB] at h1; omega⟩
  obtain ⟨y, rfl⟩ : ∃ y : Nat, b = y := ⟨b.toNat, by simp [isSetB] at h2; omega⟩
  exact rcompose_set x y (by simp [isSetB] at h1; omega) (by simp [isSetB] at h2; omega) w

theorem CS_pow (a b : Nat) : ∀ n, CS (2 ^ a) (2 ^ b) n = FS a b n := by
  intro n
  induction n with
  | zero => rfl
  | succ n ih =>
    unfold CS FS
    rw [ih]
    simp only [Nat.testBit_two_pow, decide_eq_true_eq]
    by_cases h : a = rl (n / 225) (n / 15 % 15) ∧ b = rl (n / 15 % 15) (n % 15)
    · rw [if_pos h, if_pos ⟨h.1.symm, h.2.symm⟩]
    · rw [if_neg h, if_neg (fun e => h ⟨e.1.symm, e.2.symm⟩)]
theorem cmp_pow (a b : Nat) (ha : a < 13) (hb : b < 13) : cmp (2 ^ a) (2 ^ b) = bas a b := by
  unfold cmp; rw [CS_pow, FS_bas a b ha hb]

theorem rbasic_any (a b : Int) (w : World) : Calls Try.prog 63 #[.int .i64 a, .int .i64 b] w fun e w' => e = .returned (.int .i64 (basB a b)) ∧ Below w.heap.size w w' := by
  have d : basB a b = if inR a && inR b then ((bas a.toNat b.toNat : Nat) : Int) else -1 := rfl
  unfold inR at d
  by_cases h1 : a < 0
  · rw [if_neg (by simp; omega)] at d
    rw [d]
    clear d
    go_enter Try.func63, Try.ntmps63
    go_wp2
    go_ret
    exact ⟨rfl, by go_grown⟩
  by_cases h2 : 12 < a
  · rw [if_neg (by simp; omega)] at d
    rw [d]
    clear d
    go_enter Try.func63, Try.ntmps63
    go_wp2
    go_ret
    exact ⟨rfl, by go_grown⟩
  by_cases h3 : b < 0
  · rw [if_neg (by simp; omega)] at d
    rw [d]
    clear d
    go_enter Try.func63, Try.ntmps63
    go_wp2
    go_ret
    exact ⟨rfl, by go_grown⟩
  by_cases h4 : 12 < b
  · rw [if_neg (by simp; omega)] at d
    rw [d]
    clear d
    go_enter Try.func63, Try.ntmps63
    go_wp2
    go_ret
    exact ⟨rfl, by go_grown⟩
  rw [if_pos (by simp; omega)] at d
  rw [d]
  clear d
  obtain ⟨x, rfl⟩ : ∃ x : Nat, a = x := ⟨a.toNat, by omega⟩
  obtain ⟨y, rfl⟩ : ∃ y : Nat, b = y := ⟨b.toNat, by omega⟩
  simp only [Int.toNat_natCast]
  have hx : x < 13 := by omega
  have hy : y < 13 := by omega
  have p1 := wrap_pw x (by omega)
  have p2 := wrap_pw y (by omega)
  have hc := rcompose_set (pw x) (pw y) (pow_lt x (by omega)) (pow_lt y (by omega))
  rw [show cmp (pw x) (pw y) = bas x y from cmp_pow x y hx hy] at hc
  go_enter Try.func63, Try.ntmps63
  go_upto_region 3 with fail
  refine wp_region_quiet_below (by kernel_rfl) (by kernel_rfl) ?_
  repeat (go_big_quiet_step (first | (go_at_call 89; with_reducible exact Calls.regrown_of (hc _))))
  refine wpQuiet_nil ?_
  intro _ hw9
  obtain ⟨⟨dq, osq⟩, hw9⟩ := hw9
  subst hw9
  go_wp2
  go_ret
  exact ⟨rfl, below_regrown w dq osq⟩

end Go.Proofs.Ytoadihclmnjjnaa.Al
