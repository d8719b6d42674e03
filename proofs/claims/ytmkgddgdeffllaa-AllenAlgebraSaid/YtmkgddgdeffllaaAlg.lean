/-
  The walk of AllenAlgebra.
-/
import Derived.Test.YtmkgddgdeffllaaPl3
import Derived.Test.YtmkgddgdeffllaaCmp
set_option linter.unusedSimpArgs false
set_option linter.unusedVariables false
namespace Go.Proofs.Ytmkgddgdeffllaa.Al
open Go Go.RowKit Go.Proofs.Ytmkgddgdeffllaa.Bt Go.Proofs.Ytmkgddgdeffllaa.Sl

theorem cmpB_bad (a b c : Int) (h : isSetB a = false ∨ isSetB b = false ∨ isSetB c = false) : cmpB a (cmpB b c) = -1 := by
  unfold cmpB
  rcases h with h | h | h
  · simp [h]
  · simp [h]; intro; simp [isSetB] at *
  · simp [h]; intro; simp [isSetB] at *
set_option maxHeartbeats 2000000 in
theorem algebra_bad (a b c : Int) (h : isSetB a = false ∨ (isSetB a = true ∧ isSetB b = false) ∨ (isSetB a = true ∧ isSetB b = true ∧ isSetB c = false)) (w : World) : Calls Try.prog 7 #[.int .i64 a, .int .i64 b, .int .i64 c] w fun e w' => e = .returned (.bool true) ∧ Below w.heap.size w w' := by
  have h2 := compose_any a (cmpB b c)
  rw [cmpB_bad a b c (by rcases h with h | h | h <;> simp [h])] at h2
  have h1 := compose_any b c
  generalize cmpB b c = X at *
  rcases h with h | ⟨g1, h⟩ | ⟨g1, g2, h⟩
  all_goals
    go_enter Try.func7, Try.ntmps7
    go_wp2_with (first | (go_at_call 11; (with_reducible refine (awake_any _).mono ?_); rintro e w1 ⟨rfl, hL⟩) | (go_at_call 22; ((with_reducible refine (is_any a _).mono ?_); rintro e w1 ⟨rfl, rfl⟩)) | (go_at_call 22; ((with_reducible refine (is_any b _).mono ?_); rintro e w1 ⟨rfl, rfl⟩)) | (go_at_call 22; ((with_reducible refine (is_any c _).mono ?_); rintro e w1 ⟨rfl, rfl⟩)) | (go_at_call 21; (with_reducible refine (h1 _).mono ?_); rintro e w1 ⟨rfl, hb⟩; replace hL := Sl.bstep hL hb; clear hb) | (go_at_call 21; (with_reducible refine (h2 _).mono ?_); rintro e w1 ⟨rfl, hb⟩; replace hL := Sl.bstep hL hb; clear hb))
    go_ret
    exact ⟨rfl, hL⟩
set_option maxRecDepth 100000 in
set_option maxHeartbeats 4000000 in
theorem algebra_good (a b c : Nat) (ha : a < 8192) (hb : b < 8192) (hc : c < 8192) (w : World) : Calls Try.prog 7 #[.int .i64 (a : Int), .int .i64 (b : Int), .int .i64 (c : Int)] w fun e w' => e = .returned (.bool true) ∧ Below w.heap.size w w' := by
  have s1 : isSetB (a : Int) = true := by simp [isSetB]; omega
  have s2 : isSetB (b : Int) = true := by simp [isSetB]; omega
  have s3 : isSetB (c : Int) = true := by simp [isSetB]; omega
  have k1 := compose_set a b ha hb
  have k2 := compose_set (cmp a b) c (cmp_lt _ _) hc
  have k3 := compose_set b c hb hc
  have k4 := compose_set a (cmp b c) ha (cmp_lt _ _)
  rw [← cmp_assoc] at k4
  have k5 := compose_set (a ||| b) c (or_lt ha hb) hc
  rw [cmp_or] at k5
  have k6 := compose_set a c ha hc
  have k7 : ∀ w, Calls Try.prog 21 #[.int .i64 (a : Int), .int .i64 64] w fun e w' => e = .returned (.int .i64 ((cmp a 64 : Nat) : Int)) ∧ Below w.heap.size w w' := compose_set a 64 ha (by decide)
  rw [(cmp_unit a ha).1] at k7
  have k8 : ∀ w, Calls Try.prog 21 #[.int .i64 64, .int .i64 (a : Int)] w fun e w' => e = .returned (.int .i64 ((cmp 64 a : Nat) : Int)) ∧ Below w.heap.size w w' := compose_set 64 a (by decide) ha
  rw [(cmp_unit a ha).2] at k8
  have k9 := compose_set (invN b) (invN a) (invN_lt _) (invN_lt _)
  rw [← inv_cmp] at k9
  have j1 := inverse_any (cmp a b) (cmp_lt _ _)
  have j2 := inverse_any a ha
  have j3 := inverse_any b hb
  have j4 := inverse_any (invN a) (invN_lt _)
  rw [inv_inv a ha] at j4
  have j5 := inverse_any (a ||| b) (or_lt ha hb)
  rw [inv_or a b ha hb] at j5
  have o1 : bits .or .i64 (a : Int) (b : Int) = ((a ||| b : Nat) : Int) := bits_or _ _ (by omega) (by omega)
  have o2 : bits .or .i64 ((cmp a c : Nat) : Int) ((cmp b c : Nat) : Int) = ((cmp a c ||| cmp b c : Nat) : Int) := bits_or _ _ (by have := cmp_lt a c; omega) (by have := cmp_lt b c; omega)
  have o3 : bits .or .i64 ((invN a : Nat) : Int) ((invN b : Nat) : Int) = ((invN a ||| invN b : Nat) : Int) := bits_or _ _ (by have := invN_lt a; omega) (by have := invN_lt b; omega)
  generalize cmp (cmp a b) c = X1 at *
  generalize invN (cmp a b) = X5 at *
  generalize cmp a b = X2 at *
  generalize cmp a c ||| cmp b c = X6 at *
  generalize cmp b c = X3 at *
  generalize cmp a c = X4 at *
  generalize invN a ||| invN b = X7 at *
  generalize invN a = X8 at *
  generalize invN b = X9 at *
  generalize a ||| b = X10 at *
  go_enter Try.func7, Try.ntmps7
  go_wp2_with (first | (go_at_call 11; (with_reducible refine (awake_any _).mono ?_); rintro e w1 ⟨rfl, hL⟩) | (go_at_call 22; ((with_reducible refine (is_any (a : Int) _).mono ?_); rintro e w1 ⟨rfl, rfl⟩)) | (go_at_call 22; ((with_reducible refine (is_any (b : Int) _).mono ?_); rintro e w1 ⟨rfl, rfl⟩)) | (go_at_call 22; ((with_reducible refine (is_any (c : Int) _).mono ?_); rintro e w1 ⟨rfl, rfl⟩)) | (go_at_call 21; (first | (with_reducible refine (k1 _).mono ?_) | (with_reducible refine (k2 _).mono ?_) | (with_reducible refine (k3 _).mono ?_) | (with_reducible refine (k4 _).mono ?_) | (with_reducible refine (k5 _).mono ?_) | (with_reducible refine (k6 _).mono ?_) | (with_reducible refine (k7 _).mono ?_) | (with_reducible refine (k8 _).mono ?_) | (with_reducible refine (k9 _).mono ?_)); rintro e w1 ⟨rfl, hb⟩; replace hL := Sl.bstep hL hb; clear hb) | (go_at_call 18; (first | (with_reducible refine (j1 _).mono ?_) | (with_reducible refine (j2 _).mono ?_) | (with_reducible refine (j3 _).mono ?_) | (with_reducible refine (j4 _).mono ?_) | (with_reducible refine (j5 _).mono ?_)); rintro e w1 ⟨rfl, hb⟩; replace hL := Sl.bstep hL hb; clear hb))
  go_ret
  exact ⟨rfl, hL⟩
theorem allenAlgebra_walk (a b c : Int) (_ : (Lit.int .i64 a).wf = true) (_ : (Lit.int .i64 b).wf = true) (_ : (Lit.int .i64 c).wf = true) (w : World) : Calls Try.prog 7 #[.int .i64 a, .int .i64 b, .int .i64 c] w fun e w' => e = .returned (.bool true) ∧ Below w.heap.size w w' := by
  cases h1 : isSetB a
  · exact algebra_bad a b c (.inl h1) w
  cases h2 : isSetB b
  · exact algebra_bad a b c (.inr (.inl ⟨h1, h2⟩)) w
  cases h3 : isSetB c
  · exact algebra_bad a b c (.inr (.inr ⟨h1, h2, h3⟩)) w
  obtain ⟨x, rfl⟩ : ∃ x : Nat, a = x := ⟨a.toNat, by simp [isSetB] at h1; omega⟩
  obtain ⟨y, rfl⟩ : ∃ y : Nat, b = y := ⟨b.toNat, by simp [isSetB] at h2; omega⟩
  obtain ⟨z, rfl⟩ : ∃ z : Nat, c = z := ⟨c.toNat, by simp [isSetB] at h3; omega⟩
  exact algebra_good x y z (by simp [isSetB] at h1; omega) (by simp [isSetB] at h2; omega) (by simp [isSetB] at h3; omega) w
end Go.Proofs.Ytmkgddgdeffllaa.Al
