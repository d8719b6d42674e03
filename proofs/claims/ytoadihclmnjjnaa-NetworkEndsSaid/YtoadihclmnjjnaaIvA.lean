/-
  The walks of layer 10's small functions (line, Valid, sign, Of) of the program civiltime.
-/
import Derived.Test.YtoadihclmnjjnaaChecked
import Derived.WalkKit
import Derived.ProofKit
import Derived.OpenShut
import Derived.Handy
import Derived.WalkLawsBesides
import Derived.WalkSpells
import Derived.Outline
import Derived.Lib.Hide
import Derived.BigQuiet
import Derived.Deep.QuietTactic
import Derived.Deep.RegionHeld3
set_option linter.unusedSimpArgs false
set_option linter.unusedVariables false
namespace Go.Proofs.Ytoadihclmnjjnaa.Iv
open Go.RowKit Go.ChangeShapes Go.WideShapes

/-- A number is on the line. -/
def lineB (x : Int) : Bool := decide (-4398046511104 ≤ x) && decide (x ≤ 4398046511104)
def validB (a b : Int) : Bool := lineB a && lineB b && decide (a < b)
def sgn (a b : Int) : Int := if a < b then -1 else if b < a then 1 else 0
def tab (i j : Int) : Int :=
  if i = -1 then (if j = -1 then 2 else if j = 0 then 7 else 8)
  else if i = 0 then (if j = -1 then 3 else if j = 0 then 6 else 9)
  else (if j = -1 then 4 else if j = 0 then 5 else 10)
def ofZ (a0 a1 b0 b1 : Int) : Int :=
  if validB a0 a1 = false ∨ validB b0 b1 = false then -1
  else if sgn a1 b0 ≤ 0 then sgn a1 b0 + 1
  else if 0 ≤ sgn a0 b1 then 11 + sgn a0 b1
  else tab (sgn a0 b0) (sgn a1 b1)

theorem sgn_bd (a b : Int) : -1 ≤ sgn a b ∧ sgn a b ≤ 1 := by unfold sgn; split <;> (try split) <;> omega
theorem line_any (x : Int) (w : World) : Calls Try.prog 92 #[.int .i64 x] w fun e w' => e = .returned (.bool (lineB x)) ∧ w = w' := by
  have d : lineB x = (decide (-4398046511104 ≤ x) && decide (x ≤ 4398046511104)) := rfl
  rw [d]; clear d
  by_cases h1 : (-4398046511104 : Int) ≤ x
  · go_enter Try.func92, Try.ntmps92
    go_wp2
    go_ret
    exact ⟨by simp [h1], rfl⟩
  · go_enter Try.func92, Try.ntmps92
    go_wp2
    go_ret
    exact ⟨by simp [Int.not_le.2 h1], rfl⟩

theorem sign_any (a b : Int) (w : World) : Calls Try.prog 68 #[.int .i64 a, .int .i64 b] w fun e w' => e = .returned (.int .i64 (sgn a b)) ∧ w = w' := by
  unfold sgn
  by_cases h1 : a < b
  · go_enter Try.func68, Try.ntmps68
    go_wp2
    go_ret
    exact ⟨by simp [h1], rfl⟩
  · by_cases h2 : b < a
    · go_enter Try.func68, Try.ntmps68
      go_wp2
      go_ret
      exact ⟨by simp [h1, h2], rfl⟩
    · go_enter Try.func68, Try.ntmps68
      go_wp2
      go_ret
      exact ⟨by simp [h1, h2], rfl⟩

theorem valid_any (a b : Int) (w : World) : Calls Try.prog 67 #[.agg #[.int .i64 a, .int .i64 b]] w fun e w' => e = .returned (.bool (validB a b)) ∧ Below w.heap.size w w' := by
  have d : validB a b = (lineB a && lineB b && decide (a < b)) := rfl
  rw [d]; clear d
  go_enter Try.func67, Try.ntmps67
  go_wp2_with (go_at_call 92; refine (line_any _ _).mono ?_; rintro e w' ⟨rfl, rfl⟩)
  all_goals go_ret
  · rename_i h1 h2; exact ⟨by simp [h1, h2], by go_grown⟩
  · rename_i h1 h2; exact ⟨by simp [h1, h2], by go_grown⟩
  · rename_i h1; exact ⟨by simp [h1], by go_grown⟩

theorem bcell {W w1 : World} (hb : Below W.heap.size W w1) : (∀ b o, b < W.heap.size → w1.cell? ⟨b, o, none⟩ = W.cell? ⟨b, o, none⟩) ∧ (∀ b o, b < W.heap.size → w1.frozen? ⟨b, o, none⟩ = W.frozen? ⟨b, o, none⟩) :=
  ⟨fun b o h => hb.cell (p := ⟨b, o, none⟩) h, fun b o h => hb.frozen (p := ⟨b, o, none⟩) h⟩

theorem bstep {w wa w1 : World} (h : Below w.heap.size w wa) (hb : Below wa.heap.size wa w1) : Below w.heap.size w w1 := h.trans (hb.mono h.size)

theorem bdrewN {B : Nat} {a w : World} (h : Below B a w) (n : Nat) : Below B a (w.drewN n) := ⟨h.os, h.tape, h.output, h.size, h.block⟩

theorem of_bad (a0 a1 b0 b1 : Int) (w : World) (h : validB a0 a1 = false ∨ (validB a0 a1 = true ∧ validB b0 b1 = false)) : Calls Try.prog 31 #[.agg #[.int .i64 a0, .int .i64 a1], .agg #[.int .i64 b0, .int .i64 b1]] w fun e w' => e = .returned (.int .i64 (-1)) ∧ Below w.heap.size w w' := by
  rcases h with h | ⟨h1, h2⟩
  all_goals
    go_enter Try.func31, Try.ntmps31
    go_wp2_with (go_at_call 67; refine (valid_any _ _ _).mono ?_; rintro e w1 ⟨rfl, hb⟩; have hB : Below w.heap.size w w1 := bstep (by go_grown) hb; have hc := bcell hb; have hz : w.heap.size + 1 < w1.heap.size := (by have := hb.size; first | omega | (simp at this; omega)); have hy : w.heap.size < w1.heap.size := by omega)
    go_ret
    exact ⟨rfl, by go_grown⟩

theorem sgn_cases (a b : Int) : sgn a b = -1 ∨ sgn a b = 0 ∨ sgn a b = 1 := by have := sgn_bd a b; omega
theorem sign_is (a b i : Int) (w : World) (h : sgn a b = i) : Calls Try.prog 68 #[.int .i64 a, .int .i64 b] w fun e w' => e = .returned (.int .i64 i) ∧ w = w' := by subst h; exact sign_any a b w
theorem sign_is' (a b i : Int) (w : World) (h : sgn a b = i) : Calls Try.prog 68 #[.int .i64 a, .int .i64 b] w fun e w' => e = .returned (.int .i64 i) ∧ w' = w := (sign_is a b i w h).mono fun _ _ ⟨a, b⟩ => ⟨a, b.symm⟩

theorem of_1 (a0 a1 b0 b1 s : Int) (w : World) (h1 : validB a0 a1 = true) (h2 : validB b0 b1 = true) (hs : Hid (sgn a1 b0 = s)) (hl : -1 ≤ s) (hu : s ≤ 0) : Calls Try.prog 31 #[.agg #[.int .i64 a0, .int .i64 a1], .agg #[.int .i64 b0, .int .i64 b1]] w fun e w' => e = .returned (.int .i64 (s + 1)) ∧ Below w.heap.size w w' := by
  go_enter Try.func31, Try.ntmps31
  go_wp2_with (first | (go_at_call 67; refine (valid_any _ _ _).mono ?_; rintro e w1 ⟨rfl, hb⟩; have hB : Below w.heap.size w w1 := bstep (by go_grown) hb; have hc := bcell hb; have hz : w.heap.size + 1 < w1.heap.size := (by have := hb.size; first | omega | (simp at this; omega)); have hy : w.heap.size < w1.heap.size := by omega) | (go_at_call 68; (with_reducible refine (sign_is _ _ _ _ hs.out).mono ?_); rintro e w1 ⟨rfl, rfl⟩))
  go_ret
  exact ⟨rfl, by go_grown⟩

theorem of_2 (a0 a1 b0 b1 s : Int) (w : World) (h1 : validB a0 a1 = true) (h2 : validB b0 b1 = true) (hs : Hid (sgn a1 b0 = 1)) (ht : Hid (sgn a0 b1 = s)) (hl : 0 ≤ s) (hu : s ≤ 1) : Calls Try.prog 31 #[.agg #[.int .i64 a0, .int .i64 a1], .agg #[.int .i64 b0, .int .i64 b1]] w fun e w' => e = .returned (.int .i64 (11 + s)) ∧ Below w.heap.size w w' := by
  go_enter Try.func31, Try.ntmps31
  go_wp2_with (first | (go_at_call 67; refine (valid_any _ _ _).mono ?_; rintro e w1 ⟨rfl, hb⟩; have hB : Below w.heap.size w w1 := bstep (by go_grown) hb; have hc := bcell hb; have hz : w.heap.size + 1 < w1.heap.size := (by have := hb.size; first | omega | (simp at this; omega)); have hy : w.heap.size < w1.heap.size := by omega) | (go_at_call 68; (with_reducible refine (sign_is _ _ _ _ hs.out).mono ?_); rintro e w1 ⟨rfl, rfl⟩) | (go_at_call 68; (with_reducible refine (sign_is _ _ _ _ ht.out).mono ?_); rintro e w1 ⟨rfl, rfl⟩))
  go_ret
  exact ⟨rfl, by go_grown⟩

set_option maxHeartbeats 2000000 in
theorem of_3 (a0 a1 b0 b1 i j : Int) (w : World) (h1 : validB a0 a1 = true) (h2 : validB b0 b1 = true) (hs : Hid (sgn a1 b0 = 1)) (ht : Hid (sgn a0 b1 = -1)) (hi : Hid (sgn a0 b0 = i)) (hj : Hid (sgn a1 b1 = j)) (di : i = -1 ∨ i = 0 ∨ i = 1) (dj : j = -1 ∨ j = 0 ∨ j = 1) : Calls Try.prog 31 #[.agg #[.int .i64 a0, .int .i64 a1], .agg #[.int .i64 b0, .int .i64 b1]] w fun e w' => e = .returned (.int .i64 (tab i j)) ∧ Below w.heap.size w w' := by
  rcases di with rfl | rfl | rfl <;> rcases dj with rfl | rfl | rfl
  all_goals
    go_enter Try.func31, Try.ntmps31
    go_wp2_with (first | (go_at_call 67; refine (valid_any _ _ _).mono ?_; rintro e w1 ⟨rfl, hb⟩; have hB : Below w.heap.size w w1 := bstep (by go_grown) hb; have hc := bcell hb; have hz : w.heap.size + 1 < w1.heap.size := (by have := hb.size; first | omega | (simp at this; omega)); have hy : w.heap.size < w1.heap.size := by omega) | (go_at_call 68; (with_reducible refine (sign_is _ _ _ _ hs.out).mono ?_); rintro e w1 ⟨rfl, rfl⟩) | (go_at_call 68; (with_reducible refine (sign_is _ _ _ _ ht.out).mono ?_); rintro e w1 ⟨rfl, rfl⟩))
    go_quiet ((go_at_call 68; first | (with_reducible exact Calls.quiet_of_same (sign_is' _ _ _ _ hi.out)) | (with_reducible exact Calls.quiet_of_same (sign_is' _ _ _ _ hj.out))))
    go_wp2
    go_ret
    exact ⟨rfl, bdrewN (by go_grown) _⟩

theorem of_any (a0 a1 b0 b1 : Int) (w : World) : Calls Try.prog 31 #[.agg #[.int .i64 a0, .int .i64 a1], .agg #[.int .i64 b0, .int .i64 b1]] w fun e w' => e = .returned (.int .i64 (ofZ a0 a1 b0 b1)) ∧ Below w.heap.size w w' := by
  cases h1 : validB a0 a1
  · rw [show ofZ a0 a1 b0 b1 = -1 by unfold ofZ; rw [if_pos (by simp [h1])]]; exact of_bad _ _ _ _ _ (.inl h1)
  cases h2 : validB b0 b1
  · rw [show ofZ a0 a1 b0 b1 = -1 by unfold ofZ; rw [if_pos (by simp [h2])]]; exact of_bad _ _ _ _ _ (.inr ⟨h1, h2⟩)
  have s1 := sgn_bd a1 b0
  have s2 := sgn_bd a0 b1
  by_cases c1 : sgn a1 b0 ≤ 0
  · rw [show ofZ a0 a1 b0 b1 = sgn a1 b0 + 1 by unfold ofZ; rw [if_neg (by simp [h1, h2]), if_pos c1]]; exact of_1 _ _ _ _ _ _ h1 h2 (Lib.hid rfl) s1.1 c1
  by_cases c2 : 0 ≤ sgn a0 b1
  · rw [show ofZ a0 a1 b0 b1 = 11 + sgn a0 b1 by unfold ofZ; rw [if_neg (by simp [h1, h2]), if_neg c1, if_pos c2]]; exact of_2 _ _ _ _ _ _ h1 h2 (Lib.hid (by omega)) (Lib.hid rfl) c2 s2.2
  rw [show ofZ a0 a1 b0 b1 = tab (sgn a0 b0) (sgn a1 b1) by unfold ofZ; rw [if_neg (by simp [h1, h2]), if_neg c1, if_neg c2]]; exact of_3 _ _ _ _ _ _ _ h1 h2 (Lib.hid (by omega)) (Lib.hid (by omega)) (Lib.hid rfl) (Lib.hid rfl) (sgn_cases _ _) (sgn_cases _ _)
end Go.Proofs.Ytoadihclmnjjnaa.Iv
