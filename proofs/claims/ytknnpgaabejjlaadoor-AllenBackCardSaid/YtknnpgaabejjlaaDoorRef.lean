/-
  The walks of the reference of layer 11: IsSet, valid, has, place, Places, Of.
-/
import Derived.Test.YtknnpgaabejjlaaDoorAwk
set_option linter.unusedSimpArgs false
set_option linter.unusedVariables false
namespace Go.Proofs.YtknnpgaabejjlaaDoor.Al
open Go Go.RowKit Go.Proofs.YtknnpgaabejjlaaDoor.Bt Go.Proofs.YtknnpgaabejjlaaDoor.Sl
open Go.Proofs.YtknnpgaabejjlaaDoor.Iv (of_any ofZ validB lineB sgn_bd sgn_cases tab sgn)

theorem rIsSet_any (s : Int) (w : World) : Calls Tryd.prog 32 #[.int .i64 s] w fun e w' => e = .returned (.bool (isSetB s)) ∧ w = w' := by
  have d : isSetB s = (decide (0 ≤ s) && decide (s ≤ 8191)) := rfl
  rw [d]; clear d
  by_cases h : 0 ≤ s
  · go_enter Tryd.func32, Tryd.ntmps32
    go_wp2
    go_ret
    exact ⟨by simp [h], rfl⟩
  · go_enter Tryd.func32, Tryd.ntmps32
    go_wp2
    go_ret
    exact ⟨by simp [Int.not_le.2 h], rfl⟩
theorem valid_iff (a b : Int) : validB a b = (decide (-4398046511104 ≤ a) && decide (b ≤ 4398046511104) && decide (a < b)) := by
  unfold validB lineB
  rw [Bool.eq_iff_iff]
  simp only [Bool.and_eq_true, decide_eq_true_eq]
  omega
theorem rhas_any (m r : Nat) (hm : m < 8192) (hr : r < 64) (w : World) : Calls Tryd.prog 19 #[.int .i64 (m : Int), .int .i64 (r : Int)] w fun e w' => e = .returned (.bool (m.testBit r)) ∧ w = w' := by
  have hbt := bit_test m r (by omega)
  go_enter Tryd.func19, Tryd.ntmps19
  go_wp2
  go_ret
  exact ⟨rfl, rfl⟩
def rpl (x b0 b1 : Int) : Nat := if x < b0 then 1 else if x = b0 then 2 else if x < b1 then 3 else if x = b1 then 4 else 5
theorem sgn_lt {a b : Int} (h : a < b) : sgn a b = -1 := by unfold sgn; rw [if_pos h]
theorem sgn_self (a : Int) : sgn a a = 0 := by unfold sgn; rw [if_neg (by omega), if_neg (by omega)]
theorem sgn_gt {a b : Int} (h : b < a) : sgn a b = 1 := by unfold sgn; rw [if_neg (by omega), if_pos h]
/-- The relation's places are those of the ends. -/
theorem of_places (a0 a1 b0 b1 : Int) (h1 : validB a0 a1 = true) (h2 : validB b0 b1 = true) : en (ofZ a0 a1 b0 b1).toNat 0 = rpl a0 b0 b1 ∧ en (ofZ a0 a1 b0 b1).toNat 1 = rpl a1 b0 b1 := by
  have v1 : a0 < a1 := by rw [valid_iff] at h1; simp at h1; omega
  have v2 : b0 < b1 := by rw [valid_iff] at h2; simp at h2; omega
  unfold ofZ
  rw [if_neg (by simp [h1, h2])]
  clear h1 h2
  unfold rpl
  rcases Int.lt_trichotomy a1 b0 with c | c | c
  · rw [sgn_lt c, if_pos (by omega), if_pos (by omega : a0 < b0), if_pos c]; decide
  · subst c; rw [sgn_self, if_pos (by omega), if_pos (by omega : a0 < a1), if_neg (by omega), if_pos rfl]; decide
  rw [sgn_gt c, if_neg (by omega)]
  rcases Int.lt_trichotomy a0 b1 with d | d | d
  · rw [sgn_lt d, if_neg (by omega)]
    rcases Int.lt_trichotomy a0 b0 with e | e | e
    · rw [sgn_lt e, if_pos e, if_neg (by omega : ¬ a1 < b0), if_neg (by omega : ¬ a1 = b0)]
      rcases Int.lt_trichotomy a1 b1 with f | f | f
      · rw [sgn_lt f, if_pos f]; decide
      · subst f; rw [sgn_self, if_neg (by omega), if_pos rfl]; decide
      · rw [sgn_gt f, if_neg (by omega), if_neg (by omega)]; decide
    · subst e; rw [sgn_self, if_neg (by omega : ¬ a0 < a0), if_pos rfl, if_neg (by omega : ¬ a1 < a0), if_neg (by omega : ¬ a1 = a0)]
      rcases Int.lt_trichotomy a1 b1 with f | f | f
      · rw [sgn_lt f, if_pos f]; decide
      · subst f; rw [sgn_self, if_neg (by omega), if_pos rfl]; decide
      · rw [sgn_gt f, if_neg (by omega), if_neg (by omega)]; decide
    · rw [sgn_gt e, if_neg (by omega : ¬ a0 < b0), if_neg (by omega : ¬ a0 = b0), if_pos d, if_neg (by omega : ¬ a1 < b0), if_neg (by omega : ¬ a1 = b0)]
      rcases Int.lt_trichotomy a1 b1 with f | f | f
      · rw [sgn_lt f, if_pos f]; decide
      · subst f; rw [sgn_self, if_neg (by omega), if_pos rfl]; decide
      · rw [sgn_gt f, if_neg (by omega), if_neg (by omega)]; decide
  · subst d; rw [sgn_self, if_pos (by omega), if_neg (by omega : ¬ a0 < b0), if_neg (by omega : ¬ a0 = b0), if_neg (by omega : ¬ a0 < a0), if_pos rfl, if_neg (by omega : ¬ a1 < b0), if_neg (by omega : ¬ a1 = b0), if_neg (by omega : ¬ a1 < a0), if_neg (by omega : ¬ a1 = a0)]; decide
  · rw [sgn_gt d, if_pos (by omega), if_neg (by omega : ¬ a0 < b0), if_neg (by omega : ¬ a0 = b0), if_neg (by omega : ¬ a0 < b1), if_neg (by omega : ¬ a0 = b1), if_neg (by omega : ¬ a1 < b0), if_neg (by omega : ¬ a1 = b0), if_neg (by omega : ¬ a1 < b1), if_neg (by omega : ¬ a1 = b1)]; decide
theorem en_inj : ∀ r < 13, ∀ q < 13, en r 0 = en q 0 → en r 1 = en q 1 → r = q := by decide

end Go.Proofs.YtknnpgaabejjlaaDoor.Al
