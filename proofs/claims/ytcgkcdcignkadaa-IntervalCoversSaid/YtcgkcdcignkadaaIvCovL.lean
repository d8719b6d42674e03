/-
  Integers in an interval, in the meet, the hull and what is left: plain laws.
-/
import Derived.Test.YtcgkcdcignkadaaIvCov
set_option linter.unusedSimpArgs false
set_option linter.unusedVariables false
namespace Go.Proofs.Ytcgkcdcignkadaa.Iv
open Go.RowKit Go.ChangeShapes Go.WideShapes Go.Proofs.Ytcgkcdcignkadaa.Sl

theorem has_iff {a b x : Int} (h : validB a b = true) : hasB a b x = decide (a ≤ x ∧ x < b) := by
  unfold hasB; rw [h]; simp
theorem has_of {a b x : Int} (ha : lineB a = true) (hb : lineB b = true) (h : a < b) : hasB a b x = decide (a ≤ x ∧ x < b) := has_iff (by simp [validB, ha, hb, h])
theorem valid_lines {a b : Int} (h : validB a b = true) : lineB a = true ∧ lineB b = true ∧ a < b := by
  simp only [validB, Bool.and_eq_true, decide_eq_true_eq] at h; exact ⟨h.1.1, h.1.2, h.2⟩
theorem mx_line {a b : Int} (ha : lineB a = true) (hb : lineB b = true) : lineB (mxZ a b) = true := by unfold mxZ; split <;> assumption
theorem mn_line {a b : Int} (ha : lineB a = true) (hb : lineB b = true) : lineB (mnZ a b) = true := by unfold mnZ; split <;> assumption
theorem mx_spec (a b : Int) : (a < b ∧ mxZ a b = b) ∨ (b ≤ a ∧ mxZ a b = a) := by unfold mxZ; split <;> omega
theorem mn_spec (a b : Int) : (b < a ∧ mnZ a b = b) ∨ (a ≤ b ∧ mnZ a b = a) := by unfold mnZ; split <;> omega
theorem has_meet {a0 a1 b0 b1 : Int} (x : Int) (h1 : validB a0 a1 = true) (h2 : validB b0 b1 = true) : hasB (meetZ a0 a1 b0 b1).1 (meetZ a0 a1 b0 b1).2 x = (hasB a0 a1 x && hasB b0 b1 x) := by
  obtain ⟨p1, p2, p3⟩ := valid_lines h1
  obtain ⟨p4, p5, p6⟩ := valid_lines h2
  have x1 := mx_spec a0 b0
  have x2 := mn_spec a1 b1
  rw [has_iff h1, has_iff h2]
  by_cases hm : mxZ a0 b0 < mnZ a1 b1
  · have e : meetZ a0 a1 b0 b1 = (mxZ a0 b0, mnZ a1 b1) := by unfold meetZ; rw [if_pos (by simp [meetB, h1, h2, hm])]
    rw [e, has_of (mx_line p1 p4) (mn_line p2 p5) hm, ← Bool.decide_and]
    apply decide_eq_decide.2
    omega
  · have e : meetZ a0 a1 b0 b1 = (0, 0) := by unfold meetZ; rw [if_neg (by simp [meetB, h1, h2, hm])]
    rw [e, ← Bool.decide_and]
    have : ¬ ((a0 ≤ x ∧ x < a1) ∧ b0 ≤ x ∧ x < b1) := by omega
    rw [decide_eq_false this]
    rfl
theorem has_hull {a0 a1 b0 b1 : Int} (x : Int) (h1 : validB a0 a1 = true) (h2 : validB b0 b1 = true) (h : hasB a0 a1 x = true ∨ hasB b0 b1 x = true) : hasB (mnZ a0 b0) (mxZ a1 b1) x = true := by
  obtain ⟨p1, p2, p3⟩ := valid_lines h1
  obtain ⟨p4, p5, p6⟩ := valid_lines h2
  have x1 := mn_spec a0 b0
  have x2 := mx_spec a1 b1
  rw [has_iff h1, has_iff h2] at h
  rw [has_of (mn_line p1 p4) (mx_line p2 p5) (by omega)]
  simp only [decide_eq_true_eq] at h ⊢
  omega
theorem cnt_minus {a0 a1 b0 b1 : Int} (x : Int) (h1 : validB a0 a1 = true) (h2 : validB b0 b1 = true) : ((cnt (minusL a0 a1 b0 b1) x : Nat) : Int) = if hasB a0 a1 x && !hasB b0 b1 x then 1 else 0 := by
  obtain ⟨p1, p2, p3⟩ := valid_lines h1
  obtain ⟨p4, p5, p6⟩ := valid_lines h2
  have x1 := mx_spec a0 b1
  have x2 := mn_spec a1 b0
  have e : minusL a0 a1 b0 b1 = (if a0 < mnZ a1 b0 then [(a0, mnZ a1 b0)] else []) ++ (if mxZ a0 b1 < a1 then [(mxZ a0 b1, a1)] else []) := by unfold minusL; rw [if_neg (by simp [bothB, h1, h2])]
  rw [e, has_iff h1, has_iff h2]
  have hc : ∀ L M : List (Int × Int), cnt (L ++ M) x = cnt L x + cnt M x := fun L M => by simp [cnt]
  have h1' : ∀ p : Int × Int, cnt [p] x = if hasB p.1 p.2 x then 1 else 0 := fun p => by unfold cnt; cases c : hasB p.1 p.2 x <;> simp [List.filter_cons, c]
  have h0 : cnt [] x = 0 := rfl
  rw [hc]
  have q1 : cnt (if a0 < mnZ a1 b0 then [(a0, mnZ a1 b0)] else []) x = if a0 < mnZ a1 b0 ∧ a0 ≤ x ∧ x < mnZ a1 b0 then 1 else 0 := by
    by_cases c : a0 < mnZ a1 b0
    · rw [if_pos c, h1', has_of p1 (mn_line p2 p4) c]; simp [c]
    · rw [if_neg c, if_neg (by omega)]; rfl
  have q2 : cnt (if mxZ a0 b1 < a1 then [(mxZ a0 b1, a1)] else []) x = if mxZ a0 b1 < a1 ∧ mxZ a0 b1 ≤ x ∧ x < a1 then 1 else 0 := by
    by_cases c : mxZ a0 b1 < a1
    · rw [if_pos c, h1', has_of (mx_line p1 p5) p2 c]; simp [c]
    · rw [if_neg c, if_neg (by omega)]; rfl
  rw [q1, q2]
  have q3 : (decide (a0 ≤ x ∧ x < a1) && !decide (b0 ≤ x ∧ x < b1)) = decide ((a0 ≤ x ∧ x < a1) ∧ ¬ (b0 ≤ x ∧ x < b1)) := by rw [Bool.eq_iff_iff]; simp only [Bool.and_eq_true, Bool.not_eq_true', decide_eq_true_eq, decide_eq_false_iff_not]
  rw [q3]
  simp only [decide_eq_true_eq]
  (repeat' split) <;> omega
theorem len_hull {a0 a1 b0 b1 : Int} (h1 : validB a0 a1 = true) (h2 : validB b0 b1 = true) : lenZ a0 a1 ≤ lenZ (mnZ a0 b0) (mxZ a1 b1) ∧ lenZ b0 b1 ≤ lenZ (mnZ a0 b0) (mxZ a1 b1) := by
  obtain ⟨p1, p2, p3⟩ := valid_lines h1
  obtain ⟨p4, p5, p6⟩ := valid_lines h2
  have x1 := mn_spec a0 b0
  have x2 := mx_spec a1 b1
  have : validB (mnZ a0 b0) (mxZ a1 b1) = true := by simp only [validB, mn_line p1 p4, mx_line p2 p5, Bool.true_and, decide_eq_true_eq]; omega
  unfold lenZ
  rw [if_pos h1, if_pos h2, if_pos this]
  omega
theorem two_way (h a b : Int) (e : h = a ∨ h = b) : (h == a) = true ∨ ((h == a) = false ∧ (h == b) = true) := by
  by_cases c : h = a
  · exact .inl (by simp [c])
  · exact .inr ⟨by simp [c], by simp; omega⟩
theorem minus_len2 (a0 a1 b0 b1 : Int) : (minusL a0 a1 b0 b1).length ≤ 2 := by
  unfold minusL; (repeat' split) <;> simp
end Go.Proofs.Ytcgkcdcignkadaa.Iv
