/-
  Plain laws of allen's table: six ends are ranked, so any three intervals look like three of the list; the bits of the table and of inverses.
-/
import Derived.Test.YtoadihclmnjjnaaRef3
set_option linter.unusedSimpArgs false
set_option linter.unusedVariables false
namespace Go.Proofs.Ytoadihclmnjjnaa.Al
open Go Go.RowKit Go.Proofs.Ytoadihclmnjjnaa.Bt Go.Proofs.Ytoadihclmnjjnaa.Sl
open Go.Proofs.Ytoadihclmnjjnaa.Iv (of_any ofZ validB lineB sgn_bd sgn_cases tab sgn)

/-- How many of the list lie below v. -/
def rk (l : List Int) (v : Int) : Nat := l.countP fun x => decide (x < v)
theorem rk_le (l : List Int) {u v : Int} (h : u ≤ v) : rk l u ≤ rk l v := List.countP_mono_left fun x _ hx => by simp at hx ⊢; omega
theorem rk_lt : ∀ (l : List Int) {u v : Int}, u ∈ l → u < v → rk l u < rk l v
  | [], _, _, h, _ => by cases h
  | x :: l, u, v, h, hv => by
    unfold rk
    rw [List.countP_cons, List.countP_cons]
    have hle := rk_le l (Int.le_of_lt hv)
    unfold rk at hle
    rcases List.mem_cons.1 h with rfl | h
    · simp [hv]; omega
    · have ih := rk_lt l h hv
      unfold rk at ih
      by_cases c : x < u
      · have : x < v := by omega
        simp [c, this]; omega
      · simp [c]; split <;> omega
theorem rk_bd (l : List Int) (v : Int) (h : v ∈ l) : rk l v < l.length := Nat.lt_of_lt_of_le (rk_lt l h (by omega : v < v + 1)) List.countP_le_length
theorem sgn_rk (l : List Int) (u v : Int) (hu : u ∈ l) (hv : v ∈ l) : sgn ((rk l u : Nat) : Int) ((rk l v : Nat) : Int) = sgn u v := by
  rcases Int.lt_trichotomy u v with h | h | h
  · have := rk_lt l hu h
    rw [sgn_lt h, sgn_lt (by omega)]
  · subst h; rw [sgn_self, sgn_self]
  · have := rk_lt l hv h
    rw [sgn_gt h, sgn_gt (by omega)]
theorem ofZ_sgn {a0 a1 b0 b1 c0 c1 d0 d1 : Int} (h1 : validB a0 a1 = true) (h2 : validB b0 b1 = true) (h3 : validB c0 c1 = true) (h4 : validB d0 d1 = true) (s1 : sgn a1 b0 = sgn c1 d0) (s2 : sgn a0 b1 = sgn c0 d1) (s3 : sgn a0 b0 = sgn c0 d0) (s4 : sgn a1 b1 = sgn c1 d1) : ofZ a0 a1 b0 b1 = ofZ c0 c1 d0 d1 := by
  unfold ofZ
  rw [if_neg (show ¬ (validB a0 a1 = false ∨ validB b0 b1 = false) by simp [h1, h2]), if_neg (show ¬ (validB c0 c1 = false ∨ validB d0 d1 = false) by simp [h3, h4]), s1, s2, s3, s4]
theorem sp_idx : ∀ p < 6, ∀ q < 6, p < q → ∃ i, i < 15 ∧ spA i = ((p : Nat) : Int) ∧ spB i = ((q : Nat) : Int) := by
  have h : ∀ p < 6, ∀ q < 6, p < q → ((List.range 15).any fun i => decide (spA i = ((p : Nat) : Int)) && decide (spB i = ((q : Nat) : Int))) = true := of_decide_eq_true (by kernel_rfl)
  intro p hp q hq hpq
  have := h p hp q hq hpq
  rw [List.any_eq_true] at this
  obtain ⟨i, hi, hc⟩ := this
  simp only [Bool.and_eq_true, decide_eq_true_eq, List.mem_range] at hi hc
  exact ⟨i, hi, hc⟩
theorem validB_lt {a b : Int} (h : validB a b = true) : a < b := by rw [valid_iff] at h; simp at h; omega

/-- Any three intervals lie to each other as three of the list do. -/
theorem three (x0 x1 y0 y1 z0 z1 : Int) (hx : validB x0 x1 = true) (hy : validB y0 y1 = true) (hz : validB z0 z1 = true) : ∃ i j m, i < 15 ∧ j < 15 ∧ m < 15 ∧ ofZ x0 x1 y0 y1 = ((rl i j : Nat) : Int) ∧ ofZ y0 y1 z0 z1 = ((rl j m : Nat) : Int) ∧ ofZ x0 x1 z0 z1 = ((rl i m : Nat) : Int) ∧ ofZ z0 z1 x0 x1 = ((rl m i : Nat) : Int) := by
  obtain ⟨l, hl⟩ : ∃ l, l = [x0, x1, y0, y1, z0, z1] := ⟨_, rfl⟩
  have hlen : l.length = 6 := by rw [hl]; rfl
  have m0 : x0 ∈ l := by simp [hl]
  have m1 : x1 ∈ l := by simp [hl]
  have m2 : y0 ∈ l := by simp [hl]
  have m3 : y1 ∈ l := by simp [hl]
  have m4 : z0 ∈ l := by simp [hl]
  have m5 : z1 ∈ l := by simp [hl]
  have b0 := rk_bd l x0 m0
  have b1 := rk_bd l x1 m1
  have b2 := rk_bd l y0 m2
  have b3 := rk_bd l y1 m3
  have b4 := rk_bd l z0 m4
  have b5 := rk_bd l z1 m5
  rw [hlen] at b0 b1 b2 b3 b4 b5
  clear hl hlen
  obtain ⟨i, hi, i0, i1⟩ := sp_idx _ b0 _ b1 (rk_lt l m0 (validB_lt hx))
  obtain ⟨j, hj, j0, j1⟩ := sp_idx _ b2 _ b3 (rk_lt l m2 (validB_lt hy))
  obtain ⟨m, hm, k0, k1⟩ := sp_idx _ b4 _ b5 (rk_lt l m4 (validB_lt hz))
  have vi := sp_valid i hi
  have vj := sp_valid j hj
  have vm := sp_valid m hm
  refine ⟨i, j, m, hi, hj, hm, ?_, ?_, ?_, ?_⟩
  · rw [← (rl_all i hi j hj).1]
    exact ofZ_sgn hx hy vi vj (by rw [i1, j0, sgn_rk l _ _ m1 m2]) (by rw [i0, j1, sgn_rk l _ _ m0 m3]) (by rw [i0, j0, sgn_rk l _ _ m0 m2]) (by rw [i1, j1, sgn_rk l _ _ m1 m3])
  · rw [← (rl_all j hj m hm).1]
    exact ofZ_sgn hy hz vj vm (by rw [j1, k0, sgn_rk l _ _ m3 m4]) (by rw [j0, k1, sgn_rk l _ _ m2 m5]) (by rw [j0, k0, sgn_rk l _ _ m2 m4]) (by rw [j1, k1, sgn_rk l _ _ m3 m5])
  · rw [← (rl_all i hi m hm).1]
    exact ofZ_sgn hx hz vi vm (by rw [i1, k0, sgn_rk l _ _ m1 m4]) (by rw [i0, k1, sgn_rk l _ _ m0 m5]) (by rw [i0, k0, sgn_rk l _ _ m0 m4]) (by rw [i1, k1, sgn_rk l _ _ m1 m5])
  · rw [← (rl_all m hm i hi).1]
    exact ofZ_sgn hz hx vm vi (by rw [k1, i0, sgn_rk l _ _ m5 m0]) (by rw [k0, i1, sgn_rk l _ _ m4 m1]) (by rw [k0, i0, sgn_rk l _ _ m4 m0]) (by rw [k1, i1, sgn_rk l _ _ m5 m1])

theorem TS_mono (p : Nat) : ∀ n d, (TS n).testBit p = true → (TS (n + d)).testBit p = true := by
  intro n d
  induction d with
  | zero => intro h; exact h
  | succ d ih =>
    intro h
    rw [show n + (d + 1) = n + d + 1 from rfl, TS, Nat.testBit_or, ih h]
    rfl
/-- The table holds what is seen. -/
theorem bas_bit (i j m : Nat) (hi : i < 15) (hj : j < 15) (hm : m < 15) : (bas (rl i j) (rl j m)).testBit (rl i m) = true := by
  have l3 := rl_lt i m hi hm
  unfold bas
  rw [rowP_bit]
  have h1 : (TS (i * 225 + j * 15 + m + 1)).testBit (13 * (rl i j * 13 + rl j m) + rl i m) = true := by
    rw [TS, Nat.testBit_or, bitAt, show (i * 225 + j * 15 + m) / 225 = i by omega, show (i * 225 + j * 15 + m) / 15 % 15 = j by omega, show (i * 225 + j * 15 + m) % 15 = m by omega, Nat.testBit_two_pow_self]
    simp
  have h2 := TS_mono _ _ (3375 - (i * 225 + j * 15 + m + 1)) h1
  rw [show i * 225 + j * 15 + m + 1 + (3375 - (i * 225 + j * 15 + m + 1)) = 3375 by omega] at h2
  rw [h2]
  simp [l3]
theorem rl_inv : ∀ i < 15, ∀ j < 15, rl j i = 12 - rl i j := of_decide_eq_true (by kernel_rfl)

theorem foldl_bit {α : Type} (f : α → Nat) (c : Nat) : ∀ (l : List α) (o : Nat), (l.foldl (fun o r => o ||| 2 ^ f r) o).testBit c = (o.testBit c || l.any fun r => f r == c)
  | [], o => by simp
  | r :: l, o => by
    rw [List.foldl_cons, foldl_bit f c l, List.any_cons, Nat.testBit_or, Nat.testBit_two_pow, Bool.or_assoc]
    congr 1
theorem invN_bit (m c : Nat) (hc : c ≤ 12) : (invN m).testBit c = m.testBit (12 - c) := by
  unfold invN
  rw [foldl_bit (fun r : Fin 13 => 12 - r.val) c, Nat.zero_testBit, Bool.false_or, Bool.eq_iff_iff, List.any_eq_true]
  constructor
  · rintro ⟨r, hr, he⟩
    unfold singF at hr
    have := (List.mem_filter.1 hr).2
    have hlt := r.isLt
    have e : 12 - c = r.val := by simp at he; omega
    rw [e]
    simpa using this
  · intro h
    exact ⟨⟨12 - c, by omega⟩, List.mem_filter.2 ⟨List.mem_finRange _, by simpa using h⟩, by simp; omega⟩
theorem invN_lt (m : Nat) : invN m < 8192 := invTo_lt (singF m)
theorem bas_lt (a b : Nat) : bas a b < 8192 := rowP_lt _ _
end Go.Proofs.Ytoadihclmnjjnaa.Al
