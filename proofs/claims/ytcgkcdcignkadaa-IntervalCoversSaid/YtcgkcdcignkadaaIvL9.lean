/-
  The walk of the law IntervalCovers.
-/
import Derived.Test.YtcgkcdcignkadaaIvL8
import Derived.Test.YtcgkcdcignkadaaIvCovL
import Derived.Test.YtcgkcdcignkadaaIvCovA
import Derived.Test.YtcgkcdcignkadaaIvCovB
import Derived.Test.YtcgkcdcignkadaaIvCovC
import Derived.Test.YtcgkcdcignkadaaIvCovD
set_option linter.unusedSimpArgs false
set_option linter.unusedVariables false
namespace Go.Proofs.Ytcgkcdcignkadaa.Iv
open Go.RowKit Go.ChangeShapes Go.WideShapes Go.Proofs.Ytcgkcdcignkadaa.Sl

theorem intervalCovers_walk (a0 a1 b0 b1 x : Int) (wa0 : (Lit.int .i64 a0).wf = true) (wa1 : (Lit.int .i64 a1).wf = true) (wb0 : (Lit.int .i64 b0).wf = true) (wb1 : (Lit.int .i64 b1).wf = true) (wx : (Lit.int .i64 x).wf = true) (w : World) : Calls Try.prog 10 #[.agg #[.int .i64 a0, .int .i64 a1], .agg #[.int .i64 b0, .int .i64 b1], .int .i64 x] w fun e w' => e = .returned (.bool true) ∧ Below w.heap.size w w' := by
  cases h1 : validB a0 a1
  · exact intervalCovers_bad1 _ _ _ _ _ h1 w
  cases h2 : validB b0 b1
  · exact intervalCovers_bad2 _ _ _ _ _ h1 h2 w
  have hN : hullN a0 a1 b0 b1 = 0 := by unfold hullN; rw [if_pos (by simp [bothB, h1, h2])]
  have hH : hullZ a0 a1 b0 b1 = (mnZ a0 b0, mxZ a1 b1) := by unfold hullZ; rw [if_pos (by simp [bothB, h1, h2])]
  have hM := has_meet x h1 h2
  have hHh := has_hull x h1 h2
  have hl := len_hull h1 h2
  have hc := cnt_minus x h1 h2
  have e0 := two_way (mnZ a0 b0) a0 b0 (by have := mn_spec a0 b0; omega)
  have e1 := two_way (mxZ a1 b1) a1 b1 (by have := mx_spec a1 b1; omega)
  have hL2 := minus_len2 a0 a1 b0 b1
  have mf : meetB a0 a1 b0 b1 = false → hasB (meetZ a0 a1 b0 b1).1 (meetZ a0 a1 b0 b1).2 x = false := fun h => by unfold meetZ; rw [h]; rfl
  cases hA : hasB a0 a1 x <;> cases hB : hasB b0 b1 x <;> cases hO : meetB a0 a1 b0 b1 <;> rw [hA, hB] at hM hc
  · by_cases hz : (minusL a0 a1 b0 b1).length = 0
    · exact cov_e_fff a0 a1 b0 b1 x _ _ _ _ h1 h2 hO rfl hN hH hA hB hM hHh e0 e1 hl.1 hl.2 _ rfl hz hL2 hc w
    · exact cov_n_fff a0 a1 b0 b1 x _ _ _ _ h1 h2 hO rfl hN hH hA hB hM hHh e0 e1 hl.1 hl.2 _ rfl hz hL2 hc w
  · by_cases hz : (minusL a0 a1 b0 b1).length = 0
    · exact cov_e_fft a0 a1 b0 b1 x _ _ _ _ h1 h2 hO rfl hN hH hA hB hM hHh e0 e1 hl.1 hl.2 _ rfl hz hL2 hc w
    · exact cov_n_fft a0 a1 b0 b1 x _ _ _ _ h1 h2 hO rfl hN hH hA hB hM hHh e0 e1 hl.1 hl.2 _ rfl hz hL2 hc w
  · by_cases hz : (minusL a0 a1 b0 b1).length = 0
    · exact cov_e_ftf a0 a1 b0 b1 x _ _ _ _ h1 h2 hO rfl hN hH hA hB hM hHh e0 e1 hl.1 hl.2 _ rfl hz hL2 hc w
    · exact cov_n_ftf a0 a1 b0 b1 x _ _ _ _ h1 h2 hO rfl hN hH hA hB hM hHh e0 e1 hl.1 hl.2 _ rfl hz hL2 hc w
  · by_cases hz : (minusL a0 a1 b0 b1).length = 0
    · exact cov_e_ftt a0 a1 b0 b1 x _ _ _ _ h1 h2 hO rfl hN hH hA hB hM hHh e0 e1 hl.1 hl.2 _ rfl hz hL2 hc w
    · exact cov_n_ftt a0 a1 b0 b1 x _ _ _ _ h1 h2 hO rfl hN hH hA hB hM hHh e0 e1 hl.1 hl.2 _ rfl hz hL2 hc w
  · by_cases hz : (minusL a0 a1 b0 b1).length = 0
    · rw [List.length_eq_zero_iff.1 hz] at hc; cases hc
    · exact cov_n_tff a0 a1 b0 b1 x _ _ _ _ h1 h2 hO rfl hN hH hA hB hM hHh e0 e1 hl.1 hl.2 _ rfl hz hL2 hc w
  · by_cases hz : (minusL a0 a1 b0 b1).length = 0
    · rw [List.length_eq_zero_iff.1 hz] at hc; cases hc
    · exact cov_n_tft a0 a1 b0 b1 x _ _ _ _ h1 h2 hO rfl hN hH hA hB hM hHh e0 e1 hl.1 hl.2 _ rfl hz hL2 hc w
  · rw [mf hO] at hM; cases hM
  · by_cases hz : (minusL a0 a1 b0 b1).length = 0
    · exact cov_e_ttt a0 a1 b0 b1 x _ _ _ _ h1 h2 hO rfl hN hH hA hB hM hHh e0 e1 hl.1 hl.2 _ rfl hz hL2 hc w
    · exact cov_n_ttt a0 a1 b0 b1 x _ _ _ _ h1 h2 hO rfl hN hH hA hB hM hHh e0 e1 hl.1 hl.2 _ rfl hz hL2 hc w
end Go.Proofs.Ytcgkcdcignkadaa.Iv
