/-
  Forms of contracts for the law IntervalCovers.
-/
import Derived.Test.YtcgkcdcignkadaaIvN
set_option linter.unusedSimpArgs false
set_option linter.unusedVariables false
namespace Go.Proofs.Ytcgkcdcignkadaa.Iv
open Go.RowKit Go.ChangeShapes Go.WideShapes Go.Proofs.Ytcgkcdcignkadaa.Sl

def hasB (a b x : Int) : Bool := validB a b && decide (a ≤ x) && decide (x < b)
theorem has_anyN (a b x : Int) (w : World) : Calls Try.prog 34 #[.agg #[.int .i64 a, .int .i64 b], .int .i64 x] w fun e w' => e = .returned (.bool (hasB a b x)) ∧ Below w.heap.size w w' := has_any a b x w
/-- How many spans of a list hold a number. -/
def cnt (L : List (Int × Int)) (x : Int) : Nat := (L.filter fun p => hasB p.1 p.2 x).length
theorem cnt_le (L : List (Int × Int)) (x : Int) : cnt L x ≤ L.length := List.length_filter_le _ _
theorem cnt_step (L : List (Int × Int)) (x : Int) (k : Nat) (h : k < L.length) : cnt (L.take (k + 1)) x = cnt (L.take k) x + (if hasB (L.getD k (0, 0)).1 (L.getD k (0, 0)).2 x then 1 else 0) := by
  rw [List.take_succ_eq_append_getElem h]
  have : L.getD k (0, 0) = L[k] := by simp [List.getD, h]
  rw [this]
  unfold cnt
  rw [List.filter_append]
  cases c : hasB L[k].1 L[k].2 x <;> simp [List.filter_cons, c]
theorem meet_is (a0 a1 b0 b1 m0 m1 : Int) (ok : Bool) (w : World) (hO : meetB a0 a1 b0 b1 = ok) (hZ : meetZ a0 a1 b0 b1 = (m0, m1)) : Calls Try.prog 15 #[.agg #[.int .i64 a0, .int .i64 a1], .agg #[.int .i64 b0, .int .i64 b1]] w fun e w' => e = .returned (.tuple #[.agg #[.int .i64 m0, .int .i64 m1], .bool ok]) ∧ Below w.heap.size w w' := by
  have := meet_any a0 a1 b0 b1 w
  rwa [hO, hZ] at this
theorem hull_is (a0 a1 b0 b1 h0 h1 : Int) (w : World) (hN : hullN a0 a1 b0 b1 = 0) (hH : hullZ a0 a1 b0 b1 = (h0, h1)) : Calls Try.prog 26 #[.agg #[.int .i64 a0, .int .i64 a1], .agg #[.int .i64 b0, .int .i64 b1]] w fun e w' => e = .returned (.tuple #[.agg #[.int .i64 h0, .int .i64 h1], .int .i64 0]) ∧ Below w.heap.size w w' := by
  have := hull_anyN a0 a1 b0 b1 w
  rwa [hN, hH] at this
theorem minus_is (a0 a1 b0 b1 : Int) (L : List (Int × Int)) (w : World) (hL : minusL a0 a1 b0 b1 = L) : Calls Try.prog 16 #[.agg #[.int .i64 a0, .int .i64 a1], .agg #[.int .i64 b0, .int .i64 b1]] w (SomeSl L w) := by
  subst hL
  exact minus_any a0 a1 b0 b1 w
end Go.Proofs.Ytcgkcdcignkadaa.Iv
