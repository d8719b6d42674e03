/-
  More forms of contracts of layer 10.
-/
import Derived.Test.YtcgkcdcignkadaaIvW
import Derived.Test.YtcgkcdcignkadaaIvO
set_option linter.unusedSimpArgs false
set_option linter.unusedVariables false
namespace Go.Proofs.Ytcgkcdcignkadaa.Iv
open Go.RowKit Go.ChangeShapes Go.WideShapes Go.Proofs.Ytcgkcdcignkadaa.Sl

def hullN (a0 a1 b0 b1 : Int) : Int := if bothB a0 a1 b0 b1 then 0 else 1
def lenZ (a b : Int) : Int := if validB a b then b - a else 0
theorem hull_anyN (a0 a1 b0 b1 : Int) (w : World) : Calls Try.prog 26 #[.agg #[.int .i64 a0, .int .i64 a1], .agg #[.int .i64 b0, .int .i64 b1]] w fun e w' => e = .returned (.tuple #[spanV (hullZ a0 a1 b0 b1), .int .i64 (hullN a0 a1 b0 b1)]) ∧ Below w.heap.size w w' := hull_any a0 a1 b0 b1 w
theorem rhull_anyN (a0 a1 b0 b1 : Int) (w : World) : Calls Try.prog 27 #[.agg #[.int .i64 a0, .int .i64 a1], .agg #[.int .i64 b0, .int .i64 b1]] w fun e w' => e = .returned (.tuple #[spanV (hullZ a0 a1 b0 b1), .int .i64 (hullN a0 a1 b0 b1)]) ∧ Below w.heap.size w w' := rhull_any a0 a1 b0 b1 w
theorem length_anyN (a b : Int) (w : World) : Calls Try.prog 31 #[.agg #[.int .i64 a, .int .i64 b]] w fun e w' => e = .returned (.int .i64 (lenZ a b)) ∧ Below w.heap.size w w' := length_any a b w
end Go.Proofs.Ytcgkcdcignkadaa.Iv
