/-
  The walk of ValueLogic, at the opened arguments.
-/
import Derived.Test.YtgfppajbegcaeaaDoorVlH
set_option linter.unusedSimpArgs false
set_option linter.unusedVariables false
namespace Go.Proofs.YtgfppajbegcaeaaDoor.Va
open Go.RowKit Go.ChangeShapes Go.WideShapes Go.Proofs.YtgfppajbegcaeaaDoor.Sl

theorem valueLogic_walk (csa : List Value) (a : CN) (csb : List Value) (b : CN) (vn : Value) (ns : List ByteArray) (vl : Value) (vs : List V3) (m : Int) (w : World) (hm : w.cell? ⟨0, 0, none⟩ = some (.int .i64 m)) (hca : CnAt w csa a) (hza : szC a) (hcb : CnAt w csb b) (hzb : szC b) (h1 : Ss w vn ns) (l1 : ns.length ≤ 9223372036854775807)
    (h2 : Vs w vl vs) (l2 : vs.length ≤ 9223372036854775807) (hg : ∀ u ∈ vs, GoodV u) :
    Calls Tryd.prog 6 #[.agg csa.toArray, .agg csb.toArray, vn, vl] w fun e w' => e = .returned (.bool true) ∧ Below w.heap.size w w' := by
  obtain ⟨k, col, oth, v0, v1, v2, ad, n, cap, rfl⟩ := hca.shape
  obtain ⟨k2, col2, oth2, u0, u1, u2, ad2, n2, cap2, rfl⟩ := hcb.shape
  obtain ⟨a1, c1, rfl⟩ := h1.form
  obtain ⟨a2, c2, rfl⟩ := h2.form
  exact vg_go a b k col oth v0 v1 v2 _ k2 col2 oth2 u0 u1 u2 _ ns vs a1 a2 _ _ c1 c2 m w hm hca hcb rfl rfl h1 h2
end Go.Proofs.YtgfppajbegcaeaaDoor.Va
