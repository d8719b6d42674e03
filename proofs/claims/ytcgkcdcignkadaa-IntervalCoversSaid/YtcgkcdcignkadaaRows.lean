/-
  No cell of these rows narrows 'for every input' (looked for: loops, veiled, ifaces, maps, wideKeys, modest, calm, conditions, laid).
  DERIVED. THE GIVEN ROWS OF THIS SEAT. 8 by the template 'for every input the law returns true; each argument reads behind the call as it read before'; 0 by the template 'total and deterministic' (their statements: YtcgkcdcignkadaaTotals.lean).
  GIVEN WITH THE SEED: the statements are not yours to turn. If you find one false, say at which input.
  Laid BY PROGRAM, IN A SANDBOX (cutbox-rows.mjs): the forced cells as the released guide's own fill.sh prints them over the translation f512d91d25944261… (all of the seat's roots in one cut). By AI agents, Wed Nov 11 2026. No macro, syntax, notation, axiom, sorry.
-/
import Derived.Test.YtcgkcdcignkadaaChecked
import GoSem.Claim
import GoSem.ClaimJoined
import GoSem.ClaimMapViews
import Derived.JoinedTies
import Derived.KernelRfl
namespace Go.Proofs.Ytcgkcdcignkadaa
/- THE CELL 'sum', in the pinned program and in every row, IS THE sha256 OF THE DUMP (.gsa) THAT YtcgkcdcignkadaaProg.lean LOADS. Nothing in Lean hashes anything: it is a label: what it is worth is what the hold of that sum in a sandbox is worth. -/
noncomputable def Try.pinned : Pinned := { name := "ytcgkcdcignkadaa", sum := "f512d91d259442619f0311b52d9302c4ab5fcfd58312877a12c72e6d4e5efb87", checked := Try.checked }
namespace Rows
def none {H : Type} : Left H := { results := [], args := [] }

/-- 'civiltimelaw10.IntervalInverse': WHATEVER THE INPUT: true; the input reads as it did. -/
def intervalInverseSpec : ChangeSpec := { name := "intervalInverse", fn := fun _ => fun
  | [d1, d2] => { results := [.lit (.bool true)], args := [d1, d2] }
  | _ => none }
def intervalInverseRow : OpenClaim := { program := "ytcgkcdcignkadaa", sum := "f512d91d259442619f0311b52d9302c4ab5fcfd58312877a12c72e6d4e5efb87", func := "civiltime/civiltimelaw10.IntervalInverse", spec := "intervalInverse", apart := false }
def IntervalInverseSaid : Prop := intervalInverseRow.holds Try.pinned (OpenSpec.ofChange intervalInverseSpec)

/-- ITS FALSE NEIGHBOUR: 'it returns false'. Refute it at one input. -/
def intervalInverseWrong : ChangeSpec := { name := "intervalInverse", fn := fun _ => fun
  | [d1, d2] => { results := [.lit (.bool false)], args := [d1, d2] }
  | _ => none }
def IntervalInverseWrongFalsely : Prop := intervalInverseRow.holds Try.pinned (OpenSpec.ofChange intervalInverseWrong)

/-- 'civiltimelaw10.IntervalDisjoint': WHATEVER THE INPUT: true; the input reads as it did. -/
def intervalDisjointSpec : ChangeSpec := { name := "intervalDisjoint", fn := fun _ => fun
  | [d1, d2] => { results := [.lit (.bool true)], args := [d1, d2] }
  | _ => none }
def intervalDisjointRow : OpenClaim := { program := "ytcgkcdcignkadaa", sum := "f512d91d259442619f0311b52d9302c4ab5fcfd58312877a12c72e6d4e5efb87", func := "civiltime/civiltimelaw10.IntervalDisjoint", spec := "intervalDisjoint", apart := false }
def IntervalDisjointSaid : Prop := intervalDisjointRow.holds Try.pinned (OpenSpec.ofChange intervalDisjointSpec)

/-- ITS FALSE NEIGHBOUR: 'it returns false'. Refute it at one input. -/
def intervalDisjointWrong : ChangeSpec := { name := "intervalDisjoint", fn := fun _ => fun
  | [d1, d2] => { results := [.lit (.bool false)], args := [d1, d2] }
  | _ => none }
def IntervalDisjointWrongFalsely : Prop := intervalDisjointRow.holds Try.pinned (OpenSpec.ofChange intervalDisjointWrong)

/-- 'civiltimelaw10.IntervalNames': WHATEVER THE INPUT: true; the input reads as it did. -/
def intervalNamesSpec : ChangeSpec := { name := "intervalNames", fn := fun _ => fun
  | [d1, d2] => { results := [.lit (.bool true)], args := [d1, d2] }
  | _ => none }
def intervalNamesRow : OpenClaim := { program := "ytcgkcdcignkadaa", sum := "f512d91d259442619f0311b52d9302c4ab5fcfd58312877a12c72e6d4e5efb87", func := "civiltime/civiltimelaw10.IntervalNames", spec := "intervalNames", apart := false }
def IntervalNamesSaid : Prop := intervalNamesRow.holds Try.pinned (OpenSpec.ofChange intervalNamesSpec)

/-- ITS FALSE NEIGHBOUR: 'it returns false'. Refute it at one input. -/
def intervalNamesWrong : ChangeSpec := { name := "intervalNames", fn := fun _ => fun
  | [d1, d2] => { results := [.lit (.bool false)], args := [d1, d2] }
  | _ => none }
def IntervalNamesWrongFalsely : Prop := intervalNamesRow.holds Try.pinned (OpenSpec.ofChange intervalNamesWrong)

/-- 'civiltimelaw10.IntervalRelations': WHATEVER THE INPUT: true; the input reads as it did. -/
def intervalRelationsSpec : ChangeSpec := { name := "intervalRelations", fn := fun _ => fun
  | [d1, d2, d3] => { results := [.lit (.bool true)], args := [d1, d2, d3] }
  | _ => none }
def intervalRelationsRow : OpenClaim := { program := "ytcgkcdcignkadaa", sum := "f512d91d259442619f0311b52d9302c4ab5fcfd58312877a12c72e6d4e5efb87", func := "civiltime/civiltimelaw10.IntervalRelations", spec := "intervalRelations", apart := false }
def IntervalRelationsSaid : Prop := intervalRelationsRow.holds Try.pinned (OpenSpec.ofChange intervalRelationsSpec)

/-- ITS FALSE NEIGHBOUR: 'it returns false'. Refute it at one input. -/
def intervalRelationsWrong : ChangeSpec := { name := "intervalRelations", fn := fun _ => fun
  | [d1, d2, d3] => { results := [.lit (.bool false)], args := [d1, d2, d3] }
  | _ => none }
def IntervalRelationsWrongFalsely : Prop := intervalRelationsRow.holds Try.pinned (OpenSpec.ofChange intervalRelationsWrong)

/-- 'civiltimelaw10.IntervalParts': WHATEVER THE INPUT: true; the input reads as it did. -/
def intervalPartsSpec : ChangeSpec := { name := "intervalParts", fn := fun _ => fun
  | [d1, d2] => { results := [.lit (.bool true)], args := [d1, d2] }
  | _ => none }
def intervalPartsRow : OpenClaim := { program := "ytcgkcdcignkadaa", sum := "f512d91d259442619f0311b52d9302c4ab5fcfd58312877a12c72e6d4e5efb87", func := "civiltime/civiltimelaw10.IntervalParts", spec := "intervalParts", apart := false }
def IntervalPartsSaid : Prop := intervalPartsRow.holds Try.pinned (OpenSpec.ofChange intervalPartsSpec)

/-- ITS FALSE NEIGHBOUR: 'it returns false'. Refute it at one input. -/
def intervalPartsWrong : ChangeSpec := { name := "intervalParts", fn := fun _ => fun
  | [d1, d2] => { results := [.lit (.bool false)], args := [d1, d2] }
  | _ => none }
def IntervalPartsWrongFalsely : Prop := intervalPartsRow.holds Try.pinned (OpenSpec.ofChange intervalPartsWrong)

/-- 'civiltimelaw10.IntervalMoves': WHATEVER THE INPUT: true; the input reads as it did. -/
def intervalMovesSpec : ChangeSpec := { name := "intervalMoves", fn := fun _ => fun
  | [d1, d2, d3] => { results := [.lit (.bool true)], args := [d1, d2, d3] }
  | _ => none }
def intervalMovesRow : OpenClaim := { program := "ytcgkcdcignkadaa", sum := "f512d91d259442619f0311b52d9302c4ab5fcfd58312877a12c72e6d4e5efb87", func := "civiltime/civiltimelaw10.IntervalMoves", spec := "intervalMoves", apart := false }
def IntervalMovesSaid : Prop := intervalMovesRow.holds Try.pinned (OpenSpec.ofChange intervalMovesSpec)

/-- ITS FALSE NEIGHBOUR: 'it returns false'. Refute it at one input. -/
def intervalMovesWrong : ChangeSpec := { name := "intervalMoves", fn := fun _ => fun
  | [d1, d2, d3] => { results := [.lit (.bool false)], args := [d1, d2, d3] }
  | _ => none }
def IntervalMovesWrongFalsely : Prop := intervalMovesRow.holds Try.pinned (OpenSpec.ofChange intervalMovesWrong)

/-- 'civiltimelaw10.IntervalPoints': WHATEVER THE INPUT: true; the input reads as it did. -/
def intervalPointsSpec : ChangeSpec := { name := "intervalPoints", fn := fun _ => fun
  | [d1, d2, d3] => { results := [.lit (.bool true)], args := [d1, d2, d3] }
  | _ => none }
def intervalPointsRow : OpenClaim := { program := "ytcgkcdcignkadaa", sum := "f512d91d259442619f0311b52d9302c4ab5fcfd58312877a12c72e6d4e5efb87", func := "civiltime/civiltimelaw10.IntervalPoints", spec := "intervalPoints", apart := false }
def IntervalPointsSaid : Prop := intervalPointsRow.holds Try.pinned (OpenSpec.ofChange intervalPointsSpec)

/-- ITS FALSE NEIGHBOUR: 'it returns false'. Refute it at one input. -/
def intervalPointsWrong : ChangeSpec := { name := "intervalPoints", fn := fun _ => fun
  | [d1, d2, d3] => { results := [.lit (.bool false)], args := [d1, d2, d3] }
  | _ => none }
def IntervalPointsWrongFalsely : Prop := intervalPointsRow.holds Try.pinned (OpenSpec.ofChange intervalPointsWrong)

/-- 'civiltimelaw10.IntervalCovers': WHATEVER THE INPUT: true; the input reads as it did. -/
def intervalCoversSpec : ChangeSpec := { name := "intervalCovers", fn := fun _ => fun
  | [d1, d2, d3] => { results := [.lit (.bool true)], args := [d1, d2, d3] }
  | _ => none }
def intervalCoversRow : OpenClaim := { program := "ytcgkcdcignkadaa", sum := "f512d91d259442619f0311b52d9302c4ab5fcfd58312877a12c72e6d4e5efb87", func := "civiltime/civiltimelaw10.IntervalCovers", spec := "intervalCovers", apart := false }
def IntervalCoversSaid : Prop := intervalCoversRow.holds Try.pinned (OpenSpec.ofChange intervalCoversSpec)

/-- ITS FALSE NEIGHBOUR: 'it returns false'. Refute it at one input. -/
def intervalCoversWrong : ChangeSpec := { name := "intervalCovers", fn := fun _ => fun
  | [d1, d2, d3] => { results := [.lit (.bool false)], args := [d1, d2, d3] }
  | _ => none }
def IntervalCoversWrongFalsely : Prop := intervalCoversRow.holds Try.pinned (OpenSpec.ofChange intervalCoversWrong)

/- THE SECOND FORM. 'bulk': how many values and letters a reading holds, each counted each time it is reached (what is shared counts as often as it is met; a slice's spare places count too). A statement '..UptoSaid' is the law's where the arguments, and the package variables that the reading takes, are together of bulk at most 1048576: NARROWER than '..Said'. Prove '..Said' where nothing that the law and all that it calls make is longer than what came in: it says more and counts as full. Else prove '..UptoSaid'. A law counts once. -/
mutual
def uptoBulk {H : Type} : DataW H → Nat
  | .lit (.string bytes) => bytes.length + 1
  | .lit _ => 1
  | .nil => 1
  | .ptr d => uptoBulk d + 1
  | .slice elems spare => uptoBulkAll elems + uptoBulkAll spare + 1
  | .agg parts => uptoBulkAll parts + 1
  | .iface _ d => uptoBulk d + 1
  | .map entries => uptoBulkEntries entries + 1
  | .held _ => 1
def uptoBulkAll {H : Type} : List (DataW H) → Nat
  | [] => 0
  | d :: r => uptoBulk d + uptoBulkAll r
def uptoBulkEntries {H : Type} : List (Lit × DataW H) → Nat
  | [] => 0
  | x :: r => uptoBulkEntry x + uptoBulkEntries r
def uptoBulkEntry {H : Type} : Lit × DataW H → Nat
  | (.string bytes, d) => bytes.length + uptoBulk d + 1
  | (_, d) => uptoBulk d + 1
 end
def uptoSmall : (H : Type) → List (DataW H) → Bool := fun _ ds => decide (uptoBulkAll ds ≤ 1048576)
def OpenSpec.upto (s : _root_.Go.ChangeSpec) : _root_.Go.OpenSpec := { _root_.Go.OpenSpec.ofChange s with cond := some uptoSmall }

/-- 'civiltimelaw10.IntervalInverse', WHERE WHAT IT READS IS OF BULK AT MOST 1048576: true; the input reads as it did. -/
def intervalInverseUptoRow : OpenClaim := { program := "ytcgkcdcignkadaa", sum := "f512d91d259442619f0311b52d9302c4ab5fcfd58312877a12c72e6d4e5efb87", func := "civiltime/civiltimelaw10.IntervalInverse", spec := "intervalInverse", apart := false, narrowed := true }
def IntervalInverseUptoSaid : Prop := intervalInverseUptoRow.holds Try.pinned (OpenSpec.upto intervalInverseSpec)

/-- 'civiltimelaw10.IntervalDisjoint', WHERE WHAT IT READS IS OF BULK AT MOST 1048576: true; the input reads as it did. -/
def intervalDisjointUptoRow : OpenClaim := { program := "ytcgkcdcignkadaa", sum := "f512d91d259442619f0311b52d9302c4ab5fcfd58312877a12c72e6d4e5efb87", func := "civiltime/civiltimelaw10.IntervalDisjoint", spec := "intervalDisjoint", apart := false, narrowed := true }
def IntervalDisjointUptoSaid : Prop := intervalDisjointUptoRow.holds Try.pinned (OpenSpec.upto intervalDisjointSpec)

/-- 'civiltimelaw10.IntervalNames', WHERE WHAT IT READS IS OF BULK AT MOST 1048576: true; the input reads as it did. -/
def intervalNamesUptoRow : OpenClaim := { program := "ytcgkcdcignkadaa", sum := "f512d91d259442619f0311b52d9302c4ab5fcfd58312877a12c72e6d4e5efb87", func := "civiltime/civiltimelaw10.IntervalNames", spec := "intervalNames", apart := false, narrowed := true }
def IntervalNamesUptoSaid : Prop := intervalNamesUptoRow.holds Try.pinned (OpenSpec.upto intervalNamesSpec)

/-- 'civiltimelaw10.IntervalRelations', WHERE WHAT IT READS IS OF BULK AT MOST 1048576: true; the input reads as it did. -/
def intervalRelationsUptoRow : OpenClaim := { program := "ytcgkcdcignkadaa", sum := "f512d91d259442619f0311b52d9302c4ab5fcfd58312877a12c72e6d4e5efb87", func := "civiltime/civiltimelaw10.IntervalRelations", spec := "intervalRelations", apart := false, narrowed := true }
def IntervalRelationsUptoSaid : Prop := intervalRelationsUptoRow.holds Try.pinned (OpenSpec.upto intervalRelationsSpec)

/-- 'civiltimelaw10.IntervalParts', WHERE WHAT IT READS IS OF BULK AT MOST 1048576: true; the input reads as it did. -/
def intervalPartsUptoRow : OpenClaim := { program := "ytcgkcdcignkadaa", sum := "f512d91d259442619f0311b52d9302c4ab5fcfd58312877a12c72e6d4e5efb87", func := "civiltime/civiltimelaw10.IntervalParts", spec := "intervalParts", apart := false, narrowed := true }
def IntervalPartsUptoSaid : Prop := intervalPartsUptoRow.holds Try.pinned (OpenSpec.upto intervalPartsSpec)

/-- 'civiltimelaw10.IntervalMoves', WHERE WHAT IT READS IS OF BULK AT MOST 1048576: true; the input reads as it did. -/
def intervalMovesUptoRow : OpenClaim := { program := "ytcgkcdcignkadaa", sum := "f512d91d259442619f0311b52d9302c4ab5fcfd58312877a12c72e6d4e5efb87", func := "civiltime/civiltimelaw10.IntervalMoves", spec := "intervalMoves", apart := false, narrowed := true }
def IntervalMovesUptoSaid : Prop := intervalMovesUptoRow.holds Try.pinned (OpenSpec.upto intervalMovesSpec)

/-- 'civiltimelaw10.IntervalPoints', WHERE WHAT IT READS IS OF BULK AT MOST 1048576: true; the input reads as it did. -/
def intervalPointsUptoRow : OpenClaim := { program := "ytcgkcdcignkadaa", sum := "f512d91d259442619f0311b52d9302c4ab5fcfd58312877a12c72e6d4e5efb87", func := "civiltime/civiltimelaw10.IntervalPoints", spec := "intervalPoints", apart := false, narrowed := true }
def IntervalPointsUptoSaid : Prop := intervalPointsUptoRow.holds Try.pinned (OpenSpec.upto intervalPointsSpec)

/-- 'civiltimelaw10.IntervalCovers', WHERE WHAT IT READS IS OF BULK AT MOST 1048576: true; the input reads as it did. -/
def intervalCoversUptoRow : OpenClaim := { program := "ytcgkcdcignkadaa", sum := "f512d91d259442619f0311b52d9302c4ab5fcfd58312877a12c72e6d4e5efb87", func := "civiltime/civiltimelaw10.IntervalCovers", spec := "intervalCovers", apart := false, narrowed := true }
def IntervalCoversUptoSaid : Prop := intervalCoversUptoRow.holds Try.pinned (OpenSpec.upto intervalCoversSpec)

end Rows
end Go.Proofs.Ytcgkcdcignkadaa
