/-
  No cell of these rows narrows 'for every input' (looked for: loops, veiled, ifaces, maps, wideKeys, modest, calm, conditions, laid).
  DERIVED. THE GIVEN ROWS OF THIS SEAT. 8 by the template 'for every input the law returns true; each argument reads behind the call as it read before'; 0 by the template 'total and deterministic' (their statements: YtmkgddgdeffllaaTotals.lean).
  GIVEN WITH THE SEED: the statements are not yours to turn. If you find one false, say at which input.
  Laid BY PROGRAM, IN A SANDBOX (cutbox-rows.mjs): the forced cells as the released guide's own fill.sh prints them over the translation 00e732ba263d13e9… (all of the seat's roots in one cut). By AI agents, Wed Nov 11 2026. No macro, syntax, notation, axiom, sorry.
-/
import Derived.Test.YtmkgddgdeffllaaChecked
import GoSem.Claim
import GoSem.ClaimJoined
import GoSem.ClaimMapViews
import Derived.JoinedTies
import Derived.KernelRfl
namespace Go.Proofs.Ytmkgddgdeffllaa
/- THE CELL 'sum', in the pinned program and in every row, IS THE sha256 OF THE DUMP (.gsa) THAT YtmkgddgdeffllaaProg.lean LOADS. Nothing in Lean hashes anything: it is a label: what it is worth is what the hold of that sum in a sandbox is worth. -/
noncomputable def Try.pinned : Pinned := { name := "ytmkgddgdeffllaa", sum := "00e732ba263d13e949d8ecf5d2a8d69d786af88fb3969094c21dc754cc43486c", checked := Try.checked }
namespace Rows
def none {H : Type} : Left H := { results := [], args := [] }

/-- 'civiltimelaw11.AllenTight': WHATEVER THE INPUT: true; the input reads as it did. -/
def allenTightSpec : ChangeSpec := { name := "allenTight", fn := fun _ => fun
  | [d1, d2] => { results := [.lit (.bool true)], args := [d1, d2] }
  | _ => none }
def allenTightRow : OpenClaim := { program := "ytmkgddgdeffllaa", sum := "00e732ba263d13e949d8ecf5d2a8d69d786af88fb3969094c21dc754cc43486c", func := "civiltime/civiltimelaw11.AllenTight", spec := "allenTight", unfollowed := true, recurses := true, apart := false }
def AllenTightSaid : Prop := allenTightRow.holds Try.pinned (OpenSpec.ofChange allenTightSpec)

/-- ITS FALSE NEIGHBOUR: 'it returns false'. Refute it at one input. -/
def allenTightWrong : ChangeSpec := { name := "allenTight", fn := fun _ => fun
  | [d1, d2] => { results := [.lit (.bool false)], args := [d1, d2] }
  | _ => none }
def AllenTightWrongFalsely : Prop := allenTightRow.holds Try.pinned (OpenSpec.ofChange allenTightWrong)

/-- 'civiltimelaw11.AllenBasics': WHATEVER THE INPUT: true; the input reads as it did. -/
def allenBasicsSpec : ChangeSpec := { name := "allenBasics", fn := fun _ => fun
  | [d1, d2, d3, d4, d5] => { results := [.lit (.bool true)], args := [d1, d2, d3, d4, d5] }
  | _ => none }
def allenBasicsRow : OpenClaim := { program := "ytmkgddgdeffllaa", sum := "00e732ba263d13e949d8ecf5d2a8d69d786af88fb3969094c21dc754cc43486c", func := "civiltime/civiltimelaw11.AllenBasics", spec := "allenBasics", unfollowed := true, recurses := true, apart := false }
def AllenBasicsSaid : Prop := allenBasicsRow.holds Try.pinned (OpenSpec.ofChange allenBasicsSpec)

/-- ITS FALSE NEIGHBOUR: 'it returns false'. Refute it at one input. -/
def allenBasicsWrong : ChangeSpec := { name := "allenBasics", fn := fun _ => fun
  | [d1, d2, d3, d4, d5] => { results := [.lit (.bool false)], args := [d1, d2, d3, d4, d5] }
  | _ => none }
def AllenBasicsWrongFalsely : Prop := allenBasicsRow.holds Try.pinned (OpenSpec.ofChange allenBasicsWrong)

/-- 'civiltimelaw11.AllenSound': WHATEVER THE INPUT: true; the input reads as it did. -/
def allenSoundSpec : ChangeSpec := { name := "allenSound", fn := fun _ => fun
  | [d1, d2, d3] => { results := [.lit (.bool true)], args := [d1, d2, d3] }
  | _ => none }
def allenSoundRow : OpenClaim := { program := "ytmkgddgdeffllaa", sum := "00e732ba263d13e949d8ecf5d2a8d69d786af88fb3969094c21dc754cc43486c", func := "civiltime/civiltimelaw11.AllenSound", spec := "allenSound", unfollowed := true, recurses := true, apart := false }
def AllenSoundSaid : Prop := allenSoundRow.holds Try.pinned (OpenSpec.ofChange allenSoundSpec)

/-- ITS FALSE NEIGHBOUR: 'it returns false'. Refute it at one input. -/
def allenSoundWrong : ChangeSpec := { name := "allenSound", fn := fun _ => fun
  | [d1, d2, d3] => { results := [.lit (.bool false)], args := [d1, d2, d3] }
  | _ => none }
def AllenSoundWrongFalsely : Prop := allenSoundRow.holds Try.pinned (OpenSpec.ofChange allenSoundWrong)

/-- 'civiltimelaw11.AllenConvex': WHATEVER THE INPUT: true; the input reads as it did. -/
def allenConvexSpec : ChangeSpec := { name := "allenConvex", fn := fun _ => fun
  | [d1, d2] => { results := [.lit (.bool true)], args := [d1, d2] }
  | _ => none }
def allenConvexRow : OpenClaim := { program := "ytmkgddgdeffllaa", sum := "00e732ba263d13e949d8ecf5d2a8d69d786af88fb3969094c21dc754cc43486c", func := "civiltime/civiltimelaw11.AllenConvex", spec := "allenConvex", unfollowed := true, recurses := true, apart := false }
def AllenConvexSaid : Prop := allenConvexRow.holds Try.pinned (OpenSpec.ofChange allenConvexSpec)

/-- ITS FALSE NEIGHBOUR: 'it returns false'. Refute it at one input. -/
def allenConvexWrong : ChangeSpec := { name := "allenConvex", fn := fun _ => fun
  | [d1, d2] => { results := [.lit (.bool false)], args := [d1, d2] }
  | _ => none }
def AllenConvexWrongFalsely : Prop := allenConvexRow.holds Try.pinned (OpenSpec.ofChange allenConvexWrong)

/-- 'civiltimelaw11.AllenAlgebra': WHATEVER THE INPUT: true; the input reads as it did. -/
def allenAlgebraSpec : ChangeSpec := { name := "allenAlgebra", fn := fun _ => fun
  | [d1, d2, d3] => { results := [.lit (.bool true)], args := [d1, d2, d3] }
  | _ => none }
def allenAlgebraRow : OpenClaim := { program := "ytmkgddgdeffllaa", sum := "00e732ba263d13e949d8ecf5d2a8d69d786af88fb3969094c21dc754cc43486c", func := "civiltime/civiltimelaw11.AllenAlgebra", spec := "allenAlgebra", unfollowed := true, recurses := true, apart := false }
def AllenAlgebraSaid : Prop := allenAlgebraRow.holds Try.pinned (OpenSpec.ofChange allenAlgebraSpec)

/-- ITS FALSE NEIGHBOUR: 'it returns false'. Refute it at one input. -/
def allenAlgebraWrong : ChangeSpec := { name := "allenAlgebra", fn := fun _ => fun
  | [d1, d2, d3] => { results := [.lit (.bool false)], args := [d1, d2, d3] }
  | _ => none }
def AllenAlgebraWrongFalsely : Prop := allenAlgebraRow.holds Try.pinned (OpenSpec.ofChange allenAlgebraWrong)

/-- 'civiltimelaw11.AllenParts': WHATEVER THE INPUT: true; the input reads as it did. -/
def allenPartsSpec : ChangeSpec := { name := "allenParts", fn := fun _ => fun
  | [d1, d2, d3, d4] => { results := [.lit (.bool true)], args := [d1, d2, d3, d4] }
  | _ => none }
def allenPartsRow : OpenClaim := { program := "ytmkgddgdeffllaa", sum := "00e732ba263d13e949d8ecf5d2a8d69d786af88fb3969094c21dc754cc43486c", func := "civiltime/civiltimelaw11.AllenParts", spec := "allenParts", unfollowed := true, recurses := true, apart := false }
def AllenPartsSaid : Prop := allenPartsRow.holds Try.pinned (OpenSpec.ofChange allenPartsSpec)

/-- ITS FALSE NEIGHBOUR: 'it returns false'. Refute it at one input. -/
def allenPartsWrong : ChangeSpec := { name := "allenParts", fn := fun _ => fun
  | [d1, d2, d3, d4] => { results := [.lit (.bool false)], args := [d1, d2, d3, d4] }
  | _ => none }
def AllenPartsWrongFalsely : Prop := allenPartsRow.holds Try.pinned (OpenSpec.ofChange allenPartsWrong)

/-- 'civiltimelaw11.AllenPossible': WHATEVER THE INPUT: true; the input reads as it did. -/
def allenPossibleSpec : ChangeSpec := { name := "allenPossible", fn := fun _ => fun
  | [d1, d2, d3, d4] => { results := [.lit (.bool true)], args := [d1, d2, d3, d4] }
  | _ => none }
def allenPossibleRow : OpenClaim := { program := "ytmkgddgdeffllaa", sum := "00e732ba263d13e949d8ecf5d2a8d69d786af88fb3969094c21dc754cc43486c", func := "civiltime/civiltimelaw11.AllenPossible", spec := "allenPossible", unfollowed := true, recurses := true, apart := false }
def AllenPossibleSaid : Prop := allenPossibleRow.holds Try.pinned (OpenSpec.ofChange allenPossibleSpec)

/-- ITS FALSE NEIGHBOUR: 'it returns false'. Refute it at one input. -/
def allenPossibleWrong : ChangeSpec := { name := "allenPossible", fn := fun _ => fun
  | [d1, d2, d3, d4] => { results := [.lit (.bool false)], args := [d1, d2, d3, d4] }
  | _ => none }
def AllenPossibleWrongFalsely : Prop := allenPossibleRow.holds Try.pinned (OpenSpec.ofChange allenPossibleWrong)

/-- 'civiltimelaw11.AllenComposes': WHATEVER THE INPUT: true; the input reads as it did. -/
def allenComposesSpec : ChangeSpec := { name := "allenComposes", fn := fun _ => fun
  | [d1, d2] => { results := [.lit (.bool true)], args := [d1, d2] }
  | _ => none }
def allenComposesRow : OpenClaim := { program := "ytmkgddgdeffllaa", sum := "00e732ba263d13e949d8ecf5d2a8d69d786af88fb3969094c21dc754cc43486c", func := "civiltime/civiltimelaw11.AllenComposes", spec := "allenComposes", unfollowed := true, recurses := true, apart := false }
def AllenComposesSaid : Prop := allenComposesRow.holds Try.pinned (OpenSpec.ofChange allenComposesSpec)

/-- ITS FALSE NEIGHBOUR: 'it returns false'. Refute it at one input. -/
def allenComposesWrong : ChangeSpec := { name := "allenComposes", fn := fun _ => fun
  | [d1, d2] => { results := [.lit (.bool false)], args := [d1, d2] }
  | _ => none }
def AllenComposesWrongFalsely : Prop := allenComposesRow.holds Try.pinned (OpenSpec.ofChange allenComposesWrong)

/- THE SECOND FORM. 'bulk': how many values and letters a reading holds, each counted each time it is reached (what is shared counts as often as it is met; a slice's spare places count too). A statement '..UptoSaid' is the law's where the arguments, and the package variables that the reading takes, are together of bulk at most 1048576: NARROWER than '..Said'. Prove '..Said' where nothing that the law and all that it calls make is longer than what came in: it says more and counts as full. Else prove '..UptoSaid'. A law counts once. -/
mutual
def uptoBulk {H : Type} : DataW H → Nat
  | .lit (.string bytes) => bytes.length + 1
  | .lit _ => 1
  | .nil => 1
  | .ptr d => uptoBulk d + 1
  | .slice elems spare => uptoBulkAll elems + uptoBulkAll spare + 1
  | .agg parts => uptoBulkAll parts + 1
  | .iface _ d => uptoBulk d + 1
  | .map entries => uptoBulkEntries entries + 1
  | .held _ => 1
def uptoBulkAll {H : Type} : List (DataW H) → Nat
  | [] => 0
  | d :: r => uptoBulk d + uptoBulkAll r
def uptoBulkEntries {H : Type} : List (Lit × DataW H) → Nat
  | [] => 0
  | x :: r => uptoBulkEntry x + uptoBulkEntries r
def uptoBulkEntry {H : Type} : Lit × DataW H → Nat
  | (.string bytes, d) => bytes.length + uptoBulk d + 1
  | (_, d) => uptoBulk d + 1
 end
def uptoSmall : (H : Type) → List (DataW H) → Bool := fun _ ds => decide (uptoBulkAll ds ≤ 1048576)
def OpenSpec.upto (s : _root_.Go.ChangeSpec) : _root_.Go.OpenSpec := { _root_.Go.OpenSpec.ofChange s with cond := some uptoSmall }

/-- 'civiltimelaw11.AllenTight', WHERE WHAT IT READS IS OF BULK AT MOST 1048576: true; the input reads as it did. -/
def allenTightUptoRow : OpenClaim := { program := "ytmkgddgdeffllaa", sum := "00e732ba263d13e949d8ecf5d2a8d69d786af88fb3969094c21dc754cc43486c", func := "civiltime/civiltimelaw11.AllenTight", spec := "allenTight", unfollowed := true, recurses := true, apart := false, narrowed := true }
def AllenTightUptoSaid : Prop := allenTightUptoRow.holds Try.pinned (OpenSpec.upto allenTightSpec)

/-- 'civiltimelaw11.AllenBasics', WHERE WHAT IT READS IS OF BULK AT MOST 1048576: true; the input reads as it did. -/
def allenBasicsUptoRow : OpenClaim := { program := "ytmkgddgdeffllaa", sum := "00e732ba263d13e949d8ecf5d2a8d69d786af88fb3969094c21dc754cc43486c", func := "civiltime/civiltimelaw11.AllenBasics", spec := "allenBasics", unfollowed := true, recurses := true, apart := false, narrowed := true }
def AllenBasicsUptoSaid : Prop := allenBasicsUptoRow.holds Try.pinned (OpenSpec.upto allenBasicsSpec)

/-- 'civiltimelaw11.AllenSound', WHERE WHAT IT READS IS OF BULK AT MOST 1048576: true; the input reads as it did. -/
def allenSoundUptoRow : OpenClaim := { program := "ytmkgddgdeffllaa", sum := "00e732ba263d13e949d8ecf5d2a8d69d786af88fb3969094c21dc754cc43486c", func := "civiltime/civiltimelaw11.AllenSound", spec := "allenSound", unfollowed := true, recurses := true, apart := false, narrowed := true }
def AllenSoundUptoSaid : Prop := allenSoundUptoRow.holds Try.pinned (OpenSpec.upto allenSoundSpec)

/-- 'civiltimelaw11.AllenConvex', WHERE WHAT IT READS IS OF BULK AT MOST 1048576: true; the input reads as it did. -/
def allenConvexUptoRow : OpenClaim := { program := "ytmkgddgdeffllaa", sum := "00e732ba263d13e949d8ecf5d2a8d69d786af88fb3969094c21dc754cc43486c", func := "civiltime/civiltimelaw11.AllenConvex", spec := "allenConvex", unfollowed := true, recurses := true, apart := false, narrowed := true }
def AllenConvexUptoSaid : Prop := allenConvexUptoRow.holds Try.pinned (OpenSpec.upto allenConvexSpec)

/-- 'civiltimelaw11.AllenAlgebra', WHERE WHAT IT READS IS OF BULK AT MOST 1048576: true; the input reads as it did. -/
def allenAlgebraUptoRow : OpenClaim := { program := "ytmkgddgdeffllaa", sum := "00e732ba263d13e949d8ecf5d2a8d69d786af88fb3969094c21dc754cc43486c", func := "civiltime/civiltimelaw11.AllenAlgebra", spec := "allenAlgebra", unfollowed := true, recurses := true, apart := false, narrowed := true }
def AllenAlgebraUptoSaid : Prop := allenAlgebraUptoRow.holds Try.pinned (OpenSpec.upto allenAlgebraSpec)

/-- 'civiltimelaw11.AllenParts', WHERE WHAT IT READS IS OF BULK AT MOST 1048576: true; the input reads as it did. -/
def allenPartsUptoRow : OpenClaim := { program := "ytmkgddgdeffllaa", sum := "00e732ba263d13e949d8ecf5d2a8d69d786af88fb3969094c21dc754cc43486c", func := "civiltime/civiltimelaw11.AllenParts", spec := "allenParts", unfollowed := true, recurses := true, apart := false, narrowed := true }
def AllenPartsUptoSaid : Prop := allenPartsUptoRow.holds Try.pinned (OpenSpec.upto allenPartsSpec)

/-- 'civiltimelaw11.AllenPossible', WHERE WHAT IT READS IS OF BULK AT MOST 1048576: true; the input reads as it did. -/
def allenPossibleUptoRow : OpenClaim := { program := "ytmkgddgdeffllaa", sum := "00e732ba263d13e949d8ecf5d2a8d69d786af88fb3969094c21dc754cc43486c", func := "civiltime/civiltimelaw11.AllenPossible", spec := "allenPossible", unfollowed := true, recurses := true, apart := false, narrowed := true }
def AllenPossibleUptoSaid : Prop := allenPossibleUptoRow.holds Try.pinned (OpenSpec.upto allenPossibleSpec)

/-- 'civiltimelaw11.AllenComposes', WHERE WHAT IT READS IS OF BULK AT MOST 1048576: true; the input reads as it did. -/
def allenComposesUptoRow : OpenClaim := { program := "ytmkgddgdeffllaa", sum := "00e732ba263d13e949d8ecf5d2a8d69d786af88fb3969094c21dc754cc43486c", func := "civiltime/civiltimelaw11.AllenComposes", spec := "allenComposes", unfollowed := true, recurses := true, apart := false, narrowed := true }
def AllenComposesUptoSaid : Prop := allenComposesUptoRow.holds Try.pinned (OpenSpec.upto allenComposesSpec)

end Rows
end Go.Proofs.Ytmkgddgdeffllaa
