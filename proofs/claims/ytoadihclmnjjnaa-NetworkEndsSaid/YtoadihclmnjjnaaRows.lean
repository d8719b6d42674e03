/-
  No cell of these rows narrows 'for every input' (looked for: loops, veiled, ifaces, maps, wideKeys, modest, calm, conditions, laid).
  DERIVED. THE GIVEN ROWS OF THIS SEAT. 9 by the template 'for every input the law returns true; each argument reads behind the call as it read before'; 0 by the template 'total and deterministic' (their statements: YtoadihclmnjjnaaTotals.lean).
  GIVEN WITH THE SEED: the statements are not yours to turn. If you find one false, say at which input.
  Laid BY PROGRAM, IN A SANDBOX (cutbox-rows.mjs): the forced cells as the released guide's own fill.sh prints them over the translation b14da85667eae08a… (all of the seat's roots in one cut). By AI agents, Wed Nov 11 2026. No macro, syntax, notation, axiom, sorry.
-/
import Derived.Test.YtoadihclmnjjnaaChecked
import GoSem.Claim
import GoSem.ClaimJoined
import GoSem.ClaimMapViews
import Derived.JoinedTies
import Derived.KernelRfl
namespace Go.Proofs.Ytoadihclmnjjnaa
/- THE CELL 'sum', in the pinned program and in every row, IS THE sha256 OF THE DUMP (.gsa) THAT YtoadihclmnjjnaaProg.lean LOADS. Nothing in Lean hashes anything: it is a label: what it is worth is what the hold of that sum in a sandbox is worth. -/
noncomputable def Try.pinned : Pinned := { name := "ytoadihclmnjjnaa", sum := "b14da85667eae08a34a0b9ca9adae6c89ef6c626d502956bd14ba5c05de4b577", checked := Try.checked }
namespace Rows
def none {H : Type} : Left H := { results := [], args := [] }

/-- 'civiltimelaw46.NetworkMinimal': WHATEVER THE INPUT: true; the input reads as it did. -/
def networkMinimalSpec : ChangeSpec := { name := "networkMinimal", fn := fun _ => fun
  | [d1, d2] => { results := [.lit (.bool true)], args := [d1, d2] }
  | _ => none }
def networkMinimalRow : OpenClaim := { program := "ytoadihclmnjjnaa", sum := "b14da85667eae08a34a0b9ca9adae6c89ef6c626d502956bd14ba5c05de4b577", func := "civiltime/civiltimelaw46.NetworkMinimal", spec := "networkMinimal", unfollowed := true, recurses := true, plainKeys := false, apart := false }
def NetworkMinimalSaid : Prop := networkMinimalRow.holds Try.pinned (OpenSpec.ofChange networkMinimalSpec)

/-- ITS FALSE NEIGHBOUR: 'it returns false'. Refute it at one input. -/
def networkMinimalWrong : ChangeSpec := { name := "networkMinimal", fn := fun _ => fun
  | [d1, d2] => { results := [.lit (.bool false)], args := [d1, d2] }
  | _ => none }
def NetworkMinimalWrongFalsely : Prop := networkMinimalRow.holds Try.pinned (OpenSpec.ofChange networkMinimalWrong)

/-- 'civiltimelaw46.NetworkCloses': WHATEVER THE INPUT: true; the input reads as it did. -/
def networkClosesSpec : ChangeSpec := { name := "networkCloses", fn := fun _ => fun
  | [d1, d2] => { results := [.lit (.bool true)], args := [d1, d2] }
  | _ => none }
def networkClosesRow : OpenClaim := { program := "ytoadihclmnjjnaa", sum := "b14da85667eae08a34a0b9ca9adae6c89ef6c626d502956bd14ba5c05de4b577", func := "civiltime/civiltimelaw46.NetworkCloses", spec := "networkCloses", unfollowed := true, recurses := true, plainKeys := false, apart := false }
def NetworkClosesSaid : Prop := networkClosesRow.holds Try.pinned (OpenSpec.ofChange networkClosesSpec)

/-- ITS FALSE NEIGHBOUR: 'it returns false'. Refute it at one input. -/
def networkClosesWrong : ChangeSpec := { name := "networkCloses", fn := fun _ => fun
  | [d1, d2] => { results := [.lit (.bool false)], args := [d1, d2] }
  | _ => none }
def NetworkClosesWrongFalsely : Prop := networkClosesRow.holds Try.pinned (OpenSpec.ofChange networkClosesWrong)

/-- 'civiltimelaw46.NetworkImplies': WHATEVER THE INPUT: true; the input reads as it did. -/
def networkImpliesSpec : ChangeSpec := { name := "networkImplies", fn := fun _ => fun
  | [d1, d2, d3, d4, d5] => { results := [.lit (.bool true)], args := [d1, d2, d3, d4, d5] }
  | _ => none }
def networkImpliesRow : OpenClaim := { program := "ytoadihclmnjjnaa", sum := "b14da85667eae08a34a0b9ca9adae6c89ef6c626d502956bd14ba5c05de4b577", func := "civiltime/civiltimelaw46.NetworkImplies", spec := "networkImplies", unfollowed := true, recurses := true, plainKeys := false, apart := false }
def NetworkImpliesSaid : Prop := networkImpliesRow.holds Try.pinned (OpenSpec.ofChange networkImpliesSpec)

/-- ITS FALSE NEIGHBOUR: 'it returns false'. Refute it at one input. -/
def networkImpliesWrong : ChangeSpec := { name := "networkImplies", fn := fun _ => fun
  | [d1, d2, d3, d4, d5] => { results := [.lit (.bool false)], args := [d1, d2, d3, d4, d5] }
  | _ => none }
def NetworkImpliesWrongFalsely : Prop := networkImpliesRow.holds Try.pinned (OpenSpec.ofChange networkImpliesWrong)

/-- 'civiltimelaw46.NetworkBrute': WHATEVER THE INPUT: true; the input reads as it did. -/
def networkBruteSpec : ChangeSpec := { name := "networkBrute", fn := fun _ => fun
  | [d1, d2, d3, d4] => { results := [.lit (.bool true)], args := [d1, d2, d3, d4] }
  | _ => none }
def networkBruteRow : OpenClaim := { program := "ytoadihclmnjjnaa", sum := "b14da85667eae08a34a0b9ca9adae6c89ef6c626d502956bd14ba5c05de4b577", func := "civiltime/civiltimelaw46.NetworkBrute", spec := "networkBrute", unfollowed := true, recurses := true, plainKeys := false, apart := false }
def NetworkBruteSaid : Prop := networkBruteRow.holds Try.pinned (OpenSpec.ofChange networkBruteSpec)

/-- ITS FALSE NEIGHBOUR: 'it returns false'. Refute it at one input. -/
def networkBruteWrong : ChangeSpec := { name := "networkBrute", fn := fun _ => fun
  | [d1, d2, d3, d4] => { results := [.lit (.bool false)], args := [d1, d2, d3, d4] }
  | _ => none }
def NetworkBruteWrongFalsely : Prop := networkBruteRow.holds Try.pinned (OpenSpec.ofChange networkBruteWrong)

/-- 'civiltimelaw46.NetworkHolds': WHATEVER THE INPUT: true; the input reads as it did. -/
def networkHoldsSpec : ChangeSpec := { name := "networkHolds", fn := fun _ => fun
  | [d1, d2, d3, d4] => { results := [.lit (.bool true)], args := [d1, d2, d3, d4] }
  | _ => none }
def networkHoldsRow : OpenClaim := { program := "ytoadihclmnjjnaa", sum := "b14da85667eae08a34a0b9ca9adae6c89ef6c626d502956bd14ba5c05de4b577", func := "civiltime/civiltimelaw46.NetworkHolds", spec := "networkHolds", unfollowed := true, recurses := true, plainKeys := false, apart := false }
def NetworkHoldsSaid : Prop := networkHoldsRow.holds Try.pinned (OpenSpec.ofChange networkHoldsSpec)

/-- ITS FALSE NEIGHBOUR: 'it returns false'. Refute it at one input. -/
def networkHoldsWrong : ChangeSpec := { name := "networkHolds", fn := fun _ => fun
  | [d1, d2, d3, d4] => { results := [.lit (.bool false)], args := [d1, d2, d3, d4] }
  | _ => none }
def NetworkHoldsWrongFalsely : Prop := networkHoldsRow.holds Try.pinned (OpenSpec.ofChange networkHoldsWrong)

/-- 'civiltimelaw46.NetworkDecides': WHATEVER THE INPUT: true; the input reads as it did. -/
def networkDecidesSpec : ChangeSpec := { name := "networkDecides", fn := fun _ => fun
  | [d1, d2] => { results := [.lit (.bool true)], args := [d1, d2] }
  | _ => none }
def networkDecidesRow : OpenClaim := { program := "ytoadihclmnjjnaa", sum := "b14da85667eae08a34a0b9ca9adae6c89ef6c626d502956bd14ba5c05de4b577", func := "civiltime/civiltimelaw46.NetworkDecides", spec := "networkDecides", unfollowed := true, recurses := true, plainKeys := false, apart := false }
def NetworkDecidesSaid : Prop := networkDecidesRow.holds Try.pinned (OpenSpec.ofChange networkDecidesSpec)

/-- ITS FALSE NEIGHBOUR: 'it returns false'. Refute it at one input. -/
def networkDecidesWrong : ChangeSpec := { name := "networkDecides", fn := fun _ => fun
  | [d1, d2] => { results := [.lit (.bool false)], args := [d1, d2] }
  | _ => none }
def NetworkDecidesWrongFalsely : Prop := networkDecidesRow.holds Try.pinned (OpenSpec.ofChange networkDecidesWrong)

/-- 'civiltimelaw46.NetworkWitness': WHATEVER THE INPUT: true; the input reads as it did. -/
def networkWitnessSpec : ChangeSpec := { name := "networkWitness", fn := fun _ => fun
  | [d1, d2] => { results := [.lit (.bool true)], args := [d1, d2] }
  | _ => none }
def networkWitnessRow : OpenClaim := { program := "ytoadihclmnjjnaa", sum := "b14da85667eae08a34a0b9ca9adae6c89ef6c626d502956bd14ba5c05de4b577", func := "civiltime/civiltimelaw46.NetworkWitness", spec := "networkWitness", unfollowed := true, recurses := true, plainKeys := false, apart := false }
def NetworkWitnessSaid : Prop := networkWitnessRow.holds Try.pinned (OpenSpec.ofChange networkWitnessSpec)

/-- ITS FALSE NEIGHBOUR: 'it returns false'. Refute it at one input. -/
def networkWitnessWrong : ChangeSpec := { name := "networkWitness", fn := fun _ => fun
  | [d1, d2] => { results := [.lit (.bool false)], args := [d1, d2] }
  | _ => none }
def NetworkWitnessWrongFalsely : Prop := networkWitnessRow.holds Try.pinned (OpenSpec.ofChange networkWitnessWrong)

/-- 'civiltimelaw46.NetworkPoints': WHATEVER THE INPUT: true; the input reads as it did. -/
def networkPointsSpec : ChangeSpec := { name := "networkPoints", fn := fun _ => fun
  | [d1, d2] => { results := [.lit (.bool true)], args := [d1, d2] }
  | _ => none }
def networkPointsRow : OpenClaim := { program := "ytoadihclmnjjnaa", sum := "b14da85667eae08a34a0b9ca9adae6c89ef6c626d502956bd14ba5c05de4b577", func := "civiltime/civiltimelaw46.NetworkPoints", spec := "networkPoints", unfollowed := true, recurses := true, plainKeys := false, apart := false }
def NetworkPointsSaid : Prop := networkPointsRow.holds Try.pinned (OpenSpec.ofChange networkPointsSpec)

/-- ITS FALSE NEIGHBOUR: 'it returns false'. Refute it at one input. -/
def networkPointsWrong : ChangeSpec := { name := "networkPoints", fn := fun _ => fun
  | [d1, d2] => { results := [.lit (.bool false)], args := [d1, d2] }
  | _ => none }
def NetworkPointsWrongFalsely : Prop := networkPointsRow.holds Try.pinned (OpenSpec.ofChange networkPointsWrong)

/-- 'civiltimelaw46.NetworkEnds': WHATEVER THE INPUT: true; the input reads as it did. -/
def networkEndsSpec : ChangeSpec := { name := "networkEnds", fn := fun _ => fun
  | [d1, d2] => { results := [.lit (.bool true)], args := [d1, d2] }
  | _ => none }
def networkEndsRow : OpenClaim := { program := "ytoadihclmnjjnaa", sum := "b14da85667eae08a34a0b9ca9adae6c89ef6c626d502956bd14ba5c05de4b577", func := "civiltime/civiltimelaw46.NetworkEnds", spec := "networkEnds", unfollowed := true, recurses := true, plainKeys := false, apart := false }
def NetworkEndsSaid : Prop := networkEndsRow.holds Try.pinned (OpenSpec.ofChange networkEndsSpec)

/-- ITS FALSE NEIGHBOUR: 'it returns false'. Refute it at one input. -/
def networkEndsWrong : ChangeSpec := { name := "networkEnds", fn := fun _ => fun
  | [d1, d2] => { results := [.lit (.bool false)], args := [d1, d2] }
  | _ => none }
def NetworkEndsWrongFalsely : Prop := networkEndsRow.holds Try.pinned (OpenSpec.ofChange networkEndsWrong)

/- THE SECOND FORM. 'bulk': how many values and letters a reading holds, each counted each time it is reached (what is shared counts as often as it is met; a slice's spare places count too). A statement '..UptoSaid' is the law's where the arguments, and the package variables that the reading takes, are together of bulk at most 1048576: NARROWER than '..Said'. Prove '..Said' where nothing that the law and all that it calls make is longer than what came in: it says more and counts as full. Else prove '..UptoSaid'. A law counts once. -/
mutual
def uptoBulk {H : Type} : DataW H → Nat
  | .lit (.string bytes) => bytes.length + 1
  | .lit _ => 1
  | .nil => 1
  | .ptr d => uptoBulk d + 1
  | .slice elems spare => uptoBulkAll elems + uptoBulkAll spare + 1
  | .agg parts => uptoBulkAll parts + 1
  | .iface _ d => uptoBulk d + 1
  | .map entries => uptoBulkEntries entries + 1
  | .held _ => 1
def uptoBulkAll {H : Type} : List (DataW H) → Nat
  | [] => 0
  | d :: r => uptoBulk d + uptoBulkAll r
def uptoBulkEntries {H : Type} : List (Lit × DataW H) → Nat
  | [] => 0
  | x :: r => uptoBulkEntry x + uptoBulkEntries r
def uptoBulkEntry {H : Type} : Lit × DataW H → Nat
  | (.string bytes, d) => bytes.length + uptoBulk d + 1
  | (_, d) => uptoBulk d + 1
 end
def uptoSmall : (H : Type) → List (DataW H) → Bool := fun _ ds => decide (uptoBulkAll ds ≤ 1048576)
def OpenSpec.upto (s : _root_.Go.ChangeSpec) : _root_.Go.OpenSpec := { _root_.Go.OpenSpec.ofChange s with cond := some uptoSmall }

/-- 'civiltimelaw46.NetworkMinimal', WHERE WHAT IT READS IS OF BULK AT MOST 1048576: true; the input reads as it did. -/
def networkMinimalUptoRow : OpenClaim := { program := "ytoadihclmnjjnaa", sum := "b14da85667eae08a34a0b9ca9adae6c89ef6c626d502956bd14ba5c05de4b577", func := "civiltime/civiltimelaw46.NetworkMinimal", spec := "networkMinimal", unfollowed := true, recurses := true, plainKeys := false, apart := false, narrowed := true }
def NetworkMinimalUptoSaid : Prop := networkMinimalUptoRow.holds Try.pinned (OpenSpec.upto networkMinimalSpec)

/-- 'civiltimelaw46.NetworkCloses', WHERE WHAT IT READS IS OF BULK AT MOST 1048576: true; the input reads as it did. -/
def networkClosesUptoRow : OpenClaim := { program := "ytoadihclmnjjnaa", sum := "b14da85667eae08a34a0b9ca9adae6c89ef6c626d502956bd14ba5c05de4b577", func := "civiltime/civiltimelaw46.NetworkCloses", spec := "networkCloses", unfollowed := true, recurses := true, plainKeys := false, apart := false, narrowed := true }
def NetworkClosesUptoSaid : Prop := networkClosesUptoRow.holds Try.pinned (OpenSpec.upto networkClosesSpec)

/-- 'civiltimelaw46.NetworkImplies', WHERE WHAT IT READS IS OF BULK AT MOST 1048576: true; the input reads as it did. -/
def networkImpliesUptoRow : OpenClaim := { program := "ytoadihclmnjjnaa", sum := "b14da85667eae08a34a0b9ca9adae6c89ef6c626d502956bd14ba5c05de4b577", func := "civiltime/civiltimelaw46.NetworkImplies", spec := "networkImplies", unfollowed := true, recurses := true, plainKeys := false, apart := false, narrowed := true }
def NetworkImpliesUptoSaid : Prop := networkImpliesUptoRow.holds Try.pinned (OpenSpec.upto networkImpliesSpec)

/-- 'civiltimelaw46.NetworkBrute', WHERE WHAT IT READS IS OF BULK AT MOST 1048576: true; the input reads as it did. -/
def networkBruteUptoRow : OpenClaim := { program := "ytoadihclmnjjnaa", sum := "b14da85667eae08a34a0b9ca9adae6c89ef6c626d502956bd14ba5c05de4b577", func := "civiltime/civiltimelaw46.NetworkBrute", spec := "networkBrute", unfollowed := true, recurses := true, plainKeys := false, apart := false, narrowed := true }
def NetworkBruteUptoSaid : Prop := networkBruteUptoRow.holds Try.pinned (OpenSpec.upto networkBruteSpec)

/-- 'civiltimelaw46.NetworkHolds', WHERE WHAT IT READS IS OF BULK AT MOST 1048576: true; the input reads as it did. -/
def networkHoldsUptoRow : OpenClaim := { program := "ytoadihclmnjjnaa", sum := "b14da85667eae08a34a0b9ca9adae6c89ef6c626d502956bd14ba5c05de4b577", func := "civiltime/civiltimelaw46.NetworkHolds", spec := "networkHolds", unfollowed := true, recurses := true, plainKeys := false, apart := false, narrowed := true }
def NetworkHoldsUptoSaid : Prop := networkHoldsUptoRow.holds Try.pinned (OpenSpec.upto networkHoldsSpec)

/-- 'civiltimelaw46.NetworkDecides', WHERE WHAT IT READS IS OF BULK AT MOST 1048576: true; the input reads as it did. -/
def networkDecidesUptoRow : OpenClaim := { program := "ytoadihclmnjjnaa", sum := "b14da85667eae08a34a0b9ca9adae6c89ef6c626d502956bd14ba5c05de4b577", func := "civiltime/civiltimelaw46.NetworkDecides", spec := "networkDecides", unfollowed := true, recurses := true, plainKeys := false, apart := false, narrowed := true }
def NetworkDecidesUptoSaid : Prop := networkDecidesUptoRow.holds Try.pinned (OpenSpec.upto networkDecidesSpec)

/-- 'civiltimelaw46.NetworkWitness', WHERE WHAT IT READS IS OF BULK AT MOST 1048576: true; the input reads as it did. -/
def networkWitnessUptoRow : OpenClaim := { program := "ytoadihclmnjjnaa", sum := "b14da85667eae08a34a0b9ca9adae6c89ef6c626d502956bd14ba5c05de4b577", func := "civiltime/civiltimelaw46.NetworkWitness", spec := "networkWitness", unfollowed := true, recurses := true, plainKeys := false, apart := false, narrowed := true }
def NetworkWitnessUptoSaid : Prop := networkWitnessUptoRow.holds Try.pinned (OpenSpec.upto networkWitnessSpec)

/-- 'civiltimelaw46.NetworkPoints', WHERE WHAT IT READS IS OF BULK AT MOST 1048576: true; the input reads as it did. -/
def networkPointsUptoRow : OpenClaim := { program := "ytoadihclmnjjnaa", sum := "b14da85667eae08a34a0b9ca9adae6c89ef6c626d502956bd14ba5c05de4b577", func := "civiltime/civiltimelaw46.NetworkPoints", spec := "networkPoints", unfollowed := true, recurses := true, plainKeys := false, apart := false, narrowed := true }
def NetworkPointsUptoSaid : Prop := networkPointsUptoRow.holds Try.pinned (OpenSpec.upto networkPointsSpec)

/-- 'civiltimelaw46.NetworkEnds', WHERE WHAT IT READS IS OF BULK AT MOST 1048576: true; the input reads as it did. -/
def networkEndsUptoRow : OpenClaim := { program := "ytoadihclmnjjnaa", sum := "b14da85667eae08a34a0b9ca9adae6c89ef6c626d502956bd14ba5c05de4b577", func := "civiltime/civiltimelaw46.NetworkEnds", spec := "networkEnds", unfollowed := true, recurses := true, plainKeys := false, apart := false, narrowed := true }
def NetworkEndsUptoSaid : Prop := networkEndsUptoRow.holds Try.pinned (OpenSpec.upto networkEndsSpec)

end Rows
end Go.Proofs.Ytoadihclmnjjnaa
