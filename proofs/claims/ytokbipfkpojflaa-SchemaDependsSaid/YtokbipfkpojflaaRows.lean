/-
  No cell of these rows narrows 'for every input' (looked for: loops, veiled, ifaces, maps, wideKeys, modest, calm, conditions, laid).
  DERIVED. THE GIVEN ROWS OF THIS SEAT. 7 by the template 'for every input the law returns true; each argument reads behind the call as it read before'; 0 by the template 'total and deterministic' (their statements: YtokbipfkpojflaaTotals.lean).
  GIVEN WITH THE SEED: the statements are not yours to turn. If you find one false, say at which input.
  Laid BY PROGRAM, IN A SANDBOX (cutbox-rows.mjs): the forced cells as the released guide's own fill.sh prints them over the translation bd4f4be83acdcce8… (all of the seat's roots in one cut). By AI agents, Wed Nov 11 2026. No macro, syntax, notation, axiom, sorry.
-/
import Derived.Test.YtokbipfkpojflaaChecked
import GoSem.Claim
import GoSem.ClaimJoined
import GoSem.ClaimMapViews
import Derived.JoinedTies
import Derived.KernelRfl
namespace Go.Proofs.Ytokbipfkpojflaa
/- THE CELL 'sum', in the pinned program and in every row, IS THE sha256 OF THE DUMP (.gsa) THAT YtokbipfkpojflaaProg.lean LOADS. Nothing in Lean hashes anything: it is a label: what it is worth is what the hold of that sum in a sandbox is worth. -/
noncomputable def Try.pinned : Pinned := { name := "ytokbipfkpojflaa", sum := "bd4f4be83acdcce8480d296d0f3c0f5d57cc3f63fa0af5b33ff5aca929119ec2", checked := Try.checked }
namespace Rows
def none {H : Type} : Left H := { results := [], args := [] }

/-- 'civiltimelaw34.SchemaFaults': WHATEVER THE INPUT: true; the input reads as it did. -/
def schemaFaultsSpec : ChangeSpec := { name := "schemaFaults", fn := fun _ => fun
  | [d] => { results := [.lit (.bool true)], args := [d] }
  | _ => none }
def schemaFaultsRow : OpenClaim := { program := "ytokbipfkpojflaa", sum := "bd4f4be83acdcce8480d296d0f3c0f5d57cc3f63fa0af5b33ff5aca929119ec2", func := "civiltime/civiltimelaw34.SchemaFaults", spec := "schemaFaults", inPlace := ["internal/bytealg.IndexByteString", "internal/abi.NoEscape", "internal/bytealg.MakeNoZero"], unfollowed := true, recurses := true, apart := false }
def SchemaFaultsSaid : Prop := schemaFaultsRow.holds Try.pinned (OpenSpec.ofChange schemaFaultsSpec)

/-- ITS FALSE NEIGHBOUR: 'it returns false'. Refute it at one input. -/
def schemaFaultsWrong : ChangeSpec := { name := "schemaFaults", fn := fun _ => fun
  | [d] => { results := [.lit (.bool false)], args := [d] }
  | _ => none }
def SchemaFaultsWrongFalsely : Prop := schemaFaultsRow.holds Try.pinned (OpenSpec.ofChange schemaFaultsWrong)

/-- 'civiltimelaw34.SchemaTexts': WHATEVER THE INPUT: true; the input reads as it did. -/
def schemaTextsSpec : ChangeSpec := { name := "schemaTexts", fn := fun _ => fun
  | [d] => { results := [.lit (.bool true)], args := [d] }
  | _ => none }
def schemaTextsRow : OpenClaim := { program := "ytokbipfkpojflaa", sum := "bd4f4be83acdcce8480d296d0f3c0f5d57cc3f63fa0af5b33ff5aca929119ec2", func := "civiltime/civiltimelaw34.SchemaTexts", spec := "schemaTexts", inPlace := ["internal/bytealg.IndexByteString", "internal/abi.NoEscape", "internal/bytealg.MakeNoZero"], unfollowed := true, recurses := true, apart := false }
def SchemaTextsSaid : Prop := schemaTextsRow.holds Try.pinned (OpenSpec.ofChange schemaTextsSpec)

/-- ITS FALSE NEIGHBOUR: 'it returns false'. Refute it at one input. -/
def schemaTextsWrong : ChangeSpec := { name := "schemaTexts", fn := fun _ => fun
  | [d] => { results := [.lit (.bool false)], args := [d] }
  | _ => none }
def SchemaTextsWrongFalsely : Prop := schemaTextsRow.holds Try.pinned (OpenSpec.ofChange schemaTextsWrong)

/-- 'civiltimelaw34.SchemaOrders': WHATEVER THE INPUT: true; the input reads as it did. -/
def schemaOrdersSpec : ChangeSpec := { name := "schemaOrders", fn := fun _ => fun
  | [d] => { results := [.lit (.bool true)], args := [d] }
  | _ => none }
def schemaOrdersRow : OpenClaim := { program := "ytokbipfkpojflaa", sum := "bd4f4be83acdcce8480d296d0f3c0f5d57cc3f63fa0af5b33ff5aca929119ec2", func := "civiltime/civiltimelaw34.SchemaOrders", spec := "schemaOrders", inPlace := ["internal/bytealg.IndexByteString", "internal/abi.NoEscape", "internal/bytealg.MakeNoZero"], unfollowed := true, recurses := true, apart := false }
def SchemaOrdersSaid : Prop := schemaOrdersRow.holds Try.pinned (OpenSpec.ofChange schemaOrdersSpec)

/-- ITS FALSE NEIGHBOUR: 'it returns false'. Refute it at one input. -/
def schemaOrdersWrong : ChangeSpec := { name := "schemaOrders", fn := fun _ => fun
  | [d] => { results := [.lit (.bool false)], args := [d] }
  | _ => none }
def SchemaOrdersWrongFalsely : Prop := schemaOrdersRow.holds Try.pinned (OpenSpec.ofChange schemaOrdersWrong)

/-- 'civiltimelaw34.SchemaParses': WHATEVER THE INPUT: true; the input reads as it did. -/
def schemaParsesSpec : ChangeSpec := { name := "schemaParses", fn := fun _ => fun
  | [d] => { results := [.lit (.bool true)], args := [d] }
  | _ => none }
def schemaParsesRow : OpenClaim := { program := "ytokbipfkpojflaa", sum := "bd4f4be83acdcce8480d296d0f3c0f5d57cc3f63fa0af5b33ff5aca929119ec2", func := "civiltime/civiltimelaw34.SchemaParses", spec := "schemaParses", inPlace := ["internal/bytealg.IndexByteString", "internal/abi.NoEscape", "internal/bytealg.MakeNoZero"], unfollowed := true, recurses := true, apart := false }
def SchemaParsesSaid : Prop := schemaParsesRow.holds Try.pinned (OpenSpec.ofChange schemaParsesSpec)

/-- ITS FALSE NEIGHBOUR: 'it returns false'. Refute it at one input. -/
def schemaParsesWrong : ChangeSpec := { name := "schemaParses", fn := fun _ => fun
  | [d] => { results := [.lit (.bool false)], args := [d] }
  | _ => none }
def SchemaParsesWrongFalsely : Prop := schemaParsesRow.holds Try.pinned (OpenSpec.ofChange schemaParsesWrong)

/-- 'civiltimelaw34.SchemaDepends': WHATEVER THE INPUT: true; the input reads as it did. -/
def schemaDependsSpec : ChangeSpec := { name := "schemaDepends", fn := fun _ => fun
  | [d] => { results := [.lit (.bool true)], args := [d] }
  | _ => none }
def schemaDependsRow : OpenClaim := { program := "ytokbipfkpojflaa", sum := "bd4f4be83acdcce8480d296d0f3c0f5d57cc3f63fa0af5b33ff5aca929119ec2", func := "civiltime/civiltimelaw34.SchemaDepends", spec := "schemaDepends", inPlace := ["internal/bytealg.IndexByteString", "internal/abi.NoEscape", "internal/bytealg.MakeNoZero"], unfollowed := true, recurses := true, apart := false }
def SchemaDependsSaid : Prop := schemaDependsRow.holds Try.pinned (OpenSpec.ofChange schemaDependsSpec)

/-- ITS FALSE NEIGHBOUR: 'it returns false'. Refute it at one input. -/
def schemaDependsWrong : ChangeSpec := { name := "schemaDepends", fn := fun _ => fun
  | [d] => { results := [.lit (.bool false)], args := [d] }
  | _ => none }
def SchemaDependsWrongFalsely : Prop := schemaDependsRow.holds Try.pinned (OpenSpec.ofChange schemaDependsWrong)

/-- 'civiltimelaw34.SchemaFinds': WHATEVER THE INPUT: true; the input reads as it did. -/
def schemaFindsSpec : ChangeSpec := { name := "schemaFinds", fn := fun _ => fun
  | [d1, d2] => { results := [.lit (.bool true)], args := [d1, d2] }
  | _ => none }
def schemaFindsRow : OpenClaim := { program := "ytokbipfkpojflaa", sum := "bd4f4be83acdcce8480d296d0f3c0f5d57cc3f63fa0af5b33ff5aca929119ec2", func := "civiltime/civiltimelaw34.SchemaFinds", spec := "schemaFinds", inPlace := ["internal/bytealg.IndexByteString", "internal/abi.NoEscape", "internal/bytealg.MakeNoZero"], unfollowed := true, recurses := true, apart := false }
def SchemaFindsSaid : Prop := schemaFindsRow.holds Try.pinned (OpenSpec.ofChange schemaFindsSpec)

/-- ITS FALSE NEIGHBOUR: 'it returns false'. Refute it at one input. -/
def schemaFindsWrong : ChangeSpec := { name := "schemaFinds", fn := fun _ => fun
  | [d1, d2] => { results := [.lit (.bool false)], args := [d1, d2] }
  | _ => none }
def SchemaFindsWrongFalsely : Prop := schemaFindsRow.holds Try.pinned (OpenSpec.ofChange schemaFindsWrong)

/-- 'civiltimelaw34.SchemaRows': WHATEVER THE INPUT: true; the input reads as it did. -/
def schemaRowsSpec : ChangeSpec := { name := "schemaRows", fn := fun _ => fun
  | [d1, d2] => { results := [.lit (.bool true)], args := [d1, d2] }
  | _ => none }
def schemaRowsRow : OpenClaim := { program := "ytokbipfkpojflaa", sum := "bd4f4be83acdcce8480d296d0f3c0f5d57cc3f63fa0af5b33ff5aca929119ec2", func := "civiltime/civiltimelaw34.SchemaRows", spec := "schemaRows", inPlace := ["internal/bytealg.IndexByteString", "internal/abi.NoEscape", "internal/bytealg.MakeNoZero"], unfollowed := true, recurses := true, apart := false }
def SchemaRowsSaid : Prop := schemaRowsRow.holds Try.pinned (OpenSpec.ofChange schemaRowsSpec)

/-- ITS FALSE NEIGHBOUR: 'it returns false'. Refute it at one input. -/
def schemaRowsWrong : ChangeSpec := { name := "schemaRows", fn := fun _ => fun
  | [d1, d2] => { results := [.lit (.bool false)], args := [d1, d2] }
  | _ => none }
def SchemaRowsWrongFalsely : Prop := schemaRowsRow.holds Try.pinned (OpenSpec.ofChange schemaRowsWrong)

/- THE SECOND FORM. 'bulk': how many values and letters a reading holds, each counted each time it is reached (what is shared counts as often as it is met; a slice's spare places count too). A statement '..UptoSaid' is the law's where the arguments, and the package variables that the reading takes, are together of bulk at most 1048576: NARROWER than '..Said'. Prove '..Said' where nothing that the law and all that it calls make is longer than what came in: it says more and counts as full. Else prove '..UptoSaid'. A law counts once. -/
mutual
def uptoBulk {H : Type} : DataW H → Nat
  | .lit (.string bytes) => bytes.length + 1
  | .lit _ => 1
  | .nil => 1
  | .ptr d => uptoBulk d + 1
  | .slice elems spare => uptoBulkAll elems + uptoBulkAll spare + 1
  | .agg parts => uptoBulkAll parts + 1
  | .iface _ d => uptoBulk d + 1
  | .map entries => uptoBulkEntries entries + 1
  | .held _ => 1
def uptoBulkAll {H : Type} : List (DataW H) → Nat
  | [] => 0
  | d :: r => uptoBulk d + uptoBulkAll r
def uptoBulkEntries {H : Type} : List (Lit × DataW H) → Nat
  | [] => 0
  | x :: r => uptoBulkEntry x + uptoBulkEntries r
def uptoBulkEntry {H : Type} : Lit × DataW H → Nat
  | (.string bytes, d) => bytes.length + uptoBulk d + 1
  | (_, d) => uptoBulk d + 1
 end
def uptoSmall : (H : Type) → List (DataW H) → Bool := fun _ ds => decide (uptoBulkAll ds ≤ 1048576)
def OpenSpec.upto (s : _root_.Go.ChangeSpec) : _root_.Go.OpenSpec := { _root_.Go.OpenSpec.ofChange s with cond := some uptoSmall }

/-- 'civiltimelaw34.SchemaFaults', WHERE WHAT IT READS IS OF BULK AT MOST 1048576: true; the input reads as it did. -/
def schemaFaultsUptoRow : OpenClaim := { program := "ytokbipfkpojflaa", sum := "bd4f4be83acdcce8480d296d0f3c0f5d57cc3f63fa0af5b33ff5aca929119ec2", func := "civiltime/civiltimelaw34.SchemaFaults", spec := "schemaFaults", inPlace := ["internal/bytealg.IndexByteString", "internal/abi.NoEscape", "internal/bytealg.MakeNoZero"], unfollowed := true, recurses := true, apart := false, narrowed := true }
def SchemaFaultsUptoSaid : Prop := schemaFaultsUptoRow.holds Try.pinned (OpenSpec.upto schemaFaultsSpec)

/-- 'civiltimelaw34.SchemaTexts', WHERE WHAT IT READS IS OF BULK AT MOST 1048576: true; the input reads as it did. -/
def schemaTextsUptoRow : OpenClaim := { program := "ytokbipfkpojflaa", sum := "bd4f4be83acdcce8480d296d0f3c0f5d57cc3f63fa0af5b33ff5aca929119ec2", func := "civiltime/civiltimelaw34.SchemaTexts", spec := "schemaTexts", inPlace := ["internal/bytealg.IndexByteString", "internal/abi.NoEscape", "internal/bytealg.MakeNoZero"], unfollowed := true, recurses := true, apart := false, narrowed := true }
def SchemaTextsUptoSaid : Prop := schemaTextsUptoRow.holds Try.pinned (OpenSpec.upto schemaTextsSpec)

/-- 'civiltimelaw34.SchemaOrders', WHERE WHAT IT READS IS OF BULK AT MOST 1048576: true; the input reads as it did. -/
def schemaOrdersUptoRow : OpenClaim := { program := "ytokbipfkpojflaa", sum := "bd4f4be83acdcce8480d296d0f3c0f5d57cc3f63fa0af5b33ff5aca929119ec2", func := "civiltime/civiltimelaw34.SchemaOrders", spec := "schemaOrders", inPlace := ["internal/bytealg.IndexByteString", "internal/abi.NoEscape", "internal/bytealg.MakeNoZero"], unfollowed := true, recurses := true, apart := false, narrowed := true }
def SchemaOrdersUptoSaid : Prop := schemaOrdersUptoRow.holds Try.pinned (OpenSpec.upto schemaOrdersSpec)

/-- 'civiltimelaw34.SchemaParses', WHERE WHAT IT READS IS OF BULK AT MOST 1048576: true; the input reads as it did. -/
def schemaParsesUptoRow : OpenClaim := { program := "ytokbipfkpojflaa", sum := "bd4f4be83acdcce8480d296d0f3c0f5d57cc3f63fa0af5b33ff5aca929119ec2", func := "civiltime/civiltimelaw34.SchemaParses", spec := "schemaParses", inPlace := ["internal/bytealg.IndexByteString", "internal/abi.NoEscape", "internal/bytealg.MakeNoZero"], unfollowed := true, recurses := true, apart := false, narrowed := true }
def SchemaParsesUptoSaid : Prop := schemaParsesUptoRow.holds Try.pinned (OpenSpec.upto schemaParsesSpec)

/-- 'civiltimelaw34.SchemaDepends', WHERE WHAT IT READS IS OF BULK AT MOST 1048576: true; the input reads as it did. -/
def schemaDependsUptoRow : OpenClaim := { program := "ytokbipfkpojflaa", sum := "bd4f4be83acdcce8480d296d0f3c0f5d57cc3f63fa0af5b33ff5aca929119ec2", func := "civiltime/civiltimelaw34.SchemaDepends", spec := "schemaDepends", inPlace := ["internal/bytealg.IndexByteString", "internal/abi.NoEscape", "internal/bytealg.MakeNoZero"], unfollowed := true, recurses := true, apart := false, narrowed := true }
def SchemaDependsUptoSaid : Prop := schemaDependsUptoRow.holds Try.pinned (OpenSpec.upto schemaDependsSpec)

/-- 'civiltimelaw34.SchemaFinds', WHERE WHAT IT READS IS OF BULK AT MOST 1048576: true; the input reads as it did. -/
def schemaFindsUptoRow : OpenClaim := { program := "ytokbipfkpojflaa", sum := "bd4f4be83acdcce8480d296d0f3c0f5d57cc3f63fa0af5b33ff5aca929119ec2", func := "civiltime/civiltimelaw34.SchemaFinds", spec := "schemaFinds", inPlace := ["internal/bytealg.IndexByteString", "internal/abi.NoEscape", "internal/bytealg.MakeNoZero"], unfollowed := true, recurses := true, apart := false, narrowed := true }
def SchemaFindsUptoSaid : Prop := schemaFindsUptoRow.holds Try.pinned (OpenSpec.upto schemaFindsSpec)

/-- 'civiltimelaw34.SchemaRows', WHERE WHAT IT READS IS OF BULK AT MOST 1048576: true; the input reads as it did. -/
def schemaRowsUptoRow : OpenClaim := { program := "ytokbipfkpojflaa", sum := "bd4f4be83acdcce8480d296d0f3c0f5d57cc3f63fa0af5b33ff5aca929119ec2", func := "civiltime/civiltimelaw34.SchemaRows", spec := "schemaRows", inPlace := ["internal/bytealg.IndexByteString", "internal/abi.NoEscape", "internal/bytealg.MakeNoZero"], unfollowed := true, recurses := true, apart := false, narrowed := true }
def SchemaRowsUptoSaid : Prop := schemaRowsUptoRow.holds Try.pinned (OpenSpec.upto schemaRowsSpec)

end Rows
end Go.Proofs.Ytokbipfkpojflaa
