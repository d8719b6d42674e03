/-
  NARROWER THAN 'FOR EVERY INPUT', by the rows' own cells (each row's printed sentence says how): ValueEncodes: laid · ValueTotal: laid · ValueConds: loops, laid · ValueLogic: loops, laid · ValueCompares: laid · ValueBytes: laid · ValueOrders: laid.
  DERIVED. THE GIVEN ROWS OF THIS SEAT. 7 by the template 'for every input the law returns true; each argument reads behind the call as it read before'; 0 by the template 'total and deterministic' (their statements: YtgfppajbegcaeaaDoorTotals.lean).
  GIVEN WITH THE SEED: the statements are not yours to turn. If you find one false, say at which input.
  Laid BY PROGRAM, IN A SANDBOX (cutbox-rows.mjs): the forced cells as the released guide's own fill.sh prints them over the translation 6b5aa74025608461… (all of the seat's roots in one cut). By AI agents, Wed Nov 11 2026. No macro, syntax, notation, axiom, sorry.
-/
import Derived.Test.YtgfppajbegcaeaaDoorChecked
import GoSem.PinnedTables
import GoSem.Claim
import GoSem.ClaimJoined
import GoSem.ClaimMapViews
import Derived.JoinedTies
import Derived.KernelRfl
namespace Go.Proofs.YtgfppajbegcaeaaDoor
/- THE CELL 'sum', in the pinned program and in every row, IS THE sha256 OF THE DUMP (.gsa) THAT YtgfppajbegcaeaaDoorProg.lean LOADS. Nothing in Lean hashes anything: it is a label: what it is worth is what the hold of that sum in a sandbox is worth. -/
noncomputable def Tryd.pinned : Pinned := { name := "ytgfppajbegcaeaadoor", sum := "6b5aa74025608461b4d48e76d7267fae56c6f688d376a1355d8fcbd48e0d4168", checked := Tryd.checked }
namespace Rows
def none {H : Type} : Left H := { results := [], args := [] }

/- WHAT THE LISTED PACKAGE-LEVEL VARIABLES READ AS WHEN THE CALL BEGINS. Each datum BY PROGRAM (the guide's laid-datum.mjs) off the statement by which the dump's own 'gosem.cut.vars' lays the variable. In a bare row this is a premise. The card (YtgfppajbegcaeaaDoorCards.lean) ties it to the program's text. -/
def laid_unicode_utf8_acceptRanges {H : Type} : DataW H := .agg [.agg [.lit (.int .u8 128), .lit (.int .u8 191)], .agg [.lit (.int .u8 160), .lit (.int .u8 191)], .agg [.lit (.int .u8 128), .lit (.int .u8 159)], .agg [.lit (.int .u8 144), .lit (.int .u8 191)], .agg [.lit (.int .u8 128), .lit (.int .u8 143)], .agg [.lit (.int .u8 0), .lit (.int .u8 0)], .agg [.lit (.int .u8 0), .lit (.int .u8 0)], .agg [.lit (.int .u8 0), .lit (.int .u8 0)], .agg [.lit (.int .u8 0), .lit (.int .u8 0)], .agg [.lit (.int .u8 0), .lit (.int .u8 0)], .agg [.lit (.int .u8 0), .lit (.int .u8 0)], .agg [.lit (.int .u8 0), .lit (.int .u8 0)], .agg [.lit (.int .u8 0), .lit (.int .u8 0)], .agg [.lit (.int .u8 0), .lit (.int .u8 0)], .agg [.lit (.int .u8 0), .lit (.int .u8 0)], .agg [.lit (.int .u8 0), .lit (.int .u8 0)]]
/-- One of Go's own tables, pinned by name: the form's constant. -/
def laid_unicode_utf8_first : DataW Unit := Go.Pinned.utf8First

/-- 'civiltimelaw33.ValueEncodes': WHATEVER THE INPUT: true; the input reads as it did. -/
def valueEncodesSpec : ChangeSpec := { name := "valueEncodes", fn := fun _ => fun
  | [d1, d2] => { results := [.lit (.bool true)], args := [d1, d2] }
  | _ => none }
def valueEncodesRow : OpenClaim := { program := "ytgfppajbegcaeaadoor", sum := "6b5aa74025608461b4d48e76d7267fae56c6f688d376a1355d8fcbd48e0d4168", func := "civiltime/civiltimelaw33.ValueEncodes", spec := "valueEncodes", inPlace := ["internal/bytealg.CountString", "internal/bytealg.IndexByteString", "internal/bytealg.IndexString", "internal/abi.NoEscape", "internal/bytealg.MakeNoZero"], unfollowed := true, recurses := true, named := ["internal/bytealg.MaxLen", "unicode/utf8.first", "unicode/utf8.acceptRanges"], apart := false, laid := [("unicode/utf8.acceptRanges", laid_unicode_utf8_acceptRanges), ("unicode/utf8.first", laid_unicode_utf8_first)] }
def ValueEncodesSaid : Prop := valueEncodesRow.holds Tryd.pinned (OpenSpec.ofChange valueEncodesSpec)

/-- ITS FALSE NEIGHBOUR: 'it returns false'. Refute it at one input. -/
def valueEncodesWrong : ChangeSpec := { name := "valueEncodes", fn := fun _ => fun
  | [d1, d2] => { results := [.lit (.bool false)], args := [d1, d2] }
  | _ => none }
def ValueEncodesWrongFalsely : Prop := valueEncodesRow.holds Tryd.pinned (OpenSpec.ofChange valueEncodesWrong)

/-- 'civiltimelaw33.ValueTotal': WHATEVER THE INPUT: true; the input reads as it did. -/
def valueTotalSpec : ChangeSpec := { name := "valueTotal", fn := fun _ => fun
  | [d1, d2, d3] => { results := [.lit (.bool true)], args := [d1, d2, d3] }
  | _ => none }
def valueTotalRow : OpenClaim := { program := "ytgfppajbegcaeaadoor", sum := "6b5aa74025608461b4d48e76d7267fae56c6f688d376a1355d8fcbd48e0d4168", func := "civiltime/civiltimelaw33.ValueTotal", spec := "valueTotal", inPlace := ["internal/bytealg.CountString", "internal/bytealg.IndexByteString", "internal/bytealg.IndexString", "internal/abi.NoEscape", "internal/bytealg.MakeNoZero"], unfollowed := true, recurses := true, named := ["internal/bytealg.MaxLen", "unicode/utf8.first", "unicode/utf8.acceptRanges"], apart := false, laid := [("unicode/utf8.acceptRanges", laid_unicode_utf8_acceptRanges), ("unicode/utf8.first", laid_unicode_utf8_first)] }
def ValueTotalSaid : Prop := valueTotalRow.holds Tryd.pinned (OpenSpec.ofChange valueTotalSpec)

/-- ITS FALSE NEIGHBOUR: 'it returns false'. Refute it at one input. -/
def valueTotalWrong : ChangeSpec := { name := "valueTotal", fn := fun _ => fun
  | [d1, d2, d3] => { results := [.lit (.bool false)], args := [d1, d2, d3] }
  | _ => none }
def ValueTotalWrongFalsely : Prop := valueTotalRow.holds Tryd.pinned (OpenSpec.ofChange valueTotalWrong)

/-- 'civiltimelaw33.ValueConds': WHATEVER THE INPUT: true; the input reads as it did. -/
def valueCondsSpec : ChangeSpec := { name := "valueConds", fn := fun _ => fun
  | [d1, d2, d3, d4] => { results := [.lit (.bool true)], args := [d1, d2, d3, d4] }
  | _ => none }
def valueCondsRow : OpenClaim := { program := "ytgfppajbegcaeaadoor", sum := "6b5aa74025608461b4d48e76d7267fae56c6f688d376a1355d8fcbd48e0d4168", func := "civiltime/civiltimelaw33.ValueConds", spec := "valueConds", inPlace := ["internal/bytealg.CountString", "internal/bytealg.IndexByteString", "internal/bytealg.IndexString", "internal/abi.NoEscape", "internal/bytealg.MakeNoZero"], unfollowed := true, recurses := true, named := ["internal/bytealg.MaxLen", "unicode/utf8.first", "unicode/utf8.acceptRanges"], loops := true, apart := false, laid := [("unicode/utf8.acceptRanges", laid_unicode_utf8_acceptRanges), ("unicode/utf8.first", laid_unicode_utf8_first)] }
def ValueCondsSaid : Prop := valueCondsRow.holds Tryd.pinned (OpenSpec.ofChange valueCondsSpec)

/-- ITS FALSE NEIGHBOUR: 'it returns false'. Refute it at one input. -/
def valueCondsWrong : ChangeSpec := { name := "valueConds", fn := fun _ => fun
  | [d1, d2, d3, d4] => { results := [.lit (.bool false)], args := [d1, d2, d3, d4] }
  | _ => none }
def ValueCondsWrongFalsely : Prop := valueCondsRow.holds Tryd.pinned (OpenSpec.ofChange valueCondsWrong)

/-- 'civiltimelaw33.ValueLogic': WHATEVER THE INPUT: true; the input reads as it did. -/
def valueLogicSpec : ChangeSpec := { name := "valueLogic", fn := fun _ => fun
  | [d1, d2, d3, d4] => { results := [.lit (.bool true)], args := [d1, d2, d3, d4] }
  | _ => none }
def valueLogicRow : OpenClaim := { program := "ytgfppajbegcaeaadoor", sum := "6b5aa74025608461b4d48e76d7267fae56c6f688d376a1355d8fcbd48e0d4168", func := "civiltime/civiltimelaw33.ValueLogic", spec := "valueLogic", inPlace := ["internal/bytealg.CountString", "internal/bytealg.IndexByteString", "internal/bytealg.IndexString", "internal/abi.NoEscape", "internal/bytealg.MakeNoZero"], unfollowed := true, recurses := true, named := ["internal/bytealg.MaxLen", "unicode/utf8.first", "unicode/utf8.acceptRanges"], loops := true, apart := false, laid := [("unicode/utf8.acceptRanges", laid_unicode_utf8_acceptRanges), ("unicode/utf8.first", laid_unicode_utf8_first)] }
def ValueLogicSaid : Prop := valueLogicRow.holds Tryd.pinned (OpenSpec.ofChange valueLogicSpec)

/-- ITS FALSE NEIGHBOUR: 'it returns false'. Refute it at one input. -/
def valueLogicWrong : ChangeSpec := { name := "valueLogic", fn := fun _ => fun
  | [d1, d2, d3, d4] => { results := [.lit (.bool false)], args := [d1, d2, d3, d4] }
  | _ => none }
def ValueLogicWrongFalsely : Prop := valueLogicRow.holds Tryd.pinned (OpenSpec.ofChange valueLogicWrong)

/-- 'civiltimelaw33.ValueCompares': WHATEVER THE INPUT: true; the input reads as it did. -/
def valueComparesSpec : ChangeSpec := { name := "valueCompares", fn := fun _ => fun
  | [d1, d2] => { results := [.lit (.bool true)], args := [d1, d2] }
  | _ => none }
def valueComparesRow : OpenClaim := { program := "ytgfppajbegcaeaadoor", sum := "6b5aa74025608461b4d48e76d7267fae56c6f688d376a1355d8fcbd48e0d4168", func := "civiltime/civiltimelaw33.ValueCompares", spec := "valueCompares", inPlace := ["internal/bytealg.CountString", "internal/bytealg.IndexByteString", "internal/bytealg.IndexString", "internal/abi.NoEscape", "internal/bytealg.MakeNoZero"], unfollowed := true, recurses := true, named := ["internal/bytealg.MaxLen", "unicode/utf8.first", "unicode/utf8.acceptRanges"], apart := false, laid := [("unicode/utf8.acceptRanges", laid_unicode_utf8_acceptRanges), ("unicode/utf8.first", laid_unicode_utf8_first)] }
def ValueComparesSaid : Prop := valueComparesRow.holds Tryd.pinned (OpenSpec.ofChange valueComparesSpec)

/-- ITS FALSE NEIGHBOUR: 'it returns false'. Refute it at one input. -/
def valueComparesWrong : ChangeSpec := { name := "valueCompares", fn := fun _ => fun
  | [d1, d2] => { results := [.lit (.bool false)], args := [d1, d2] }
  | _ => none }
def ValueComparesWrongFalsely : Prop := valueComparesRow.holds Tryd.pinned (OpenSpec.ofChange valueComparesWrong)

/-- 'civiltimelaw33.ValueBytes': WHATEVER THE INPUT: true; the input reads as it did. -/
def valueBytesSpec : ChangeSpec := { name := "valueBytes", fn := fun _ => fun
  | [d1, d2] => { results := [.lit (.bool true)], args := [d1, d2] }
  | _ => none }
def valueBytesRow : OpenClaim := { program := "ytgfppajbegcaeaadoor", sum := "6b5aa74025608461b4d48e76d7267fae56c6f688d376a1355d8fcbd48e0d4168", func := "civiltime/civiltimelaw33.ValueBytes", spec := "valueBytes", inPlace := ["internal/bytealg.CountString", "internal/bytealg.IndexByteString", "internal/bytealg.IndexString", "internal/abi.NoEscape", "internal/bytealg.MakeNoZero", "internal/bytealg.Compare"], unfollowed := true, recurses := true, named := ["internal/bytealg.MaxLen", "unicode/utf8.first", "unicode/utf8.acceptRanges"], apart := false, laid := [("unicode/utf8.acceptRanges", laid_unicode_utf8_acceptRanges), ("unicode/utf8.first", laid_unicode_utf8_first)] }
def ValueBytesSaid : Prop := valueBytesRow.holds Tryd.pinned (OpenSpec.ofChange valueBytesSpec)

/-- ITS FALSE NEIGHBOUR: 'it returns false'. Refute it at one input. -/
def valueBytesWrong : ChangeSpec := { name := "valueBytes", fn := fun _ => fun
  | [d1, d2] => { results := [.lit (.bool false)], args := [d1, d2] }
  | _ => none }
def ValueBytesWrongFalsely : Prop := valueBytesRow.holds Tryd.pinned (OpenSpec.ofChange valueBytesWrong)

/-- 'civiltimelaw33.ValueOrders': WHATEVER THE INPUT: true; the input reads as it did. -/
def valueOrdersSpec : ChangeSpec := { name := "valueOrders", fn := fun _ => fun
  | [d1, d2] => { results := [.lit (.bool true)], args := [d1, d2] }
  | _ => none }
def valueOrdersRow : OpenClaim := { program := "ytgfppajbegcaeaadoor", sum := "6b5aa74025608461b4d48e76d7267fae56c6f688d376a1355d8fcbd48e0d4168", func := "civiltime/civiltimelaw33.ValueOrders", spec := "valueOrders", inPlace := ["internal/bytealg.CountString", "internal/bytealg.IndexByteString", "internal/bytealg.IndexString", "internal/abi.NoEscape", "internal/bytealg.MakeNoZero"], unfollowed := true, recurses := true, named := ["internal/bytealg.MaxLen", "unicode/utf8.first", "unicode/utf8.acceptRanges"], apart := false, laid := [("unicode/utf8.acceptRanges", laid_unicode_utf8_acceptRanges), ("unicode/utf8.first", laid_unicode_utf8_first)] }
def ValueOrdersSaid : Prop := valueOrdersRow.holds Tryd.pinned (OpenSpec.ofChange valueOrdersSpec)

/-- ITS FALSE NEIGHBOUR: 'it returns false'. Refute it at one input. -/
def valueOrdersWrong : ChangeSpec := { name := "valueOrders", fn := fun _ => fun
  | [d1, d2] => { results := [.lit (.bool false)], args := [d1, d2] }
  | _ => none }
def ValueOrdersWrongFalsely : Prop := valueOrdersRow.holds Tryd.pinned (OpenSpec.ofChange valueOrdersWrong)

/- THE SECOND FORM. 'bulk': how many values and letters a reading holds, each counted each time it is reached (what is shared counts as often as it is met; a slice's spare places count too). A statement '..UptoSaid' is the law's where the arguments, and the package variables that the reading takes, are together of bulk at most 1048576: NARROWER than '..Said'. Prove '..Said' where nothing that the law and all that it calls make is longer than what came in: it says more and counts as full. Else prove '..UptoSaid'. A law counts once. -/
mutual
def uptoBulk {H : Type} : DataW H → Nat
  | .lit (.string bytes) => bytes.length + 1
  | .lit _ => 1
  | .nil => 1
  | .ptr d => uptoBulk d + 1
  | .slice elems spare => uptoBulkAll elems + uptoBulkAll spare + 1
  | .agg parts => uptoBulkAll parts + 1
  | .iface _ d => uptoBulk d + 1
  | .map entries => uptoBulkEntries entries + 1
  | .held _ => 1
def uptoBulkAll {H : Type} : List (DataW H) → Nat
  | [] => 0
  | d :: r => uptoBulk d + uptoBulkAll r
def uptoBulkEntries {H : Type} : List (Lit × DataW H) → Nat
  | [] => 0
  | x :: r => uptoBulkEntry x + uptoBulkEntries r
def uptoBulkEntry {H : Type} : Lit × DataW H → Nat
  | (.string bytes, d) => bytes.length + uptoBulk d + 1
  | (_, d) => uptoBulk d + 1
 end
def uptoSmall : (H : Type) → List (DataW H) → Bool := fun _ ds => decide (uptoBulkAll ds ≤ 1048576)
def OpenSpec.upto (s : _root_.Go.ChangeSpec) : _root_.Go.OpenSpec := { _root_.Go.OpenSpec.ofChange s with cond := some uptoSmall }

/-- 'civiltimelaw33.ValueEncodes', WHERE WHAT IT READS IS OF BULK AT MOST 1048576: true; the input reads as it did. -/
def valueEncodesUptoRow : OpenClaim := { program := "ytgfppajbegcaeaadoor", sum := "6b5aa74025608461b4d48e76d7267fae56c6f688d376a1355d8fcbd48e0d4168", func := "civiltime/civiltimelaw33.ValueEncodes", spec := "valueEncodes", inPlace := ["internal/bytealg.CountString", "internal/bytealg.IndexByteString", "internal/bytealg.IndexString", "internal/abi.NoEscape", "internal/bytealg.MakeNoZero"], unfollowed := true, recurses := true, named := ["internal/bytealg.MaxLen", "unicode/utf8.first", "unicode/utf8.acceptRanges"], apart := false, laid := [("unicode/utf8.acceptRanges", laid_unicode_utf8_acceptRanges), ("unicode/utf8.first", laid_unicode_utf8_first)], narrowed := true }
def ValueEncodesUptoSaid : Prop := valueEncodesUptoRow.holds Tryd.pinned (OpenSpec.upto valueEncodesSpec)

/-- 'civiltimelaw33.ValueTotal', WHERE WHAT IT READS IS OF BULK AT MOST 1048576: true; the input reads as it did. -/
def valueTotalUptoRow : OpenClaim := { program := "ytgfppajbegcaeaadoor", sum := "6b5aa74025608461b4d48e76d7267fae56c6f688d376a1355d8fcbd48e0d4168", func := "civiltime/civiltimelaw33.ValueTotal", spec := "valueTotal", inPlace := ["internal/bytealg.CountString", "internal/bytealg.IndexByteString", "internal/bytealg.IndexString", "internal/abi.NoEscape", "internal/bytealg.MakeNoZero"], unfollowed := true, recurses := true, named := ["internal/bytealg.MaxLen", "unicode/utf8.first", "unicode/utf8.acceptRanges"], apart := false, laid := [("unicode/utf8.acceptRanges", laid_unicode_utf8_acceptRanges), ("unicode/utf8.first", laid_unicode_utf8_first)], narrowed := true }
def ValueTotalUptoSaid : Prop := valueTotalUptoRow.holds Tryd.pinned (OpenSpec.upto valueTotalSpec)

/-- 'civiltimelaw33.ValueConds', WHERE WHAT IT READS IS OF BULK AT MOST 1048576: true; the input reads as it did. -/
def valueCondsUptoRow : OpenClaim := { program := "ytgfppajbegcaeaadoor", sum := "6b5aa74025608461b4d48e76d7267fae56c6f688d376a1355d8fcbd48e0d4168", func := "civiltime/civiltimelaw33.ValueConds", spec := "valueConds", inPlace := ["internal/bytealg.CountString", "internal/bytealg.IndexByteString", "internal/bytealg.IndexString", "internal/abi.NoEscape", "internal/bytealg.MakeNoZero"], unfollowed := true, recurses := true, named := ["internal/bytealg.MaxLen", "unicode/utf8.first", "unicode/utf8.acceptRanges"], loops := true, apart := false, laid := [("unicode/utf8.acceptRanges", laid_unicode_utf8_acceptRanges), ("unicode/utf8.first", laid_unicode_utf8_first)], narrowed := true }
def ValueCondsUptoSaid : Prop := valueCondsUptoRow.holds Tryd.pinned (OpenSpec.upto valueCondsSpec)

/-- 'civiltimelaw33.ValueLogic', WHERE WHAT IT READS IS OF BULK AT MOST 1048576: true; the input reads as it did. -/
def valueLogicUptoRow : OpenClaim := { program := "ytgfppajbegcaeaadoor", sum := "6b5aa74025608461b4d48e76d7267fae56c6f688d376a1355d8fcbd48e0d4168", func := "civiltime/civiltimelaw33.ValueLogic", spec := "valueLogic", inPlace := ["internal/bytealg.CountString", "internal/bytealg.IndexByteString", "internal/bytealg.IndexString", "internal/abi.NoEscape", "internal/bytealg.MakeNoZero"], unfollowed := true, recurses := true, named := ["internal/bytealg.MaxLen", "unicode/utf8.first", "unicode/utf8.acceptRanges"], loops := true, apart := false, laid := [("unicode/utf8.acceptRanges", laid_unicode_utf8_acceptRanges), ("unicode/utf8.first", laid_unicode_utf8_first)], narrowed := true }
def ValueLogicUptoSaid : Prop := valueLogicUptoRow.holds Tryd.pinned (OpenSpec.upto valueLogicSpec)

/-- 'civiltimelaw33.ValueCompares', WHERE WHAT IT READS IS OF BULK AT MOST 1048576: true; the input reads as it did. -/
def valueComparesUptoRow : OpenClaim := { program := "ytgfppajbegcaeaadoor", sum := "6b5aa74025608461b4d48e76d7267fae56c6f688d376a1355d8fcbd48e0d4168", func := "civiltime/civiltimelaw33.ValueCompares", spec := "valueCompares", inPlace := ["internal/bytealg.CountString", "internal/bytealg.IndexByteString", "internal/bytealg.IndexString", "internal/abi.NoEscape", "internal/bytealg.MakeNoZero"], unfollowed := true, recurses := true, named := ["internal/bytealg.MaxLen", "unicode/utf8.first", "unicode/utf8.acceptRanges"], apart := false, laid := [("unicode/utf8.acceptRanges", laid_unicode_utf8_acceptRanges), ("unicode/utf8.first", laid_unicode_utf8_first)], narrowed := true }
def ValueComparesUptoSaid : Prop := valueComparesUptoRow.holds Tryd.pinned (OpenSpec.upto valueComparesSpec)

/-- 'civiltimelaw33.ValueBytes', WHERE WHAT IT READS IS OF BULK AT MOST 1048576: true; the input reads as it did. -/
def valueBytesUptoRow : OpenClaim := { program := "ytgfppajbegcaeaadoor", sum := "6b5aa74025608461b4d48e76d7267fae56c6f688d376a1355d8fcbd48e0d4168", func := "civiltime/civiltimelaw33.ValueBytes", spec := "valueBytes", inPlace := ["internal/bytealg.CountString", "internal/bytealg.IndexByteString", "internal/bytealg.IndexString", "internal/abi.NoEscape", "internal/bytealg.MakeNoZero", "internal/bytealg.Compare"], unfollowed := true, recurses := true, named := ["internal/bytealg.MaxLen", "unicode/utf8.first", "unicode/utf8.acceptRanges"], apart := false, laid := [("unicode/utf8.acceptRanges", laid_unicode_utf8_acceptRanges), ("unicode/utf8.first", laid_unicode_utf8_first)], narrowed := true }
def ValueBytesUptoSaid : Prop := valueBytesUptoRow.holds Tryd.pinned (OpenSpec.upto valueBytesSpec)

/-- 'civiltimelaw33.ValueOrders', WHERE WHAT IT READS IS OF BULK AT MOST 1048576: true; the input reads as it did. -/
def valueOrdersUptoRow : OpenClaim := { program := "ytgfppajbegcaeaadoor", sum := "6b5aa74025608461b4d48e76d7267fae56c6f688d376a1355d8fcbd48e0d4168", func := "civiltime/civiltimelaw33.ValueOrders", spec := "valueOrders", inPlace := ["internal/bytealg.CountString", "internal/bytealg.IndexByteString", "internal/bytealg.IndexString", "internal/abi.NoEscape", "internal/bytealg.MakeNoZero"], unfollowed := true, recurses := true, named := ["internal/bytealg.MaxLen", "unicode/utf8.first", "unicode/utf8.acceptRanges"], apart := false, laid := [("unicode/utf8.acceptRanges", laid_unicode_utf8_acceptRanges), ("unicode/utf8.first", laid_unicode_utf8_first)], narrowed := true }
def ValueOrdersUptoSaid : Prop := valueOrdersUptoRow.holds Tryd.pinned (OpenSpec.upto valueOrdersSpec)

end Rows
end Go.Proofs.YtgfppajbegcaeaaDoor
