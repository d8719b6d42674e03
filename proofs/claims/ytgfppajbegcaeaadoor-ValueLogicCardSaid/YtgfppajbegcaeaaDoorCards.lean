/-
  DERIVED. GIVEN WITH THE SEED: THE CARDS: each row of YtgfppajbegcaeaaDoorRows.lean that lists a variable, with what it lists TIED to the program's text (the seventh form; the later family's looks); each row that meets fmt, with fmt's text TOLD by the authors' own Lean function (tested against real Go, not proved from fmt's source: count such statements apart). THE CARD IS WHAT COUNTS. Prove the row's statement (the work); the ties are given (YtgfppajbegcaeaaDoorTie.lean); close each card by the builder's one call (the guide's Derived/Test/ToyasCard.lean, 'card_holds'). Laid BY PROGRAM, IN A SANDBOX (cutbox-door.mjs). By AI agents, Wed Nov 11 2026. No macro, syntax, notation, axiom, sorry.
-/
import Derived.Test.YtgfppajbegcaeaaDoorRows
import GoSem.ClaimSeven
namespace Go.Proofs.YtgfppajbegcaeaaDoor
namespace Rows

/-- THE TIED CARD OF 'civiltimelaw33.ValueEncodes'. -/
def valueEncodesCard : Claim7 := { stood := { row := valueEncodesRow, standIns := [], harness := (true, "765edfe87be84f553dfd66526a7164da3ffa4593af8055c6409d7790bb63f99b"), looks := false }, kinds := [], alts := [], laidByText := true, laidKinds := [.data, .pinned], laidTests := true, laidLooks := .later }
def ValueEncodesCardSaid : Prop := Claim7.holds Tryd.pinned (.plain (OpenSpec.ofChange valueEncodesSpec)) valueEncodesCard

/-- THE TIED CARD OF 'civiltimelaw33.ValueTotal'. -/
def valueTotalCard : Claim7 := { stood := { row := valueTotalRow, standIns := [], harness := (true, "765edfe87be84f553dfd66526a7164da3ffa4593af8055c6409d7790bb63f99b"), looks := false }, kinds := [], alts := [], laidByText := true, laidKinds := [.data, .pinned], laidTests := true, laidLooks := .later }
def ValueTotalCardSaid : Prop := Claim7.holds Tryd.pinned (.plain (OpenSpec.ofChange valueTotalSpec)) valueTotalCard

/-- THE TIED CARD OF 'civiltimelaw33.ValueConds'. -/
def valueCondsCard : Claim7 := { stood := { row := valueCondsRow, standIns := [], harness := (true, "765edfe87be84f553dfd66526a7164da3ffa4593af8055c6409d7790bb63f99b"), looks := false }, kinds := [], alts := [], laidByText := true, laidKinds := [.data, .pinned], laidTests := true, laidLooks := .later }
def ValueCondsCardSaid : Prop := Claim7.holds Tryd.pinned (.plain (OpenSpec.ofChange valueCondsSpec)) valueCondsCard

/-- THE TIED CARD OF 'civiltimelaw33.ValueLogic'. -/
def valueLogicCard : Claim7 := { stood := { row := valueLogicRow, standIns := [], harness := (true, "765edfe87be84f553dfd66526a7164da3ffa4593af8055c6409d7790bb63f99b"), looks := false }, kinds := [], alts := [], laidByText := true, laidKinds := [.data, .pinned], laidTests := true, laidLooks := .later }
def ValueLogicCardSaid : Prop := Claim7.holds Tryd.pinned (.plain (OpenSpec.ofChange valueLogicSpec)) valueLogicCard

/-- THE TIED CARD OF 'civiltimelaw33.ValueCompares'. -/
def valueComparesCard : Claim7 := { stood := { row := valueComparesRow, standIns := [], harness := (true, "765edfe87be84f553dfd66526a7164da3ffa4593af8055c6409d7790bb63f99b"), looks := false }, kinds := [], alts := [], laidByText := true, laidKinds := [.data, .pinned], laidTests := true, laidLooks := .later }
def ValueComparesCardSaid : Prop := Claim7.holds Tryd.pinned (.plain (OpenSpec.ofChange valueComparesSpec)) valueComparesCard

/-- THE TIED CARD OF 'civiltimelaw33.ValueBytes'. -/
def valueBytesCard : Claim7 := { stood := { row := valueBytesRow, standIns := [], harness := (true, "765edfe87be84f553dfd66526a7164da3ffa4593af8055c6409d7790bb63f99b"), looks := false }, kinds := [], alts := [], laidByText := true, laidKinds := [.data, .pinned], laidTests := true, laidLooks := .later }
def ValueBytesCardSaid : Prop := Claim7.holds Tryd.pinned (.plain (OpenSpec.ofChange valueBytesSpec)) valueBytesCard

/-- THE TIED CARD OF 'civiltimelaw33.ValueOrders'. -/
def valueOrdersCard : Claim7 := { stood := { row := valueOrdersRow, standIns := [], harness := (true, "765edfe87be84f553dfd66526a7164da3ffa4593af8055c6409d7790bb63f99b"), looks := false }, kinds := [], alts := [], laidByText := true, laidKinds := [.data, .pinned], laidTests := true, laidLooks := .later }
def ValueOrdersCardSaid : Prop := Claim7.holds Tryd.pinned (.plain (OpenSpec.ofChange valueOrdersSpec)) valueOrdersCard

/-- THE SECOND FORM's CARD OF 'civiltimelaw33.ValueEncodes'. -/
def valueEncodesUptoCard : Claim7 := { stood := { row := valueEncodesUptoRow, standIns := [], harness := (true, "765edfe87be84f553dfd66526a7164da3ffa4593af8055c6409d7790bb63f99b"), looks := false }, kinds := [], alts := [], laidByText := true, laidKinds := [.data, .pinned], laidTests := true, laidLooks := .later }
def ValueEncodesUptoCardSaid : Prop := Claim7.holds Tryd.pinned (.plain (OpenSpec.upto valueEncodesSpec)) valueEncodesUptoCard

/-- THE SECOND FORM's CARD OF 'civiltimelaw33.ValueTotal'. -/
def valueTotalUptoCard : Claim7 := { stood := { row := valueTotalUptoRow, standIns := [], harness := (true, "765edfe87be84f553dfd66526a7164da3ffa4593af8055c6409d7790bb63f99b"), looks := false }, kinds := [], alts := [], laidByText := true, laidKinds := [.data, .pinned], laidTests := true, laidLooks := .later }
def ValueTotalUptoCardSaid : Prop := Claim7.holds Tryd.pinned (.plain (OpenSpec.upto valueTotalSpec)) valueTotalUptoCard

/-- THE SECOND FORM's CARD OF 'civiltimelaw33.ValueConds'. -/
def valueCondsUptoCard : Claim7 := { stood := { row := valueCondsUptoRow, standIns := [], harness := (true, "765edfe87be84f553dfd66526a7164da3ffa4593af8055c6409d7790bb63f99b"), looks := false }, kinds := [], alts := [], laidByText := true, laidKinds := [.data, .pinned], laidTests := true, laidLooks := .later }
def ValueCondsUptoCardSaid : Prop := Claim7.holds Tryd.pinned (.plain (OpenSpec.upto valueCondsSpec)) valueCondsUptoCard

/-- THE SECOND FORM's CARD OF 'civiltimelaw33.ValueLogic'. -/
def valueLogicUptoCard : Claim7 := { stood := { row := valueLogicUptoRow, standIns := [], harness := (true, "765edfe87be84f553dfd66526a7164da3ffa4593af8055c6409d7790bb63f99b"), looks := false }, kinds := [], alts := [], laidByText := true, laidKinds := [.data, .pinned], laidTests := true, laidLooks := .later }
def ValueLogicUptoCardSaid : Prop := Claim7.holds Tryd.pinned (.plain (OpenSpec.upto valueLogicSpec)) valueLogicUptoCard

/-- THE SECOND FORM's CARD OF 'civiltimelaw33.ValueCompares'. -/
def valueComparesUptoCard : Claim7 := { stood := { row := valueComparesUptoRow, standIns := [], harness := (true, "765edfe87be84f553dfd66526a7164da3ffa4593af8055c6409d7790bb63f99b"), looks := false }, kinds := [], alts := [], laidByText := true, laidKinds := [.data, .pinned], laidTests := true, laidLooks := .later }
def ValueComparesUptoCardSaid : Prop := Claim7.holds Tryd.pinned (.plain (OpenSpec.upto valueComparesSpec)) valueComparesUptoCard

/-- THE SECOND FORM's CARD OF 'civiltimelaw33.ValueBytes'. -/
def valueBytesUptoCard : Claim7 := { stood := { row := valueBytesUptoRow, standIns := [], harness := (true, "765edfe87be84f553dfd66526a7164da3ffa4593af8055c6409d7790bb63f99b"), looks := false }, kinds := [], alts := [], laidByText := true, laidKinds := [.data, .pinned], laidTests := true, laidLooks := .later }
def ValueBytesUptoCardSaid : Prop := Claim7.holds Tryd.pinned (.plain (OpenSpec.upto valueBytesSpec)) valueBytesUptoCard

/-- THE SECOND FORM's CARD OF 'civiltimelaw33.ValueOrders'. -/
def valueOrdersUptoCard : Claim7 := { stood := { row := valueOrdersUptoRow, standIns := [], harness := (true, "765edfe87be84f553dfd66526a7164da3ffa4593af8055c6409d7790bb63f99b"), looks := false }, kinds := [], alts := [], laidByText := true, laidKinds := [.data, .pinned], laidTests := true, laidLooks := .later }
def ValueOrdersUptoCardSaid : Prop := Claim7.holds Tryd.pinned (.plain (OpenSpec.upto valueOrdersSpec)) valueOrdersUptoCard
end Rows
end Go.Proofs.YtgfppajbegcaeaaDoor
