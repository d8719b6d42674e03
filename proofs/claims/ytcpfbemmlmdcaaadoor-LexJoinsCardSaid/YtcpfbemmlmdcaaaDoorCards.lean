/-
  DERIVED. GIVEN WITH THE SEED: THE CARDS: each row of YtcpfbemmlmdcaaaDoorRows.lean that lists a variable, with what it lists TIED to the program's text (the seventh form; the later family's looks); each row that meets fmt, with fmt's text TOLD by the authors' own Lean function (tested against real Go, not proved from fmt's source: count such statements apart). THE CARD IS WHAT COUNTS. Prove the row's statement (the work); the ties are given (YtcpfbemmlmdcaaaDoorTie.lean); close each card by the builder's one call (the guide's Derived/Test/ToyasCard.lean, 'card_holds'). Laid BY PROGRAM, IN A SANDBOX (cutbox-door.mjs). By AI agents, Wed Nov 11 2026. No macro, syntax, notation, axiom, sorry.
-/
import Derived.Test.YtcpfbemmlmdcaaaDoorRows
import GoSem.ClaimSeven
namespace Go.Proofs.YtcpfbemmlmdcaaaDoor
namespace Rows

/-- THE TIED CARD OF 'civiltimelaw18.LexOffsets'. -/
def lexOffsetsCard : Claim7 := { stood := { row := lexOffsetsRow, standIns := [], harness := (true, "126dfc888ca550c48758dc2574d0a8af7f36aee845cc935e7c7d8eed502cfc2c"), looks := false }, kinds := [], alts := [], laidByText := true, laidKinds := [.data, .pinned], laidTests := true, laidLooks := .later }
def LexOffsetsCardSaid : Prop := Claim7.holds Tryd.pinned (.plain (OpenSpec.ofChange lexOffsetsSpec)) lexOffsetsCard

/-- THE TIED CARD OF 'civiltimelaw18.LexClocks'. -/
def lexClocksCard : Claim7 := { stood := { row := lexClocksRow, standIns := [], harness := (true, "126dfc888ca550c48758dc2574d0a8af7f36aee845cc935e7c7d8eed502cfc2c"), looks := false }, kinds := [], alts := [], laidByText := true, laidKinds := [.data, .pinned], laidTests := true, laidLooks := .later }
def LexClocksCardSaid : Prop := Claim7.holds Tryd.pinned (.plain (OpenSpec.ofChange lexClocksSpec)) lexClocksCard

/-- THE TIED CARD OF 'civiltimelaw18.LexLines'. -/
def lexLinesCard : Claim7 := { stood := { row := lexLinesRow, standIns := [], harness := (true, "126dfc888ca550c48758dc2574d0a8af7f36aee845cc935e7c7d8eed502cfc2c"), looks := false }, kinds := [], alts := [], laidByText := true, laidKinds := [.data, .pinned], laidTests := true, laidLooks := .later }
def LexLinesCardSaid : Prop := Claim7.holds Tryd.pinned (.plain (OpenSpec.ofChange lexLinesSpec)) lexLinesCard

/-- THE TIED CARD OF 'civiltimelaw18.LexNames'. -/
def lexNamesCard : Claim7 := { stood := { row := lexNamesRow, standIns := [], harness := (true, "126dfc888ca550c48758dc2574d0a8af7f36aee845cc935e7c7d8eed502cfc2c"), looks := false }, kinds := [], alts := [], laidByText := true, laidKinds := [.data, .pinned], laidTests := true, laidLooks := .later }
def LexNamesCardSaid : Prop := Claim7.holds Tryd.pinned (.plain (OpenSpec.ofChange lexNamesSpec)) lexNamesCard

/-- THE TIED CARD OF 'civiltimelaw18.LexBack'. -/
def lexBackCard : Claim7 := { stood := { row := lexBackRow, standIns := [], harness := (true, "126dfc888ca550c48758dc2574d0a8af7f36aee845cc935e7c7d8eed502cfc2c"), looks := false }, kinds := [], alts := [], laidByText := true, laidKinds := [.data, .pinned], laidTests := true, laidLooks := .later }
def LexBackCardSaid : Prop := Claim7.holds Tryd.pinned (.plain (OpenSpec.ofChange lexBackSpec)) lexBackCard

/-- THE TIED CARD OF 'civiltimelaw18.LexWords'. -/
def lexWordsCard : Claim7 := { stood := { row := lexWordsRow, standIns := [], harness := (true, "126dfc888ca550c48758dc2574d0a8af7f36aee845cc935e7c7d8eed502cfc2c"), looks := false }, kinds := [], alts := [], laidByText := true, laidKinds := [.data, .pinned], laidTests := true, laidLooks := .later }
def LexWordsCardSaid : Prop := Claim7.holds Tryd.pinned (.plain (OpenSpec.ofChange lexWordsSpec)) lexWordsCard

/-- THE TIED CARD OF 'civiltimelaw18.LexJoins'. -/
def lexJoinsCard : Claim7 := { stood := { row := lexJoinsRow, standIns := [], harness := (true, "126dfc888ca550c48758dc2574d0a8af7f36aee845cc935e7c7d8eed502cfc2c"), looks := false }, kinds := [], alts := [], laidByText := true, laidKinds := [.data, .pinned], laidTests := true, laidLooks := .later }
def LexJoinsCardSaid : Prop := Claim7.holds Tryd.pinned (.plain (OpenSpec.ofChange lexJoinsSpec)) lexJoinsCard

/-- THE TIED CARD OF 'civiltimelaw18.LexPlaces'. -/
def lexPlacesCard : Claim7 := { stood := { row := lexPlacesRow, standIns := [], harness := (true, "126dfc888ca550c48758dc2574d0a8af7f36aee845cc935e7c7d8eed502cfc2c"), looks := false }, kinds := [], alts := [], laidByText := true, laidKinds := [.data, .pinned], laidTests := true, laidLooks := .later }
def LexPlacesCardSaid : Prop := Claim7.holds Tryd.pinned (.plain (OpenSpec.ofChange lexPlacesSpec)) lexPlacesCard

/-- THE SECOND FORM's CARD OF 'civiltimelaw18.LexOffsets'. -/
def lexOffsetsUptoCard : Claim7 := { stood := { row := lexOffsetsUptoRow, standIns := [], harness := (true, "126dfc888ca550c48758dc2574d0a8af7f36aee845cc935e7c7d8eed502cfc2c"), looks := false }, kinds := [], alts := [], laidByText := true, laidKinds := [.data, .pinned], laidTests := true, laidLooks := .later }
def LexOffsetsUptoCardSaid : Prop := Claim7.holds Tryd.pinned (.plain (OpenSpec.upto lexOffsetsSpec)) lexOffsetsUptoCard

/-- THE SECOND FORM's CARD OF 'civiltimelaw18.LexClocks'. -/
def lexClocksUptoCard : Claim7 := { stood := { row := lexClocksUptoRow, standIns := [], harness := (true, "126dfc888ca550c48758dc2574d0a8af7f36aee845cc935e7c7d8eed502cfc2c"), looks := false }, kinds := [], alts := [], laidByText := true, laidKinds := [.data, .pinned], laidTests := true, laidLooks := .later }
def LexClocksUptoCardSaid : Prop := Claim7.holds Tryd.pinned (.plain (OpenSpec.upto lexClocksSpec)) lexClocksUptoCard

/-- THE SECOND FORM's CARD OF 'civiltimelaw18.LexLines'. -/
def lexLinesUptoCard : Claim7 := { stood := { row := lexLinesUptoRow, standIns := [], harness := (true, "126dfc888ca550c48758dc2574d0a8af7f36aee845cc935e7c7d8eed502cfc2c"), looks := false }, kinds := [], alts := [], laidByText := true, laidKinds := [.data, .pinned], laidTests := true, laidLooks := .later }
def LexLinesUptoCardSaid : Prop := Claim7.holds Tryd.pinned (.plain (OpenSpec.upto lexLinesSpec)) lexLinesUptoCard

/-- THE SECOND FORM's CARD OF 'civiltimelaw18.LexNames'. -/
def lexNamesUptoCard : Claim7 := { stood := { row := lexNamesUptoRow, standIns := [], harness := (true, "126dfc888ca550c48758dc2574d0a8af7f36aee845cc935e7c7d8eed502cfc2c"), looks := false }, kinds := [], alts := [], laidByText := true, laidKinds := [.data, .pinned], laidTests := true, laidLooks := .later }
def LexNamesUptoCardSaid : Prop := Claim7.holds Tryd.pinned (.plain (OpenSpec.upto lexNamesSpec)) lexNamesUptoCard

/-- THE SECOND FORM's CARD OF 'civiltimelaw18.LexBack'. -/
def lexBackUptoCard : Claim7 := { stood := { row := lexBackUptoRow, standIns := [], harness := (true, "126dfc888ca550c48758dc2574d0a8af7f36aee845cc935e7c7d8eed502cfc2c"), looks := false }, kinds := [], alts := [], laidByText := true, laidKinds := [.data, .pinned], laidTests := true, laidLooks := .later }
def LexBackUptoCardSaid : Prop := Claim7.holds Tryd.pinned (.plain (OpenSpec.upto lexBackSpec)) lexBackUptoCard

/-- THE SECOND FORM's CARD OF 'civiltimelaw18.LexWords'. -/
def lexWordsUptoCard : Claim7 := { stood := { row := lexWordsUptoRow, standIns := [], harness := (true, "126dfc888ca550c48758dc2574d0a8af7f36aee845cc935e7c7d8eed502cfc2c"), looks := false }, kinds := [], alts := [], laidByText := true, laidKinds := [.data, .pinned], laidTests := true, laidLooks := .later }
def LexWordsUptoCardSaid : Prop := Claim7.holds Tryd.pinned (.plain (OpenSpec.upto lexWordsSpec)) lexWordsUptoCard

/-- THE SECOND FORM's CARD OF 'civiltimelaw18.LexJoins'. -/
def lexJoinsUptoCard : Claim7 := { stood := { row := lexJoinsUptoRow, standIns := [], harness := (true, "126dfc888ca550c48758dc2574d0a8af7f36aee845cc935e7c7d8eed502cfc2c"), looks := false }, kinds := [], alts := [], laidByText := true, laidKinds := [.data, .pinned], laidTests := true, laidLooks := .later }
def LexJoinsUptoCardSaid : Prop := Claim7.holds Tryd.pinned (.plain (OpenSpec.upto lexJoinsSpec)) lexJoinsUptoCard

/-- THE SECOND FORM's CARD OF 'civiltimelaw18.LexPlaces'. -/
def lexPlacesUptoCard : Claim7 := { stood := { row := lexPlacesUptoRow, standIns := [], harness := (true, "126dfc888ca550c48758dc2574d0a8af7f36aee845cc935e7c7d8eed502cfc2c"), looks := false }, kinds := [], alts := [], laidByText := true, laidKinds := [.data, .pinned], laidTests := true, laidLooks := .later }
def LexPlacesUptoCardSaid : Prop := Claim7.holds Tryd.pinned (.plain (OpenSpec.upto lexPlacesSpec)) lexPlacesUptoCard
end Rows
end Go.Proofs.YtcpfbemmlmdcaaaDoor
