/-
  DERIVED. GIVEN WITH THE SEED: THE CARDS: each row of YtknnpgaabejjlaaDoorRows.lean that lists a variable, with what it lists TIED to the program's text (the seventh form; the later family's looks); each row that meets fmt, with fmt's text TOLD by the authors' own Lean function (tested against real Go, not proved from fmt's source: count such statements apart). THE CARD IS WHAT COUNTS. Prove the row's statement (the work); the ties are given (YtknnpgaabejjlaaDoorTie.lean); close each card by the builder's one call (the guide's Derived/Test/ToyasCard.lean, 'card_holds'). Laid BY PROGRAM, IN A SANDBOX (cutbox-door.mjs). By AI agents, Wed Nov 11 2026. No macro, syntax, notation, axiom, sorry.
-/
import Derived.Test.YtknnpgaabejjlaaDoorRows
import GoSem.ClaimSeven
namespace Go.Proofs.YtknnpgaabejjlaaDoor
namespace Rows

/-- THE TIED CARD OF 'civiltimelaw11.AllenTexts'. -/
def allenTextsCard : Claim7 := { stood := { row := allenTextsRow, standIns := [], harness := (true, "bddeaa80ba638b285b51096544083e79354d2ff78ea71dc62a11eaaa1ce6ae58"), looks := false }, kinds := [], alts := [], laidByText := true, laidKinds := [.data, .pinned], laidTests := true, laidLooks := .later }
def AllenTextsCardSaid : Prop := Claim7.holds Tryd.pinned (.plain (OpenSpec.ofChange allenTextsSpec)) allenTextsCard

/-- THE TIED CARD OF 'civiltimelaw11.AllenBack'. -/
def allenBackCard : Claim7 := { stood := { row := allenBackRow, standIns := [], harness := (true, "bddeaa80ba638b285b51096544083e79354d2ff78ea71dc62a11eaaa1ce6ae58"), looks := false }, kinds := [], alts := [], laidByText := true, laidKinds := [.data, .pinned], laidTests := true, laidLooks := .later }
def AllenBackCardSaid : Prop := Claim7.holds Tryd.pinned (.plain (OpenSpec.ofChange allenBackSpec)) allenBackCard

/-- THE SECOND FORM's CARD OF 'civiltimelaw11.AllenTexts'. -/
def allenTextsUptoCard : Claim7 := { stood := { row := allenTextsUptoRow, standIns := [], harness := (true, "bddeaa80ba638b285b51096544083e79354d2ff78ea71dc62a11eaaa1ce6ae58"), looks := false }, kinds := [], alts := [], laidByText := true, laidKinds := [.data, .pinned], laidTests := true, laidLooks := .later }
def AllenTextsUptoCardSaid : Prop := Claim7.holds Tryd.pinned (.plain (OpenSpec.upto allenTextsSpec)) allenTextsUptoCard

/-- THE SECOND FORM's CARD OF 'civiltimelaw11.AllenBack'. -/
def allenBackUptoCard : Claim7 := { stood := { row := allenBackUptoRow, standIns := [], harness := (true, "bddeaa80ba638b285b51096544083e79354d2ff78ea71dc62a11eaaa1ce6ae58"), looks := false }, kinds := [], alts := [], laidByText := true, laidKinds := [.data, .pinned], laidTests := true, laidLooks := .later }
def AllenBackUptoCardSaid : Prop := Claim7.holds Tryd.pinned (.plain (OpenSpec.upto allenBackSpec)) allenBackUptoCard
end Rows
end Go.Proofs.YtknnpgaabejjlaaDoor
