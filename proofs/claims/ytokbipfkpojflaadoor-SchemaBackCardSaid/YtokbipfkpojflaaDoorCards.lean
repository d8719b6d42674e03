/-
  DERIVED. GIVEN WITH THE SEED: THE CARDS: each row of YtokbipfkpojflaaDoorRows.lean that lists a variable, with what it lists TIED to the program's text (the seventh form; the later family's looks); each row that meets fmt, with fmt's text TOLD by the authors' own Lean function (tested against real Go, not proved from fmt's source: count such statements apart). THE CARD IS WHAT COUNTS. Prove the row's statement (the work); the ties are given (YtokbipfkpojflaaDoorTie.lean); close each card by the builder's one call (the guide's Derived/Test/ToyasCard.lean, 'card_holds'). Laid BY PROGRAM, IN A SANDBOX (cutbox-door.mjs). By AI agents, Wed Nov 11 2026. No macro, syntax, notation, axiom, sorry.
-/
import Derived.Test.YtokbipfkpojflaaDoorRows
import GoSem.ClaimSeven
namespace Go.Proofs.YtokbipfkpojflaaDoor
namespace Rows

/-- THE TIED CARD OF 'civiltimelaw34.SchemaBack'. -/
def schemaBackCard : Claim7 := { stood := { row := schemaBackRow, standIns := [], harness := (true, "81297fe2ba2df1f32b168dc37339105c6536fe01bde0216c0ba90bd0d4699c97"), looks := false }, kinds := [], alts := [], laidByText := true, laidKinds := [.data, .pinned], laidTests := true, laidLooks := .later }
def SchemaBackCardSaid : Prop := Claim7.holds Tryd.pinned (.plain (OpenSpec.ofChange schemaBackSpec)) schemaBackCard

/-- THE TIED CARD OF 'civiltimelaw34.SchemaPlaces'. -/
def schemaPlacesCard : Claim7 := { stood := { row := schemaPlacesRow, standIns := [], harness := (true, "81297fe2ba2df1f32b168dc37339105c6536fe01bde0216c0ba90bd0d4699c97"), looks := false }, kinds := [], alts := [], laidByText := true, laidKinds := [.data, .pinned], laidTests := true, laidLooks := .later }
def SchemaPlacesCardSaid : Prop := Claim7.holds Tryd.pinned (.plain (OpenSpec.ofChange schemaPlacesSpec)) schemaPlacesCard

/-- THE SECOND FORM's CARD OF 'civiltimelaw34.SchemaBack'. -/
def schemaBackUptoCard : Claim7 := { stood := { row := schemaBackUptoRow, standIns := [], harness := (true, "81297fe2ba2df1f32b168dc37339105c6536fe01bde0216c0ba90bd0d4699c97"), looks := false }, kinds := [], alts := [], laidByText := true, laidKinds := [.data, .pinned], laidTests := true, laidLooks := .later }
def SchemaBackUptoCardSaid : Prop := Claim7.holds Tryd.pinned (.plain (OpenSpec.upto schemaBackSpec)) schemaBackUptoCard

/-- THE SECOND FORM's CARD OF 'civiltimelaw34.SchemaPlaces'. -/
def schemaPlacesUptoCard : Claim7 := { stood := { row := schemaPlacesUptoRow, standIns := [], harness := (true, "81297fe2ba2df1f32b168dc37339105c6536fe01bde0216c0ba90bd0d4699c97"), looks := false }, kinds := [], alts := [], laidByText := true, laidKinds := [.data, .pinned], laidTests := true, laidLooks := .later }
def SchemaPlacesUptoCardSaid : Prop := Claim7.holds Tryd.pinned (.plain (OpenSpec.upto schemaPlacesSpec)) schemaPlacesUptoCard
end Rows
end Go.Proofs.YtokbipfkpojflaaDoor
