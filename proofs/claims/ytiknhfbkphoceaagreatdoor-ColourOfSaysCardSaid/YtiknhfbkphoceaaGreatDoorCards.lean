/-
  DERIVED. GIVEN WITH THE SEED: THE CARDS: each row of YtiknhfbkphoceaaGreatDoorRows.lean that lists a variable, with what it lists TIED to the program's text (the seventh form; the later family's looks); each row that meets fmt, with fmt's text TOLD by the authors' own Lean function (tested against real Go, not proved from fmt's source: count such statements apart). THE CARD IS WHAT COUNTS. Prove the row's statement (the work); the ties are given (YtiknhfbkphoceaaGreatDoorTie.lean); close each card by the builder's one call (the guide's Derived/Test/ToyasCard.lean, 'card_holds'). Laid BY PROGRAM, IN A SANDBOX (cutbox-door.mjs). By AI agents, Wed Nov 11 2026. No macro, syntax, notation, axiom, sorry.
-/
import Derived.Test.YtiknhfbkphoceaaGreatDoorRows
import GoSem.ClaimSeven
namespace Go.Proofs.YtiknhfbkphoceaaGreatDoor
namespace Rows

/-- THE TIED CARD OF 'turnerylaw7.ColourOfSays'. -/
def colourOfSaysCard : Claim7 := { stood := { row := colourOfSaysRow, standIns := [], harness := (true, "ce162bdd018e114b740f26828fc6a3f8bd76bed7590f0046d682ea2c32cc0476"), looks := false }, kinds := [], alts := [], laidByText := true, laidKinds := [.data], laidTests := true, laidLooks := .later }
def ColourOfSaysCardSaid : Prop := Claim7.holds Tryz.pinned (.plain (OpenSpec.ofChange colourOfSaysSpec)) colourOfSaysCard

/-- THE SECOND FORM's CARD OF 'turnerylaw7.ColourOfSays'. -/
def colourOfSaysUptoCard : Claim7 := { stood := { row := colourOfSaysUptoRow, standIns := [], harness := (true, "ce162bdd018e114b740f26828fc6a3f8bd76bed7590f0046d682ea2c32cc0476"), looks := false }, kinds := [], alts := [], laidByText := true, laidKinds := [.data], laidTests := true, laidLooks := .later }
def ColourOfSaysUptoCardSaid : Prop := Claim7.holds Tryz.pinned (.plain (OpenSpec.upto colourOfSaysSpec)) colourOfSaysUptoCard
end Rows
end Go.Proofs.YtiknhfbkphoceaaGreatDoor
