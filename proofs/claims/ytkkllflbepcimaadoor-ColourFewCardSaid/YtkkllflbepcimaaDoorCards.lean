/-
  DERIVED. GIVEN WITH THE SEED: THE CARDS: each row of YtkkllflbepcimaaDoorRows.lean that lists a variable, with what it lists TIED to the program's text (the seventh form; the later family's looks); each row that meets fmt, with fmt's text TOLD by the authors' own Lean function (tested against real Go, not proved from fmt's source: count such statements apart). THE CARD IS WHAT COUNTS. Prove the row's statement (the work); the ties are given (YtkkllflbepcimaaDoorTie.lean); close each card by the builder's one call (the guide's Derived/Test/ToyasCard.lean, 'card_holds'). Laid BY PROGRAM, IN A SANDBOX (cutbox-door.mjs). By AI agents, Wed Nov 11 2026. No macro, syntax, notation, axiom, sorry.
-/
import Derived.Test.YtkkllflbepcimaaDoorRows
import GoSem.ClaimSeven
namespace Go.Proofs.YtkkllflbepcimaaDoor
namespace Rows

/-- THE TIED CARD OF 'turnerylaw7.ColourMerged'. -/
def colourMergedCard : Claim7 := { stood := { row := colourMergedRow, standIns := [], harness := (true, "c5ec4f3c34a981d7b606b660eb5dc21bd36358ed77f3eebf4f4192155be36345"), looks := false }, kinds := [], alts := [], laidByText := true, laidKinds := [.data], laidTests := true, laidLooks := .later }
def ColourMergedCardSaid : Prop := Claim7.holds Tryd.pinned (.plain (OpenSpec.ofChange colourMergedSpec)) colourMergedCard

/-- THE TIED CARD OF 'turnerylaw7.ColourFew'. -/
def colourFewCard : Claim7 := { stood := { row := colourFewRow, standIns := [], harness := (true, "c5ec4f3c34a981d7b606b660eb5dc21bd36358ed77f3eebf4f4192155be36345"), looks := false }, kinds := [], alts := [], laidByText := true, laidKinds := [.data], laidTests := true, laidLooks := .later }
def ColourFewCardSaid : Prop := Claim7.holds Tryd.pinned (.plain (OpenSpec.ofChange colourFewSpec)) colourFewCard

/-- THE SECOND FORM's CARD OF 'turnerylaw7.ColourMerged'. -/
def colourMergedUptoCard : Claim7 := { stood := { row := colourMergedUptoRow, standIns := [], harness := (true, "c5ec4f3c34a981d7b606b660eb5dc21bd36358ed77f3eebf4f4192155be36345"), looks := false }, kinds := [], alts := [], laidByText := true, laidKinds := [.data], laidTests := true, laidLooks := .later }
def ColourMergedUptoCardSaid : Prop := Claim7.holds Tryd.pinned (.plain (OpenSpec.upto colourMergedSpec)) colourMergedUptoCard

/-- THE SECOND FORM's CARD OF 'turnerylaw7.ColourFew'. -/
def colourFewUptoCard : Claim7 := { stood := { row := colourFewUptoRow, standIns := [], harness := (true, "c5ec4f3c34a981d7b606b660eb5dc21bd36358ed77f3eebf4f4192155be36345"), looks := false }, kinds := [], alts := [], laidByText := true, laidKinds := [.data], laidTests := true, laidLooks := .later }
def ColourFewUptoCardSaid : Prop := Claim7.holds Tryd.pinned (.plain (OpenSpec.upto colourFewSpec)) colourFewUptoCard
end Rows
end Go.Proofs.YtkkllflbepcimaaDoor
