/-
  DERIVED. GIVEN WITH THE SEED: THE CARDS: each row of YtkkllflbepcimaaGreatDoorRows.lean that lists a variable, with what it lists TIED to the program's text (the seventh form; the later family's looks); each row that meets fmt, with fmt's text TOLD by the authors' own Lean function (tested against real Go, not proved from fmt's source: count such statements apart). THE CARD IS WHAT COUNTS. Prove the row's statement (the work); the ties are given (YtkkllflbepcimaaGreatDoorTie.lean); close each card by the builder's one call (the guide's Derived/Test/ToyasCard.lean, 'card_holds'). Laid BY PROGRAM, IN A SANDBOX (cutbox-door.mjs). By AI agents, Wed Nov 11 2026. No macro, syntax, notation, axiom, sorry.
-/
import Derived.Test.YtkkllflbepcimaaGreatDoorRows
import GoSem.ClaimSeven
namespace Go.Proofs.YtkkllflbepcimaaGreatDoor
namespace Rows

/-- THE TIED CARD OF 'turnerylaw7.ColourApart'. -/
def colourApartCard : Claim7 := { stood := { row := colourApartRow, standIns := [], harness := (true, "c458a13c5810350799fc260b310e3f2165c9ac076b57995e49f225b31add57c3"), looks := false }, kinds := [], alts := [], laidByText := true, laidKinds := [.data], laidTests := true, laidLooks := .later }
def ColourApartCardSaid : Prop := Claim7.holds Tryz.pinned (.plain (OpenSpec.ofChange colourApartSpec)) colourApartCard

/-- THE TIED CARD OF 'turnerylaw7.ColourNeed'. -/
def colourNeedCard : Claim7 := { stood := { row := colourNeedRow, standIns := [], harness := (true, "c458a13c5810350799fc260b310e3f2165c9ac076b57995e49f225b31add57c3"), looks := false }, kinds := [], alts := [], laidByText := true, laidKinds := [.data], laidTests := true, laidLooks := .later }
def ColourNeedCardSaid : Prop := Claim7.holds Tryz.pinned (.plain (OpenSpec.ofChange colourNeedSpec)) colourNeedCard

/-- THE TIED CARD OF 'turnerylaw7.ColourOfSays'. -/
def colourOfSaysCard : Claim7 := { stood := { row := colourOfSaysRow, standIns := [], harness := (true, "c458a13c5810350799fc260b310e3f2165c9ac076b57995e49f225b31add57c3"), looks := false }, kinds := [], alts := [], laidByText := true, laidKinds := [.data], laidTests := true, laidLooks := .later }
def ColourOfSaysCardSaid : Prop := Claim7.holds Tryz.pinned (.plain (OpenSpec.ofChange colourOfSaysSpec)) colourOfSaysCard

/-- THE SECOND FORM's CARD OF 'turnerylaw7.ColourApart'. -/
def colourApartUptoCard : Claim7 := { stood := { row := colourApartUptoRow, standIns := [], harness := (true, "c458a13c5810350799fc260b310e3f2165c9ac076b57995e49f225b31add57c3"), looks := false }, kinds := [], alts := [], laidByText := true, laidKinds := [.data], laidTests := true, laidLooks := .later }
def ColourApartUptoCardSaid : Prop := Claim7.holds Tryz.pinned (.plain (OpenSpec.upto colourApartSpec)) colourApartUptoCard

/-- THE SECOND FORM's CARD OF 'turnerylaw7.ColourNeed'. -/
def colourNeedUptoCard : Claim7 := { stood := { row := colourNeedUptoRow, standIns := [], harness := (true, "c458a13c5810350799fc260b310e3f2165c9ac076b57995e49f225b31add57c3"), looks := false }, kinds := [], alts := [], laidByText := true, laidKinds := [.data], laidTests := true, laidLooks := .later }
def ColourNeedUptoCardSaid : Prop := Claim7.holds Tryz.pinned (.plain (OpenSpec.upto colourNeedSpec)) colourNeedUptoCard

/-- THE SECOND FORM's CARD OF 'turnerylaw7.ColourOfSays'. -/
def colourOfSaysUptoCard : Claim7 := { stood := { row := colourOfSaysUptoRow, standIns := [], harness := (true, "c458a13c5810350799fc260b310e3f2165c9ac076b57995e49f225b31add57c3"), looks := false }, kinds := [], alts := [], laidByText := true, laidKinds := [.data], laidTests := true, laidLooks := .later }
def ColourOfSaysUptoCardSaid : Prop := Claim7.holds Tryz.pinned (.plain (OpenSpec.upto colourOfSaysSpec)) colourOfSaysUptoCard
end Rows
end Go.Proofs.YtkkllflbepcimaaGreatDoor
