/-
  DERIVED. GIVEN WITH THE SEED: THE CARDS: each row of YtgnkkgbjcodihaaDoorRows.lean that lists a variable, with what it lists TIED to the program's text (the seventh form; the later family's looks); each row that meets fmt, with fmt's text TOLD by the authors' own Lean function (tested against real Go, not proved from fmt's source: count such statements apart). THE CARD IS WHAT COUNTS. Prove the row's statement (the work); the ties are given (YtgnkkgbjcodihaaDoorTie.lean); close each card by the builder's one call (the guide's Derived/Test/ToyasCard.lean, 'card_holds'). Laid BY PROGRAM, IN A SANDBOX (cutbox-door.mjs). By AI agents, Wed Nov 11 2026. No macro, syntax, notation, axiom, sorry.
-/
import Derived.Test.YtgnkkgbjcodihaaDoorRows
import GoSem.ClaimSeven
namespace Go.Proofs.YtgnkkgbjcodihaaDoor
namespace Rows

/-- THE TIED CARD OF 'turnerylaw7.ClashWeighs'. -/
def clashWeighsCard : Claim7 := { stood := { row := clashWeighsRow, standIns := [], harness := (true, "82e03cd1ab2622e4be518f6f1d6f5e4b81265c56f035f014c04b2f6b2ac91a6b"), looks := false }, kinds := [], alts := [], laidByText := true, laidKinds := [.data], laidTests := true, laidLooks := .later }
def ClashWeighsCardSaid : Prop := Claim7.holds Tryd.pinned (.plain (OpenSpec.ofChange clashWeighsSpec)) clashWeighsCard

/-- THE TIED CARD OF 'turnerylaw7.ClashWeightsSays'. -/
def clashWeightsSaysCard : Claim7 := { stood := { row := clashWeightsSaysRow, standIns := [], harness := (true, "82e03cd1ab2622e4be518f6f1d6f5e4b81265c56f035f014c04b2f6b2ac91a6b"), looks := false }, kinds := [], alts := [], laidByText := true, laidKinds := [.data], laidTests := true, laidLooks := .later }
def ClashWeightsSaysCardSaid : Prop := Claim7.holds Tryd.pinned (.plain (OpenSpec.ofChange clashWeightsSaysSpec)) clashWeightsSaysCard

/-- THE TIED CARD OF 'turnerylaw7.ClashAcrossSays'. -/
def clashAcrossSaysCard : Claim7 := { stood := { row := clashAcrossSaysRow, standIns := [], harness := (true, "82e03cd1ab2622e4be518f6f1d6f5e4b81265c56f035f014c04b2f6b2ac91a6b"), looks := false }, kinds := [], alts := [], laidByText := true, laidKinds := [.data], laidTests := true, laidLooks := .later }
def ClashAcrossSaysCardSaid : Prop := Claim7.holds Tryd.pinned (.plain (OpenSpec.ofChange clashAcrossSaysSpec)) clashAcrossSaysCard

/-- THE TIED CARD OF 'turnerylaw7.ClashTurns'. -/
def clashTurnsCard : Claim7 := { stood := { row := clashTurnsRow, standIns := [], harness := (true, "82e03cd1ab2622e4be518f6f1d6f5e4b81265c56f035f014c04b2f6b2ac91a6b"), looks := false }, kinds := [], alts := [], laidByText := true, laidKinds := [.data], laidTests := true, laidLooks := .later }
def ClashTurnsCardSaid : Prop := Claim7.holds Tryd.pinned (.plain (OpenSpec.ofChange clashTurnsSpec)) clashTurnsCard

/-- THE TIED CARD OF 'turnerylaw7.ClashOfSays'. -/
def clashOfSaysCard : Claim7 := { stood := { row := clashOfSaysRow, standIns := [], harness := (true, "82e03cd1ab2622e4be518f6f1d6f5e4b81265c56f035f014c04b2f6b2ac91a6b"), looks := false }, kinds := [], alts := [], laidByText := true, laidKinds := [.data], laidTests := true, laidLooks := .later }
def ClashOfSaysCardSaid : Prop := Claim7.holds Tryd.pinned (.plain (OpenSpec.ofChange clashOfSaysSpec)) clashOfSaysCard

/-- THE TIED CARD OF 'turnerylaw7.ClashNames'. -/
def clashNamesCard : Claim7 := { stood := { row := clashNamesRow, standIns := [], harness := (true, "82e03cd1ab2622e4be518f6f1d6f5e4b81265c56f035f014c04b2f6b2ac91a6b"), looks := false }, kinds := [], alts := [], laidByText := true, laidKinds := [.data], laidTests := true, laidLooks := .later }
def ClashNamesCardSaid : Prop := Claim7.holds Tryd.pinned (.plain (OpenSpec.ofChange clashNamesSpec)) clashNamesCard

/-- THE TIED CARD OF 'turnerylaw7.ColourMerged'. -/
def colourMergedCard : Claim7 := { stood := { row := colourMergedRow, standIns := [], harness := (true, "82e03cd1ab2622e4be518f6f1d6f5e4b81265c56f035f014c04b2f6b2ac91a6b"), looks := false }, kinds := [], alts := [], laidByText := true, laidKinds := [.data], laidTests := true, laidLooks := .later }
def ColourMergedCardSaid : Prop := Claim7.holds Tryd.pinned (.plain (OpenSpec.ofChange colourMergedSpec)) colourMergedCard

/-- THE TIED CARD OF 'turnerylaw7.ColourFew'. -/
def colourFewCard : Claim7 := { stood := { row := colourFewRow, standIns := [], harness := (true, "82e03cd1ab2622e4be518f6f1d6f5e4b81265c56f035f014c04b2f6b2ac91a6b"), looks := false }, kinds := [], alts := [], laidByText := true, laidKinds := [.data], laidTests := true, laidLooks := .later }
def ColourFewCardSaid : Prop := Claim7.holds Tryd.pinned (.plain (OpenSpec.ofChange colourFewSpec)) colourFewCard

/-- THE SECOND FORM's CARD OF 'turnerylaw7.ClashWeighs'. -/
def clashWeighsUptoCard : Claim7 := { stood := { row := clashWeighsUptoRow, standIns := [], harness := (true, "82e03cd1ab2622e4be518f6f1d6f5e4b81265c56f035f014c04b2f6b2ac91a6b"), looks := false }, kinds := [], alts := [], laidByText := true, laidKinds := [.data], laidTests := true, laidLooks := .later }
def ClashWeighsUptoCardSaid : Prop := Claim7.holds Tryd.pinned (.plain (OpenSpec.upto clashWeighsSpec)) clashWeighsUptoCard

/-- THE SECOND FORM's CARD OF 'turnerylaw7.ClashWeightsSays'. -/
def clashWeightsSaysUptoCard : Claim7 := { stood := { row := clashWeightsSaysUptoRow, standIns := [], harness := (true, "82e03cd1ab2622e4be518f6f1d6f5e4b81265c56f035f014c04b2f6b2ac91a6b"), looks := false }, kinds := [], alts := [], laidByText := true, laidKinds := [.data], laidTests := true, laidLooks := .later }
def ClashWeightsSaysUptoCardSaid : Prop := Claim7.holds Tryd.pinned (.plain (OpenSpec.upto clashWeightsSaysSpec)) clashWeightsSaysUptoCard

/-- THE SECOND FORM's CARD OF 'turnerylaw7.ClashAcrossSays'. -/
def clashAcrossSaysUptoCard : Claim7 := { stood := { row := clashAcrossSaysUptoRow, standIns := [], harness := (true, "82e03cd1ab2622e4be518f6f1d6f5e4b81265c56f035f014c04b2f6b2ac91a6b"), looks := false }, kinds := [], alts := [], laidByText := true, laidKinds := [.data], laidTests := true, laidLooks := .later }
def ClashAcrossSaysUptoCardSaid : Prop := Claim7.holds Tryd.pinned (.plain (OpenSpec.upto clashAcrossSaysSpec)) clashAcrossSaysUptoCard

/-- THE SECOND FORM's CARD OF 'turnerylaw7.ClashTurns'. -/
def clashTurnsUptoCard : Claim7 := { stood := { row := clashTurnsUptoRow, standIns := [], harness := (true, "82e03cd1ab2622e4be518f6f1d6f5e4b81265c56f035f014c04b2f6b2ac91a6b"), looks := false }, kinds := [], alts := [], laidByText := true, laidKinds := [.data], laidTests := true, laidLooks := .later }
def ClashTurnsUptoCardSaid : Prop := Claim7.holds Tryd.pinned (.plain (OpenSpec.upto clashTurnsSpec)) clashTurnsUptoCard

/-- THE SECOND FORM's CARD OF 'turnerylaw7.ClashOfSays'. -/
def clashOfSaysUptoCard : Claim7 := { stood := { row := clashOfSaysUptoRow, standIns := [], harness := (true, "82e03cd1ab2622e4be518f6f1d6f5e4b81265c56f035f014c04b2f6b2ac91a6b"), looks := false }, kinds := [], alts := [], laidByText := true, laidKinds := [.data], laidTests := true, laidLooks := .later }
def ClashOfSaysUptoCardSaid : Prop := Claim7.holds Tryd.pinned (.plain (OpenSpec.upto clashOfSaysSpec)) clashOfSaysUptoCard

/-- THE SECOND FORM's CARD OF 'turnerylaw7.ClashNames'. -/
def clashNamesUptoCard : Claim7 := { stood := { row := clashNamesUptoRow, standIns := [], harness := (true, "82e03cd1ab2622e4be518f6f1d6f5e4b81265c56f035f014c04b2f6b2ac91a6b"), looks := false }, kinds := [], alts := [], laidByText := true, laidKinds := [.data], laidTests := true, laidLooks := .later }
def ClashNamesUptoCardSaid : Prop := Claim7.holds Tryd.pinned (.plain (OpenSpec.upto clashNamesSpec)) clashNamesUptoCard

/-- THE SECOND FORM's CARD OF 'turnerylaw7.ColourMerged'. -/
def colourMergedUptoCard : Claim7 := { stood := { row := colourMergedUptoRow, standIns := [], harness := (true, "82e03cd1ab2622e4be518f6f1d6f5e4b81265c56f035f014c04b2f6b2ac91a6b"), looks := false }, kinds := [], alts := [], laidByText := true, laidKinds := [.data], laidTests := true, laidLooks := .later }
def ColourMergedUptoCardSaid : Prop := Claim7.holds Tryd.pinned (.plain (OpenSpec.upto colourMergedSpec)) colourMergedUptoCard

/-- THE SECOND FORM's CARD OF 'turnerylaw7.ColourFew'. -/
def colourFewUptoCard : Claim7 := { stood := { row := colourFewUptoRow, standIns := [], harness := (true, "82e03cd1ab2622e4be518f6f1d6f5e4b81265c56f035f014c04b2f6b2ac91a6b"), looks := false }, kinds := [], alts := [], laidByText := true, laidKinds := [.data], laidTests := true, laidLooks := .later }
def ColourFewUptoCardSaid : Prop := Claim7.holds Tryd.pinned (.plain (OpenSpec.upto colourFewSpec)) colourFewUptoCard
end Rows
end Go.Proofs.YtgnkkgbjcodihaaDoor
