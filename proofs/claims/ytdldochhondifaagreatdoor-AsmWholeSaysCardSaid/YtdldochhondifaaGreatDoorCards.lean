/-
  DERIVED. GIVEN WITH THE SEED: THE CARDS: each row of YtdldochhondifaaGreatDoorRows.lean that lists a variable, with what it lists TIED to the program's text (the seventh form; the later family's looks); each row that meets fmt, with fmt's text TOLD by the authors' own Lean function (tested against real Go, not proved from fmt's source: count such statements apart). THE CARD IS WHAT COUNTS. Prove the row's statement (the work); the ties are given (YtdldochhondifaaGreatDoorTie.lean); close each card by the builder's one call (the guide's Derived/Test/ToyasCard.lean, 'card_holds'). Laid BY PROGRAM, IN A SANDBOX (cutbox-door.mjs). By AI agents, Wed Nov 11 2026. No macro, syntax, notation, axiom, sorry.
-/
import Derived.Test.YtdldochhondifaaGreatDoorRows
import GoSem.ClaimSeven
namespace Go.Proofs.YtdldochhondifaaGreatDoor
namespace Rows

/-- THE TIED CARD OF 'turnerylaw7.AsmReadSays'. -/
def asmReadSaysCard : Claim7 := { stood := { row := asmReadSaysRow, standIns := [], harness := (true, "02773443934c54428747a35ffac4b3d207e4114d906287de6eb5f3347e3a203b"), looks := true }, kinds := [], alts := [], laidByText := true, laidKinds := [.data, .data, .data, .data, .sentinel, .sentinel, .data, .widerDeep, .pinned], laidTests := true, laidLooks := .later }
def AsmReadSaysCardSaid : Prop := Claim7.holds Tryz.pinned (.plain (OpenSpec.ofChange asmReadSaysSpec)) asmReadSaysCard

/-- THE TIED CARD OF 'turnerylaw7.AsmBack'. -/
def asmBackCard : Claim7 := { stood := { row := asmBackRow, standIns := [], harness := (true, "02773443934c54428747a35ffac4b3d207e4114d906287de6eb5f3347e3a203b"), looks := true }, kinds := [], alts := [], laidByText := true, laidKinds := [.data, .data, .data, .data, .sentinel, .sentinel, .data, .widerDeep, .pinned], laidTests := true, laidLooks := .later }
def AsmBackCardSaid : Prop := Claim7.holds Tryz.pinned (.plain (OpenSpec.ofChange asmBackSpec)) asmBackCard

/-- THE TIED CARD OF 'turnerylaw7.AsmSpread'. -/
def asmSpreadCard : Claim7 := { stood := { row := asmSpreadRow, standIns := [], harness := (true, "02773443934c54428747a35ffac4b3d207e4114d906287de6eb5f3347e3a203b"), looks := true }, kinds := [], alts := [], laidByText := true, laidKinds := [.data, .data, .data, .data, .sentinel, .sentinel, .data, .widerDeep, .pinned], laidTests := true, laidLooks := .later }
def AsmSpreadCardSaid : Prop := Claim7.holds Tryz.pinned (.plain (OpenSpec.ofChange asmSpreadSpec)) asmSpreadCard

/-- THE TIED CARD OF 'turnerylaw7.AsmFixed'. -/
def asmFixedCard : Claim7 := { stood := { row := asmFixedRow, standIns := [], harness := (true, "02773443934c54428747a35ffac4b3d207e4114d906287de6eb5f3347e3a203b"), looks := true }, kinds := [], alts := [], laidByText := true, laidKinds := [.data, .data, .data, .data, .sentinel, .sentinel, .data, .widerDeep, .pinned], laidTests := true, laidLooks := .later }
def AsmFixedCardSaid : Prop := Claim7.holds Tryz.pinned (.plain (OpenSpec.ofChange asmFixedSpec)) asmFixedCard

/-- THE TIED CARD OF 'turnerylaw7.AsmWholeSays'. -/
def asmWholeSaysCard : Claim7 := { stood := { row := asmWholeSaysRow, standIns := [], harness := (true, "02773443934c54428747a35ffac4b3d207e4114d906287de6eb5f3347e3a203b"), looks := true }, kinds := [], alts := [], laidByText := true, laidKinds := [.data, .data, .data, .data, .sentinel, .sentinel, .data, .widerDeep, .pinned], laidTests := true, laidLooks := .later }
def AsmWholeSaysCardSaid : Prop := Claim7.holds Tryz.pinned (.plain (OpenSpec.ofChange asmWholeSaysSpec)) asmWholeSaysCard

/-- THE TIED CARD OF 'turnerylaw7.AsmApartBack'. -/
def asmApartBackCard : Claim7 := { stood := { row := asmApartBackRow, standIns := [], harness := (true, "02773443934c54428747a35ffac4b3d207e4114d906287de6eb5f3347e3a203b"), looks := true }, kinds := [], alts := [], laidByText := true, laidKinds := [.data, .data, .data, .data, .sentinel, .sentinel, .data, .widerDeep, .pinned], laidTests := true, laidLooks := .later }
def AsmApartBackCardSaid : Prop := Claim7.holds Tryz.pinned (.plain (OpenSpec.ofChange asmApartBackSpec)) asmApartBackCard

/-- THE TIED CARD OF 'turnerylaw7.AsmWholeFixed'. -/
def asmWholeFixedCard : Claim7 := { stood := { row := asmWholeFixedRow, standIns := [], harness := (true, "02773443934c54428747a35ffac4b3d207e4114d906287de6eb5f3347e3a203b"), looks := true }, kinds := [], alts := [], laidByText := true, laidKinds := [.data, .data, .data, .data, .sentinel, .sentinel, .data, .widerDeep, .pinned], laidTests := true, laidLooks := .later }
def AsmWholeFixedCardSaid : Prop := Claim7.holds Tryz.pinned (.plain (OpenSpec.ofChange asmWholeFixedSpec)) asmWholeFixedCard

/-- THE SECOND FORM's CARD OF 'turnerylaw7.AsmReadSays'. -/
def asmReadSaysUptoCard : Claim7 := { stood := { row := asmReadSaysUptoRow, standIns := [], harness := (true, "02773443934c54428747a35ffac4b3d207e4114d906287de6eb5f3347e3a203b"), looks := true }, kinds := [], alts := [], laidByText := true, laidKinds := [.data, .data, .data, .data, .sentinel, .sentinel, .data, .widerDeep, .pinned], laidTests := true, laidLooks := .later }
def AsmReadSaysUptoCardSaid : Prop := Claim7.holds Tryz.pinned (.plain (OpenSpec.upto asmReadSaysSpec)) asmReadSaysUptoCard

/-- THE SECOND FORM's CARD OF 'turnerylaw7.AsmBack'. -/
def asmBackUptoCard : Claim7 := { stood := { row := asmBackUptoRow, standIns := [], harness := (true, "02773443934c54428747a35ffac4b3d207e4114d906287de6eb5f3347e3a203b"), looks := true }, kinds := [], alts := [], laidByText := true, laidKinds := [.data, .data, .data, .data, .sentinel, .sentinel, .data, .widerDeep, .pinned], laidTests := true, laidLooks := .later }
def AsmBackUptoCardSaid : Prop := Claim7.holds Tryz.pinned (.plain (OpenSpec.upto asmBackSpec)) asmBackUptoCard

/-- THE SECOND FORM's CARD OF 'turnerylaw7.AsmSpread'. -/
def asmSpreadUptoCard : Claim7 := { stood := { row := asmSpreadUptoRow, standIns := [], harness := (true, "02773443934c54428747a35ffac4b3d207e4114d906287de6eb5f3347e3a203b"), looks := true }, kinds := [], alts := [], laidByText := true, laidKinds := [.data, .data, .data, .data, .sentinel, .sentinel, .data, .widerDeep, .pinned], laidTests := true, laidLooks := .later }
def AsmSpreadUptoCardSaid : Prop := Claim7.holds Tryz.pinned (.plain (OpenSpec.upto asmSpreadSpec)) asmSpreadUptoCard

/-- THE SECOND FORM's CARD OF 'turnerylaw7.AsmFixed'. -/
def asmFixedUptoCard : Claim7 := { stood := { row := asmFixedUptoRow, standIns := [], harness := (true, "02773443934c54428747a35ffac4b3d207e4114d906287de6eb5f3347e3a203b"), looks := true }, kinds := [], alts := [], laidByText := true, laidKinds := [.data, .data, .data, .data, .sentinel, .sentinel, .data, .widerDeep, .pinned], laidTests := true, laidLooks := .later }
def AsmFixedUptoCardSaid : Prop := Claim7.holds Tryz.pinned (.plain (OpenSpec.upto asmFixedSpec)) asmFixedUptoCard

/-- THE SECOND FORM's CARD OF 'turnerylaw7.AsmWholeSays'. -/
def asmWholeSaysUptoCard : Claim7 := { stood := { row := asmWholeSaysUptoRow, standIns := [], harness := (true, "02773443934c54428747a35ffac4b3d207e4114d906287de6eb5f3347e3a203b"), looks := true }, kinds := [], alts := [], laidByText := true, laidKinds := [.data, .data, .data, .data, .sentinel, .sentinel, .data, .widerDeep, .pinned], laidTests := true, laidLooks := .later }
def AsmWholeSaysUptoCardSaid : Prop := Claim7.holds Tryz.pinned (.plain (OpenSpec.upto asmWholeSaysSpec)) asmWholeSaysUptoCard

/-- THE SECOND FORM's CARD OF 'turnerylaw7.AsmApartBack'. -/
def asmApartBackUptoCard : Claim7 := { stood := { row := asmApartBackUptoRow, standIns := [], harness := (true, "02773443934c54428747a35ffac4b3d207e4114d906287de6eb5f3347e3a203b"), looks := true }, kinds := [], alts := [], laidByText := true, laidKinds := [.data, .data, .data, .data, .sentinel, .sentinel, .data, .widerDeep, .pinned], laidTests := true, laidLooks := .later }
def AsmApartBackUptoCardSaid : Prop := Claim7.holds Tryz.pinned (.plain (OpenSpec.upto asmApartBackSpec)) asmApartBackUptoCard

/-- THE SECOND FORM's CARD OF 'turnerylaw7.AsmWholeFixed'. -/
def asmWholeFixedUptoCard : Claim7 := { stood := { row := asmWholeFixedUptoRow, standIns := [], harness := (true, "02773443934c54428747a35ffac4b3d207e4114d906287de6eb5f3347e3a203b"), looks := true }, kinds := [], alts := [], laidByText := true, laidKinds := [.data, .data, .data, .data, .sentinel, .sentinel, .data, .widerDeep, .pinned], laidTests := true, laidLooks := .later }
def AsmWholeFixedUptoCardSaid : Prop := Claim7.holds Tryz.pinned (.plain (OpenSpec.upto asmWholeFixedSpec)) asmWholeFixedUptoCard
end Rows
end Go.Proofs.YtdldochhondifaaGreatDoor
