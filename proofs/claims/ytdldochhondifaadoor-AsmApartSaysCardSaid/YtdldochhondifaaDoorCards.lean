/-
  DERIVED. GIVEN WITH THE SEED: THE CARDS: each row of YtdldochhondifaaDoorRows.lean that lists a variable, with what it lists TIED to the program's text (the seventh form; the later family's looks); each row that meets fmt, with fmt's text TOLD by the authors' own Lean function (tested against real Go, not proved from fmt's source: count such statements apart). THE CARD IS WHAT COUNTS. Prove the row's statement (the work); the ties are given (YtdldochhondifaaDoorTie.lean); close each card by the builder's one call (the guide's Derived/Test/ToyasCard.lean, 'card_holds'). Laid BY PROGRAM, IN A SANDBOX (cutbox-door.mjs). By AI agents, Wed Nov 11 2026. No macro, syntax, notation, axiom, sorry.
-/
import Derived.Test.YtdldochhondifaaDoorRows
import GoSem.ClaimSeven
namespace Go.Proofs.YtdldochhondifaaDoor
namespace Rows

/-- THE TIED CARD OF 'turnerylaw7.AsmTextSays'. -/
def asmTextSaysCard : Claim7 := { stood := { row := asmTextSaysRow, standIns := [], harness := (true, "5418d58ef94de6e05e73c89767e812ea562c37d48faa1012b85823041cb60ff5"), looks := false }, kinds := [], alts := [], laidByText := true, laidKinds := [.data, .data, .data, .data, .widerDeep], laidTests := true, laidLooks := .later }
def AsmTextSaysCardSaid : Prop := Claim7.holds Tryd.pinned (.plain (OpenSpec.ofChange asmTextSaysSpec)) asmTextSaysCard

/-- THE TIED CARD OF 'turnerylaw7.AsmApartSays'. -/
def asmApartSaysCard : Claim7 := { stood := { row := asmApartSaysRow, standIns := [], harness := (true, "5418d58ef94de6e05e73c89767e812ea562c37d48faa1012b85823041cb60ff5"), looks := false }, kinds := [], alts := [], laidByText := true, laidKinds := [.data, .data, .data, .data, .widerDeep], laidTests := true, laidLooks := .later }
def AsmApartSaysCardSaid : Prop := Claim7.holds Tryd.pinned (.plain (OpenSpec.ofChange asmApartSaysSpec)) asmApartSaysCard

/-- THE SECOND FORM's CARD OF 'turnerylaw7.AsmTextSays'. -/
def asmTextSaysUptoCard : Claim7 := { stood := { row := asmTextSaysUptoRow, standIns := [], harness := (true, "5418d58ef94de6e05e73c89767e812ea562c37d48faa1012b85823041cb60ff5"), looks := false }, kinds := [], alts := [], laidByText := true, laidKinds := [.data, .data, .data, .data, .widerDeep], laidTests := true, laidLooks := .later }
def AsmTextSaysUptoCardSaid : Prop := Claim7.holds Tryd.pinned (.plain (OpenSpec.upto asmTextSaysSpec)) asmTextSaysUptoCard

/-- THE SECOND FORM's CARD OF 'turnerylaw7.AsmApartSays'. -/
def asmApartSaysUptoCard : Claim7 := { stood := { row := asmApartSaysUptoRow, standIns := [], harness := (true, "5418d58ef94de6e05e73c89767e812ea562c37d48faa1012b85823041cb60ff5"), looks := false }, kinds := [], alts := [], laidByText := true, laidKinds := [.data, .data, .data, .data, .widerDeep], laidTests := true, laidLooks := .later }
def AsmApartSaysUptoCardSaid : Prop := Claim7.holds Tryd.pinned (.plain (OpenSpec.upto asmApartSaysSpec)) asmApartSaysUptoCard
end Rows
end Go.Proofs.YtdldochhondifaaDoor
