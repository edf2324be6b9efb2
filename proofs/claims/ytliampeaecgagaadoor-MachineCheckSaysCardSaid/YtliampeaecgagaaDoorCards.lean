/-
  DERIVED. GIVEN WITH THE SEED: THE CARDS: each row of YtliampeaecgagaaDoorRows.lean that lists a variable, with what it lists TIED to the program's text (the seventh form; the later family's looks); each row that meets fmt, with fmt's text TOLD by the authors' own Lean function (tested against real Go, not proved from fmt's source: count such statements apart). THE CARD IS WHAT COUNTS. Prove the row's statement (the work); the ties are given (YtliampeaecgagaaDoorTie.lean); close each card by the builder's one call (the guide's Derived/Test/ToyasCard.lean, 'card_holds'). Laid BY PROGRAM, IN A SANDBOX (cutbox-door.mjs). By AI agents, Wed Nov 11 2026. No macro, syntax, notation, axiom, sorry.
-/
import Derived.Test.YtliampeaecgagaaDoorRows
import GoSem.ClaimSeven
namespace Go.Proofs.YtliampeaecgagaaDoor
namespace Rows

/-- THE TIED CARD OF 'turnerylaw7.BytesReadSays'. -/
def bytesReadSaysCard : Claim7 := { stood := { row := bytesReadSaysRow, standIns := [], harness := (true, "fb79b5a595d94eee4ac97559048ccae7ee7e2078ecdd904529b035bc1ea03675"), looks := false }, kinds := [], alts := [], laidByText := true, laidKinds := [.data], laidTests := true, laidLooks := .later }
def BytesReadSaysCardSaid : Prop := Claim7.holds Tryd.pinned (.plain (OpenSpec.ofChange bytesReadSaysSpec)) bytesReadSaysCard

/-- THE TIED CARD OF 'turnerylaw7.BytesBack'. -/
def bytesBackCard : Claim7 := { stood := { row := bytesBackRow, standIns := [], harness := (true, "fb79b5a595d94eee4ac97559048ccae7ee7e2078ecdd904529b035bc1ea03675"), looks := false }, kinds := [], alts := [], laidByText := true, laidKinds := [.data], laidTests := true, laidLooks := .later }
def BytesBackCardSaid : Prop := Claim7.holds Tryd.pinned (.plain (OpenSpec.ofChange bytesBackSpec)) bytesBackCard

/-- THE TIED CARD OF 'turnerylaw7.BytesFixed'. -/
def bytesFixedCard : Claim7 := { stood := { row := bytesFixedRow, standIns := [], harness := (true, "fb79b5a595d94eee4ac97559048ccae7ee7e2078ecdd904529b035bc1ea03675"), looks := false }, kinds := [], alts := [], laidByText := true, laidKinds := [.data], laidTests := true, laidLooks := .later }
def BytesFixedCardSaid : Prop := Claim7.holds Tryd.pinned (.plain (OpenSpec.ofChange bytesFixedSpec)) bytesFixedCard

/-- THE TIED CARD OF 'turnerylaw7.MachineCheckSays'. -/
def machineCheckSaysCard : Claim7 := { stood := { row := machineCheckSaysRow, standIns := [], harness := (true, "fb79b5a595d94eee4ac97559048ccae7ee7e2078ecdd904529b035bc1ea03675"), looks := false }, kinds := [], alts := [], laidByText := true, laidKinds := [.data], laidTests := true, laidLooks := .later }
def MachineCheckSaysCardSaid : Prop := Claim7.holds Tryd.pinned (.plain (OpenSpec.ofChange machineCheckSaysSpec)) machineCheckSaysCard

/-- THE TIED CARD OF 'turnerylaw7.MachineLoop'. -/
def machineLoopCard : Claim7 := { stood := { row := machineLoopRow, standIns := [], harness := (true, "fb79b5a595d94eee4ac97559048ccae7ee7e2078ecdd904529b035bc1ea03675"), looks := false }, kinds := [], alts := [], laidByText := true, laidKinds := [.data], laidTests := true, laidLooks := .later }
def MachineLoopCardSaid : Prop := Claim7.holds Tryd.pinned (.plain (OpenSpec.ofChange machineLoopSpec)) machineLoopCard

/-- THE TIED CARD OF 'turnerylaw7.MachineDeep'. -/
def machineDeepCard : Claim7 := { stood := { row := machineDeepRow, standIns := [], harness := (true, "fb79b5a595d94eee4ac97559048ccae7ee7e2078ecdd904529b035bc1ea03675"), looks := false }, kinds := [], alts := [], laidByText := true, laidKinds := [.data], laidTests := true, laidLooks := .later }
def MachineDeepCardSaid : Prop := Claim7.holds Tryd.pinned (.plain (OpenSpec.ofChange machineDeepSpec)) machineDeepCard

/-- THE TIED CARD OF 'turnerylaw7.MachineRunSays'. -/
def machineRunSaysCard : Claim7 := { stood := { row := machineRunSaysRow, standIns := [], harness := (true, "fb79b5a595d94eee4ac97559048ccae7ee7e2078ecdd904529b035bc1ea03675"), looks := false }, kinds := [], alts := [], laidByText := true, laidKinds := [.data], laidTests := true, laidLooks := .later }
def MachineRunSaysCardSaid : Prop := Claim7.holds Tryd.pinned (.plain (OpenSpec.ofChange machineRunSaysSpec)) machineRunSaysCard

/-- THE TIED CARD OF 'turnerylaw7.MachineMetSays'. -/
def machineMetSaysCard : Claim7 := { stood := { row := machineMetSaysRow, standIns := [], harness := (true, "fb79b5a595d94eee4ac97559048ccae7ee7e2078ecdd904529b035bc1ea03675"), looks := false }, kinds := [], alts := [], laidByText := true, laidKinds := [.data], laidTests := true, laidLooks := .later }
def MachineMetSaysCardSaid : Prop := Claim7.holds Tryd.pinned (.plain (OpenSpec.ofChange machineMetSaysSpec)) machineMetSaysCard

/-- THE TIED CARD OF 'turnerylaw7.MachineFuel'. -/
def machineFuelCard : Claim7 := { stood := { row := machineFuelRow, standIns := [], harness := (true, "fb79b5a595d94eee4ac97559048ccae7ee7e2078ecdd904529b035bc1ea03675"), looks := false }, kinds := [], alts := [], laidByText := true, laidKinds := [.data], laidTests := true, laidLooks := .later }
def MachineFuelCardSaid : Prop := Claim7.holds Tryd.pinned (.plain (OpenSpec.ofChange machineFuelSpec)) machineFuelCard

/-- THE TIED CARD OF 'turnerylaw7.MachinePrefix'. -/
def machinePrefixCard : Claim7 := { stood := { row := machinePrefixRow, standIns := [], harness := (true, "fb79b5a595d94eee4ac97559048ccae7ee7e2078ecdd904529b035bc1ea03675"), looks := false }, kinds := [], alts := [], laidByText := true, laidKinds := [.data], laidTests := true, laidLooks := .later }
def MachinePrefixCardSaid : Prop := Claim7.holds Tryd.pinned (.plain (OpenSpec.ofChange machinePrefixSpec)) machinePrefixCard

/-- THE TIED CARD OF 'turnerylaw7.MachineOrder'. -/
def machineOrderCard : Claim7 := { stood := { row := machineOrderRow, standIns := [], harness := (true, "fb79b5a595d94eee4ac97559048ccae7ee7e2078ecdd904529b035bc1ea03675"), looks := false }, kinds := [], alts := [], laidByText := true, laidKinds := [.data], laidTests := true, laidLooks := .later }
def MachineOrderCardSaid : Prop := Claim7.holds Tryd.pinned (.plain (OpenSpec.ofChange machineOrderSpec)) machineOrderCard

/-- THE TIED CARD OF 'turnerylaw7.MachineMetSum'. -/
def machineMetSumCard : Claim7 := { stood := { row := machineMetSumRow, standIns := [], harness := (true, "fb79b5a595d94eee4ac97559048ccae7ee7e2078ecdd904529b035bc1ea03675"), looks := false }, kinds := [], alts := [], laidByText := true, laidKinds := [.data], laidTests := true, laidLooks := .later }
def MachineMetSumCardSaid : Prop := Claim7.holds Tryd.pinned (.plain (OpenSpec.ofChange machineMetSumSpec)) machineMetSumCard

/-- THE TIED CARD OF 'turnerylaw7.MachineUnmet'. -/
def machineUnmetCard : Claim7 := { stood := { row := machineUnmetRow, standIns := [], harness := (true, "fb79b5a595d94eee4ac97559048ccae7ee7e2078ecdd904529b035bc1ea03675"), looks := false }, kinds := [], alts := [], laidByText := true, laidKinds := [.data], laidTests := true, laidLooks := .later }
def MachineUnmetCardSaid : Prop := Claim7.holds Tryd.pinned (.plain (OpenSpec.ofChange machineUnmetSpec)) machineUnmetCard

/-- THE TIED CARD OF 'turnerylaw7.MachineDead'. -/
def machineDeadCard : Claim7 := { stood := { row := machineDeadRow, standIns := [], harness := (true, "fb79b5a595d94eee4ac97559048ccae7ee7e2078ecdd904529b035bc1ea03675"), looks := false }, kinds := [], alts := [], laidByText := true, laidKinds := [.data], laidTests := true, laidLooks := .later }
def MachineDeadCardSaid : Prop := Claim7.holds Tryd.pinned (.plain (OpenSpec.ofChange machineDeadSpec)) machineDeadCard

/-- THE SECOND FORM's CARD OF 'turnerylaw7.BytesReadSays'. -/
def bytesReadSaysUptoCard : Claim7 := { stood := { row := bytesReadSaysUptoRow, standIns := [], harness := (true, "fb79b5a595d94eee4ac97559048ccae7ee7e2078ecdd904529b035bc1ea03675"), looks := false }, kinds := [], alts := [], laidByText := true, laidKinds := [.data], laidTests := true, laidLooks := .later }
def BytesReadSaysUptoCardSaid : Prop := Claim7.holds Tryd.pinned (.plain (OpenSpec.upto bytesReadSaysSpec)) bytesReadSaysUptoCard

/-- THE SECOND FORM's CARD OF 'turnerylaw7.BytesBack'. -/
def bytesBackUptoCard : Claim7 := { stood := { row := bytesBackUptoRow, standIns := [], harness := (true, "fb79b5a595d94eee4ac97559048ccae7ee7e2078ecdd904529b035bc1ea03675"), looks := false }, kinds := [], alts := [], laidByText := true, laidKinds := [.data], laidTests := true, laidLooks := .later }
def BytesBackUptoCardSaid : Prop := Claim7.holds Tryd.pinned (.plain (OpenSpec.upto bytesBackSpec)) bytesBackUptoCard

/-- THE SECOND FORM's CARD OF 'turnerylaw7.BytesFixed'. -/
def bytesFixedUptoCard : Claim7 := { stood := { row := bytesFixedUptoRow, standIns := [], harness := (true, "fb79b5a595d94eee4ac97559048ccae7ee7e2078ecdd904529b035bc1ea03675"), looks := false }, kinds := [], alts := [], laidByText := true, laidKinds := [.data], laidTests := true, laidLooks := .later }
def BytesFixedUptoCardSaid : Prop := Claim7.holds Tryd.pinned (.plain (OpenSpec.upto bytesFixedSpec)) bytesFixedUptoCard

/-- THE SECOND FORM's CARD OF 'turnerylaw7.MachineCheckSays'. -/
def machineCheckSaysUptoCard : Claim7 := { stood := { row := machineCheckSaysUptoRow, standIns := [], harness := (true, "fb79b5a595d94eee4ac97559048ccae7ee7e2078ecdd904529b035bc1ea03675"), looks := false }, kinds := [], alts := [], laidByText := true, laidKinds := [.data], laidTests := true, laidLooks := .later }
def MachineCheckSaysUptoCardSaid : Prop := Claim7.holds Tryd.pinned (.plain (OpenSpec.upto machineCheckSaysSpec)) machineCheckSaysUptoCard

/-- THE SECOND FORM's CARD OF 'turnerylaw7.MachineLoop'. -/
def machineLoopUptoCard : Claim7 := { stood := { row := machineLoopUptoRow, standIns := [], harness := (true, "fb79b5a595d94eee4ac97559048ccae7ee7e2078ecdd904529b035bc1ea03675"), looks := false }, kinds := [], alts := [], laidByText := true, laidKinds := [.data], laidTests := true, laidLooks := .later }
def MachineLoopUptoCardSaid : Prop := Claim7.holds Tryd.pinned (.plain (OpenSpec.upto machineLoopSpec)) machineLoopUptoCard

/-- THE SECOND FORM's CARD OF 'turnerylaw7.MachineDeep'. -/
def machineDeepUptoCard : Claim7 := { stood := { row := machineDeepUptoRow, standIns := [], harness := (true, "fb79b5a595d94eee4ac97559048ccae7ee7e2078ecdd904529b035bc1ea03675"), looks := false }, kinds := [], alts := [], laidByText := true, laidKinds := [.data], laidTests := true, laidLooks := .later }
def MachineDeepUptoCardSaid : Prop := Claim7.holds Tryd.pinned (.plain (OpenSpec.upto machineDeepSpec)) machineDeepUptoCard

/-- THE SECOND FORM's CARD OF 'turnerylaw7.MachineRunSays'. -/
def machineRunSaysUptoCard : Claim7 := { stood := { row := machineRunSaysUptoRow, standIns := [], harness := (true, "fb79b5a595d94eee4ac97559048ccae7ee7e2078ecdd904529b035bc1ea03675"), looks := false }, kinds := [], alts := [], laidByText := true, laidKinds := [.data], laidTests := true, laidLooks := .later }
def MachineRunSaysUptoCardSaid : Prop := Claim7.holds Tryd.pinned (.plain (OpenSpec.upto machineRunSaysSpec)) machineRunSaysUptoCard

/-- THE SECOND FORM's CARD OF 'turnerylaw7.MachineMetSays'. -/
def machineMetSaysUptoCard : Claim7 := { stood := { row := machineMetSaysUptoRow, standIns := [], harness := (true, "fb79b5a595d94eee4ac97559048ccae7ee7e2078ecdd904529b035bc1ea03675"), looks := false }, kinds := [], alts := [], laidByText := true, laidKinds := [.data], laidTests := true, laidLooks := .later }
def MachineMetSaysUptoCardSaid : Prop := Claim7.holds Tryd.pinned (.plain (OpenSpec.upto machineMetSaysSpec)) machineMetSaysUptoCard

/-- THE SECOND FORM's CARD OF 'turnerylaw7.MachineFuel'. -/
def machineFuelUptoCard : Claim7 := { stood := { row := machineFuelUptoRow, standIns := [], harness := (true, "fb79b5a595d94eee4ac97559048ccae7ee7e2078ecdd904529b035bc1ea03675"), looks := false }, kinds := [], alts := [], laidByText := true, laidKinds := [.data], laidTests := true, laidLooks := .later }
def MachineFuelUptoCardSaid : Prop := Claim7.holds Tryd.pinned (.plain (OpenSpec.upto machineFuelSpec)) machineFuelUptoCard

/-- THE SECOND FORM's CARD OF 'turnerylaw7.MachinePrefix'. -/
def machinePrefixUptoCard : Claim7 := { stood := { row := machinePrefixUptoRow, standIns := [], harness := (true, "fb79b5a595d94eee4ac97559048ccae7ee7e2078ecdd904529b035bc1ea03675"), looks := false }, kinds := [], alts := [], laidByText := true, laidKinds := [.data], laidTests := true, laidLooks := .later }
def MachinePrefixUptoCardSaid : Prop := Claim7.holds Tryd.pinned (.plain (OpenSpec.upto machinePrefixSpec)) machinePrefixUptoCard

/-- THE SECOND FORM's CARD OF 'turnerylaw7.MachineOrder'. -/
def machineOrderUptoCard : Claim7 := { stood := { row := machineOrderUptoRow, standIns := [], harness := (true, "fb79b5a595d94eee4ac97559048ccae7ee7e2078ecdd904529b035bc1ea03675"), looks := false }, kinds := [], alts := [], laidByText := true, laidKinds := [.data], laidTests := true, laidLooks := .later }
def MachineOrderUptoCardSaid : Prop := Claim7.holds Tryd.pinned (.plain (OpenSpec.upto machineOrderSpec)) machineOrderUptoCard

/-- THE SECOND FORM's CARD OF 'turnerylaw7.MachineMetSum'. -/
def machineMetSumUptoCard : Claim7 := { stood := { row := machineMetSumUptoRow, standIns := [], harness := (true, "fb79b5a595d94eee4ac97559048ccae7ee7e2078ecdd904529b035bc1ea03675"), looks := false }, kinds := [], alts := [], laidByText := true, laidKinds := [.data], laidTests := true, laidLooks := .later }
def MachineMetSumUptoCardSaid : Prop := Claim7.holds Tryd.pinned (.plain (OpenSpec.upto machineMetSumSpec)) machineMetSumUptoCard

/-- THE SECOND FORM's CARD OF 'turnerylaw7.MachineUnmet'. -/
def machineUnmetUptoCard : Claim7 := { stood := { row := machineUnmetUptoRow, standIns := [], harness := (true, "fb79b5a595d94eee4ac97559048ccae7ee7e2078ecdd904529b035bc1ea03675"), looks := false }, kinds := [], alts := [], laidByText := true, laidKinds := [.data], laidTests := true, laidLooks := .later }
def MachineUnmetUptoCardSaid : Prop := Claim7.holds Tryd.pinned (.plain (OpenSpec.upto machineUnmetSpec)) machineUnmetUptoCard

/-- THE SECOND FORM's CARD OF 'turnerylaw7.MachineDead'. -/
def machineDeadUptoCard : Claim7 := { stood := { row := machineDeadUptoRow, standIns := [], harness := (true, "fb79b5a595d94eee4ac97559048ccae7ee7e2078ecdd904529b035bc1ea03675"), looks := false }, kinds := [], alts := [], laidByText := true, laidKinds := [.data], laidTests := true, laidLooks := .later }
def MachineDeadUptoCardSaid : Prop := Claim7.holds Tryd.pinned (.plain (OpenSpec.upto machineDeadSpec)) machineDeadUptoCard
end Rows
end Go.Proofs.YtliampeaecgagaaDoor
