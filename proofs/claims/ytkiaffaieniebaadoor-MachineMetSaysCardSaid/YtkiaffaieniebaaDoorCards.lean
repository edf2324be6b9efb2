/-
  DERIVED. GIVEN WITH THE SEED: THE CARDS: each row of YtkiaffaieniebaaDoorRows.lean that lists a variable, with what it lists TIED to the program's text (the seventh form; the later family's looks); each row that meets fmt, with fmt's text TOLD by the authors' own Lean function (tested against real Go, not proved from fmt's source: count such statements apart). THE CARD IS WHAT COUNTS. Prove the row's statement (the work); the ties are given (YtkiaffaieniebaaDoorTie.lean); close each card by the builder's one call (the guide's Derived/Test/ToyasCard.lean, 'card_holds'). Laid BY PROGRAM, IN A SANDBOX (cutbox-door.mjs). By AI agents, Wed Nov 11 2026. No macro, syntax, notation, axiom, sorry.
-/
import Derived.Test.YtkiaffaieniebaaDoorRows
import GoSem.ClaimSeven
namespace Go.Proofs.YtkiaffaieniebaaDoor
namespace Rows

/-- THE TIED CARD OF 'turnerylaw7.MachineLoop'. -/
def machineLoopCard : Claim7 := { stood := { row := machineLoopRow, standIns := [], harness := (true, "2337451b9506bfbad14a937520ca4e0b4b894d76d9c2dc8c0b1af998937a9ff8"), looks := false }, kinds := [], alts := [], laidByText := true, laidKinds := [.data], laidTests := true, laidLooks := .later }
def MachineLoopCardSaid : Prop := Claim7.holds Tryd.pinned (.plain (OpenSpec.ofChange machineLoopSpec)) machineLoopCard

/-- THE TIED CARD OF 'turnerylaw7.MachineDeep'. -/
def machineDeepCard : Claim7 := { stood := { row := machineDeepRow, standIns := [], harness := (true, "2337451b9506bfbad14a937520ca4e0b4b894d76d9c2dc8c0b1af998937a9ff8"), looks := false }, kinds := [], alts := [], laidByText := true, laidKinds := [.data], laidTests := true, laidLooks := .later }
def MachineDeepCardSaid : Prop := Claim7.holds Tryd.pinned (.plain (OpenSpec.ofChange machineDeepSpec)) machineDeepCard

/-- THE TIED CARD OF 'turnerylaw7.MachineRunSays'. -/
def machineRunSaysCard : Claim7 := { stood := { row := machineRunSaysRow, standIns := [], harness := (true, "2337451b9506bfbad14a937520ca4e0b4b894d76d9c2dc8c0b1af998937a9ff8"), looks := false }, kinds := [], alts := [], laidByText := true, laidKinds := [.data], laidTests := true, laidLooks := .later }
def MachineRunSaysCardSaid : Prop := Claim7.holds Tryd.pinned (.plain (OpenSpec.ofChange machineRunSaysSpec)) machineRunSaysCard

/-- THE TIED CARD OF 'turnerylaw7.MachineMetSays'. -/
def machineMetSaysCard : Claim7 := { stood := { row := machineMetSaysRow, standIns := [], harness := (true, "2337451b9506bfbad14a937520ca4e0b4b894d76d9c2dc8c0b1af998937a9ff8"), looks := false }, kinds := [], alts := [], laidByText := true, laidKinds := [.data], laidTests := true, laidLooks := .later }
def MachineMetSaysCardSaid : Prop := Claim7.holds Tryd.pinned (.plain (OpenSpec.ofChange machineMetSaysSpec)) machineMetSaysCard

/-- THE TIED CARD OF 'turnerylaw7.MachineFuel'. -/
def machineFuelCard : Claim7 := { stood := { row := machineFuelRow, standIns := [], harness := (true, "2337451b9506bfbad14a937520ca4e0b4b894d76d9c2dc8c0b1af998937a9ff8"), looks := false }, kinds := [], alts := [], laidByText := true, laidKinds := [.data], laidTests := true, laidLooks := .later }
def MachineFuelCardSaid : Prop := Claim7.holds Tryd.pinned (.plain (OpenSpec.ofChange machineFuelSpec)) machineFuelCard

/-- THE TIED CARD OF 'turnerylaw7.MachinePrefix'. -/
def machinePrefixCard : Claim7 := { stood := { row := machinePrefixRow, standIns := [], harness := (true, "2337451b9506bfbad14a937520ca4e0b4b894d76d9c2dc8c0b1af998937a9ff8"), looks := false }, kinds := [], alts := [], laidByText := true, laidKinds := [.data], laidTests := true, laidLooks := .later }
def MachinePrefixCardSaid : Prop := Claim7.holds Tryd.pinned (.plain (OpenSpec.ofChange machinePrefixSpec)) machinePrefixCard

/-- THE TIED CARD OF 'turnerylaw7.MachineOrder'. -/
def machineOrderCard : Claim7 := { stood := { row := machineOrderRow, standIns := [], harness := (true, "2337451b9506bfbad14a937520ca4e0b4b894d76d9c2dc8c0b1af998937a9ff8"), looks := false }, kinds := [], alts := [], laidByText := true, laidKinds := [.data], laidTests := true, laidLooks := .later }
def MachineOrderCardSaid : Prop := Claim7.holds Tryd.pinned (.plain (OpenSpec.ofChange machineOrderSpec)) machineOrderCard

/-- THE TIED CARD OF 'turnerylaw7.MachineMetSum'. -/
def machineMetSumCard : Claim7 := { stood := { row := machineMetSumRow, standIns := [], harness := (true, "2337451b9506bfbad14a937520ca4e0b4b894d76d9c2dc8c0b1af998937a9ff8"), looks := false }, kinds := [], alts := [], laidByText := true, laidKinds := [.data], laidTests := true, laidLooks := .later }
def MachineMetSumCardSaid : Prop := Claim7.holds Tryd.pinned (.plain (OpenSpec.ofChange machineMetSumSpec)) machineMetSumCard

/-- THE TIED CARD OF 'turnerylaw7.MachineUnmet'. -/
def machineUnmetCard : Claim7 := { stood := { row := machineUnmetRow, standIns := [], harness := (true, "2337451b9506bfbad14a937520ca4e0b4b894d76d9c2dc8c0b1af998937a9ff8"), looks := false }, kinds := [], alts := [], laidByText := true, laidKinds := [.data], laidTests := true, laidLooks := .later }
def MachineUnmetCardSaid : Prop := Claim7.holds Tryd.pinned (.plain (OpenSpec.ofChange machineUnmetSpec)) machineUnmetCard

/-- THE TIED CARD OF 'turnerylaw7.MachineDead'. -/
def machineDeadCard : Claim7 := { stood := { row := machineDeadRow, standIns := [], harness := (true, "2337451b9506bfbad14a937520ca4e0b4b894d76d9c2dc8c0b1af998937a9ff8"), looks := false }, kinds := [], alts := [], laidByText := true, laidKinds := [.data], laidTests := true, laidLooks := .later }
def MachineDeadCardSaid : Prop := Claim7.holds Tryd.pinned (.plain (OpenSpec.ofChange machineDeadSpec)) machineDeadCard

/-- THE SECOND FORM's CARD OF 'turnerylaw7.MachineLoop'. -/
def machineLoopUptoCard : Claim7 := { stood := { row := machineLoopUptoRow, standIns := [], harness := (true, "2337451b9506bfbad14a937520ca4e0b4b894d76d9c2dc8c0b1af998937a9ff8"), looks := false }, kinds := [], alts := [], laidByText := true, laidKinds := [.data], laidTests := true, laidLooks := .later }
def MachineLoopUptoCardSaid : Prop := Claim7.holds Tryd.pinned (.plain (OpenSpec.upto machineLoopSpec)) machineLoopUptoCard

/-- THE SECOND FORM's CARD OF 'turnerylaw7.MachineDeep'. -/
def machineDeepUptoCard : Claim7 := { stood := { row := machineDeepUptoRow, standIns := [], harness := (true, "2337451b9506bfbad14a937520ca4e0b4b894d76d9c2dc8c0b1af998937a9ff8"), looks := false }, kinds := [], alts := [], laidByText := true, laidKinds := [.data], laidTests := true, laidLooks := .later }
def MachineDeepUptoCardSaid : Prop := Claim7.holds Tryd.pinned (.plain (OpenSpec.upto machineDeepSpec)) machineDeepUptoCard

/-- THE SECOND FORM's CARD OF 'turnerylaw7.MachineRunSays'. -/
def machineRunSaysUptoCard : Claim7 := { stood := { row := machineRunSaysUptoRow, standIns := [], harness := (true, "2337451b9506bfbad14a937520ca4e0b4b894d76d9c2dc8c0b1af998937a9ff8"), looks := false }, kinds := [], alts := [], laidByText := true, laidKinds := [.data], laidTests := true, laidLooks := .later }
def MachineRunSaysUptoCardSaid : Prop := Claim7.holds Tryd.pinned (.plain (OpenSpec.upto machineRunSaysSpec)) machineRunSaysUptoCard

/-- THE SECOND FORM's CARD OF 'turnerylaw7.MachineMetSays'. -/
def machineMetSaysUptoCard : Claim7 := { stood := { row := machineMetSaysUptoRow, standIns := [], harness := (true, "2337451b9506bfbad14a937520ca4e0b4b894d76d9c2dc8c0b1af998937a9ff8"), looks := false }, kinds := [], alts := [], laidByText := true, laidKinds := [.data], laidTests := true, laidLooks := .later }
def MachineMetSaysUptoCardSaid : Prop := Claim7.holds Tryd.pinned (.plain (OpenSpec.upto machineMetSaysSpec)) machineMetSaysUptoCard

/-- THE SECOND FORM's CARD OF 'turnerylaw7.MachineFuel'. -/
def machineFuelUptoCard : Claim7 := { stood := { row := machineFuelUptoRow, standIns := [], harness := (true, "2337451b9506bfbad14a937520ca4e0b4b894d76d9c2dc8c0b1af998937a9ff8"), looks := false }, kinds := [], alts := [], laidByText := true, laidKinds := [.data], laidTests := true, laidLooks := .later }
def MachineFuelUptoCardSaid : Prop := Claim7.holds Tryd.pinned (.plain (OpenSpec.upto machineFuelSpec)) machineFuelUptoCard

/-- THE SECOND FORM's CARD OF 'turnerylaw7.MachinePrefix'. -/
def machinePrefixUptoCard : Claim7 := { stood := { row := machinePrefixUptoRow, standIns := [], harness := (true, "2337451b9506bfbad14a937520ca4e0b4b894d76d9c2dc8c0b1af998937a9ff8"), looks := false }, kinds := [], alts := [], laidByText := true, laidKinds := [.data], laidTests := true, laidLooks := .later }
def MachinePrefixUptoCardSaid : Prop := Claim7.holds Tryd.pinned (.plain (OpenSpec.upto machinePrefixSpec)) machinePrefixUptoCard

/-- THE SECOND FORM's CARD OF 'turnerylaw7.MachineOrder'. -/
def machineOrderUptoCard : Claim7 := { stood := { row := machineOrderUptoRow, standIns := [], harness := (true, "2337451b9506bfbad14a937520ca4e0b4b894d76d9c2dc8c0b1af998937a9ff8"), looks := false }, kinds := [], alts := [], laidByText := true, laidKinds := [.data], laidTests := true, laidLooks := .later }
def MachineOrderUptoCardSaid : Prop := Claim7.holds Tryd.pinned (.plain (OpenSpec.upto machineOrderSpec)) machineOrderUptoCard

/-- THE SECOND FORM's CARD OF 'turnerylaw7.MachineMetSum'. -/
def machineMetSumUptoCard : Claim7 := { stood := { row := machineMetSumUptoRow, standIns := [], harness := (true, "2337451b9506bfbad14a937520ca4e0b4b894d76d9c2dc8c0b1af998937a9ff8"), looks := false }, kinds := [], alts := [], laidByText := true, laidKinds := [.data], laidTests := true, laidLooks := .later }
def MachineMetSumUptoCardSaid : Prop := Claim7.holds Tryd.pinned (.plain (OpenSpec.upto machineMetSumSpec)) machineMetSumUptoCard

/-- THE SECOND FORM's CARD OF 'turnerylaw7.MachineUnmet'. -/
def machineUnmetUptoCard : Claim7 := { stood := { row := machineUnmetUptoRow, standIns := [], harness := (true, "2337451b9506bfbad14a937520ca4e0b4b894d76d9c2dc8c0b1af998937a9ff8"), looks := false }, kinds := [], alts := [], laidByText := true, laidKinds := [.data], laidTests := true, laidLooks := .later }
def MachineUnmetUptoCardSaid : Prop := Claim7.holds Tryd.pinned (.plain (OpenSpec.upto machineUnmetSpec)) machineUnmetUptoCard

/-- THE SECOND FORM's CARD OF 'turnerylaw7.MachineDead'. -/
def machineDeadUptoCard : Claim7 := { stood := { row := machineDeadUptoRow, standIns := [], harness := (true, "2337451b9506bfbad14a937520ca4e0b4b894d76d9c2dc8c0b1af998937a9ff8"), looks := false }, kinds := [], alts := [], laidByText := true, laidKinds := [.data], laidTests := true, laidLooks := .later }
def MachineDeadUptoCardSaid : Prop := Claim7.holds Tryd.pinned (.plain (OpenSpec.upto machineDeadSpec)) machineDeadUptoCard
end Rows
end Go.Proofs.YtkiaffaieniebaaDoor
