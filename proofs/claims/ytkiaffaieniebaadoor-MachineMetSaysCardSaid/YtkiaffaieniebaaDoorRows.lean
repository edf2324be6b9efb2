/-
  NARROWER THAN 'FOR EVERY INPUT', by the rows' own cells (each row's printed sentence says how): MachineLoop: laid · MachineDeep: laid · MachineRunSays: laid · MachineMetSays: laid · MachineFuel: laid · MachinePrefix: laid · MachineOrder: laid · MachineMetSum: laid · MachineUnmet: laid · MachineDead: laid.
  DERIVED. THE GIVEN ROWS OF THIS SEAT. 10 by the template 'for every input the law returns true; each argument reads behind the call as it read before'; 0 by the template 'total and deterministic' (their statements: YtkiaffaieniebaaDoorTotals.lean).
  GIVEN WITH THE SEED: the statements are not yours to turn. If you find one false, say at which input.
  Laid BY PROGRAM, IN A SANDBOX (cutbox-rows.mjs): the forced cells as the released guide's own fill.sh prints them over the translation db645ee480786368… (all of the seat's roots in one cut). By AI agents, Wed Nov 11 2026. No macro, syntax, notation, axiom, sorry.
-/
import Derived.Test.YtkiaffaieniebaaDoorChecked
import GoSem.Claim
import GoSem.ClaimJoined
import GoSem.ClaimMapViews
import Derived.JoinedTies
import Derived.KernelRfl
namespace Go.Proofs.YtkiaffaieniebaaDoor
/- THE CELL 'sum', in the pinned program and in every row, IS THE sha256 OF THE DUMP (.gsa) THAT YtkiaffaieniebaaDoorProg.lean LOADS. Nothing in Lean hashes anything: it is a label: what it is worth is what the hold of that sum in a sandbox is worth. -/
noncomputable def Tryd.pinned : Pinned := { name := "ytkiaffaieniebaadoor", sum := "db645ee4807863684eb52784bc7c22e371d4e45e09f299d2da3b98b25d74736f", checked := Tryd.checked }
namespace Rows
def none {H : Type} : Left H := { results := [], args := [] }

/- WHAT THE LISTED PACKAGE-LEVEL VARIABLES READ AS WHEN THE CALL BEGINS. Each datum BY PROGRAM (the guide's laid-datum.mjs) off the statement by which the dump's own 'gosem.cut.vars' lays the variable. In a bare row this is a premise. The card (YtkiaffaieniebaaDoorCards.lean) ties it to the program's text. -/
def laid_turnery_mac_shapes {H : Type} : DataW H := .agg [.agg [.lit (.bool false), .lit (.bool false), .lit (.bool false), .lit (.int .i64 0)], .agg [.lit (.bool true), .lit (.bool false), .lit (.bool false), .lit (.int .i64 1)], .agg [.lit (.bool true), .lit (.bool true), .lit (.bool false), .lit (.int .i64 0)], .agg [.lit (.bool true), .lit (.bool true), .lit (.bool false), .lit (.int .i64 0)], .agg [.lit (.bool true), .lit (.bool true), .lit (.bool false), .lit (.int .i64 0)], .agg [.lit (.bool false), .lit (.bool false), .lit (.bool false), .lit (.int .i64 0)], .agg [.lit (.bool false), .lit (.bool false), .lit (.bool false), .lit (.int .i64 0)], .agg [.lit (.bool false), .lit (.bool false), .lit (.bool false), .lit (.int .i64 0)], .agg [.lit (.bool false), .lit (.bool false), .lit (.bool false), .lit (.int .i64 0)], .agg [.lit (.bool false), .lit (.bool false), .lit (.bool false), .lit (.int .i64 0)], .agg [.lit (.bool false), .lit (.bool false), .lit (.bool false), .lit (.int .i64 0)], .agg [.lit (.bool false), .lit (.bool false), .lit (.bool false), .lit (.int .i64 0)], .agg [.lit (.bool false), .lit (.bool false), .lit (.bool false), .lit (.int .i64 0)], .agg [.lit (.bool false), .lit (.bool false), .lit (.bool false), .lit (.int .i64 0)], .agg [.lit (.bool false), .lit (.bool false), .lit (.bool false), .lit (.int .i64 0)], .agg [.lit (.bool false), .lit (.bool false), .lit (.bool false), .lit (.int .i64 0)], .agg [.lit (.bool false), .lit (.bool false), .lit (.bool false), .lit (.int .i64 0)], .agg [.lit (.bool false), .lit (.bool false), .lit (.bool false), .lit (.int .i64 0)], .agg [.lit (.bool false), .lit (.bool false), .lit (.bool false), .lit (.int .i64 0)], .agg [.lit (.bool false), .lit (.bool false), .lit (.bool false), .lit (.int .i64 0)], .agg [.lit (.bool false), .lit (.bool false), .lit (.bool false), .lit (.int .i64 0)], .agg [.lit (.bool false), .lit (.bool false), .lit (.bool false), .lit (.int .i64 0)], .agg [.lit (.bool false), .lit (.bool false), .lit (.bool false), .lit (.int .i64 0)], .agg [.lit (.bool false), .lit (.bool false), .lit (.bool false), .lit (.int .i64 0)], .agg [.lit (.bool false), .lit (.bool false), .lit (.bool false), .lit (.int .i64 0)], .agg [.lit (.bool false), .lit (.bool false), .lit (.bool false), .lit (.int .i64 0)], .agg [.lit (.bool false), .lit (.bool false), .lit (.bool false), .lit (.int .i64 0)], .agg [.lit (.bool false), .lit (.bool false), .lit (.bool false), .lit (.int .i64 0)], .agg [.lit (.bool false), .lit (.bool false), .lit (.bool false), .lit (.int .i64 0)], .agg [.lit (.bool false), .lit (.bool false), .lit (.bool false), .lit (.int .i64 0)], .agg [.lit (.bool false), .lit (.bool false), .lit (.bool false), .lit (.int .i64 0)], .agg [.lit (.bool false), .lit (.bool false), .lit (.bool false), .lit (.int .i64 0)], .agg [.lit (.bool false), .lit (.bool false), .lit (.bool false), .lit (.int .i64 0)], .agg [.lit (.bool true), .lit (.bool true), .lit (.bool false), .lit (.int .i64 1)], .agg [.lit (.bool false), .lit (.bool true), .lit (.bool true), .lit (.int .i64 1)], .agg [.lit (.bool true), .lit (.bool false), .lit (.bool false), .lit (.int .i64 3)], .agg [.lit (.bool false), .lit (.bool true), .lit (.bool false), .lit (.int .i64 3)], .agg [.lit (.bool false), .lit (.bool false), .lit (.bool false), .lit (.int .i64 2)], .agg [.lit (.bool false), .lit (.bool true), .lit (.bool false), .lit (.int .i64 2)], .agg [.lit (.bool false), .lit (.bool true), .lit (.bool false), .lit (.int .i64 2)], .agg [.lit (.bool false), .lit (.bool false), .lit (.bool false), .lit (.int .i64 0)], .agg [.lit (.bool false), .lit (.bool false), .lit (.bool false), .lit (.int .i64 0)], .agg [.lit (.bool false), .lit (.bool false), .lit (.bool false), .lit (.int .i64 0)], .agg [.lit (.bool false), .lit (.bool false), .lit (.bool false), .lit (.int .i64 0)], .agg [.lit (.bool false), .lit (.bool false), .lit (.bool false), .lit (.int .i64 4)], .agg [.lit (.bool false), .lit (.bool false), .lit (.bool false), .lit (.int .i64 0)], .agg [.lit (.bool true), .lit (.bool false), .lit (.bool false), .lit (.int .i64 0)], .agg [.lit (.bool false), .lit (.bool true), .lit (.bool false), .lit (.int .i64 0)]]

/-- 'turnerylaw7.MachineLoop': WHATEVER THE INPUT: true; the input reads as it did. -/
def machineLoopSpec : ChangeSpec := { name := "machineLoop", fn := fun _ => fun
  | [d] => { results := [.lit (.bool true)], args := [d] }
  | _ => none }
def machineLoopRow : OpenClaim := { program := "ytkiaffaieniebaadoor", sum := "db645ee4807863684eb52784bc7c22e371d4e45e09f299d2da3b98b25d74736f", func := "turnery/turnerylaw7.MachineLoop", spec := "machineLoop", unfollowed := true, recurses := true, named := ["turnery/mac.shapes"], plainKeys := false, apart := false, laid := [("turnery/mac.shapes", laid_turnery_mac_shapes)] }
def MachineLoopSaid : Prop := machineLoopRow.holds Tryd.pinned (OpenSpec.ofChange machineLoopSpec)

/-- ITS FALSE NEIGHBOUR: 'it returns false'. Refute it at one input. -/
def machineLoopWrong : ChangeSpec := { name := "machineLoop", fn := fun _ => fun
  | [d] => { results := [.lit (.bool false)], args := [d] }
  | _ => none }
def MachineLoopWrongFalsely : Prop := machineLoopRow.holds Tryd.pinned (OpenSpec.ofChange machineLoopWrong)

/-- 'turnerylaw7.MachineDeep': WHATEVER THE INPUT: true; the input reads as it did. -/
def machineDeepSpec : ChangeSpec := { name := "machineDeep", fn := fun _ => fun
  | [d] => { results := [.lit (.bool true)], args := [d] }
  | _ => none }
def machineDeepRow : OpenClaim := { program := "ytkiaffaieniebaadoor", sum := "db645ee4807863684eb52784bc7c22e371d4e45e09f299d2da3b98b25d74736f", func := "turnery/turnerylaw7.MachineDeep", spec := "machineDeep", unfollowed := true, recurses := true, named := ["turnery/mac.shapes"], plainKeys := false, apart := false, laid := [("turnery/mac.shapes", laid_turnery_mac_shapes)] }
def MachineDeepSaid : Prop := machineDeepRow.holds Tryd.pinned (OpenSpec.ofChange machineDeepSpec)

/-- ITS FALSE NEIGHBOUR: 'it returns false'. Refute it at one input. -/
def machineDeepWrong : ChangeSpec := { name := "machineDeep", fn := fun _ => fun
  | [d] => { results := [.lit (.bool false)], args := [d] }
  | _ => none }
def MachineDeepWrongFalsely : Prop := machineDeepRow.holds Tryd.pinned (OpenSpec.ofChange machineDeepWrong)

/-- 'turnerylaw7.MachineRunSays': WHATEVER THE INPUT: true; the input reads as it did. -/
def machineRunSaysSpec : ChangeSpec := { name := "machineRunSays", fn := fun _ => fun
  | [d1, d2, d3] => { results := [.lit (.bool true)], args := [d1, d2, d3] }
  | _ => none }
def machineRunSaysRow : OpenClaim := { program := "ytkiaffaieniebaadoor", sum := "db645ee4807863684eb52784bc7c22e371d4e45e09f299d2da3b98b25d74736f", func := "turnery/turnerylaw7.MachineRunSays", spec := "machineRunSays", unfollowed := true, recurses := true, named := ["turnery/mac.shapes"], plainKeys := false, apart := false, laid := [("turnery/mac.shapes", laid_turnery_mac_shapes)] }
def MachineRunSaysSaid : Prop := machineRunSaysRow.holds Tryd.pinned (OpenSpec.ofChange machineRunSaysSpec)

/-- ITS FALSE NEIGHBOUR: 'it returns false'. Refute it at one input. -/
def machineRunSaysWrong : ChangeSpec := { name := "machineRunSays", fn := fun _ => fun
  | [d1, d2, d3] => { results := [.lit (.bool false)], args := [d1, d2, d3] }
  | _ => none }
def MachineRunSaysWrongFalsely : Prop := machineRunSaysRow.holds Tryd.pinned (OpenSpec.ofChange machineRunSaysWrong)

/-- 'turnerylaw7.MachineMetSays': WHATEVER THE INPUT: true; the input reads as it did. -/
def machineMetSaysSpec : ChangeSpec := { name := "machineMetSays", fn := fun _ => fun
  | [d1, d2, d3] => { results := [.lit (.bool true)], args := [d1, d2, d3] }
  | _ => none }
def machineMetSaysRow : OpenClaim := { program := "ytkiaffaieniebaadoor", sum := "db645ee4807863684eb52784bc7c22e371d4e45e09f299d2da3b98b25d74736f", func := "turnery/turnerylaw7.MachineMetSays", spec := "machineMetSays", unfollowed := true, recurses := true, named := ["turnery/mac.shapes"], plainKeys := false, apart := false, laid := [("turnery/mac.shapes", laid_turnery_mac_shapes)] }
def MachineMetSaysSaid : Prop := machineMetSaysRow.holds Tryd.pinned (OpenSpec.ofChange machineMetSaysSpec)

/-- ITS FALSE NEIGHBOUR: 'it returns false'. Refute it at one input. -/
def machineMetSaysWrong : ChangeSpec := { name := "machineMetSays", fn := fun _ => fun
  | [d1, d2, d3] => { results := [.lit (.bool false)], args := [d1, d2, d3] }
  | _ => none }
def MachineMetSaysWrongFalsely : Prop := machineMetSaysRow.holds Tryd.pinned (OpenSpec.ofChange machineMetSaysWrong)

/-- 'turnerylaw7.MachineFuel': WHATEVER THE INPUT: true; the input reads as it did. -/
def machineFuelSpec : ChangeSpec := { name := "machineFuel", fn := fun _ => fun
  | [d1, d2, d3, d4, d5, d6] => { results := [.lit (.bool true)], args := [d1, d2, d3, d4, d5, d6] }
  | _ => none }
def machineFuelRow : OpenClaim := { program := "ytkiaffaieniebaadoor", sum := "db645ee4807863684eb52784bc7c22e371d4e45e09f299d2da3b98b25d74736f", func := "turnery/turnerylaw7.MachineFuel", spec := "machineFuel", unfollowed := true, recurses := true, named := ["turnery/mac.shapes"], plainKeys := false, apart := false, laid := [("turnery/mac.shapes", laid_turnery_mac_shapes)] }
def MachineFuelSaid : Prop := machineFuelRow.holds Tryd.pinned (OpenSpec.ofChange machineFuelSpec)

/-- ITS FALSE NEIGHBOUR: 'it returns false'. Refute it at one input. -/
def machineFuelWrong : ChangeSpec := { name := "machineFuel", fn := fun _ => fun
  | [d1, d2, d3, d4, d5, d6] => { results := [.lit (.bool false)], args := [d1, d2, d3, d4, d5, d6] }
  | _ => none }
def MachineFuelWrongFalsely : Prop := machineFuelRow.holds Tryd.pinned (OpenSpec.ofChange machineFuelWrong)

/-- 'turnerylaw7.MachinePrefix': WHATEVER THE INPUT: true; the input reads as it did. -/
def machinePrefixSpec : ChangeSpec := { name := "machinePrefix", fn := fun _ => fun
  | [d1, d2, d3, d4, d5, d6] => { results := [.lit (.bool true)], args := [d1, d2, d3, d4, d5, d6] }
  | _ => none }
def machinePrefixRow : OpenClaim := { program := "ytkiaffaieniebaadoor", sum := "db645ee4807863684eb52784bc7c22e371d4e45e09f299d2da3b98b25d74736f", func := "turnery/turnerylaw7.MachinePrefix", spec := "machinePrefix", unfollowed := true, recurses := true, named := ["turnery/mac.shapes"], plainKeys := false, apart := false, laid := [("turnery/mac.shapes", laid_turnery_mac_shapes)] }
def MachinePrefixSaid : Prop := machinePrefixRow.holds Tryd.pinned (OpenSpec.ofChange machinePrefixSpec)

/-- ITS FALSE NEIGHBOUR: 'it returns false'. Refute it at one input. -/
def machinePrefixWrong : ChangeSpec := { name := "machinePrefix", fn := fun _ => fun
  | [d1, d2, d3, d4, d5, d6] => { results := [.lit (.bool false)], args := [d1, d2, d3, d4, d5, d6] }
  | _ => none }
def MachinePrefixWrongFalsely : Prop := machinePrefixRow.holds Tryd.pinned (OpenSpec.ofChange machinePrefixWrong)

/-- 'turnerylaw7.MachineOrder': WHATEVER THE INPUT: true; the input reads as it did. -/
def machineOrderSpec : ChangeSpec := { name := "machineOrder", fn := fun _ => fun
  | [d1, d2, d3, d4, d5] => { results := [.lit (.bool true)], args := [d1, d2, d3, d4, d5] }
  | _ => none }
def machineOrderRow : OpenClaim := { program := "ytkiaffaieniebaadoor", sum := "db645ee4807863684eb52784bc7c22e371d4e45e09f299d2da3b98b25d74736f", func := "turnery/turnerylaw7.MachineOrder", spec := "machineOrder", unfollowed := true, recurses := true, named := ["turnery/mac.shapes"], plainKeys := false, apart := false, laid := [("turnery/mac.shapes", laid_turnery_mac_shapes)] }
def MachineOrderSaid : Prop := machineOrderRow.holds Tryd.pinned (OpenSpec.ofChange machineOrderSpec)

/-- ITS FALSE NEIGHBOUR: 'it returns false'. Refute it at one input. -/
def machineOrderWrong : ChangeSpec := { name := "machineOrder", fn := fun _ => fun
  | [d1, d2, d3, d4, d5] => { results := [.lit (.bool false)], args := [d1, d2, d3, d4, d5] }
  | _ => none }
def MachineOrderWrongFalsely : Prop := machineOrderRow.holds Tryd.pinned (OpenSpec.ofChange machineOrderWrong)

/-- 'turnerylaw7.MachineMetSum': WHATEVER THE INPUT: true; the input reads as it did. -/
def machineMetSumSpec : ChangeSpec := { name := "machineMetSum", fn := fun _ => fun
  | [d1, d2, d3, d4, d5] => { results := [.lit (.bool true)], args := [d1, d2, d3, d4, d5] }
  | _ => none }
def machineMetSumRow : OpenClaim := { program := "ytkiaffaieniebaadoor", sum := "db645ee4807863684eb52784bc7c22e371d4e45e09f299d2da3b98b25d74736f", func := "turnery/turnerylaw7.MachineMetSum", spec := "machineMetSum", unfollowed := true, recurses := true, named := ["turnery/mac.shapes"], plainKeys := false, apart := false, laid := [("turnery/mac.shapes", laid_turnery_mac_shapes)] }
def MachineMetSumSaid : Prop := machineMetSumRow.holds Tryd.pinned (OpenSpec.ofChange machineMetSumSpec)

/-- ITS FALSE NEIGHBOUR: 'it returns false'. Refute it at one input. -/
def machineMetSumWrong : ChangeSpec := { name := "machineMetSum", fn := fun _ => fun
  | [d1, d2, d3, d4, d5] => { results := [.lit (.bool false)], args := [d1, d2, d3, d4, d5] }
  | _ => none }
def MachineMetSumWrongFalsely : Prop := machineMetSumRow.holds Tryd.pinned (OpenSpec.ofChange machineMetSumWrong)

/-- 'turnerylaw7.MachineUnmet': WHATEVER THE INPUT: true; the input reads as it did. -/
def machineUnmetSpec : ChangeSpec := { name := "machineUnmet", fn := fun _ => fun
  | [d1, d2, d3, d4, d5, d6, d7] => { results := [.lit (.bool true)], args := [d1, d2, d3, d4, d5, d6, d7] }
  | _ => none }
def machineUnmetRow : OpenClaim := { program := "ytkiaffaieniebaadoor", sum := "db645ee4807863684eb52784bc7c22e371d4e45e09f299d2da3b98b25d74736f", func := "turnery/turnerylaw7.MachineUnmet", spec := "machineUnmet", unfollowed := true, recurses := true, named := ["turnery/mac.shapes"], plainKeys := false, apart := false, laid := [("turnery/mac.shapes", laid_turnery_mac_shapes)] }
def MachineUnmetSaid : Prop := machineUnmetRow.holds Tryd.pinned (OpenSpec.ofChange machineUnmetSpec)

/-- ITS FALSE NEIGHBOUR: 'it returns false'. Refute it at one input. -/
def machineUnmetWrong : ChangeSpec := { name := "machineUnmet", fn := fun _ => fun
  | [d1, d2, d3, d4, d5, d6, d7] => { results := [.lit (.bool false)], args := [d1, d2, d3, d4, d5, d6, d7] }
  | _ => none }
def MachineUnmetWrongFalsely : Prop := machineUnmetRow.holds Tryd.pinned (OpenSpec.ofChange machineUnmetWrong)

/-- 'turnerylaw7.MachineDead': WHATEVER THE INPUT: true; the input reads as it did. -/
def machineDeadSpec : ChangeSpec := { name := "machineDead", fn := fun _ => fun
  | [d1, d2, d3, d4, d5] => { results := [.lit (.bool true)], args := [d1, d2, d3, d4, d5] }
  | _ => none }
def machineDeadRow : OpenClaim := { program := "ytkiaffaieniebaadoor", sum := "db645ee4807863684eb52784bc7c22e371d4e45e09f299d2da3b98b25d74736f", func := "turnery/turnerylaw7.MachineDead", spec := "machineDead", unfollowed := true, recurses := true, named := ["turnery/mac.shapes"], plainKeys := false, apart := false, laid := [("turnery/mac.shapes", laid_turnery_mac_shapes)] }
def MachineDeadSaid : Prop := machineDeadRow.holds Tryd.pinned (OpenSpec.ofChange machineDeadSpec)

/-- ITS FALSE NEIGHBOUR: 'it returns false'. Refute it at one input. -/
def machineDeadWrong : ChangeSpec := { name := "machineDead", fn := fun _ => fun
  | [d1, d2, d3, d4, d5] => { results := [.lit (.bool false)], args := [d1, d2, d3, d4, d5] }
  | _ => none }
def MachineDeadWrongFalsely : Prop := machineDeadRow.holds Tryd.pinned (OpenSpec.ofChange machineDeadWrong)

/- THE SECOND FORM. 'bulk': how many values and letters a reading holds, each counted each time it is reached (what is shared counts as often as it is met; a slice's spare places count too). A statement '..UptoSaid' is the law's where the arguments, and the package variables that the reading takes, are together of bulk at most 1048576: NARROWER than '..Said'. Prove '..Said' where nothing that the law and all that it calls make is longer than what came in: it says more and counts as full. Else prove '..UptoSaid'. A law counts once. -/
mutual
def uptoBulk {H : Type} : DataW H → Nat
  | .lit (.string bytes) => bytes.length + 1
  | .lit _ => 1
  | .nil => 1
  | .ptr d => uptoBulk d + 1
  | .slice elems spare => uptoBulkAll elems + uptoBulkAll spare + 1
  | .agg parts => uptoBulkAll parts + 1
  | .iface _ d => uptoBulk d + 1
  | .map entries => uptoBulkEntries entries + 1
  | .held _ => 1
def uptoBulkAll {H : Type} : List (DataW H) → Nat
  | [] => 0
  | d :: r => uptoBulk d + uptoBulkAll r
def uptoBulkEntries {H : Type} : List (Lit × DataW H) → Nat
  | [] => 0
  | x :: r => uptoBulkEntry x + uptoBulkEntries r
def uptoBulkEntry {H : Type} : Lit × DataW H → Nat
  | (.string bytes, d) => bytes.length + uptoBulk d + 1
  | (_, d) => uptoBulk d + 1
 end
def uptoSmall : (H : Type) → List (DataW H) → Bool := fun _ ds => decide (uptoBulkAll ds ≤ 1048576)
def OpenSpec.upto (s : _root_.Go.ChangeSpec) : _root_.Go.OpenSpec := { _root_.Go.OpenSpec.ofChange s with cond := some uptoSmall }

/-- 'turnerylaw7.MachineLoop', WHERE WHAT IT READS IS OF BULK AT MOST 1048576: true; the input reads as it did. -/
def machineLoopUptoRow : OpenClaim := { program := "ytkiaffaieniebaadoor", sum := "db645ee4807863684eb52784bc7c22e371d4e45e09f299d2da3b98b25d74736f", func := "turnery/turnerylaw7.MachineLoop", spec := "machineLoop", unfollowed := true, recurses := true, named := ["turnery/mac.shapes"], plainKeys := false, apart := false, laid := [("turnery/mac.shapes", laid_turnery_mac_shapes)], narrowed := true }
def MachineLoopUptoSaid : Prop := machineLoopUptoRow.holds Tryd.pinned (OpenSpec.upto machineLoopSpec)

/-- 'turnerylaw7.MachineDeep', WHERE WHAT IT READS IS OF BULK AT MOST 1048576: true; the input reads as it did. -/
def machineDeepUptoRow : OpenClaim := { program := "ytkiaffaieniebaadoor", sum := "db645ee4807863684eb52784bc7c22e371d4e45e09f299d2da3b98b25d74736f", func := "turnery/turnerylaw7.MachineDeep", spec := "machineDeep", unfollowed := true, recurses := true, named := ["turnery/mac.shapes"], plainKeys := false, apart := false, laid := [("turnery/mac.shapes", laid_turnery_mac_shapes)], narrowed := true }
def MachineDeepUptoSaid : Prop := machineDeepUptoRow.holds Tryd.pinned (OpenSpec.upto machineDeepSpec)

/-- 'turnerylaw7.MachineRunSays', WHERE WHAT IT READS IS OF BULK AT MOST 1048576: true; the input reads as it did. -/
def machineRunSaysUptoRow : OpenClaim := { program := "ytkiaffaieniebaadoor", sum := "db645ee4807863684eb52784bc7c22e371d4e45e09f299d2da3b98b25d74736f", func := "turnery/turnerylaw7.MachineRunSays", spec := "machineRunSays", unfollowed := true, recurses := true, named := ["turnery/mac.shapes"], plainKeys := false, apart := false, laid := [("turnery/mac.shapes", laid_turnery_mac_shapes)], narrowed := true }
def MachineRunSaysUptoSaid : Prop := machineRunSaysUptoRow.holds Tryd.pinned (OpenSpec.upto machineRunSaysSpec)

/-- 'turnerylaw7.MachineMetSays', WHERE WHAT IT READS IS OF BULK AT MOST 1048576: true; the input reads as it did. -/
def machineMetSaysUptoRow : OpenClaim := { program := "ytkiaffaieniebaadoor", sum := "db645ee4807863684eb52784bc7c22e371d4e45e09f299d2da3b98b25d74736f", func := "turnery/turnerylaw7.MachineMetSays", spec := "machineMetSays", unfollowed := true, recurses := true, named := ["turnery/mac.shapes"], plainKeys := false, apart := false, laid := [("turnery/mac.shapes", laid_turnery_mac_shapes)], narrowed := true }
def MachineMetSaysUptoSaid : Prop := machineMetSaysUptoRow.holds Tryd.pinned (OpenSpec.upto machineMetSaysSpec)

/-- 'turnerylaw7.MachineFuel', WHERE WHAT IT READS IS OF BULK AT MOST 1048576: true; the input reads as it did. -/
def machineFuelUptoRow : OpenClaim := { program := "ytkiaffaieniebaadoor", sum := "db645ee4807863684eb52784bc7c22e371d4e45e09f299d2da3b98b25d74736f", func := "turnery/turnerylaw7.MachineFuel", spec := "machineFuel", unfollowed := true, recurses := true, named := ["turnery/mac.shapes"], plainKeys := false, apart := false, laid := [("turnery/mac.shapes", laid_turnery_mac_shapes)], narrowed := true }
def MachineFuelUptoSaid : Prop := machineFuelUptoRow.holds Tryd.pinned (OpenSpec.upto machineFuelSpec)

/-- 'turnerylaw7.MachinePrefix', WHERE WHAT IT READS IS OF BULK AT MOST 1048576: true; the input reads as it did. -/
def machinePrefixUptoRow : OpenClaim := { program := "ytkiaffaieniebaadoor", sum := "db645ee4807863684eb52784bc7c22e371d4e45e09f299d2da3b98b25d74736f", func := "turnery/turnerylaw7.MachinePrefix", spec := "machinePrefix", unfollowed := true, recurses := true, named := ["turnery/mac.shapes"], plainKeys := false, apart := false, laid := [("turnery/mac.shapes", laid_turnery_mac_shapes)], narrowed := true }
def MachinePrefixUptoSaid : Prop := machinePrefixUptoRow.holds Tryd.pinned (OpenSpec.upto machinePrefixSpec)

/-- 'turnerylaw7.MachineOrder', WHERE WHAT IT READS IS OF BULK AT MOST 1048576: true; the input reads as it did. -/
def machineOrderUptoRow : OpenClaim := { program := "ytkiaffaieniebaadoor", sum := "db645ee4807863684eb52784bc7c22e371d4e45e09f299d2da3b98b25d74736f", func := "turnery/turnerylaw7.MachineOrder", spec := "machineOrder", unfollowed := true, recurses := true, named := ["turnery/mac.shapes"], plainKeys := false, apart := false, laid := [("turnery/mac.shapes", laid_turnery_mac_shapes)], narrowed := true }
def MachineOrderUptoSaid : Prop := machineOrderUptoRow.holds Tryd.pinned (OpenSpec.upto machineOrderSpec)

/-- 'turnerylaw7.MachineMetSum', WHERE WHAT IT READS IS OF BULK AT MOST 1048576: true; the input reads as it did. -/
def machineMetSumUptoRow : OpenClaim := { program := "ytkiaffaieniebaadoor", sum := "db645ee4807863684eb52784bc7c22e371d4e45e09f299d2da3b98b25d74736f", func := "turnery/turnerylaw7.MachineMetSum", spec := "machineMetSum", unfollowed := true, recurses := true, named := ["turnery/mac.shapes"], plainKeys := false, apart := false, laid := [("turnery/mac.shapes", laid_turnery_mac_shapes)], narrowed := true }
def MachineMetSumUptoSaid : Prop := machineMetSumUptoRow.holds Tryd.pinned (OpenSpec.upto machineMetSumSpec)

/-- 'turnerylaw7.MachineUnmet', WHERE WHAT IT READS IS OF BULK AT MOST 1048576: true; the input reads as it did. -/
def machineUnmetUptoRow : OpenClaim := { program := "ytkiaffaieniebaadoor", sum := "db645ee4807863684eb52784bc7c22e371d4e45e09f299d2da3b98b25d74736f", func := "turnery/turnerylaw7.MachineUnmet", spec := "machineUnmet", unfollowed := true, recurses := true, named := ["turnery/mac.shapes"], plainKeys := false, apart := false, laid := [("turnery/mac.shapes", laid_turnery_mac_shapes)], narrowed := true }
def MachineUnmetUptoSaid : Prop := machineUnmetUptoRow.holds Tryd.pinned (OpenSpec.upto machineUnmetSpec)

/-- 'turnerylaw7.MachineDead', WHERE WHAT IT READS IS OF BULK AT MOST 1048576: true; the input reads as it did. -/
def machineDeadUptoRow : OpenClaim := { program := "ytkiaffaieniebaadoor", sum := "db645ee4807863684eb52784bc7c22e371d4e45e09f299d2da3b98b25d74736f", func := "turnery/turnerylaw7.MachineDead", spec := "machineDead", unfollowed := true, recurses := true, named := ["turnery/mac.shapes"], plainKeys := false, apart := false, laid := [("turnery/mac.shapes", laid_turnery_mac_shapes)], narrowed := true }
def MachineDeadUptoSaid : Prop := machineDeadUptoRow.holds Tryd.pinned (OpenSpec.upto machineDeadSpec)

end Rows
end Go.Proofs.YtkiaffaieniebaaDoor
