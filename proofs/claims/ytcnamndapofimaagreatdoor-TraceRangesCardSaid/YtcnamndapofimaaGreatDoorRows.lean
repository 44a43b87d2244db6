/-
  NARROWER THAN 'FOR EVERY INPUT', by the rows' own cells (each row's printed sentence says how): TopShared: laid · MachineNone: laid · TraceKeeps: laid · TraceReplays: laid · TraceLasts: laid · TraceRanges: laid · TraceCuts: laid · TraceMachine: laid.
  DERIVED. THE GIVEN ROWS OF THIS SEAT. 8 by the template 'for every input the law returns true; each argument reads behind the call as it read before'; 0 by the template 'total and deterministic' (their statements: YtcnamndapofimaaGreatDoorTotals.lean).
  GIVEN WITH THE SEED: the statements are not yours to turn. If you find one false, say at which input.
  Laid BY PROGRAM, IN A SANDBOX (cutbox-rows.mjs): the forced cells as the released guide's own fill.sh prints them over the translation 4f79b6bea8507388… (all of the seat's roots in one cut). By AI agents, Wed Nov 11 2026. No macro, syntax, notation, axiom, sorry.
-/
import Derived.Test.YtcnamndapofimaaGreatDoorChecked
import GoSem.Claim
import GoSem.ClaimJoined
import GoSem.ClaimMapViews
import Derived.JoinedTies
import Derived.KernelRfl
namespace Go.Proofs.YtcnamndapofimaaGreatDoor
/- THE CELL 'sum', in the pinned program and in every row, IS THE sha256 OF THE DUMP (.gsa) THAT YtcnamndapofimaaGreatDoorProg.lean LOADS. Nothing in Lean hashes anything: it is a label: what it is worth is what the hold of that sum in a sandbox is worth. -/
noncomputable def Tryz.pinned : Pinned := { name := "ytcnamndapofimaagreatdoor", sum := "4f79b6bea85073888d51600ce0e0b3047387b7c736d2e7b2517b70706d747bdd", checked := Tryz.checked }
namespace Rows
def none {H : Type} : Left H := { results := [], args := [] }

/- WHAT THE LISTED PACKAGE-LEVEL VARIABLES READ AS WHEN THE CALL BEGINS. Each datum BY PROGRAM (the guide's laid-datum.mjs) off the statement by which the dump's own 'gosem.cut.vars' lays the variable. In a bare row this is a premise. The card (YtcnamndapofimaaGreatDoorCards.lean) ties it to the program's text. -/
def laid_errors_errorType {H : Type} : DataW H := .iface "internal/reflectlite.rtype" (.agg [.ptr (.lit (.string [101, 114, 114, 111, 114]))])

/-- 'ropewalktop.TopShared': WHATEVER THE INPUT: true; the input reads as it did. -/
def topSharedSpec : ChangeSpec := { name := "topShared", fn := fun _ => fun
  | [] => { results := [.lit (.bool true)], args := [] }
  | _ => none }
def topSharedRow : OpenClaim := { program := "ytcnamndapofimaagreatdoor", sum := "4f79b6bea85073888d51600ce0e0b3047387b7c736d2e7b2517b70706d747bdd", func := "ropewalk/ropewalktop.TopShared", spec := "topShared", inPlace := ["internal/reflectlite.ValueOf", "(internal/reflectlite.Value).Type", "(internal/reflectlite.Value).IsNil", "internal/reflectlite.TypeOf", "(internal/reflectlite.Value).Elem", "(internal/reflectlite.Value).Set"], unfollowed := true, recurses := true, named := ["errors.errorType"], apart := false, laid := [("errors.errorType", laid_errors_errorType)] }
def TopSharedSaid : Prop := topSharedRow.holds Tryz.pinned (OpenSpec.ofChange topSharedSpec)

/-- ITS FALSE NEIGHBOUR: 'it returns false'. Refute it at one input. -/
def topSharedWrong : ChangeSpec := { name := "topShared", fn := fun _ => fun
  | [] => { results := [.lit (.bool false)], args := [] }
  | _ => none }
def TopSharedWrongFalsely : Prop := topSharedRow.holds Tryz.pinned (OpenSpec.ofChange topSharedWrong)

/-- 'ropewalklaw15.MachineNone': WHATEVER THE INPUT: true; the input reads as it did. -/
def machineNoneSpec : ChangeSpec := { name := "machineNone", fn := fun _ => fun
  | [] => { results := [.lit (.bool true)], args := [] }
  | _ => none }
def machineNoneRow : OpenClaim := { program := "ytcnamndapofimaagreatdoor", sum := "4f79b6bea85073888d51600ce0e0b3047387b7c736d2e7b2517b70706d747bdd", func := "ropewalk/ropewalklaw15.MachineNone", spec := "machineNone", inPlace := ["internal/reflectlite.ValueOf", "(internal/reflectlite.Value).Type", "(internal/reflectlite.Value).IsNil", "internal/reflectlite.TypeOf", "(internal/reflectlite.Value).Elem", "(internal/reflectlite.Value).Set"], unfollowed := true, recurses := true, named := ["errors.errorType"], apart := false, laid := [("errors.errorType", laid_errors_errorType)] }
def MachineNoneSaid : Prop := machineNoneRow.holds Tryz.pinned (OpenSpec.ofChange machineNoneSpec)

/-- ITS FALSE NEIGHBOUR: 'it returns false'. Refute it at one input. -/
def machineNoneWrong : ChangeSpec := { name := "machineNone", fn := fun _ => fun
  | [] => { results := [.lit (.bool false)], args := [] }
  | _ => none }
def MachineNoneWrongFalsely : Prop := machineNoneRow.holds Tryz.pinned (OpenSpec.ofChange machineNoneWrong)

/-- 'ropewalklaw17.TraceKeeps': WHATEVER THE INPUT: true; the input reads as it did. -/
def traceKeepsSpec : ChangeSpec := { name := "traceKeeps", fn := fun _ => fun
  | [d1, d2] => { results := [.lit (.bool true)], args := [d1, d2] }
  | _ => none }
def traceKeepsRow : OpenClaim := { program := "ytcnamndapofimaagreatdoor", sum := "4f79b6bea85073888d51600ce0e0b3047387b7c736d2e7b2517b70706d747bdd", func := "ropewalk/ropewalklaw17.TraceKeeps", spec := "traceKeeps", inPlace := ["internal/reflectlite.ValueOf", "(internal/reflectlite.Value).Type", "(internal/reflectlite.Value).IsNil", "internal/reflectlite.TypeOf", "(internal/reflectlite.Value).Elem", "(internal/reflectlite.Value).Set"], unfollowed := true, recurses := true, named := ["errors.errorType"], apart := false, laid := [("errors.errorType", laid_errors_errorType)] }
def TraceKeepsSaid : Prop := traceKeepsRow.holds Tryz.pinned (OpenSpec.ofChange traceKeepsSpec)

/-- ITS FALSE NEIGHBOUR: 'it returns false'. Refute it at one input. -/
def traceKeepsWrong : ChangeSpec := { name := "traceKeeps", fn := fun _ => fun
  | [d1, d2] => { results := [.lit (.bool false)], args := [d1, d2] }
  | _ => none }
def TraceKeepsWrongFalsely : Prop := traceKeepsRow.holds Tryz.pinned (OpenSpec.ofChange traceKeepsWrong)

/-- 'ropewalklaw17.TraceReplays': WHATEVER THE INPUT: true; the input reads as it did. -/
def traceReplaysSpec : ChangeSpec := { name := "traceReplays", fn := fun _ => fun
  | [d1, d2, d3, d4, d5] => { results := [.lit (.bool true)], args := [d1, d2, d3, d4, d5] }
  | _ => none }
def traceReplaysRow : OpenClaim := { program := "ytcnamndapofimaagreatdoor", sum := "4f79b6bea85073888d51600ce0e0b3047387b7c736d2e7b2517b70706d747bdd", func := "ropewalk/ropewalklaw17.TraceReplays", spec := "traceReplays", inPlace := ["internal/reflectlite.ValueOf", "(internal/reflectlite.Value).Type", "(internal/reflectlite.Value).IsNil", "internal/reflectlite.TypeOf", "(internal/reflectlite.Value).Elem", "(internal/reflectlite.Value).Set"], unfollowed := true, recurses := true, named := ["errors.errorType"], apart := false, laid := [("errors.errorType", laid_errors_errorType)] }
def TraceReplaysSaid : Prop := traceReplaysRow.holds Tryz.pinned (OpenSpec.ofChange traceReplaysSpec)

/-- ITS FALSE NEIGHBOUR: 'it returns false'. Refute it at one input. -/
def traceReplaysWrong : ChangeSpec := { name := "traceReplays", fn := fun _ => fun
  | [d1, d2, d3, d4, d5] => { results := [.lit (.bool false)], args := [d1, d2, d3, d4, d5] }
  | _ => none }
def TraceReplaysWrongFalsely : Prop := traceReplaysRow.holds Tryz.pinned (OpenSpec.ofChange traceReplaysWrong)

/-- 'ropewalklaw17.TraceLasts': WHATEVER THE INPUT: true; the input reads as it did. -/
def traceLastsSpec : ChangeSpec := { name := "traceLasts", fn := fun _ => fun
  | [d1, d2] => { results := [.lit (.bool true)], args := [d1, d2] }
  | _ => none }
def traceLastsRow : OpenClaim := { program := "ytcnamndapofimaagreatdoor", sum := "4f79b6bea85073888d51600ce0e0b3047387b7c736d2e7b2517b70706d747bdd", func := "ropewalk/ropewalklaw17.TraceLasts", spec := "traceLasts", inPlace := ["internal/reflectlite.ValueOf", "(internal/reflectlite.Value).Type", "(internal/reflectlite.Value).IsNil", "internal/reflectlite.TypeOf", "(internal/reflectlite.Value).Elem", "(internal/reflectlite.Value).Set"], unfollowed := true, recurses := true, named := ["errors.errorType"], apart := false, laid := [("errors.errorType", laid_errors_errorType)] }
def TraceLastsSaid : Prop := traceLastsRow.holds Tryz.pinned (OpenSpec.ofChange traceLastsSpec)

/-- ITS FALSE NEIGHBOUR: 'it returns false'. Refute it at one input. -/
def traceLastsWrong : ChangeSpec := { name := "traceLasts", fn := fun _ => fun
  | [d1, d2] => { results := [.lit (.bool false)], args := [d1, d2] }
  | _ => none }
def TraceLastsWrongFalsely : Prop := traceLastsRow.holds Tryz.pinned (OpenSpec.ofChange traceLastsWrong)

/-- 'ropewalklaw17.TraceRanges': WHATEVER THE INPUT: true; the input reads as it did. -/
def traceRangesSpec : ChangeSpec := { name := "traceRanges", fn := fun _ => fun
  | [d1, d2, d3, d4] => { results := [.lit (.bool true)], args := [d1, d2, d3, d4] }
  | _ => none }
def traceRangesRow : OpenClaim := { program := "ytcnamndapofimaagreatdoor", sum := "4f79b6bea85073888d51600ce0e0b3047387b7c736d2e7b2517b70706d747bdd", func := "ropewalk/ropewalklaw17.TraceRanges", spec := "traceRanges", inPlace := ["internal/reflectlite.ValueOf", "(internal/reflectlite.Value).Type", "(internal/reflectlite.Value).IsNil", "internal/reflectlite.TypeOf", "(internal/reflectlite.Value).Elem", "(internal/reflectlite.Value).Set"], unfollowed := true, recurses := true, named := ["errors.errorType"], apart := false, laid := [("errors.errorType", laid_errors_errorType)] }
def TraceRangesSaid : Prop := traceRangesRow.holds Tryz.pinned (OpenSpec.ofChange traceRangesSpec)

/-- ITS FALSE NEIGHBOUR: 'it returns false'. Refute it at one input. -/
def traceRangesWrong : ChangeSpec := { name := "traceRanges", fn := fun _ => fun
  | [d1, d2, d3, d4] => { results := [.lit (.bool false)], args := [d1, d2, d3, d4] }
  | _ => none }
def TraceRangesWrongFalsely : Prop := traceRangesRow.holds Tryz.pinned (OpenSpec.ofChange traceRangesWrong)

/-- 'ropewalklaw17.TraceCuts': WHATEVER THE INPUT: true; the input reads as it did. -/
def traceCutsSpec : ChangeSpec := { name := "traceCuts", fn := fun _ => fun
  | [d1, d2, d3, d4] => { results := [.lit (.bool true)], args := [d1, d2, d3, d4] }
  | _ => none }
def traceCutsRow : OpenClaim := { program := "ytcnamndapofimaagreatdoor", sum := "4f79b6bea85073888d51600ce0e0b3047387b7c736d2e7b2517b70706d747bdd", func := "ropewalk/ropewalklaw17.TraceCuts", spec := "traceCuts", inPlace := ["internal/reflectlite.ValueOf", "(internal/reflectlite.Value).Type", "(internal/reflectlite.Value).IsNil", "internal/reflectlite.TypeOf", "(internal/reflectlite.Value).Elem", "(internal/reflectlite.Value).Set"], unfollowed := true, recurses := true, named := ["errors.errorType"], apart := false, laid := [("errors.errorType", laid_errors_errorType)] }
def TraceCutsSaid : Prop := traceCutsRow.holds Tryz.pinned (OpenSpec.ofChange traceCutsSpec)

/-- ITS FALSE NEIGHBOUR: 'it returns false'. Refute it at one input. -/
def traceCutsWrong : ChangeSpec := { name := "traceCuts", fn := fun _ => fun
  | [d1, d2, d3, d4] => { results := [.lit (.bool false)], args := [d1, d2, d3, d4] }
  | _ => none }
def TraceCutsWrongFalsely : Prop := traceCutsRow.holds Tryz.pinned (OpenSpec.ofChange traceCutsWrong)

/-- 'ropewalklaw17.TraceMachine': WHATEVER THE INPUT: true; the input reads as it did. -/
def traceMachineSpec : ChangeSpec := { name := "traceMachine", fn := fun _ => fun
  | [d1, d2, d3, d4] => { results := [.lit (.bool true)], args := [d1, d2, d3, d4] }
  | _ => none }
def traceMachineRow : OpenClaim := { program := "ytcnamndapofimaagreatdoor", sum := "4f79b6bea85073888d51600ce0e0b3047387b7c736d2e7b2517b70706d747bdd", func := "ropewalk/ropewalklaw17.TraceMachine", spec := "traceMachine", inPlace := ["internal/reflectlite.ValueOf", "(internal/reflectlite.Value).Type", "(internal/reflectlite.Value).IsNil", "internal/reflectlite.TypeOf", "(internal/reflectlite.Value).Elem", "(internal/reflectlite.Value).Set"], unfollowed := true, recurses := true, named := ["errors.errorType"], apart := false, laid := [("errors.errorType", laid_errors_errorType)] }
def TraceMachineSaid : Prop := traceMachineRow.holds Tryz.pinned (OpenSpec.ofChange traceMachineSpec)

/-- ITS FALSE NEIGHBOUR: 'it returns false'. Refute it at one input. -/
def traceMachineWrong : ChangeSpec := { name := "traceMachine", fn := fun _ => fun
  | [d1, d2, d3, d4] => { results := [.lit (.bool false)], args := [d1, d2, d3, d4] }
  | _ => none }
def TraceMachineWrongFalsely : Prop := traceMachineRow.holds Tryz.pinned (OpenSpec.ofChange traceMachineWrong)

/- THE SECOND FORM. 'bulk': how many values and letters a reading holds, each counted each time it is reached (what is shared counts as often as it is met; a slice's spare places count too). A statement '..UptoSaid' is the law's where the arguments, and the package variables that the reading takes, are together of bulk at most 1048576: NARROWER than '..Said'. Prove '..Said' where nothing that the law and all that it calls make is longer than what came in: it says more and counts as full. Else prove '..UptoSaid'. A law counts once. -/
mutual
def uptoBulk {H : Type} : DataW H → Nat
  | .lit (.string bytes) => bytes.length + 1
  | .lit _ => 1
  | .nil => 1
  | .ptr d => uptoBulk d + 1
  | .slice elems spare => uptoBulkAll elems + uptoBulkAll spare + 1
  | .agg parts => uptoBulkAll parts + 1
  | .iface _ d => uptoBulk d + 1
  | .map entries => uptoBulkEntries entries + 1
  | .held _ => 1
def uptoBulkAll {H : Type} : List (DataW H) → Nat
  | [] => 0
  | d :: r => uptoBulk d + uptoBulkAll r
def uptoBulkEntries {H : Type} : List (Lit × DataW H) → Nat
  | [] => 0
  | x :: r => uptoBulkEntry x + uptoBulkEntries r
def uptoBulkEntry {H : Type} : Lit × DataW H → Nat
  | (.string bytes, d) => bytes.length + uptoBulk d + 1
  | (_, d) => uptoBulk d + 1
 end
def uptoSmall : (H : Type) → List (DataW H) → Bool := fun _ ds => decide (uptoBulkAll ds ≤ 1048576)
def OpenSpec.upto (s : _root_.Go.ChangeSpec) : _root_.Go.OpenSpec := { _root_.Go.OpenSpec.ofChange s with cond := some uptoSmall }

/-- 'ropewalktop.TopShared', WHERE WHAT IT READS IS OF BULK AT MOST 1048576: true; the input reads as it did. -/
def topSharedUptoRow : OpenClaim := { program := "ytcnamndapofimaagreatdoor", sum := "4f79b6bea85073888d51600ce0e0b3047387b7c736d2e7b2517b70706d747bdd", func := "ropewalk/ropewalktop.TopShared", spec := "topShared", inPlace := ["internal/reflectlite.ValueOf", "(internal/reflectlite.Value).Type", "(internal/reflectlite.Value).IsNil", "internal/reflectlite.TypeOf", "(internal/reflectlite.Value).Elem", "(internal/reflectlite.Value).Set"], unfollowed := true, recurses := true, named := ["errors.errorType"], apart := false, laid := [("errors.errorType", laid_errors_errorType)], narrowed := true }
def TopSharedUptoSaid : Prop := topSharedUptoRow.holds Tryz.pinned (OpenSpec.upto topSharedSpec)

/-- 'ropewalklaw15.MachineNone', WHERE WHAT IT READS IS OF BULK AT MOST 1048576: true; the input reads as it did. -/
def machineNoneUptoRow : OpenClaim := { program := "ytcnamndapofimaagreatdoor", sum := "4f79b6bea85073888d51600ce0e0b3047387b7c736d2e7b2517b70706d747bdd", func := "ropewalk/ropewalklaw15.MachineNone", spec := "machineNone", inPlace := ["internal/reflectlite.ValueOf", "(internal/reflectlite.Value).Type", "(internal/reflectlite.Value).IsNil", "internal/reflectlite.TypeOf", "(internal/reflectlite.Value).Elem", "(internal/reflectlite.Value).Set"], unfollowed := true, recurses := true, named := ["errors.errorType"], apart := false, laid := [("errors.errorType", laid_errors_errorType)], narrowed := true }
def MachineNoneUptoSaid : Prop := machineNoneUptoRow.holds Tryz.pinned (OpenSpec.upto machineNoneSpec)

/-- 'ropewalklaw17.TraceKeeps', WHERE WHAT IT READS IS OF BULK AT MOST 1048576: true; the input reads as it did. -/
def traceKeepsUptoRow : OpenClaim := { program := "ytcnamndapofimaagreatdoor", sum := "4f79b6bea85073888d51600ce0e0b3047387b7c736d2e7b2517b70706d747bdd", func := "ropewalk/ropewalklaw17.TraceKeeps", spec := "traceKeeps", inPlace := ["internal/reflectlite.ValueOf", "(internal/reflectlite.Value).Type", "(internal/reflectlite.Value).IsNil", "internal/reflectlite.TypeOf", "(internal/reflectlite.Value).Elem", "(internal/reflectlite.Value).Set"], unfollowed := true, recurses := true, named := ["errors.errorType"], apart := false, laid := [("errors.errorType", laid_errors_errorType)], narrowed := true }
def TraceKeepsUptoSaid : Prop := traceKeepsUptoRow.holds Tryz.pinned (OpenSpec.upto traceKeepsSpec)

/-- 'ropewalklaw17.TraceReplays', WHERE WHAT IT READS IS OF BULK AT MOST 1048576: true; the input reads as it did. -/
def traceReplaysUptoRow : OpenClaim := { program := "ytcnamndapofimaagreatdoor", sum := "4f79b6bea85073888d51600ce0e0b3047387b7c736d2e7b2517b70706d747bdd", func := "ropewalk/ropewalklaw17.TraceReplays", spec := "traceReplays", inPlace := ["internal/reflectlite.ValueOf", "(internal/reflectlite.Value).Type", "(internal/reflectlite.Value).IsNil", "internal/reflectlite.TypeOf", "(internal/reflectlite.Value).Elem", "(internal/reflectlite.Value).Set"], unfollowed := true, recurses := true, named := ["errors.errorType"], apart := false, laid := [("errors.errorType", laid_errors_errorType)], narrowed := true }
def TraceReplaysUptoSaid : Prop := traceReplaysUptoRow.holds Tryz.pinned (OpenSpec.upto traceReplaysSpec)

/-- 'ropewalklaw17.TraceLasts', WHERE WHAT IT READS IS OF BULK AT MOST 1048576: true; the input reads as it did. -/
def traceLastsUptoRow : OpenClaim := { program := "ytcnamndapofimaagreatdoor", sum := "4f79b6bea85073888d51600ce0e0b3047387b7c736d2e7b2517b70706d747bdd", func := "ropewalk/ropewalklaw17.TraceLasts", spec := "traceLasts", inPlace := ["internal/reflectlite.ValueOf", "(internal/reflectlite.Value).Type", "(internal/reflectlite.Value).IsNil", "internal/reflectlite.TypeOf", "(internal/reflectlite.Value).Elem", "(internal/reflectlite.Value).Set"], unfollowed := true, recurses := true, named := ["errors.errorType"], apart := false, laid := [("errors.errorType", laid_errors_errorType)], narrowed := true }
def TraceLastsUptoSaid : Prop := traceLastsUptoRow.holds Tryz.pinned (OpenSpec.upto traceLastsSpec)

/-- 'ropewalklaw17.TraceRanges', WHERE WHAT IT READS IS OF BULK AT MOST 1048576: true; the input reads as it did. -/
def traceRangesUptoRow : OpenClaim := { program := "ytcnamndapofimaagreatdoor", sum := "4f79b6bea85073888d51600ce0e0b3047387b7c736d2e7b2517b70706d747bdd", func := "ropewalk/ropewalklaw17.TraceRanges", spec := "traceRanges", inPlace := ["internal/reflectlite.ValueOf", "(internal/reflectlite.Value).Type", "(internal/reflectlite.Value).IsNil", "internal/reflectlite.TypeOf", "(internal/reflectlite.Value).Elem", "(internal/reflectlite.Value).Set"], unfollowed := true, recurses := true, named := ["errors.errorType"], apart := false, laid := [("errors.errorType", laid_errors_errorType)], narrowed := true }
def TraceRangesUptoSaid : Prop := traceRangesUptoRow.holds Tryz.pinned (OpenSpec.upto traceRangesSpec)

/-- 'ropewalklaw17.TraceCuts', WHERE WHAT IT READS IS OF BULK AT MOST 1048576: true; the input reads as it did. -/
def traceCutsUptoRow : OpenClaim := { program := "ytcnamndapofimaagreatdoor", sum := "4f79b6bea85073888d51600ce0e0b3047387b7c736d2e7b2517b70706d747bdd", func := "ropewalk/ropewalklaw17.TraceCuts", spec := "traceCuts", inPlace := ["internal/reflectlite.ValueOf", "(internal/reflectlite.Value).Type", "(internal/reflectlite.Value).IsNil", "internal/reflectlite.TypeOf", "(internal/reflectlite.Value).Elem", "(internal/reflectlite.Value).Set"], unfollowed := true, recurses := true, named := ["errors.errorType"], apart := false, laid := [("errors.errorType", laid_errors_errorType)], narrowed := true }
def TraceCutsUptoSaid : Prop := traceCutsUptoRow.holds Tryz.pinned (OpenSpec.upto traceCutsSpec)

/-- 'ropewalklaw17.TraceMachine', WHERE WHAT IT READS IS OF BULK AT MOST 1048576: true; the input reads as it did. -/
def traceMachineUptoRow : OpenClaim := { program := "ytcnamndapofimaagreatdoor", sum := "4f79b6bea85073888d51600ce0e0b3047387b7c736d2e7b2517b70706d747bdd", func := "ropewalk/ropewalklaw17.TraceMachine", spec := "traceMachine", inPlace := ["internal/reflectlite.ValueOf", "(internal/reflectlite.Value).Type", "(internal/reflectlite.Value).IsNil", "internal/reflectlite.TypeOf", "(internal/reflectlite.Value).Elem", "(internal/reflectlite.Value).Set"], unfollowed := true, recurses := true, named := ["errors.errorType"], apart := false, laid := [("errors.errorType", laid_errors_errorType)], narrowed := true }
def TraceMachineUptoSaid : Prop := traceMachineUptoRow.holds Tryz.pinned (OpenSpec.upto traceMachineSpec)

end Rows
end Go.Proofs.YtcnamndapofimaaGreatDoor
