/-
  NARROWER THAN 'FOR EVERY INPUT', by the rows' own cells (each row's printed sentence says how): RulesNames: laid · RulesHold: laid · RulesOne: laid.
  DERIVED. THE GIVEN ROWS OF THIS SEAT. 3 by the template 'for every input the law returns true; each argument reads behind the call as it read before'; 0 by the template 'total and deterministic' (their statements: YtmldepgkclpbeaaDoorTotals.lean).
  GIVEN WITH THE SEED: the statements are not yours to turn. If you find one false, say at which input.
  Laid BY PROGRAM, IN A SANDBOX (cutbox-rows.mjs): the forced cells as the released guide's own fill.sh prints them over the translation b5b1006fc0bcb2a4… (all of the seat's roots in one cut). By AI agents, Wed Nov 11 2026. No macro, syntax, notation, axiom, sorry.
-/
import Derived.Test.YtmldepgkclpbeaaDoorChecked
import GoSem.Claim
import GoSem.ClaimJoined
import GoSem.ClaimMapViews
import Derived.JoinedTies
import Derived.KernelRfl
namespace Go.Proofs.YtmldepgkclpbeaaDoor
/- THE CELL 'sum', in the pinned program and in every row, IS THE sha256 OF THE DUMP (.gsa) THAT YtmldepgkclpbeaaDoorProg.lean LOADS. Nothing in Lean hashes anything: it is a label: what it is worth is what the hold of that sum in a sandbox is worth. -/
noncomputable def Tryd.pinned : Pinned := { name := "ytmldepgkclpbeaadoor", sum := "b5b1006fc0bcb2a4133a84b315a651d20f154b674a470ea4fd62b31a0fbdd2ad", checked := Tryd.checked }
namespace Rows
def none {H : Type} : Left H := { results := [], args := [] }

/- WHAT THE LISTED PACKAGE-LEVEL VARIABLES READ AS WHEN THE CALL BEGINS. Each datum BY PROGRAM (the guide's laid-datum.mjs) off the statement by which the dump's own 'gosem.cut.vars' lays the variable. In a bare row this is a premise. The card (YtmldepgkclpbeaaDoorCards.lean) ties it to the program's text. -/
def laid_errors_errorType {H : Type} : DataW H := .iface "internal/reflectlite.rtype" (.agg [.ptr (.lit (.string [101, 114, 114, 111, 114]))])

/-- 'ropewalklaw07.RulesNames': WHATEVER THE INPUT: true; the input reads as it did. -/
def rulesNamesSpec : ChangeSpec := { name := "rulesNames", fn := fun _ => fun
  | [] => { results := [.lit (.bool true)], args := [] }
  | _ => none }
def rulesNamesRow : OpenClaim := { program := "ytmldepgkclpbeaadoor", sum := "b5b1006fc0bcb2a4133a84b315a651d20f154b674a470ea4fd62b31a0fbdd2ad", func := "ropewalk/ropewalklaw07.RulesNames", spec := "rulesNames", inPlace := ["internal/reflectlite.ValueOf", "(internal/reflectlite.Value).Type", "(internal/reflectlite.Value).IsNil", "internal/reflectlite.TypeOf", "(internal/reflectlite.Value).Elem", "(internal/reflectlite.Value).Set"], unfollowed := true, recurses := true, named := ["errors.errorType"], apart := false, laid := [("errors.errorType", laid_errors_errorType)] }
def RulesNamesSaid : Prop := rulesNamesRow.holds Tryd.pinned (OpenSpec.ofChange rulesNamesSpec)

/-- ITS FALSE NEIGHBOUR: 'it returns false'. Refute it at one input. -/
def rulesNamesWrong : ChangeSpec := { name := "rulesNames", fn := fun _ => fun
  | [] => { results := [.lit (.bool false)], args := [] }
  | _ => none }
def RulesNamesWrongFalsely : Prop := rulesNamesRow.holds Tryd.pinned (OpenSpec.ofChange rulesNamesWrong)

/-- 'ropewalklaw07.RulesHold': WHATEVER THE INPUT: true; the input reads as it did. -/
def rulesHoldSpec : ChangeSpec := { name := "rulesHold", fn := fun _ => fun
  | [d1, d2, d3] => { results := [.lit (.bool true)], args := [d1, d2, d3] }
  | _ => none }
def rulesHoldRow : OpenClaim := { program := "ytmldepgkclpbeaadoor", sum := "b5b1006fc0bcb2a4133a84b315a651d20f154b674a470ea4fd62b31a0fbdd2ad", func := "ropewalk/ropewalklaw07.RulesHold", spec := "rulesHold", inPlace := ["internal/reflectlite.ValueOf", "(internal/reflectlite.Value).Type", "(internal/reflectlite.Value).IsNil", "internal/reflectlite.TypeOf", "(internal/reflectlite.Value).Elem", "(internal/reflectlite.Value).Set"], unfollowed := true, recurses := true, named := ["errors.errorType"], apart := false, laid := [("errors.errorType", laid_errors_errorType)] }
def RulesHoldSaid : Prop := rulesHoldRow.holds Tryd.pinned (OpenSpec.ofChange rulesHoldSpec)

/-- ITS FALSE NEIGHBOUR: 'it returns false'. Refute it at one input. -/
def rulesHoldWrong : ChangeSpec := { name := "rulesHold", fn := fun _ => fun
  | [d1, d2, d3] => { results := [.lit (.bool false)], args := [d1, d2, d3] }
  | _ => none }
def RulesHoldWrongFalsely : Prop := rulesHoldRow.holds Tryd.pinned (OpenSpec.ofChange rulesHoldWrong)

/-- 'ropewalklaw07.RulesOne': WHATEVER THE INPUT: true; the input reads as it did. -/
def rulesOneSpec : ChangeSpec := { name := "rulesOne", fn := fun _ => fun
  | [d1, d2] => { results := [.lit (.bool true)], args := [d1, d2] }
  | _ => none }
def rulesOneRow : OpenClaim := { program := "ytmldepgkclpbeaadoor", sum := "b5b1006fc0bcb2a4133a84b315a651d20f154b674a470ea4fd62b31a0fbdd2ad", func := "ropewalk/ropewalklaw07.RulesOne", spec := "rulesOne", inPlace := ["internal/reflectlite.ValueOf", "(internal/reflectlite.Value).Type", "(internal/reflectlite.Value).IsNil", "internal/reflectlite.TypeOf", "(internal/reflectlite.Value).Elem", "(internal/reflectlite.Value).Set"], unfollowed := true, recurses := true, named := ["errors.errorType"], apart := false, laid := [("errors.errorType", laid_errors_errorType)] }
def RulesOneSaid : Prop := rulesOneRow.holds Tryd.pinned (OpenSpec.ofChange rulesOneSpec)

/-- ITS FALSE NEIGHBOUR: 'it returns false'. Refute it at one input. -/
def rulesOneWrong : ChangeSpec := { name := "rulesOne", fn := fun _ => fun
  | [d1, d2] => { results := [.lit (.bool false)], args := [d1, d2] }
  | _ => none }
def RulesOneWrongFalsely : Prop := rulesOneRow.holds Tryd.pinned (OpenSpec.ofChange rulesOneWrong)

/- THE SECOND FORM. 'bulk': how many values and letters a reading holds, each counted each time it is reached (what is shared counts as often as it is met; a slice's spare places count too). A statement '..UptoSaid' is the law's where the arguments, and the package variables that the reading takes, are together of bulk at most 1048576: NARROWER than '..Said'. Prove '..Said' where nothing that the law and all that it calls make is longer than what came in: it says more and counts as full. Else prove '..UptoSaid'. A law counts once. -/
mutual
def uptoBulk {H : Type} : DataW H → Nat
  | .lit (.string bytes) => bytes.length + 1
  | .lit _ => 1
  | .nil => 1
  | .ptr d => uptoBulk d + 1
  | .slice elems spare => uptoBulkAll elems + uptoBulkAll spare + 1
  | .agg parts => uptoBulkAll parts + 1
  | .iface _ d => uptoBulk d + 1
  | .map entries => uptoBulkEntries entries + 1
  | .held _ => 1
def uptoBulkAll {H : Type} : List (DataW H) → Nat
  | [] => 0
  | d :: r => uptoBulk d + uptoBulkAll r
def uptoBulkEntries {H : Type} : List (Lit × DataW H) → Nat
  | [] => 0
  | x :: r => uptoBulkEntry x + uptoBulkEntries r
def uptoBulkEntry {H : Type} : Lit × DataW H → Nat
  | (.string bytes, d) => bytes.length + uptoBulk d + 1
  | (_, d) => uptoBulk d + 1
 end
def uptoSmall : (H : Type) → List (DataW H) → Bool := fun _ ds => decide (uptoBulkAll ds ≤ 1048576)
def OpenSpec.upto (s : _root_.Go.ChangeSpec) : _root_.Go.OpenSpec := { _root_.Go.OpenSpec.ofChange s with cond := some uptoSmall }

/-- 'ropewalklaw07.RulesNames', WHERE WHAT IT READS IS OF BULK AT MOST 1048576: true; the input reads as it did. -/
def rulesNamesUptoRow : OpenClaim := { program := "ytmldepgkclpbeaadoor", sum := "b5b1006fc0bcb2a4133a84b315a651d20f154b674a470ea4fd62b31a0fbdd2ad", func := "ropewalk/ropewalklaw07.RulesNames", spec := "rulesNames", inPlace := ["internal/reflectlite.ValueOf", "(internal/reflectlite.Value).Type", "(internal/reflectlite.Value).IsNil", "internal/reflectlite.TypeOf", "(internal/reflectlite.Value).Elem", "(internal/reflectlite.Value).Set"], unfollowed := true, recurses := true, named := ["errors.errorType"], apart := false, laid := [("errors.errorType", laid_errors_errorType)], narrowed := true }
def RulesNamesUptoSaid : Prop := rulesNamesUptoRow.holds Tryd.pinned (OpenSpec.upto rulesNamesSpec)

/-- 'ropewalklaw07.RulesHold', WHERE WHAT IT READS IS OF BULK AT MOST 1048576: true; the input reads as it did. -/
def rulesHoldUptoRow : OpenClaim := { program := "ytmldepgkclpbeaadoor", sum := "b5b1006fc0bcb2a4133a84b315a651d20f154b674a470ea4fd62b31a0fbdd2ad", func := "ropewalk/ropewalklaw07.RulesHold", spec := "rulesHold", inPlace := ["internal/reflectlite.ValueOf", "(internal/reflectlite.Value).Type", "(internal/reflectlite.Value).IsNil", "internal/reflectlite.TypeOf", "(internal/reflectlite.Value).Elem", "(internal/reflectlite.Value).Set"], unfollowed := true, recurses := true, named := ["errors.errorType"], apart := false, laid := [("errors.errorType", laid_errors_errorType)], narrowed := true }
def RulesHoldUptoSaid : Prop := rulesHoldUptoRow.holds Tryd.pinned (OpenSpec.upto rulesHoldSpec)

/-- 'ropewalklaw07.RulesOne', WHERE WHAT IT READS IS OF BULK AT MOST 1048576: true; the input reads as it did. -/
def rulesOneUptoRow : OpenClaim := { program := "ytmldepgkclpbeaadoor", sum := "b5b1006fc0bcb2a4133a84b315a651d20f154b674a470ea4fd62b31a0fbdd2ad", func := "ropewalk/ropewalklaw07.RulesOne", spec := "rulesOne", inPlace := ["internal/reflectlite.ValueOf", "(internal/reflectlite.Value).Type", "(internal/reflectlite.Value).IsNil", "internal/reflectlite.TypeOf", "(internal/reflectlite.Value).Elem", "(internal/reflectlite.Value).Set"], unfollowed := true, recurses := true, named := ["errors.errorType"], apart := false, laid := [("errors.errorType", laid_errors_errorType)], narrowed := true }
def RulesOneUptoSaid : Prop := rulesOneUptoRow.holds Tryd.pinned (OpenSpec.upto rulesOneSpec)

end Rows
end Go.Proofs.YtmldepgkclpbeaaDoor
