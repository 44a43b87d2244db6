/-
  NARROWER THAN 'FOR EVERY INPUT', by the rows' own cells (each row's printed sentence says how): RulesWraps: laid · RulesPlays: laid · SystemNames: laid · SystemWraps: laid · SystemSound: laid · SystemNil: laid.
  DERIVED. THE GIVEN ROWS OF THIS SEAT. 6 by the template 'for every input the law returns true; each argument reads behind the call as it read before'; 0 by the template 'total and deterministic' (their statements: YtmldepgkclpbeaaGreatDoorTotals.lean).
  GIVEN WITH THE SEED: the statements are not yours to turn. If you find one false, say at which input.
  Laid BY PROGRAM, IN A SANDBOX (cutbox-rows.mjs): the forced cells as the released guide's own fill.sh prints them over the translation 892cd921fac4cd0f… (all of the seat's roots in one cut). By AI agents, Wed Nov 11 2026. No macro, syntax, notation, axiom, sorry.
-/
import Derived.Test.YtmldepgkclpbeaaGreatDoorChecked
import GoSem.Claim
import GoSem.ClaimJoined
import GoSem.ClaimMapViews
import Derived.JoinedTies
import Derived.KernelRfl
namespace Go.Proofs.YtmldepgkclpbeaaGreatDoor
/- THE CELL 'sum', in the pinned program and in every row, IS THE sha256 OF THE DUMP (.gsa) THAT YtmldepgkclpbeaaGreatDoorProg.lean LOADS. Nothing in Lean hashes anything: it is a label: what it is worth is what the hold of that sum in a sandbox is worth. -/
noncomputable def Tryz.pinned : Pinned := { name := "ytmldepgkclpbeaagreatdoor", sum := "892cd921fac4cd0fe4ca22a3dd0dad52bf224cee99dcc1bddeda0a7a81c33d74", checked := Tryz.checked }
namespace Rows
def none {H : Type} : Left H := { results := [], args := [] }

/- WHAT THE LISTED PACKAGE-LEVEL VARIABLES READ AS WHEN THE CALL BEGINS. Each datum BY PROGRAM (the guide's laid-datum.mjs) off the statement by which the dump's own 'gosem.cut.vars' lays the variable. In a bare row this is a premise. The card (YtmldepgkclpbeaaGreatDoorCards.lean) ties it to the program's text. -/
def laid_errors_errorType {H : Type} : DataW H := .iface "internal/reflectlite.rtype" (.agg [.ptr (.lit (.string [101, 114, 114, 111, 114]))])

/-- 'ropewalklaw07.RulesWraps': WHATEVER THE INPUT: true; the input reads as it did. -/
def rulesWrapsSpec : ChangeSpec := { name := "rulesWraps", fn := fun _ => fun
  | [d1, d2] => { results := [.lit (.bool true)], args := [d1, d2] }
  | _ => none }
def rulesWrapsRow : OpenClaim := { program := "ytmldepgkclpbeaagreatdoor", sum := "892cd921fac4cd0fe4ca22a3dd0dad52bf224cee99dcc1bddeda0a7a81c33d74", func := "ropewalk/ropewalklaw07.RulesWraps", spec := "rulesWraps", inPlace := ["internal/reflectlite.ValueOf", "(internal/reflectlite.Value).Type", "(internal/reflectlite.Value).IsNil", "internal/reflectlite.TypeOf", "(internal/reflectlite.Value).Elem", "(internal/reflectlite.Value).Set"], unfollowed := true, recurses := true, named := ["errors.errorType"], apart := false, laid := [("errors.errorType", laid_errors_errorType)] }
def RulesWrapsSaid : Prop := rulesWrapsRow.holds Tryz.pinned (OpenSpec.ofChange rulesWrapsSpec)

/-- ITS FALSE NEIGHBOUR: 'it returns false'. Refute it at one input. -/
def rulesWrapsWrong : ChangeSpec := { name := "rulesWraps", fn := fun _ => fun
  | [d1, d2] => { results := [.lit (.bool false)], args := [d1, d2] }
  | _ => none }
def RulesWrapsWrongFalsely : Prop := rulesWrapsRow.holds Tryz.pinned (OpenSpec.ofChange rulesWrapsWrong)

/-- 'ropewalklaw07.RulesPlays': WHATEVER THE INPUT: true; the input reads as it did. -/
def rulesPlaysSpec : ChangeSpec := { name := "rulesPlays", fn := fun _ => fun
  | [d1, d2] => { results := [.lit (.bool true)], args := [d1, d2] }
  | _ => none }
def rulesPlaysRow : OpenClaim := { program := "ytmldepgkclpbeaagreatdoor", sum := "892cd921fac4cd0fe4ca22a3dd0dad52bf224cee99dcc1bddeda0a7a81c33d74", func := "ropewalk/ropewalklaw07.RulesPlays", spec := "rulesPlays", inPlace := ["internal/reflectlite.ValueOf", "(internal/reflectlite.Value).Type", "(internal/reflectlite.Value).IsNil", "internal/reflectlite.TypeOf", "(internal/reflectlite.Value).Elem", "(internal/reflectlite.Value).Set"], unfollowed := true, recurses := true, named := ["errors.errorType"], apart := false, laid := [("errors.errorType", laid_errors_errorType)] }
def RulesPlaysSaid : Prop := rulesPlaysRow.holds Tryz.pinned (OpenSpec.ofChange rulesPlaysSpec)

/-- ITS FALSE NEIGHBOUR: 'it returns false'. Refute it at one input. -/
def rulesPlaysWrong : ChangeSpec := { name := "rulesPlays", fn := fun _ => fun
  | [d1, d2] => { results := [.lit (.bool false)], args := [d1, d2] }
  | _ => none }
def RulesPlaysWrongFalsely : Prop := rulesPlaysRow.holds Tryz.pinned (OpenSpec.ofChange rulesPlaysWrong)

/-- 'ropewalklaw10.SystemNames': WHATEVER THE INPUT: true; the input reads as it did. -/
def systemNamesSpec : ChangeSpec := { name := "systemNames", fn := fun _ => fun
  | [] => { results := [.lit (.bool true)], args := [] }
  | _ => none }
def systemNamesRow : OpenClaim := { program := "ytmldepgkclpbeaagreatdoor", sum := "892cd921fac4cd0fe4ca22a3dd0dad52bf224cee99dcc1bddeda0a7a81c33d74", func := "ropewalk/ropewalklaw10.SystemNames", spec := "systemNames", inPlace := ["internal/reflectlite.ValueOf", "(internal/reflectlite.Value).Type", "(internal/reflectlite.Value).IsNil", "internal/reflectlite.TypeOf", "(internal/reflectlite.Value).Elem", "(internal/reflectlite.Value).Set"], unfollowed := true, recurses := true, named := ["errors.errorType"], apart := false, laid := [("errors.errorType", laid_errors_errorType)] }
def SystemNamesSaid : Prop := systemNamesRow.holds Tryz.pinned (OpenSpec.ofChange systemNamesSpec)

/-- ITS FALSE NEIGHBOUR: 'it returns false'. Refute it at one input. -/
def systemNamesWrong : ChangeSpec := { name := "systemNames", fn := fun _ => fun
  | [] => { results := [.lit (.bool false)], args := [] }
  | _ => none }
def SystemNamesWrongFalsely : Prop := systemNamesRow.holds Tryz.pinned (OpenSpec.ofChange systemNamesWrong)

/-- 'ropewalklaw10.SystemWraps': WHATEVER THE INPUT: true; the input reads as it did. -/
def systemWrapsSpec : ChangeSpec := { name := "systemWraps", fn := fun _ => fun
  | [d1, d2, d3] => { results := [.lit (.bool true)], args := [d1, d2, d3] }
  | _ => none }
def systemWrapsRow : OpenClaim := { program := "ytmldepgkclpbeaagreatdoor", sum := "892cd921fac4cd0fe4ca22a3dd0dad52bf224cee99dcc1bddeda0a7a81c33d74", func := "ropewalk/ropewalklaw10.SystemWraps", spec := "systemWraps", inPlace := ["internal/reflectlite.ValueOf", "(internal/reflectlite.Value).Type", "(internal/reflectlite.Value).IsNil", "internal/reflectlite.TypeOf", "(internal/reflectlite.Value).Elem", "(internal/reflectlite.Value).Set"], unfollowed := true, recurses := true, named := ["errors.errorType"], apart := false, laid := [("errors.errorType", laid_errors_errorType)] }
def SystemWrapsSaid : Prop := systemWrapsRow.holds Tryz.pinned (OpenSpec.ofChange systemWrapsSpec)

/-- ITS FALSE NEIGHBOUR: 'it returns false'. Refute it at one input. -/
def systemWrapsWrong : ChangeSpec := { name := "systemWraps", fn := fun _ => fun
  | [d1, d2, d3] => { results := [.lit (.bool false)], args := [d1, d2, d3] }
  | _ => none }
def SystemWrapsWrongFalsely : Prop := systemWrapsRow.holds Tryz.pinned (OpenSpec.ofChange systemWrapsWrong)

/-- 'ropewalklaw10.SystemSound': WHATEVER THE INPUT: true; the input reads as it did. -/
def systemSoundSpec : ChangeSpec := { name := "systemSound", fn := fun _ => fun
  | [d] => { results := [.lit (.bool true)], args := [d] }
  | _ => none }
def systemSoundRow : OpenClaim := { program := "ytmldepgkclpbeaagreatdoor", sum := "892cd921fac4cd0fe4ca22a3dd0dad52bf224cee99dcc1bddeda0a7a81c33d74", func := "ropewalk/ropewalklaw10.SystemSound", spec := "systemSound", inPlace := ["internal/reflectlite.ValueOf", "(internal/reflectlite.Value).Type", "(internal/reflectlite.Value).IsNil", "internal/reflectlite.TypeOf", "(internal/reflectlite.Value).Elem", "(internal/reflectlite.Value).Set"], unfollowed := true, recurses := true, named := ["errors.errorType"], apart := false, laid := [("errors.errorType", laid_errors_errorType)] }
def SystemSoundSaid : Prop := systemSoundRow.holds Tryz.pinned (OpenSpec.ofChange systemSoundSpec)

/-- ITS FALSE NEIGHBOUR: 'it returns false'. Refute it at one input. -/
def systemSoundWrong : ChangeSpec := { name := "systemSound", fn := fun _ => fun
  | [d] => { results := [.lit (.bool false)], args := [d] }
  | _ => none }
def SystemSoundWrongFalsely : Prop := systemSoundRow.holds Tryz.pinned (OpenSpec.ofChange systemSoundWrong)

/-- 'ropewalklaw10.SystemNil': WHATEVER THE INPUT: true; the input reads as it did. -/
def systemNilSpec : ChangeSpec := { name := "systemNil", fn := fun _ => fun
  | [d1, d2, d3] => { results := [.lit (.bool true)], args := [d1, d2, d3] }
  | _ => none }
def systemNilRow : OpenClaim := { program := "ytmldepgkclpbeaagreatdoor", sum := "892cd921fac4cd0fe4ca22a3dd0dad52bf224cee99dcc1bddeda0a7a81c33d74", func := "ropewalk/ropewalklaw10.SystemNil", spec := "systemNil", inPlace := ["internal/reflectlite.ValueOf", "(internal/reflectlite.Value).Type", "(internal/reflectlite.Value).IsNil", "internal/reflectlite.TypeOf", "(internal/reflectlite.Value).Elem", "(internal/reflectlite.Value).Set"], unfollowed := true, recurses := true, named := ["errors.errorType"], apart := false, laid := [("errors.errorType", laid_errors_errorType)] }
def SystemNilSaid : Prop := systemNilRow.holds Tryz.pinned (OpenSpec.ofChange systemNilSpec)

/-- ITS FALSE NEIGHBOUR: 'it returns false'. Refute it at one input. -/
def systemNilWrong : ChangeSpec := { name := "systemNil", fn := fun _ => fun
  | [d1, d2, d3] => { results := [.lit (.bool false)], args := [d1, d2, d3] }
  | _ => none }
def SystemNilWrongFalsely : Prop := systemNilRow.holds Tryz.pinned (OpenSpec.ofChange systemNilWrong)

/- THE SECOND FORM. 'bulk': how many values and letters a reading holds, each counted each time it is reached (what is shared counts as often as it is met; a slice's spare places count too). A statement '..UptoSaid' is the law's where the arguments, and the package variables that the reading takes, are together of bulk at most 1048576: NARROWER than '..Said'. Prove '..Said' where nothing that the law and all that it calls make is longer than what came in: it says more and counts as full. Else prove '..UptoSaid'. A law counts once. -/
mutual
def uptoBulk {H : Type} : DataW H → Nat
  | .lit (.string bytes) => bytes.length + 1
  | .lit _ => 1
  | .nil => 1
  | .ptr d => uptoBulk d + 1
  | .slice elems spare => uptoBulkAll elems + uptoBulkAll spare + 1
  | .agg parts => uptoBulkAll parts + 1
  | .iface _ d => uptoBulk d + 1
  | .map entries => uptoBulkEntries entries + 1
  | .held _ => 1
def uptoBulkAll {H : Type} : List (DataW H) → Nat
  | [] => 0
  | d :: r => uptoBulk d + uptoBulkAll r
def uptoBulkEntries {H : Type} : List (Lit × DataW H) → Nat
  | [] => 0
  | x :: r => uptoBulkEntry x + uptoBulkEntries r
def uptoBulkEntry {H : Type} : Lit × DataW H → Nat
  | (.string bytes, d) => bytes.length + uptoBulk d + 1
  | (_, d) => uptoBulk d + 1
 end
def uptoSmall : (H : Type) → List (DataW H) → Bool := fun _ ds => decide (uptoBulkAll ds ≤ 1048576)
def OpenSpec.upto (s : _root_.Go.ChangeSpec) : _root_.Go.OpenSpec := { _root_.Go.OpenSpec.ofChange s with cond := some uptoSmall }

/-- 'ropewalklaw07.RulesWraps', WHERE WHAT IT READS IS OF BULK AT MOST 1048576: true; the input reads as it did. -/
def rulesWrapsUptoRow : OpenClaim := { program := "ytmldepgkclpbeaagreatdoor", sum := "892cd921fac4cd0fe4ca22a3dd0dad52bf224cee99dcc1bddeda0a7a81c33d74", func := "ropewalk/ropewalklaw07.RulesWraps", spec := "rulesWraps", inPlace := ["internal/reflectlite.ValueOf", "(internal/reflectlite.Value).Type", "(internal/reflectlite.Value).IsNil", "internal/reflectlite.TypeOf", "(internal/reflectlite.Value).Elem", "(internal/reflectlite.Value).Set"], unfollowed := true, recurses := true, named := ["errors.errorType"], apart := false, laid := [("errors.errorType", laid_errors_errorType)], narrowed := true }
def RulesWrapsUptoSaid : Prop := rulesWrapsUptoRow.holds Tryz.pinned (OpenSpec.upto rulesWrapsSpec)

/-- 'ropewalklaw07.RulesPlays', WHERE WHAT IT READS IS OF BULK AT MOST 1048576: true; the input reads as it did. -/
def rulesPlaysUptoRow : OpenClaim := { program := "ytmldepgkclpbeaagreatdoor", sum := "892cd921fac4cd0fe4ca22a3dd0dad52bf224cee99dcc1bddeda0a7a81c33d74", func := "ropewalk/ropewalklaw07.RulesPlays", spec := "rulesPlays", inPlace := ["internal/reflectlite.ValueOf", "(internal/reflectlite.Value).Type", "(internal/reflectlite.Value).IsNil", "internal/reflectlite.TypeOf", "(internal/reflectlite.Value).Elem", "(internal/reflectlite.Value).Set"], unfollowed := true, recurses := true, named := ["errors.errorType"], apart := false, laid := [("errors.errorType", laid_errors_errorType)], narrowed := true }
def RulesPlaysUptoSaid : Prop := rulesPlaysUptoRow.holds Tryz.pinned (OpenSpec.upto rulesPlaysSpec)

/-- 'ropewalklaw10.SystemNames', WHERE WHAT IT READS IS OF BULK AT MOST 1048576: true; the input reads as it did. -/
def systemNamesUptoRow : OpenClaim := { program := "ytmldepgkclpbeaagreatdoor", sum := "892cd921fac4cd0fe4ca22a3dd0dad52bf224cee99dcc1bddeda0a7a81c33d74", func := "ropewalk/ropewalklaw10.SystemNames", spec := "systemNames", inPlace := ["internal/reflectlite.ValueOf", "(internal/reflectlite.Value).Type", "(internal/reflectlite.Value).IsNil", "internal/reflectlite.TypeOf", "(internal/reflectlite.Value).Elem", "(internal/reflectlite.Value).Set"], unfollowed := true, recurses := true, named := ["errors.errorType"], apart := false, laid := [("errors.errorType", laid_errors_errorType)], narrowed := true }
def SystemNamesUptoSaid : Prop := systemNamesUptoRow.holds Tryz.pinned (OpenSpec.upto systemNamesSpec)

/-- 'ropewalklaw10.SystemWraps', WHERE WHAT IT READS IS OF BULK AT MOST 1048576: true; the input reads as it did. -/
def systemWrapsUptoRow : OpenClaim := { program := "ytmldepgkclpbeaagreatdoor", sum := "892cd921fac4cd0fe4ca22a3dd0dad52bf224cee99dcc1bddeda0a7a81c33d74", func := "ropewalk/ropewalklaw10.SystemWraps", spec := "systemWraps", inPlace := ["internal/reflectlite.ValueOf", "(internal/reflectlite.Value).Type", "(internal/reflectlite.Value).IsNil", "internal/reflectlite.TypeOf", "(internal/reflectlite.Value).Elem", "(internal/reflectlite.Value).Set"], unfollowed := true, recurses := true, named := ["errors.errorType"], apart := false, laid := [("errors.errorType", laid_errors_errorType)], narrowed := true }
def SystemWrapsUptoSaid : Prop := systemWrapsUptoRow.holds Tryz.pinned (OpenSpec.upto systemWrapsSpec)

/-- 'ropewalklaw10.SystemSound', WHERE WHAT IT READS IS OF BULK AT MOST 1048576: true; the input reads as it did. -/
def systemSoundUptoRow : OpenClaim := { program := "ytmldepgkclpbeaagreatdoor", sum := "892cd921fac4cd0fe4ca22a3dd0dad52bf224cee99dcc1bddeda0a7a81c33d74", func := "ropewalk/ropewalklaw10.SystemSound", spec := "systemSound", inPlace := ["internal/reflectlite.ValueOf", "(internal/reflectlite.Value).Type", "(internal/reflectlite.Value).IsNil", "internal/reflectlite.TypeOf", "(internal/reflectlite.Value).Elem", "(internal/reflectlite.Value).Set"], unfollowed := true, recurses := true, named := ["errors.errorType"], apart := false, laid := [("errors.errorType", laid_errors_errorType)], narrowed := true }
def SystemSoundUptoSaid : Prop := systemSoundUptoRow.holds Tryz.pinned (OpenSpec.upto systemSoundSpec)

/-- 'ropewalklaw10.SystemNil', WHERE WHAT IT READS IS OF BULK AT MOST 1048576: true; the input reads as it did. -/
def systemNilUptoRow : OpenClaim := { program := "ytmldepgkclpbeaagreatdoor", sum := "892cd921fac4cd0fe4ca22a3dd0dad52bf224cee99dcc1bddeda0a7a81c33d74", func := "ropewalk/ropewalklaw10.SystemNil", spec := "systemNil", inPlace := ["internal/reflectlite.ValueOf", "(internal/reflectlite.Value).Type", "(internal/reflectlite.Value).IsNil", "internal/reflectlite.TypeOf", "(internal/reflectlite.Value).Elem", "(internal/reflectlite.Value).Set"], unfollowed := true, recurses := true, named := ["errors.errorType"], apart := false, laid := [("errors.errorType", laid_errors_errorType)], narrowed := true }
def SystemNilUptoSaid : Prop := systemNilUptoRow.holds Tryz.pinned (OpenSpec.upto systemNilSpec)

end Rows
end Go.Proofs.YtmldepgkclpbeaaGreatDoor
