/-
  DERIVED. GIVEN WITH THE SEED: THE CARDS: each row of YtcnamndapofimaaGreatDoorRows.lean that lists a variable, with what it lists TIED to the program's text (the seventh form; the later family's looks); each row that meets fmt, with fmt's text TOLD by the authors' own Lean function (tested against real Go, not proved from fmt's source: count such statements apart). THE CARD IS WHAT COUNTS. Prove the row's statement (the work); the ties are given (YtcnamndapofimaaGreatDoorTie.lean); close each card by the builder's one call (the guide's Derived/Test/ToyasCard.lean, 'card_holds'). Laid BY PROGRAM, IN A SANDBOX (cutbox-door.mjs). By AI agents, Wed Nov 11 2026. No macro, syntax, notation, axiom, sorry.
-/
import Derived.Test.YtcnamndapofimaaGreatDoorRows
import GoSem.ClaimSeven
namespace Go.Proofs.YtcnamndapofimaaGreatDoor
namespace Rows

/-- THE TIED CARD OF 'ropewalktop.TopShared'. -/
def topSharedCard : Claim7 := { stood := { row := topSharedRow, standIns := [], harness := (true, "8c61b93105f29e78b6d10ebde2734b1bf3c72341d572f2f90556b3fda4371cb2"), looks := true }, kinds := [], alts := [], laidByText := true, laidKinds := [.handle], laidTests := true, laidLooks := .later }
def TopSharedCardSaid : Prop := Claim7.holds Tryz.pinned (.plain (OpenSpec.ofChange topSharedSpec)) topSharedCard

/-- THE TIED CARD OF 'ropewalklaw15.MachineNone'. -/
def machineNoneCard : Claim7 := { stood := { row := machineNoneRow, standIns := [], harness := (true, "8c61b93105f29e78b6d10ebde2734b1bf3c72341d572f2f90556b3fda4371cb2"), looks := true }, kinds := [], alts := [], laidByText := true, laidKinds := [.handle], laidTests := true, laidLooks := .later }
def MachineNoneCardSaid : Prop := Claim7.holds Tryz.pinned (.plain (OpenSpec.ofChange machineNoneSpec)) machineNoneCard

/-- THE TIED CARD OF 'ropewalklaw17.TraceKeeps'. -/
def traceKeepsCard : Claim7 := { stood := { row := traceKeepsRow, standIns := [], harness := (true, "8c61b93105f29e78b6d10ebde2734b1bf3c72341d572f2f90556b3fda4371cb2"), looks := true }, kinds := [], alts := [], laidByText := true, laidKinds := [.handle], laidTests := true, laidLooks := .later }
def TraceKeepsCardSaid : Prop := Claim7.holds Tryz.pinned (.plain (OpenSpec.ofChange traceKeepsSpec)) traceKeepsCard

/-- THE TIED CARD OF 'ropewalklaw17.TraceReplays'. -/
def traceReplaysCard : Claim7 := { stood := { row := traceReplaysRow, standIns := [], harness := (true, "8c61b93105f29e78b6d10ebde2734b1bf3c72341d572f2f90556b3fda4371cb2"), looks := true }, kinds := [], alts := [], laidByText := true, laidKinds := [.handle], laidTests := true, laidLooks := .later }
def TraceReplaysCardSaid : Prop := Claim7.holds Tryz.pinned (.plain (OpenSpec.ofChange traceReplaysSpec)) traceReplaysCard

/-- THE TIED CARD OF 'ropewalklaw17.TraceLasts'. -/
def traceLastsCard : Claim7 := { stood := { row := traceLastsRow, standIns := [], harness := (true, "8c61b93105f29e78b6d10ebde2734b1bf3c72341d572f2f90556b3fda4371cb2"), looks := true }, kinds := [], alts := [], laidByText := true, laidKinds := [.handle], laidTests := true, laidLooks := .later }
def TraceLastsCardSaid : Prop := Claim7.holds Tryz.pinned (.plain (OpenSpec.ofChange traceLastsSpec)) traceLastsCard

/-- THE TIED CARD OF 'ropewalklaw17.TraceRanges'. -/
def traceRangesCard : Claim7 := { stood := { row := traceRangesRow, standIns := [], harness := (true, "8c61b93105f29e78b6d10ebde2734b1bf3c72341d572f2f90556b3fda4371cb2"), looks := true }, kinds := [], alts := [], laidByText := true, laidKinds := [.handle], laidTests := true, laidLooks := .later }
def TraceRangesCardSaid : Prop := Claim7.holds Tryz.pinned (.plain (OpenSpec.ofChange traceRangesSpec)) traceRangesCard

/-- THE TIED CARD OF 'ropewalklaw17.TraceCuts'. -/
def traceCutsCard : Claim7 := { stood := { row := traceCutsRow, standIns := [], harness := (true, "8c61b93105f29e78b6d10ebde2734b1bf3c72341d572f2f90556b3fda4371cb2"), looks := true }, kinds := [], alts := [], laidByText := true, laidKinds := [.handle], laidTests := true, laidLooks := .later }
def TraceCutsCardSaid : Prop := Claim7.holds Tryz.pinned (.plain (OpenSpec.ofChange traceCutsSpec)) traceCutsCard

/-- THE TIED CARD OF 'ropewalklaw17.TraceMachine'. -/
def traceMachineCard : Claim7 := { stood := { row := traceMachineRow, standIns := [], harness := (true, "8c61b93105f29e78b6d10ebde2734b1bf3c72341d572f2f90556b3fda4371cb2"), looks := true }, kinds := [], alts := [], laidByText := true, laidKinds := [.handle], laidTests := true, laidLooks := .later }
def TraceMachineCardSaid : Prop := Claim7.holds Tryz.pinned (.plain (OpenSpec.ofChange traceMachineSpec)) traceMachineCard

/-- THE SECOND FORM's CARD OF 'ropewalktop.TopShared'. -/
def topSharedUptoCard : Claim7 := { stood := { row := topSharedUptoRow, standIns := [], harness := (true, "8c61b93105f29e78b6d10ebde2734b1bf3c72341d572f2f90556b3fda4371cb2"), looks := true }, kinds := [], alts := [], laidByText := true, laidKinds := [.handle], laidTests := true, laidLooks := .later }
def TopSharedUptoCardSaid : Prop := Claim7.holds Tryz.pinned (.plain (OpenSpec.upto topSharedSpec)) topSharedUptoCard

/-- THE SECOND FORM's CARD OF 'ropewalklaw15.MachineNone'. -/
def machineNoneUptoCard : Claim7 := { stood := { row := machineNoneUptoRow, standIns := [], harness := (true, "8c61b93105f29e78b6d10ebde2734b1bf3c72341d572f2f90556b3fda4371cb2"), looks := true }, kinds := [], alts := [], laidByText := true, laidKinds := [.handle], laidTests := true, laidLooks := .later }
def MachineNoneUptoCardSaid : Prop := Claim7.holds Tryz.pinned (.plain (OpenSpec.upto machineNoneSpec)) machineNoneUptoCard

/-- THE SECOND FORM's CARD OF 'ropewalklaw17.TraceKeeps'. -/
def traceKeepsUptoCard : Claim7 := { stood := { row := traceKeepsUptoRow, standIns := [], harness := (true, "8c61b93105f29e78b6d10ebde2734b1bf3c72341d572f2f90556b3fda4371cb2"), looks := true }, kinds := [], alts := [], laidByText := true, laidKinds := [.handle], laidTests := true, laidLooks := .later }
def TraceKeepsUptoCardSaid : Prop := Claim7.holds Tryz.pinned (.plain (OpenSpec.upto traceKeepsSpec)) traceKeepsUptoCard

/-- THE SECOND FORM's CARD OF 'ropewalklaw17.TraceReplays'. -/
def traceReplaysUptoCard : Claim7 := { stood := { row := traceReplaysUptoRow, standIns := [], harness := (true, "8c61b93105f29e78b6d10ebde2734b1bf3c72341d572f2f90556b3fda4371cb2"), looks := true }, kinds := [], alts := [], laidByText := true, laidKinds := [.handle], laidTests := true, laidLooks := .later }
def TraceReplaysUptoCardSaid : Prop := Claim7.holds Tryz.pinned (.plain (OpenSpec.upto traceReplaysSpec)) traceReplaysUptoCard

/-- THE SECOND FORM's CARD OF 'ropewalklaw17.TraceLasts'. -/
def traceLastsUptoCard : Claim7 := { stood := { row := traceLastsUptoRow, standIns := [], harness := (true, "8c61b93105f29e78b6d10ebde2734b1bf3c72341d572f2f90556b3fda4371cb2"), looks := true }, kinds := [], alts := [], laidByText := true, laidKinds := [.handle], laidTests := true, laidLooks := .later }
def TraceLastsUptoCardSaid : Prop := Claim7.holds Tryz.pinned (.plain (OpenSpec.upto traceLastsSpec)) traceLastsUptoCard

/-- THE SECOND FORM's CARD OF 'ropewalklaw17.TraceRanges'. -/
def traceRangesUptoCard : Claim7 := { stood := { row := traceRangesUptoRow, standIns := [], harness := (true, "8c61b93105f29e78b6d10ebde2734b1bf3c72341d572f2f90556b3fda4371cb2"), looks := true }, kinds := [], alts := [], laidByText := true, laidKinds := [.handle], laidTests := true, laidLooks := .later }
def TraceRangesUptoCardSaid : Prop := Claim7.holds Tryz.pinned (.plain (OpenSpec.upto traceRangesSpec)) traceRangesUptoCard

/-- THE SECOND FORM's CARD OF 'ropewalklaw17.TraceCuts'. -/
def traceCutsUptoCard : Claim7 := { stood := { row := traceCutsUptoRow, standIns := [], harness := (true, "8c61b93105f29e78b6d10ebde2734b1bf3c72341d572f2f90556b3fda4371cb2"), looks := true }, kinds := [], alts := [], laidByText := true, laidKinds := [.handle], laidTests := true, laidLooks := .later }
def TraceCutsUptoCardSaid : Prop := Claim7.holds Tryz.pinned (.plain (OpenSpec.upto traceCutsSpec)) traceCutsUptoCard

/-- THE SECOND FORM's CARD OF 'ropewalklaw17.TraceMachine'. -/
def traceMachineUptoCard : Claim7 := { stood := { row := traceMachineUptoRow, standIns := [], harness := (true, "8c61b93105f29e78b6d10ebde2734b1bf3c72341d572f2f90556b3fda4371cb2"), looks := true }, kinds := [], alts := [], laidByText := true, laidKinds := [.handle], laidTests := true, laidLooks := .later }
def TraceMachineUptoCardSaid : Prop := Claim7.holds Tryz.pinned (.plain (OpenSpec.upto traceMachineSpec)) traceMachineUptoCard
end Rows
end Go.Proofs.YtcnamndapofimaaGreatDoor
