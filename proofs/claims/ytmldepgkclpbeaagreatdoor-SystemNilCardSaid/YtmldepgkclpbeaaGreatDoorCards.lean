/-
  DERIVED. GIVEN WITH THE SEED: THE CARDS: each row of YtmldepgkclpbeaaGreatDoorRows.lean that lists a variable, with what it lists TIED to the program's text (the seventh form; the later family's looks); each row that meets fmt, with fmt's text TOLD by the authors' own Lean function (tested against real Go, not proved from fmt's source: count such statements apart). THE CARD IS WHAT COUNTS. Prove the row's statement (the work); the ties are given (YtmldepgkclpbeaaGreatDoorTie.lean); close each card by the builder's one call (the guide's Derived/Test/ToyasCard.lean, 'card_holds'). Laid BY PROGRAM, IN A SANDBOX (cutbox-door.mjs). By AI agents, Wed Nov 11 2026. No macro, syntax, notation, axiom, sorry.
-/
import Derived.Test.YtmldepgkclpbeaaGreatDoorRows
import GoSem.ClaimSeven
namespace Go.Proofs.YtmldepgkclpbeaaGreatDoor
namespace Rows

/-- THE TIED CARD OF 'ropewalklaw07.RulesWraps'. -/
def rulesWrapsCard : Claim7 := { stood := { row := rulesWrapsRow, standIns := [], harness := (true, "48922c0077aa55efb76eeb6d122a02af24a44531aefc073934427aaf91b583c2"), looks := true }, kinds := [], alts := [], laidByText := true, laidKinds := [.handle], laidTests := true, laidLooks := .later }
def RulesWrapsCardSaid : Prop := Claim7.holds Tryz.pinned (.plain (OpenSpec.ofChange rulesWrapsSpec)) rulesWrapsCard

/-- THE TIED CARD OF 'ropewalklaw07.RulesPlays'. -/
def rulesPlaysCard : Claim7 := { stood := { row := rulesPlaysRow, standIns := [], harness := (true, "48922c0077aa55efb76eeb6d122a02af24a44531aefc073934427aaf91b583c2"), looks := true }, kinds := [], alts := [], laidByText := true, laidKinds := [.handle], laidTests := true, laidLooks := .later }
def RulesPlaysCardSaid : Prop := Claim7.holds Tryz.pinned (.plain (OpenSpec.ofChange rulesPlaysSpec)) rulesPlaysCard

/-- THE TIED CARD OF 'ropewalklaw10.SystemNames'. -/
def systemNamesCard : Claim7 := { stood := { row := systemNamesRow, standIns := [], harness := (true, "48922c0077aa55efb76eeb6d122a02af24a44531aefc073934427aaf91b583c2"), looks := true }, kinds := [], alts := [], laidByText := true, laidKinds := [.handle], laidTests := true, laidLooks := .later }
def SystemNamesCardSaid : Prop := Claim7.holds Tryz.pinned (.plain (OpenSpec.ofChange systemNamesSpec)) systemNamesCard

/-- THE TIED CARD OF 'ropewalklaw10.SystemWraps'. -/
def systemWrapsCard : Claim7 := { stood := { row := systemWrapsRow, standIns := [], harness := (true, "48922c0077aa55efb76eeb6d122a02af24a44531aefc073934427aaf91b583c2"), looks := true }, kinds := [], alts := [], laidByText := true, laidKinds := [.handle], laidTests := true, laidLooks := .later }
def SystemWrapsCardSaid : Prop := Claim7.holds Tryz.pinned (.plain (OpenSpec.ofChange systemWrapsSpec)) systemWrapsCard

/-- THE TIED CARD OF 'ropewalklaw10.SystemSound'. -/
def systemSoundCard : Claim7 := { stood := { row := systemSoundRow, standIns := [], harness := (true, "48922c0077aa55efb76eeb6d122a02af24a44531aefc073934427aaf91b583c2"), looks := true }, kinds := [], alts := [], laidByText := true, laidKinds := [.handle], laidTests := true, laidLooks := .later }
def SystemSoundCardSaid : Prop := Claim7.holds Tryz.pinned (.plain (OpenSpec.ofChange systemSoundSpec)) systemSoundCard

/-- THE TIED CARD OF 'ropewalklaw10.SystemNil'. -/
def systemNilCard : Claim7 := { stood := { row := systemNilRow, standIns := [], harness := (true, "48922c0077aa55efb76eeb6d122a02af24a44531aefc073934427aaf91b583c2"), looks := true }, kinds := [], alts := [], laidByText := true, laidKinds := [.handle], laidTests := true, laidLooks := .later }
def SystemNilCardSaid : Prop := Claim7.holds Tryz.pinned (.plain (OpenSpec.ofChange systemNilSpec)) systemNilCard

/-- THE SECOND FORM's CARD OF 'ropewalklaw07.RulesWraps'. -/
def rulesWrapsUptoCard : Claim7 := { stood := { row := rulesWrapsUptoRow, standIns := [], harness := (true, "48922c0077aa55efb76eeb6d122a02af24a44531aefc073934427aaf91b583c2"), looks := true }, kinds := [], alts := [], laidByText := true, laidKinds := [.handle], laidTests := true, laidLooks := .later }
def RulesWrapsUptoCardSaid : Prop := Claim7.holds Tryz.pinned (.plain (OpenSpec.upto rulesWrapsSpec)) rulesWrapsUptoCard

/-- THE SECOND FORM's CARD OF 'ropewalklaw07.RulesPlays'. -/
def rulesPlaysUptoCard : Claim7 := { stood := { row := rulesPlaysUptoRow, standIns := [], harness := (true, "48922c0077aa55efb76eeb6d122a02af24a44531aefc073934427aaf91b583c2"), looks := true }, kinds := [], alts := [], laidByText := true, laidKinds := [.handle], laidTests := true, laidLooks := .later }
def RulesPlaysUptoCardSaid : Prop := Claim7.holds Tryz.pinned (.plain (OpenSpec.upto rulesPlaysSpec)) rulesPlaysUptoCard

/-- THE SECOND FORM's CARD OF 'ropewalklaw10.SystemNames'. -/
def systemNamesUptoCard : Claim7 := { stood := { row := systemNamesUptoRow, standIns := [], harness := (true, "48922c0077aa55efb76eeb6d122a02af24a44531aefc073934427aaf91b583c2"), looks := true }, kinds := [], alts := [], laidByText := true, laidKinds := [.handle], laidTests := true, laidLooks := .later }
def SystemNamesUptoCardSaid : Prop := Claim7.holds Tryz.pinned (.plain (OpenSpec.upto systemNamesSpec)) systemNamesUptoCard

/-- THE SECOND FORM's CARD OF 'ropewalklaw10.SystemWraps'. -/
def systemWrapsUptoCard : Claim7 := { stood := { row := systemWrapsUptoRow, standIns := [], harness := (true, "48922c0077aa55efb76eeb6d122a02af24a44531aefc073934427aaf91b583c2"), looks := true }, kinds := [], alts := [], laidByText := true, laidKinds := [.handle], laidTests := true, laidLooks := .later }
def SystemWrapsUptoCardSaid : Prop := Claim7.holds Tryz.pinned (.plain (OpenSpec.upto systemWrapsSpec)) systemWrapsUptoCard

/-- THE SECOND FORM's CARD OF 'ropewalklaw10.SystemSound'. -/
def systemSoundUptoCard : Claim7 := { stood := { row := systemSoundUptoRow, standIns := [], harness := (true, "48922c0077aa55efb76eeb6d122a02af24a44531aefc073934427aaf91b583c2"), looks := true }, kinds := [], alts := [], laidByText := true, laidKinds := [.handle], laidTests := true, laidLooks := .later }
def SystemSoundUptoCardSaid : Prop := Claim7.holds Tryz.pinned (.plain (OpenSpec.upto systemSoundSpec)) systemSoundUptoCard

/-- THE SECOND FORM's CARD OF 'ropewalklaw10.SystemNil'. -/
def systemNilUptoCard : Claim7 := { stood := { row := systemNilUptoRow, standIns := [], harness := (true, "48922c0077aa55efb76eeb6d122a02af24a44531aefc073934427aaf91b583c2"), looks := true }, kinds := [], alts := [], laidByText := true, laidKinds := [.handle], laidTests := true, laidLooks := .later }
def SystemNilUptoCardSaid : Prop := Claim7.holds Tryz.pinned (.plain (OpenSpec.upto systemNilSpec)) systemNilUptoCard
end Rows
end Go.Proofs.YtmldepgkclpbeaaGreatDoor
