/-
  DERIVED. GIVEN WITH THE SEED: THE CARDS: each row of YtmldepgkclpbeaaDoorRows.lean that lists a variable, with what it lists TIED to the program's text (the seventh form; the later family's looks); each row that meets fmt, with fmt's text TOLD by the authors' own Lean function (tested against real Go, not proved from fmt's source: count such statements apart). THE CARD IS WHAT COUNTS. Prove the row's statement (the work); the ties are given (YtmldepgkclpbeaaDoorTie.lean); close each card by the builder's one call (the guide's Derived/Test/ToyasCard.lean, 'card_holds'). Laid BY PROGRAM, IN A SANDBOX (cutbox-door.mjs). By AI agents, Wed Nov 11 2026. No macro, syntax, notation, axiom, sorry.
-/
import Derived.Test.YtmldepgkclpbeaaDoorRows
import GoSem.ClaimSeven
namespace Go.Proofs.YtmldepgkclpbeaaDoor
namespace Rows

/-- THE TIED CARD OF 'ropewalklaw07.RulesNames'. -/
def rulesNamesCard : Claim7 := { stood := { row := rulesNamesRow, standIns := [], harness := (true, "afd8ce91aad3df74423849d457a9451aa33a5b691f1bb2d52b076ce99f37df8a"), looks := true }, kinds := [], alts := [], laidByText := true, laidKinds := [.handle], laidTests := true, laidLooks := .later }
def RulesNamesCardSaid : Prop := Claim7.holds Tryd.pinned (.plain (OpenSpec.ofChange rulesNamesSpec)) rulesNamesCard

/-- THE TIED CARD OF 'ropewalklaw07.RulesHold'. -/
def rulesHoldCard : Claim7 := { stood := { row := rulesHoldRow, standIns := [], harness := (true, "afd8ce91aad3df74423849d457a9451aa33a5b691f1bb2d52b076ce99f37df8a"), looks := true }, kinds := [], alts := [], laidByText := true, laidKinds := [.handle], laidTests := true, laidLooks := .later }
def RulesHoldCardSaid : Prop := Claim7.holds Tryd.pinned (.plain (OpenSpec.ofChange rulesHoldSpec)) rulesHoldCard

/-- THE TIED CARD OF 'ropewalklaw07.RulesOne'. -/
def rulesOneCard : Claim7 := { stood := { row := rulesOneRow, standIns := [], harness := (true, "afd8ce91aad3df74423849d457a9451aa33a5b691f1bb2d52b076ce99f37df8a"), looks := true }, kinds := [], alts := [], laidByText := true, laidKinds := [.handle], laidTests := true, laidLooks := .later }
def RulesOneCardSaid : Prop := Claim7.holds Tryd.pinned (.plain (OpenSpec.ofChange rulesOneSpec)) rulesOneCard

/-- THE SECOND FORM's CARD OF 'ropewalklaw07.RulesNames'. -/
def rulesNamesUptoCard : Claim7 := { stood := { row := rulesNamesUptoRow, standIns := [], harness := (true, "afd8ce91aad3df74423849d457a9451aa33a5b691f1bb2d52b076ce99f37df8a"), looks := true }, kinds := [], alts := [], laidByText := true, laidKinds := [.handle], laidTests := true, laidLooks := .later }
def RulesNamesUptoCardSaid : Prop := Claim7.holds Tryd.pinned (.plain (OpenSpec.upto rulesNamesSpec)) rulesNamesUptoCard

/-- THE SECOND FORM's CARD OF 'ropewalklaw07.RulesHold'. -/
def rulesHoldUptoCard : Claim7 := { stood := { row := rulesHoldUptoRow, standIns := [], harness := (true, "afd8ce91aad3df74423849d457a9451aa33a5b691f1bb2d52b076ce99f37df8a"), looks := true }, kinds := [], alts := [], laidByText := true, laidKinds := [.handle], laidTests := true, laidLooks := .later }
def RulesHoldUptoCardSaid : Prop := Claim7.holds Tryd.pinned (.plain (OpenSpec.upto rulesHoldSpec)) rulesHoldUptoCard

/-- THE SECOND FORM's CARD OF 'ropewalklaw07.RulesOne'. -/
def rulesOneUptoCard : Claim7 := { stood := { row := rulesOneUptoRow, standIns := [], harness := (true, "afd8ce91aad3df74423849d457a9451aa33a5b691f1bb2d52b076ce99f37df8a"), looks := true }, kinds := [], alts := [], laidByText := true, laidKinds := [.handle], laidTests := true, laidLooks := .later }
def RulesOneUptoCardSaid : Prop := Claim7.holds Tryd.pinned (.plain (OpenSpec.upto rulesOneSpec)) rulesOneUptoCard
end Rows
end Go.Proofs.YtmldepgkclpbeaaDoor
