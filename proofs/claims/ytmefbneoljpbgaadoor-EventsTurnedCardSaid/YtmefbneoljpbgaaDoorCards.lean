/-
  DERIVED. GIVEN WITH THE SEED: THE CARDS: each row of YtmefbneoljpbgaaDoorRows.lean that lists a variable, with what it lists TIED to the program's text (the seventh form; the later family's looks); each row that meets fmt, with fmt's text TOLD by the authors' own Lean function (tested against real Go, not proved from fmt's source: count such statements apart). THE CARD IS WHAT COUNTS. Prove the row's statement (the work); the ties are given (YtmefbneoljpbgaaDoorTie.lean); close each card by the builder's one call (the guide's Derived/Test/ToyasCard.lean, 'card_holds'). Laid BY PROGRAM, IN A SANDBOX (cutbox-door.mjs). By AI agents, Wed Nov 11 2026. No macro, syntax, notation, axiom, sorry.
-/
import Derived.Test.YtmefbneoljpbgaaDoorRows
import GoSem.ClaimSeven
namespace Go.Proofs.YtmefbneoljpbgaaDoor
namespace Rows

/-- THE TIED CARD OF 'tumbrellaw17.EventsOnce'. -/
def eventsOnceCard : Claim7 := { stood := { row := eventsOnceRow, standIns := [], harness := (true, "a5efd3c3f65fa22378d478d951be2a2525a387d2e48ec49bd74ebdf27cca0fda"), looks := true }, kinds := [], alts := [], laidByText := true, laidKinds := [.data, .data, .data], laidTests := true, laidLooks := .later }
def EventsOnceCardSaid : Prop := Claim7.holds Tryd.pinned (.plain (OpenSpec.ofChange eventsOnceSpec)) eventsOnceCard

/-- THE TIED CARD OF 'tumbrellaw17.EventsTurned'. -/
def eventsTurnedCard : Claim7 := { stood := { row := eventsTurnedRow, standIns := [], harness := (true, "a5efd3c3f65fa22378d478d951be2a2525a387d2e48ec49bd74ebdf27cca0fda"), looks := true }, kinds := [], alts := [], laidByText := true, laidKinds := [.data, .data, .data], laidTests := true, laidLooks := .later }
def EventsTurnedCardSaid : Prop := Claim7.holds Tryd.pinned (.plain (OpenSpec.ofChange eventsTurnedSpec)) eventsTurnedCard

/-- THE SECOND FORM's CARD OF 'tumbrellaw17.EventsOnce'. -/
def eventsOnceUptoCard : Claim7 := { stood := { row := eventsOnceUptoRow, standIns := [], harness := (true, "a5efd3c3f65fa22378d478d951be2a2525a387d2e48ec49bd74ebdf27cca0fda"), looks := true }, kinds := [], alts := [], laidByText := true, laidKinds := [.data, .data, .data], laidTests := true, laidLooks := .later }
def EventsOnceUptoCardSaid : Prop := Claim7.holds Tryd.pinned (.plain (OpenSpec.upto eventsOnceSpec)) eventsOnceUptoCard

/-- THE SECOND FORM's CARD OF 'tumbrellaw17.EventsTurned'. -/
def eventsTurnedUptoCard : Claim7 := { stood := { row := eventsTurnedUptoRow, standIns := [], harness := (true, "a5efd3c3f65fa22378d478d951be2a2525a387d2e48ec49bd74ebdf27cca0fda"), looks := true }, kinds := [], alts := [], laidByText := true, laidKinds := [.data, .data, .data], laidTests := true, laidLooks := .later }
def EventsTurnedUptoCardSaid : Prop := Claim7.holds Tryd.pinned (.plain (OpenSpec.upto eventsTurnedSpec)) eventsTurnedUptoCard
end Rows
end Go.Proofs.YtmefbneoljpbgaaDoor
