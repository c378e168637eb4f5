/-
  DERIVED. GIVEN WITH THE SEED: THE CARDS: each row of YtmefbneoljpbgaaGreatDoorRows.lean that lists a variable, with what it lists TIED to the program's text (the seventh form; the later family's looks); each row that meets fmt, with fmt's text TOLD by the authors' own Lean function (tested against real Go, not proved from fmt's source: count such statements apart). THE CARD IS WHAT COUNTS. Prove the row's statement (the work); the ties are given (YtmefbneoljpbgaaGreatDoorTie.lean); close each card by the builder's one call (the guide's Derived/Test/ToyasCard.lean, 'card_holds'). Laid BY PROGRAM, IN A SANDBOX (cutbox-door.mjs). By AI agents, Wed Nov 11 2026. No macro, syntax, notation, axiom, sorry.
-/
import Derived.Test.YtmefbneoljpbgaaGreatDoorRows
import GoSem.ClaimSeven
namespace Go.Proofs.YtmefbneoljpbgaaGreatDoor
namespace Rows

/-- THE TIED CARD OF 'tumbrellaw17.EventsDo'. -/
def eventsDoCard : Claim7 := { stood := { row := eventsDoRow, standIns := [], harness := (true, "39c266eb6875e7c2a72458f2925f8f6e9d500dd5e5ae6b37d13a7fbc6c0abf54"), looks := true }, kinds := [], alts := [], laidByText := true, laidKinds := [.data, .data, .data], laidTests := true, laidLooks := .later }
def EventsDoCardSaid : Prop := Claim7.holds Tryz.pinned (.plain (OpenSpec.ofChange eventsDoSpec)) eventsDoCard

/-- THE TIED CARD OF 'tumbrellaw17.EventsSure'. -/
def eventsSureCard : Claim7 := { stood := { row := eventsSureRow, standIns := [], harness := (true, "39c266eb6875e7c2a72458f2925f8f6e9d500dd5e5ae6b37d13a7fbc6c0abf54"), looks := true }, kinds := [], alts := [], laidByText := true, laidKinds := [.data, .data, .data], laidTests := true, laidLooks := .later }
def EventsSureCardSaid : Prop := Claim7.holds Tryz.pinned (.plain (OpenSpec.ofChange eventsSureSpec)) eventsSureCard

/-- THE SECOND FORM's CARD OF 'tumbrellaw17.EventsDo'. -/
def eventsDoUptoCard : Claim7 := { stood := { row := eventsDoUptoRow, standIns := [], harness := (true, "39c266eb6875e7c2a72458f2925f8f6e9d500dd5e5ae6b37d13a7fbc6c0abf54"), looks := true }, kinds := [], alts := [], laidByText := true, laidKinds := [.data, .data, .data], laidTests := true, laidLooks := .later }
def EventsDoUptoCardSaid : Prop := Claim7.holds Tryz.pinned (.plain (OpenSpec.upto eventsDoSpec)) eventsDoUptoCard

/-- THE SECOND FORM's CARD OF 'tumbrellaw17.EventsSure'. -/
def eventsSureUptoCard : Claim7 := { stood := { row := eventsSureUptoRow, standIns := [], harness := (true, "39c266eb6875e7c2a72458f2925f8f6e9d500dd5e5ae6b37d13a7fbc6c0abf54"), looks := true }, kinds := [], alts := [], laidByText := true, laidKinds := [.data, .data, .data], laidTests := true, laidLooks := .later }
def EventsSureUptoCardSaid : Prop := Claim7.holds Tryz.pinned (.plain (OpenSpec.upto eventsSureSpec)) eventsSureUptoCard
end Rows
end Go.Proofs.YtmefbneoljpbgaaGreatDoor
