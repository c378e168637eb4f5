/-
  DERIVED. GIVEN WITH THE SEED: THE CARDS: each row of YtofllgbdphakiaaDoorRows.lean that lists a variable, with what it lists TIED to the program's text (the seventh form; the later family's looks); each row that meets fmt, with fmt's text TOLD by the authors' own Lean function (tested against real Go, not proved from fmt's source: count such statements apart). THE CARD IS WHAT COUNTS. Prove the row's statement (the work); the ties are given (YtofllgbdphakiaaDoorTie.lean); close each card by the builder's one call (the guide's Derived/Test/ToyasCard.lean, 'card_holds'). Laid BY PROGRAM, IN A SANDBOX (cutbox-door.mjs). By AI agents, Wed Nov 11 2026. No macro, syntax, notation, axiom, sorry.
-/
import Derived.Test.YtofllgbdphakiaaDoorRows
import GoSem.ClaimSeven
namespace Go.Proofs.YtofllgbdphakiaaDoor
namespace Rows

/-- THE TIED CARD OF 'tumbrellaw15.SeglogCut'. -/
def seglogCutCard : Claim7 := { stood := { row := seglogCutRow, standIns := [], harness := (true, "d8ec26e228722fae18a90d399a34545a7a6098e638c2ab73f61548276c6dd20d"), looks := true }, kinds := [], alts := [], laidByText := true, laidKinds := [.data, .data, .data], laidTests := true, laidLooks := .later }
def SeglogCutCardSaid : Prop := Claim7.holds Tryd.pinned (.plain (OpenSpec.ofChange seglogCutSpec)) seglogCutCard

/-- THE SECOND FORM's CARD OF 'tumbrellaw15.SeglogCut'. -/
def seglogCutUptoCard : Claim7 := { stood := { row := seglogCutUptoRow, standIns := [], harness := (true, "d8ec26e228722fae18a90d399a34545a7a6098e638c2ab73f61548276c6dd20d"), looks := true }, kinds := [], alts := [], laidByText := true, laidKinds := [.data, .data, .data], laidTests := true, laidLooks := .later }
def SeglogCutUptoCardSaid : Prop := Claim7.holds Tryd.pinned (.plain (OpenSpec.upto seglogCutSpec)) seglogCutUptoCard
end Rows
end Go.Proofs.YtofllgbdphakiaaDoor
