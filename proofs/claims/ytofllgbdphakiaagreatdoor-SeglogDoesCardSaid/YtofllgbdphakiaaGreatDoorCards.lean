/-
  DERIVED. GIVEN WITH THE SEED: THE CARDS: each row of YtofllgbdphakiaaGreatDoorRows.lean that lists a variable, with what it lists TIED to the program's text (the seventh form; the later family's looks); each row that meets fmt, with fmt's text TOLD by the authors' own Lean function (tested against real Go, not proved from fmt's source: count such statements apart). THE CARD IS WHAT COUNTS. Prove the row's statement (the work); the ties are given (YtofllgbdphakiaaGreatDoorTie.lean); close each card by the builder's one call (the guide's Derived/Test/ToyasCard.lean, 'card_holds'). Laid BY PROGRAM, IN A SANDBOX (cutbox-door.mjs). By AI agents, Wed Nov 11 2026. No macro, syntax, notation, axiom, sorry.
-/
import Derived.Test.YtofllgbdphakiaaGreatDoorRows
import GoSem.ClaimSeven
namespace Go.Proofs.YtofllgbdphakiaaGreatDoor
namespace Rows

/-- THE TIED CARD OF 'tumbrellaw15.SeglogSure'. -/
def seglogSureCard : Claim7 := { stood := { row := seglogSureRow, standIns := [], harness := (true, "03424d9bce3cea5990746e12ce5e6140761451eda852b4f9f26bcd4ba9feb5af"), looks := true }, kinds := [], alts := [], laidByText := true, laidKinds := [.data, .data, .data], laidTests := true, laidLooks := .later }
def SeglogSureCardSaid : Prop := Claim7.holds Tryz.pinned (.plain (OpenSpec.ofChange seglogSureSpec)) seglogSureCard

/-- THE TIED CARD OF 'tumbrellaw15.SeglogDoes'. -/
def seglogDoesCard : Claim7 := { stood := { row := seglogDoesRow, standIns := [], harness := (true, "03424d9bce3cea5990746e12ce5e6140761451eda852b4f9f26bcd4ba9feb5af"), looks := true }, kinds := [], alts := [], laidByText := true, laidKinds := [.data, .data, .data], laidTests := true, laidLooks := .later }
def SeglogDoesCardSaid : Prop := Claim7.holds Tryz.pinned (.plain (OpenSpec.ofChange seglogDoesSpec)) seglogDoesCard

/-- THE TIED CARD OF 'tumbrellaw15.SeglogBack'. -/
def seglogBackCard : Claim7 := { stood := { row := seglogBackRow, standIns := [], harness := (true, "03424d9bce3cea5990746e12ce5e6140761451eda852b4f9f26bcd4ba9feb5af"), looks := true }, kinds := [], alts := [], laidByText := true, laidKinds := [.data, .data, .data, .sentinel, .sentinel], laidTests := true, laidLooks := .later }
def SeglogBackCardSaid : Prop := Claim7.holds Tryz.pinned (.plain (OpenSpec.ofChange seglogBackSpec)) seglogBackCard

/-- THE SECOND FORM's CARD OF 'tumbrellaw15.SeglogSure'. -/
def seglogSureUptoCard : Claim7 := { stood := { row := seglogSureUptoRow, standIns := [], harness := (true, "03424d9bce3cea5990746e12ce5e6140761451eda852b4f9f26bcd4ba9feb5af"), looks := true }, kinds := [], alts := [], laidByText := true, laidKinds := [.data, .data, .data], laidTests := true, laidLooks := .later }
def SeglogSureUptoCardSaid : Prop := Claim7.holds Tryz.pinned (.plain (OpenSpec.upto seglogSureSpec)) seglogSureUptoCard

/-- THE SECOND FORM's CARD OF 'tumbrellaw15.SeglogDoes'. -/
def seglogDoesUptoCard : Claim7 := { stood := { row := seglogDoesUptoRow, standIns := [], harness := (true, "03424d9bce3cea5990746e12ce5e6140761451eda852b4f9f26bcd4ba9feb5af"), looks := true }, kinds := [], alts := [], laidByText := true, laidKinds := [.data, .data, .data], laidTests := true, laidLooks := .later }
def SeglogDoesUptoCardSaid : Prop := Claim7.holds Tryz.pinned (.plain (OpenSpec.upto seglogDoesSpec)) seglogDoesUptoCard

/-- THE SECOND FORM's CARD OF 'tumbrellaw15.SeglogBack'. -/
def seglogBackUptoCard : Claim7 := { stood := { row := seglogBackUptoRow, standIns := [], harness := (true, "03424d9bce3cea5990746e12ce5e6140761451eda852b4f9f26bcd4ba9feb5af"), looks := true }, kinds := [], alts := [], laidByText := true, laidKinds := [.data, .data, .data, .sentinel, .sentinel], laidTests := true, laidLooks := .later }
def SeglogBackUptoCardSaid : Prop := Claim7.holds Tryz.pinned (.plain (OpenSpec.upto seglogBackSpec)) seglogBackUptoCard
end Rows
end Go.Proofs.YtofllgbdphakiaaGreatDoor
