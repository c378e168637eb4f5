/-
  DERIVED. GIVEN WITH THE SEED: THE CARDS: each row of YtpclfkjbhlekaaaDoorRows.lean that lists a variable, with what it lists TIED to the program's text (the seventh form; the later family's looks); each row that meets fmt, with fmt's text TOLD by the authors' own Lean function (tested against real Go, not proved from fmt's source: count such statements apart). THE CARD IS WHAT COUNTS. Prove the row's statement (the work); the ties are given (YtpclfkjbhlekaaaDoorTie.lean); close each card by the builder's one call (the guide's Derived/Test/ToyasCard.lean, 'card_holds'). Laid BY PROGRAM, IN A SANDBOX (cutbox-door.mjs). By AI agents, Wed Nov 11 2026. No macro, syntax, notation, axiom, sorry.
-/
import Derived.Test.YtpclfkjbhlekaaaDoorRows
import GoSem.ClaimSeven
namespace Go.Proofs.YtpclfkjbhlekaaaDoor
namespace Rows

/-- THE TIED CARD OF 'tumbrellaw14.NameTells'. -/
def nameTellsCard : Claim7 := { stood := { row := nameTellsRow, standIns := [], harness := (true, "edac422e2768f75b7088ab8ebab049d33401b52a25780bb9cdea2f7a672ef9ba"), looks := true }, kinds := [], alts := [], laidByText := true, laidKinds := [.data, .data, .data, .sentinel, .sentinel], laidTests := true, laidLooks := .later }
def NameTellsCardSaid : Prop := Claim7.holds Tryd.pinned (.plain (OpenSpec.ofChange nameTellsSpec)) nameTellsCard

/-- THE TIED CARD OF 'tumbrellaw14.NameUnlike'. -/
def nameUnlikeCard : Claim7 := { stood := { row := nameUnlikeRow, standIns := [], harness := (true, "edac422e2768f75b7088ab8ebab049d33401b52a25780bb9cdea2f7a672ef9ba"), looks := true }, kinds := [], alts := [], laidByText := true, laidKinds := [.data, .data, .data, .sentinel, .sentinel], laidTests := true, laidLooks := .later }
def NameUnlikeCardSaid : Prop := Claim7.holds Tryd.pinned (.plain (OpenSpec.ofChange nameUnlikeSpec)) nameUnlikeCard

/-- THE TIED CARD OF 'tumbrellaw14.NameBack'. -/
def nameBackCard : Claim7 := { stood := { row := nameBackRow, standIns := [], harness := (true, "edac422e2768f75b7088ab8ebab049d33401b52a25780bb9cdea2f7a672ef9ba"), looks := true }, kinds := [], alts := [], laidByText := true, laidKinds := [.data, .data, .data, .sentinel, .sentinel], laidTests := true, laidLooks := .later }
def NameBackCardSaid : Prop := Claim7.holds Tryd.pinned (.plain (OpenSpec.ofChange nameBackSpec)) nameBackCard

/-- THE SECOND FORM's CARD OF 'tumbrellaw14.NameTells'. -/
def nameTellsUptoCard : Claim7 := { stood := { row := nameTellsUptoRow, standIns := [], harness := (true, "edac422e2768f75b7088ab8ebab049d33401b52a25780bb9cdea2f7a672ef9ba"), looks := true }, kinds := [], alts := [], laidByText := true, laidKinds := [.data, .data, .data, .sentinel, .sentinel], laidTests := true, laidLooks := .later }
def NameTellsUptoCardSaid : Prop := Claim7.holds Tryd.pinned (.plain (OpenSpec.upto nameTellsSpec)) nameTellsUptoCard

/-- THE SECOND FORM's CARD OF 'tumbrellaw14.NameUnlike'. -/
def nameUnlikeUptoCard : Claim7 := { stood := { row := nameUnlikeUptoRow, standIns := [], harness := (true, "edac422e2768f75b7088ab8ebab049d33401b52a25780bb9cdea2f7a672ef9ba"), looks := true }, kinds := [], alts := [], laidByText := true, laidKinds := [.data, .data, .data, .sentinel, .sentinel], laidTests := true, laidLooks := .later }
def NameUnlikeUptoCardSaid : Prop := Claim7.holds Tryd.pinned (.plain (OpenSpec.upto nameUnlikeSpec)) nameUnlikeUptoCard

/-- THE SECOND FORM's CARD OF 'tumbrellaw14.NameBack'. -/
def nameBackUptoCard : Claim7 := { stood := { row := nameBackUptoRow, standIns := [], harness := (true, "edac422e2768f75b7088ab8ebab049d33401b52a25780bb9cdea2f7a672ef9ba"), looks := true }, kinds := [], alts := [], laidByText := true, laidKinds := [.data, .data, .data, .sentinel, .sentinel], laidTests := true, laidLooks := .later }
def NameBackUptoCardSaid : Prop := Claim7.holds Tryd.pinned (.plain (OpenSpec.upto nameBackSpec)) nameBackUptoCard
end Rows
end Go.Proofs.YtpclfkjbhlekaaaDoor
