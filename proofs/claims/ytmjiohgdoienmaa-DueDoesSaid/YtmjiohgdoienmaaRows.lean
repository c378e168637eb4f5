/-
  No cell of these rows narrows 'for every input' (looked for: loops, veiled, ifaces, maps, wideKeys, modest, calm, conditions, laid).
  DERIVED. THE GIVEN ROWS OF THIS SEAT. 3 by the template 'for every input the law returns true; each argument reads behind the call as it read before'; 0 by the template 'total and deterministic' (their statements: YtmjiohgdoienmaaTotals.lean).
  GIVEN WITH THE SEED: the statements are not yours to turn. If you find one false, say at which input.
  Laid BY PROGRAM, IN A SANDBOX (cutbox-rows.mjs): the forced cells as the released guide's own fill.sh prints them over the translation 67b3472c89a4e848… (all of the seat's roots in one cut). By AI agents, Wed Nov 11 2026. No macro, syntax, notation, axiom, sorry.
-/
import Derived.Test.YtmjiohgdoienmaaChecked
import GoSem.Claim
import GoSem.ClaimJoined
import GoSem.ClaimMapViews
import Derived.JoinedTies
import Derived.KernelRfl
namespace Go.Proofs.Ytmjiohgdoienmaa
/- THE CELL 'sum', in the pinned program and in every row, IS THE sha256 OF THE DUMP (.gsa) THAT YtmjiohgdoienmaaProg.lean LOADS. Nothing in Lean hashes anything: it is a label: what it is worth is what the hold of that sum in a sandbox is worth. -/
noncomputable def Try.pinned : Pinned := { name := "ytmjiohgdoienmaa", sum := "67b3472c89a4e848c74825eae01f1175d28bf49449aaf19bd6e9bc7167124eff", checked := Try.checked }
namespace Rows
def none {H : Type} : Left H := { results := [], args := [] }

/-- 'tumbrellaw07.DueRises': WHATEVER THE INPUT: true; the input reads as it did. -/
def dueRisesSpec : ChangeSpec := { name := "dueRises", fn := fun _ => fun
  | [d] => { results := [.lit (.bool true)], args := [d] }
  | _ => none }
def dueRisesRow : OpenClaim := { program := "ytmjiohgdoienmaa", sum := "67b3472c89a4e848c74825eae01f1175d28bf49449aaf19bd6e9bc7167124eff", func := "tumbrel/tumbrellaw07.DueRises", spec := "dueRises", unfollowed := true, recurses := true, apart := false }
def DueRisesSaid : Prop := dueRisesRow.holds Try.pinned (OpenSpec.ofChange dueRisesSpec)

/-- ITS FALSE NEIGHBOUR: 'it returns false'. Refute it at one input. -/
def dueRisesWrong : ChangeSpec := { name := "dueRises", fn := fun _ => fun
  | [d] => { results := [.lit (.bool false)], args := [d] }
  | _ => none }
def DueRisesWrongFalsely : Prop := dueRisesRow.holds Try.pinned (OpenSpec.ofChange dueRisesWrong)

/-- 'tumbrellaw07.DueMoves': WHATEVER THE INPUT: true; the input reads as it did. -/
def dueMovesSpec : ChangeSpec := { name := "dueMoves", fn := fun _ => fun
  | [d1, d2, d3] => { results := [.lit (.bool true)], args := [d1, d2, d3] }
  | _ => none }
def dueMovesRow : OpenClaim := { program := "ytmjiohgdoienmaa", sum := "67b3472c89a4e848c74825eae01f1175d28bf49449aaf19bd6e9bc7167124eff", func := "tumbrel/tumbrellaw07.DueMoves", spec := "dueMoves", unfollowed := true, recurses := true, apart := false }
def DueMovesSaid : Prop := dueMovesRow.holds Try.pinned (OpenSpec.ofChange dueMovesSpec)

/-- ITS FALSE NEIGHBOUR: 'it returns false'. Refute it at one input. -/
def dueMovesWrong : ChangeSpec := { name := "dueMoves", fn := fun _ => fun
  | [d1, d2, d3] => { results := [.lit (.bool false)], args := [d1, d2, d3] }
  | _ => none }
def DueMovesWrongFalsely : Prop := dueMovesRow.holds Try.pinned (OpenSpec.ofChange dueMovesWrong)

/-- 'tumbrellaw07.DueDoes': WHATEVER THE INPUT: true; the input reads as it did. -/
def dueDoesSpec : ChangeSpec := { name := "dueDoes", fn := fun _ => fun
  | [d1, d2] => { results := [.lit (.bool true)], args := [d1, d2] }
  | _ => none }
def dueDoesRow : OpenClaim := { program := "ytmjiohgdoienmaa", sum := "67b3472c89a4e848c74825eae01f1175d28bf49449aaf19bd6e9bc7167124eff", func := "tumbrel/tumbrellaw07.DueDoes", spec := "dueDoes", unfollowed := true, recurses := true, apart := false }
def DueDoesSaid : Prop := dueDoesRow.holds Try.pinned (OpenSpec.ofChange dueDoesSpec)

/-- ITS FALSE NEIGHBOUR: 'it returns false'. Refute it at one input. -/
def dueDoesWrong : ChangeSpec := { name := "dueDoes", fn := fun _ => fun
  | [d1, d2] => { results := [.lit (.bool false)], args := [d1, d2] }
  | _ => none }
def DueDoesWrongFalsely : Prop := dueDoesRow.holds Try.pinned (OpenSpec.ofChange dueDoesWrong)

/- THE SECOND FORM. 'bulk': how many values and letters a reading holds, each counted each time it is reached (what is shared counts as often as it is met; a slice's spare places count too). A statement '..UptoSaid' is the law's where the arguments, and the package variables that the reading takes, are together of bulk at most 1048576: NARROWER than '..Said'. Prove '..Said' where nothing that the law and all that it calls make is longer than what came in: it says more and counts as full. Else prove '..UptoSaid'. A law counts once. -/
mutual
def uptoBulk {H : Type} : DataW H → Nat
  | .lit (.string bytes) => bytes.length + 1
  | .lit _ => 1
  | .nil => 1
  | .ptr d => uptoBulk d + 1
  | .slice elems spare => uptoBulkAll elems + uptoBulkAll spare + 1
  | .agg parts => uptoBulkAll parts + 1
  | .iface _ d => uptoBulk d + 1
  | .map entries => uptoBulkEntries entries + 1
  | .held _ => 1
def uptoBulkAll {H : Type} : List (DataW H) → Nat
  | [] => 0
  | d :: r => uptoBulk d + uptoBulkAll r
def uptoBulkEntries {H : Type} : List (Lit × DataW H) → Nat
  | [] => 0
  | x :: r => uptoBulkEntry x + uptoBulkEntries r
def uptoBulkEntry {H : Type} : Lit × DataW H → Nat
  | (.string bytes, d) => bytes.length + uptoBulk d + 1
  | (_, d) => uptoBulk d + 1
 end
def uptoSmall : (H : Type) → List (DataW H) → Bool := fun _ ds => decide (uptoBulkAll ds ≤ 1048576)
def OpenSpec.upto (s : _root_.Go.ChangeSpec) : _root_.Go.OpenSpec := { _root_.Go.OpenSpec.ofChange s with cond := some uptoSmall }

/-- 'tumbrellaw07.DueRises', WHERE WHAT IT READS IS OF BULK AT MOST 1048576: true; the input reads as it did. -/
def dueRisesUptoRow : OpenClaim := { program := "ytmjiohgdoienmaa", sum := "67b3472c89a4e848c74825eae01f1175d28bf49449aaf19bd6e9bc7167124eff", func := "tumbrel/tumbrellaw07.DueRises", spec := "dueRises", unfollowed := true, recurses := true, apart := false, narrowed := true }
def DueRisesUptoSaid : Prop := dueRisesUptoRow.holds Try.pinned (OpenSpec.upto dueRisesSpec)

/-- 'tumbrellaw07.DueMoves', WHERE WHAT IT READS IS OF BULK AT MOST 1048576: true; the input reads as it did. -/
def dueMovesUptoRow : OpenClaim := { program := "ytmjiohgdoienmaa", sum := "67b3472c89a4e848c74825eae01f1175d28bf49449aaf19bd6e9bc7167124eff", func := "tumbrel/tumbrellaw07.DueMoves", spec := "dueMoves", unfollowed := true, recurses := true, apart := false, narrowed := true }
def DueMovesUptoSaid : Prop := dueMovesUptoRow.holds Try.pinned (OpenSpec.upto dueMovesSpec)

/-- 'tumbrellaw07.DueDoes', WHERE WHAT IT READS IS OF BULK AT MOST 1048576: true; the input reads as it did. -/
def dueDoesUptoRow : OpenClaim := { program := "ytmjiohgdoienmaa", sum := "67b3472c89a4e848c74825eae01f1175d28bf49449aaf19bd6e9bc7167124eff", func := "tumbrel/tumbrellaw07.DueDoes", spec := "dueDoes", unfollowed := true, recurses := true, apart := false, narrowed := true }
def DueDoesUptoSaid : Prop := dueDoesUptoRow.holds Try.pinned (OpenSpec.upto dueDoesSpec)

end Rows
end Go.Proofs.Ytmjiohgdoienmaa
