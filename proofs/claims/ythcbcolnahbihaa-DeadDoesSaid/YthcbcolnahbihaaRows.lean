/-
  No cell of these rows narrows 'for every input' (looked for: loops, veiled, ifaces, maps, wideKeys, modest, calm, conditions, laid).
  DERIVED. THE GIVEN ROWS OF THIS SEAT. 4 by the template 'for every input the law returns true; each argument reads behind the call as it read before'; 0 by the template 'total and deterministic' (their statements: YthcbcolnahbihaaTotals.lean).
  GIVEN WITH THE SEED: the statements are not yours to turn. If you find one false, say at which input.
  Laid BY PROGRAM, IN A SANDBOX (cutbox-rows.mjs): the forced cells as the released guide's own fill.sh prints them over the translation 3a7ec3743c48d5ae… (all of the seat's roots in one cut). By AI agents, Wed Nov 11 2026. No macro, syntax, notation, axiom, sorry.
-/
import Derived.Test.YthcbcolnahbihaaChecked
import GoSem.Claim
import GoSem.ClaimJoined
import GoSem.ClaimMapViews
import Derived.JoinedTies
import Derived.KernelRfl
namespace Go.Proofs.Ythcbcolnahbihaa
/- THE CELL 'sum', in the pinned program and in every row, IS THE sha256 OF THE DUMP (.gsa) THAT YthcbcolnahbihaaProg.lean LOADS. Nothing in Lean hashes anything: it is a label: what it is worth is what the hold of that sum in a sandbox is worth. -/
noncomputable def Try.pinned : Pinned := { name := "ythcbcolnahbihaa", sum := "3a7ec3743c48d5aec33bf768489e0f3daa01803a72b08d05982c3309b9974293", checked := Try.checked }
namespace Rows
def none {H : Type} : Left H := { results := [], args := [] }

/-- 'tumbrellaw10.DeadDoes': WHATEVER THE INPUT: true; the input reads as it did. -/
def deadDoesSpec : ChangeSpec := { name := "deadDoes", fn := fun _ => fun
  | [d] => { results := [.lit (.bool true)], args := [d] }
  | _ => none }
def deadDoesRow : OpenClaim := { program := "ythcbcolnahbihaa", sum := "3a7ec3743c48d5aec33bf768489e0f3daa01803a72b08d05982c3309b9974293", func := "tumbrel/tumbrellaw10.DeadDoes", spec := "deadDoes", inPlace := ["internal/abi.NoEscape"], unfollowed := true, recurses := true, apart := false }
def DeadDoesSaid : Prop := deadDoesRow.holds Try.pinned (OpenSpec.ofChange deadDoesSpec)

/-- ITS FALSE NEIGHBOUR: 'it returns false'. Refute it at one input. -/
def deadDoesWrong : ChangeSpec := { name := "deadDoes", fn := fun _ => fun
  | [d] => { results := [.lit (.bool false)], args := [d] }
  | _ => none }
def DeadDoesWrongFalsely : Prop := deadDoesRow.holds Try.pinned (OpenSpec.ofChange deadDoesWrong)

/-- 'tumbrellaw10.DeadMade': WHATEVER THE INPUT: true; the input reads as it did. -/
def deadMadeSpec : ChangeSpec := { name := "deadMade", fn := fun _ => fun
  | [d1, d2, d3] => { results := [.lit (.bool true)], args := [d1, d2, d3] }
  | _ => none }
def deadMadeRow : OpenClaim := { program := "ythcbcolnahbihaa", sum := "3a7ec3743c48d5aec33bf768489e0f3daa01803a72b08d05982c3309b9974293", func := "tumbrel/tumbrellaw10.DeadMade", spec := "deadMade", inPlace := ["internal/abi.NoEscape"], unfollowed := true, recurses := true, apart := false }
def DeadMadeSaid : Prop := deadMadeRow.holds Try.pinned (OpenSpec.ofChange deadMadeSpec)

/-- ITS FALSE NEIGHBOUR: 'it returns false'. Refute it at one input. -/
def deadMadeWrong : ChangeSpec := { name := "deadMade", fn := fun _ => fun
  | [d1, d2, d3] => { results := [.lit (.bool false)], args := [d1, d2, d3] }
  | _ => none }
def DeadMadeWrongFalsely : Prop := deadMadeRow.holds Try.pinned (OpenSpec.ofChange deadMadeWrong)

/-- 'tumbrellaw10.DeadAgain': WHATEVER THE INPUT: true; the input reads as it did. -/
def deadAgainSpec : ChangeSpec := { name := "deadAgain", fn := fun _ => fun
  | [d1, d2] => { results := [.lit (.bool true)], args := [d1, d2] }
  | _ => none }
def deadAgainRow : OpenClaim := { program := "ythcbcolnahbihaa", sum := "3a7ec3743c48d5aec33bf768489e0f3daa01803a72b08d05982c3309b9974293", func := "tumbrel/tumbrellaw10.DeadAgain", spec := "deadAgain", inPlace := ["internal/abi.NoEscape"], unfollowed := true, recurses := true, apart := false }
def DeadAgainSaid : Prop := deadAgainRow.holds Try.pinned (OpenSpec.ofChange deadAgainSpec)

/-- ITS FALSE NEIGHBOUR: 'it returns false'. Refute it at one input. -/
def deadAgainWrong : ChangeSpec := { name := "deadAgain", fn := fun _ => fun
  | [d1, d2] => { results := [.lit (.bool false)], args := [d1, d2] }
  | _ => none }
def DeadAgainWrongFalsely : Prop := deadAgainRow.holds Try.pinned (OpenSpec.ofChange deadAgainWrong)

/-- 'tumbrellaw10.DeadOnce': WHATEVER THE INPUT: true; the input reads as it did. -/
def deadOnceSpec : ChangeSpec := { name := "deadOnce", fn := fun _ => fun
  | [d1, d2, d3] => { results := [.lit (.bool true)], args := [d1, d2, d3] }
  | _ => none }
def deadOnceRow : OpenClaim := { program := "ythcbcolnahbihaa", sum := "3a7ec3743c48d5aec33bf768489e0f3daa01803a72b08d05982c3309b9974293", func := "tumbrel/tumbrellaw10.DeadOnce", spec := "deadOnce", inPlace := ["internal/abi.NoEscape"], unfollowed := true, recurses := true, apart := false }
def DeadOnceSaid : Prop := deadOnceRow.holds Try.pinned (OpenSpec.ofChange deadOnceSpec)

/-- ITS FALSE NEIGHBOUR: 'it returns false'. Refute it at one input. -/
def deadOnceWrong : ChangeSpec := { name := "deadOnce", fn := fun _ => fun
  | [d1, d2, d3] => { results := [.lit (.bool false)], args := [d1, d2, d3] }
  | _ => none }
def DeadOnceWrongFalsely : Prop := deadOnceRow.holds Try.pinned (OpenSpec.ofChange deadOnceWrong)

/- THE SECOND FORM. 'bulk': how many values and letters a reading holds, each counted each time it is reached (what is shared counts as often as it is met; a slice's spare places count too). A statement '..UptoSaid' is the law's where the arguments, and the package variables that the reading takes, are together of bulk at most 1048576: NARROWER than '..Said'. Prove '..Said' where nothing that the law and all that it calls make is longer than what came in: it says more and counts as full. Else prove '..UptoSaid'. A law counts once. -/
mutual
def uptoBulk {H : Type} : DataW H → Nat
  | .lit (.string bytes) => bytes.length + 1
  | .lit _ => 1
  | .nil => 1
  | .ptr d => uptoBulk d + 1
  | .slice elems spare => uptoBulkAll elems + uptoBulkAll spare + 1
  | .agg parts => uptoBulkAll parts + 1
  | .iface _ d => uptoBulk d + 1
  | .map entries => uptoBulkEntries entries + 1
  | .held _ => 1
def uptoBulkAll {H : Type} : List (DataW H) → Nat
  | [] => 0
  | d :: r => uptoBulk d + uptoBulkAll r
def uptoBulkEntries {H : Type} : List (Lit × DataW H) → Nat
  | [] => 0
  | x :: r => uptoBulkEntry x + uptoBulkEntries r
def uptoBulkEntry {H : Type} : Lit × DataW H → Nat
  | (.string bytes, d) => bytes.length + uptoBulk d + 1
  | (_, d) => uptoBulk d + 1
 end
def uptoSmall : (H : Type) → List (DataW H) → Bool := fun _ ds => decide (uptoBulkAll ds ≤ 1048576)
def OpenSpec.upto (s : _root_.Go.ChangeSpec) : _root_.Go.OpenSpec := { _root_.Go.OpenSpec.ofChange s with cond := some uptoSmall }

/-- 'tumbrellaw10.DeadDoes', WHERE WHAT IT READS IS OF BULK AT MOST 1048576: true; the input reads as it did. -/
def deadDoesUptoRow : OpenClaim := { program := "ythcbcolnahbihaa", sum := "3a7ec3743c48d5aec33bf768489e0f3daa01803a72b08d05982c3309b9974293", func := "tumbrel/tumbrellaw10.DeadDoes", spec := "deadDoes", inPlace := ["internal/abi.NoEscape"], unfollowed := true, recurses := true, apart := false, narrowed := true }
def DeadDoesUptoSaid : Prop := deadDoesUptoRow.holds Try.pinned (OpenSpec.upto deadDoesSpec)

/-- 'tumbrellaw10.DeadMade', WHERE WHAT IT READS IS OF BULK AT MOST 1048576: true; the input reads as it did. -/
def deadMadeUptoRow : OpenClaim := { program := "ythcbcolnahbihaa", sum := "3a7ec3743c48d5aec33bf768489e0f3daa01803a72b08d05982c3309b9974293", func := "tumbrel/tumbrellaw10.DeadMade", spec := "deadMade", inPlace := ["internal/abi.NoEscape"], unfollowed := true, recurses := true, apart := false, narrowed := true }
def DeadMadeUptoSaid : Prop := deadMadeUptoRow.holds Try.pinned (OpenSpec.upto deadMadeSpec)

/-- 'tumbrellaw10.DeadAgain', WHERE WHAT IT READS IS OF BULK AT MOST 1048576: true; the input reads as it did. -/
def deadAgainUptoRow : OpenClaim := { program := "ythcbcolnahbihaa", sum := "3a7ec3743c48d5aec33bf768489e0f3daa01803a72b08d05982c3309b9974293", func := "tumbrel/tumbrellaw10.DeadAgain", spec := "deadAgain", inPlace := ["internal/abi.NoEscape"], unfollowed := true, recurses := true, apart := false, narrowed := true }
def DeadAgainUptoSaid : Prop := deadAgainUptoRow.holds Try.pinned (OpenSpec.upto deadAgainSpec)

/-- 'tumbrellaw10.DeadOnce', WHERE WHAT IT READS IS OF BULK AT MOST 1048576: true; the input reads as it did. -/
def deadOnceUptoRow : OpenClaim := { program := "ythcbcolnahbihaa", sum := "3a7ec3743c48d5aec33bf768489e0f3daa01803a72b08d05982c3309b9974293", func := "tumbrel/tumbrellaw10.DeadOnce", spec := "deadOnce", inPlace := ["internal/abi.NoEscape"], unfollowed := true, recurses := true, apart := false, narrowed := true }
def DeadOnceUptoSaid : Prop := deadOnceUptoRow.holds Try.pinned (OpenSpec.upto deadOnceSpec)

end Rows
end Go.Proofs.Ythcbcolnahbihaa
