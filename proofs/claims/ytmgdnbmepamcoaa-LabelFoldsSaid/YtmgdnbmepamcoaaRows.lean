/-
  No cell of these rows narrows 'for every input' (looked for: loops, veiled, ifaces, maps, wideKeys, modest, calm, conditions, laid).
  DERIVED. THE GIVEN ROWS OF THIS SEAT. 4 by the template 'for every input the law returns true; each argument reads behind the call as it read before'; 0 by the template 'total and deterministic' (their statements: YtmgdnbmepamcoaaTotals.lean).
  GIVEN WITH THE SEED: the statements are not yours to turn. If you find one false, say at which input.
  Laid BY PROGRAM, IN A SANDBOX (cutbox-rows.mjs): the forced cells as the released guide's own fill.sh prints them over the translation dd575525e9030405… (all of the seat's roots in one cut). By AI agents, Wed Nov 11 2026. No macro, syntax, notation, axiom, sorry.
-/
import Derived.Test.YtmgdnbmepamcoaaChecked
import GoSem.Claim
import GoSem.ClaimJoined
import GoSem.ClaimMapViews
import Derived.JoinedTies
import Derived.KernelRfl
namespace Go.Proofs.Ytmgdnbmepamcoaa
/- THE CELL 'sum', in the pinned program and in every row, IS THE sha256 OF THE DUMP (.gsa) THAT YtmgdnbmepamcoaaProg.lean LOADS. Nothing in Lean hashes anything: it is a label: what it is worth is what the hold of that sum in a sandbox is worth. -/
noncomputable def Try.pinned : Pinned := { name := "ytmgdnbmepamcoaa", sum := "dd575525e9030405b7b3e0f929f30831bd822a6cdaefb3160fedaa848e113377", checked := Try.checked }
namespace Rows
def none {H : Type} : Left H := { results := [], args := [] }

/-- 'tumbrellaw03.LabelTells': WHATEVER THE INPUT: true; the input reads as it did. -/
def labelTellsSpec : ChangeSpec := { name := "labelTells", fn := fun _ => fun
  | [d1, d2, d3] => { results := [.lit (.bool true)], args := [d1, d2, d3] }
  | _ => none }
def labelTellsRow : OpenClaim := { program := "ytmgdnbmepamcoaa", sum := "dd575525e9030405b7b3e0f929f30831bd822a6cdaefb3160fedaa848e113377", func := "tumbrel/tumbrellaw03.LabelTells", spec := "labelTells", inPlace := ["internal/abi.NoEscape"], apart := false }
def LabelTellsSaid : Prop := labelTellsRow.holds Try.pinned (OpenSpec.ofChange labelTellsSpec)

/-- ITS FALSE NEIGHBOUR: 'it returns false'. Refute it at one input. -/
def labelTellsWrong : ChangeSpec := { name := "labelTells", fn := fun _ => fun
  | [d1, d2, d3] => { results := [.lit (.bool false)], args := [d1, d2, d3] }
  | _ => none }
def LabelTellsWrongFalsely : Prop := labelTellsRow.holds Try.pinned (OpenSpec.ofChange labelTellsWrong)

/-- 'tumbrellaw03.LabelFolds': WHATEVER THE INPUT: true; the input reads as it did. -/
def labelFoldsSpec : ChangeSpec := { name := "labelFolds", fn := fun _ => fun
  | [d] => { results := [.lit (.bool true)], args := [d] }
  | _ => none }
def labelFoldsRow : OpenClaim := { program := "ytmgdnbmepamcoaa", sum := "dd575525e9030405b7b3e0f929f30831bd822a6cdaefb3160fedaa848e113377", func := "tumbrel/tumbrellaw03.LabelFolds", spec := "labelFolds", inPlace := ["internal/abi.NoEscape"], apart := false }
def LabelFoldsSaid : Prop := labelFoldsRow.holds Try.pinned (OpenSpec.ofChange labelFoldsSpec)

/-- ITS FALSE NEIGHBOUR: 'it returns false'. Refute it at one input. -/
def labelFoldsWrong : ChangeSpec := { name := "labelFolds", fn := fun _ => fun
  | [d] => { results := [.lit (.bool false)], args := [d] }
  | _ => none }
def LabelFoldsWrongFalsely : Prop := labelFoldsRow.holds Try.pinned (OpenSpec.ofChange labelFoldsWrong)

/-- 'tumbrellaw03.LabelCuts': WHATEVER THE INPUT: true; the input reads as it did. -/
def labelCutsSpec : ChangeSpec := { name := "labelCuts", fn := fun _ => fun
  | [d1, d2] => { results := [.lit (.bool true)], args := [d1, d2] }
  | _ => none }
def labelCutsRow : OpenClaim := { program := "ytmgdnbmepamcoaa", sum := "dd575525e9030405b7b3e0f929f30831bd822a6cdaefb3160fedaa848e113377", func := "tumbrel/tumbrellaw03.LabelCuts", spec := "labelCuts", inPlace := ["internal/abi.NoEscape"], apart := false }
def LabelCutsSaid : Prop := labelCutsRow.holds Try.pinned (OpenSpec.ofChange labelCutsSpec)

/-- ITS FALSE NEIGHBOUR: 'it returns false'. Refute it at one input. -/
def labelCutsWrong : ChangeSpec := { name := "labelCuts", fn := fun _ => fun
  | [d1, d2] => { results := [.lit (.bool false)], args := [d1, d2] }
  | _ => none }
def LabelCutsWrongFalsely : Prop := labelCutsRow.holds Try.pinned (OpenSpec.ofChange labelCutsWrong)

/-- 'tumbrellaw03.LabelOrders': WHATEVER THE INPUT: true; the input reads as it did. -/
def labelOrdersSpec : ChangeSpec := { name := "labelOrders", fn := fun _ => fun
  | [d1, d2, d3] => { results := [.lit (.bool true)], args := [d1, d2, d3] }
  | _ => none }
def labelOrdersRow : OpenClaim := { program := "ytmgdnbmepamcoaa", sum := "dd575525e9030405b7b3e0f929f30831bd822a6cdaefb3160fedaa848e113377", func := "tumbrel/tumbrellaw03.LabelOrders", spec := "labelOrders", inPlace := ["internal/abi.NoEscape"], apart := false }
def LabelOrdersSaid : Prop := labelOrdersRow.holds Try.pinned (OpenSpec.ofChange labelOrdersSpec)

/-- ITS FALSE NEIGHBOUR: 'it returns false'. Refute it at one input. -/
def labelOrdersWrong : ChangeSpec := { name := "labelOrders", fn := fun _ => fun
  | [d1, d2, d3] => { results := [.lit (.bool false)], args := [d1, d2, d3] }
  | _ => none }
def LabelOrdersWrongFalsely : Prop := labelOrdersRow.holds Try.pinned (OpenSpec.ofChange labelOrdersWrong)

/- THE SECOND FORM. 'bulk': how many values and letters a reading holds, each counted each time it is reached (what is shared counts as often as it is met; a slice's spare places count too). A statement '..UptoSaid' is the law's where the arguments, and the package variables that the reading takes, are together of bulk at most 1048576: NARROWER than '..Said'. Prove '..Said' where nothing that the law and all that it calls make is longer than what came in: it says more and counts as full. Else prove '..UptoSaid'. A law counts once. -/
mutual
def uptoBulk {H : Type} : DataW H → Nat
  | .lit (.string bytes) => bytes.length + 1
  | .lit _ => 1
  | .nil => 1
  | .ptr d => uptoBulk d + 1
  | .slice elems spare => uptoBulkAll elems + uptoBulkAll spare + 1
  | .agg parts => uptoBulkAll parts + 1
  | .iface _ d => uptoBulk d + 1
  | .map entries => uptoBulkEntries entries + 1
  | .held _ => 1
def uptoBulkAll {H : Type} : List (DataW H) → Nat
  | [] => 0
  | d :: r => uptoBulk d + uptoBulkAll r
def uptoBulkEntries {H : Type} : List (Lit × DataW H) → Nat
  | [] => 0
  | x :: r => uptoBulkEntry x + uptoBulkEntries r
def uptoBulkEntry {H : Type} : Lit × DataW H → Nat
  | (.string bytes, d) => bytes.length + uptoBulk d + 1
  | (_, d) => uptoBulk d + 1
 end
def uptoSmall : (H : Type) → List (DataW H) → Bool := fun _ ds => decide (uptoBulkAll ds ≤ 1048576)
def OpenSpec.upto (s : _root_.Go.ChangeSpec) : _root_.Go.OpenSpec := { _root_.Go.OpenSpec.ofChange s with cond := some uptoSmall }

/-- 'tumbrellaw03.LabelTells', WHERE WHAT IT READS IS OF BULK AT MOST 1048576: true; the input reads as it did. -/
def labelTellsUptoRow : OpenClaim := { program := "ytmgdnbmepamcoaa", sum := "dd575525e9030405b7b3e0f929f30831bd822a6cdaefb3160fedaa848e113377", func := "tumbrel/tumbrellaw03.LabelTells", spec := "labelTells", inPlace := ["internal/abi.NoEscape"], apart := false, narrowed := true }
def LabelTellsUptoSaid : Prop := labelTellsUptoRow.holds Try.pinned (OpenSpec.upto labelTellsSpec)

/-- 'tumbrellaw03.LabelFolds', WHERE WHAT IT READS IS OF BULK AT MOST 1048576: true; the input reads as it did. -/
def labelFoldsUptoRow : OpenClaim := { program := "ytmgdnbmepamcoaa", sum := "dd575525e9030405b7b3e0f929f30831bd822a6cdaefb3160fedaa848e113377", func := "tumbrel/tumbrellaw03.LabelFolds", spec := "labelFolds", inPlace := ["internal/abi.NoEscape"], apart := false, narrowed := true }
def LabelFoldsUptoSaid : Prop := labelFoldsUptoRow.holds Try.pinned (OpenSpec.upto labelFoldsSpec)

/-- 'tumbrellaw03.LabelCuts', WHERE WHAT IT READS IS OF BULK AT MOST 1048576: true; the input reads as it did. -/
def labelCutsUptoRow : OpenClaim := { program := "ytmgdnbmepamcoaa", sum := "dd575525e9030405b7b3e0f929f30831bd822a6cdaefb3160fedaa848e113377", func := "tumbrel/tumbrellaw03.LabelCuts", spec := "labelCuts", inPlace := ["internal/abi.NoEscape"], apart := false, narrowed := true }
def LabelCutsUptoSaid : Prop := labelCutsUptoRow.holds Try.pinned (OpenSpec.upto labelCutsSpec)

/-- 'tumbrellaw03.LabelOrders', WHERE WHAT IT READS IS OF BULK AT MOST 1048576: true; the input reads as it did. -/
def labelOrdersUptoRow : OpenClaim := { program := "ytmgdnbmepamcoaa", sum := "dd575525e9030405b7b3e0f929f30831bd822a6cdaefb3160fedaa848e113377", func := "tumbrel/tumbrellaw03.LabelOrders", spec := "labelOrders", inPlace := ["internal/abi.NoEscape"], apart := false, narrowed := true }
def LabelOrdersUptoSaid : Prop := labelOrdersUptoRow.holds Try.pinned (OpenSpec.upto labelOrdersSpec)

end Rows
end Go.Proofs.Ytmgdnbmepamcoaa
