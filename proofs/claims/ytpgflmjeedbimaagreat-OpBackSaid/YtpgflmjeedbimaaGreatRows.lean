/-
  No cell of these rows narrows 'for every input' (looked for: loops, veiled, ifaces, maps, wideKeys, modest, calm, conditions, laid).
  DERIVED. THE GIVEN ROWS OF THIS SEAT. 12 by the template 'for every input the law returns true; each argument reads behind the call as it read before'; 0 by the template 'total and deterministic' (their statements: YtpgflmjeedbimaaGreatTotals.lean).
  GIVEN WITH THE SEED: the statements are not yours to turn. If you find one false, say at which input.
  Laid BY PROGRAM, IN A SANDBOX (cutbox-rows.mjs): the forced cells as the released guide's own fill.sh prints them over the translation e9ebd197a2375244… (all of the seat's roots in one cut). By AI agents, Wed Nov 11 2026. No macro, syntax, notation, axiom, sorry.
-/
import Derived.Test.YtpgflmjeedbimaaGreatChecked
import GoSem.Claim
import GoSem.ClaimJoined
import GoSem.ClaimMapViews
import Derived.JoinedTies
import Derived.KernelRfl
namespace Go.Proofs.YtpgflmjeedbimaaGreat
/- THE CELL 'sum', in the pinned program and in every row, IS THE sha256 OF THE DUMP (.gsa) THAT YtpgflmjeedbimaaGreatProg.lean LOADS. Nothing in Lean hashes anything: it is a label: what it is worth is what the hold of that sum in a sandbox is worth. -/
noncomputable def Tryz.pinned : Pinned := { name := "ytpgflmjeedbimaagreat", sum := "e9ebd197a23752449407a5888a657caa03ce65d9c0b9effbdd83381695643e08", checked := Tryz.checked }
namespace Rows
def none {H : Type} : Left H := { results := [], args := [] }

/-- 'tumbrellaw12.OpTells': WHATEVER THE INPUT: true; the input reads as it did. -/
def opTellsSpec : ChangeSpec := { name := "opTells", fn := fun _ => fun
  | [d1, d2, d3, d4] => { results := [.lit (.bool true)], args := [d1, d2, d3, d4] }
  | _ => none }
def opTellsRow : OpenClaim := { program := "ytpgflmjeedbimaagreat", sum := "e9ebd197a23752449407a5888a657caa03ce65d9c0b9effbdd83381695643e08", func := "tumbrel/tumbrellaw12.OpTells", spec := "opTells", inPlace := ["math/bits.Add64", "internal/abi.NoEscape"], unfollowed := true, recurses := true, apart := false }
def OpTellsSaid : Prop := opTellsRow.holds Tryz.pinned (OpenSpec.ofChange opTellsSpec)

/-- ITS FALSE NEIGHBOUR: 'it returns false'. Refute it at one input. -/
def opTellsWrong : ChangeSpec := { name := "opTells", fn := fun _ => fun
  | [d1, d2, d3, d4] => { results := [.lit (.bool false)], args := [d1, d2, d3, d4] }
  | _ => none }
def OpTellsWrongFalsely : Prop := opTellsRow.holds Tryz.pinned (OpenSpec.ofChange opTellsWrong)

/-- 'tumbrellaw12.OpBack': WHATEVER THE INPUT: true; the input reads as it did. -/
def opBackSpec : ChangeSpec := { name := "opBack", fn := fun _ => fun
  | [d1, d2] => { results := [.lit (.bool true)], args := [d1, d2] }
  | _ => none }
def opBackRow : OpenClaim := { program := "ytpgflmjeedbimaagreat", sum := "e9ebd197a23752449407a5888a657caa03ce65d9c0b9effbdd83381695643e08", func := "tumbrel/tumbrellaw12.OpBack", spec := "opBack", inPlace := ["math/bits.Add64", "internal/abi.NoEscape"], unfollowed := true, recurses := true, apart := false }
def OpBackSaid : Prop := opBackRow.holds Tryz.pinned (OpenSpec.ofChange opBackSpec)

/-- ITS FALSE NEIGHBOUR: 'it returns false'. Refute it at one input. -/
def opBackWrong : ChangeSpec := { name := "opBack", fn := fun _ => fun
  | [d1, d2] => { results := [.lit (.bool false)], args := [d1, d2] }
  | _ => none }
def OpBackWrongFalsely : Prop := opBackRow.holds Tryz.pinned (OpenSpec.ofChange opBackWrong)

/-- 'tumbrellaw11.IndexRow': WHATEVER THE INPUT: true; the input reads as it did. -/
def indexRowSpec : ChangeSpec := { name := "indexRow", fn := fun _ => fun
  | [d1, d2, d3] => { results := [.lit (.bool true)], args := [d1, d2, d3] }
  | _ => none }
def indexRowRow : OpenClaim := { program := "ytpgflmjeedbimaagreat", sum := "e9ebd197a23752449407a5888a657caa03ce65d9c0b9effbdd83381695643e08", func := "tumbrel/tumbrellaw11.IndexRow", spec := "indexRow", inPlace := ["math/bits.Add64", "internal/abi.NoEscape"], unfollowed := true, recurses := true, apart := false }
def IndexRowSaid : Prop := indexRowRow.holds Tryz.pinned (OpenSpec.ofChange indexRowSpec)

/-- ITS FALSE NEIGHBOUR: 'it returns false'. Refute it at one input. -/
def indexRowWrong : ChangeSpec := { name := "indexRow", fn := fun _ => fun
  | [d1, d2, d3] => { results := [.lit (.bool false)], args := [d1, d2, d3] }
  | _ => none }
def IndexRowWrongFalsely : Prop := indexRowRow.holds Tryz.pinned (OpenSpec.ofChange indexRowWrong)

/-- 'tumbrellaw12.OpDoes': WHATEVER THE INPUT: true; the input reads as it did. -/
def opDoesSpec : ChangeSpec := { name := "opDoes", fn := fun _ => fun
  | [d1, d2] => { results := [.lit (.bool true)], args := [d1, d2] }
  | _ => none }
def opDoesRow : OpenClaim := { program := "ytpgflmjeedbimaagreat", sum := "e9ebd197a23752449407a5888a657caa03ce65d9c0b9effbdd83381695643e08", func := "tumbrel/tumbrellaw12.OpDoes", spec := "opDoes", inPlace := ["math/bits.Add64", "internal/abi.NoEscape"], unfollowed := true, recurses := true, apart := false }
def OpDoesSaid : Prop := opDoesRow.holds Tryz.pinned (OpenSpec.ofChange opDoesSpec)

/-- ITS FALSE NEIGHBOUR: 'it returns false'. Refute it at one input. -/
def opDoesWrong : ChangeSpec := { name := "opDoes", fn := fun _ => fun
  | [d1, d2] => { results := [.lit (.bool false)], args := [d1, d2] }
  | _ => none }
def OpDoesWrongFalsely : Prop := opDoesRow.holds Tryz.pinned (OpenSpec.ofChange opDoesWrong)

/-- 'tumbrellaw11.IndexDies': WHATEVER THE INPUT: true; the input reads as it did. -/
def indexDiesSpec : ChangeSpec := { name := "indexDies", fn := fun _ => fun
  | [d1, d2, d3, d4] => { results := [.lit (.bool true)], args := [d1, d2, d3, d4] }
  | _ => none }
def indexDiesRow : OpenClaim := { program := "ytpgflmjeedbimaagreat", sum := "e9ebd197a23752449407a5888a657caa03ce65d9c0b9effbdd83381695643e08", func := "tumbrel/tumbrellaw11.IndexDies", spec := "indexDies", inPlace := ["math/bits.Add64", "internal/abi.NoEscape"], unfollowed := true, recurses := true, apart := false }
def IndexDiesSaid : Prop := indexDiesRow.holds Tryz.pinned (OpenSpec.ofChange indexDiesSpec)

/-- ITS FALSE NEIGHBOUR: 'it returns false'. Refute it at one input. -/
def indexDiesWrong : ChangeSpec := { name := "indexDies", fn := fun _ => fun
  | [d1, d2, d3, d4] => { results := [.lit (.bool false)], args := [d1, d2, d3, d4] }
  | _ => none }
def IndexDiesWrongFalsely : Prop := indexDiesRow.holds Tryz.pinned (OpenSpec.ofChange indexDiesWrong)

/-- 'tumbrellaw11.IndexDoes': WHATEVER THE INPUT: true; the input reads as it did. -/
def indexDoesSpec : ChangeSpec := { name := "indexDoes", fn := fun _ => fun
  | [d1, d2] => { results := [.lit (.bool true)], args := [d1, d2] }
  | _ => none }
def indexDoesRow : OpenClaim := { program := "ytpgflmjeedbimaagreat", sum := "e9ebd197a23752449407a5888a657caa03ce65d9c0b9effbdd83381695643e08", func := "tumbrel/tumbrellaw11.IndexDoes", spec := "indexDoes", inPlace := ["math/bits.Add64", "internal/abi.NoEscape"], unfollowed := true, recurses := true, apart := false }
def IndexDoesSaid : Prop := indexDoesRow.holds Tryz.pinned (OpenSpec.ofChange indexDoesSpec)

/-- ITS FALSE NEIGHBOUR: 'it returns false'. Refute it at one input. -/
def indexDoesWrong : ChangeSpec := { name := "indexDoes", fn := fun _ => fun
  | [d1, d2] => { results := [.lit (.bool false)], args := [d1, d2] }
  | _ => none }
def IndexDoesWrongFalsely : Prop := indexDoesRow.holds Tryz.pinned (OpenSpec.ofChange indexDoesWrong)

/-- 'tumbrellaw11.IndexMade': WHATEVER THE INPUT: true; the input reads as it did. -/
def indexMadeSpec : ChangeSpec := { name := "indexMade", fn := fun _ => fun
  | [d1, d2, d3] => { results := [.lit (.bool true)], args := [d1, d2, d3] }
  | _ => none }
def indexMadeRow : OpenClaim := { program := "ytpgflmjeedbimaagreat", sum := "e9ebd197a23752449407a5888a657caa03ce65d9c0b9effbdd83381695643e08", func := "tumbrel/tumbrellaw11.IndexMade", spec := "indexMade", inPlace := ["math/bits.Add64", "internal/abi.NoEscape"], unfollowed := true, recurses := true, apart := false }
def IndexMadeSaid : Prop := indexMadeRow.holds Tryz.pinned (OpenSpec.ofChange indexMadeSpec)

/-- ITS FALSE NEIGHBOUR: 'it returns false'. Refute it at one input. -/
def indexMadeWrong : ChangeSpec := { name := "indexMade", fn := fun _ => fun
  | [d1, d2, d3] => { results := [.lit (.bool false)], args := [d1, d2, d3] }
  | _ => none }
def IndexMadeWrongFalsely : Prop := indexMadeRow.holds Tryz.pinned (OpenSpec.ofChange indexMadeWrong)

/-- 'tumbrellaw11.IndexAgain': WHATEVER THE INPUT: true; the input reads as it did. -/
def indexAgainSpec : ChangeSpec := { name := "indexAgain", fn := fun _ => fun
  | [d1, d2, d3] => { results := [.lit (.bool true)], args := [d1, d2, d3] }
  | _ => none }
def indexAgainRow : OpenClaim := { program := "ytpgflmjeedbimaagreat", sum := "e9ebd197a23752449407a5888a657caa03ce65d9c0b9effbdd83381695643e08", func := "tumbrel/tumbrellaw11.IndexAgain", spec := "indexAgain", inPlace := ["math/bits.Add64", "internal/abi.NoEscape"], unfollowed := true, recurses := true, apart := false }
def IndexAgainSaid : Prop := indexAgainRow.holds Tryz.pinned (OpenSpec.ofChange indexAgainSpec)

/-- ITS FALSE NEIGHBOUR: 'it returns false'. Refute it at one input. -/
def indexAgainWrong : ChangeSpec := { name := "indexAgain", fn := fun _ => fun
  | [d1, d2, d3] => { results := [.lit (.bool false)], args := [d1, d2, d3] }
  | _ => none }
def IndexAgainWrongFalsely : Prop := indexAgainRow.holds Tryz.pinned (OpenSpec.ofChange indexAgainWrong)

/-- 'tumbrellaw11.IndexKeeps': WHATEVER THE INPUT: true; the input reads as it did. -/
def indexKeepsSpec : ChangeSpec := { name := "indexKeeps", fn := fun _ => fun
  | [d1, d2] => { results := [.lit (.bool true)], args := [d1, d2] }
  | _ => none }
def indexKeepsRow : OpenClaim := { program := "ytpgflmjeedbimaagreat", sum := "e9ebd197a23752449407a5888a657caa03ce65d9c0b9effbdd83381695643e08", func := "tumbrel/tumbrellaw11.IndexKeeps", spec := "indexKeeps", inPlace := ["math/bits.Add64", "internal/abi.NoEscape"], unfollowed := true, recurses := true, apart := false }
def IndexKeepsSaid : Prop := indexKeepsRow.holds Tryz.pinned (OpenSpec.ofChange indexKeepsSpec)

/-- ITS FALSE NEIGHBOUR: 'it returns false'. Refute it at one input. -/
def indexKeepsWrong : ChangeSpec := { name := "indexKeeps", fn := fun _ => fun
  | [d1, d2] => { results := [.lit (.bool false)], args := [d1, d2] }
  | _ => none }
def IndexKeepsWrongFalsely : Prop := indexKeepsRow.holds Tryz.pinned (OpenSpec.ofChange indexKeepsWrong)

/-- 'tumbrellaw11.IndexSees': WHATEVER THE INPUT: true; the input reads as it did. -/
def indexSeesSpec : ChangeSpec := { name := "indexSees", fn := fun _ => fun
  | [d1, d2] => { results := [.lit (.bool true)], args := [d1, d2] }
  | _ => none }
def indexSeesRow : OpenClaim := { program := "ytpgflmjeedbimaagreat", sum := "e9ebd197a23752449407a5888a657caa03ce65d9c0b9effbdd83381695643e08", func := "tumbrel/tumbrellaw11.IndexSees", spec := "indexSees", inPlace := ["math/bits.Add64", "internal/abi.NoEscape"], unfollowed := true, recurses := true, apart := false }
def IndexSeesSaid : Prop := indexSeesRow.holds Tryz.pinned (OpenSpec.ofChange indexSeesSpec)

/-- ITS FALSE NEIGHBOUR: 'it returns false'. Refute it at one input. -/
def indexSeesWrong : ChangeSpec := { name := "indexSees", fn := fun _ => fun
  | [d1, d2] => { results := [.lit (.bool false)], args := [d1, d2] }
  | _ => none }
def IndexSeesWrongFalsely : Prop := indexSeesRow.holds Tryz.pinned (OpenSpec.ofChange indexSeesWrong)

/-- 'tumbrellaw11.IndexTicks': WHATEVER THE INPUT: true; the input reads as it did. -/
def indexTicksSpec : ChangeSpec := { name := "indexTicks", fn := fun _ => fun
  | [d1, d2, d3, d4] => { results := [.lit (.bool true)], args := [d1, d2, d3, d4] }
  | _ => none }
def indexTicksRow : OpenClaim := { program := "ytpgflmjeedbimaagreat", sum := "e9ebd197a23752449407a5888a657caa03ce65d9c0b9effbdd83381695643e08", func := "tumbrel/tumbrellaw11.IndexTicks", spec := "indexTicks", inPlace := ["math/bits.Add64", "internal/abi.NoEscape"], unfollowed := true, recurses := true, apart := false }
def IndexTicksSaid : Prop := indexTicksRow.holds Tryz.pinned (OpenSpec.ofChange indexTicksSpec)

/-- ITS FALSE NEIGHBOUR: 'it returns false'. Refute it at one input. -/
def indexTicksWrong : ChangeSpec := { name := "indexTicks", fn := fun _ => fun
  | [d1, d2, d3, d4] => { results := [.lit (.bool false)], args := [d1, d2, d3, d4] }
  | _ => none }
def IndexTicksWrongFalsely : Prop := indexTicksRow.holds Tryz.pinned (OpenSpec.ofChange indexTicksWrong)

/-- 'tumbrellaw11.IndexErrors': WHATEVER THE INPUT: true; the input reads as it did. -/
def indexErrorsSpec : ChangeSpec := { name := "indexErrors", fn := fun _ => fun
  | [d1, d2] => { results := [.lit (.bool true)], args := [d1, d2] }
  | _ => none }
def indexErrorsRow : OpenClaim := { program := "ytpgflmjeedbimaagreat", sum := "e9ebd197a23752449407a5888a657caa03ce65d9c0b9effbdd83381695643e08", func := "tumbrel/tumbrellaw11.IndexErrors", spec := "indexErrors", inPlace := ["math/bits.Add64", "internal/abi.NoEscape"], unfollowed := true, recurses := true, apart := false }
def IndexErrorsSaid : Prop := indexErrorsRow.holds Tryz.pinned (OpenSpec.ofChange indexErrorsSpec)

/-- ITS FALSE NEIGHBOUR: 'it returns false'. Refute it at one input. -/
def indexErrorsWrong : ChangeSpec := { name := "indexErrors", fn := fun _ => fun
  | [d1, d2] => { results := [.lit (.bool false)], args := [d1, d2] }
  | _ => none }
def IndexErrorsWrongFalsely : Prop := indexErrorsRow.holds Tryz.pinned (OpenSpec.ofChange indexErrorsWrong)

/- THE SECOND FORM. 'bulk': how many values and letters a reading holds, each counted each time it is reached (what is shared counts as often as it is met; a slice's spare places count too). A statement '..UptoSaid' is the law's where the arguments, and the package variables that the reading takes, are together of bulk at most 1048576: NARROWER than '..Said'. Prove '..Said' where nothing that the law and all that it calls make is longer than what came in: it says more and counts as full. Else prove '..UptoSaid'. A law counts once. -/
mutual
def uptoBulk {H : Type} : DataW H → Nat
  | .lit (.string bytes) => bytes.length + 1
  | .lit _ => 1
  | .nil => 1
  | .ptr d => uptoBulk d + 1
  | .slice elems spare => uptoBulkAll elems + uptoBulkAll spare + 1
  | .agg parts => uptoBulkAll parts + 1
  | .iface _ d => uptoBulk d + 1
  | .map entries => uptoBulkEntries entries + 1
  | .held _ => 1
def uptoBulkAll {H : Type} : List (DataW H) → Nat
  | [] => 0
  | d :: r => uptoBulk d + uptoBulkAll r
def uptoBulkEntries {H : Type} : List (Lit × DataW H) → Nat
  | [] => 0
  | x :: r => uptoBulkEntry x + uptoBulkEntries r
def uptoBulkEntry {H : Type} : Lit × DataW H → Nat
  | (.string bytes, d) => bytes.length + uptoBulk d + 1
  | (_, d) => uptoBulk d + 1
 end
def uptoSmall : (H : Type) → List (DataW H) → Bool := fun _ ds => decide (uptoBulkAll ds ≤ 1048576)
def OpenSpec.upto (s : _root_.Go.ChangeSpec) : _root_.Go.OpenSpec := { _root_.Go.OpenSpec.ofChange s with cond := some uptoSmall }

/-- 'tumbrellaw12.OpTells', WHERE WHAT IT READS IS OF BULK AT MOST 1048576: true; the input reads as it did. -/
def opTellsUptoRow : OpenClaim := { program := "ytpgflmjeedbimaagreat", sum := "e9ebd197a23752449407a5888a657caa03ce65d9c0b9effbdd83381695643e08", func := "tumbrel/tumbrellaw12.OpTells", spec := "opTells", inPlace := ["math/bits.Add64", "internal/abi.NoEscape"], unfollowed := true, recurses := true, apart := false, narrowed := true }
def OpTellsUptoSaid : Prop := opTellsUptoRow.holds Tryz.pinned (OpenSpec.upto opTellsSpec)

/-- 'tumbrellaw12.OpBack', WHERE WHAT IT READS IS OF BULK AT MOST 1048576: true; the input reads as it did. -/
def opBackUptoRow : OpenClaim := { program := "ytpgflmjeedbimaagreat", sum := "e9ebd197a23752449407a5888a657caa03ce65d9c0b9effbdd83381695643e08", func := "tumbrel/tumbrellaw12.OpBack", spec := "opBack", inPlace := ["math/bits.Add64", "internal/abi.NoEscape"], unfollowed := true, recurses := true, apart := false, narrowed := true }
def OpBackUptoSaid : Prop := opBackUptoRow.holds Tryz.pinned (OpenSpec.upto opBackSpec)

/-- 'tumbrellaw11.IndexRow', WHERE WHAT IT READS IS OF BULK AT MOST 1048576: true; the input reads as it did. -/
def indexRowUptoRow : OpenClaim := { program := "ytpgflmjeedbimaagreat", sum := "e9ebd197a23752449407a5888a657caa03ce65d9c0b9effbdd83381695643e08", func := "tumbrel/tumbrellaw11.IndexRow", spec := "indexRow", inPlace := ["math/bits.Add64", "internal/abi.NoEscape"], unfollowed := true, recurses := true, apart := false, narrowed := true }
def IndexRowUptoSaid : Prop := indexRowUptoRow.holds Tryz.pinned (OpenSpec.upto indexRowSpec)

/-- 'tumbrellaw12.OpDoes', WHERE WHAT IT READS IS OF BULK AT MOST 1048576: true; the input reads as it did. -/
def opDoesUptoRow : OpenClaim := { program := "ytpgflmjeedbimaagreat", sum := "e9ebd197a23752449407a5888a657caa03ce65d9c0b9effbdd83381695643e08", func := "tumbrel/tumbrellaw12.OpDoes", spec := "opDoes", inPlace := ["math/bits.Add64", "internal/abi.NoEscape"], unfollowed := true, recurses := true, apart := false, narrowed := true }
def OpDoesUptoSaid : Prop := opDoesUptoRow.holds Tryz.pinned (OpenSpec.upto opDoesSpec)

/-- 'tumbrellaw11.IndexDies', WHERE WHAT IT READS IS OF BULK AT MOST 1048576: true; the input reads as it did. -/
def indexDiesUptoRow : OpenClaim := { program := "ytpgflmjeedbimaagreat", sum := "e9ebd197a23752449407a5888a657caa03ce65d9c0b9effbdd83381695643e08", func := "tumbrel/tumbrellaw11.IndexDies", spec := "indexDies", inPlace := ["math/bits.Add64", "internal/abi.NoEscape"], unfollowed := true, recurses := true, apart := false, narrowed := true }
def IndexDiesUptoSaid : Prop := indexDiesUptoRow.holds Tryz.pinned (OpenSpec.upto indexDiesSpec)

/-- 'tumbrellaw11.IndexDoes', WHERE WHAT IT READS IS OF BULK AT MOST 1048576: true; the input reads as it did. -/
def indexDoesUptoRow : OpenClaim := { program := "ytpgflmjeedbimaagreat", sum := "e9ebd197a23752449407a5888a657caa03ce65d9c0b9effbdd83381695643e08", func := "tumbrel/tumbrellaw11.IndexDoes", spec := "indexDoes", inPlace := ["math/bits.Add64", "internal/abi.NoEscape"], unfollowed := true, recurses := true, apart := false, narrowed := true }
def IndexDoesUptoSaid : Prop := indexDoesUptoRow.holds Tryz.pinned (OpenSpec.upto indexDoesSpec)

/-- 'tumbrellaw11.IndexMade', WHERE WHAT IT READS IS OF BULK AT MOST 1048576: true; the input reads as it did. -/
def indexMadeUptoRow : OpenClaim := { program := "ytpgflmjeedbimaagreat", sum := "e9ebd197a23752449407a5888a657caa03ce65d9c0b9effbdd83381695643e08", func := "tumbrel/tumbrellaw11.IndexMade", spec := "indexMade", inPlace := ["math/bits.Add64", "internal/abi.NoEscape"], unfollowed := true, recurses := true, apart := false, narrowed := true }
def IndexMadeUptoSaid : Prop := indexMadeUptoRow.holds Tryz.pinned (OpenSpec.upto indexMadeSpec)

/-- 'tumbrellaw11.IndexAgain', WHERE WHAT IT READS IS OF BULK AT MOST 1048576: true; the input reads as it did. -/
def indexAgainUptoRow : OpenClaim := { program := "ytpgflmjeedbimaagreat", sum := "e9ebd197a23752449407a5888a657caa03ce65d9c0b9effbdd83381695643e08", func := "tumbrel/tumbrellaw11.IndexAgain", spec := "indexAgain", inPlace := ["math/bits.Add64", "internal/abi.NoEscape"], unfollowed := true, recurses := true, apart := false, narrowed := true }
def IndexAgainUptoSaid : Prop := indexAgainUptoRow.holds Tryz.pinned (OpenSpec.upto indexAgainSpec)

/-- 'tumbrellaw11.IndexKeeps', WHERE WHAT IT READS IS OF BULK AT MOST 1048576: true; the input reads as it did. -/
def indexKeepsUptoRow : OpenClaim := { program := "ytpgflmjeedbimaagreat", sum := "e9ebd197a23752449407a5888a657caa03ce65d9c0b9effbdd83381695643e08", func := "tumbrel/tumbrellaw11.IndexKeeps", spec := "indexKeeps", inPlace := ["math/bits.Add64", "internal/abi.NoEscape"], unfollowed := true, recurses := true, apart := false, narrowed := true }
def IndexKeepsUptoSaid : Prop := indexKeepsUptoRow.holds Tryz.pinned (OpenSpec.upto indexKeepsSpec)

/-- 'tumbrellaw11.IndexSees', WHERE WHAT IT READS IS OF BULK AT MOST 1048576: true; the input reads as it did. -/
def indexSeesUptoRow : OpenClaim := { program := "ytpgflmjeedbimaagreat", sum := "e9ebd197a23752449407a5888a657caa03ce65d9c0b9effbdd83381695643e08", func := "tumbrel/tumbrellaw11.IndexSees", spec := "indexSees", inPlace := ["math/bits.Add64", "internal/abi.NoEscape"], unfollowed := true, recurses := true, apart := false, narrowed := true }
def IndexSeesUptoSaid : Prop := indexSeesUptoRow.holds Tryz.pinned (OpenSpec.upto indexSeesSpec)

/-- 'tumbrellaw11.IndexTicks', WHERE WHAT IT READS IS OF BULK AT MOST 1048576: true; the input reads as it did. -/
def indexTicksUptoRow : OpenClaim := { program := "ytpgflmjeedbimaagreat", sum := "e9ebd197a23752449407a5888a657caa03ce65d9c0b9effbdd83381695643e08", func := "tumbrel/tumbrellaw11.IndexTicks", spec := "indexTicks", inPlace := ["math/bits.Add64", "internal/abi.NoEscape"], unfollowed := true, recurses := true, apart := false, narrowed := true }
def IndexTicksUptoSaid : Prop := indexTicksUptoRow.holds Tryz.pinned (OpenSpec.upto indexTicksSpec)

/-- 'tumbrellaw11.IndexErrors', WHERE WHAT IT READS IS OF BULK AT MOST 1048576: true; the input reads as it did. -/
def indexErrorsUptoRow : OpenClaim := { program := "ytpgflmjeedbimaagreat", sum := "e9ebd197a23752449407a5888a657caa03ce65d9c0b9effbdd83381695643e08", func := "tumbrel/tumbrellaw11.IndexErrors", spec := "indexErrors", inPlace := ["math/bits.Add64", "internal/abi.NoEscape"], unfollowed := true, recurses := true, apart := false, narrowed := true }
def IndexErrorsUptoSaid : Prop := indexErrorsUptoRow.holds Tryz.pinned (OpenSpec.upto indexErrorsSpec)

end Rows
end Go.Proofs.YtpgflmjeedbimaaGreat
