/- Printed by denprint.py: the Go function as a predicate, and that it stands for the call. No condition. -/
import Derived.Test.YtmjiohgdoienmaaFns
set_option maxRecDepth 100000
set_option linter.unusedVariables false
namespace Go.Proofs.Ytmjiohgdoienmaa
open Go.Den

-- 17 (*tumbrel.tumbrelref07.Heap).Move
def M_tumbrelref07_Heap_Move (h_p0 id_p1 at_p2 : Value) (w : World) (R : Value → World → Prop) : Prop :=
  CALL PR F_tumbrelref07_Heap_Drop [h_p0, id_p1] w fun t9_1 w1 =>
  BND (unv .not t9_1) fun t10_2 =>
  COND t10_2
  (R (Value.bool false) w1)
  (CALL PR F_tumbrelref07_Heap_Put [h_p0, id_p1, at_p2] w1 fun t14_3 w2 =>
  R t14_3 w2)
def ann_tumbrelref07_Heap_Move : List (Nat × List Nat) := []
theorem E_tumbrelref07_Heap_Move (h_p0 id_p1 at_p2 : Value) (w : World) (R : Value → World → Prop) : M_tumbrelref07_Heap_Move h_p0 id_p1 at_p2 w R = den PR ann_tumbrelref07_Heap_Move (bodyOf Try.f17) (retQ PR Try.f17.results.toList R) (env0 [h_p0, id_p1, at_p2]) w := by kernel_rfl
theorem C_tumbrelref07_Heap_Move {h_p0 id_p1 at_p2 : Value} {w : World} {R : Value → World → Prop} (h : M_tumbrelref07_Heap_Move h_p0 id_p1 at_p2 w R) : CALL PR F_tumbrelref07_Heap_Move [h_p0, id_p1, at_p2] w R :=
  call_of_den2 ann_tumbrelref07_Heap_Move Try.func17 (by kernel_rfl) (by kernel_rfl) (by kernel_rfl) ((E_tumbrelref07_Heap_Move h_p0 id_p1 at_p2 w R) ▸ h)

end Go.Proofs.Ytmjiohgdoienmaa
