/- Printed by denprint.py: the Go function as a predicate, and that it stands for the call. No condition. -/
import Derived.Test.YtmjiohgdoienmaaFns
set_option maxRecDepth 100000
set_option linter.unusedVariables false
namespace Go.Proofs.Ytmjiohgdoienmaa
open Go.Den

-- 11 (*tumbrel.due.Heap).Len
def M_due_Heap_Len (h_p0 : Value) (w : World) (R : Value → World → Prop) : Prop :=
  BND (nilchk h_p0) fun t4_1 =>
  BND (faddr 0 t4_1) fun t5_2 =>
  BND (faddr 0 t5_2) fun t6_3 =>
  BND (load1 w t6_3) fun t7_4 =>
  BND (lenl t7_4) fun t8_5 =>
  R t8_5 w
def ann_due_Heap_Len : List (Nat × List Nat) := []
theorem E_due_Heap_Len (h_p0 : Value) (w : World) (R : Value → World → Prop) : M_due_Heap_Len h_p0 w R = den PR ann_due_Heap_Len (bodyOf Try.f11) (retQ PR Try.f11.results.toList R) (env0 [h_p0]) w := by kernel_rfl
theorem C_due_Heap_Len {h_p0 : Value} {w : World} {R : Value → World → Prop} (h : M_due_Heap_Len h_p0 w R) : CALL PR F_due_Heap_Len [h_p0] w R :=
  call_of_den2 ann_due_Heap_Len Try.func11 (by kernel_rfl) (by kernel_rfl) (by kernel_rfl) ((E_due_Heap_Len h_p0 w R) ▸ h)

end Go.Proofs.Ytmjiohgdoienmaa
