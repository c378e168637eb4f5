/- Printed by denprint.py: the Go function as a predicate, and that it stands for the call. No condition. -/
import Derived.Test.YtmjiohgdoienmaaFns
set_option maxRecDepth 100000
set_option linter.unusedVariables false
namespace Go.Proofs.Ytmjiohgdoienmaa
open Go.Den

-- 21 (*tumbrel.due.Heap).stands
def M_due_Heap_stands (h_p0 e_p1 at_p2 : Value) (w : World) (R : Value → World → Prop) : Prop :=
  NEW (newv 53 w e_p1) fun e_1 w1 =>
  BND (nilchk h_p0) fun t7_2 =>
  BND (faddr 2 t7_2) fun t8_3 =>
  BND (faddr 1 e_1) fun t10_4 =>
  BND (load1 w1.drew t8_3) fun t9_5 =>
  BND (load1 w1.drew t10_4) fun t11_6 =>
  BND (mupd (.int .u64) w1.drew t9_5 t11_6 at_p2) fun w2 =>
  R (.tuple #[]) w2
def ann_due_Heap_stands : List (Nat × List Nat) := [(1, [0, 1, 2, 4, 6, 3, 5, 7])]
theorem E_due_Heap_stands (h_p0 e_p1 at_p2 : Value) (w : World) (R : Value → World → Prop) : M_due_Heap_stands h_p0 e_p1 at_p2 w R = den PR ann_due_Heap_stands (bodyOf Try.f21) (retQ PR Try.f21.results.toList R) (env0 [h_p0, e_p1, at_p2]) w := by kernel_rfl
theorem C_due_Heap_stands {h_p0 e_p1 at_p2 : Value} {w : World} {R : Value → World → Prop} (h : M_due_Heap_stands h_p0 e_p1 at_p2 w R) : CALL PR F_due_Heap_stands [h_p0, e_p1, at_p2] w R :=
  call_of_den2 ann_due_Heap_stands Try.func21 (by kernel_rfl) (by kernel_rfl) (by kernel_rfl) ((E_due_Heap_stands h_p0 e_p1 at_p2 w R) ▸ h)

end Go.Proofs.Ytmjiohgdoienmaa
