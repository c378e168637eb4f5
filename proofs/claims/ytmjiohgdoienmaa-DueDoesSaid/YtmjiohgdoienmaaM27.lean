/- Printed by denprint.py: the Go function as a predicate, and that it stands for the call. No condition. -/
import Derived.Test.YtmjiohgdoienmaaFns
set_option maxRecDepth 100000
set_option linter.unusedVariables false
namespace Go.Proofs.Ytmjiohgdoienmaa
open Go.Den

-- 27 (*tumbrel.due.Heap).ahead
def M_due_Heap_ahead (h_p0 i_p1 k_p2 : Value) (w : World) (R : Value → World → Prop) : Prop :=
  BND (nilchk h_p0) fun t8_1 =>
  BND (faddr 0 t8_1) fun t9_2 =>
  BND (faddr 0 t9_2) fun t10_3 =>
  BND (nilchk h_p0) fun t16_4 =>
  BND (faddr 0 t16_4) fun t17_5 =>
  BND (faddr 0 t17_5) fun t18_6 =>
  BND (load1 w.drew t10_3) fun t11_7 =>
  BND (iaddr 2 t11_7 i_p1) fun t13_8 =>
  BND (loadn 2 w.drew t13_8) fun t14_9 =>
  BND (load1 w.drew t18_6) fun t19_10 =>
  BND (iaddr 2 t19_10 k_p2) fun t21_11 =>
  BND (loadn 2 w.drew t21_11) fun t22_12 =>
  CALL PR F_due_entry_less [t14_9, t22_12] w.drew fun t23_13 w1 =>
  R t23_13 w1
def ann_due_Heap_ahead : List (Nat × List Nat) := [(1, [0, 1, 2, 3, 5, 8, 9, 10, 11, 13, 4, 6, 7, 12, 14, 15, 16, 17])]
theorem E_due_Heap_ahead (h_p0 i_p1 k_p2 : Value) (w : World) (R : Value → World → Prop) : M_due_Heap_ahead h_p0 i_p1 k_p2 w R = den PR ann_due_Heap_ahead (bodyOf Try.f27) (retQ PR Try.f27.results.toList R) (env0 [h_p0, i_p1, k_p2]) w := by kernel_rfl
theorem C_due_Heap_ahead {h_p0 i_p1 k_p2 : Value} {w : World} {R : Value → World → Prop} (h : M_due_Heap_ahead h_p0 i_p1 k_p2 w R) : CALL PR F_due_Heap_ahead [h_p0, i_p1, k_p2] w R :=
  call_of_den2 ann_due_Heap_ahead Try.func27 (by kernel_rfl) (by kernel_rfl) (by kernel_rfl) ((E_due_Heap_ahead h_p0 i_p1 k_p2 w R) ▸ h)

end Go.Proofs.Ytmjiohgdoienmaa
