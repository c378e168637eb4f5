/- Printed by denprint.py: the Go function as a predicate, and that it stands for the call. No condition. -/
import Derived.Test.YtmjiohgdoienmaaFns
set_option maxRecDepth 100000
set_option linter.unusedVariables false
namespace Go.Proofs.Ytmjiohgdoienmaa
open Go.Den

-- 22 (*tumbrel.due.Heap).settle
def M_due_Heap_settle (h_p0 i_p1 : Value) (w : World) (R : Value → World → Prop) : Prop :=
  BND (nilchk h_p0) fun t5_1 =>
  BND (faddr 0 t5_1) fun t6_2 =>
  BND (nilchk h_p0) fun t8_3 =>
  BND (faddr 0 t8_3) fun t9_4 =>
  CALL PR F_due_tree_entry_up [t9_4, i_p1, (Value.func (.func F_due_Heap_ahead) #[h_p0] #[])] w.drew fun t13_5 w1 =>
  CALL PR F_due_tree_entry_sink [t6_2, t13_5, (Value.func (.func F_due_Heap_ahead) #[h_p0] #[])] w1 fun t16_6 w2 =>
  R (.tuple #[]) w2
def ann_due_Heap_settle : List (Nat × List Nat) := [(0, [0, 1, 2, 3, 4, 5, 6, 7, 8, 10, 11, 9, 12])]
theorem E_due_Heap_settle (h_p0 i_p1 : Value) (w : World) (R : Value → World → Prop) : M_due_Heap_settle h_p0 i_p1 w R = den PR ann_due_Heap_settle (bodyOf Try.f22) (retQ PR Try.f22.results.toList R) (env0 [h_p0, i_p1]) w := by kernel_rfl
theorem C_due_Heap_settle {h_p0 i_p1 : Value} {w : World} {R : Value → World → Prop} (h : M_due_Heap_settle h_p0 i_p1 w R) : CALL PR F_due_Heap_settle [h_p0, i_p1] w R :=
  call_of_den2 ann_due_Heap_settle Try.func22 (by kernel_rfl) (by kernel_rfl) (by kernel_rfl) ((E_due_Heap_settle h_p0 i_p1 w R) ▸ h)

end Go.Proofs.Ytmjiohgdoienmaa
