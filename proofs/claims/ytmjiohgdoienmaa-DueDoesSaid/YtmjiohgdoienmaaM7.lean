/- Printed by denprint.py: the Go function as a predicate, and that it stands for the call. No condition. -/
import Derived.Test.YtmjiohgdoienmaaFns
set_option maxRecDepth 100000
set_option linter.unusedVariables false
namespace Go.Proofs.Ytmjiohgdoienmaa
open Go.Den

-- 7 tumbrel.due.New
def M_due_New (w : World) (R : Value → World → Prop) : Prop :=
  NEW (newmap w) fun t2_1 w1 =>
  BND (buildv #[(Value.slice none 0 0), Value.nilFunc, (Value.map none)] [(2, 1, t2_1)]) fun t3_2 =>
  NEW (newv 50 w1 t3_2) fun t4_3 w2 =>
  BND (nilchk t4_3) fun t8_4 =>
  BND (faddr 0 t8_4) fun t9_5 =>
  BND (faddr 1 t9_5) fun t10_6 =>
  BND (storev 1 w2 t10_6 (Value.func (.func F_due_Heap_stands) #[t4_3] #[])) fun w3 =>
  R t4_3 w3
def ann_due_New : List (Nat × List Nat) := []
theorem E_due_New (w : World) (R : Value → World → Prop) : M_due_New w R = den PR ann_due_New (bodyOf Try.f7) (retQ PR Try.f7.results.toList R) (env0 []) w := by kernel_rfl
theorem C_due_New {w : World} {R : Value → World → Prop} (h : M_due_New w R) : CALL PR F_due_New [] w R :=
  call_of_den2 ann_due_New Try.func7 (by kernel_rfl) (by kernel_rfl) (by kernel_rfl) ((E_due_New w R) ▸ h)

end Go.Proofs.Ytmjiohgdoienmaa
