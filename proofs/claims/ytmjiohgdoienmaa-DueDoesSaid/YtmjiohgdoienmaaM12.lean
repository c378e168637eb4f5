/- Printed by denprint.py: the Go function as a predicate, and that it stands for the call. No condition. -/
import Derived.Test.YtmjiohgdoienmaaFns
set_option maxRecDepth 100000
set_option linter.unusedVariables false
namespace Go.Proofs.Ytmjiohgdoienmaa
open Go.Den

-- 12 (*tumbrel.due.Heap).Move
def M_due_Heap_Move (h_p0 id_p1 at_p2 : Value) (w : World) (R : Value → World → Prop) : Prop :=
  BND (nilchk h_p0) fun t11_1 =>
  BND (faddr 2 t11_1) fun t12_2 =>
  BND (load1 w t12_2) fun t13_3 =>
  BND (lookv (.int .u64) (Value.int .i64 0) true w t13_3 id_p1) fun t15_4 =>
  BND (extractv t15_4 0) fun t16_5 =>
  BND (extractv t15_4 1) fun t17_6 =>
  JOIN (α := World → Prop) (fun k_19 => COND t17_6
  (BND (nilchk h_p0) fun t20_20 =>
  BND (faddr 0 t20_20) fun t21_21 =>
  BND (faddr 0 t21_21) fun t22_22 =>
  BND (load1 w t22_22) fun t23_23 =>
  BND (iaddr 2 t23_23 t16_5) fun t26_24 =>
  BND (faddr 0 t26_24) fun t27_25 =>
  BND (storev 1 w t27_25 at_p2) fun w2 =>
  CALL PR F_due_Heap_settle [h_p0, t16_5] w2 fun t30_26 w3 =>
  k_19 w3)
  (k_19 w))
  (fun w1 => R t17_6 w1)
def ann_due_Heap_Move : List (Nat × List Nat) := []
theorem E_due_Heap_Move (h_p0 id_p1 at_p2 : Value) (w : World) (R : Value → World → Prop) : M_due_Heap_Move h_p0 id_p1 at_p2 w R = den PR ann_due_Heap_Move (bodyOf Try.f12) (retQ PR Try.f12.results.toList R) (env0 [h_p0, id_p1, at_p2]) w := by kernel_rfl
theorem C_due_Heap_Move {h_p0 id_p1 at_p2 : Value} {w : World} {R : Value → World → Prop} (h : M_due_Heap_Move h_p0 id_p1 at_p2 w R) : CALL PR F_due_Heap_Move [h_p0, id_p1, at_p2] w R :=
  call_of_den2 ann_due_Heap_Move Try.func12 (by kernel_rfl) (by kernel_rfl) (by kernel_rfl) ((E_due_Heap_Move h_p0 id_p1 at_p2 w R) ▸ h)

end Go.Proofs.Ytmjiohgdoienmaa
