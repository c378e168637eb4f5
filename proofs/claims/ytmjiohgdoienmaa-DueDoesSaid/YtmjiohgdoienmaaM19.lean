/- Printed by denprint.py: the Go function as a predicate, and that it stands for the call. No condition. -/
import Derived.Test.YtmjiohgdoienmaaFns
set_option maxRecDepth 100000
set_option linter.unusedVariables false
namespace Go.Proofs.Ytmjiohgdoienmaa
open Go.Den

-- 19 (*tumbrel.due.Heap).At
def M_due_Heap_At (h_p0 id_p1 : Value) (w : World) (R : Value → World → Prop) : Prop :=
  BND (nilchk h_p0) fun t10_1 =>
  BND (faddr 2 t10_1) fun t11_2 =>
  BND (load1 w t11_2) fun t12_3 =>
  BND (lookv (.int .u64) (Value.int .i64 0) true w t12_3 id_p1) fun t14_4 =>
  BND (extractv t14_4 0) fun t15_5 =>
  BND (extractv t14_4 1) fun t16_6 =>
  BND (unv .not t16_6) fun t18_7 =>
  COND t18_7
  (R (.tuple #[(Value.int .u64 0), (Value.bool false)]) w)
  (BND (nilchk h_p0) fun t20_8 =>
  BND (faddr 0 t20_8) fun t21_9 =>
  BND (faddr 0 t21_9) fun t22_10 =>
  BND (load1 w t22_10) fun t23_11 =>
  BND (iaddr 2 t23_11 t15_5) fun t25_12 =>
  BND (faddr 0 t25_12) fun t26_13 =>
  BND (load1 w t26_13) fun t27_14 =>
  R (.tuple #[t27_14, (Value.bool true)]) w)
def ann_due_Heap_At : List (Nat × List Nat) := []
theorem E_due_Heap_At (h_p0 id_p1 : Value) (w : World) (R : Value → World → Prop) : M_due_Heap_At h_p0 id_p1 w R = den PR ann_due_Heap_At (bodyOf Try.f19) (retQ PR Try.f19.results.toList R) (env0 [h_p0, id_p1]) w := by kernel_rfl
theorem C_due_Heap_At {h_p0 id_p1 : Value} {w : World} {R : Value → World → Prop} (h : M_due_Heap_At h_p0 id_p1 w R) : CALL PR F_due_Heap_At [h_p0, id_p1] w R :=
  call_of_den2 ann_due_Heap_At Try.func19 (by kernel_rfl) (by kernel_rfl) (by kernel_rfl) ((E_due_Heap_At h_p0 id_p1 w R) ▸ h)

end Go.Proofs.Ytmjiohgdoienmaa
