/- Printed by denprint.py: the Go function as a predicate, and that it stands for the call. No condition. -/
import Derived.Test.YtmjiohgdoienmaaFns
set_option maxRecDepth 100000
set_option linter.unusedVariables false
namespace Go.Proofs.Ytmjiohgdoienmaa
open Go.Den

-- 10 (*tumbrel.due.Heap).First
def M_due_Heap_First (h_p0 : Value) (w : World) (R : Value → World → Prop) : Prop :=
  BND (nilchk h_p0) fun t6_1 =>
  BND (faddr 0 t6_1) fun t7_2 =>
  BND (faddr 0 t7_2) fun t8_3 =>
  BND (load1 w t8_3) fun t9_4 =>
  BND (lenl t9_4) fun t10_5 =>
  BND (binv .int .eql t10_5 (Value.int .i64 0)) fun t11_6 =>
  COND t11_6
  (R (.tuple #[(Value.int .u64 0), (Value.int .u64 0), (Value.bool false)]) w)
  (BND (nilchk h_p0) fun t13_7 =>
  BND (faddr 0 t13_7) fun t14_8 =>
  BND (faddr 0 t14_8) fun t15_9 =>
  BND (nilchk h_p0) fun t21_10 =>
  BND (faddr 0 t21_10) fun t22_11 =>
  BND (faddr 0 t22_11) fun t23_12 =>
  BND (load1 w.drew t15_9) fun t16_13 =>
  BND (iaddr 2 t16_13 (Value.int .i64 0)) fun t17_14 =>
  BND (faddr 1 t17_14) fun t18_15 =>
  BND (load1 w.drew t18_15) fun t19_16 =>
  BND (load1 w.drew t23_12) fun t24_17 =>
  BND (iaddr 2 t24_17 (Value.int .i64 0)) fun t25_18 =>
  BND (faddr 0 t25_18) fun t26_19 =>
  BND (load1 w.drew t26_19) fun t27_20 =>
  R (.tuple #[t19_16, t27_20, (Value.bool true)]) w.drew)
def ann_due_Heap_First : List (Nat × List Nat) := [(3, [0, 1, 2, 3, 8, 9, 10, 11, 4, 5, 6, 7, 16, 12, 13, 14, 15, 17, 18])]
theorem E_due_Heap_First (h_p0 : Value) (w : World) (R : Value → World → Prop) : M_due_Heap_First h_p0 w R = den PR ann_due_Heap_First (bodyOf Try.f10) (retQ PR Try.f10.results.toList R) (env0 [h_p0]) w := by kernel_rfl
theorem C_due_Heap_First {h_p0 : Value} {w : World} {R : Value → World → Prop} (h : M_due_Heap_First h_p0 w R) : CALL PR F_due_Heap_First [h_p0] w R :=
  call_of_den2 ann_due_Heap_First Try.func10 (by kernel_rfl) (by kernel_rfl) (by kernel_rfl) ((E_due_Heap_First h_p0 w R) ▸ h)

end Go.Proofs.Ytmjiohgdoienmaa
