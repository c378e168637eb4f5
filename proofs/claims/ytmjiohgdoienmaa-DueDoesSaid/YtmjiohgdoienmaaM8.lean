/- Printed by denprint.py: the Go function as a predicate, and that it stands for the call. No condition. -/
import Derived.Test.YtmjiohgdoienmaaFns
set_option maxRecDepth 100000
set_option linter.unusedVariables false
namespace Go.Proofs.Ytmjiohgdoienmaa
open Go.Den

-- 8 (*tumbrel.due.Heap).Put
def M_due_Heap_Put (h_p0 id_p1 at_p2 : Value) (w : World) (R : Value → World → Prop) : Prop :=
  BND (nilchk h_p0) fun t11_1 =>
  BND (faddr 2 t11_1) fun t12_2 =>
  BND (load1 w t12_2) fun t13_3 =>
  BND (lookv (.int .u64) (Value.int .i64 0) true w t13_3 id_p1) fun t15_4 =>
  BND (extractv t15_4 0) fun t16_5 =>
  BND (extractv t15_4 1) fun t17_6 =>
  COND t17_6
  (R (Value.bool false) w)
  (BND (nilchk h_p0) fun t21_7 =>
  BND (faddr 0 t21_7) fun t22_8 =>
  BND (faddr 0 t22_8) fun t23_9 =>
  BND (load1 w t23_9) fun t24_10 =>
  BND (buildv #[(Value.int .u64 0), (Value.int .u64 0)] [(0, 1, at_p2), (1, 1, id_p1)]) fun t27_11 =>
  BND (newslice 53 #[(Value.int .u64 0), (Value.int .u64 0)] 2 1 [(0, 2, t27_11)] w) fun p_ => NEW p_ fun t28_12 w1 =>
  APPEND 53 2 16 (Value.agg #[(Value.int .u64 0), (Value.int .u64 0)]) t24_10 t28_12 w1 fun t29_13 w2 =>
  BND (nilchk h_p0) fun t30_14 =>
  BND (faddr 0 t30_14) fun t31_15 =>
  BND (faddr 0 t31_15) fun t32_16 =>
  BND (storev 1 w2 t32_16 t29_13) fun w3 =>
  BND (nilchk h_p0) fun t34_17 =>
  BND (faddr 2 t34_17) fun t35_18 =>
  BND (nilchk h_p0) fun t39_19 =>
  BND (faddr 0 t39_19) fun t40_20 =>
  BND (faddr 0 t40_20) fun t41_21 =>
  BND (load1 w3.drew t35_18) fun t36_22 =>
  BND (load1 w3.drew t41_21) fun t42_23 =>
  BND (lenl t42_23) fun t43_24 =>
  BND (binv .int .sub t43_24 (Value.int .i64 1)) fun t44_25 =>
  BND (mupd (.int .u64) w3.drew t36_22 id_p1 t44_25) fun w4 =>
  BND (nilchk h_p0) fun t47_26 =>
  BND (faddr 0 t47_26) fun t48_27 =>
  BND (faddr 0 t48_27) fun t49_28 =>
  BND (load1 w4 t49_28) fun t50_29 =>
  BND (lenl t50_29) fun t51_30 =>
  BND (binv .int .sub t51_30 (Value.int .i64 1)) fun t52_31 =>
  CALL PR F_due_Heap_settle [h_p0, t52_31] w4 fun t53_32 w5 =>
  R (Value.bool true) w5)
def ann_due_Heap_Put : List (Nat × List Nat) := [(5, [0, 1, 2, 4, 5, 6, 7, 8, 3, 9, 10, 11, 12])]
theorem E_due_Heap_Put (h_p0 id_p1 at_p2 : Value) (w : World) (R : Value → World → Prop) : M_due_Heap_Put h_p0 id_p1 at_p2 w R = den PR ann_due_Heap_Put (bodyOf Try.f8) (retQ PR Try.f8.results.toList R) (env0 [h_p0, id_p1, at_p2]) w := by kernel_rfl
theorem C_due_Heap_Put {h_p0 id_p1 at_p2 : Value} {w : World} {R : Value → World → Prop} (h : M_due_Heap_Put h_p0 id_p1 at_p2 w R) : CALL PR F_due_Heap_Put [h_p0, id_p1, at_p2] w R :=
  call_of_den2 ann_due_Heap_Put Try.func8 (by kernel_rfl) (by kernel_rfl) (by kernel_rfl) ((E_due_Heap_Put h_p0 id_p1 at_p2 w R) ▸ h)

end Go.Proofs.Ytmjiohgdoienmaa
