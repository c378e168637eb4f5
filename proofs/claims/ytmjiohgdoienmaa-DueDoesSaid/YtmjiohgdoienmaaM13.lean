/- Printed by denprint.py: the Go function as a predicate, and that it stands for the call. No condition. -/
import Derived.Test.YtmjiohgdoienmaaFns
set_option maxRecDepth 100000
set_option linter.unusedVariables false
namespace Go.Proofs.Ytmjiohgdoienmaa
open Go.Den

-- 13 (*tumbrel.due.Heap).Drop
def M_due_Heap_Drop (h_p0 id_p1 : Value) (w : World) (R : Value → World → Prop) : Prop :=
  BND (nilchk h_p0) fun t10_1 =>
  BND (faddr 2 t10_1) fun t11_2 =>
  BND (load1 w t11_2) fun t12_3 =>
  BND (lookv (.int .u64) (Value.int .i64 0) true w t12_3 id_p1) fun t14_4 =>
  BND (extractv t14_4 0) fun t15_5 =>
  BND (extractv t14_4 1) fun t16_6 =>
  BND (unv .not t16_6) fun t18_7 =>
  COND t18_7
  (R (Value.bool false) w)
  (BND (nilchk h_p0) fun t20_8 =>
  BND (faddr 0 t20_8) fun t21_9 =>
  BND (faddr 0 t21_9) fun t22_10 =>
  BND (load1 w t22_10) fun t23_11 =>
  BND (lenl t23_11) fun t24_12 =>
  BND (binv .int .sub t24_12 (Value.int .i64 1)) fun t25_13 =>
  BND (nilchk h_p0) fun t27_14 =>
  BND (faddr 0 t27_14) fun t28_15 =>
  CALL PR F_due_tree_entry_swap [t28_15, t15_5, t25_13] w fun t31_16 w1 =>
  BND (nilchk h_p0) fun t34_17 =>
  BND (faddr 0 t34_17) fun t35_18 =>
  BND (faddr 0 t35_18) fun t36_19 =>
  BND (load1 w1 t36_19) fun t37_20 =>
  BND (slicev 2 t37_20 none (some t25_13)) fun t39_21 =>
  BND (nilchk h_p0) fun t40_22 =>
  BND (faddr 0 t40_22) fun t41_23 =>
  BND (faddr 0 t41_23) fun t42_24 =>
  BND (storev 1 w1 t42_24 t39_21) fun w2 =>
  BND (nilchk h_p0) fun t44_25 =>
  BND (faddr 2 t44_25) fun t45_26 =>
  BND (load1 w2 t45_26) fun t46_27 =>
  BND (mdel (.int .u64) w2 t46_27 id_p1) fun w3 =>
  BND (binv .int .lss t15_5 t25_13) fun t50_28 =>
  JOIN (α := World → Prop) (fun k_32 => COND t50_28
  (CALL PR F_due_Heap_settle [h_p0, t15_5] w3 fun t53_33 w5 =>
  k_32 w5)
  (k_32 w3))
  (fun w4 => R (Value.bool true) w4))
def ann_due_Heap_Drop : List (Nat × List Nat) := []
theorem E_due_Heap_Drop (h_p0 id_p1 : Value) (w : World) (R : Value → World → Prop) : M_due_Heap_Drop h_p0 id_p1 w R = den PR ann_due_Heap_Drop (bodyOf Try.f13) (retQ PR Try.f13.results.toList R) (env0 [h_p0, id_p1]) w := by kernel_rfl
theorem C_due_Heap_Drop {h_p0 id_p1 : Value} {w : World} {R : Value → World → Prop} (h : M_due_Heap_Drop h_p0 id_p1 w R) : CALL PR F_due_Heap_Drop [h_p0, id_p1] w R :=
  call_of_den2 ann_due_Heap_Drop Try.func13 (by kernel_rfl) (by kernel_rfl) (by kernel_rfl) ((E_due_Heap_Drop h_p0 id_p1 w R) ▸ h)

end Go.Proofs.Ytmjiohgdoienmaa
