/- Printed by denprint.py: the Go function as a predicate, and that it stands for the call. No condition. -/
import Derived.Test.YtmjiohgdoienmaaFns
set_option maxRecDepth 100000
set_option linter.unusedVariables false
namespace Go.Proofs.Ytmjiohgdoienmaa
open Go.Den

-- 23 (*tumbrel.due.tree[tumbrel.due.entry]).swap
def M_due_tree_entry_swap (t_p0 i_p1 k_p2 : Value) (w : World) (R : Value → World → Prop) : Prop :=
  BND (nilchk t_p0) fun t7_1 =>
  BND (faddr 0 t7_1) fun t8_2 =>
  BND (nilchk t_p0) fun t12_3 =>
  BND (faddr 0 t12_3) fun t13_4 =>
  BND (nilchk t_p0) fun t17_5 =>
  BND (faddr 0 t17_5) fun t18_6 =>
  BND (nilchk t_p0) fun t24_7 =>
  BND (faddr 0 t24_7) fun t25_8 =>
  BND (load1 w.drew t8_2) fun t9_9 =>
  BND (load1 w.drew t13_4) fun t14_10 =>
  BND (load1 w.drew t18_6) fun t19_11 =>
  BND (iaddr 2 t19_11 k_p2) fun t21_12 =>
  BND (loadn 2 w.drew t21_12) fun t22_13 =>
  BND (load1 w.drew t25_8) fun t26_14 =>
  BND (iaddr 2 t26_14 i_p1) fun t28_15 =>
  BND (loadn 2 w.drew t28_15) fun t29_16 =>
  BND (iaddr 2 t9_9 i_p1) fun t30_17 =>
  BND (storev 2 w.drew t30_17 t22_13) fun w1 =>
  BND (iaddr 2 t14_10 k_p2) fun t31_18 =>
  BND (storev 2 w1 t31_18 t29_16) fun w2 =>
  BND (nilchk t_p0) fun t33_19 =>
  BND (faddr 1 t33_19) fun t34_20 =>
  BND (nilchk t_p0) fun t37_21 =>
  BND (faddr 0 t37_21) fun t38_22 =>
  BND (load1 w2.drew t34_20) fun t35_23 =>
  BND (load1 w2.drew t38_22) fun t39_24 =>
  BND (iaddr 2 t39_24 i_p1) fun t41_25 =>
  BND (loadn 2 w2.drew t41_25) fun t42_26 =>
  CALLV PR t35_23 [t42_26, i_p1] w2.drew fun t44_27 w3 =>
  BND (nilchk t_p0) fun t46_28 =>
  BND (faddr 1 t46_28) fun t47_29 =>
  BND (nilchk t_p0) fun t50_30 =>
  BND (faddr 0 t50_30) fun t51_31 =>
  BND (load1 w3.drew t47_29) fun t48_32 =>
  BND (load1 w3.drew t51_31) fun t52_33 =>
  BND (iaddr 2 t52_33 k_p2) fun t54_34 =>
  BND (loadn 2 w3.drew t54_34) fun t55_35 =>
  CALLV PR t48_32 [t55_35, k_p2] w3.drew fun t57_36 w4 =>
  R (.tuple #[]) w4
def ann_due_tree_entry_swap : List (Nat × List Nat) := [(0, [0, 1, 2, 4, 5, 6, 7, 9, 10, 11, 12, 14, 17, 18, 19, 21, 3, 8, 13, 15, 16, 20, 22, 23, 24, 25, 26, 27]), (1, [0, 1, 2, 4, 5, 6, 8, 11, 3, 7, 9, 10, 12]), (2, [0, 1, 2, 4, 5, 6, 8, 11, 3, 7, 9, 10, 12])]
theorem E_due_tree_entry_swap (t_p0 i_p1 k_p2 : Value) (w : World) (R : Value → World → Prop) : M_due_tree_entry_swap t_p0 i_p1 k_p2 w R = den PR ann_due_tree_entry_swap (bodyOf Try.f23) (retQ PR Try.f23.results.toList R) (env0 [t_p0, i_p1, k_p2]) w := by kernel_rfl
theorem C_due_tree_entry_swap {t_p0 i_p1 k_p2 : Value} {w : World} {R : Value → World → Prop} (h : M_due_tree_entry_swap t_p0 i_p1 k_p2 w R) : CALL PR F_due_tree_entry_swap [t_p0, i_p1, k_p2] w R :=
  call_of_den2 ann_due_tree_entry_swap Try.func23 (by kernel_rfl) (by kernel_rfl) (by kernel_rfl) ((E_due_tree_entry_swap t_p0 i_p1 k_p2 w R) ▸ h)

end Go.Proofs.Ytmjiohgdoienmaa
