/- Printed by denprint.py: the Go function as a predicate, and that it stands for the call. No condition. -/
import Derived.Test.YtmjiohgdoienmaaFns
set_option maxRecDepth 100000
set_option linter.unusedVariables false
namespace Go.Proofs.Ytmjiohgdoienmaa
open Go.Den

-- 26 (*tumbrel.due.tree[tumbrel.due.entry]).up
def M_due_tree_entry_up (t_p0 i_p1 ahead_p2 : Value) (w : World) (R : Value → World → Prop) : Prop :=
  ∃ (J_1 : Value → World → Prop) (m_1 : Value → World → Nat), J_1 i_p1 w ∧ ∀ (_d_1 : Env) (i_2 : Value) (w1 : World), J_1 i_2 w1 →
  (BND (binv .int .gtr i_2 (Value.int .i64 0)) fun t8_22 =>
  BND (grd (isB t8_22 true) (some ahead_p2)) fun t10_23 =>
  BND (grd (isB t8_22 true) (some i_2)) fun t11_24 =>
  BND (grd (isB t8_22 true) (some i_2)) fun t12_25 =>
  BND (grd (isB t8_22 true) (binv .int .sub t12_25 (Value.int .i64 1))) fun t13_26 =>
  BND (grd (isB t8_22 true) (binv .int .quo t13_26 (Value.int .i64 2))) fun t14_27 =>
  GEF (isB t8_22 true) (fun k_ => CALLV PR t10_23 [t11_24, t14_27] w1 k_) w1 fun t15_28 w2 =>
  BND (pickv t8_22 t15_28 (Value.bool false)) fun t16_29 =>
  COND t16_29
  (BND (binv .int .sub i_2 (Value.int .i64 1)) fun t20_30 =>
  BND (binv .int .quo t20_30 (Value.int .i64 2)) fun t21_31 =>
  CALL PR F_due_tree_entry_swap [t_p0, i_2, t21_31] w2 fun t22_32 w3 =>
  BND (binv .int .sub i_2 (Value.int .i64 1)) fun t24_33 =>
  BND (binv .int .quo t24_33 (Value.int .i64 2)) fun t25_34 =>
  (J_1 t25_34 w3 ∧ m_1 t25_34 w3 < m_1 i_2 w1))
  (R i_2 w2))
def ann_due_tree_entry_up : List (Nat × List Nat) := [(1000001, [1])]
theorem E_due_tree_entry_up (t_p0 i_p1 ahead_p2 : Value) (w : World) (R : Value → World → Prop) : M_due_tree_entry_up t_p0 i_p1 ahead_p2 w R = den PR ann_due_tree_entry_up (bodyOf Try.f26) (retQ PR Try.f26.results.toList R) (env0 [t_p0, i_p1, ahead_p2]) w := by kernel_rfl
theorem C_due_tree_entry_up {t_p0 i_p1 ahead_p2 : Value} {w : World} {R : Value → World → Prop} (h : M_due_tree_entry_up t_p0 i_p1 ahead_p2 w R) : CALL PR F_due_tree_entry_up [t_p0, i_p1, ahead_p2] w R :=
  call_of_den2 ann_due_tree_entry_up Try.func26 (by kernel_rfl) (by kernel_rfl) (by kernel_rfl) ((E_due_tree_entry_up t_p0 i_p1 ahead_p2 w R) ▸ h)

end Go.Proofs.Ytmjiohgdoienmaa
