/- Printed by denprint.py: the Go function as a predicate, and that it stands for the call. No condition. -/
import Derived.Test.YtmjiohgdoienmaaFns
set_option maxRecDepth 100000
set_option linter.unusedVariables false
namespace Go.Proofs.Ytmjiohgdoienmaa
open Go.Den

-- 25 (*tumbrel.due.tree[tumbrel.due.entry]).sink
def M_due_tree_entry_sink (t_p0 i_p1 ahead_p2 : Value) (w : World) (R : Value → World → Prop) : Prop :=
  ∃ (J_1 : Value → World → Prop) (m_1 : Value → World → Nat), J_1 i_p1 w ∧ ∀ (_d_1 : Env) (i_2 : Value) (w1 : World), J_1 i_2 w1 →
  (BND (binv .int .mul (Value.int .i64 2) i_2) fun t8_43 =>
  BND (binv .int .add t8_43 (Value.int .i64 1)) fun t9_44 =>
  BND (binv .int .add t9_44 (Value.int .i64 1)) fun t11_45 =>
  BND (nilchk t_p0) fun t13_46 =>
  BND (faddr 0 t13_46) fun t14_47 =>
  BND (load1 w1 t14_47) fun t15_48 =>
  BND (lenl t15_48) fun t16_49 =>
  BND (binv .int .lss t11_45 t16_49) fun t17_50 =>
  BND (grd (isB t17_50 true) (some ahead_p2)) fun t19_51 =>
  BND (grd (isB t17_50 true) (some t9_44)) fun t20_52 =>
  BND (grd (isB t17_50 true) (binv .int .add t20_52 (Value.int .i64 1))) fun t21_53 =>
  BND (grd (isB t17_50 true) (some t9_44)) fun t22_54 =>
  GEF (isB t17_50 true) (fun k_ => CALLV PR t19_51 [t21_53, t22_54] w1 k_) w1 fun t23_55 w2 =>
  BND (pickv t17_50 t23_55 (Value.bool false)) fun t24_56 =>
  JOIN (α := Value → World → Prop) (fun k_72 => COND t24_56
  (BND (binv .int .add t9_44 (Value.int .i64 1)) fun t26_73 =>
  k_72 t26_73 w2)
  (k_72 t9_44 w2))
  (fun k_57 w3 => BND (nilchk t_p0) fun t29_60 =>
  BND (faddr 0 t29_60) fun t30_61 =>
  BND (load1 w3 t30_61) fun t31_62 =>
  BND (lenl t31_62) fun t32_63 =>
  BND (binv .int .geq k_57 t32_63) fun t33_64 =>
  BND (grd (isB t33_64 false) (some ahead_p2)) fun t35_65 =>
  BND (grd (isB t33_64 false) (some k_57)) fun t36_66 =>
  BND (grd (isB t33_64 false) (some i_2)) fun t37_67 =>
  GEF (isB t33_64 false) (fun k_ => CALLV PR t35_65 [t36_66, t37_67] w3 k_) w3 fun t38_68 w4 =>
  BND (grd (isB t33_64 false) (unv .not t38_68)) fun t39_69 =>
  BND (pickv t33_64 (Value.bool true) t39_69) fun t40_70 =>
  COND t40_70
  (R (.tuple #[]) w4)
  (CALL PR F_due_tree_entry_swap [t_p0, i_2, k_57] w4 fun t44_71 w5 =>
  (J_1 k_57 w5 ∧ m_1 k_57 w5 < m_1 i_2 w1))))
def ann_due_tree_entry_sink : List (Nat × List Nat) := [(1000000, [1])]
theorem E_due_tree_entry_sink (t_p0 i_p1 ahead_p2 : Value) (w : World) (R : Value → World → Prop) : M_due_tree_entry_sink t_p0 i_p1 ahead_p2 w R = den PR ann_due_tree_entry_sink (bodyOf Try.f25) (retQ PR Try.f25.results.toList R) (env0 [t_p0, i_p1, ahead_p2]) w := by kernel_rfl
theorem C_due_tree_entry_sink {t_p0 i_p1 ahead_p2 : Value} {w : World} {R : Value → World → Prop} (h : M_due_tree_entry_sink t_p0 i_p1 ahead_p2 w R) : CALL PR F_due_tree_entry_sink [t_p0, i_p1, ahead_p2] w R :=
  call_of_den2 ann_due_tree_entry_sink Try.func25 (by kernel_rfl) (by kernel_rfl) (by kernel_rfl) ((E_due_tree_entry_sink t_p0 i_p1 ahead_p2 w R) ▸ h)

end Go.Proofs.Ytmjiohgdoienmaa
