/- Printed by denprint.py: the Go function as a predicate, and that it stands for the call. No condition. -/
import Derived.Test.YtmgdnbmepamcoaaFns
set_option maxRecDepth 100000
set_option linter.unusedVariables false
namespace Go.Proofs.Ytmgdnbmepamcoaa
open Go.Den

-- 17 tumbrel.tumbrelref03.Less
def M_tumbrelref03_Less (a_p0 b_p1 : Value) (w : World) (R : Value → World → Prop) : Prop :=
  RUNES 21 a_p0 w fun t9_1 w1 =>
  RUNES 21 b_p1 w1 fun t11_2 w2 =>
  ∃ (J_3 : Value → World → Prop) (m_3 : Value → World → Nat), J_3 (Value.int .i64 0) w2 ∧ ∀ (_d_3 : Env) (i_5 : Value) (w3 : World), J_3 i_5 w3 →
  (BND (lenl t9_1) fun t14_36 =>
  BND (binv .int .lss i_5 t14_36) fun t15_37 =>
  BND (grd (isB t15_37 true) (some i_5)) fun t17_38 =>
  BND (grd (isB t15_37 true) (some t11_2)) fun t18_39 =>
  BND (grd (isB t15_37 true) (lenl t18_39)) fun t19_40 =>
  BND (grd (isB t15_37 true) (binv .int .lss t17_38 t19_40)) fun t20_41 =>
  BND (pickv t15_37 t20_41 (Value.bool false)) fun t21_42 =>
  COND t21_42
  (BND (iaddr 1 t9_1 i_5) fun t26_43 =>
  BND (iaddr 1 t11_2 i_5) fun t30_44 =>
  BND (load1 w3.drew t26_43) fun t27_45 =>
  BND (load1 w3.drew t30_44) fun t31_46 =>
  BND (binv .int .neq t27_45 t31_46) fun t32_47 =>
  COND t32_47
  (BND (iaddr 1 t9_1 i_5) fun t35_48 =>
  BND (iaddr 1 t11_2 i_5) fun t39_49 =>
  BND (load1 w3.drew.drew t35_48) fun t36_50 =>
  BND (load1 w3.drew.drew t39_49) fun t40_51 =>
  BND (binv .int .lss t36_50 t40_51) fun t41_52 =>
  R t41_52 w3.drew.drew)
  (BND (binv .int .add i_5 (Value.int .i64 1)) fun t23_53 =>
  (J_3 t23_53 w3.drew ∧ m_3 t23_53 w3.drew < m_3 i_5 w3)))
  (BND (lenl t9_1) fun t43_54 =>
  BND (lenl t11_2) fun t45_55 =>
  BND (binv .int .lss t43_54 t45_55) fun t46_56 =>
  R t46_56 w3))
def ann_tumbrelref03_Less : List (Nat × List Nat) := [(6, [0, 1, 2, 4, 5, 6, 3, 7, 8]), (7, [0, 1, 2, 4, 5, 6, 3, 7, 8, 9]), (1000004, [7])]
theorem E_tumbrelref03_Less (a_p0 b_p1 : Value) (w : World) (R : Value → World → Prop) : M_tumbrelref03_Less a_p0 b_p1 w R = den PR ann_tumbrelref03_Less (bodyOf Try.f17) (retQ PR Try.f17.results.toList R) (env0 [a_p0, b_p1]) w := by kernel_rfl
theorem C_tumbrelref03_Less {a_p0 b_p1 : Value} {w : World} {R : Value → World → Prop} (h : M_tumbrelref03_Less a_p0 b_p1 w R) : CALL PR F_tumbrelref03_Less [a_p0, b_p1] w R :=
  call_of_den2 ann_tumbrelref03_Less Try.func17 (by kernel_rfl) (by kernel_rfl) (by kernel_rfl) ((E_tumbrelref03_Less a_p0 b_p1 w R) ▸ h)

end Go.Proofs.Ytmgdnbmepamcoaa
