/- Printed by denprint.py: the Go function as a predicate, and that it stands for the call. No condition. -/
import Derived.Test.YtmgdnbmepamcoaaFns
set_option maxRecDepth 100000
set_option linter.unusedVariables false
namespace Go.Proofs.Ytmgdnbmepamcoaa
open Go.Den

-- 9 tumbrel.tumbrelref03.Right
def M_tumbrelref03_Right (L_p0 : Value) (w : World) (R : Value → World → Prop) : Prop :=
  RUNES 21 L_p0 w fun r_1 w1 =>
  ∃ (J_2 : Value → World → Prop) (m_2 : Value → World → Nat), J_2 (Value.int .i64 0) w1 ∧ ∀ (_d_2 : Env) (t4_4 : Value) (w2 : World), J_2 t4_4 w2 →
  (BND (lenl r_1) fun t12_60 =>
  BND (binv .int .lss t4_4 t12_60) fun t13_61 =>
  COND t13_61
  (BND (iaddr 1 r_1 t4_4) fun t18_62 =>
  BND (load1 w2 t18_62) fun t19_63 =>
  BND (binv .int .geq t19_63 (Value.int .i32 97)) fun t20_64 =>
  BND (grd (isB t20_64 true) (some r_1)) fun t22_65 =>
  BND (grd (isB t20_64 true) (some t4_4)) fun t23_66 =>
  BND (grd (isB t20_64 true) (iaddr 1 t22_65 t23_66)) fun t24_67 =>
  BND (grd (isB t20_64 true) (load1 w2 t24_67)) fun t25_68 =>
  BND (grd (isB t20_64 true) (binv .int .leq t25_68 (Value.int .i32 122))) fun t26_69 =>
  BND (pickv t20_64 t26_69 (Value.bool false)) fun t27_70 =>
  BND (iaddr 1 r_1 t4_4) fun t30_71 =>
  BND (load1 w2 t30_71) fun t31_72 =>
  BND (binv .int .geq t31_72 (Value.int .i32 48)) fun t32_73 =>
  BND (grd (isB t32_73 true) (some r_1)) fun t34_74 =>
  BND (grd (isB t32_73 true) (some t4_4)) fun t35_75 =>
  BND (grd (isB t32_73 true) (iaddr 1 t34_74 t35_75)) fun t36_76 =>
  BND (grd (isB t32_73 true) (load1 w2 t36_76)) fun t37_77 =>
  BND (grd (isB t32_73 true) (binv .int .leq t37_77 (Value.int .i32 57))) fun t38_78 =>
  BND (pickv t32_73 t38_78 (Value.bool false)) fun t39_79 =>
  BND (iaddr 1 r_1 t4_4) fun t42_80 =>
  BND (load1 w2 t42_80) fun t43_81 =>
  BND (binv .int .geq t43_81 (Value.int .i32 945)) fun t44_82 =>
  BND (grd (isB t44_82 true) (some r_1)) fun t46_83 =>
  BND (grd (isB t44_82 true) (some t4_4)) fun t47_84 =>
  BND (grd (isB t44_82 true) (iaddr 1 t46_83 t47_84)) fun t48_85 =>
  BND (grd (isB t44_82 true) (load1 w2 t48_85)) fun t49_86 =>
  BND (grd (isB t44_82 true) (binv .int .leq t49_86 (Value.int .i32 969))) fun t50_87 =>
  BND (pickv t44_82 t50_87 (Value.bool false)) fun t51_88 =>
  BND (unv .not t27_70) fun t53_89 =>
  BND (grd (isB t53_89 true) (some t39_79)) fun t55_90 =>
  BND (grd (isB t53_89 true) (unv .not t55_90)) fun t56_91 =>
  BND (pickv t53_89 t56_91 (Value.bool false)) fun t57_92 =>
  BND (grd (isB t57_92 true) (some t51_88)) fun t59_93 =>
  BND (grd (isB t57_92 true) (unv .not t59_93)) fun t60_94 =>
  BND (pickv t57_92 t60_94 (Value.bool false)) fun t61_95 =>
  COND t61_95
  (R (Value.bool false) w2)
  (BND (binv .int .add t4_4 (Value.int .i64 1)) fun t15_96 =>
  (J_2 t15_96 w2 ∧ m_2 t15_96 w2 < m_2 t4_4 w2)))
  (BND (lenl r_1) fun t63_97 =>
  BND (binv .int .geq t63_97 (Value.int .i64 1)) fun t64_98 =>
  BND (grd (isB t64_98 true) (some r_1)) fun t66_99 =>
  BND (grd (isB t64_98 true) (lenl t66_99)) fun t67_100 =>
  BND (grd (isB t64_98 true) (binv .int .leq t67_100 (Value.int .i64 8))) fun t68_101 =>
  BND (pickv t64_98 t68_101 (Value.bool false)) fun t69_102 =>
  R t69_102 w2))
def ann_tumbrelref03_Right : List (Nat × List Nat) := [(1000003, [4])]
theorem E_tumbrelref03_Right (L_p0 : Value) (w : World) (R : Value → World → Prop) : M_tumbrelref03_Right L_p0 w R = den PR ann_tumbrelref03_Right (bodyOf Try.f9) (retQ PR Try.f9.results.toList R) (env0 [L_p0]) w := by kernel_rfl
theorem C_tumbrelref03_Right {L_p0 : Value} {w : World} {R : Value → World → Prop} (h : M_tumbrelref03_Right L_p0 w R) : CALL PR F_tumbrelref03_Right [L_p0] w R :=
  call_of_den2 ann_tumbrelref03_Right Try.func9 (by kernel_rfl) (by kernel_rfl) (by kernel_rfl) ((E_tumbrelref03_Right L_p0 w R) ▸ h)

end Go.Proofs.Ytmgdnbmepamcoaa
