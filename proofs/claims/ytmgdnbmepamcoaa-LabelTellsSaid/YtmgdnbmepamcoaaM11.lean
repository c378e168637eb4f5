/- Printed by denprint.py: the Go function as a predicate, and that it stands for the call. No condition. -/
import Derived.Test.YtmgdnbmepamcoaaFns
set_option maxRecDepth 100000
set_option linter.unusedVariables false
namespace Go.Proofs.Ytmgdnbmepamcoaa
open Go.Den

-- 11 tumbrel.tumbrelref03.Fold
def M_tumbrelref03_Fold (s_p0 : Value) (w : World) (R : Value → World → Prop) : Prop :=
  RUNES 21 s_p0 w fun t6_1 w1 =>
  ∃ (J_2 : Value → World → Prop) (m_2 : Value → World → Nat), J_2 (Value.int .i64 0) w1 ∧ ∀ (_d_2 : Env) (i_3 : Value) (w2 : World), J_2 i_3 w2 →
  (BND (lenl t6_1) fun t9_59 =>
  BND (binv .int .lss i_3 t9_59) fun t10_60 =>
  COND t10_60
  (BND (iaddr 1 t6_1 i_3) fun t15_61 =>
  BND (load1 w2 t15_61) fun t16_62 =>
  BND (binv .int .geq t16_62 (Value.int .i32 65)) fun t17_63 =>
  BND (grd (isB t17_63 true) (some t6_1)) fun t19_64 =>
  BND (grd (isB t17_63 true) (some i_3)) fun t20_65 =>
  BND (grd (isB t17_63 true) (iaddr 1 t19_64 t20_65)) fun t21_66 =>
  BND (grd (isB t17_63 true) (load1 w2 t21_66)) fun t22_67 =>
  BND (grd (isB t17_63 true) (binv .int .leq t22_67 (Value.int .i32 90))) fun t23_68 =>
  BND (pickv t17_63 t23_68 (Value.bool false)) fun t24_69 =>
  BND (grd (isB t24_69 false) (some t6_1)) fun t26_70 =>
  BND (grd (isB t24_69 false) (some i_3)) fun t27_71 =>
  BND (grd (isB t24_69 false) (iaddr 1 t26_70 t27_71)) fun t28_72 =>
  BND (grd (isB t24_69 false) (load1 w2 t28_72)) fun t29_73 =>
  BND (grd (isB t24_69 false) (binv .int .geq t29_73 (Value.int .i32 913))) fun t30_74 =>
  BND (grd (isB t24_69 false) (some t30_74)) fun t31_75 =>
  BND (grd (isB t31_75 true) (some t6_1)) fun t32_76 =>
  BND (grd (isB t31_75 true) (some i_3)) fun t33_77 =>
  BND (grd (isB t31_75 true) (iaddr 1 t32_76 t33_77)) fun t34_78 =>
  BND (grd (isB t31_75 true) (load1 w2 t34_78)) fun t35_79 =>
  BND (grd (isB t31_75 true) (binv .int .leq t35_79 (Value.int .i32 937))) fun t36_80 =>
  BND (grd (isB t24_69 false) (pickv t31_75 t36_80 (Value.bool false))) fun t37_81 =>
  BND (grd (isB t24_69 false) (some t37_81)) fun t38_82 =>
  BND (grd (isB t38_82 true) (some t6_1)) fun t39_83 =>
  BND (grd (isB t38_82 true) (some i_3)) fun t40_84 =>
  BND (grd (isB t38_82 true) (iaddr 1 t39_83 t40_84)) fun t41_85 =>
  BND (grd (isB t38_82 true) (load1 w2 t41_85)) fun t42_86 =>
  BND (grd (isB t38_82 true) (binv .int .neq t42_86 (Value.int .i32 930))) fun t43_87 =>
  BND (grd (isB t24_69 false) (pickv t38_82 t43_87 (Value.bool false))) fun t44_88 =>
  BND (pickv t24_69 (Value.bool true) t44_88) fun t45_89 =>
  JOIN (α := World → Prop) (fun k_107 => COND t45_89
  (BND (iaddr 1 t6_1 i_3) fun t50_108 =>
  BND (load1 w2 t50_108) fun t51_109 =>
  BND (binv .int .add t51_109 (Value.int .i32 32)) fun t52_110 =>
  BND (iaddr 1 t6_1 i_3) fun t53_111 =>
  BND (storev 1 w2 t53_111 t52_110) fun w4 =>
  k_107 w4)
  (BND (iaddr 1 t6_1 i_3) fun t56_112 =>
  BND (load1 w2 t56_112) fun t57_113 =>
  BND (binv .int .eql t57_113 (Value.int .i32 962)) fun t58_114 =>
  JOIN (α := World → Prop) (fun k_118 => COND t58_114
  (BND (iaddr 1 t6_1 i_3) fun t61_119 =>
  BND (storev 1 w2 t61_119 (Value.int .i32 963)) fun w6 =>
  k_118 w6)
  (k_118 w2))
  (fun w5 => k_107 w5)))
  (fun w3 => BND (binv .int .add i_3 (Value.int .i64 1)) fun t12_106 =>
  (J_2 t12_106 w3 ∧ m_2 t12_106 w3 < m_2 i_3 w2)))
  (BND (textv .i32 textOfRunes w2 t6_1) fun t63_120 =>
  R t63_120 w2))
def ann_tumbrelref03_Fold : List (Nat × List Nat) := [(1000003, [4])]
theorem E_tumbrelref03_Fold (s_p0 : Value) (w : World) (R : Value → World → Prop) : M_tumbrelref03_Fold s_p0 w R = den PR ann_tumbrelref03_Fold (bodyOf Try.f11) (retQ PR Try.f11.results.toList R) (env0 [s_p0]) w := by kernel_rfl
theorem C_tumbrelref03_Fold {s_p0 : Value} {w : World} {R : Value → World → Prop} (h : M_tumbrelref03_Fold s_p0 w R) : CALL PR F_tumbrelref03_Fold [s_p0] w R :=
  call_of_den2 ann_tumbrelref03_Fold Try.func11 (by kernel_rfl) (by kernel_rfl) (by kernel_rfl) ((E_tumbrelref03_Fold s_p0 w R) ▸ h)

end Go.Proofs.Ytmgdnbmepamcoaa
