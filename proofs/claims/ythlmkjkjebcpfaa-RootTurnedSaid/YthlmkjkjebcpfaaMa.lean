/- Printed by denprint.py: the Go function as a predicate, and that it stands for the call. No condition. -/
import Derived.Test.YthlmkjkjebcpfaaFns
set_option maxRecDepth 100000
set_option linter.unusedVariables false
namespace Go.Proofs.Ythlmkjkjebcpfaa
open Go.Den

-- 3 tumbrel.tumbrellaw16.RootBack
def M_tumbrellaw16_RootBack (L_p0 i_p1 : Value) (w : World) (R : Value → World → Prop) : Prop :=
  NEW (newv 26 w L_p0) fun s_1 w1 =>
  NEW (newv 26 w1 i_p1) fun t_2 w2 =>
  CALL PR F_tumbrellaw16_awake [] w2 fun t13_3 w3 =>
  BND (unv .not t13_3) fun t14_4 =>
  COND t14_4
  (R (Value.bool false) w3)
  (CALL PR F_disk_New [(Value.int .i64 1024)] w3 fun t16_5 w4 =>
  BND (extractv t16_5 0) fun t17_6 =>
  BND (extractv t16_5 1) fun t18_7 =>
  BND (binv .ptr .eql t17_6 (Value.pointer none)) fun t20_8 =>
  COND t20_8
  (R (Value.bool false) w4)
  (BND (loadn 5 w4 s_1) fun t22_9 =>
  CALL PR F_root_Write [t17_6, t22_9] w4 fun t23_10 w5 =>
  CALL PR F_root_Read [t17_6] w5 fun t26_11 w6 =>
  BND (extractv t26_11 0) fun t27_12 =>
  BND (extractv t26_11 1) fun t28_13 =>
  NEW (newv 26 w6 (Value.agg #[(Value.int .u64 0), (Value.int .i64 0), (Value.int .i64 0), (Value.int .i64 0), (Value.int .i64 0)])) fun r_14 w7 =>
  BND (storev 5 w7 r_14 t27_12) fun w8 =>
  BND (loadn 5 w8 t_2) fun t30_15 =>
  CALL PR F_root_Write [t17_6, t30_15] w8 fun t31_16 w9 =>
  CALL PR F_root_Read [t17_6] w9 fun t34_17 w10 =>
  BND (extractv t34_17 0) fun t35_18 =>
  BND (extractv t34_17 1) fun t36_19 =>
  NEW (newv 26 w10 (Value.agg #[(Value.int .u64 0), (Value.int .i64 0), (Value.int .i64 0), (Value.int .i64 0), (Value.int .i64 0)])) fun y_20 w11 =>
  BND (storev 5 w11 y_20 t35_18) fun w12 =>
  BND (binv .int .eql t23_10 (Value.int .i64 0)) fun t38_21 =>
  BND (loadn 5 w12 s_1) fun t39_22 =>
  CALL PR F_root_Right [t39_22] w12 fun t40_23 w13 =>
  BND (binv .bool .neq t38_21 t40_23) fun t41_24 =>
  BND (grd (isB t41_24 false) (some t31_16)) fun t43_25 =>
  BND (grd (isB t41_24 false) (binv .int .eql t43_25 (Value.int .i64 0))) fun t44_26 =>
  BND (grd (isB t41_24 false) (loadn 5 w13 t_2)) fun t45_27 =>
  GEF (isB t41_24 false) (fun k_ => CALL PR F_root_Right [t45_27] w13 k_) w13 fun t46_28 w14 =>
  BND (grd (isB t41_24 false) (binv .bool .neq t44_26 t46_28)) fun t47_29 =>
  BND (pickv t41_24 (Value.bool true) t47_29) fun t48_30 =>
  COND t48_30
  (R (Value.bool false) w14)
  (BND (binv .int .eql t23_10 (Value.int .i64 0)) fun t50_31 =>
  BND (grd (isB t50_31 true) (some t28_13)) fun t52_32 =>
  BND (grd (isB t50_31 true) (binv .int .neq t52_32 (Value.int .i64 0))) fun t53_33 =>
  BND (grd (isB t50_31 true) (some t53_33)) fun t54_34 =>
  BND (grd (isB t54_34 false) (loadn 5 w14 r_14)) fun t55_35 =>
  BND (grd (isB t54_34 false) (loadn 5 w14 s_1)) fun t56_36 =>
  BND (grd (isB t54_34 false) (eqaggv [(0, (.int .u64)), (1, (.int .i64)), (2, (.int .i64)), (3, (.int .i64)), (4, (.int .i64))] .neq t55_35 t56_36)) fun t57_37 =>
  BND (grd (isB t50_31 true) (pickv t54_34 (Value.bool true) t57_37)) fun t58_38 =>
  BND (pickv t50_31 t58_38 (Value.bool false)) fun t59_39 =>
  BND (grd (isB t59_39 false) (some t23_10)) fun t61_40 =>
  BND (grd (isB t59_39 false) (binv .int .neq t61_40 (Value.int .i64 0))) fun t62_41 =>
  BND (grd (isB t59_39 false) (some t62_41)) fun t63_42 =>
  BND (grd (isB t63_42 true) (some t28_13)) fun t64_43 =>
  BND (grd (isB t63_42 true) (binv .int .neq t64_43 (Value.int .i64 5))) fun t65_44 =>
  BND (grd (isB t59_39 false) (pickv t63_42 t65_44 (Value.bool false))) fun t66_45 =>
  BND (pickv t59_39 (Value.bool true) t66_45) fun t67_46 =>
  COND t67_46
  (R (Value.bool false) w14)
  (BND (binv .int .eql t31_16 (Value.int .i64 0)) fun t69_47 =>
  COND t69_47
  (BND (binv .int .eql t36_19 (Value.int .i64 0)) fun t71_48 =>
  BND (grd (isB t71_48 true) (loadn 5 w14 y_20)) fun t73_49 =>
  BND (grd (isB t71_48 true) (loadn 5 w14 t_2)) fun t74_50 =>
  BND (grd (isB t71_48 true) (eqaggv [(0, (.int .u64)), (1, (.int .i64)), (2, (.int .i64)), (3, (.int .i64)), (4, (.int .i64))] .eql t73_49 t74_50)) fun t75_51 =>
  BND (pickv t71_48 t75_51 (Value.bool false)) fun t76_52 =>
  R t76_52 w14)
  (BND (loadn 5 w14 y_20) fun t77_53 =>
  BND (loadn 5 w14 r_14) fun t78_54 =>
  BND (eqaggv [(0, (.int .u64)), (1, (.int .i64)), (2, (.int .i64)), (3, (.int .i64)), (4, (.int .i64))] .eql t77_53 t78_54) fun t79_55 =>
  BND (grd (isB t79_55 true) (some t36_19)) fun t81_56 =>
  BND (grd (isB t79_55 true) (some t28_13)) fun t82_57 =>
  BND (grd (isB t79_55 true) (binv .int .eql t81_56 t82_57)) fun t83_58 =>
  BND (pickv t79_55 t83_58 (Value.bool false)) fun t84_59 =>
  R t84_59 w14)))))
def ann_tumbrellaw16_RootBack : List (Nat × List Nat) := []
theorem E_tumbrellaw16_RootBack (L_p0 i_p1 : Value) (w : World) (R : Value → World → Prop) : M_tumbrellaw16_RootBack L_p0 i_p1 w R = den PR ann_tumbrellaw16_RootBack (bodyOf Try.f3) (retQ PR Try.f3.results.toList R) (env0 [L_p0, i_p1]) w := by kernel_rfl
theorem C_tumbrellaw16_RootBack {L_p0 i_p1 : Value} {w : World} {R : Value → World → Prop} (h : M_tumbrellaw16_RootBack L_p0 i_p1 w R) : CALL PR F_tumbrellaw16_RootBack [L_p0, i_p1] w R :=
  call_of_den2 ann_tumbrellaw16_RootBack Try.func3 (by kernel_rfl) (by kernel_rfl) (by kernel_rfl) ((E_tumbrellaw16_RootBack L_p0 i_p1 w R) ▸ h)


-- 4 tumbrel.tumbrellaw16.RootWhole
def M_tumbrellaw16_RootWhole (L_p0 : Value) (w : World) (R : Value → World → Prop) : Prop :=
  CALL PR F_tumbrellaw16_awake [] w fun y_1 w1 =>
  BND (unv .not y_1) fun t12_2 =>
  COND t12_2
  (R (Value.bool false) w1)
  (CALL PR F_disk_New [(Value.int .i64 4096)] w1 fun t14_3 w2 =>
  BND (extractv t14_3 0) fun t15_4 =>
  BND (extractv t14_3 1) fun t16_5 =>
  BND (binv .ptr .eql t15_4 (Value.pointer none)) fun t18_6 =>
  BND (grd (isB t18_6 false) (some L_p0)) fun t20_7 =>
  BND (grd (isB t18_6 false) (lenl t20_7)) fun t21_8 =>
  BND (grd (isB t18_6 false) (binv .int .gtr t21_8 (Value.int .i64 40))) fun t22_9 =>
  BND (pickv t18_6 (Value.bool true) t22_9) fun t23_10 =>
  COND t23_10
  (R (Value.bool true) w2)
  (BND (buildv #[(Value.int .i64 0), (Value.int .i64 0), (Value.int .i64 0)] [(0, 1, (Value.int .i64 1)), (2, 1, (Value.int .i64 1))]) fun t24_11 =>
  BND (buildv #[(Value.int .u64 0), (Value.int .i64 0), (Value.int .i64 0), (Value.int .i64 0), (Value.int .i64 0)] [(0, 1, (Value.int .u64 1)), (1, 3, t24_11), (4, 1, (Value.int .i64 64))]) fun t25_12 =>
  NEW (newv 26 w2 (Value.agg #[(Value.int .u64 0), (Value.int .i64 0), (Value.int .i64 0), (Value.int .i64 0), (Value.int .i64 0)])) fun t_13 w3 =>
  BND (storev 5 w3 t_13 t25_12) fun w4 =>
  BND (loadn 5 w4 t_13) fun t27_14 =>
  CALL PR F_root_Write [t15_4, t27_14] w4 fun t28_15 w5 =>
  BND (binv .int .neq t28_15 (Value.int .i64 0)) fun t29_16 =>
  COND t29_16
  (R (Value.bool false) w5)
  (BND (lenl L_p0) fun t31_17 =>
  ∃ (J_18 : Value → World → Prop) (m_18 : Value → World → Nat), J_18 (Value.int .i64 0) w5 ∧ ∀ (_d_18 : Env) (t32_24 : Value) (w6 : World), J_18 t32_24 w6 →
  (BND (binv .int .lss t32_24 t31_17) fun t33_90 =>
  COND t33_90
  (BND (iaddr 10 L_p0 t32_24) fun t34_91 =>
  BND (loadn 10 w6 t34_91) fun t35_92 =>
  NEW (newv 41 w6 (Value.agg #[(Value.int .i64 0), (Value.int .i64 0), (Value.int .u64 0), (Value.int .i64 0), (Value.int .i64 0), (Value.int .i64 0), (Value.int .i64 0), (Value.slice none 0 0), (Value.string ByteArray.empty), (Value.slice none 0 0)])) fun A_93 w7 =>
  BND (storev 10 w7 A_93 t35_92) fun w8 =>
  BND (faddr 7 A_93) fun t36_94 =>
  BND (load1 w8 t36_94) fun t37_95 =>
  BND (lenl t37_95) fun t38_96 =>
  BND (binv .int .gtr t38_96 (Value.int .i64 300)) fun t39_97 =>
  BND (grd (isB t39_97 false) (faddr 2 A_93)) fun t41_98 =>
  BND (grd (isB t39_97 false) (loadn 5 w8 t41_98)) fun t42_99 =>
  GEF (isB t39_97 false) (fun k_ => CALL PR F_root_Right [t42_99] w8 k_) w8 fun t43_100 w9 =>
  BND (grd (isB t39_97 false) (unv .not t43_100)) fun t44_101 =>
  BND (pickv t39_97 (Value.bool true) t44_101) fun t45_102 =>
  COND t45_102
  (R (Value.bool true) w9)
  (BND (faddr 1 A_93) fun t47_103 =>
  BND (load1 w9 t47_103) fun t48_104 =>
  CALL PR F_disk_Disk_Fuse [t15_4, t48_104] w9 fun t49_105 w10 =>
  BND (faddr 2 A_93) fun t51_106 =>
  BND (loadn 5 w10 t51_106) fun t52_107 =>
  CALL PR F_root_Write [t15_4, t52_107] w10 fun t53_108 w11 =>
  BND (faddr 0 A_93) fun t55_109 =>
  BND (load1 w11 t55_109) fun t56_110 =>
  BND (faddr 7 A_93) fun t57_111 =>
  BND (load1 w11 t57_111) fun t58_112 =>
  CALL PR F_disk_Disk_Crash [t15_4, t56_110, t58_112] w11 fun t59_113 w12 =>
  CALL PR F_root_Read [t15_4] w12 fun t62_114 w13 =>
  BND (extractv t62_114 0) fun t63_115 =>
  BND (extractv t62_114 1) fun t64_116 =>
  NEW (newv 26 w13 (Value.agg #[(Value.int .u64 0), (Value.int .i64 0), (Value.int .i64 0), (Value.int .i64 0), (Value.int .i64 0)])) fun r_117 w14 =>
  BND (storev 5 w14 r_117 t63_115) fun w15 =>
  BND (binv .int .neq t64_116 (Value.int .i64 0)) fun t66_118 =>
  BND (grd (isB t66_118 false) (loadn 5 w15 r_117)) fun t68_119 =>
  BND (grd (isB t66_118 false) (loadn 5 w15 t_13)) fun t69_120 =>
  BND (grd (isB t66_118 false) (eqaggv [(0, (.int .u64)), (1, (.int .i64)), (2, (.int .i64)), (3, (.int .i64)), (4, (.int .i64))] .neq t68_119 t69_120)) fun t70_121 =>
  BND (grd (isB t66_118 false) (some t70_121)) fun t71_122 =>
  BND (grd (isB t71_122 true) (loadn 5 w15 r_117)) fun t72_123 =>
  BND (grd (isB t71_122 true) (faddr 2 A_93)) fun t73_124 =>
  BND (grd (isB t71_122 true) (loadn 5 w15 t73_124)) fun t74_125 =>
  BND (grd (isB t71_122 true) (eqaggv [(0, (.int .u64)), (1, (.int .i64)), (2, (.int .i64)), (3, (.int .i64)), (4, (.int .i64))] .neq t72_123 t74_125)) fun t75_126 =>
  BND (grd (isB t66_118 false) (pickv t71_122 t75_126 (Value.bool false))) fun t76_127 =>
  BND (pickv t66_118 (Value.bool true) t76_127) fun t77_128 =>
  BND (grd (isB t77_128 false) (some t53_108)) fun t79_129 =>
  BND (grd (isB t77_128 false) (binv .int .eql t79_129 (Value.int .i64 0))) fun t80_130 =>
  BND (grd (isB t77_128 false) (some t80_130)) fun t81_131 =>
  BND (grd (isB t81_131 true) (loadn 5 w15 r_117)) fun t82_132 =>
  BND (grd (isB t81_131 true) (faddr 2 A_93)) fun t83_133 =>
  BND (grd (isB t81_131 true) (loadn 5 w15 t83_133)) fun t84_134 =>
  BND (grd (isB t81_131 true) (eqaggv [(0, (.int .u64)), (1, (.int .i64)), (2, (.int .i64)), (3, (.int .i64)), (4, (.int .i64))] .neq t82_132 t84_134)) fun t85_135 =>
  BND (grd (isB t77_128 false) (pickv t81_131 t85_135 (Value.bool false))) fun t86_136 =>
  BND (pickv t77_128 (Value.bool true) t86_136) fun t87_137 =>
  BND (grd (isB t87_137 false) (some t53_108)) fun t89_138 =>
  BND (grd (isB t87_137 false) (binv .int .neq t89_138 (Value.int .i64 0))) fun t90_139 =>
  BND (grd (isB t87_137 false) (some t90_139)) fun t91_140 =>
  BND (grd (isB t91_140 true) (some t53_108)) fun t92_141 =>
  BND (grd (isB t91_140 true) (binv .int .neq t92_141 (Value.int .i64 7))) fun t93_142 =>
  BND (grd (isB t87_137 false) (pickv t91_140 t93_142 (Value.bool false))) fun t94_143 =>
  BND (pickv t87_137 (Value.bool true) t94_143) fun t95_144 =>
  COND t95_144
  (R (Value.bool false) w15)
  (BND (loadn 5 w15 r_117) fun t96_145 =>
  BND (storev 5 w15 t_13 t96_145) fun w16 =>
  BND (binv .int .add t32_24 (Value.int .i64 1)) fun t97_146 =>
  (J_18 t97_146 w16 ∧ m_18 t97_146 w16 < m_18 t32_24 w6))))
  (R (Value.bool true) w6)))))
def ann_tumbrellaw16_RootWhole : List (Nat × List Nat) := [(1000010, [32])]
theorem E_tumbrellaw16_RootWhole (L_p0 : Value) (w : World) (R : Value → World → Prop) : M_tumbrellaw16_RootWhole L_p0 w R = den PR ann_tumbrellaw16_RootWhole (bodyOf Try.f4) (retQ PR Try.f4.results.toList R) (env0 [L_p0]) w := by kernel_rfl
theorem C_tumbrellaw16_RootWhole {L_p0 : Value} {w : World} {R : Value → World → Prop} (h : M_tumbrellaw16_RootWhole L_p0 w R) : CALL PR F_tumbrellaw16_RootWhole [L_p0] w R :=
  call_of_den2 ann_tumbrellaw16_RootWhole Try.func4 (by kernel_rfl) (by kernel_rfl) (by kernel_rfl) ((E_tumbrellaw16_RootWhole L_p0 w R) ▸ h)


-- 5 tumbrel.tumbrellaw16.RootTurned
def M_tumbrellaw16_RootTurned (L_p0 i_p1 s_p2 t_p3 : Value) (w : World) (R : Value → World → Prop) : Prop :=
  NEW (newv 26 w L_p0) fun t4_1 w1 =>
  CALL PR F_tumbrellaw16_awake [] w1 fun t18_2 w2 =>
  BND (unv .not t18_2) fun t19_3 =>
  COND t19_3
  (R (Value.bool false) w2)
  (CALL PR F_disk_New [(Value.int .i64 1024)] w2 fun t21_4 w3 =>
  BND (extractv t21_4 0) fun t22_5 =>
  BND (extractv t21_4 1) fun t23_6 =>
  BND (binv .ptr .eql t22_5 (Value.pointer none)) fun t25_7 =>
  COND t25_7
  (R (Value.bool false) w3)
  (BND (loadn 5 w3 t4_1) fun t27_8 =>
  CALL PR F_root_Write [t22_5, t27_8] w3 fun t28_9 w4 =>
  BND (binv .int .neq t28_9 (Value.int .i64 0)) fun t29_10 =>
  COND t29_10
  (BND (loadn 5 w4 t4_1) fun t30_11 =>
  CALL PR F_root_Right [t30_11] w4 fun t31_12 w5 =>
  BND (unv .not t31_12) fun t32_13 =>
  R t32_13 w5)
  (CALL PR F_disk_Disk_Read [t22_5, (Value.string { data := #[114, 111, 111, 116] })] w4 fun t35_14 w6 =>
  BND (extractv t35_14 0) fun t36_15 =>
  BND (extractv t35_14 1) fun t37_16 =>
  CALL PR F_tumbrelref01_Turn [t36_15, i_p1, s_p2] w6 fun t41_17 w7 =>
  CALL PR F_disk_Disk_Cut [t22_5, (Value.string { data := #[114, 111, 111, 116] }), (Value.int .i64 0)] w7 fun t43_18 w8 =>
  BND (binv .int .neq t43_18 (Value.int .i64 0)) fun t44_19 =>
  BND (grd (isB t44_19 false) (some t22_5)) fun t46_20 =>
  BND (grd (isB t44_19 false) (some t41_17)) fun t47_21 =>
  GEF (isB t44_19 false) (fun k_ => CALL PR F_disk_Disk_Append [t46_20, (Value.string { data := #[114, 111, 111, 116] }), t47_21] w8 k_) w8 fun t48_22 w9 =>
  BND (grd (isB t44_19 false) (binv .int .neq t48_22 (Value.int .i64 0))) fun t49_23 =>
  BND (pickv t44_19 (Value.bool true) t49_23) fun t50_24 =>
  COND t50_24
  (R (Value.bool false) w9)
  (CALL PR F_root_Read [t22_5] w9 fun t53_25 w10 =>
  BND (extractv t53_25 0) fun t54_26 =>
  BND (extractv t53_25 1) fun t55_27 =>
  NEW (newv 26 w10 (Value.agg #[(Value.int .u64 0), (Value.int .i64 0), (Value.int .i64 0), (Value.int .i64 0), (Value.int .i64 0)])) fun t14_28 w11 =>
  BND (storev 5 w11 t14_28 t54_26) fun w12 =>
  CALL PR F_tumbrelref01_Same [t36_15, t41_17] w12 fun t58_29 w13 =>
  JOIN (α := World → Prop) (fun k_61 => COND t58_29
  (BND (binv .int .neq t55_27 (Value.int .i64 0)) fun t60_62 =>
  BND (grd (isB t60_62 false) (loadn 5 w13 t14_28)) fun t62_63 =>
  BND (grd (isB t60_62 false) (loadn 5 w13 t4_1)) fun t63_64 =>
  BND (grd (isB t60_62 false) (eqaggv [(0, (.int .u64)), (1, (.int .i64)), (2, (.int .i64)), (3, (.int .i64)), (4, (.int .i64))] .neq t62_63 t63_64)) fun t64_65 =>
  BND (pickv t60_62 (Value.bool true) t64_65) fun t65_66 =>
  COND t65_66
  (R (Value.bool false) w13)
  (k_61 w13))
  (BND (binv .int .neq t55_27 (Value.int .i64 8)) fun t67_67 =>
  BND (grd (isB t67_67 false) (loadn 5 w13 t14_28)) fun t69_68 =>
  BND (grd (isB t67_67 false) (buildv #[(Value.int .u64 0), (Value.int .i64 0), (Value.int .i64 0), (Value.int .i64 0), (Value.int .i64 0)] [])) fun t70_69 =>
  BND (grd (isB t67_67 false) (eqaggv [(0, (.int .u64)), (1, (.int .i64)), (2, (.int .i64)), (3, (.int .i64)), (4, (.int .i64))] .neq t69_68 t70_69)) fun t71_70 =>
  BND (pickv t67_67 (Value.bool true) t71_70) fun t72_71 =>
  COND t72_71
  (R (Value.bool false) w13)
  (k_61 w13)))
  (fun w14 => BND (binv .int .lss t_p3 (Value.int .i64 0)) fun t74_45 =>
  BND (grd (isB t74_45 false) (some t_p3)) fun t76_46 =>
  BND (grd (isB t74_45 false) (some t36_15)) fun t77_47 =>
  BND (grd (isB t74_45 false) (lenl t77_47)) fun t78_48 =>
  BND (grd (isB t74_45 false) (binv .int .geq t76_46 t78_48)) fun t79_49 =>
  BND (pickv t74_45 (Value.bool true) t79_49) fun t80_50 =>
  BND (grd (isB t80_50 false) (some t22_5)) fun t82_51 =>
  BND (grd (isB t80_50 false) (some t_p3)) fun t83_52 =>
  GEF (isB t80_50 false) (fun k_ => CALL PR F_disk_Disk_Cut [t82_51, (Value.string { data := #[114, 111, 111, 116] }), t83_52] w14 k_) w14 fun t84_53 w15 =>
  BND (grd (isB t80_50 false) (binv .int .neq t84_53 (Value.int .i64 0))) fun t85_54 =>
  BND (pickv t80_50 (Value.bool true) t85_54) fun t86_55 =>
  COND t86_55
  (R (Value.bool true) w15)
  (CALL PR F_root_Read [t22_5] w15 fun t89_56 w16 =>
  BND (extractv t89_56 0) fun t90_57 =>
  BND (extractv t89_56 1) fun t91_58 =>
  NEW (newv 26 w16 (Value.agg #[(Value.int .u64 0), (Value.int .i64 0), (Value.int .i64 0), (Value.int .i64 0), (Value.int .i64 0)])) fun t16_59 w17 =>
  BND (storev 5 w17 t16_59 t90_57) fun w18 =>
  BND (binv .int .neq t91_58 (Value.int .i64 0)) fun t93_60 =>
  R t93_60 w18))))))
def ann_tumbrellaw16_RootTurned : List (Nat × List Nat) := []
theorem E_tumbrellaw16_RootTurned (L_p0 i_p1 s_p2 t_p3 : Value) (w : World) (R : Value → World → Prop) : M_tumbrellaw16_RootTurned L_p0 i_p1 s_p2 t_p3 w R = den PR ann_tumbrellaw16_RootTurned (bodyOf Try.f5) (retQ PR Try.f5.results.toList R) (env0 [L_p0, i_p1, s_p2, t_p3]) w := by kernel_rfl
theorem C_tumbrellaw16_RootTurned {L_p0 i_p1 s_p2 t_p3 : Value} {w : World} {R : Value → World → Prop} (h : M_tumbrellaw16_RootTurned L_p0 i_p1 s_p2 t_p3 w R) : CALL PR F_tumbrellaw16_RootTurned [L_p0, i_p1, s_p2, t_p3] w R :=
  call_of_den2 ann_tumbrellaw16_RootTurned Try.func5 (by kernel_rfl) (by kernel_rfl) (by kernel_rfl) ((E_tumbrellaw16_RootTurned L_p0 i_p1 s_p2 t_p3 w R) ▸ h)


-- 6 tumbrel.tumbrellaw16.awake
def M_tumbrellaw16_awake (w : World) (R : Value → World → Prop) : Prop :=
  CALL PR F_disk_New [(Value.int .i64 200)] w fun t10_1 w1 =>
  BND (extractv t10_1 0) fun t11_2 =>
  BND (extractv t10_1 1) fun t12_3 =>
  BND (binv .ptr .eql t11_2 (Value.pointer none)) fun t14_4 =>
  COND t14_4
  (R (Value.bool false) w1)
  (CALL PR F_root_Read [t11_2] w1 fun t17_5 w2 =>
  BND (extractv t17_5 0) fun t18_6 =>
  BND (extractv t17_5 1) fun t19_7 =>
  NEW (newv 26 w2 (Value.agg #[(Value.int .u64 0), (Value.int .i64 0), (Value.int .i64 0), (Value.int .i64 0), (Value.int .i64 0)])) fun t3_8 w3 =>
  BND (storev 5 w3 t3_8 t18_6) fun w4 =>
  BND (buildv #[(Value.int .i64 0), (Value.int .i64 0), (Value.int .i64 0)] [(0, 1, (Value.int .i64 2)), (1, 1, (Value.int .i64 5)), (2, 1, (Value.int .i64 1))]) fun t20_9 =>
  BND (buildv #[(Value.int .u64 0), (Value.int .i64 0), (Value.int .i64 0), (Value.int .i64 0), (Value.int .i64 0)] [(0, 1, (Value.int .u64 3)), (1, 3, t20_9), (4, 1, (Value.int .i64 64))]) fun t21_10 =>
  NEW (newv 26 w4 (Value.agg #[(Value.int .u64 0), (Value.int .i64 0), (Value.int .i64 0), (Value.int .i64 0), (Value.int .i64 0)])) fun r_11 w5 =>
  BND (storev 5 w5 r_11 t21_10) fun w6 =>
  BND (loadn 5 w6 r_11) fun t23_12 =>
  CALL PR F_root_Write [t11_2, t23_12] w6 fun t24_13 w7 =>
  CALL PR F_disk_Disk_Crash [t11_2, (Value.int .i64 0), (Value.slice none 0 0)] w7 fun t26_14 w8 =>
  CALL PR F_root_Read [t11_2] w8 fun t29_15 w9 =>
  BND (extractv t29_15 0) fun t30_16 =>
  BND (extractv t29_15 1) fun t31_17 =>
  NEW (newv 26 w9 (Value.agg #[(Value.int .u64 0), (Value.int .i64 0), (Value.int .i64 0), (Value.int .i64 0), (Value.int .i64 0)])) fun s_18 w10 =>
  BND (storev 5 w10 s_18 t30_16) fun w11 =>
  BND (binv .int .eql t19_7 (Value.int .i64 5)) fun t33_19 =>
  BND (grd (isB t33_19 true) (some t24_13)) fun t35_20 =>
  BND (grd (isB t33_19 true) (binv .int .eql t35_20 (Value.int .i64 0))) fun t36_21 =>
  BND (pickv t33_19 t36_21 (Value.bool false)) fun t37_22 =>
  BND (grd (isB t37_22 true) (loadn 5 w11 s_18)) fun t39_23 =>
  BND (grd (isB t37_22 true) (loadn 5 w11 r_11)) fun t40_24 =>
  BND (grd (isB t37_22 true) (eqaggv [(0, (.int .u64)), (1, (.int .i64)), (2, (.int .i64)), (3, (.int .i64)), (4, (.int .i64))] .eql t39_23 t40_24)) fun t41_25 =>
  BND (pickv t37_22 t41_25 (Value.bool false)) fun t42_26 =>
  BND (grd (isB t42_26 true) (some t31_17)) fun t44_27 =>
  BND (grd (isB t42_26 true) (binv .int .eql t44_27 (Value.int .i64 0))) fun t45_28 =>
  BND (pickv t42_26 t45_28 (Value.bool false)) fun t46_29 =>
  BND (grd (isB t46_29 true) (loadn 5 w11 r_11)) fun t48_30 =>
  GEF (isB t46_29 true) (fun k_ => CALL PR F_root_Right [t48_30] w11 k_) w11 fun t49_31 w12 =>
  BND (pickv t46_29 t49_31 (Value.bool false)) fun t50_32 =>
  BND (grd (isB t50_32 true) (some t11_2)) fun t52_33 =>
  BND (grd (isB t50_32 true) (buildv #[(Value.int .u64 0), (Value.int .i64 0), (Value.int .i64 0), (Value.int .i64 0), (Value.int .i64 0)] [])) fun t53_34 =>
  GEF (isB t50_32 true) (fun k_ => CALL PR F_root_Write [t52_33, t53_34] w12 k_) w12 fun t54_35 w13 =>
  BND (grd (isB t50_32 true) (binv .int .eql t54_35 (Value.int .i64 1))) fun t55_36 =>
  BND (pickv t50_32 t55_36 (Value.bool false)) fun t56_37 =>
  R t56_37 w13)
def ann_tumbrellaw16_awake : List (Nat × List Nat) := []
theorem E_tumbrellaw16_awake (w : World) (R : Value → World → Prop) : M_tumbrellaw16_awake w R = den PR ann_tumbrellaw16_awake (bodyOf Try.f6) (retQ PR Try.f6.results.toList R) (env0 []) w := by kernel_rfl
theorem C_tumbrellaw16_awake {w : World} {R : Value → World → Prop} (h : M_tumbrellaw16_awake w R) : CALL PR F_tumbrellaw16_awake [] w R :=
  call_of_den2 ann_tumbrellaw16_awake Try.func6 (by kernel_rfl) (by kernel_rfl) (by kernel_rfl) ((E_tumbrellaw16_awake w R) ▸ h)


-- 7 tumbrel.disk.New
def M_disk_New (room_p0 : Value) (w : World) (R : Value → World → Prop) : Prop :=
  BND (binv .int .lss room_p0 (Value.int .i64 16)) fun t5_1 =>
  BND (grd (isB t5_1 false) (some room_p0)) fun t7_2 =>
  BND (grd (isB t5_1 false) (binv .int .gtr t7_2 (Value.int .i64 1048576))) fun t8_3 =>
  BND (pickv t5_1 (Value.bool true) t8_3) fun t9_4 =>
  COND t9_4
  (R (.tuple #[(Value.pointer none), (Value.int .i64 1)]) w)
  (NEW (newmap w) fun t11_5 w1 =>
  BND (buildv #[(Value.int .i64 0), (Value.map none), (Value.slice none 0 0), (Value.int .i64 0), (Value.bool false)] [(0, 1, room_p0), (1, 1, t11_5), (3, 1, (Value.int .i64 (-1)))]) fun t12_6 =>
  NEW (newv 57 w1 t12_6) fun t13_7 w2 =>
  R (.tuple #[t13_7, (Value.int .i64 0)]) w2)
def ann_disk_New : List (Nat × List Nat) := []
theorem E_disk_New (room_p0 : Value) (w : World) (R : Value → World → Prop) : M_disk_New room_p0 w R = den PR ann_disk_New (bodyOf Try.f7) (retQ PR Try.f7.results.toList R) (env0 [room_p0]) w := by kernel_rfl
theorem C_disk_New {room_p0 : Value} {w : World} {R : Value → World → Prop} (h : M_disk_New room_p0 w R) : CALL PR F_disk_New [room_p0] w R :=
  call_of_den2 ann_disk_New Try.func7 (by kernel_rfl) (by kernel_rfl) (by kernel_rfl) ((E_disk_New room_p0 w R) ▸ h)


-- 8 tumbrel.root.Write
def M_root_Write (d_p0 r_p1 : Value) (w : World) (R : Value → World → Prop) : Prop :=
  NEW (newv 28 w d_p0) fun d_1 w1 =>
  NEW (newv 26 w1 r_p1) fun r_2 w2 =>
  BND (loadn 5 w2 r_2) fun t8_3 =>
  CALL PR F_root_Right [t8_3] w2 fun t9_4 w3 =>
  BND (unv .not t9_4) fun t10_5 =>
  COND t10_5
  (R (Value.int .i64 1) w3)
  (BND (faddr 1 r_2) fun t11_6 =>
  BND (loadn 3 w3 t11_6) fun t12_7 =>
  NEW (newv 24 w3 (Value.agg #[(Value.int .i64 0), (Value.int .i64 0), (Value.int .i64 0)])) fun c_8 w4 =>
  BND (storev 3 w4 c_8 t12_7) fun w5 =>
  BND (faddr 0 r_2) fun t14_9 =>
  BND (load1 w5 t14_9) fun t15_10 =>
  BND (faddr 0 c_8) fun t16_11 =>
  BND (load1 w5 t16_11) fun t17_12 =>
  BND (convi .u64 t17_12) fun t18_13 =>
  BND (faddr 1 c_8) fun t19_14 =>
  BND (load1 w5 t19_14) fun t20_15 =>
  BND (convi .u64 t20_15) fun t21_16 =>
  BND (faddr 2 c_8) fun t22_17 =>
  BND (load1 w5 t22_17) fun t23_18 =>
  BND (convi .u64 t23_18) fun t24_19 =>
  BND (faddr 4 r_2) fun t25_20 =>
  BND (load1 w5 t25_20) fun t26_21 =>
  BND (convi .u64 t26_21) fun t27_22 =>
  BND (newslice 22 #[(Value.int .u64 0)] 1 5 [(0, 1, t15_10), (1, 1, t18_13), (2, 1, t21_16), (3, 1, t24_19), (4, 1, t27_22)] w5) fun p_ => NEW p_ fun t28_23 w6 =>
  BND (buildv #[(Value.int .i64 0), (Value.slice none 0 0), (Value.string ByteArray.empty)] [(0, 1, (Value.int .i64 12)), (1, 1, t28_23)]) fun t29_24 =>
  CALL PR F_record_Bytes [t29_24] w6 fun t30_25 w7 =>
  BND (extractv t30_25 0) fun t31_26 =>
  BND (extractv t30_25 1) fun t32_27 =>
  NEW (newv 39 w7 (Value.slice none 0 0)) fun b_28 w8 =>
  BND (storev 1 w8 b_28 t31_26) fun w9 =>
  BND (binv .int .neq t32_27 (Value.int .i64 0)) fun t34_29 =>
  COND t34_29
  (R t32_27 w9)
  (BND (load1 w9 d_1) fun t41_30 =>
  BND (newslice 67 #[Value.nilFunc] 1 6 [(0, 1, (Value.func (.func F_root_Write_1) #[] #[d_1])), (1, 1, (Value.func (.func F_root_Write_2) #[] #[d_1])), (2, 1, (Value.func (.func F_root_Write_3) #[] #[d_1, b_28])), (3, 1, (Value.func (.func F_root_Write_4) #[] #[d_1])), (4, 1, (Value.func (.func F_root_Write_5) #[] #[d_1])), (5, 1, (Value.func (.func F_disk_Disk_DirSync) #[t41_30] #[]))] w9) fun p_ => NEW p_ fun t43_31 w10 =>
  CALL PR F_root_each [t43_31] w10 fun t44_32 w11 =>
  R t44_32 w11))
def ann_root_Write : List (Nat × List Nat) := []
theorem E_root_Write (d_p0 r_p1 : Value) (w : World) (R : Value → World → Prop) : M_root_Write d_p0 r_p1 w R = den PR ann_root_Write (bodyOf Try.f8) (retQ PR Try.f8.results.toList R) (env0 [d_p0, r_p1]) w := by kernel_rfl
theorem C_root_Write {d_p0 r_p1 : Value} {w : World} {R : Value → World → Prop} (h : M_root_Write d_p0 r_p1 w R) : CALL PR F_root_Write [d_p0, r_p1] w R :=
  call_of_den2 ann_root_Write Try.func8 (by kernel_rfl) (by kernel_rfl) (by kernel_rfl) ((E_root_Write d_p0 r_p1 w R) ▸ h)


-- 9 tumbrel.root.Read
def M_root_Read (L_p0 : Value) (w : World) (R : Value → World → Prop) : Prop :=
  NEW (newv 26 w (Value.agg #[(Value.int .u64 0), (Value.int .i64 0), (Value.int .i64 0), (Value.int .i64 0), (Value.int .i64 0)])) fun s_1 w1 =>
  CALL PR F_disk_Disk_Read [L_p0, (Value.string { data := #[114, 111, 111, 116] })] w1 fun t14_2 w2 =>
  BND (extractv t14_2 0) fun t15_3 =>
  BND (extractv t14_2 1) fun t16_4 =>
  BND (binv .int .neq t16_4 (Value.int .i64 0)) fun t18_5 =>
  COND t18_5
  (BND (buildv #[(Value.int .u64 0), (Value.int .i64 0), (Value.int .i64 0), (Value.int .i64 0), (Value.int .i64 0)] []) fun t19_6 =>
  BND (storev 5 w2 s_1 t19_6) fun w3 =>
  BND (loadn 5 w3 s_1) fun r_7 =>
  R (.tuple #[r_7, t16_4]) w3)
  (CALL PR F_record_All [t15_3] w2 fun t23_8 w4 =>
  BND (extractv t23_8 0) fun t24_9 =>
  BND (extractv t23_8 1) fun t25_10 =>
  BND (extractv t23_8 2) fun t26_11 =>
  BND (binv .int .neq t26_11 (Value.int .i64 0)) fun t29_12 =>
  COND t29_12
  (BND (buildv #[(Value.int .u64 0), (Value.int .i64 0), (Value.int .i64 0), (Value.int .i64 0), (Value.int .i64 0)] []) fun t30_13 =>
  BND (storev 5 w4 s_1 t30_13) fun w5 =>
  BND (loadn 5 w5 s_1) fun r_14 =>
  R (.tuple #[r_14, t26_11]) w5)
  (BND (lenl t24_9) fun t34_15 =>
  BND (binv .int .neq t34_15 (Value.int .i64 1)) fun t35_16 =>
  BND (grd (isB t35_16 false) (some t24_9)) fun t37_17 =>
  BND (grd (isB t35_16 false) (iaddr 3 t37_17 (Value.int .i64 0))) fun t38_18 =>
  BND (grd (isB t35_16 false) (faddr 0 t38_18)) fun t39_19 =>
  BND (grd (isB t35_16 false) (load1 w4 t39_19)) fun t40_20 =>
  BND (grd (isB t35_16 false) (binv .int .neq t40_20 (Value.int .i64 12))) fun t41_21 =>
  BND (pickv t35_16 (Value.bool true) t41_21) fun t42_22 =>
  COND t42_22
  (BND (buildv #[(Value.int .u64 0), (Value.int .i64 0), (Value.int .i64 0), (Value.int .i64 0), (Value.int .i64 0)] []) fun t43_23 =>
  BND (storev 5 w4 s_1 t43_23) fun w6 =>
  BND (loadn 5 w6 s_1) fun r_24 =>
  R (.tuple #[r_24, (Value.int .i64 2)]) w6)
  (NEW (newv 72 w4 (Value.agg #[(Value.int .i64 0), (Value.int .i64 0), (Value.int .i64 0), (Value.int .i64 0), (Value.int .i64 0)])) fun r_25 w7 =>
  BND (iaddr 3 t24_9 (Value.int .i64 0)) fun t45_26 =>
  BND (faddr 1 t45_26) fun t46_27 =>
  BND (load1 w7 t46_27) fun t47_28 =>
  BND (lenl t47_28) fun t48_29 =>
  ∃ (J_30 : Value → World → Prop) (m_30 : Value → World → Nat), J_30 (Value.int .i64 0) w7 ∧ ∀ (_d_30 : Env) (t49_33 : Value) (w8 : World), J_30 t49_33 w8 →
  (BND (binv .int .lss t49_33 t48_29) fun t50_44 =>
  COND t50_44
  (BND (iaddr 1 t47_28 t49_33) fun t52_45 =>
  BND (load1 w8 t52_45) fun t53_46 =>
  BND (min2v t53_46 (Value.int .u64 1048576)) fun t56_47 =>
  BND (convi .i64 t56_47) fun t57_48 =>
  BND (iaddra 5 1 r_25 t49_33) fun t58_49 =>
  BND (storev 1 w8 t58_49 t57_48) fun w9 =>
  BND (binv .int .add t49_33 (Value.int .i64 1)) fun t59_50 =>
  (J_30 t59_50 w9 ∧ m_30 t59_50 w9 < m_30 t49_33 w8))
  (∃ S_51 : Nat → World → Prop,
  S_51 3 w8.drew ∧
  S_51 5 w8.drew ∧
  S_51 7 w8.drew ∧
  S_51 9 w8.drew ∧
  S_51 11 w8.drew ∧
  S_51 14 w8.drew ∧
  BND (iaddr 3 t24_9 (Value.int .i64 0)) fun t61_52 =>
  BND (faddr 1 t61_52) fun t62_53 =>
  FLT (S_51 3) (fun w_ => load1 w_ t62_53) fun t63_54 =>
  BND (iaddr 1 t63_54 (Value.int .i64 0)) fun t64_55 =>
  FLT (S_51 5) (fun w_ => load1 w_ t64_55) fun t65_56 =>
  BND (iaddra 5 1 r_25 (Value.int .i64 1)) fun t66_57 =>
  FLT (S_51 7) (fun w_ => load1 w_ t66_57) fun t67_58 =>
  BND (iaddra 5 1 r_25 (Value.int .i64 2)) fun t68_59 =>
  FLT (S_51 9) (fun w_ => load1 w_ t68_59) fun t69_60 =>
  BND (iaddra 5 1 r_25 (Value.int .i64 3)) fun t70_61 =>
  FLT (S_51 11) (fun w_ => load1 w_ t70_61) fun t71_62 =>
  BND (buildv #[(Value.int .i64 0), (Value.int .i64 0), (Value.int .i64 0)] [(0, 1, t67_58), (1, 1, t69_60), (2, 1, t71_62)]) fun t72_63 =>
  BND (iaddra 5 1 r_25 (Value.int .i64 4)) fun t73_64 =>
  FLT (S_51 14) (fun w_ => load1 w_ t73_64) fun t74_65 =>
  BND (buildv #[(Value.int .u64 0), (Value.int .i64 0), (Value.int .i64 0), (Value.int .i64 0), (Value.int .i64 0)] [(0, 1, t65_56), (1, 3, t72_63), (4, 1, t74_65)]) fun t75_66 =>
  NEW (newv 26 w8.drew (Value.agg #[(Value.int .u64 0), (Value.int .i64 0), (Value.int .i64 0), (Value.int .i64 0), (Value.int .i64 0)])) fun y_67 w10 =>
  S_51 3 w10 ∧
  S_51 5 w10 ∧
  S_51 7 w10 ∧
  S_51 9 w10 ∧
  S_51 11 w10 ∧
  S_51 14 w10 ∧
  BND (storev 5 w10 y_67 t75_66) fun w11 =>
  BND (loadn 5 w11 y_67) fun t76_68 =>
  CALL PR F_root_Right [t76_68] w11 fun t77_69 w12 =>
  BND (unv .not t77_69) fun t78_70 =>
  COND t78_70
  (BND (buildv #[(Value.int .u64 0), (Value.int .i64 0), (Value.int .i64 0), (Value.int .i64 0), (Value.int .i64 0)] []) fun t79_71 =>
  BND (storev 5 w12 s_1 t79_71) fun w13 =>
  BND (loadn 5 w13 s_1) fun r_72 =>
  R (.tuple #[r_72, (Value.int .i64 2)]) w13)
  (BND (loadn 5 w12 y_67) fun t80_73 =>
  BND (storev 5 w12 s_1 t80_73) fun w14 =>
  BND (loadn 5 w14 s_1) fun r_74 =>
  R (.tuple #[r_74, (Value.int .i64 0)]) w14))))))
def ann_root_Read : List (Nat × List Nat) := [(15, [0, 1, 2, 3, 4, 5, 6, 7, 8, 9, 10, 11, 12, 13, 14, 15, 16, 17]), (1000011, [49]), (2000015, [3, 5, 7, 9, 11, 14]), (3015016, [3, 5, 7, 9, 11, 14])]
theorem E_root_Read (L_p0 : Value) (w : World) (R : Value → World → Prop) : M_root_Read L_p0 w R = den PR ann_root_Read (bodyOf Try.f9) (retQ PR Try.f9.results.toList R) (env0 [L_p0]) w := by kernel_rfl
theorem C_root_Read {L_p0 : Value} {w : World} {R : Value → World → Prop} (h : M_root_Read L_p0 w R) : CALL PR F_root_Read [L_p0] w R :=
  call_of_den2 ann_root_Read Try.func9 (by kernel_rfl) (by kernel_rfl) (by kernel_rfl) ((E_root_Read L_p0 w R) ▸ h)


-- 10 tumbrel.root.Right
def M_root_Right (r_p0 : Value) (w : World) (R : Value → World → Prop) : Prop :=
  NEW (newv 26 w r_p0) fun r_1 w1 =>
  BND (faddr 1 r_1) fun t3_2 =>
  BND (loadn 3 w1 t3_2) fun t4_3 =>
  CALL PR F_index_Right [t4_3] w1 fun t5_4 w2 =>
  BND (grd (isB t5_4 true) (faddr 0 r_1)) fun t7_5 =>
  BND (grd (isB t5_4 true) (load1 w2 t7_5)) fun t8_6 =>
  BND (grd (isB t5_4 true) (binv .int .geq t8_6 (Value.int .u64 1))) fun t9_7 =>
  BND (pickv t5_4 t9_7 (Value.bool false)) fun t10_8 =>
  BND (grd (isB t10_8 true) (faddr 0 r_1)) fun t12_9 =>
  BND (grd (isB t10_8 true) (load1 w2 t12_9)) fun t13_10 =>
  BND (grd (isB t10_8 true) (binv .int .lss t13_10 (Value.int .u64 10000000000))) fun t14_11 =>
  BND (pickv t10_8 t14_11 (Value.bool false)) fun t15_12 =>
  BND (grd (isB t15_12 true) (faddr 4 r_1)) fun t17_13 =>
  BND (grd (isB t15_12 true) (load1 w2 t17_13)) fun t18_14 =>
  BND (grd (isB t15_12 true) (binv .int .geq t18_14 (Value.int .i64 64))) fun t19_15 =>
  BND (pickv t15_12 t19_15 (Value.bool false)) fun t20_16 =>
  BND (grd (isB t20_16 true) (faddr 4 r_1)) fun t22_17 =>
  BND (grd (isB t20_16 true) (load1 w2 t22_17)) fun t23_18 =>
  BND (grd (isB t20_16 true) (binv .int .leq t23_18 (Value.int .i64 65536))) fun t24_19 =>
  BND (pickv t20_16 t24_19 (Value.bool false)) fun t25_20 =>
  R t25_20 w2
def ann_root_Right : List (Nat × List Nat) := []
theorem E_root_Right (r_p0 : Value) (w : World) (R : Value → World → Prop) : M_root_Right r_p0 w R = den PR ann_root_Right (bodyOf Try.f10) (retQ PR Try.f10.results.toList R) (env0 [r_p0]) w := by kernel_rfl
theorem C_root_Right {r_p0 : Value} {w : World} {R : Value → World → Prop} (h : M_root_Right r_p0 w R) : CALL PR F_root_Right [r_p0] w R :=
  call_of_den2 ann_root_Right Try.func10 (by kernel_rfl) (by kernel_rfl) (by kernel_rfl) ((E_root_Right r_p0 w R) ▸ h)


-- 11 (*tumbrel.disk.Disk).Fuse
def M_disk_Disk_Fuse (d_p0 n_p1 : Value) (w : World) (R : Value → World → Prop) : Prop :=
  BND (max2v n_p1 (Value.int .i64 (-1))) fun t6_1 =>
  BND (nilchk d_p0) fun t7_2 =>
  BND (faddr 3 t7_2) fun t8_3 =>
  BND (storev 1 w t8_3 t6_1) fun w1 =>
  R (.tuple #[]) w1
def ann_disk_Disk_Fuse : List (Nat × List Nat) := []
theorem E_disk_Disk_Fuse (d_p0 n_p1 : Value) (w : World) (R : Value → World → Prop) : M_disk_Disk_Fuse d_p0 n_p1 w R = den PR ann_disk_Disk_Fuse (bodyOf Try.f11) (retQ PR Try.f11.results.toList R) (env0 [d_p0, n_p1]) w := by kernel_rfl
theorem C_disk_Disk_Fuse {d_p0 n_p1 : Value} {w : World} {R : Value → World → Prop} (h : M_disk_Disk_Fuse d_p0 n_p1 w R) : CALL PR F_disk_Disk_Fuse [d_p0, n_p1] w R :=
  call_of_den2 ann_disk_Disk_Fuse Try.func11 (by kernel_rfl) (by kernel_rfl) (by kernel_rfl) ((E_disk_Disk_Fuse d_p0 n_p1 w R) ▸ h)


-- 12 (*tumbrel.disk.Disk).Crash
def M_disk_Disk_Crash (L_p0 i_p1 s_p2 : Value) (w : World) (R : Value → World → Prop) : Prop :=
  BND (nilchk L_p0) fun t12_1 =>
  BND (faddr 2 t12_1) fun t13_2 =>
  BND (load1 w t13_2) fun t14_3 =>
  BND (lenl t14_3) fun t15_4 =>
  BND (min2v i_p1 t15_4) fun t16_5 =>
  BND (binv .int .gtr t16_5 (Value.int .i64 0)) fun t18_6 =>
  JOIN (α := World → Prop) (fun k_145 => COND t18_6
  (BND (nilchk L_p0) fun t21_146 =>
  BND (faddr 2 t21_146) fun t22_147 =>
  BND (load1 w t22_147) fun t23_148 =>
  BND (binv .int .sub t16_5 (Value.int .i64 1)) fun t25_149 =>
  BND (iaddr 1 t23_148 t25_149) fun t26_150 =>
  BND (load1 w t26_150) fun t27_151 =>
  BND (nilchk L_p0) fun t28_152 =>
  BND (faddr 1 t28_152) fun t29_153 =>
  BND (storev 1 w t29_153 t27_151) fun w11 =>
  k_145 w11)
  (k_145 w))
  (fun w1 => BND (nilchk L_p0) fun t33_18 =>
  BND (faddr 2 t33_18) fun t34_19 =>
  BND (storev 1 w1 t34_19 (Value.slice none 0 0)) fun w2 =>
  BND (nilchk L_p0) fun t35_20 =>
  BND (faddr 3 t35_20) fun t36_21 =>
  BND (storev 1 w2 t36_21 (Value.int .i64 (-1))) fun w3 =>
  BND (nilchk L_p0) fun t37_22 =>
  BND (faddr 4 t37_22) fun t38_23 =>
  BND (storev 1 w3 t38_23 (Value.bool false)) fun w4 =>
  BND (nilchk L_p0) fun t40_24 =>
  BND (faddr 1 t40_24) fun t41_25 =>
  BND (load1 w4 t41_25) fun t42_26 =>
  CALL PR F_maps_Keys_file [t42_26] w4 fun t43_27 w5 =>
  CALL PR F_slices_Sorted_string [t43_27] w5 fun t44_28 w6 =>
  BND (lenl t44_28) fun t45_29 =>
  ∃ (J_30 : Value → World → Prop) (m_30 : Value → World → Nat), J_30 (Value.int .i64 0) w6 ∧ ∀ (_d_30 : Env) (t46_35 : Value) (w7 : World), J_30 t46_35 w7 →
  (BND (binv .int .lss t46_35 t45_29) fun t47_89 =>
  COND t47_89
  (BND (iaddr 1 t44_28 t46_35) fun t49_90 =>
  BND (load1 w7 t49_90) fun t50_91 =>
  BND (nilchk L_p0) fun t52_92 =>
  BND (faddr 1 t52_92) fun t53_93 =>
  BND (load1 w7 t53_93) fun t54_94 =>
  BND (lookv .string (Value.pointer none) false w7 t54_94 t50_91) fun t56_95 =>
  BND (lenl s_p2) fun t59_96 =>
  BND (binv .int .lss t46_35 t59_96) fun t60_97 =>
  JOIN (α := Value → World → Prop) (fun k_132 => COND t60_97
  (BND (iaddr 1 s_p2 t46_35) fun t63_133 =>
  BND (nilchk t56_95) fun t67_134 =>
  BND (faddr 0 t67_134) fun t68_135 =>
  BND (nilchk t56_95) fun t72_136 =>
  BND (faddr 1 t72_136) fun t73_137 =>
  BND (load1 w7.drew t63_133) fun t64_138 =>
  BND (max2v t64_138 (Value.int .i64 0)) fun t65_139 =>
  BND (load1 w7.drew t68_135) fun t69_140 =>
  BND (lenl t69_140) fun t70_141 =>
  BND (load1 w7.drew t73_137) fun t74_142 =>
  BND (binv .int .sub t70_141 t74_142) fun t75_143 =>
  BND (min2v t65_139 t75_143) fun t76_144 =>
  k_132 t76_144 w7.drew)
  (k_132 (Value.int .i64 0) w7))
  (fun r_98 w8 => BND (nilchk t56_95) fun t79_115 =>
  BND (faddr 0 t79_115) fun t80_116 =>
  BND (nilchk t56_95) fun t83_117 =>
  BND (faddr 1 t83_117) fun t84_118 =>
  BND (load1 w8.drew t80_116) fun t81_119 =>
  BND (load1 w8.drew t84_118) fun t85_120 =>
  BND (binv .int .add t85_120 r_98) fun t87_121 =>
  BND (slicev 1 t81_119 none (some t87_121)) fun t88_122 =>
  BND (nilchk t56_95) fun t89_123 =>
  BND (faddr 0 t89_123) fun t90_124 =>
  BND (storev 1 w8.drew t90_124 t88_122) fun w9 =>
  BND (nilchk t56_95) fun t93_125 =>
  BND (faddr 0 t93_125) fun t94_126 =>
  BND (load1 w9 t94_126) fun t95_127 =>
  BND (lenl t95_127) fun t96_128 =>
  BND (nilchk t56_95) fun t97_129 =>
  BND (faddr 1 t97_129) fun t98_130 =>
  BND (storev 1 w9 t98_130 t96_128) fun w10 =>
  BND (binv .int .add t46_35 (Value.int .i64 1)) fun t99_131 =>
  (J_30 t99_131 w10 ∧ m_30 t99_131 w10 < m_30 t46_35 w7)))
  (R (.tuple #[]) w7)))
def ann_disk_Disk_Crash : List (Nat × List Nat) := [(10, [0, 1, 2, 5, 6, 7, 10, 11, 12, 3, 4, 8, 9, 13, 14, 15, 16]), (11, [0, 1, 2, 3, 5, 6, 7, 9, 4, 8, 10, 11, 12, 13, 14]), (1000005, [46])]
theorem E_disk_Disk_Crash (L_p0 i_p1 s_p2 : Value) (w : World) (R : Value → World → Prop) : M_disk_Disk_Crash L_p0 i_p1 s_p2 w R = den PR ann_disk_Disk_Crash (bodyOf Try.f12) (retQ PR Try.f12.results.toList R) (env0 [L_p0, i_p1, s_p2]) w := by kernel_rfl
theorem C_disk_Disk_Crash {L_p0 i_p1 s_p2 : Value} {w : World} {R : Value → World → Prop} (h : M_disk_Disk_Crash L_p0 i_p1 s_p2 w R) : CALL PR F_disk_Disk_Crash [L_p0, i_p1, s_p2] w R :=
  call_of_den2 ann_disk_Disk_Crash Try.func12 (by kernel_rfl) (by kernel_rfl) (by kernel_rfl) ((E_disk_Disk_Crash L_p0 i_p1 s_p2 w R) ▸ h)


-- 13 (*tumbrel.disk.Disk).Read
def M_disk_Disk_Read (d_p0 name_p1 : Value) (w : World) (R : Value → World → Prop) : Prop :=
  BND (nilchk d_p0) fun t8_1 =>
  BND (faddr 4 t8_1) fun t9_2 =>
  BND (load1 w t9_2) fun t10_3 =>
  COND t10_3
  (R (.tuple #[(Value.slice none 0 0), (Value.int .i64 7)]) w)
  (CALL PR F_disk_Disk_there [d_p0, name_p1] w fun t13_4 w1 =>
  BND (binv .int .neq t13_4 (Value.int .i64 0)) fun t15_5 =>
  COND t15_5
  (R (.tuple #[(Value.slice none 0 0), t13_4]) w1)
  (CALL PR F_disk_Disk_now [d_p0] w1 fun t18_6 w2 =>
  BND (lookv .string (Value.pointer none) false w2 t18_6 name_p1) fun t20_7 =>
  BND (nilchk t20_7) fun t21_8 =>
  BND (faddr 0 t21_8) fun t22_9 =>
  BND (load1 w2 t22_9) fun t23_10 =>
  CALL PR F_slices_Clone_byte_byte [t23_10] w2 fun t24_11 w3 =>
  R (.tuple #[t24_11, (Value.int .i64 0)]) w3))
def ann_disk_Disk_Read : List (Nat × List Nat) := []
theorem E_disk_Disk_Read (d_p0 name_p1 : Value) (w : World) (R : Value → World → Prop) : M_disk_Disk_Read d_p0 name_p1 w R = den PR ann_disk_Disk_Read (bodyOf Try.f13) (retQ PR Try.f13.results.toList R) (env0 [d_p0, name_p1]) w := by kernel_rfl
theorem C_disk_Disk_Read {d_p0 name_p1 : Value} {w : World} {R : Value → World → Prop} (h : M_disk_Disk_Read d_p0 name_p1 w R) : CALL PR F_disk_Disk_Read [d_p0, name_p1] w R :=
  call_of_den2 ann_disk_Disk_Read Try.func13 (by kernel_rfl) (by kernel_rfl) (by kernel_rfl) ((E_disk_Disk_Read d_p0 name_p1 w R) ▸ h)


-- 14 tumbrel.tumbrelref01.Turn
def M_tumbrelref01_Turn (b_p0 at_p1 turn_p2 : Value) (w : World) (R : Value → World → Prop) : Prop :=
  BND (newslice 5 #[(Value.int .u8 0)] 1 0 [] w) fun p_ => NEW p_ fun t12_1 w1 =>
  APPEND 5 1 1 (Value.int .u8 0) t12_1 b_p0 w1 fun t14_2 w2 =>
  ∃ (J_3 : Value → Value → World → Prop) (m_3 : Value → Value → World → Nat), J_3 turn_p2 (Value.int .i64 0) w2 ∧ ∀ (_d_3 : Env) (turn_4 i_5 : Value) (w3 : World), J_3 turn_4 i_5 w3 →
  (BND (binv .int .lss i_5 (Value.int .i64 32)) fun t16_51 =>
  COND t16_51
  (BND (binv .int .add at_p1 i_5) fun t21_52 =>
  BND (binv .int .rem turn_4 (Value.int .u32 2)) fun t23_53 =>
  BND (binv .int .eql t23_53 (Value.int .u32 1)) fun t24_54 =>
  BND (grd (isB t24_54 true) (some t21_52)) fun t26_55 =>
  BND (grd (isB t24_54 true) (binv .int .geq t26_55 (Value.int .i64 0))) fun t27_56 =>
  BND (pickv t24_54 t27_56 (Value.bool false)) fun t28_57 =>
  BND (grd (isB t28_57 true) (some t21_52)) fun t30_58 =>
  BND (grd (isB t28_57 true) (some t14_2)) fun t31_59 =>
  BND (grd (isB t28_57 true) (lenl t31_59)) fun t32_60 =>
  BND (grd (isB t28_57 true) (binv .int .mul (Value.int .i64 8) t32_60)) fun t33_61 =>
  BND (grd (isB t28_57 true) (binv .int .lss t30_58 t33_61)) fun t34_62 =>
  BND (pickv t28_57 t34_62 (Value.bool false)) fun t35_63 =>
  JOIN (α := World → Prop) (fun k_87 => COND t35_63
  (∃ (J_88 : Value → Value → World → Prop) (m_88 : Value → Value → World → Nat), J_88 (Value.int .u8 1) (Value.int .i64 0) w3 ∧ ∀ (_d_88 : Env) (bit_89 j_90 : Value) (w5 : World), J_88 bit_89 j_90 w5 →
  (BND (binv .int .rem t21_52 (Value.int .i64 8)) fun t38_99 =>
  BND (binv .int .lss j_90 t38_99) fun t39_100 =>
  COND t39_100
  (BND (binv .int .mul (Value.int .u8 2) bit_89) fun t43_101 =>
  BND (binv .int .add j_90 (Value.int .i64 1)) fun t41_102 =>
  (J_88 t43_101 t41_102 w5 ∧ m_88 t43_101 t41_102 w5 < m_88 bit_89 j_90 w5))
  (BND (binv .int .quo t21_52 (Value.int .i64 8)) fun t46_103 =>
  BND (binv .int .quo t21_52 (Value.int .i64 8)) fun t49_104 =>
  BND (iaddr 1 t14_2 t49_104) fun t50_105 =>
  BND (load1 w5 t50_105) fun t51_106 =>
  BND (binv .int .xor t51_106 bit_89) fun t53_107 =>
  BND (iaddr 1 t14_2 t46_103) fun t54_108 =>
  BND (storev 1 w5 t54_108 t53_107) fun w6 =>
  k_87 w6)))
  (k_87 w3))
  (fun w4 => BND (binv .int .quo turn_4 (Value.int .u32 2)) fun t56_85 =>
  BND (binv .int .add i_5 (Value.int .i64 1)) fun t18_86 =>
  (J_3 t56_85 t18_86 w4 ∧ m_3 t56_85 t18_86 w4 < m_3 turn_4 i_5 w3)))
  (R t14_2 w3))
def ann_tumbrelref01_Turn : List (Nat × List Nat) := [(1000003, [2, 8]), (1000009, [10, 11])]
theorem E_tumbrelref01_Turn (b_p0 at_p1 turn_p2 : Value) (w : World) (R : Value → World → Prop) : M_tumbrelref01_Turn b_p0 at_p1 turn_p2 w R = den PR ann_tumbrelref01_Turn (bodyOf Try.f14) (retQ PR Try.f14.results.toList R) (env0 [b_p0, at_p1, turn_p2]) w := by kernel_rfl
theorem C_tumbrelref01_Turn {b_p0 at_p1 turn_p2 : Value} {w : World} {R : Value → World → Prop} (h : M_tumbrelref01_Turn b_p0 at_p1 turn_p2 w R) : CALL PR F_tumbrelref01_Turn [b_p0, at_p1, turn_p2] w R :=
  call_of_den2 ann_tumbrelref01_Turn Try.func14 (by kernel_rfl) (by kernel_rfl) (by kernel_rfl) ((E_tumbrelref01_Turn b_p0 at_p1 turn_p2 w R) ▸ h)


-- 15 (*tumbrel.disk.Disk).Cut
def M_disk_Disk_Cut (d_p0 name_p1 n_p2 : Value) (w : World) (R : Value → World → Prop) : Prop :=
  CALL PR F_disk_Disk_there [d_p0, name_p1] w fun t11_1 w1 =>
  BND (binv .int .eql t11_1 (Value.int .i64 0)) fun t13_2 =>
  BND (grd (isB t13_2 true) (some n_p2)) fun t15_3 =>
  BND (grd (isB t13_2 true) (binv .int .lss t15_3 (Value.int .i64 0))) fun t16_4 =>
  BND (grd (isB t13_2 true) (some t16_4)) fun t17_5 =>
  BND (grd (isB t17_5 false) (some n_p2)) fun t18_6 =>
  BND (grd (isB t17_5 false) (some d_p0)) fun t19_7 =>
  GEF (isB t17_5 false) (fun k_ => CALL PR F_disk_Disk_now [t19_7] w1 k_) w1 fun t20_8 w2 =>
  BND (grd (isB t17_5 false) (some name_p1)) fun t21_9 =>
  BND (grd (isB t17_5 false) (lookv .string (Value.pointer none) false w2 t20_8 t21_9)) fun t22_10 =>
  BND (grd (isB t17_5 false) (nilchk t22_10)) fun t23_11 =>
  BND (grd (isB t17_5 false) (faddr 0 t23_11)) fun t24_12 =>
  BND (grd (isB t17_5 false) (load1 w2 t24_12)) fun t25_13 =>
  BND (grd (isB t17_5 false) (lenl t25_13)) fun t26_14 =>
  BND (grd (isB t17_5 false) (binv .int .gtr t18_6 t26_14)) fun t27_15 =>
  BND (grd (isB t13_2 true) (pickv t17_5 (Value.bool true) t27_15)) fun t28_16 =>
  BND (pickv t13_2 t28_16 (Value.bool false)) fun t29_17 =>
  JOIN (α := Value → World → Prop) (fun k_59 => COND t29_17
  (k_59 (Value.int .i64 1) w2)
  (k_59 t11_1 w2))
  (fun e_18 w3 => CALL PR F_disk_Disk_can [d_p0, e_18] w3 fun t32_19 w4 =>
  BND (binv .int .eql t32_19 (Value.int .i64 0)) fun t34_20 =>
  JOIN (α := World → Prop) (fun k_44 => COND t34_20
  (CALL PR F_disk_Disk_now [d_p0] w4 fun t36_45 w6 =>
  BND (lookv .string (Value.pointer none) false w6 t36_45 name_p1) fun t38_46 =>
  BND (nilchk t38_46) fun t42_47 =>
  BND (faddr 0 t42_47) fun t43_48 =>
  BND (nilchk t38_46) fun t48_49 =>
  BND (faddr 1 t48_49) fun t49_50 =>
  BND (load1 w6.drew t43_48) fun t44_51 =>
  BND (slicev 1 t44_51 none (some n_p2)) fun t46_52 =>
  BND (load1 w6.drew t49_50) fun t50_53 =>
  BND (min2v t50_53 n_p2) fun t52_54 =>
  BND (nilchk t38_46) fun t53_55 =>
  BND (faddr 0 t53_55) fun t54_56 =>
  BND (storev 1 w6.drew t54_56 t46_52) fun w7 =>
  BND (nilchk t38_46) fun t55_57 =>
  BND (faddr 1 t55_57) fun t56_58 =>
  BND (storev 1 w7 t56_58 t52_54) fun w8 =>
  k_44 w8)
  (k_44 w4))
  (fun w5 => R t32_19 w5))
def ann_disk_Disk_Cut : List (Nat × List Nat) := [(7, [0, 1, 2, 3, 4, 6, 8, 9, 10, 12, 5, 7, 11, 13, 14, 15, 16, 17, 18, 19])]
theorem E_disk_Disk_Cut (d_p0 name_p1 n_p2 : Value) (w : World) (R : Value → World → Prop) : M_disk_Disk_Cut d_p0 name_p1 n_p2 w R = den PR ann_disk_Disk_Cut (bodyOf Try.f15) (retQ PR Try.f15.results.toList R) (env0 [d_p0, name_p1, n_p2]) w := by kernel_rfl
theorem C_disk_Disk_Cut {d_p0 name_p1 n_p2 : Value} {w : World} {R : Value → World → Prop} (h : M_disk_Disk_Cut d_p0 name_p1 n_p2 w R) : CALL PR F_disk_Disk_Cut [d_p0, name_p1, n_p2] w R :=
  call_of_den2 ann_disk_Disk_Cut Try.func15 (by kernel_rfl) (by kernel_rfl) (by kernel_rfl) ((E_disk_Disk_Cut d_p0 name_p1 n_p2 w R) ▸ h)


-- 16 (*tumbrel.disk.Disk).Append
def M_disk_Disk_Append (d_p0 name_p1 b_p2 : Value) (w : World) (R : Value → World → Prop) : Prop :=
  CALL PR F_disk_Disk_there [d_p0, name_p1] w fun t11_1 w1 =>
  ∃ S_2 : Nat → World → Prop,
  S_2 11 w1.drew ∧
  BND (binv .int .eql t11_1 (Value.int .i64 0)) fun t13_3 =>
  BND (grd (isB t13_3 true) (some d_p0)) fun t15_4 =>
  BND (grd (isB t13_3 true) (some b_p2)) fun t17_5 =>
  BND (grd (isB t13_3 true) (lenl t17_5)) fun t18_6 =>
  BND (grd (isB t13_3 true) (some d_p0)) fun t20_7 =>
  BND (grd (isB t13_3 true) (nilchk t20_7)) fun t21_8 =>
  BND (grd (isB t13_3 true) (faddr 0 t21_8)) fun t22_9 =>
  FLT (S_2 11) (fun w_ => (grd (isB t13_3 true) (load1 w_ t22_9))) fun t23_10 =>
  GEF (isB t13_3 true) (fun k_ => CALL PR F_disk_Disk_Held [t15_4] w1.drew k_) w1.drew fun t16_11 w2 =>
  S_2 11 w2 ∧
  BND (grd (isB t13_3 true) (binv .int .add t16_11 t18_6)) fun t19_12 =>
  BND (grd (isB t13_3 true) (binv .int .gtr t19_12 t23_10)) fun t24_13 =>
  BND (pickv t13_3 t24_13 (Value.bool false)) fun t25_14 =>
  JOIN (α := Value → World → Prop) (fun k_41 => COND t25_14
  (k_41 (Value.int .i64 4) w2)
  (k_41 t11_1 w2))
  (fun e_15 w3 => CALL PR F_disk_Disk_can [d_p0, e_15] w3 fun t28_16 w4 =>
  BND (binv .int .eql t28_16 (Value.int .i64 0)) fun t30_17 =>
  JOIN (α := World → Prop) (fun k_32 => COND t30_17
  (CALL PR F_disk_Disk_now [d_p0] w4 fun t32_33 w6 =>
  BND (lookv .string (Value.pointer none) false w6 t32_33 name_p1) fun t34_34 =>
  BND (nilchk t34_34) fun t37_35 =>
  BND (faddr 0 t37_35) fun t38_36 =>
  BND (load1 w6 t38_36) fun t39_37 =>
  APPEND 5 1 1 (Value.int .u8 0) t39_37 b_p2 w6 fun t41_38 w7 =>
  BND (nilchk t34_34) fun t42_39 =>
  BND (faddr 0 t42_39) fun t43_40 =>
  BND (storev 1 w7 t43_40 t41_38) fun w8 =>
  k_32 w8)
  (k_32 w4))
  (fun w5 => R t28_16 w5))
def ann_disk_Disk_Append : List (Nat × List Nat) := [(2, [0, 1, 2, 3, 5, 6, 8, 9, 10, 11, 4, 7, 12, 13]), (2000002, [11]), (3002004, [11])]
theorem E_disk_Disk_Append (d_p0 name_p1 b_p2 : Value) (w : World) (R : Value → World → Prop) : M_disk_Disk_Append d_p0 name_p1 b_p2 w R = den PR ann_disk_Disk_Append (bodyOf Try.f16) (retQ PR Try.f16.results.toList R) (env0 [d_p0, name_p1, b_p2]) w := by kernel_rfl
theorem C_disk_Disk_Append {d_p0 name_p1 b_p2 : Value} {w : World} {R : Value → World → Prop} (h : M_disk_Disk_Append d_p0 name_p1 b_p2 w R) : CALL PR F_disk_Disk_Append [d_p0, name_p1, b_p2] w R :=
  call_of_den2 ann_disk_Disk_Append Try.func16 (by kernel_rfl) (by kernel_rfl) (by kernel_rfl) ((E_disk_Disk_Append d_p0 name_p1 b_p2 w R) ▸ h)


-- 17 tumbrel.tumbrelref01.Same
def M_tumbrelref01_Same (a_p0 b_p1 : Value) (w : World) (R : Value → World → Prop) : Prop :=
  BND (lenl a_p0) fun t7_1 =>
  BND (lenl b_p1) fun t9_2 =>
  BND (binv .int .neq t7_1 t9_2) fun t10_3 =>
  COND t10_3
  (R (Value.bool false) w)
  (∃ (J_4 : Value → World → Prop) (m_4 : Value → World → Nat), J_4 (Value.int .i64 0) w ∧ ∀ (_d_4 : Env) (i_6 : Value) (w1 : World), J_4 i_6 w1 →
  (BND (lenl a_p0) fun t13_22 =>
  BND (binv .int .lss i_6 t13_22) fun t14_23 =>
  COND t14_23
  (BND (iaddr 1 a_p0 i_6) fun t19_24 =>
  BND (iaddr 1 b_p1 i_6) fun t23_25 =>
  BND (load1 w1.drew t19_24) fun t20_26 =>
  BND (load1 w1.drew t23_25) fun t24_27 =>
  BND (binv .int .neq t20_26 t24_27) fun t25_28 =>
  COND t25_28
  (R (Value.bool false) w1.drew)
  (BND (binv .int .add i_6 (Value.int .i64 1)) fun t16_29 =>
  (J_4 t16_29 w1.drew ∧ m_4 t16_29 w1.drew < m_4 i_6 w1)))
  (R (Value.bool true) w1)))
def ann_tumbrelref01_Same : List (Nat × List Nat) := [(6, [0, 1, 2, 4, 5, 6, 3, 7, 8]), (1000004, [5])]
theorem E_tumbrelref01_Same (a_p0 b_p1 : Value) (w : World) (R : Value → World → Prop) : M_tumbrelref01_Same a_p0 b_p1 w R = den PR ann_tumbrelref01_Same (bodyOf Try.f17) (retQ PR Try.f17.results.toList R) (env0 [a_p0, b_p1]) w := by kernel_rfl
theorem C_tumbrelref01_Same {a_p0 b_p1 : Value} {w : World} {R : Value → World → Prop} (h : M_tumbrelref01_Same a_p0 b_p1 w R) : CALL PR F_tumbrelref01_Same [a_p0, b_p1] w R :=
  call_of_den2 ann_tumbrelref01_Same Try.func17 (by kernel_rfl) (by kernel_rfl) (by kernel_rfl) ((E_tumbrelref01_Same a_p0 b_p1 w R) ▸ h)


-- 18 tumbrel.record.Bytes
def M_record_Bytes (r_p0 : Value) (w : World) (R : Value → World → Prop) : Prop :=
  NEW (newv 61 w r_p0) fun r_1 w1 =>
  BND (loadn 3 w1 r_1) fun t4_2 =>
  CALL PR F_record_Right [t4_2] w1 fun t5_3 w2 =>
  BND (unv .not t5_3) fun t6_4 =>
  COND t6_4
  (R (.tuple #[(Value.slice none 0 0), (Value.int .i64 1)]) w2)
  (∃ S_5 : Nat → World → Prop,
  S_5 1 w2.drew ∧
  S_5 7 w2.drew ∧
  BND (faddr 0 r_1) fun t7_6 =>
  FLT (S_5 1) (fun w_ => load1 w_ t7_6) fun t8_7 =>
  BND (convi .u8 t8_7) fun t9_8 =>
  BND (faddr 1 r_1) fun t10_9 =>
  BND (faddr 2 r_1) fun t13_10 =>
  FLT (S_5 7) (fun w_ => load1 w_ t13_10) fun t14_11 =>
  BND (load1 w2.drew t10_9) fun t11_12 =>
  CALL PR F_vint_All [t11_12] w2.drew fun t12_13 w3 =>
  S_5 1 w3 ∧
  S_5 7 w3 ∧
  APPEND 5 1 1 (Value.int .u8 0) t12_13 t14_11 w3 fun t15_14 w4 =>
  S_5 1 w4 ∧
  BND (buildv #[(Value.int .u8 0), (Value.slice none 0 0)] [(0, 1, t9_8), (1, 1, t15_14)]) fun t16_15 =>
  CALL PR F_frame_Bytes [t16_15] w4 fun t17_16 w5 =>
  BND (extractv t17_16 0) fun t18_17 =>
  BND (extractv t17_16 1) fun t19_18 =>
  R (.tuple #[t18_17, t19_18]) w5)
def ann_record_Bytes : List (Nat × List Nat) := [(3, [0, 1, 2, 3, 6, 7, 4, 5, 8, 9, 10, 11, 12, 13, 14]), (2000003, [1, 7]), (3003005, [1, 7]), (3003008, [1])]
theorem E_record_Bytes (r_p0 : Value) (w : World) (R : Value → World → Prop) : M_record_Bytes r_p0 w R = den PR ann_record_Bytes (bodyOf Try.f18) (retQ PR Try.f18.results.toList R) (env0 [r_p0]) w := by kernel_rfl
theorem C_record_Bytes {r_p0 : Value} {w : World} {R : Value → World → Prop} (h : M_record_Bytes r_p0 w R) : CALL PR F_record_Bytes [r_p0] w R :=
  call_of_den2 ann_record_Bytes Try.func18 (by kernel_rfl) (by kernel_rfl) (by kernel_rfl) ((E_record_Bytes r_p0 w R) ▸ h)


-- 19 tumbrel.root.each
def M_root_each (l_p0 : Value) (w : World) (R : Value → World → Prop) : Prop :=
  BND (lenl l_p0) fun t7_1 =>
  ∃ (J_2 : Value → World → Prop) (m_2 : Value → World → Nat), J_2 (Value.int .i64 0) w ∧ ∀ (_d_2 : Env) (t8_6 : Value) (w1 : World), J_2 t8_6 w1 →
  (BND (binv .int .lss t8_6 t7_1) fun t9_16 =>
  COND t9_16
  (BND (iaddr 1 l_p0 t8_6) fun t10_17 =>
  BND (load1 w1 t10_17) fun t11_18 =>
  CALLV PR t11_18 [] w1 fun t13_19 w2 =>
  BND (binv .int .neq t13_19 (Value.int .i64 0)) fun t15_20 =>
  COND t15_20
  (R t13_19 w2)
  (BND (binv .int .add t8_6 (Value.int .i64 1)) fun t17_21 =>
  (J_2 t17_21 w2 ∧ m_2 t17_21 w2 < m_2 t8_6 w1)))
  (R (Value.int .i64 0) w1))
def ann_root_each : List (Nat × List Nat) := [(1000002, [8])]
theorem E_root_each (l_p0 : Value) (w : World) (R : Value → World → Prop) : M_root_each l_p0 w R = den PR ann_root_each (bodyOf Try.f19) (retQ PR Try.f19.results.toList R) (env0 [l_p0]) w := by kernel_rfl
theorem C_root_each {l_p0 : Value} {w : World} {R : Value → World → Prop} (h : M_root_each l_p0 w R) : CALL PR F_root_each [l_p0] w R :=
  call_of_den2 ann_root_each Try.func19 (by kernel_rfl) (by kernel_rfl) (by kernel_rfl) ((E_root_each l_p0 w R) ▸ h)


-- 20 tumbrel.root.Write$1
def M_root_Write_1 (a_p0 : Value) (w : World) (R : Value → World → Prop) : Prop :=
  BND (load1 w a_p0) fun t2_1 =>
  CALL PR F_disk_Disk_Names [t2_1] w fun t3_2 w1 =>
  CALL PR F_slices_Contains_string_string [t3_2, (Value.string { data := #[114, 111, 111, 116, 46, 110, 101, 119] })] w1 fun t4_3 w2 =>
  BND (unv .not t4_3) fun t5_4 =>
  COND t5_4
  (R (Value.int .i64 0) w2)
  (BND (load1 w2 a_p0) fun t6_5 =>
  CALL PR F_disk_Disk_Delete [t6_5, (Value.string { data := #[114, 111, 111, 116, 46, 110, 101, 119] })] w2 fun t7_6 w3 =>
  R t7_6 w3)
def ann_root_Write_1 : List (Nat × List Nat) := []
theorem E_root_Write_1 (a_p0 : Value) (w : World) (R : Value → World → Prop) : M_root_Write_1 a_p0 w R = den PR ann_root_Write_1 (bodyOf Try.f20) (retQ PR Try.f20.results.toList R) (env0 [a_p0]) w := by kernel_rfl
theorem C_root_Write_1 {a_p0 : Value} {w : World} {R : Value → World → Prop} (h : M_root_Write_1 a_p0 w R) : CALL PR F_root_Write_1 [a_p0] w R :=
  call_of_den2 ann_root_Write_1 Try.func20 (by kernel_rfl) (by kernel_rfl) (by kernel_rfl) ((E_root_Write_1 a_p0 w R) ▸ h)


-- 21 slices.Contains[[]string,string]
def M_slices_Contains_string_string (s_p0 v_p1 : Value) (w : World) (R : Value → World → Prop) : Prop :=
  CALL PR F_slices_Index_string_string [s_p0, v_p1] w fun t7_1 w1 =>
  BND (binv .int .geq t7_1 (Value.int .i64 0)) fun t8_2 =>
  R t8_2 w1
def ann_slices_Contains_string_string : List (Nat × List Nat) := []
theorem E_slices_Contains_string_string (s_p0 v_p1 : Value) (w : World) (R : Value → World → Prop) : M_slices_Contains_string_string s_p0 v_p1 w R = den PR ann_slices_Contains_string_string (bodyOf Try.f21) (retQ PR Try.f21.results.toList R) (env0 [s_p0, v_p1]) w := by kernel_rfl
theorem C_slices_Contains_string_string {s_p0 v_p1 : Value} {w : World} {R : Value → World → Prop} (h : M_slices_Contains_string_string s_p0 v_p1 w R) : CALL PR F_slices_Contains_string_string [s_p0, v_p1] w R :=
  call_of_den2 ann_slices_Contains_string_string Try.func21 (by kernel_rfl) (by kernel_rfl) (by kernel_rfl) ((E_slices_Contains_string_string s_p0 v_p1 w R) ▸ h)


-- 22 (*tumbrel.disk.Disk).Names
def M_disk_Disk_Names (d_p0 : Value) (w : World) (R : Value → World → Prop) : Prop :=
  CALL PR F_disk_Disk_now [d_p0] w fun t4_1 w1 =>
  CALL PR F_maps_Keys_file [t4_1] w1 fun t5_2 w2 =>
  CALL PR F_slices_Sorted_string [t5_2] w2 fun t6_3 w3 =>
  R t6_3 w3
def ann_disk_Disk_Names : List (Nat × List Nat) := []
theorem E_disk_Disk_Names (d_p0 : Value) (w : World) (R : Value → World → Prop) : M_disk_Disk_Names d_p0 w R = den PR ann_disk_Disk_Names (bodyOf Try.f22) (retQ PR Try.f22.results.toList R) (env0 [d_p0]) w := by kernel_rfl
theorem C_disk_Disk_Names {d_p0 : Value} {w : World} {R : Value → World → Prop} (h : M_disk_Disk_Names d_p0 w R) : CALL PR F_disk_Disk_Names [d_p0] w R :=
  call_of_den2 ann_disk_Disk_Names Try.func22 (by kernel_rfl) (by kernel_rfl) (by kernel_rfl) ((E_disk_Disk_Names d_p0 w R) ▸ h)


-- 23 (*tumbrel.disk.Disk).Delete
def M_disk_Disk_Delete (d_p0 name_p1 : Value) (w : World) (R : Value → World → Prop) : Prop :=
  CALL PR F_disk_Disk_there [d_p0, name_p1] w fun t9_1 w1 =>
  CALL PR F_disk_Disk_can [d_p0, t9_1] w1 fun t10_2 w2 =>
  BND (binv .int .eql t10_2 (Value.int .i64 0)) fun t12_3 =>
  JOIN (α := World → Prop) (fun k_7 => COND t12_3
  (CALL PR F_disk_Disk_change [d_p0] w2 fun t14_8 w4 =>
  BND (mdel .string w4 t14_8 name_p1) fun w5 =>
  k_7 w5)
  (k_7 w2))
  (fun w3 => R t10_2 w3)
def ann_disk_Disk_Delete : List (Nat × List Nat) := []
theorem E_disk_Disk_Delete (d_p0 name_p1 : Value) (w : World) (R : Value → World → Prop) : M_disk_Disk_Delete d_p0 name_p1 w R = den PR ann_disk_Disk_Delete (bodyOf Try.f23) (retQ PR Try.f23.results.toList R) (env0 [d_p0, name_p1]) w := by kernel_rfl
theorem C_disk_Disk_Delete {d_p0 name_p1 : Value} {w : World} {R : Value → World → Prop} (h : M_disk_Disk_Delete d_p0 name_p1 w R) : CALL PR F_disk_Disk_Delete [d_p0, name_p1] w R :=
  call_of_den2 ann_disk_Disk_Delete Try.func23 (by kernel_rfl) (by kernel_rfl) (by kernel_rfl) ((E_disk_Disk_Delete d_p0 name_p1 w R) ▸ h)


-- 24 tumbrel.root.Write$2
def M_root_Write_2 (a_p0 : Value) (w : World) (R : Value → World → Prop) : Prop :=
  BND (load1 w a_p0) fun t2_1 =>
  CALL PR F_disk_Disk_Create [t2_1, (Value.string { data := #[114, 111, 111, 116, 46, 110, 101, 119] })] w fun t3_2 w1 =>
  R t3_2 w1
def ann_root_Write_2 : List (Nat × List Nat) := []
theorem E_root_Write_2 (a_p0 : Value) (w : World) (R : Value → World → Prop) : M_root_Write_2 a_p0 w R = den PR ann_root_Write_2 (bodyOf Try.f24) (retQ PR Try.f24.results.toList R) (env0 [a_p0]) w := by kernel_rfl
theorem C_root_Write_2 {a_p0 : Value} {w : World} {R : Value → World → Prop} (h : M_root_Write_2 a_p0 w R) : CALL PR F_root_Write_2 [a_p0] w R :=
  call_of_den2 ann_root_Write_2 Try.func24 (by kernel_rfl) (by kernel_rfl) (by kernel_rfl) ((E_root_Write_2 a_p0 w R) ▸ h)


-- 25 (*tumbrel.disk.Disk).Create
def M_disk_Disk_Create (d_p0 name_p1 : Value) (w : World) (R : Value → World → Prop) : Prop :=
  CALL PR F_disk_Disk_now [d_p0] w fun t8_1 w1 =>
  CALL PR F_disk_named [name_p1] w1 fun t11_2 w2 =>
  BND (unv .not t11_2) fun t12_3 =>
  JOIN (α := Value → World → Prop) (fun k_25 => COND t12_3
  (k_25 (Value.int .i64 1) w2)
  (BND (lookv .string (Value.pointer none) false w2 t8_1 name_p1) fun t16_26 =>
  BND (binv .ptr .neq t16_26 (Value.pointer none)) fun t17_27 =>
  JOIN (α := Value → World → Prop) (fun k_33 => COND t17_27
  (k_33 (Value.int .i64 6) w2)
  (BND (mlenv w2 t8_1) fun t20_34 =>
  BND (binv .int .geq t20_34 (Value.int .i64 60)) fun t21_35 =>
  JOIN (α := Value → World → Prop) (fun k_37 => COND t21_35
  (k_37 (Value.int .i64 4) w2)
  (k_37 (Value.int .i64 0) w2))
  (fun e_36 w10 => k_33 e_36 w10)))
  (fun e_28 w9 => k_25 e_28 w9)))
  (fun e_4 w3 => CALL PR F_disk_Disk_can [d_p0, e_4] w3 fun t24_14 w4 =>
  BND (binv .int .eql t24_14 (Value.int .i64 0)) fun t26_15 =>
  JOIN (α := World → Prop) (fun k_21 => COND t26_15
  (CALL PR F_disk_Disk_change [d_p0] w4 fun t28_22 w6 =>
  BND (buildv #[(Value.slice none 0 0), (Value.int .i64 0)] []) fun t30_23 =>
  NEW (newv 80 w6 t30_23) fun t31_24 w7 =>
  BND (mupd .string w7 t28_22 name_p1 t31_24) fun w8 =>
  k_21 w8)
  (k_21 w4))
  (fun w5 => R t24_14 w5))
def ann_disk_Disk_Create : List (Nat × List Nat) := []
theorem E_disk_Disk_Create (d_p0 name_p1 : Value) (w : World) (R : Value → World → Prop) : M_disk_Disk_Create d_p0 name_p1 w R = den PR ann_disk_Disk_Create (bodyOf Try.f25) (retQ PR Try.f25.results.toList R) (env0 [d_p0, name_p1]) w := by kernel_rfl
theorem C_disk_Disk_Create {d_p0 name_p1 : Value} {w : World} {R : Value → World → Prop} (h : M_disk_Disk_Create d_p0 name_p1 w R) : CALL PR F_disk_Disk_Create [d_p0, name_p1] w R :=
  call_of_den2 ann_disk_Disk_Create Try.func25 (by kernel_rfl) (by kernel_rfl) (by kernel_rfl) ((E_disk_Disk_Create d_p0 name_p1 w R) ▸ h)


-- 26 tumbrel.root.Write$3
def M_root_Write_3 (a_p0 a_p1 : Value) (w : World) (R : Value → World → Prop) : Prop :=
  BND (load1 w a_p0) fun t3_1 =>
  BND (load1 w a_p1) fun t4_2 =>
  CALL PR F_disk_Disk_Append [t3_1, (Value.string { data := #[114, 111, 111, 116, 46, 110, 101, 119] }), t4_2] w fun t5_3 w1 =>
  R t5_3 w1
def ann_root_Write_3 : List (Nat × List Nat) := []
theorem E_root_Write_3 (a_p0 a_p1 : Value) (w : World) (R : Value → World → Prop) : M_root_Write_3 a_p0 a_p1 w R = den PR ann_root_Write_3 (bodyOf Try.f26) (retQ PR Try.f26.results.toList R) (env0 [a_p0, a_p1]) w := by kernel_rfl
theorem C_root_Write_3 {a_p0 a_p1 : Value} {w : World} {R : Value → World → Prop} (h : M_root_Write_3 a_p0 a_p1 w R) : CALL PR F_root_Write_3 [a_p0, a_p1] w R :=
  call_of_den2 ann_root_Write_3 Try.func26 (by kernel_rfl) (by kernel_rfl) (by kernel_rfl) ((E_root_Write_3 a_p0 a_p1 w R) ▸ h)


-- 27 tumbrel.root.Write$4
def M_root_Write_4 (a_p0 : Value) (w : World) (R : Value → World → Prop) : Prop :=
  BND (load1 w a_p0) fun t2_1 =>
  CALL PR F_disk_Disk_Sync [t2_1, (Value.string { data := #[114, 111, 111, 116, 46, 110, 101, 119] })] w fun t3_2 w1 =>
  R t3_2 w1
def ann_root_Write_4 : List (Nat × List Nat) := []
theorem E_root_Write_4 (a_p0 : Value) (w : World) (R : Value → World → Prop) : M_root_Write_4 a_p0 w R = den PR ann_root_Write_4 (bodyOf Try.f27) (retQ PR Try.f27.results.toList R) (env0 [a_p0]) w := by kernel_rfl
theorem C_root_Write_4 {a_p0 : Value} {w : World} {R : Value → World → Prop} (h : M_root_Write_4 a_p0 w R) : CALL PR F_root_Write_4 [a_p0] w R :=
  call_of_den2 ann_root_Write_4 Try.func27 (by kernel_rfl) (by kernel_rfl) (by kernel_rfl) ((E_root_Write_4 a_p0 w R) ▸ h)


-- 28 (*tumbrel.disk.Disk).Sync
def M_disk_Disk_Sync (d_p0 name_p1 : Value) (w : World) (R : Value → World → Prop) : Prop :=
  CALL PR F_disk_Disk_there [d_p0, name_p1] w fun t10_1 w1 =>
  CALL PR F_disk_Disk_can [d_p0, t10_1] w1 fun t11_2 w2 =>
  BND (binv .int .eql t11_2 (Value.int .i64 0)) fun t13_3 =>
  JOIN (α := World → Prop) (fun k_17 => COND t13_3
  (CALL PR F_disk_Disk_now [d_p0] w2 fun t15_18 w4 =>
  BND (lookv .string (Value.pointer none) false w4 t15_18 name_p1) fun t17_19 =>
  BND (nilchk t17_19) fun t20_20 =>
  BND (faddr 0 t20_20) fun t21_21 =>
  BND (load1 w4 t21_21) fun t22_22 =>
  BND (lenl t22_22) fun t23_23 =>
  BND (nilchk t17_19) fun t24_24 =>
  BND (faddr 1 t24_24) fun t25_25 =>
  BND (storev 1 w4 t25_25 t23_23) fun w5 =>
  k_17 w5)
  (k_17 w2))
  (fun w3 => R t11_2 w3)
def ann_disk_Disk_Sync : List (Nat × List Nat) := []
theorem E_disk_Disk_Sync (d_p0 name_p1 : Value) (w : World) (R : Value → World → Prop) : M_disk_Disk_Sync d_p0 name_p1 w R = den PR ann_disk_Disk_Sync (bodyOf Try.f28) (retQ PR Try.f28.results.toList R) (env0 [d_p0, name_p1]) w := by kernel_rfl
theorem C_disk_Disk_Sync {d_p0 name_p1 : Value} {w : World} {R : Value → World → Prop} (h : M_disk_Disk_Sync d_p0 name_p1 w R) : CALL PR F_disk_Disk_Sync [d_p0, name_p1] w R :=
  call_of_den2 ann_disk_Disk_Sync Try.func28 (by kernel_rfl) (by kernel_rfl) (by kernel_rfl) ((E_disk_Disk_Sync d_p0 name_p1 w R) ▸ h)


-- 29 tumbrel.root.Write$5
def M_root_Write_5 (a_p0 : Value) (w : World) (R : Value → World → Prop) : Prop :=
  BND (load1 w a_p0) fun t2_1 =>
  CALL PR F_disk_Disk_Rename [t2_1, (Value.string { data := #[114, 111, 111, 116, 46, 110, 101, 119] }), (Value.string { data := #[114, 111, 111, 116] })] w fun t3_2 w1 =>
  R t3_2 w1
def ann_root_Write_5 : List (Nat × List Nat) := []
theorem E_root_Write_5 (a_p0 : Value) (w : World) (R : Value → World → Prop) : M_root_Write_5 a_p0 w R = den PR ann_root_Write_5 (bodyOf Try.f29) (retQ PR Try.f29.results.toList R) (env0 [a_p0]) w := by kernel_rfl
theorem C_root_Write_5 {a_p0 : Value} {w : World} {R : Value → World → Prop} (h : M_root_Write_5 a_p0 w R) : CALL PR F_root_Write_5 [a_p0] w R :=
  call_of_den2 ann_root_Write_5 Try.func29 (by kernel_rfl) (by kernel_rfl) (by kernel_rfl) ((E_root_Write_5 a_p0 w R) ▸ h)


-- 30 (*tumbrel.disk.Disk).Rename
def M_disk_Disk_Rename (d_p0 from_p1 to_p2 : Value) (w : World) (R : Value → World → Prop) : Prop :=
  CALL PR F_disk_Disk_there [d_p0, from_p1] w fun t12_1 w1 =>
  BND (binv .int .eql t12_1 (Value.int .i64 0)) fun t14_2 =>
  BND (grd (isB t14_2 true) (some to_p2)) fun t16_3 =>
  GEF (isB t14_2 true) (fun k_ => CALL PR F_disk_named [t16_3] w1 k_) w1 fun t17_4 w2 =>
  BND (grd (isB t14_2 true) (unv .not t17_4)) fun t18_5 =>
  BND (pickv t14_2 t18_5 (Value.bool false)) fun t19_6 =>
  JOIN (α := Value → World → Prop) (fun k_25 => COND t19_6
  (k_25 (Value.int .i64 1) w2)
  (k_25 t12_1 w2))
  (fun e_7 w3 => CALL PR F_disk_Disk_can [d_p0, e_7] w3 fun t22_8 w4 =>
  BND (binv .int .eql t22_8 (Value.int .i64 0)) fun t24_9 =>
  JOIN (α := World → Prop) (fun k_22 => COND t24_9
  (CALL PR F_disk_Disk_change [d_p0] w4 fun t26_23 w6 =>
  BND (lookv .string (Value.pointer none) false w6 t26_23 from_p1) fun t29_24 =>
  BND (mdel .string w6 t26_23 from_p1) fun w7 =>
  BND (mupd .string w7 t26_23 to_p2 t29_24) fun w8 =>
  k_22 w8)
  (k_22 w4))
  (fun w5 => R t22_8 w5))
def ann_disk_Disk_Rename : List (Nat × List Nat) := []
theorem E_disk_Disk_Rename (d_p0 from_p1 to_p2 : Value) (w : World) (R : Value → World → Prop) : M_disk_Disk_Rename d_p0 from_p1 to_p2 w R = den PR ann_disk_Disk_Rename (bodyOf Try.f30) (retQ PR Try.f30.results.toList R) (env0 [d_p0, from_p1, to_p2]) w := by kernel_rfl
theorem C_disk_Disk_Rename {d_p0 from_p1 to_p2 : Value} {w : World} {R : Value → World → Prop} (h : M_disk_Disk_Rename d_p0 from_p1 to_p2 w R) : CALL PR F_disk_Disk_Rename [d_p0, from_p1, to_p2] w R :=
  call_of_den2 ann_disk_Disk_Rename Try.func30 (by kernel_rfl) (by kernel_rfl) (by kernel_rfl) ((E_disk_Disk_Rename d_p0 from_p1 to_p2 w R) ▸ h)


-- 31 (*tumbrel.disk.Disk).DirSync
def M_disk_Disk_DirSync (d_p0 : Value) (w : World) (R : Value → World → Prop) : Prop :=
  CALL PR F_disk_Disk_can [d_p0, (Value.int .i64 0)] w fun t5_1 w1 =>
  BND (binv .int .eql t5_1 (Value.int .i64 0)) fun t7_2 =>
  JOIN (α := World → Prop) (fun k_11 => COND t7_2
  (CALL PR F_disk_Disk_now [d_p0] w1 fun t11_12 w3 =>
  BND (nilchk d_p0) fun t12_13 =>
  BND (faddr 1 t12_13) fun t13_14 =>
  BND (storev 1 w3 t13_14 t11_12) fun w4 =>
  BND (nilchk d_p0) fun t14_15 =>
  BND (faddr 2 t14_15) fun t15_16 =>
  BND (storev 1 w4 t15_16 (Value.slice none 0 0)) fun w5 =>
  k_11 w5)
  (k_11 w1))
  (fun w2 => R t5_1 w2)
def ann_disk_Disk_DirSync : List (Nat × List Nat) := []
theorem E_disk_Disk_DirSync (d_p0 : Value) (w : World) (R : Value → World → Prop) : M_disk_Disk_DirSync d_p0 w R = den PR ann_disk_Disk_DirSync (bodyOf Try.f31) (retQ PR Try.f31.results.toList R) (env0 [d_p0]) w := by kernel_rfl
theorem C_disk_Disk_DirSync {d_p0 : Value} {w : World} {R : Value → World → Prop} (h : M_disk_Disk_DirSync d_p0 w R) : CALL PR F_disk_Disk_DirSync [d_p0] w R :=
  call_of_den2 ann_disk_Disk_DirSync Try.func31 (by kernel_rfl) (by kernel_rfl) (by kernel_rfl) ((E_disk_Disk_DirSync d_p0 w R) ▸ h)


-- 32 tumbrel.record.All
def M_record_All (b_p0 : Value) (w : World) (R : Value → World → Prop) : Prop :=
  CALL PR F_frame_All [b_p0] w fun t19_1 w1 =>
  BND (extractv t19_1 0) fun t20_2 =>
  BND (extractv t19_1 1) fun t21_3 =>
  BND (extractv t19_1 2) fun t22_4 =>
  BND (lenl t20_2) fun t24_5 =>
  ∃ (J_6 : Value → Value → Value → Value → World → Prop) (m_6 : Value → Value → Value → Value → World → Nat), J_6 (Value.slice none 0 0) (Value.slice none 0 0) (Value.int .i64 0) (Value.int .i64 0) w1 ∧ ∀ (_d_6 : Env) (out_10 ends_11 at_12 t25_18 : Value) (w2 : World), J_6 out_10 ends_11 at_12 t25_18 w2 →
  (BND (binv .int .lss t25_18 t24_5) fun t26_50 =>
  COND t26_50
  (BND (iaddr 2 t20_2 t25_18) fun t27_51 =>
  BND (loadn 2 w2 t27_51) fun t28_52 =>
  NEW (newv 89 w2 (Value.agg #[(Value.int .u8 0), (Value.slice none 0 0)])) fun x_53 w3 =>
  BND (storev 2 w3 x_53 t28_52) fun w4 =>
  BND (loadn 2 w4 x_53) fun t30_54 =>
  CALL PR F_record_Read [t30_54] w4 fun t31_55 w5 =>
  BND (extractv t31_55 0) fun t32_56 =>
  BND (extractv t31_55 1) fun t33_57 =>
  NEW (newv 61 w5 (Value.agg #[(Value.int .i64 0), (Value.slice none 0 0), (Value.string ByteArray.empty)])) fun r_58 w6 =>
  BND (storev 3 w6 r_58 t32_56) fun w7 =>
  BND (binv .int .neq t33_57 (Value.int .i64 0)) fun t35_59 =>
  COND t35_59
  (R (.tuple #[out_10, ends_11, t33_57]) w7)
  (BND (loadn 2 w7 x_53) fun t40_60 =>
  CALL PR F_frame_Bytes [t40_60] w7 fun t41_61 w8 =>
  BND (extractv t41_61 0) fun t42_62 =>
  BND (extractv t41_61 1) fun t43_63 =>
  BND (lenl t42_62) fun t46_64 =>
  BND (binv .int .add at_12 t46_64) fun t47_65 =>
  BND (loadn 3 w8 r_58) fun t49_66 =>
  BND (newslice 61 #[(Value.int .i64 0), (Value.slice none 0 0), (Value.string ByteArray.empty)] 3 1 [(0, 3, t49_66)] w8) fun p_ => NEW p_ fun t50_67 w9 =>
  APPEND 61 3 48 (Value.agg #[(Value.int .i64 0), (Value.slice none 0 0), (Value.string ByteArray.empty)]) out_10 t50_67 w9 fun t51_68 w10 =>
  BND (newslice 3 #[(Value.int .i64 0)] 1 1 [(0, 1, t47_65)] w10) fun p_ => NEW p_ fun t54_69 w11 =>
  APPEND 3 1 8 (Value.int .i64 0) ends_11 t54_69 w11 fun t55_70 w12 =>
  BND (binv .int .add t25_18 (Value.int .i64 1)) fun t56_71 =>
  (J_6 t51_68 t55_70 t47_65 t56_71 w12 ∧ m_6 t51_68 t55_70 t47_65 t56_71 w12 < m_6 out_10 ends_11 at_12 t25_18 w2)))
  (R (.tuple #[out_10, ends_11, t22_4]) w2))
def ann_record_All : List (Nat × List Nat) := [(1000006, [8, 9, 10, 25])]
theorem E_record_All (b_p0 : Value) (w : World) (R : Value → World → Prop) : M_record_All b_p0 w R = den PR ann_record_All (bodyOf Try.f32) (retQ PR Try.f32.results.toList R) (env0 [b_p0]) w := by kernel_rfl
theorem C_record_All {b_p0 : Value} {w : World} {R : Value → World → Prop} (h : M_record_All b_p0 w R) : CALL PR F_record_All [b_p0] w R :=
  call_of_den2 ann_record_All Try.func32 (by kernel_rfl) (by kernel_rfl) (by kernel_rfl) ((E_record_All b_p0 w R) ▸ h)


-- 33 tumbrel.index.Right
def M_index_Right (c_p0 : Value) (w : World) (R : Value → World → Prop) : Prop :=
  NEW (newv 24 w c_p0) fun c_1 w1 =>
  BND (faddr 0 c_1) fun t3_2 =>
  BND (load1 w1 t3_2) fun t4_3 =>
  BND (binv .int .geq t4_3 (Value.int .i64 1)) fun t5_4 =>
  BND (grd (isB t5_4 true) (faddr 0 c_1)) fun t7_5 =>
  BND (grd (isB t5_4 true) (load1 w1 t7_5)) fun t8_6 =>
  BND (grd (isB t5_4 true) (binv .int .leq t8_6 (Value.int .i64 8))) fun t9_7 =>
  BND (pickv t5_4 t9_7 (Value.bool false)) fun t10_8 =>
  BND (grd (isB t10_8 true) (faddr 1 c_1)) fun t12_9 =>
  BND (grd (isB t10_8 true) (load1 w1 t12_9)) fun t13_10 =>
  BND (grd (isB t10_8 true) (binv .int .geq t13_10 (Value.int .i64 0))) fun t14_11 =>
  BND (pickv t10_8 t14_11 (Value.bool false)) fun t15_12 =>
  BND (grd (isB t15_12 true) (faddr 1 c_1)) fun t17_13 =>
  BND (grd (isB t15_12 true) (load1 w1 t17_13)) fun t18_14 =>
  BND (grd (isB t15_12 true) (binv .int .leq t18_14 (Value.int .i64 64))) fun t19_15 =>
  BND (pickv t15_12 t19_15 (Value.bool false)) fun t20_16 =>
  BND (grd (isB t20_16 true) (faddr 2 c_1)) fun t22_17 =>
  BND (grd (isB t20_16 true) (load1 w1 t22_17)) fun t23_18 =>
  BND (grd (isB t20_16 true) (binv .int .geq t23_18 (Value.int .i64 1))) fun t24_19 =>
  BND (pickv t20_16 t24_19 (Value.bool false)) fun t25_20 =>
  BND (grd (isB t25_20 true) (faddr 2 c_1)) fun t27_21 =>
  BND (grd (isB t25_20 true) (load1 w1 t27_21)) fun t28_22 =>
  BND (grd (isB t25_20 true) (binv .int .leq t28_22 (Value.int .i64 20))) fun t29_23 =>
  BND (pickv t25_20 t29_23 (Value.bool false)) fun t30_24 =>
  R t30_24 w1
def ann_index_Right : List (Nat × List Nat) := []
theorem E_index_Right (c_p0 : Value) (w : World) (R : Value → World → Prop) : M_index_Right c_p0 w R = den PR ann_index_Right (bodyOf Try.f33) (retQ PR Try.f33.results.toList R) (env0 [c_p0]) w := by kernel_rfl
theorem C_index_Right {c_p0 : Value} {w : World} {R : Value → World → Prop} (h : M_index_Right c_p0 w R) : CALL PR F_index_Right [c_p0] w R :=
  call_of_den2 ann_index_Right Try.func33 (by kernel_rfl) (by kernel_rfl) (by kernel_rfl) ((E_index_Right c_p0 w R) ▸ h)


-- 34 slices.Sorted[string]
def M_slices_Sorted_string (seq_p0 : Value) (w : World) (R : Value → World → Prop) : Prop :=
  CALL PR F_slices_Collect_string [seq_p0] w fun t5_1 w1 =>
  CALL PR F_slices_Sort_string_string [t5_1] w1 fun t7_2 w2 =>
  R t5_1 w2
def ann_slices_Sorted_string : List (Nat × List Nat) := []
theorem E_slices_Sorted_string (seq_p0 : Value) (w : World) (R : Value → World → Prop) : M_slices_Sorted_string seq_p0 w R = den PR ann_slices_Sorted_string (bodyOf Try.f34) (retQ PR Try.f34.results.toList R) (env0 [seq_p0]) w := by kernel_rfl
theorem C_slices_Sorted_string {seq_p0 : Value} {w : World} {R : Value → World → Prop} (h : M_slices_Sorted_string seq_p0 w R) : CALL PR F_slices_Sorted_string [seq_p0] w R :=
  call_of_den2 ann_slices_Sorted_string Try.func34 (by kernel_rfl) (by kernel_rfl) (by kernel_rfl) ((E_slices_Sorted_string seq_p0 w R) ▸ h)


-- 35 maps.Keys[tumbrel.disk.dir,string,*tumbrel.disk.file]
def M_maps_Keys_file (m_p0 : Value) (w : World) (R : Value → World → Prop) : Prop :=
  NEW (newv 54 w m_p0) fun m_1 w1 =>
  R (Value.func (.func F_maps_Keys_file_1) #[] #[m_1]) w1
def ann_maps_Keys_file : List (Nat × List Nat) := []
theorem E_maps_Keys_file (m_p0 : Value) (w : World) (R : Value → World → Prop) : M_maps_Keys_file m_p0 w R = den PR ann_maps_Keys_file (bodyOf Try.f35) (retQ PR Try.f35.results.toList R) (env0 [m_p0]) w := by kernel_rfl
theorem C_maps_Keys_file {m_p0 : Value} {w : World} {R : Value → World → Prop} (h : M_maps_Keys_file m_p0 w R) : CALL PR F_maps_Keys_file [m_p0] w R :=
  call_of_den2 ann_maps_Keys_file Try.func35 (by kernel_rfl) (by kernel_rfl) (by kernel_rfl) ((E_maps_Keys_file m_p0 w R) ▸ h)


-- 36 (*tumbrel.disk.Disk).there
def M_disk_Disk_there (d_p0 name_p1 : Value) (w : World) (R : Value → World → Prop) : Prop :=
  CALL PR F_disk_Disk_now [d_p0] w fun t6_1 w1 =>
  BND (lookv .string (Value.pointer none) false w1 t6_1 name_p1) fun t8_2 =>
  BND (binv .ptr .eql t8_2 (Value.pointer none)) fun t9_3 =>
  COND t9_3
  (R (Value.int .i64 5) w1)
  (R (Value.int .i64 0) w1)
def ann_disk_Disk_there : List (Nat × List Nat) := []
theorem E_disk_Disk_there (d_p0 name_p1 : Value) (w : World) (R : Value → World → Prop) : M_disk_Disk_there d_p0 name_p1 w R = den PR ann_disk_Disk_there (bodyOf Try.f36) (retQ PR Try.f36.results.toList R) (env0 [d_p0, name_p1]) w := by kernel_rfl
theorem C_disk_Disk_there {d_p0 name_p1 : Value} {w : World} {R : Value → World → Prop} (h : M_disk_Disk_there d_p0 name_p1 w R) : CALL PR F_disk_Disk_there [d_p0, name_p1] w R :=
  call_of_den2 ann_disk_Disk_there Try.func36 (by kernel_rfl) (by kernel_rfl) (by kernel_rfl) ((E_disk_Disk_there d_p0 name_p1 w R) ▸ h)


-- 37 slices.Clone[[]byte,byte]
def M_slices_Clone_byte_byte (s_p0 : Value) (w : World) (R : Value → World → Prop) : Prop :=
  BND (binv .slc .eql s_p0 (Value.slice none 0 0)) fun t4_1 =>
  COND t4_1
  (R (Value.slice none 0 0) w)
  (BND (newslice 5 #[(Value.int .u8 0)] 1 0 [] w) fun p_ => NEW p_ fun t5_2 w1 =>
  APPEND 5 1 1 (Value.int .u8 0) t5_2 s_p0 w1 fun t7_3 w2 =>
  R t7_3 w2)
def ann_slices_Clone_byte_byte : List (Nat × List Nat) := []
theorem E_slices_Clone_byte_byte (s_p0 : Value) (w : World) (R : Value → World → Prop) : M_slices_Clone_byte_byte s_p0 w R = den PR ann_slices_Clone_byte_byte (bodyOf Try.f37) (retQ PR Try.f37.results.toList R) (env0 [s_p0]) w := by kernel_rfl
theorem C_slices_Clone_byte_byte {s_p0 : Value} {w : World} {R : Value → World → Prop} (h : M_slices_Clone_byte_byte s_p0 w R) : CALL PR F_slices_Clone_byte_byte [s_p0] w R :=
  call_of_den2 ann_slices_Clone_byte_byte Try.func37 (by kernel_rfl) (by kernel_rfl) (by kernel_rfl) ((E_slices_Clone_byte_byte s_p0 w R) ▸ h)


-- 38 (*tumbrel.disk.Disk).now
def M_disk_Disk_now (d_p0 : Value) (w : World) (R : Value → World → Prop) : Prop :=
  BND (nilchk d_p0) fun t5_1 =>
  BND (faddr 2 t5_1) fun t6_2 =>
  BND (load1 w t6_2) fun t7_3 =>
  BND (lenl t7_3) fun t8_4 =>
  BND (binv .int .gtr t8_4 (Value.int .i64 0)) fun t10_5 =>
  COND t10_5
  (BND (nilchk d_p0) fun t12_6 =>
  BND (faddr 2 t12_6) fun t13_7 =>
  BND (load1 w t13_7) fun t14_8 =>
  BND (binv .int .sub t8_4 (Value.int .i64 1)) fun t16_9 =>
  BND (iaddr 1 t14_8 t16_9) fun t17_10 =>
  BND (load1 w t17_10) fun t18_11 =>
  R t18_11 w)
  (BND (nilchk d_p0) fun t20_12 =>
  BND (faddr 1 t20_12) fun t21_13 =>
  BND (load1 w t21_13) fun t22_14 =>
  R t22_14 w)
def ann_disk_Disk_now : List (Nat × List Nat) := []
theorem E_disk_Disk_now (d_p0 : Value) (w : World) (R : Value → World → Prop) : M_disk_Disk_now d_p0 w R = den PR ann_disk_Disk_now (bodyOf Try.f38) (retQ PR Try.f38.results.toList R) (env0 [d_p0]) w := by kernel_rfl
theorem C_disk_Disk_now {d_p0 : Value} {w : World} {R : Value → World → Prop} (h : M_disk_Disk_now d_p0 w R) : CALL PR F_disk_Disk_now [d_p0] w R :=
  call_of_den2 ann_disk_Disk_now Try.func38 (by kernel_rfl) (by kernel_rfl) (by kernel_rfl) ((E_disk_Disk_now d_p0 w R) ▸ h)


-- 39 (*tumbrel.disk.Disk).can
def M_disk_Disk_can (d_p0 e_p1 : Value) (w : World) (R : Value → World → Prop) : Prop :=
  BND (nilchk d_p0) fun t7_1 =>
  BND (faddr 4 t7_1) fun t8_2 =>
  BND (load1 w t8_2) fun t9_3 =>
  COND t9_3
  (R (Value.int .i64 7) w)
  (BND (binv .int .neq e_p1 (Value.int .i64 0)) fun t12_4 =>
  COND t12_4
  (R e_p1 w)
  (BND (nilchk d_p0) fun t16_5 =>
  BND (faddr 3 t16_5) fun t17_6 =>
  BND (load1 w t17_6) fun t18_7 =>
  BND (binv .int .eql t18_7 (Value.int .i64 0)) fun t19_8 =>
  COND t19_8
  (BND (nilchk d_p0) fun t21_9 =>
  BND (faddr 4 t21_9) fun t22_10 =>
  BND (storev 1 w t22_10 (Value.bool true)) fun w1 =>
  R (Value.int .i64 7) w1)
  (BND (nilchk d_p0) fun t25_11 =>
  BND (faddr 3 t25_11) fun t26_12 =>
  BND (load1 w t26_12) fun t27_13 =>
  BND (binv .int .gtr t27_13 (Value.int .i64 0)) fun t28_14 =>
  JOIN (α := World → Prop) (fun k_22 => COND t28_14
  (BND (nilchk d_p0) fun t30_23 =>
  BND (faddr 3 t30_23) fun t31_24 =>
  BND (load1 w t31_24) fun t32_25 =>
  BND (binv .int .sub t32_25 (Value.int .i64 1)) fun t33_26 =>
  BND (nilchk d_p0) fun t34_27 =>
  BND (faddr 3 t34_27) fun t35_28 =>
  BND (storev 1 w t35_28 t33_26) fun w3 =>
  k_22 w3)
  (k_22 w))
  (fun w2 => R (Value.int .i64 0) w2))))
def ann_disk_Disk_can : List (Nat × List Nat) := []
theorem E_disk_Disk_can (d_p0 e_p1 : Value) (w : World) (R : Value → World → Prop) : M_disk_Disk_can d_p0 e_p1 w R = den PR ann_disk_Disk_can (bodyOf Try.f39) (retQ PR Try.f39.results.toList R) (env0 [d_p0, e_p1]) w := by kernel_rfl
theorem C_disk_Disk_can {d_p0 e_p1 : Value} {w : World} {R : Value → World → Prop} (h : M_disk_Disk_can d_p0 e_p1 w R) : CALL PR F_disk_Disk_can [d_p0, e_p1] w R :=
  call_of_den2 ann_disk_Disk_can Try.func39 (by kernel_rfl) (by kernel_rfl) (by kernel_rfl) ((E_disk_Disk_can d_p0 e_p1 w R) ▸ h)


-- 40 (*tumbrel.disk.Disk).Held
def M_disk_Disk_Held (d_p0 : Value) (w : World) (R : Value → World → Prop) : Prop :=
  ∃ S_1 : Nat → World → Prop,
  S_1 8 w.drew ∧
  BND (nilchk d_p0) fun t10_2 =>
  BND (faddr 1 t10_2) fun t11_3 =>
  BND (nilchk d_p0) fun t15_4 =>
  BND (faddr 2 t15_4) fun t16_5 =>
  FLT (S_1 8) (fun w_ => load1 w_ t16_5) fun t17_6 =>
  BND (load1 w.drew t11_3) fun t12_7 =>
  BND (newslice 54 #[(Value.map none)] 1 1 [(0, 1, t12_7)] w.drew) fun p_ => NEW p_ fun t13_8 w1 =>
  S_1 8 w1 ∧
  APPEND 54 1 8 (Value.map none) t13_8 t17_6 w1 fun t18_9 w2 =>
  BND (lenl t18_9) fun t19_10 =>
  ∃ (J_11 : Value → Value → Value → World → Prop) (m_11 : Value → Value → Value → World → Nat), J_11 (Value.slice none 0 0) (Value.int .i64 0) (Value.int .i64 0) w2 ∧ ∀ (_d_11 : Env) (seen_12 n_13 t20_16 : Value) (w3 : World), J_11 seen_12 n_13 t20_16 w3 →
  (BND (binv .int .lss t20_16 t19_10) fun t21_42 =>
  COND t21_42
  (BND (iaddr 1 t18_9 t20_16) fun t22_43 =>
  BND (load1 w3 t22_43) fun t23_44 =>
  BND (rangemv w3 t23_44) fun p_ => NEW p_ fun t25_45 w4 =>
  ∃ (J_46 : Value → Value → World → Prop) (m_46 : Value → Value → World → Nat), J_46 seen_12 n_13 w4 ∧ ∀ (_d_46 : Env) (seen_47 n_48 : Value) (w5 : World), J_46 seen_47 n_48 w5 →
  (NEXTM t25_45 w5 fun t26_69 w6 =>
  BND (extractv t26_69 0) fun t27_70 =>
  COND t27_70
  (BND (entryv w6 t25_45) fun t28_71 =>
  BND (extractv t28_71 1) fun t29_72 =>
  CALL PR F_slices_Contains_disk_file_disk_file [seen_47, t29_72] w6 fun t32_73 w7 =>
  BND (unv .not t32_73) fun t33_74 =>
  JOIN (α := Value → Value → World → Prop) (fun k_88 => COND t33_74
  (BND (newslice 78 #[(Value.pointer none)] 1 1 [(0, 1, t29_72)] w7) fun p_ => NEW p_ fun t36_89 w9 =>
  APPEND 78 1 8 (Value.pointer none) seen_47 t36_89 w9 fun t37_90 w10 =>
  BND (nilchk t29_72) fun t40_91 =>
  BND (faddr 0 t40_91) fun t41_92 =>
  BND (load1 w10 t41_92) fun t42_93 =>
  BND (lenl t42_93) fun t43_94 =>
  BND (binv .int .add n_48 t43_94) fun t44_95 =>
  k_88 t37_90 t44_95 w10)
  (k_88 seen_47 n_48 w7))
  (fun seen_75 n_76 w8 => (J_46 seen_75 n_76 w8 ∧ m_46 seen_75 n_76 w8 < m_46 seen_47 n_48 w5)))
  (BND (binv .int .add t20_16 (Value.int .i64 1)) fun t45_96 =>
  (J_11 seen_47 n_48 t45_96 w6 ∧ m_11 seen_47 n_48 t45_96 w6 < m_11 seen_12 n_13 t20_16 w3))))
  (R n_13 w3))
def ann_disk_Disk_Held : List (Nat × List Nat) := [(3, [0, 1, 2, 5, 6, 7, 8, 11, 3, 4, 9, 10]), (1000004, [3, 4, 20]), (1000007, [3, 4]), (2000003, [8]), (3003004, [8])]
theorem E_disk_Disk_Held (d_p0 : Value) (w : World) (R : Value → World → Prop) : M_disk_Disk_Held d_p0 w R = den PR ann_disk_Disk_Held (bodyOf Try.f40) (retQ PR Try.f40.results.toList R) (env0 [d_p0]) w := by kernel_rfl
theorem C_disk_Disk_Held {d_p0 : Value} {w : World} {R : Value → World → Prop} (h : M_disk_Disk_Held d_p0 w R) : CALL PR F_disk_Disk_Held [d_p0] w R :=
  call_of_den2 ann_disk_Disk_Held Try.func40 (by kernel_rfl) (by kernel_rfl) (by kernel_rfl) ((E_disk_Disk_Held d_p0 w R) ▸ h)


-- 41 tumbrel.record.Right
def M_record_Right (r_p0 : Value) (w : World) (R : Value → World → Prop) : Prop :=
  NEW (newv 61 w r_p0) fun r_1 w1 =>
  ∃ S_2 : Nat → World → Prop,
  S_2 5 w1.drew ∧
  S_2 9 w1.drew ∧
  BND (faddr 0 r_1) fun t3_3 =>
  BND (load1 w1.drew t3_3) fun t4_4 =>
  CALL PR F_record_known [t4_4] w1.drew fun t5_5 w2 =>
  S_2 5 w2 ∧
  S_2 9 w2 ∧
  BND (grd (isB t5_5 true) (faddr 1 r_1)) fun t7_6 =>
  FLT (S_2 5) (fun w_ => (grd (isB t5_5 true) (load1 w_ t7_6))) fun t8_7 =>
  BND (grd (isB t5_5 true) (lenl t8_7)) fun t9_8 =>
  BND (grd (isB t5_5 true) (faddr 0 r_1)) fun t11_9 =>
  FLT (S_2 9) (fun w_ => (grd (isB t5_5 true) (load1 w_ t11_9))) fun t12_10 =>
  GEF (isB t5_5 true) (fun k_ => CALL PR F_record_numbers [] w2 k_) w2 fun t10_11 w3 =>
  S_2 5 w3 ∧
  S_2 9 w3 ∧
  BND (grd (isB t5_5 true) (indexav false 18 1 t10_11 t12_10)) fun t13_12 =>
  BND (grd (isB t5_5 true) (binv .int .eql t9_8 t13_12)) fun t14_13 =>
  BND (pickv t5_5 t14_13 (Value.bool false)) fun t15_14 =>
  BND (grd (isB t15_14 true) (faddr 0 r_1)) fun t17_15 =>
  BND (grd (isB t15_14 true) (faddr 2 r_1)) fun t19_16 =>
  BND (grd (isB t15_14 true) (load1 w3 t17_15)) fun t18_17 =>
  BND (grd (isB t15_14 true) (load1 w3 t19_16)) fun t20_18 =>
  BND (grd (isB t15_14 true) (lens t20_18)) fun t21_19 =>
  GEF (isB t15_14 true) (fun k_ => CALL PR F_record_fits [t18_17, t21_19] w3 k_) w3 fun t22_20 w4 =>
  BND (pickv t15_14 t22_20 (Value.bool false)) fun t23_21 =>
  R t23_21 w4
def ann_record_Right : List (Nat × List Nat) := [(1, [0, 1, 2, 3, 4, 5, 6, 8, 9, 7, 10, 11, 12, 13, 14, 16, 15, 17, 18, 19, 20, 21]), (2000001, [5, 9]), (3001002, [5, 9]), (3001007, [5, 9])]
theorem E_record_Right (r_p0 : Value) (w : World) (R : Value → World → Prop) : M_record_Right r_p0 w R = den PR ann_record_Right (bodyOf Try.f41) (retQ PR Try.f41.results.toList R) (env0 [r_p0]) w := by kernel_rfl
theorem C_record_Right {r_p0 : Value} {w : World} {R : Value → World → Prop} (h : M_record_Right r_p0 w R) : CALL PR F_record_Right [r_p0] w R :=
  call_of_den2 ann_record_Right Try.func41 (by kernel_rfl) (by kernel_rfl) (by kernel_rfl) ((E_record_Right r_p0 w R) ▸ h)


-- 42 tumbrel.frame.Bytes
def M_frame_Bytes (x_p0 : Value) (w : World) (R : Value → World → Prop) : Prop :=
  NEW (newv 89 w x_p0) fun x_1 w1 =>
  BND (faddr 1 x_1) fun t8_2 =>
  BND (load1 w1 t8_2) fun t9_3 =>
  BND (lenl t9_3) fun t10_4 =>
  BND (binv .int .gtr t10_4 (Value.int .i64 400)) fun t11_5 =>
  COND t11_5
  (R (.tuple #[(Value.slice none 0 0), (Value.int .i64 4)]) w1)
  (BND (faddr 1 x_1) fun t13_6 =>
  BND (load1 w1 t13_6) fun t14_7 =>
  BND (lenl t14_7) fun t15_8 =>
  CALL PR F_frame_low_int [t15_8] w1 fun t16_9 w2 =>
  BND (extractv t16_9 0) fun t17_10 =>
  BND (extractv t16_9 1) fun t18_11 =>
  CALL PR F_frame_low_int [t18_11] w2 fun t21_12 w3 =>
  BND (extractv t21_12 0) fun t22_13 =>
  BND (extractv t21_12 1) fun t23_14 =>
  ∃ S_15 : Nat → World → Prop,
  S_15 7 w3.drew ∧
  BND (faddr 0 x_1) fun t24_16 =>
  BND (faddr 1 x_1) fun t30_17 =>
  FLT (S_15 7) (fun w_ => load1 w_ t30_17) fun t31_18 =>
  BND (load1 w3.drew t24_16) fun t25_19 =>
  BND (newslice 5 #[(Value.int .u8 0)] 1 3 [(0, 1, t25_19), (1, 1, t17_10), (2, 1, t22_13)] w3.drew) fun p_ => NEW p_ fun t28_20 w4 =>
  S_15 7 w4 ∧
  CALL PR F_sum_Put [t28_20] w4 fun t29_21 w5 =>
  S_15 7 w5 ∧
  CALL PR F_sum_Put [t31_18] w5 fun t32_22 w6 =>
  APPEND 5 1 1 (Value.int .u8 0) t29_21 t32_22 w6 fun t33_23 w7 =>
  R (.tuple #[t33_23, (Value.int .i64 0)]) w7)
def ann_frame_Bytes : List (Nat × List Nat) := [(5, [0, 2, 3, 6, 7, 1, 4, 5, 8, 9, 10, 11]), (2000005, [7]), (3005004, [7]), (3005005, [7])]
theorem E_frame_Bytes (x_p0 : Value) (w : World) (R : Value → World → Prop) : M_frame_Bytes x_p0 w R = den PR ann_frame_Bytes (bodyOf Try.f42) (retQ PR Try.f42.results.toList R) (env0 [x_p0]) w := by kernel_rfl
theorem C_frame_Bytes {x_p0 : Value} {w : World} {R : Value → World → Prop} (h : M_frame_Bytes x_p0 w R) : CALL PR F_frame_Bytes [x_p0] w R :=
  call_of_den2 ann_frame_Bytes Try.func42 (by kernel_rfl) (by kernel_rfl) (by kernel_rfl) ((E_frame_Bytes x_p0 w R) ▸ h)


-- 43 tumbrel.vint.All
def M_vint_All (l_p0 : Value) (w : World) (R : Value → World → Prop) : Prop :=
  BND (lenl l_p0) fun t7_1 =>
  ∃ (J_2 : Value → Value → World → Prop) (m_2 : Value → Value → World → Nat), J_2 (Value.slice none 0 0) (Value.int .i64 0) w ∧ ∀ (_d_2 : Env) (b_3 t8_5 : Value) (w1 : World), J_2 b_3 t8_5 w1 →
  (BND (binv .int .lss t8_5 t7_1) fun t9_14 =>
  COND t9_14
  (BND (iaddr 1 l_p0 t8_5) fun t10_15 =>
  BND (load1 w1 t10_15) fun t11_16 =>
  CALL PR F_vint_Put [t11_16] w1 fun t14_17 w2 =>
  APPEND 5 1 1 (Value.int .u8 0) b_3 t14_17 w2 fun t15_18 w3 =>
  BND (binv .int .add t8_5 (Value.int .i64 1)) fun t16_19 =>
  (J_2 t15_18 t16_19 w3 ∧ m_2 t15_18 t16_19 w3 < m_2 b_3 t8_5 w1))
  (R b_3 w1))
def ann_vint_All : List (Nat × List Nat) := [(1000003, [3, 8])]
theorem E_vint_All (l_p0 : Value) (w : World) (R : Value → World → Prop) : M_vint_All l_p0 w R = den PR ann_vint_All (bodyOf Try.f43) (retQ PR Try.f43.results.toList R) (env0 [l_p0]) w := by kernel_rfl
theorem C_vint_All {l_p0 : Value} {w : World} {R : Value → World → Prop} (h : M_vint_All l_p0 w R) : CALL PR F_vint_All [l_p0] w R :=
  call_of_den2 ann_vint_All Try.func43 (by kernel_rfl) (by kernel_rfl) (by kernel_rfl) ((E_vint_All l_p0 w R) ▸ h)


-- 44 slices.Index[[]string,string]
def M_slices_Index_string_string (s_p0 v_p1 : Value) (w : World) (R : Value → World → Prop) : Prop :=
  BND (lenl s_p0) fun t7_1 =>
  ∃ (J_2 : Value → World → Prop) (m_2 : Value → World → Nat), J_2 (Value.int .i64 0) w ∧ ∀ (_d_2 : Env) (t8_5 : Value) (w1 : World), J_2 t8_5 w1 →
  (BND (binv .int .lss t8_5 t7_1) fun t9_16 =>
  COND t9_16
  (BND (iaddr 1 s_p0 t8_5) fun t14_17 =>
  BND (load1 w1 t14_17) fun t15_18 =>
  BND (binv .str .eql v_p1 t15_18) fun t16_19 =>
  COND t16_19
  (R t8_5 w1)
  (BND (binv .int .add t8_5 (Value.int .i64 1)) fun t18_20 =>
  (J_2 t18_20 w1 ∧ m_2 t18_20 w1 < m_2 t8_5 w1)))
  (R (Value.int .i64 (-1)) w1))
def ann_slices_Index_string_string : List (Nat × List Nat) := [(1000002, [8])]
theorem E_slices_Index_string_string (s_p0 v_p1 : Value) (w : World) (R : Value → World → Prop) : M_slices_Index_string_string s_p0 v_p1 w R = den PR ann_slices_Index_string_string (bodyOf Try.f44) (retQ PR Try.f44.results.toList R) (env0 [s_p0, v_p1]) w := by kernel_rfl
theorem C_slices_Index_string_string {s_p0 v_p1 : Value} {w : World} {R : Value → World → Prop} (h : M_slices_Index_string_string s_p0 v_p1 w R) : CALL PR F_slices_Index_string_string [s_p0, v_p1] w R :=
  call_of_den2 ann_slices_Index_string_string Try.func44 (by kernel_rfl) (by kernel_rfl) (by kernel_rfl) ((E_slices_Index_string_string s_p0 v_p1 w R) ▸ h)


-- 45 (*tumbrel.disk.Disk).change
def M_disk_Disk_change (d_p0 : Value) (w : World) (R : Value → World → Prop) : Prop :=
  CALL PR F_disk_Disk_now [d_p0] w fun t5_1 w1 =>
  CALL PR F_maps_Clone_file [t5_1] w1 fun t6_2 w2 =>
  BND (nilchk d_p0) fun t9_3 =>
  BND (faddr 2 t9_3) fun t10_4 =>
  BND (load1 w2 t10_4) fun t11_5 =>
  BND (newslice 54 #[(Value.map none)] 1 1 [(0, 1, t6_2)] w2) fun p_ => NEW p_ fun t13_6 w3 =>
  APPEND 54 1 8 (Value.map none) t11_5 t13_6 w3 fun t14_7 w4 =>
  BND (nilchk d_p0) fun t15_8 =>
  BND (faddr 2 t15_8) fun t16_9 =>
  BND (storev 1 w4 t16_9 t14_7) fun w5 =>
  R t6_2 w5
def ann_disk_Disk_change : List (Nat × List Nat) := []
theorem E_disk_Disk_change (d_p0 : Value) (w : World) (R : Value → World → Prop) : M_disk_Disk_change d_p0 w R = den PR ann_disk_Disk_change (bodyOf Try.f45) (retQ PR Try.f45.results.toList R) (env0 [d_p0]) w := by kernel_rfl
theorem C_disk_Disk_change {d_p0 : Value} {w : World} {R : Value → World → Prop} (h : M_disk_Disk_change d_p0 w R) : CALL PR F_disk_Disk_change [d_p0] w R :=
  call_of_den2 ann_disk_Disk_change Try.func45 (by kernel_rfl) (by kernel_rfl) (by kernel_rfl) ((E_disk_Disk_change d_p0 w R) ▸ h)


-- 46 tumbrel.disk.named
def M_disk_named (name_p0 : Value) (w : World) (R : Value → World → Prop) : Prop :=
  BND (lens name_p0) fun t6_1 =>
  BND (binv .int .eql t6_1 (Value.int .i64 0)) fun t7_2 =>
  BND (grd (isB t7_2 false) (some name_p0)) fun t9_3 =>
  BND (grd (isB t7_2 false) (lens t9_3)) fun t10_4 =>
  BND (grd (isB t7_2 false) (binv .int .gtr t10_4 (Value.int .i64 12))) fun t11_5 =>
  BND (pickv t7_2 (Value.bool true) t11_5) fun t12_6 =>
  COND t12_6
  (R (Value.bool false) w)
  (BYTES 5 name_p0 w fun t14_7 w1 =>
  BND (lenl t14_7) fun t15_8 =>
  ∃ (J_9 : Value → World → Prop) (m_9 : Value → World → Nat), J_9 (Value.int .i64 0) w1 ∧ ∀ (_d_9 : Env) (t16_12 : Value) (w2 : World), J_9 t16_12 w2 →
  (BND (binv .int .lss t16_12 t15_8) fun t17_35 =>
  COND t17_35
  (BND (iaddr 1 t14_7 t16_12) fun t18_36 =>
  BND (load1 w2 t18_36) fun t19_37 =>
  BND (binv .int .neq t19_37 (Value.int .u8 46)) fun t21_38 =>
  BND (grd (isB t21_38 true) (some t19_37)) fun t23_39 =>
  BND (grd (isB t21_38 true) (binv .int .lss t23_39 (Value.int .u8 48))) fun t24_40 =>
  BND (grd (isB t21_38 true) (some t24_40)) fun t25_41 =>
  BND (grd (isB t25_41 false) (some t19_37)) fun t26_42 =>
  BND (grd (isB t25_41 false) (binv .int .gtr t26_42 (Value.int .u8 57))) fun t27_43 =>
  BND (grd (isB t21_38 true) (pickv t25_41 (Value.bool true) t27_43)) fun t28_44 =>
  BND (pickv t21_38 t28_44 (Value.bool false)) fun t29_45 =>
  BND (grd (isB t29_45 true) (some t19_37)) fun t31_46 =>
  BND (grd (isB t29_45 true) (binv .int .lss t31_46 (Value.int .u8 97))) fun t32_47 =>
  BND (grd (isB t29_45 true) (some t32_47)) fun t33_48 =>
  BND (grd (isB t33_48 false) (some t19_37)) fun t34_49 =>
  BND (grd (isB t33_48 false) (binv .int .gtr t34_49 (Value.int .u8 122))) fun t35_50 =>
  BND (grd (isB t29_45 true) (pickv t33_48 (Value.bool true) t35_50)) fun t36_51 =>
  BND (pickv t29_45 t36_51 (Value.bool false)) fun t37_52 =>
  COND t37_52
  (R (Value.bool false) w2)
  (BND (binv .int .add t16_12 (Value.int .i64 1)) fun t38_53 =>
  (J_9 t38_53 w2 ∧ m_9 t38_53 w2 < m_9 t16_12 w2)))
  (R (Value.bool true) w2)))
def ann_disk_named : List (Nat × List Nat) := [(1000004, [16])]
theorem E_disk_named (name_p0 : Value) (w : World) (R : Value → World → Prop) : M_disk_named name_p0 w R = den PR ann_disk_named (bodyOf Try.f46) (retQ PR Try.f46.results.toList R) (env0 [name_p0]) w := by kernel_rfl
theorem C_disk_named {name_p0 : Value} {w : World} {R : Value → World → Prop} (h : M_disk_named name_p0 w R) : CALL PR F_disk_named [name_p0] w R :=
  call_of_den2 ann_disk_named Try.func46 (by kernel_rfl) (by kernel_rfl) (by kernel_rfl) ((E_disk_named name_p0 w R) ▸ h)


-- 47 tumbrel.frame.All
def M_frame_All (b_p0 : Value) (w : World) (R : Value → World → Prop) : Prop :=
  ∃ (J_1 : Value → Value → World → Prop) (m_1 : Value → Value → World → Nat), J_1 (Value.slice none 0 0) (Value.int .i64 0) w ∧ ∀ (_d_1 : Env) (l_5 at_6 : Value) (w1 : World), J_1 l_5 at_6 w1 →
  (BND (lenl b_p0) fun t12_34 =>
  BND (binv .int .lss at_6 t12_34) fun t13_35 =>
  COND t13_35
  (BND (slicev 1 b_p0 (some at_6) none) fun t17_36 =>
  CALL PR F_frame_Read [t17_36] w1 fun t18_37 w2 =>
  BND (extractv t18_37 0) fun t19_38 =>
  BND (extractv t18_37 1) fun t20_39 =>
  BND (extractv t18_37 2) fun t21_40 =>
  NEW (newv 89 w2 (Value.agg #[(Value.int .u8 0), (Value.slice none 0 0)])) fun x_41 w3 =>
  BND (storev 2 w3 x_41 t19_38) fun w4 =>
  BND (binv .int .neq t21_40 (Value.int .i64 0)) fun t23_42 =>
  COND t23_42
  (R (.tuple #[l_5, at_6, t21_40]) w4)
  (BND (loadn 2 w4 x_41) fun t28_43 =>
  BND (newslice 89 #[(Value.int .u8 0), (Value.slice none 0 0)] 2 1 [(0, 2, t28_43)] w4) fun p_ => NEW p_ fun t29_44 w5 =>
  APPEND 89 2 32 (Value.agg #[(Value.int .u8 0), (Value.slice none 0 0)]) l_5 t29_44 w5 fun t30_45 w6 =>
  BND (binv .int .add at_6 t20_39) fun t33_46 =>
  (J_1 t30_45 t33_46 w6 ∧ m_1 t30_45 t33_46 w6 < m_1 l_5 at_6 w1)))
  (R (.tuple #[l_5, at_6, (Value.int .i64 0)]) w1))
def ann_frame_All : List (Nat × List Nat) := [(1000003, [5, 6])]
theorem E_frame_All (b_p0 : Value) (w : World) (R : Value → World → Prop) : M_frame_All b_p0 w R = den PR ann_frame_All (bodyOf Try.f47) (retQ PR Try.f47.results.toList R) (env0 [b_p0]) w := by kernel_rfl
theorem C_frame_All {b_p0 : Value} {w : World} {R : Value → World → Prop} (h : M_frame_All b_p0 w R) : CALL PR F_frame_All [b_p0] w R :=
  call_of_den2 ann_frame_All Try.func47 (by kernel_rfl) (by kernel_rfl) (by kernel_rfl) ((E_frame_All b_p0 w R) ▸ h)


-- 48 tumbrel.record.Read
def M_record_Read (x_p0 : Value) (w : World) (R : Value → World → Prop) : Prop :=
  NEW (newv 89 w x_p0) fun x_1 w1 =>
  NEW (newv 61 w1 (Value.agg #[(Value.int .i64 0), (Value.slice none 0 0), (Value.string ByteArray.empty)])) fun t2_2 w2 =>
  BND (faddr 0 x_1) fun t9_3 =>
  BND (load1 w2 t9_3) fun t10_4 =>
  BND (convi .i64 t10_4) fun t11_5 =>
  BND (buildv #[(Value.int .i64 0), (Value.slice none 0 0), (Value.string ByteArray.empty)] [(0, 1, t11_5)]) fun t12_6 =>
  NEW (newv 61 w2 (Value.agg #[(Value.int .i64 0), (Value.slice none 0 0), (Value.string ByteArray.empty)])) fun r_7 w3 =>
  BND (storev 3 w3 r_7 t12_6) fun w4 =>
  BND (faddr 0 r_7) fun t13_8 =>
  BND (load1 w4 t13_8) fun t14_9 =>
  CALL PR F_record_known [t14_9] w4 fun t15_10 w5 =>
  BND (unv .not t15_10) fun t16_11 =>
  COND t16_11
  (BND (buildv #[(Value.int .i64 0), (Value.slice none 0 0), (Value.string ByteArray.empty)] []) fun t17_12 =>
  BND (storev 3 w5 t2_2 t17_12) fun w6 =>
  BND (loadn 3 w6 t2_2) fun r_13 =>
  R (.tuple #[r_13, (Value.int .i64 2)]) w6)
  (BND (faddr 1 x_1) fun t18_14 =>
  BND (load1 w5 t18_14) fun t19_15 =>
  ∃ S_16 : Nat → World → Prop,
  S_16 2 w5.drew ∧
  BND (faddr 0 r_7) fun t21_17 =>
  FLT (S_16 2) (fun w_ => load1 w_ t21_17) fun t22_18 =>
  CALL PR F_record_numbers [] w5.drew fun t20_19 w7 =>
  S_16 2 w7 ∧
  BND (indexav false 18 1 t20_19 t22_18) fun t23_20 =>
  ∃ (J_21 : Value → Value → World → Prop) (m_21 : Value → Value → World → Nat), J_21 t19_15 (Value.int .i64 0) w7 ∧ ∀ (_d_21 : Env) (rest_23 t24_27 : Value) (w8 : World), J_21 rest_23 t24_27 w8 →
  (BND (binv .int .lss t24_27 t23_20) fun t25_49 =>
  COND t25_49
  (CALL PR F_vint_Get [rest_23] w8 fun t28_50 w9 =>
  BND (extractv t28_50 0) fun t29_51 =>
  BND (extractv t28_50 1) fun t30_52 =>
  BND (extractv t28_50 2) fun t31_53 =>
  BND (binv .int .neq t31_53 (Value.int .i64 0)) fun t33_54 =>
  COND t33_54
  (BND (buildv #[(Value.int .i64 0), (Value.slice none 0 0), (Value.string ByteArray.empty)] []) fun t34_55 =>
  BND (storev 3 w9 t2_2 t34_55) fun w10 =>
  BND (loadn 3 w10 t2_2) fun r_56 =>
  R (.tuple #[r_56, t31_53]) w10)
  (∃ S_57 : Nat → World → Prop,
  S_57 1 w9.drew ∧
  BND (faddr 1 r_7) fun t36_58 =>
  FLT (S_57 1) (fun w_ => load1 w_ t36_58) fun t37_59 =>
  BND (slicev 1 rest_23 (some t30_52) none) fun t43_60 =>
  BND (newslice 22 #[(Value.int .u64 0)] 1 1 [(0, 1, t29_51)] w9.drew) fun p_ => NEW p_ fun t39_61 w11 =>
  S_57 1 w11 ∧
  APPEND 22 1 8 (Value.int .u64 0) t37_59 t39_61 w11 fun t40_62 w12 =>
  BND (faddr 1 r_7) fun t44_63 =>
  BND (storev 1 w12 t44_63 t40_62) fun w13 =>
  BND (binv .int .add t24_27 (Value.int .i64 1)) fun t45_64 =>
  (J_21 t43_60 t45_64 w13 ∧ m_21 t43_60 t45_64 w13 < m_21 rest_23 t24_27 w8)))
  (BND (faddr 0 r_7) fun t46_65 =>
  BND (load1 w8 t46_65) fun t47_66 =>
  BND (lenl rest_23) fun t49_67 =>
  CALL PR F_record_fits [t47_66, t49_67] w8 fun t50_68 w14 =>
  BND (unv .not t50_68) fun t51_69 =>
  COND t51_69
  (BND (buildv #[(Value.int .i64 0), (Value.slice none 0 0), (Value.string ByteArray.empty)] []) fun t52_70 =>
  BND (storev 3 w14 t2_2 t52_70) fun w15 =>
  BND (loadn 3 w15 t2_2) fun r_71 =>
  R (.tuple #[r_71, (Value.int .i64 2)]) w15)
  (BND (textv .u8 textOfBytes w14 rest_23) fun t54_72 =>
  BND (faddr 2 r_7) fun t55_73 =>
  BND (storev 1 w14 t55_73 t54_72) fun w16 =>
  BND (loadn 3 w16 r_7) fun t56_74 =>
  BND (storev 3 w16 t2_2 t56_74) fun w17 =>
  BND (loadn 3 w17 t2_2) fun r_75 =>
  R (.tuple #[r_75, (Value.int .i64 0)]) w17))))
def ann_record_Read : List (Nat × List Nat) := [(5, [1, 2, 4, 0, 3]), (10, [0, 1, 2, 5, 6, 7, 3, 4, 8, 9, 10]), (1000006, [5, 24]), (2000005, [2]), (2000010, [1]), (3005000, [2]), (3010003, [1])]
theorem E_record_Read (x_p0 : Value) (w : World) (R : Value → World → Prop) : M_record_Read x_p0 w R = den PR ann_record_Read (bodyOf Try.f48) (retQ PR Try.f48.results.toList R) (env0 [x_p0]) w := by kernel_rfl
theorem C_record_Read {x_p0 : Value} {w : World} {R : Value → World → Prop} (h : M_record_Read x_p0 w R) : CALL PR F_record_Read [x_p0] w R :=
  call_of_den2 ann_record_Read Try.func48 (by kernel_rfl) (by kernel_rfl) (by kernel_rfl) ((E_record_Read x_p0 w R) ▸ h)


-- 49 slices.Collect[string]
def M_slices_Collect_string (seq_p0 : Value) (w : World) (R : Value → World → Prop) : Prop :=
  CALL PR F_slices_AppendSeq_string_string [(Value.slice none 0 0), seq_p0] w fun t4_1 w1 =>
  R t4_1 w1
def ann_slices_Collect_string : List (Nat × List Nat) := []
theorem E_slices_Collect_string (seq_p0 : Value) (w : World) (R : Value → World → Prop) : M_slices_Collect_string seq_p0 w R = den PR ann_slices_Collect_string (bodyOf Try.f49) (retQ PR Try.f49.results.toList R) (env0 [seq_p0]) w := by kernel_rfl
theorem C_slices_Collect_string {seq_p0 : Value} {w : World} {R : Value → World → Prop} (h : M_slices_Collect_string seq_p0 w R) : CALL PR F_slices_Collect_string [seq_p0] w R :=
  call_of_den2 ann_slices_Collect_string Try.func49 (by kernel_rfl) (by kernel_rfl) (by kernel_rfl) ((E_slices_Collect_string seq_p0 w R) ▸ h)


-- 50 slices.Sort[[]string,string]
def M_slices_Sort_string_string (x_p0 : Value) (w : World) (R : Value → World → Prop) : Prop :=
  BND (lenl x_p0) fun t4_1 =>
  BND (convi .u64 t4_1) fun t8_2 =>
  CALL PR F_math_bits_Len [t8_2] w fun t9_3 w1 =>
  CALL PR F_slices_pdqsortOrdered_string [x_p0, (Value.int .i64 0), t4_1, t9_3] w1 fun t10_4 w2 =>
  R (.tuple #[]) w2
def ann_slices_Sort_string_string : List (Nat × List Nat) := []
theorem E_slices_Sort_string_string (x_p0 : Value) (w : World) (R : Value → World → Prop) : M_slices_Sort_string_string x_p0 w R = den PR ann_slices_Sort_string_string (bodyOf Try.f50) (retQ PR Try.f50.results.toList R) (env0 [x_p0]) w := by kernel_rfl
theorem C_slices_Sort_string_string {x_p0 : Value} {w : World} {R : Value → World → Prop} (h : M_slices_Sort_string_string x_p0 w R) : CALL PR F_slices_Sort_string_string [x_p0] w R :=
  call_of_den2 ann_slices_Sort_string_string Try.func50 (by kernel_rfl) (by kernel_rfl) (by kernel_rfl) ((E_slices_Sort_string_string x_p0 w R) ▸ h)


-- 51 maps.Keys[tumbrel.disk.dir,string,*tumbrel.disk.file]$1
def M_maps_Keys_file_1 (yield_p0 a_p1 : Value) (w : World) (R : Value → World → Prop) : Prop :=
  BND (load1 w a_p1) fun t4_1 =>
  BND (rangemv w t4_1) fun p_ => NEW p_ fun t5_2 w1 =>
  ∃ (J_3 : World → Prop) (m_3 : World → Nat), J_3 w1 ∧ ∀ (_d_3 : Env) (w2 : World), J_3 w2 →
  (NEXTM t5_2 w2 fun t6_13 w3 =>
  BND (extractv t6_13 0) fun t7_14 =>
  COND t7_14
  (BND (entryv w3 t5_2) fun t8_15 =>
  BND (extractv t8_15 0) fun t9_16 =>
  CALLV PR yield_p0 [t9_16] w3 fun t12_17 w4 =>
  BND (unv .not t12_17) fun t13_18 =>
  COND t13_18
  (R (.tuple #[]) w4)
  ((J_3 w4 ∧ m_3 w4 < m_3 w2)))
  (R (.tuple #[]) w3))
def ann_maps_Keys_file_1 : List (Nat × List Nat) := [(1000001, [])]
theorem E_maps_Keys_file_1 (yield_p0 a_p1 : Value) (w : World) (R : Value → World → Prop) : M_maps_Keys_file_1 yield_p0 a_p1 w R = den PR ann_maps_Keys_file_1 (bodyOf Try.f51) (retQ PR Try.f51.results.toList R) (env0 [yield_p0, a_p1]) w := by kernel_rfl
theorem C_maps_Keys_file_1 {yield_p0 a_p1 : Value} {w : World} {R : Value → World → Prop} (h : M_maps_Keys_file_1 yield_p0 a_p1 w R) : CALL PR F_maps_Keys_file_1 [yield_p0, a_p1] w R :=
  call_of_den2 ann_maps_Keys_file_1 Try.func51 (by kernel_rfl) (by kernel_rfl) (by kernel_rfl) ((E_maps_Keys_file_1 yield_p0 a_p1 w R) ▸ h)


-- 52 slices.Contains[[]*tumbrel.disk.file,*tumbrel.disk.file]
def M_slices_Contains_disk_file_disk_file (s_p0 v_p1 : Value) (w : World) (R : Value → World → Prop) : Prop :=
  CALL PR F_slices_Index_disk_file_disk_file [s_p0, v_p1] w fun t7_1 w1 =>
  BND (binv .int .geq t7_1 (Value.int .i64 0)) fun t8_2 =>
  R t8_2 w1
def ann_slices_Contains_disk_file_disk_file : List (Nat × List Nat) := []
theorem E_slices_Contains_disk_file_disk_file (s_p0 v_p1 : Value) (w : World) (R : Value → World → Prop) : M_slices_Contains_disk_file_disk_file s_p0 v_p1 w R = den PR ann_slices_Contains_disk_file_disk_file (bodyOf Try.f52) (retQ PR Try.f52.results.toList R) (env0 [s_p0, v_p1]) w := by kernel_rfl
theorem C_slices_Contains_disk_file_disk_file {s_p0 v_p1 : Value} {w : World} {R : Value → World → Prop} (h : M_slices_Contains_disk_file_disk_file s_p0 v_p1 w R) : CALL PR F_slices_Contains_disk_file_disk_file [s_p0, v_p1] w R :=
  call_of_den2 ann_slices_Contains_disk_file_disk_file Try.func52 (by kernel_rfl) (by kernel_rfl) (by kernel_rfl) ((E_slices_Contains_disk_file_disk_file s_p0 v_p1 w R) ▸ h)


-- 53 tumbrel.record.known
def M_record_known (kind_p0 : Value) (w : World) (R : Value → World → Prop) : Prop :=
  BND (binv .int .geq kind_p0 (Value.int .i64 1)) fun t4_1 =>
  BND (grd (isB t4_1 true) (some kind_p0)) fun t6_2 =>
  BND (grd (isB t4_1 true) (binv .int .leq t6_2 (Value.int .i64 17))) fun t7_3 =>
  BND (pickv t4_1 t7_3 (Value.bool false)) fun t8_4 =>
  R t8_4 w
def ann_record_known : List (Nat × List Nat) := []
theorem E_record_known (kind_p0 : Value) (w : World) (R : Value → World → Prop) : M_record_known kind_p0 w R = den PR ann_record_known (bodyOf Try.f53) (retQ PR Try.f53.results.toList R) (env0 [kind_p0]) w := by kernel_rfl
theorem C_record_known {kind_p0 : Value} {w : World} {R : Value → World → Prop} (h : M_record_known kind_p0 w R) : CALL PR F_record_known [kind_p0] w R :=
  call_of_den2 ann_record_known Try.func53 (by kernel_rfl) (by kernel_rfl) (by kernel_rfl) ((E_record_known kind_p0 w R) ▸ h)


-- 54 tumbrel.record.numbers
def M_record_numbers (w : World) (R : Value → World → Prop) : Prop :=
  NEW (newv 102 w (Value.agg #[(Value.int .i64 0), (Value.int .i64 0), (Value.int .i64 0), (Value.int .i64 0), (Value.int .i64 0), (Value.int .i64 0), (Value.int .i64 0), (Value.int .i64 0), (Value.int .i64 0), (Value.int .i64 0), (Value.int .i64 0), (Value.int .i64 0), (Value.int .i64 0), (Value.int .i64 0), (Value.int .i64 0), (Value.int .i64 0), (Value.int .i64 0), (Value.int .i64 0)])) fun t0_1 w1 =>
  BND (buildv #[(Value.int .i64 0), (Value.int .i64 0), (Value.int .i64 0), (Value.int .i64 0), (Value.int .i64 0), (Value.int .i64 0), (Value.int .i64 0), (Value.int .i64 0), (Value.int .i64 0), (Value.int .i64 0), (Value.int .i64 0), (Value.int .i64 0), (Value.int .i64 0), (Value.int .i64 0), (Value.int .i64 0), (Value.int .i64 0), (Value.int .i64 0), (Value.int .i64 0)] [(2, 1, (Value.int .i64 5)), (3, 1, (Value.int .i64 2)), (4, 1, (Value.int .i64 1)), (5, 1, (Value.int .i64 2)), (6, 1, (Value.int .i64 2)), (7, 1, (Value.int .i64 1)), (8, 1, (Value.int .i64 1)), (9, 1, (Value.int .i64 1)), (10, 1, (Value.int .i64 1)), (11, 1, (Value.int .i64 1)), (12, 1, (Value.int .i64 5)), (13, 1, (Value.int .i64 7)), (14, 1, (Value.int .i64 10)), (15, 1, (Value.int .i64 2)), (16, 1, (Value.int .i64 1)), (17, 1, (Value.int .i64 1))]) fun t1_2 =>
  BND (storev 18 w1 t0_1 t1_2) fun w2 =>
  BND (loadn 18 w2 t0_1) fun r_3 =>
  R r_3 w2
def ann_record_numbers : List (Nat × List Nat) := []
theorem E_record_numbers (w : World) (R : Value → World → Prop) : M_record_numbers w R = den PR ann_record_numbers (bodyOf Try.f54) (retQ PR Try.f54.results.toList R) (env0 []) w := by kernel_rfl
theorem C_record_numbers {w : World} {R : Value → World → Prop} (h : M_record_numbers w R) : CALL PR F_record_numbers [] w R :=
  call_of_den2 ann_record_numbers Try.func54 (by kernel_rfl) (by kernel_rfl) (by kernel_rfl) ((E_record_numbers w R) ▸ h)


-- 55 tumbrel.record.fits
def M_record_fits (kind_p0 many_p1 : Value) (w : World) (R : Value → World → Prop) : Prop :=
  BND (binv .int .eql many_p1 (Value.int .i64 0)) fun t6_1 =>
  BND (grd (isB t6_1 false) (some kind_p0)) fun t8_2 =>
  GEF (isB t6_1 false) (fun k_ => CALL PR F_record_worded [t8_2] w k_) w fun t9_3 w1 =>
  BND (grd (isB t6_1 false) (some t9_3)) fun t10_4 =>
  BND (grd (isB t10_4 true) (some many_p1)) fun t11_5 =>
  BND (grd (isB t10_4 true) (binv .int .leq t11_5 (Value.int .i64 64))) fun t12_6 =>
  BND (grd (isB t6_1 false) (pickv t10_4 t12_6 (Value.bool false))) fun t13_7 =>
  BND (pickv t6_1 (Value.bool true) t13_7) fun t14_8 =>
  R t14_8 w1
def ann_record_fits : List (Nat × List Nat) := []
theorem E_record_fits (kind_p0 many_p1 : Value) (w : World) (R : Value → World → Prop) : M_record_fits kind_p0 many_p1 w R = den PR ann_record_fits (bodyOf Try.f55) (retQ PR Try.f55.results.toList R) (env0 [kind_p0, many_p1]) w := by kernel_rfl
theorem C_record_fits {kind_p0 many_p1 : Value} {w : World} {R : Value → World → Prop} (h : M_record_fits kind_p0 many_p1 w R) : CALL PR F_record_fits [kind_p0, many_p1] w R :=
  call_of_den2 ann_record_fits Try.func55 (by kernel_rfl) (by kernel_rfl) (by kernel_rfl) ((E_record_fits kind_p0 many_p1 w R) ▸ h)


-- 56 tumbrel.frame.low[int]
def M_frame_low_int (n_p0 : Value) (w : World) (R : Value → World → Prop) : Prop :=
  BND (binv .int .and n_p0 (Value.int .i64 255)) fun t5_1 =>
  BND (convi .u8 t5_1) fun t6_2 =>
  BND (shiftv .shr n_p0 (Value.int .u64 8)) fun t8_3 =>
  R (.tuple #[t6_2, t8_3]) w
def ann_frame_low_int : List (Nat × List Nat) := []
theorem E_frame_low_int (n_p0 : Value) (w : World) (R : Value → World → Prop) : M_frame_low_int n_p0 w R = den PR ann_frame_low_int (bodyOf Try.f56) (retQ PR Try.f56.results.toList R) (env0 [n_p0]) w := by kernel_rfl
theorem C_frame_low_int {n_p0 : Value} {w : World} {R : Value → World → Prop} (h : M_frame_low_int n_p0 w R) : CALL PR F_frame_low_int [n_p0] w R :=
  call_of_den2 ann_frame_low_int Try.func56 (by kernel_rfl) (by kernel_rfl) (by kernel_rfl) ((E_frame_low_int n_p0 w R) ▸ h)


-- 57 tumbrel.sum.Put
def M_sum_Put (b_p0 : Value) (w : World) (R : Value → World → Prop) : Prop :=
  CALL PR F_sum_Of [b_p0] w fun t5_1 w1 =>
  CALL PR F_sum_four [t5_1] w1 fun t6_2 w2 =>
  BND (newslice 39 #[(Value.slice none 0 0)] 1 2 [(0, 1, b_p0), (1, 1, t6_2)] w2) fun p_ => NEW p_ fun t7_3 w3 =>
  CALL PR F_slices_Concat_byte_byte [t7_3] w3 fun t8_4 w4 =>
  R t8_4 w4
def ann_sum_Put : List (Nat × List Nat) := []
theorem E_sum_Put (b_p0 : Value) (w : World) (R : Value → World → Prop) : M_sum_Put b_p0 w R = den PR ann_sum_Put (bodyOf Try.f57) (retQ PR Try.f57.results.toList R) (env0 [b_p0]) w := by kernel_rfl
theorem C_sum_Put {b_p0 : Value} {w : World} {R : Value → World → Prop} (h : M_sum_Put b_p0 w R) : CALL PR F_sum_Put [b_p0] w R :=
  call_of_den2 ann_sum_Put Try.func57 (by kernel_rfl) (by kernel_rfl) (by kernel_rfl) ((E_sum_Put b_p0 w R) ▸ h)


-- 58 tumbrel.vint.Put
def M_vint_Put (n_p0 : Value) (w : World) (R : Value → World → Prop) : Prop :=
  NEW (newv 121 w (Value.agg #[(Value.int .u8 0), (Value.int .u8 0), (Value.int .u8 0), (Value.int .u8 0), (Value.int .u8 0), (Value.int .u8 0), (Value.int .u8 0), (Value.int .u8 0), (Value.int .u8 0), (Value.int .u8 0)])) fun b_1 w1 =>
  CALL PR F_vint_lay [b_1, n_p0] w1 fun t6_2 w2 =>
  BND (slicea 10 1 b_1 none (some t6_2) (some t6_2)) fun t9_3 =>
  R t9_3 w2
def ann_vint_Put : List (Nat × List Nat) := []
theorem E_vint_Put (n_p0 : Value) (w : World) (R : Value → World → Prop) : M_vint_Put n_p0 w R = den PR ann_vint_Put (bodyOf Try.f58) (retQ PR Try.f58.results.toList R) (env0 [n_p0]) w := by kernel_rfl
theorem C_vint_Put {n_p0 : Value} {w : World} {R : Value → World → Prop} (h : M_vint_Put n_p0 w R) : CALL PR F_vint_Put [n_p0] w R :=
  call_of_den2 ann_vint_Put Try.func58 (by kernel_rfl) (by kernel_rfl) (by kernel_rfl) ((E_vint_Put n_p0 w R) ▸ h)


-- 60 tumbrel.frame.Read
def M_frame_Read (b_p0 : Value) (w : World) (R : Value → World → Prop) : Prop :=
  NEW (newv 89 w (Value.agg #[(Value.int .u8 0), (Value.slice none 0 0)])) fun t2_1 w1 =>
  BND (lenl b_p0) fun t11_2 =>
  BND (binv .int .lss t11_2 (Value.int .i64 7)) fun t12_3 =>
  COND t12_3
  (BND (buildv #[(Value.int .u8 0), (Value.slice none 0 0)] []) fun t13_4 =>
  BND (storev 2 w1 t2_1 t13_4) fun w2 =>
  BND (loadn 2 w2 t2_1) fun r_5 =>
  R (.tuple #[r_5, (Value.int .i64 0), (Value.int .i64 3)]) w2)
  (BND (slicev 1 b_p0 none (some (Value.int .i64 7))) fun t16_6 =>
  CALL PR F_sum_Cut [t16_6] w1 fun t17_7 w3 =>
  BND (extractv t17_7 0) fun t18_8 =>
  BND (extractv t17_7 1) fun t19_9 =>
  BND (unv .not t19_9) fun t21_10 =>
  COND t21_10
  (BND (buildv #[(Value.int .u8 0), (Value.slice none 0 0)] []) fun t22_11 =>
  BND (storev 2 w3 t2_1 t22_11) fun w4 =>
  BND (loadn 2 w4 t2_1) fun r_12 =>
  R (.tuple #[r_12, (Value.int .i64 0), (Value.int .i64 8)]) w4)
  (BND (iaddr 1 t18_8 (Value.int .i64 1)) fun t24_13 =>
  BND (iaddr 1 t18_8 (Value.int .i64 2)) fun t28_14 =>
  BND (load1 w3.drew t24_13) fun t25_15 =>
  BND (convi .i64 t25_15) fun t26_16 =>
  BND (load1 w3.drew t28_14) fun t29_17 =>
  BND (convi .i64 t29_17) fun t30_18 =>
  BND (shiftv .shl t30_18 (Value.int .u64 8)) fun t31_19 =>
  BND (binv .int .or t26_16 t31_19) fun t32_20 =>
  BND (binv .int .add (Value.int .i64 7) t32_20) fun t34_21 =>
  BND (binv .int .add t34_21 (Value.int .i64 4)) fun t35_22 =>
  BND (binv .int .gtr t32_20 (Value.int .i64 400)) fun t38_23 =>
  COND t38_23
  (BND (buildv #[(Value.int .u8 0), (Value.slice none 0 0)] []) fun t39_24 =>
  BND (storev 2 w3.drew t2_1 t39_24) fun w5 =>
  BND (loadn 2 w5 t2_1) fun r_25 =>
  R (.tuple #[r_25, (Value.int .i64 0), (Value.int .i64 2)]) w5)
  (BND (lenl b_p0) fun t42_26 =>
  BND (binv .int .lss t42_26 t35_22) fun t44_27 =>
  COND t44_27
  (BND (buildv #[(Value.int .u8 0), (Value.slice none 0 0)] []) fun t45_28 =>
  BND (storev 2 w3.drew t2_1 t45_28) fun w6 =>
  BND (loadn 2 w6 t2_1) fun r_29 =>
  R (.tuple #[r_29, (Value.int .i64 0), (Value.int .i64 3)]) w6)
  (BND (slicev 1 b_p0 (some (Value.int .i64 7)) (some t35_22)) fun t49_30 =>
  CALL PR F_sum_Cut [t49_30] w3.drew fun t50_31 w7 =>
  BND (extractv t50_31 0) fun t51_32 =>
  BND (extractv t50_31 1) fun t52_33 =>
  BND (unv .not t52_33) fun t54_34 =>
  COND t54_34
  (BND (buildv #[(Value.int .u8 0), (Value.slice none 0 0)] []) fun t55_35 =>
  BND (storev 2 w7 t2_1 t55_35) fun w8 =>
  BND (loadn 2 w8 t2_1) fun r_36 =>
  R (.tuple #[r_36, (Value.int .i64 0), (Value.int .i64 8)]) w8)
  (BND (iaddr 1 t18_8 (Value.int .i64 0)) fun t57_37 =>
  BND (load1 w7 t57_37) fun t58_38 =>
  BND (buildv #[(Value.int .u8 0), (Value.slice none 0 0)] [(0, 1, t58_38), (1, 1, t51_32)]) fun t60_39 =>
  BND (storev 2 w7 t2_1 t60_39) fun w9 =>
  BND (loadn 2 w9 t2_1) fun r_40 =>
  R (.tuple #[r_40, t35_22, (Value.int .i64 0)]) w9)))))
def ann_frame_Read : List (Nat × List Nat) := [(6, [0, 1, 4, 5, 2, 3, 6, 7, 8, 9, 10])]
theorem E_frame_Read (b_p0 : Value) (w : World) (R : Value → World → Prop) : M_frame_Read b_p0 w R = den PR ann_frame_Read (bodyOf Try.f60) (retQ PR Try.f60.results.toList R) (env0 [b_p0]) w := by kernel_rfl
theorem C_frame_Read {b_p0 : Value} {w : World} {R : Value → World → Prop} (h : M_frame_Read b_p0 w R) : CALL PR F_frame_Read [b_p0] w R :=
  call_of_den2 ann_frame_Read Try.func60 (by kernel_rfl) (by kernel_rfl) (by kernel_rfl) ((E_frame_Read b_p0 w R) ▸ h)


-- 61 tumbrel.vint.Get
def M_vint_Get (b_p0 : Value) (w : World) (R : Value → World → Prop) : Prop :=
  BND (lenl b_p0) fun t9_1 =>
  ∃ (J_2 : Value → Value → World → Prop) (m_2 : Value → Value → World → Nat), J_2 (Value.int .u64 0) (Value.int .i64 0) w ∧ ∀ (_d_2 : Env) (n_6 t10_9 : Value) (w1 : World), J_2 n_6 t10_9 w1 →
  (BND (binv .int .lss t10_9 t9_1) fun t11_40 =>
  COND t11_40
  (BND (iaddr 1 b_p0 t10_9) fun t13_41 =>
  BND (load1 w1 t13_41) fun t14_42 =>
  BND (binv .int .eql t10_9 (Value.int .i64 9)) fun t16_43 =>
  BND (grd (isB t16_43 true) (some t14_42)) fun t18_44 =>
  BND (grd (isB t16_43 true) (binv .int .gtr t18_44 (Value.int .u8 1))) fun t19_45 =>
  BND (pickv t16_43 t19_45 (Value.bool false)) fun t20_46 =>
  COND t20_46
  (R (.tuple #[(Value.int .u64 0), (Value.int .i64 0), (Value.int .i64 2)]) w1)
  (BND (binv .int .rem t14_42 (Value.int .u8 128)) fun t23_47 =>
  BND (convi .u64 t23_47) fun t24_48 =>
  BND (binv .int .mul (Value.int .i64 7) t10_9) fun t26_49 =>
  BND (shiftv .shl t24_48 t26_49) fun t27_50 =>
  BND (binv .int .or n_6 t27_50) fun t28_51 =>
  BND (binv .int .geq t14_42 (Value.int .u8 128)) fun t30_52 =>
  COND t30_52
  (BND (binv .int .add t10_9 (Value.int .i64 1)) fun t40_53 =>
  (J_2 t28_51 t40_53 w1 ∧ m_2 t28_51 t40_53 w1 < m_2 n_6 t10_9 w1))
  (BND (binv .int .eql t14_42 (Value.int .u8 0)) fun t32_54 =>
  BND (grd (isB t32_54 true) (some t10_9)) fun t34_55 =>
  BND (grd (isB t32_54 true) (binv .int .gtr t34_55 (Value.int .i64 0))) fun t35_56 =>
  BND (pickv t32_54 t35_56 (Value.bool false)) fun t36_57 =>
  COND t36_57
  (R (.tuple #[(Value.int .u64 0), (Value.int .i64 0), (Value.int .i64 2)]) w1)
  (BND (binv .int .add t10_9 (Value.int .i64 1)) fun t39_58 =>
  R (.tuple #[t28_51, t39_58, (Value.int .i64 0)]) w1))))
  (R (.tuple #[(Value.int .u64 0), (Value.int .i64 0), (Value.int .i64 3)]) w1))
def ann_vint_Get : List (Nat × List Nat) := [(1000003, [5, 10])]
theorem E_vint_Get (b_p0 : Value) (w : World) (R : Value → World → Prop) : M_vint_Get b_p0 w R = den PR ann_vint_Get (bodyOf Try.f61) (retQ PR Try.f61.results.toList R) (env0 [b_p0]) w := by kernel_rfl
theorem C_vint_Get {b_p0 : Value} {w : World} {R : Value → World → Prop} (h : M_vint_Get b_p0 w R) : CALL PR F_vint_Get [b_p0] w R :=
  call_of_den2 ann_vint_Get Try.func61 (by kernel_rfl) (by kernel_rfl) (by kernel_rfl) ((E_vint_Get b_p0 w R) ▸ h)


-- 63 slices.pdqsortOrdered[string]
def M_slices_pdqsortOrdered_string (L_p0 i_p1 s_p2 t_p3 : Value) (w : World) (R : Value → World → Prop) : Prop :=
  ∃ (J_1 : Value → Value → Value → Value → Value → World → Prop) (m_1 : Value → Value → Value → Value → Value → World → Nat), J_1 i_p1 s_p2 t_p3 (Value.bool true) (Value.bool true) w ∧ ∀ (_d_1 : Env) (i_2 s_3 t_4 r_5 r_6 : Value) (w1 : World), J_1 i_2 s_3 t_4 r_5 r_6 w1 →
  (BND (binv .int .sub s_3 i_2) fun t21_131 =>
  BND (binv .int .leq t21_131 (Value.int .i64 12)) fun t23_132 =>
  COND t23_132
  (CALL PR F_slices_insertionSortOrdered_string [L_p0, i_2, s_3] w1 fun t27_133 w2 =>
  R (.tuple #[]) w2)
  (BND (binv .int .eql t_4 (Value.int .i64 0)) fun t29_134 =>
  COND t29_134
  (CALL PR F_slices_heapSortOrdered_string [L_p0, i_2, s_3] w1 fun t33_135 w3 =>
  R (.tuple #[]) w3)
  (BND (unv .not r_5) fun t35_136 =>
  JOIN (α := Value → World → Prop) (fun k_227 => COND t35_136
  (CALL PR F_slices_breakPatternsOrdered_string [L_p0, i_2, s_3] w1 fun t39_228 w16 =>
  BND (binv .int .sub t_4 (Value.int .i64 1)) fun t41_229 =>
  k_227 t41_229 w16)
  (k_227 t_4 w1))
  (fun t_137 w4 => CALL PR F_slices_choosePivotOrdered_string [L_p0, i_2, s_3] w4 fun t46_144 w5 =>
  BND (extractv t46_144 0) fun t47_145 =>
  BND (extractv t46_144 1) fun t48_146 =>
  BND (binv .int .eql t48_146 (Value.int .i64 2)) fun t50_147 =>
  JOIN (α := Value → Value → World → Prop) (fun k_222 => COND t50_147
  (CALL PR F_slices_reverseRangeOrdered_string [L_p0, i_2, s_3] w5 fun t54_223 w15 =>
  BND (binv .int .sub s_3 (Value.int .i64 1)) fun t56_224 =>
  BND (binv .int .sub t47_145 i_2) fun t59_225 =>
  BND (binv .int .sub t56_224 t59_225) fun t60_226 =>
  k_222 t60_226 (Value.int .i64 1) w15)
  (k_222 t47_145 t48_146 w5))
  (fun y_148 t12_149 w6 => BND (grd (isB r_5 true) (some r_6)) fun t63_160 =>
  BND (pickv r_5 t63_160 (Value.bool false)) fun t64_161 =>
  BND (grd (isB t64_161 true) (some t12_149)) fun t66_162 =>
  BND (grd (isB t64_161 true) (binv .int .eql t66_162 (Value.int .i64 1))) fun t67_163 =>
  BND (pickv t64_161 t67_163 (Value.bool false)) fun t68_164 =>
  JOIN (α := World → Prop) (fun k_220 => COND t68_164
  (CALL PR F_slices_partialInsertionSortOrdered_string [L_p0, i_2, s_3] w6 fun t72_221 w14 =>
  COND t72_221
  (R (.tuple #[]) w14)
  (k_220 w14))
  (k_220 w6))
  (fun w7 => BND (binv .int .gtr i_2 (Value.int .i64 0)) fun t74_169 =>
  BND (grd (isB t74_169 true) (some L_p0)) fun t76_170 =>
  BND (grd (isB t74_169 true) (some i_2)) fun t77_171 =>
  BND (grd (isB t74_169 true) (binv .int .sub t77_171 (Value.int .i64 1))) fun t78_172 =>
  BND (grd (isB t74_169 true) (iaddr 1 t76_170 t78_172)) fun t79_173 =>
  BND (grd (isB t74_169 true) (some L_p0)) fun t81_174 =>
  BND (grd (isB t74_169 true) (some y_148)) fun t82_175 =>
  BND (grd (isB t74_169 true) (iaddr 1 t81_174 t82_175)) fun t83_176 =>
  BND (grd (isB t74_169 true) (load1 w7.drew t79_173)) fun t80_177 =>
  BND (grd (isB t74_169 true) (load1 w7.drew t83_176)) fun t84_178 =>
  GEF (isB t74_169 true) (fun k_ => CALL PR F_cmp_Less_string [t80_177, t84_178] w7.drew k_) w7.drew fun t85_179 w8 =>
  BND (grd (isB t74_169 true) (unv .not t85_179)) fun t86_180 =>
  BND (pickv t74_169 t86_180 (Value.bool false)) fun t87_181 =>
  COND t87_181
  (CALL PR F_slices_partitionEqualOrdered_string [L_p0, i_2, s_3, y_148] w8 fun t92_182 w9 =>
  (J_1 t92_182 s_3 t_137 r_5 r_6 w9 ∧ m_1 t92_182 s_3 t_137 r_5 r_6 w9 < m_1 i_2 s_3 t_4 r_5 r_6 w1))
  (CALL PR F_slices_partitionOrdered_string [L_p0, i_2, s_3, y_148] w8 fun t99_183 w10 =>
  BND (extractv t99_183 0) fun t100_184 =>
  BND (extractv t99_183 1) fun t101_185 =>
  BND (binv .int .sub t100_184 i_2) fun t105_186 =>
  BND (binv .int .sub s_3 t100_184) fun t108_187 =>
  BND (binv .int .quo t21_131 (Value.int .i64 8)) fun t110_188 =>
  BND (binv .int .lss t105_186 t108_187) fun t113_189 =>
  JOIN (α := Value → Value → Value → World → Prop) (fun k_213 => COND t113_189
  (BND (binv .int .geq t105_186 t110_188) fun t116_214 =>
  CALL PR F_slices_pdqsortOrdered_string [L_p0, i_2, t100_184, t_137] w10 fun t121_215 w12 =>
  BND (binv .int .add t100_184 (Value.int .i64 1)) fun t123_216 =>
  k_213 t123_216 s_3 t116_214 w12)
  (BND (binv .int .geq t108_187 t110_188) fun t126_217 =>
  BND (binv .int .add t100_184 (Value.int .i64 1)) fun t129_218 =>
  CALL PR F_slices_pdqsortOrdered_string [L_p0, t129_218, s_3, t_137] w10 fun t132_219 w13 =>
  k_213 i_2 t100_184 t126_217 w13))
  (fun i_190 s_191 r_192 w11 => (J_1 i_190 s_191 t_137 r_192 t101_185 w11 ∧ m_1 i_190 s_191 t_137 r_192 t101_185 w11 < m_1 i_2 s_3 t_4 r_5 r_6 w1)))))))))
def ann_slices_pdqsortOrdered_string : List (Nat × List Nat) := [(17, [0, 1, 2, 3, 4, 5, 6, 8, 9, 10, 7, 11, 12, 13, 14]), (1000002, [1, 2, 3, 8, 9])]
theorem E_slices_pdqsortOrdered_string (L_p0 i_p1 s_p2 t_p3 : Value) (w : World) (R : Value → World → Prop) : M_slices_pdqsortOrdered_string L_p0 i_p1 s_p2 t_p3 w R = den PR ann_slices_pdqsortOrdered_string (bodyOf Try.f63) (retQ PR Try.f63.results.toList R) (env0 [L_p0, i_p1, s_p2, t_p3]) w := by kernel_rfl
theorem C_slices_pdqsortOrdered_string {L_p0 i_p1 s_p2 t_p3 : Value} {w : World} {R : Value → World → Prop} (h : M_slices_pdqsortOrdered_string L_p0 i_p1 s_p2 t_p3 w R) : CALL PR F_slices_pdqsortOrdered_string [L_p0, i_p1, s_p2, t_p3] w R :=
  call_of_den2 ann_slices_pdqsortOrdered_string Try.func63 (by kernel_rfl) (by kernel_rfl) (by kernel_rfl) ((E_slices_pdqsortOrdered_string L_p0 i_p1 s_p2 t_p3 w R) ▸ h)


-- 64 math.bits.Len
def M_math_bits_Len (x_p0 : Value) (w : World) (R : Value → World → Prop) : Prop :=
  COND (Value.bool false)
  (BND (convi .u32 x_p0) fun t4_1 =>
  CALL PR F_math_bits_Len32 [t4_1] w fun t5_2 w1 =>
  R t5_2 w1)
  (CALL PR F_math_bits_Len64 [x_p0] w fun t7_3 w2 =>
  R t7_3 w2)
def ann_math_bits_Len : List (Nat × List Nat) := []
theorem E_math_bits_Len (x_p0 : Value) (w : World) (R : Value → World → Prop) : M_math_bits_Len x_p0 w R = den PR ann_math_bits_Len (bodyOf Try.f64) (retQ PR Try.f64.results.toList R) (env0 [x_p0]) w := by kernel_rfl
theorem C_math_bits_Len {x_p0 : Value} {w : World} {R : Value → World → Prop} (h : M_math_bits_Len x_p0 w R) : CALL PR F_math_bits_Len [x_p0] w R :=
  call_of_den2 ann_math_bits_Len Try.func64 (by kernel_rfl) (by kernel_rfl) (by kernel_rfl) ((E_math_bits_Len x_p0 w R) ▸ h)


-- 65 slices.Index[[]*tumbrel.disk.file,*tumbrel.disk.file]
def M_slices_Index_disk_file_disk_file (s_p0 v_p1 : Value) (w : World) (R : Value → World → Prop) : Prop :=
  BND (lenl s_p0) fun t7_1 =>
  ∃ (J_2 : Value → World → Prop) (m_2 : Value → World → Nat), J_2 (Value.int .i64 0) w ∧ ∀ (_d_2 : Env) (t8_5 : Value) (w1 : World), J_2 t8_5 w1 →
  (BND (binv .int .lss t8_5 t7_1) fun t9_16 =>
  COND t9_16
  (BND (iaddr 1 s_p0 t8_5) fun t14_17 =>
  BND (load1 w1 t14_17) fun t15_18 =>
  BND (ptrv w1 .eql v_p1 t15_18) fun t16_19 =>
  COND t16_19
  (R t8_5 w1)
  (BND (binv .int .add t8_5 (Value.int .i64 1)) fun t18_20 =>
  (J_2 t18_20 w1 ∧ m_2 t18_20 w1 < m_2 t8_5 w1)))
  (R (Value.int .i64 (-1)) w1))
def ann_slices_Index_disk_file_disk_file : List (Nat × List Nat) := [(1000002, [8])]
theorem E_slices_Index_disk_file_disk_file (s_p0 v_p1 : Value) (w : World) (R : Value → World → Prop) : M_slices_Index_disk_file_disk_file s_p0 v_p1 w R = den PR ann_slices_Index_disk_file_disk_file (bodyOf Try.f65) (retQ PR Try.f65.results.toList R) (env0 [s_p0, v_p1]) w := by kernel_rfl
theorem C_slices_Index_disk_file_disk_file {s_p0 v_p1 : Value} {w : World} {R : Value → World → Prop} (h : M_slices_Index_disk_file_disk_file s_p0 v_p1 w R) : CALL PR F_slices_Index_disk_file_disk_file [s_p0, v_p1] w R :=
  call_of_den2 ann_slices_Index_disk_file_disk_file Try.func65 (by kernel_rfl) (by kernel_rfl) (by kernel_rfl) ((E_slices_Index_disk_file_disk_file s_p0 v_p1 w R) ▸ h)


-- 66 tumbrel.record.worded
def M_record_worded (kind_p0 : Value) (w : World) (R : Value → World → Prop) : Prop :=
  BND (binv .int .eql kind_p0 (Value.int .i64 10)) fun t4_1 =>
  BND (grd (isB t4_1 false) (some kind_p0)) fun t6_2 =>
  BND (grd (isB t4_1 false) (binv .int .eql t6_2 (Value.int .i64 11))) fun t7_3 =>
  BND (pickv t4_1 (Value.bool true) t7_3) fun t8_4 =>
  BND (grd (isB t8_4 false) (some kind_p0)) fun t10_5 =>
  BND (grd (isB t8_4 false) (binv .int .eql t10_5 (Value.int .i64 16))) fun t11_6 =>
  BND (pickv t8_4 (Value.bool true) t11_6) fun t12_7 =>
  R t12_7 w
def ann_record_worded : List (Nat × List Nat) := []
theorem E_record_worded (kind_p0 : Value) (w : World) (R : Value → World → Prop) : M_record_worded kind_p0 w R = den PR ann_record_worded (bodyOf Try.f66) (retQ PR Try.f66.results.toList R) (env0 [kind_p0]) w := by kernel_rfl
theorem C_record_worded {kind_p0 : Value} {w : World} {R : Value → World → Prop} (h : M_record_worded kind_p0 w R) : CALL PR F_record_worded [kind_p0] w R :=
  call_of_den2 ann_record_worded Try.func66 (by kernel_rfl) (by kernel_rfl) (by kernel_rfl) ((E_record_worded kind_p0 w R) ▸ h)


-- 67 slices.Concat[[]byte,byte]
def M_slices_Concat_byte_byte (slices_p0 : Value) (w : World) (R : Value → World → Prop) : Prop :=
  BND (lenl slices_p0) fun t10_1 =>
  ∃ (J_2 : Value → Value → World → Prop) (m_2 : Value → Value → World → Nat), J_2 (Value.int .i64 0) (Value.int .i64 0) w ∧ ∀ (_d_2 : Env) (size_3 t11_5 : Value) (w1 : World), J_2 size_3 t11_5 w1 →
  (BND (binv .int .lss t11_5 t10_1) fun t12_17 =>
  COND t12_17
  (BND (iaddr 1 slices_p0 t11_5) fun t13_18 =>
  BND (load1 w1 t13_18) fun t14_19 =>
  BND (lenl t14_19) fun t17_20 =>
  BND (binv .int .add size_3 t17_20) fun t18_21 =>
  BND (binv .int .lss t18_21 (Value.int .i64 0)) fun t20_22 =>
  COND t20_22
  (False)
  (BND (binv .int .add t11_5 (Value.int .i64 1)) fun t22_23 =>
  (J_2 t18_21 t22_23 w1 ∧ m_2 t18_21 t22_23 w1 < m_2 size_3 t11_5 w1)))
  (CALL PR F_slices_Grow_byte_byte [(Value.slice none 0 0), size_3] w1 fun t24_24 w2 =>
  BND (lenl slices_p0) fun t26_25 =>
  ∃ (J_26 : Value → Value → World → Prop) (m_26 : Value → Value → World → Nat), J_26 t24_24 (Value.int .i64 0) w2 ∧ ∀ (_d_26 : Env) (newslice_27 t27_29 : Value) (w3 : World), J_26 newslice_27 t27_29 w3 →
  (BND (binv .int .lss t27_29 t26_25) fun t28_37 =>
  COND t28_37
  (BND (iaddr 1 slices_p0 t27_29) fun t29_38 =>
  BND (load1 w3 t29_38) fun t30_39 =>
  APPEND 5 1 1 (Value.int .u8 0) newslice_27 t30_39 w3 fun t33_40 w4 =>
  BND (binv .int .add t27_29 (Value.int .i64 1)) fun t34_41 =>
  (J_26 t33_40 t34_41 w4 ∧ m_26 t33_40 t34_41 w4 < m_26 newslice_27 t27_29 w3))
  (R newslice_27 w3))))
def ann_slices_Concat_byte_byte : List (Nat × List Nat) := [(1000003, [3, 11]), (1000011, [6, 27])]
theorem E_slices_Concat_byte_byte (slices_p0 : Value) (w : World) (R : Value → World → Prop) : M_slices_Concat_byte_byte slices_p0 w R = den PR ann_slices_Concat_byte_byte (bodyOf Try.f67) (retQ PR Try.f67.results.toList R) (env0 [slices_p0]) w := by kernel_rfl
theorem C_slices_Concat_byte_byte {slices_p0 : Value} {w : World} {R : Value → World → Prop} (h : M_slices_Concat_byte_byte slices_p0 w R) : CALL PR F_slices_Concat_byte_byte [slices_p0] w R :=
  call_of_den2 ann_slices_Concat_byte_byte Try.func67 (by kernel_rfl) (by kernel_rfl) (by kernel_rfl) ((E_slices_Concat_byte_byte slices_p0 w R) ▸ h)


-- 68 tumbrel.sum.four
def M_sum_four (n_p0 : Value) (w : World) (R : Value → World → Prop) : Prop :=
  BND (convi .u8 n_p0) fun t4_1 =>
  BND (shiftv .shr n_p0 (Value.int .u64 8)) fun t6_2 =>
  BND (convi .u8 t6_2) fun t7_3 =>
  BND (shiftv .shr n_p0 (Value.int .u64 16)) fun t9_4 =>
  BND (convi .u8 t9_4) fun t10_5 =>
  BND (shiftv .shr n_p0 (Value.int .u64 24)) fun t12_6 =>
  BND (convi .u8 t12_6) fun t13_7 =>
  BND (newslice 5 #[(Value.int .u8 0)] 1 4 [(0, 1, t4_1), (1, 1, t7_3), (2, 1, t10_5), (3, 1, t13_7)] w) fun p_ => NEW p_ fun t14_8 w1 =>
  R t14_8 w1
def ann_sum_four : List (Nat × List Nat) := []
theorem E_sum_four (n_p0 : Value) (w : World) (R : Value → World → Prop) : M_sum_four n_p0 w R = den PR ann_sum_four (bodyOf Try.f68) (retQ PR Try.f68.results.toList R) (env0 [n_p0]) w := by kernel_rfl
theorem C_sum_four {n_p0 : Value} {w : World} {R : Value → World → Prop} (h : M_sum_four n_p0 w R) : CALL PR F_sum_four [n_p0] w R :=
  call_of_den2 ann_sum_four Try.func68 (by kernel_rfl) (by kernel_rfl) (by kernel_rfl) ((E_sum_four n_p0 w R) ▸ h)


-- 69 tumbrel.sum.Of
def M_sum_Of (b_p0 : Value) (w : World) (R : Value → World → Prop) : Prop :=
  CALL PR F_sum_More [(Value.int .u32 0), b_p0] w fun t4_1 w1 =>
  R t4_1 w1
def ann_sum_Of : List (Nat × List Nat) := []
theorem E_sum_Of (b_p0 : Value) (w : World) (R : Value → World → Prop) : M_sum_Of b_p0 w R = den PR ann_sum_Of (bodyOf Try.f69) (retQ PR Try.f69.results.toList R) (env0 [b_p0]) w := by kernel_rfl
theorem C_sum_Of {b_p0 : Value} {w : World} {R : Value → World → Prop} (h : M_sum_Of b_p0 w R) : CALL PR F_sum_Of [b_p0] w R :=
  call_of_den2 ann_sum_Of Try.func69 (by kernel_rfl) (by kernel_rfl) (by kernel_rfl) ((E_sum_Of b_p0 w R) ▸ h)


-- 70 tumbrel.vint.lay
def M_vint_lay (into_p0 n_p1 : Value) (w : World) (R : Value → World → Prop) : Prop :=
  ∃ (J_1 : Value → Value → World → Prop) (m_1 : Value → Value → World → Nat), J_1 n_p1 (Value.int .i64 0) w ∧ ∀ (_d_1 : Env) (n_2 i_3 : Value) (w1 : World), J_1 n_2 i_3 w1 →
  (BND (binv .int .geq n_2 (Value.int .u64 128)) fun t7_17 =>
  COND t7_17
  (BND (convi .u8 n_2) fun t13_18 =>
  BND (binv .int .or t13_18 (Value.int .u8 128)) fun t14_19 =>
  BND (nilchk into_p0) fun t15_20 =>
  BND (iaddra 10 1 t15_20 i_3) fun t16_21 =>
  BND (storev 1 w1 t16_21 t14_19) fun w2 =>
  BND (binv .int .add i_3 (Value.int .i64 1)) fun t18_22 =>
  BND (shiftv .shr n_2 (Value.int .u64 7)) fun t9_23 =>
  (J_1 t9_23 t18_22 w2 ∧ m_1 t9_23 t18_22 w2 < m_1 n_2 i_3 w1))
  (BND (convi .u8 n_2) fun t22_24 =>
  BND (nilchk into_p0) fun t23_25 =>
  BND (iaddra 10 1 t23_25 i_3) fun t24_26 =>
  BND (storev 1 w1 t24_26 t22_24) fun w3 =>
  BND (binv .int .add i_3 (Value.int .i64 1)) fun t26_27 =>
  R t26_27 w3))
def ann_vint_lay : List (Nat × List Nat) := [(1000002, [1, 5])]
theorem E_vint_lay (into_p0 n_p1 : Value) (w : World) (R : Value → World → Prop) : M_vint_lay into_p0 n_p1 w R = den PR ann_vint_lay (bodyOf Try.f70) (retQ PR Try.f70.results.toList R) (env0 [into_p0, n_p1]) w := by kernel_rfl
theorem C_vint_lay {into_p0 n_p1 : Value} {w : World} {R : Value → World → Prop} (h : M_vint_lay into_p0 n_p1 w R) : CALL PR F_vint_lay [into_p0, n_p1] w R :=
  call_of_den2 ann_vint_lay Try.func70 (by kernel_rfl) (by kernel_rfl) (by kernel_rfl) ((E_vint_lay into_p0 n_p1 w R) ▸ h)


-- 72 tumbrel.sum.Cut
def M_sum_Cut (b_p0 : Value) (w : World) (R : Value → World → Prop) : Prop :=
  BND (lenl b_p0) fun t6_1 =>
  BND (binv .int .sub t6_1 (Value.int .i64 4)) fun t7_2 =>
  BND (binv .int .lss t7_2 (Value.int .i64 0)) fun t9_3 =>
  BND (grd (isB t9_3 false) (some b_p0)) fun t11_4 =>
  BND (grd (isB t9_3 false) (some t7_2)) fun t12_5 =>
  BND (grd (isB t9_3 false) (slicev 1 t11_4 (some t12_5) none)) fun t13_6 =>
  BND (grd (isB t9_3 false) (some b_p0)) fun t14_7 =>
  BND (grd (isB t9_3 false) (some t7_2)) fun t15_8 =>
  BND (grd (isB t9_3 false) (slicev 1 t14_7 none (some t15_8))) fun t16_9 =>
  GEF (isB t9_3 false) (fun k_ => CALL PR F_sum_Of [t16_9] w.drew k_) w.drew fun t17_10 w1 =>
  GEF (isB t9_3 false) (fun k_ => CALL PR F_sum_four [t17_10] w1 k_) w1 fun t18_11 w2 =>
  GEF (isB t9_3 false) (fun k_ => CALL PR F_slices_Equal_byte_byte [t13_6, t18_11] w2 k_) w2 fun t19_12 w3 =>
  BND (grd (isB t9_3 false) (unv .not t19_12)) fun t20_13 =>
  BND (pickv t9_3 (Value.bool true) t20_13) fun t21_14 =>
  COND t21_14
  (R (.tuple #[(Value.slice none 0 0), (Value.bool false)]) w3)
  (BND (slicev 1 b_p0 none (some t7_2)) fun t24_15 =>
  CALL PR F_slices_Clone_byte_byte [t24_15] w3 fun t25_16 w4 =>
  R (.tuple #[t25_16, (Value.bool true)]) w4)
def ann_sum_Cut : List (Nat × List Nat) := [(2, [0, 1, 2, 3, 4, 5, 6, 7, 8, 9, 10, 11, 12, 13])]
theorem E_sum_Cut (b_p0 : Value) (w : World) (R : Value → World → Prop) : M_sum_Cut b_p0 w R = den PR ann_sum_Cut (bodyOf Try.f72) (retQ PR Try.f72.results.toList R) (env0 [b_p0]) w := by kernel_rfl
theorem C_sum_Cut {b_p0 : Value} {w : World} {R : Value → World → Prop} (h : M_sum_Cut b_p0 w R) : CALL PR F_sum_Cut [b_p0] w R :=
  call_of_den2 ann_sum_Cut Try.func72 (by kernel_rfl) (by kernel_rfl) (by kernel_rfl) ((E_sum_Cut b_p0 w R) ▸ h)


-- 73 slices.insertionSortOrdered[string]
def M_slices_insertionSortOrdered_string (data_p0 a_p1 b_p2 : Value) (w : World) (R : Value → World → Prop) : Prop :=
  BND (binv .int .add a_p1 (Value.int .i64 1)) fun t9_1 =>
  ∃ (J_2 : Value → World → Prop) (m_2 : Value → World → Nat), J_2 t9_1 w ∧ ∀ (_d_2 : Env) (i_3 : Value) (w1 : World), J_2 i_3 w1 →
  (BND (binv .int .lss i_3 b_p2) fun t12_44 =>
  COND t12_44
  (∃ (J_45 : Value → World → Prop) (m_45 : Value → World → Nat), J_45 i_3 w1 ∧ ∀ (_d_45 : Env) (j_46 : Value) (w2 : World), J_45 j_46 w2 →
  (BND (binv .int .gtr j_46 a_p1) fun t18_80 =>
  BND (grd (isB t18_80 true) (some data_p0)) fun t20_81 =>
  BND (grd (isB t18_80 true) (some j_46)) fun t21_82 =>
  BND (grd (isB t18_80 true) (iaddr 1 t20_81 t21_82)) fun t22_83 =>
  BND (grd (isB t18_80 true) (some data_p0)) fun t24_84 =>
  BND (grd (isB t18_80 true) (some j_46)) fun t25_85 =>
  BND (grd (isB t18_80 true) (binv .int .sub t25_85 (Value.int .i64 1))) fun t26_86 =>
  BND (grd (isB t18_80 true) (iaddr 1 t24_84 t26_86)) fun t27_87 =>
  BND (grd (isB t18_80 true) (load1 w2.drew t22_83)) fun t23_88 =>
  BND (grd (isB t18_80 true) (load1 w2.drew t27_87)) fun t28_89 =>
  GEF (isB t18_80 true) (fun k_ => CALL PR F_cmp_Less_string [t23_88, t28_89] w2.drew k_) w2.drew fun t29_90 w3 =>
  BND (pickv t18_80 t29_90 (Value.bool false)) fun t30_91 =>
  COND t30_91
  (BND (binv .int .sub j_46 (Value.int .i64 1)) fun t37_92 =>
  BND (binv .int .sub j_46 (Value.int .i64 1)) fun t40_93 =>
  BND (iaddr 1 data_p0 t40_93) fun t41_94 =>
  BND (iaddr 1 data_p0 j_46) fun t45_95 =>
  BND (load1 w3.drew t41_94) fun t42_96 =>
  BND (load1 w3.drew t45_95) fun t46_97 =>
  BND (iaddr 1 data_p0 j_46) fun t47_98 =>
  BND (storev 1 w3.drew t47_98 t42_96) fun w4 =>
  BND (iaddr 1 data_p0 t37_92) fun t48_99 =>
  BND (storev 1 w4 t48_99 t46_97) fun w5 =>
  BND (binv .int .sub j_46 (Value.int .i64 1)) fun t32_100 =>
  (J_45 t32_100 w5 ∧ m_45 t32_100 w5 < m_45 j_46 w2))
  (BND (binv .int .add i_3 (Value.int .i64 1)) fun t14_101 =>
  (J_2 t14_101 w3 ∧ m_2 t14_101 w3 < m_2 i_3 w1))))
  (R (.tuple #[]) w1))
def ann_slices_insertionSortOrdered_string : List (Nat × List Nat) := [(4, [0, 1, 2, 3, 4, 5, 6, 8, 9, 10, 11, 7, 12, 13, 14]), (6, [0, 1, 2, 3, 4, 5, 6, 7, 8, 10, 11, 12, 9, 13, 14, 15, 16, 17]), (1000001, [6]), (1000004, [7])]
theorem E_slices_insertionSortOrdered_string (data_p0 a_p1 b_p2 : Value) (w : World) (R : Value → World → Prop) : M_slices_insertionSortOrdered_string data_p0 a_p1 b_p2 w R = den PR ann_slices_insertionSortOrdered_string (bodyOf Try.f73) (retQ PR Try.f73.results.toList R) (env0 [data_p0, a_p1, b_p2]) w := by kernel_rfl
theorem C_slices_insertionSortOrdered_string {data_p0 a_p1 b_p2 : Value} {w : World} {R : Value → World → Prop} (h : M_slices_insertionSortOrdered_string data_p0 a_p1 b_p2 w R) : CALL PR F_slices_insertionSortOrdered_string [data_p0, a_p1, b_p2] w R :=
  call_of_den2 ann_slices_insertionSortOrdered_string Try.func73 (by kernel_rfl) (by kernel_rfl) (by kernel_rfl) ((E_slices_insertionSortOrdered_string data_p0 a_p1 b_p2 w R) ▸ h)


-- 74 slices.heapSortOrdered[string]
def M_slices_heapSortOrdered_string (data_p0 a_p1 b_p2 : Value) (w : World) (R : Value → World → Prop) : Prop :=
  BND (binv .int .sub b_p2 a_p1) fun t14_1 =>
  BND (binv .int .sub t14_1 (Value.int .i64 1)) fun t16_2 =>
  BND (binv .int .quo t16_2 (Value.int .i64 2)) fun t17_3 =>
  ∃ (J_4 : Value → World → Prop) (m_4 : Value → World → Nat), J_4 t17_3 w ∧ ∀ (_d_4 : Env) (i_5 : Value) (w1 : World), J_4 i_5 w1 →
  (BND (binv .int .geq i_5 (Value.int .i64 0)) fun t19_15 =>
  COND t19_15
  (CALL PR F_slices_siftDownOrdered_string [data_p0, i_5, t14_1, a_p1] w1 fun t26_16 w2 =>
  BND (binv .int .sub i_5 (Value.int .i64 1)) fun t21_17 =>
  (J_4 t21_17 w2 ∧ m_4 t21_17 w2 < m_4 i_5 w1))
  (BND (binv .int .sub t14_1 (Value.int .i64 1)) fun t28_18 =>
  ∃ (J_19 : Value → World → Prop) (m_19 : Value → World → Nat), J_19 t28_18 w1 ∧ ∀ (_d_19 : Env) (i_20 : Value) (w3 : World), J_19 i_20 w3 →
  (BND (binv .int .geq i_20 (Value.int .i64 0)) fun t30_48 =>
  COND t30_48
  (BND (binv .int .add a_p1 i_20) fun t38_49 =>
  BND (binv .int .add a_p1 i_20) fun t42_50 =>
  BND (iaddr 1 data_p0 t42_50) fun t43_51 =>
  BND (iaddr 1 data_p0 a_p1) fun t47_52 =>
  BND (load1 w3.drew t43_51) fun t44_53 =>
  BND (load1 w3.drew t47_52) fun t48_54 =>
  BND (iaddr 1 data_p0 a_p1) fun t49_55 =>
  BND (storev 1 w3.drew t49_55 t44_53) fun w4 =>
  BND (iaddr 1 data_p0 t38_49) fun t50_56 =>
  BND (storev 1 w4 t50_56 t48_54) fun w5 =>
  CALL PR F_slices_siftDownOrdered_string [data_p0, (Value.int .i64 0), i_20, a_p1] w5 fun t55_57 w6 =>
  BND (binv .int .sub i_20 (Value.int .i64 1)) fun t32_58 =>
  (J_19 t32_58 w6 ∧ m_19 t32_58 w6 < m_19 i_20 w3))
  (R (.tuple #[]) w3))))
def ann_slices_heapSortOrdered_string : List (Nat × List Nat) := [(10, [0, 1, 2, 3, 4, 5, 6, 7, 8, 9, 10, 12, 13, 14, 11, 15, 16, 17, 18, 19]), (1000004, [9]), (1000008, [10])]
theorem E_slices_heapSortOrdered_string (data_p0 a_p1 b_p2 : Value) (w : World) (R : Value → World → Prop) : M_slices_heapSortOrdered_string data_p0 a_p1 b_p2 w R = den PR ann_slices_heapSortOrdered_string (bodyOf Try.f74) (retQ PR Try.f74.results.toList R) (env0 [data_p0, a_p1, b_p2]) w := by kernel_rfl
theorem C_slices_heapSortOrdered_string {data_p0 a_p1 b_p2 : Value} {w : World} {R : Value → World → Prop} (h : M_slices_heapSortOrdered_string data_p0 a_p1 b_p2 w R) : CALL PR F_slices_heapSortOrdered_string [data_p0, a_p1, b_p2] w R :=
  call_of_den2 ann_slices_heapSortOrdered_string Try.func74 (by kernel_rfl) (by kernel_rfl) (by kernel_rfl) ((E_slices_heapSortOrdered_string data_p0 a_p1 b_p2 w R) ▸ h)


-- 75 slices.breakPatternsOrdered[string]
def M_slices_breakPatternsOrdered_string (L_p0 i_p1 s_p2 : Value) (w : World) (R : Value → World → Prop) : Prop :=
  BND (binv .int .sub s_p2 i_p1) fun t13_1 =>
  BND (binv .int .geq t13_1 (Value.int .i64 8)) fun t15_2 =>
  JOIN (α := World → Prop) (fun k_56 => COND t15_2
  (BND (convi .u64 t13_1) fun t17_57 =>
  NEW (newv 141 w (Value.int .u64 0)) fun A_58 w2 =>
  BND (storev 1 w2 A_58 t17_57) fun w3 =>
  CALL PR F_slices_nextPowerOfTwo [t13_1] w3 fun t19_59 w4 =>
  BND (binv .int .quo t13_1 (Value.int .i64 4)) fun t22_60 =>
  BND (binv .int .mul t22_60 (Value.int .i64 2)) fun t23_61 =>
  BND (binv .int .add i_p1 t23_61) fun t24_62 =>
  BND (binv .int .sub t24_62 (Value.int .i64 1)) fun t25_63 =>
  ∃ (J_64 : Value → World → Prop) (m_64 : Value → World → Nat), J_64 t25_63 w4 ∧ ∀ (_d_64 : Env) (r_65 : Value) (w5 : World), J_64 r_65 w5 →
  (BND (binv .int .quo t13_1 (Value.int .i64 4)) fun t29_106 =>
  BND (binv .int .mul t29_106 (Value.int .i64 2)) fun t30_107 =>
  BND (binv .int .add i_p1 t30_107) fun t31_108 =>
  BND (binv .int .add t31_108 (Value.int .i64 1)) fun t32_109 =>
  BND (binv .int .leq r_65 t32_109) fun t33_110 =>
  COND t33_110
  (CALL PR F_slices_xorshift_Next [A_58] w5 fun t36_111 w6 =>
  BND (binv .int .sub t19_59 (Value.int .u64 1)) fun t38_112 =>
  BND (binv .int .and t36_111 t38_112) fun t39_113 =>
  BND (convi .i64 t39_113) fun t40_114 =>
  BND (binv .int .geq t40_114 t13_1) fun t43_115 =>
  JOIN (α := Value → World → Prop) (fun k_129 => COND t43_115
  (BND (binv .int .sub t40_114 t13_1) fun t46_130 =>
  k_129 t46_130 w6)
  (k_129 t40_114 w6))
  (fun a_116 w7 => BND (binv .int .add i_p1 a_116) fun t52_120 =>
  BND (binv .int .add i_p1 a_116) fun t56_121 =>
  BND (iaddr 1 L_p0 t56_121) fun t57_122 =>
  BND (iaddr 1 L_p0 r_65) fun t61_123 =>
  BND (load1 w7.drew t57_122) fun t58_124 =>
  BND (load1 w7.drew t61_123) fun t62_125 =>
  BND (iaddr 1 L_p0 r_65) fun t63_126 =>
  BND (storev 1 w7.drew t63_126 t58_124) fun w8 =>
  BND (iaddr 1 L_p0 t52_120) fun t64_127 =>
  BND (storev 1 w8 t64_127 t62_125) fun w9 =>
  BND (binv .int .add r_65 (Value.int .i64 1)) fun t35_128 =>
  (J_64 t35_128 w9 ∧ m_64 t35_128 w9 < m_64 r_65 w5)))
  (k_56 w5)))
  (k_56 w))
  (fun w1 => R (.tuple #[]) w1)
def ann_slices_breakPatternsOrdered_string : List (Nat × List Nat) := [(10, [0, 1, 2, 3, 4, 5, 6, 7, 8, 9, 10, 12, 13, 14, 11, 15, 16, 17, 18, 19]), (1000005, [9])]
theorem E_slices_breakPatternsOrdered_string (L_p0 i_p1 s_p2 : Value) (w : World) (R : Value → World → Prop) : M_slices_breakPatternsOrdered_string L_p0 i_p1 s_p2 w R = den PR ann_slices_breakPatternsOrdered_string (bodyOf Try.f75) (retQ PR Try.f75.results.toList R) (env0 [L_p0, i_p1, s_p2]) w := by kernel_rfl
theorem C_slices_breakPatternsOrdered_string {L_p0 i_p1 s_p2 : Value} {w : World} {R : Value → World → Prop} (h : M_slices_breakPatternsOrdered_string L_p0 i_p1 s_p2 w R) : CALL PR F_slices_breakPatternsOrdered_string [L_p0, i_p1, s_p2] w R :=
  call_of_den2 ann_slices_breakPatternsOrdered_string Try.func75 (by kernel_rfl) (by kernel_rfl) (by kernel_rfl) ((E_slices_breakPatternsOrdered_string L_p0 i_p1 s_p2 w R) ▸ h)


-- 76 slices.choosePivotOrdered[string]
def M_slices_choosePivotOrdered_string (data_p0 a_p1 b_p2 : Value) (w : World) (R : Value → World → Prop) : Prop :=
  BND (binv .int .sub b_p2 a_p1) fun t15_1 =>
  NEW (newv 3 w (Value.int .i64 0)) fun swaps_2 w1 =>
  BND (binv .int .quo t15_1 (Value.int .i64 4)) fun t18_3 =>
  BND (binv .int .mul t18_3 (Value.int .i64 1)) fun t19_4 =>
  BND (binv .int .add a_p1 t19_4) fun t20_5 =>
  BND (binv .int .quo t15_1 (Value.int .i64 4)) fun t23_6 =>
  BND (binv .int .mul t23_6 (Value.int .i64 2)) fun t24_7 =>
  BND (binv .int .add a_p1 t24_7) fun t25_8 =>
  BND (binv .int .quo t15_1 (Value.int .i64 4)) fun t28_9 =>
  BND (binv .int .mul t28_9 (Value.int .i64 3)) fun t29_10 =>
  BND (binv .int .add a_p1 t29_10) fun t30_11 =>
  BND (binv .int .geq t15_1 (Value.int .i64 8)) fun t32_12 =>
  JOIN (α := Value → World → Prop) (fun k_35 => COND t32_12
  (BND (binv .int .geq t15_1 (Value.int .i64 50)) fun t34_36 =>
  JOIN (α := Value → Value → Value → World → Prop) (fun k_50 => COND t34_36
  (CALL PR F_slices_medianAdjacentOrdered_string [data_p0, t20_5, swaps_2] w1 fun t37_51 w5 =>
  CALL PR F_slices_medianAdjacentOrdered_string [data_p0, t25_8, swaps_2] w5 fun t40_52 w6 =>
  CALL PR F_slices_medianAdjacentOrdered_string [data_p0, t30_11, swaps_2] w6 fun t43_53 w7 =>
  k_50 t37_51 t40_52 t43_53 w7)
  (k_50 t20_5 t25_8 t30_11 w1))
  (fun i_37 j_38 k_39 w3 => CALL PR F_slices_medianOrdered_string [data_p0, i_37, j_38, k_39, swaps_2] w3 fun t48_49 w4 =>
  k_35 t48_49 w4))
  (k_35 t25_8 w1))
  (fun j_14 w2 => BND (load1 w2 swaps_2) fun t49_32 =>
  BND (binv .int .eql t49_32 (Value.int .i64 0)) fun t52_33 =>
  COND t52_33
  (R (.tuple #[j_14, (Value.int .i64 1)]) w2)
  (BND (binv .int .eql t49_32 (Value.int .i64 12)) fun t55_34 =>
  COND t55_34
  (R (.tuple #[j_14, (Value.int .i64 2)]) w2)
  (R (.tuple #[j_14, (Value.int .i64 0)]) w2)))
def ann_slices_choosePivotOrdered_string : List (Nat × List Nat) := []
theorem E_slices_choosePivotOrdered_string (data_p0 a_p1 b_p2 : Value) (w : World) (R : Value → World → Prop) : M_slices_choosePivotOrdered_string data_p0 a_p1 b_p2 w R = den PR ann_slices_choosePivotOrdered_string (bodyOf Try.f76) (retQ PR Try.f76.results.toList R) (env0 [data_p0, a_p1, b_p2]) w := by kernel_rfl
theorem C_slices_choosePivotOrdered_string {data_p0 a_p1 b_p2 : Value} {w : World} {R : Value → World → Prop} (h : M_slices_choosePivotOrdered_string data_p0 a_p1 b_p2 w R) : CALL PR F_slices_choosePivotOrdered_string [data_p0, a_p1, b_p2] w R :=
  call_of_den2 ann_slices_choosePivotOrdered_string Try.func76 (by kernel_rfl) (by kernel_rfl) (by kernel_rfl) ((E_slices_choosePivotOrdered_string data_p0 a_p1 b_p2 w R) ▸ h)


-- 77 slices.reverseRangeOrdered[string]
def M_slices_reverseRangeOrdered_string (data_p0 a_p1 b_p2 : Value) (w : World) (R : Value → World → Prop) : Prop :=
  BND (binv .int .sub b_p2 (Value.int .i64 1)) fun t10_1 =>
  ∃ (J_2 : Value → Value → World → Prop) (m_2 : Value → Value → World → Nat), J_2 a_p1 t10_1 w ∧ ∀ (_d_2 : Env) (i_3 j_4 : Value) (w1 : World), J_2 i_3 j_4 w1 →
  (BND (binv .int .lss i_3 j_4) fun t13_26 =>
  COND t13_26
  (BND (iaddr 1 data_p0 j_4) fun t20_27 =>
  BND (iaddr 1 data_p0 i_3) fun t24_28 =>
  BND (load1 w1.drew t20_27) fun t21_29 =>
  BND (load1 w1.drew t24_28) fun t25_30 =>
  BND (iaddr 1 data_p0 i_3) fun t26_31 =>
  BND (storev 1 w1.drew t26_31 t21_29) fun w2 =>
  BND (iaddr 1 data_p0 j_4) fun t27_32 =>
  BND (storev 1 w2 t27_32 t25_30) fun w3 =>
  BND (binv .int .add i_3 (Value.int .i64 1)) fun t29_33 =>
  BND (binv .int .sub j_4 (Value.int .i64 1)) fun t31_34 =>
  (J_2 t29_33 t31_34 w3 ∧ m_2 t29_33 t31_34 w3 < m_2 i_3 j_4 w1))
  (R (.tuple #[]) w1))
def ann_slices_reverseRangeOrdered_string : List (Nat × List Nat) := [(3, [0, 1, 2, 3, 4, 5, 6, 8, 9, 10, 7, 11, 12, 13, 14, 15]), (1000002, [6, 7])]
theorem E_slices_reverseRangeOrdered_string (data_p0 a_p1 b_p2 : Value) (w : World) (R : Value → World → Prop) : M_slices_reverseRangeOrdered_string data_p0 a_p1 b_p2 w R = den PR ann_slices_reverseRangeOrdered_string (bodyOf Try.f77) (retQ PR Try.f77.results.toList R) (env0 [data_p0, a_p1, b_p2]) w := by kernel_rfl
theorem C_slices_reverseRangeOrdered_string {data_p0 a_p1 b_p2 : Value} {w : World} {R : Value → World → Prop} (h : M_slices_reverseRangeOrdered_string data_p0 a_p1 b_p2 w R) : CALL PR F_slices_reverseRangeOrdered_string [data_p0, a_p1, b_p2] w R :=
  call_of_den2 ann_slices_reverseRangeOrdered_string Try.func77 (by kernel_rfl) (by kernel_rfl) (by kernel_rfl) ((E_slices_reverseRangeOrdered_string data_p0 a_p1 b_p2 w R) ▸ h)


-- 78 slices.partialInsertionSortOrdered[string]
def M_slices_partialInsertionSortOrdered_string (L_p0 i_p1 s_p2 : Value) (w : World) (R : Value → World → Prop) : Prop :=
  BND (binv .int .add i_p1 (Value.int .i64 1)) fun t12_1 =>
  ∃ (J_2 : Value → Value → World → Prop) (m_2 : Value → Value → World → Nat), J_2 t12_1 (Value.int .i64 0) w ∧ ∀ (_d_2 : Env) (A_4 r_5 : Value) (w1 : World), J_2 A_4 r_5 w1 →
  (BND (binv .int .lss r_5 (Value.int .i64 5)) fun t14_128 =>
  COND t14_128
  (∃ (J_129 : Value → World → Prop) (m_129 : Value → World → Nat), J_129 A_4 w1 ∧ ∀ (_d_129 : Env) (A_130 : Value) (w2 : World), J_129 A_130 w2 →
  (BND (binv .int .lss A_130 s_p2) fun t19_149 =>
  BND (grd (isB t19_149 true) (some L_p0)) fun t21_150 =>
  BND (grd (isB t19_149 true) (some A_130)) fun t22_151 =>
  BND (grd (isB t19_149 true) (iaddr 1 t21_150 t22_151)) fun t23_152 =>
  BND (grd (isB t19_149 true) (some L_p0)) fun t25_153 =>
  BND (grd (isB t19_149 true) (some A_130)) fun t26_154 =>
  BND (grd (isB t19_149 true) (binv .int .sub t26_154 (Value.int .i64 1))) fun t27_155 =>
  BND (grd (isB t19_149 true) (iaddr 1 t25_153 t27_155)) fun t28_156 =>
  BND (grd (isB t19_149 true) (load1 w2.drew t23_152)) fun t24_157 =>
  BND (grd (isB t19_149 true) (load1 w2.drew t28_156)) fun t29_158 =>
  GEF (isB t19_149 true) (fun k_ => CALL PR F_cmp_Less_string [t24_157, t29_158] w2.drew k_) w2.drew fun t30_159 w3 =>
  BND (grd (isB t19_149 true) (unv .not t30_159)) fun t31_160 =>
  BND (pickv t19_149 t31_160 (Value.bool false)) fun t32_161 =>
  COND t32_161
  (BND (binv .int .add A_130 (Value.int .i64 1)) fun t34_162 =>
  (J_129 t34_162 w3 ∧ m_129 t34_162 w3 < m_129 A_130 w2))
  (BND (binv .int .eql A_130 s_p2) fun t37_163 =>
  COND t37_163
  (R (Value.bool true) w3)
  (BND (binv .int .sub s_p2 i_p1) fun t40_164 =>
  BND (binv .int .lss t40_164 (Value.int .i64 50)) fun t41_165 =>
  COND t41_165
  (R (Value.bool false) w3)
  (BND (binv .int .sub A_130 (Value.int .i64 1)) fun t46_166 =>
  BND (binv .int .sub A_130 (Value.int .i64 1)) fun t49_167 =>
  BND (iaddr 1 L_p0 t49_167) fun t50_168 =>
  BND (iaddr 1 L_p0 A_130) fun t54_169 =>
  BND (load1 w3.drew t50_168) fun t51_170 =>
  BND (load1 w3.drew t54_169) fun t55_171 =>
  BND (iaddr 1 L_p0 A_130) fun t56_172 =>
  BND (storev 1 w3.drew t56_172 t51_170) fun w4 =>
  BND (iaddr 1 L_p0 t46_166) fun t57_173 =>
  BND (storev 1 w4 t57_173 t55_171) fun w5 =>
  BND (binv .int .sub A_130 i_p1) fun t60_174 =>
  BND (binv .int .geq t60_174 (Value.int .i64 2)) fun t61_175 =>
  JOIN (α := World → Prop) (fun k_301 => COND t61_175
  (BND (binv .int .sub A_130 (Value.int .i64 1)) fun t63_302 =>
  ∃ (J_303 : Value → World → Prop) (m_303 : Value → World → Nat), J_303 t63_302 w5 ∧ ∀ (_d_303 : Env) (r_304 : Value) (w12 : World), J_303 r_304 w12 →
  (BND (binv .int .geq r_304 (Value.int .i64 1)) fun t65_336 =>
  COND t65_336
  (BND (iaddr 1 L_p0 r_304) fun t70_337 =>
  BND (binv .int .sub r_304 (Value.int .i64 1)) fun t74_338 =>
  BND (iaddr 1 L_p0 t74_338) fun t75_339 =>
  BND (load1 w12.drew t70_337) fun t71_340 =>
  BND (load1 w12.drew t75_339) fun t76_341 =>
  CALL PR F_cmp_Less_string [t71_340, t76_341] w12.drew fun t77_342 w13 =>
  BND (unv .not t77_342) fun t78_343 =>
  COND t78_343
  (k_301 w13)
  (BND (binv .int .sub r_304 (Value.int .i64 1)) fun t83_344 =>
  BND (binv .int .sub r_304 (Value.int .i64 1)) fun t86_345 =>
  BND (iaddr 1 L_p0 t86_345) fun t87_346 =>
  BND (iaddr 1 L_p0 r_304) fun t91_347 =>
  BND (load1 w13.drew t87_346) fun t88_348 =>
  BND (load1 w13.drew t91_347) fun t92_349 =>
  BND (iaddr 1 L_p0 r_304) fun t93_350 =>
  BND (storev 1 w13.drew t93_350 t88_348) fun w14 =>
  BND (iaddr 1 L_p0 t83_344) fun t94_351 =>
  BND (storev 1 w14 t94_351 t92_349) fun w15 =>
  BND (binv .int .sub r_304 (Value.int .i64 1)) fun t67_352 =>
  (J_303 t67_352 w15 ∧ m_303 t67_352 w15 < m_303 r_304 w12)))
  (k_301 w12)))
  (k_301 w5))
  (fun w6 => BND (binv .int .sub s_p2 A_130) fun t97_210 =>
  BND (binv .int .geq t97_210 (Value.int .i64 2)) fun t98_211 =>
  JOIN (α := World → Prop) (fun k_248 => COND t98_211
  (BND (binv .int .add A_130 (Value.int .i64 1)) fun t100_249 =>
  ∃ (J_250 : Value → World → Prop) (m_250 : Value → World → Nat), J_250 t100_249 w6 ∧ ∀ (_d_250 : Env) (a_251 : Value) (w8 : World), J_250 a_251 w8 →
  (BND (binv .int .lss a_251 s_p2) fun t103_284 =>
  COND t103_284
  (BND (iaddr 1 L_p0 a_251) fun t108_285 =>
  BND (binv .int .sub a_251 (Value.int .i64 1)) fun t112_286 =>
  BND (iaddr 1 L_p0 t112_286) fun t113_287 =>
  BND (load1 w8.drew t108_285) fun t109_288 =>
  BND (load1 w8.drew t113_287) fun t114_289 =>
  CALL PR F_cmp_Less_string [t109_288, t114_289] w8.drew fun t115_290 w9 =>
  BND (unv .not t115_290) fun t116_291 =>
  COND t116_291
  (k_248 w9)
  (BND (binv .int .sub a_251 (Value.int .i64 1)) fun t121_292 =>
  BND (binv .int .sub a_251 (Value.int .i64 1)) fun t124_293 =>
  BND (iaddr 1 L_p0 t124_293) fun t125_294 =>
  BND (iaddr 1 L_p0 a_251) fun t129_295 =>
  BND (load1 w9.drew t125_294) fun t126_296 =>
  BND (load1 w9.drew t129_295) fun t130_297 =>
  BND (iaddr 1 L_p0 a_251) fun t131_298 =>
  BND (storev 1 w9.drew t131_298 t126_296) fun w10 =>
  BND (iaddr 1 L_p0 t121_292) fun t132_299 =>
  BND (storev 1 w10 t132_299 t130_297) fun w11 =>
  BND (binv .int .add a_251 (Value.int .i64 1)) fun t105_300 =>
  (J_250 t105_300 w11 ∧ m_250 t105_300 w11 < m_250 a_251 w8)))
  (k_248 w8)))
  (k_248 w6))
  (fun w7 => BND (binv .int .add r_5 (Value.int .i64 1)) fun t16_247 =>
  (J_2 A_130 t16_247 w7 ∧ m_2 A_130 t16_247 w7 < m_2 A_4 r_5 w1))))))))
  (R (Value.bool false) w1))
def ann_slices_partialInsertionSortOrdered_string : List (Nat × List Nat) := [(5, [0, 1, 2, 3, 4, 5, 6, 8, 9, 10, 11, 7, 12, 13, 14, 15]), (11, [0, 1, 2, 3, 4, 5, 6, 7, 8, 10, 11, 12, 9, 13, 14, 15, 16, 17]), (16, [0, 1, 2, 4, 5, 6, 7, 3, 8, 9, 10]), (17, [0, 1, 2, 3, 4, 5, 6, 7, 8, 10, 11, 12, 9, 13, 14, 15, 16, 17]), (22, [0, 1, 2, 4, 5, 6, 7, 3, 8, 9, 10]), (23, [0, 1, 2, 3, 4, 5, 6, 7, 8, 10, 11, 12, 9, 13, 14, 15, 16, 17]), (1000003, [7, 8]), (1000005, [7]), (1000014, [9]), (1000020, [10])]
theorem E_slices_partialInsertionSortOrdered_string (L_p0 i_p1 s_p2 : Value) (w : World) (R : Value → World → Prop) : M_slices_partialInsertionSortOrdered_string L_p0 i_p1 s_p2 w R = den PR ann_slices_partialInsertionSortOrdered_string (bodyOf Try.f78) (retQ PR Try.f78.results.toList R) (env0 [L_p0, i_p1, s_p2]) w := by kernel_rfl
theorem C_slices_partialInsertionSortOrdered_string {L_p0 i_p1 s_p2 : Value} {w : World} {R : Value → World → Prop} (h : M_slices_partialInsertionSortOrdered_string L_p0 i_p1 s_p2 w R) : CALL PR F_slices_partialInsertionSortOrdered_string [L_p0, i_p1, s_p2] w R :=
  call_of_den2 ann_slices_partialInsertionSortOrdered_string Try.func78 (by kernel_rfl) (by kernel_rfl) (by kernel_rfl) ((E_slices_partialInsertionSortOrdered_string L_p0 i_p1 s_p2 w R) ▸ h)


-- 79 cmp.Less[string]
def M_cmp_Less_string (x_p0 y_p1 : Value) (w : World) (R : Value → World → Prop) : Prop :=
  CALL PR F_cmp_isNaN_string [x_p0] w fun t6_1 w1 =>
  BND (grd (isB t6_1 true) (some y_p1)) fun t8_2 =>
  GEF (isB t6_1 true) (fun k_ => CALL PR F_cmp_isNaN_string [t8_2] w1 k_) w1 fun t9_3 w2 =>
  BND (grd (isB t6_1 true) (unv .not t9_3)) fun t10_4 =>
  BND (pickv t6_1 t10_4 (Value.bool false)) fun t11_5 =>
  BND (grd (isB t11_5 false) (some x_p0)) fun t13_6 =>
  BND (grd (isB t11_5 false) (some y_p1)) fun t14_7 =>
  BND (grd (isB t11_5 false) (binv .str .lss t13_6 t14_7)) fun t15_8 =>
  BND (pickv t11_5 (Value.bool true) t15_8) fun t16_9 =>
  R t16_9 w2
def ann_cmp_Less_string : List (Nat × List Nat) := []
theorem E_cmp_Less_string (x_p0 y_p1 : Value) (w : World) (R : Value → World → Prop) : M_cmp_Less_string x_p0 y_p1 w R = den PR ann_cmp_Less_string (bodyOf Try.f79) (retQ PR Try.f79.results.toList R) (env0 [x_p0, y_p1]) w := by kernel_rfl
theorem C_cmp_Less_string {x_p0 y_p1 : Value} {w : World} {R : Value → World → Prop} (h : M_cmp_Less_string x_p0 y_p1 w R) : CALL PR F_cmp_Less_string [x_p0, y_p1] w R :=
  call_of_den2 ann_cmp_Less_string Try.func79 (by kernel_rfl) (by kernel_rfl) (by kernel_rfl) ((E_cmp_Less_string x_p0 y_p1 w R) ▸ h)


-- 80 slices.partitionEqualOrdered[string]
def M_slices_partitionEqualOrdered_string (L_p0 i_p1 s_p2 t_p3 : Value) (w : World) (R : Value → World → Prop) : Prop :=
  BND (iaddr 1 L_p0 t_p3) fun t17_1 =>
  BND (iaddr 1 L_p0 i_p1) fun t21_2 =>
  BND (load1 w.drew t17_1) fun t18_3 =>
  BND (load1 w.drew t21_2) fun t22_4 =>
  BND (iaddr 1 L_p0 i_p1) fun t23_5 =>
  BND (storev 1 w.drew t23_5 t18_3) fun w1 =>
  BND (iaddr 1 L_p0 t_p3) fun t24_6 =>
  BND (storev 1 w1 t24_6 t22_4) fun w2 =>
  BND (binv .int .add i_p1 (Value.int .i64 1)) fun t26_7 =>
  BND (binv .int .sub s_p2 (Value.int .i64 1)) fun t28_8 =>
  ∃ (J_9 : Value → Value → World → Prop) (m_9 : Value → Value → World → Nat), J_9 t26_7 t28_8 w2 ∧ ∀ (_d_9 : Env) (r_10 a_11 : Value) (w3 : World), J_9 r_10 a_11 w3 →
  (∃ (J_66 : Value → World → Prop) (m_66 : Value → World → Nat), J_66 r_10 w3 ∧ ∀ (_d_66 : Env) (r_67 : Value) (w4 : World), J_66 r_67 w4 →
  (BND (binv .int .leq r_67 a_11) fun t31_85 =>
  BND (grd (isB t31_85 true) (some L_p0)) fun t33_86 =>
  BND (grd (isB t31_85 true) (some i_p1)) fun t34_87 =>
  BND (grd (isB t31_85 true) (iaddr 1 t33_86 t34_87)) fun t35_88 =>
  BND (grd (isB t31_85 true) (some L_p0)) fun t37_89 =>
  BND (grd (isB t31_85 true) (some r_67)) fun t38_90 =>
  BND (grd (isB t31_85 true) (iaddr 1 t37_89 t38_90)) fun t39_91 =>
  BND (grd (isB t31_85 true) (load1 w4.drew t35_88)) fun t36_92 =>
  BND (grd (isB t31_85 true) (load1 w4.drew t39_91)) fun t40_93 =>
  GEF (isB t31_85 true) (fun k_ => CALL PR F_cmp_Less_string [t36_92, t40_93] w4.drew k_) w4.drew fun t41_94 w5 =>
  BND (grd (isB t31_85 true) (unv .not t41_94)) fun t42_95 =>
  BND (pickv t31_85 t42_95 (Value.bool false)) fun t43_96 =>
  COND t43_96
  (BND (binv .int .add r_67 (Value.int .i64 1)) fun t45_97 =>
  (J_66 t45_97 w5 ∧ m_66 t45_97 w5 < m_66 r_67 w4))
  (∃ (J_98 : Value → World → Prop) (m_98 : Value → World → Nat), J_98 a_11 w5 ∧ ∀ (_d_98 : Env) (a_99 : Value) (w6 : World), J_98 a_99 w6 →
  (BND (binv .int .leq r_67 a_99) fun t48_116 =>
  BND (grd (isB t48_116 true) (some L_p0)) fun t50_117 =>
  BND (grd (isB t48_116 true) (some i_p1)) fun t51_118 =>
  BND (grd (isB t48_116 true) (iaddr 1 t50_117 t51_118)) fun t52_119 =>
  BND (grd (isB t48_116 true) (some L_p0)) fun t54_120 =>
  BND (grd (isB t48_116 true) (some a_99)) fun t55_121 =>
  BND (grd (isB t48_116 true) (iaddr 1 t54_120 t55_121)) fun t56_122 =>
  BND (grd (isB t48_116 true) (load1 w6.drew t52_119)) fun t53_123 =>
  BND (grd (isB t48_116 true) (load1 w6.drew t56_122)) fun t57_124 =>
  GEF (isB t48_116 true) (fun k_ => CALL PR F_cmp_Less_string [t53_123, t57_124] w6.drew k_) w6.drew fun t58_125 w7 =>
  BND (pickv t48_116 t58_125 (Value.bool false)) fun t59_126 =>
  COND t59_126
  (BND (binv .int .sub a_99 (Value.int .i64 1)) fun t61_127 =>
  (J_98 t61_127 w7 ∧ m_98 t61_127 w7 < m_98 a_99 w6))
  (BND (binv .int .gtr r_67 a_99) fun t64_128 =>
  COND t64_128
  (R r_67 w7)
  (BND (iaddr 1 L_p0 a_99) fun t71_129 =>
  BND (iaddr 1 L_p0 r_67) fun t75_130 =>
  BND (load1 w7.drew t71_129) fun t72_131 =>
  BND (load1 w7.drew t75_130) fun t76_132 =>
  BND (iaddr 1 L_p0 r_67) fun t77_133 =>
  BND (storev 1 w7.drew t77_133 t72_131) fun w8 =>
  BND (iaddr 1 L_p0 a_99) fun t78_134 =>
  BND (storev 1 w8 t78_134 t76_132) fun w9 =>
  BND (binv .int .add r_67 (Value.int .i64 1)) fun t80_135 =>
  BND (binv .int .sub a_99 (Value.int .i64 1)) fun t82_136 =>
  (J_9 t80_135 t82_136 w9 ∧ m_9 t80_135 t82_136 w9 < m_9 r_10 a_11 w3)))))))
def ann_slices_partitionEqualOrdered_string : List (Nat × List Nat) := [(1, [0, 1, 2, 3, 4, 5, 6, 8, 9, 10, 7, 11, 12, 13, 14, 15]), (3, [0, 1, 2, 3, 4, 5, 6, 8, 9, 10, 7, 11, 12, 13, 14]), (5, [0, 1, 2, 3, 4, 5, 6, 8, 9, 10, 7, 11, 12, 13]), (8, [0, 1, 2, 3, 4, 5, 6, 8, 9, 10, 7, 11, 12, 13, 14, 15]), (1000003, [9]), (1000005, [10]), (1100003, [9, 10])]
theorem E_slices_partitionEqualOrdered_string (L_p0 i_p1 s_p2 t_p3 : Value) (w : World) (R : Value → World → Prop) : M_slices_partitionEqualOrdered_string L_p0 i_p1 s_p2 t_p3 w R = den PR ann_slices_partitionEqualOrdered_string (bodyOf Try.f80) (retQ PR Try.f80.results.toList R) (env0 [L_p0, i_p1, s_p2, t_p3]) w := by kernel_rfl
theorem C_slices_partitionEqualOrdered_string {L_p0 i_p1 s_p2 t_p3 : Value} {w : World} {R : Value → World → Prop} (h : M_slices_partitionEqualOrdered_string L_p0 i_p1 s_p2 t_p3 w R) : CALL PR F_slices_partitionEqualOrdered_string [L_p0, i_p1, s_p2, t_p3] w R :=
  call_of_den2 ann_slices_partitionEqualOrdered_string Try.func80 (by kernel_rfl) (by kernel_rfl) (by kernel_rfl) ((E_slices_partitionEqualOrdered_string L_p0 i_p1 s_p2 t_p3 w R) ▸ h)


-- 81 slices.partitionOrdered[string]
def M_slices_partitionOrdered_string (L_p0 i_p1 s_p2 t_p3 : Value) (w : World) (R : Value → World → Prop) : Prop :=
  BND (iaddr 1 L_p0 t_p3) fun t18_1 =>
  BND (iaddr 1 L_p0 i_p1) fun t22_2 =>
  BND (load1 w.drew t18_1) fun t19_3 =>
  BND (load1 w.drew t22_2) fun t23_4 =>
  BND (iaddr 1 L_p0 i_p1) fun t24_5 =>
  BND (storev 1 w.drew t24_5 t19_3) fun w1 =>
  BND (iaddr 1 L_p0 t_p3) fun t25_6 =>
  BND (storev 1 w1 t25_6 t23_4) fun w2 =>
  BND (binv .int .add i_p1 (Value.int .i64 1)) fun t27_7 =>
  BND (binv .int .sub s_p2 (Value.int .i64 1)) fun t29_8 =>
  ∃ (J_9 : Value → World → Prop) (m_9 : Value → World → Nat), J_9 t27_7 w2 ∧ ∀ (_d_9 : Env) (a_10 : Value) (w3 : World), J_9 a_10 w3 →
  (BND (binv .int .leq a_10 t29_8) fun t32_27 =>
  BND (grd (isB t32_27 true) (some L_p0)) fun t34_28 =>
  BND (grd (isB t32_27 true) (some a_10)) fun t35_29 =>
  BND (grd (isB t32_27 true) (iaddr 1 t34_28 t35_29)) fun t36_30 =>
  BND (grd (isB t32_27 true) (some L_p0)) fun t38_31 =>
  BND (grd (isB t32_27 true) (some i_p1)) fun t39_32 =>
  BND (grd (isB t32_27 true) (iaddr 1 t38_31 t39_32)) fun t40_33 =>
  BND (grd (isB t32_27 true) (load1 w3.drew t36_30)) fun t37_34 =>
  BND (grd (isB t32_27 true) (load1 w3.drew t40_33)) fun t41_35 =>
  GEF (isB t32_27 true) (fun k_ => CALL PR F_cmp_Less_string [t37_34, t41_35] w3.drew k_) w3.drew fun t42_36 w4 =>
  BND (pickv t32_27 t42_36 (Value.bool false)) fun t43_37 =>
  COND t43_37
  (BND (binv .int .add a_10 (Value.int .i64 1)) fun t45_38 =>
  (J_9 t45_38 w4 ∧ m_9 t45_38 w4 < m_9 a_10 w3))
  (∃ (J_39 : Value → World → Prop) (m_39 : Value → World → Nat), J_39 t29_8 w4 ∧ ∀ (_d_39 : Env) (y_40 : Value) (w5 : World), J_39 y_40 w5 →
  (BND (binv .int .leq a_10 y_40) fun t48_58 =>
  BND (grd (isB t48_58 true) (some L_p0)) fun t50_59 =>
  BND (grd (isB t48_58 true) (some y_40)) fun t51_60 =>
  BND (grd (isB t48_58 true) (iaddr 1 t50_59 t51_60)) fun t52_61 =>
  BND (grd (isB t48_58 true) (some L_p0)) fun t54_62 =>
  BND (grd (isB t48_58 true) (some i_p1)) fun t55_63 =>
  BND (grd (isB t48_58 true) (iaddr 1 t54_62 t55_63)) fun t56_64 =>
  BND (grd (isB t48_58 true) (load1 w5.drew t52_61)) fun t53_65 =>
  BND (grd (isB t48_58 true) (load1 w5.drew t56_64)) fun t57_66 =>
  GEF (isB t48_58 true) (fun k_ => CALL PR F_cmp_Less_string [t53_65, t57_66] w5.drew k_) w5.drew fun t58_67 w6 =>
  BND (grd (isB t48_58 true) (unv .not t58_67)) fun t59_68 =>
  BND (pickv t48_58 t59_68 (Value.bool false)) fun t60_69 =>
  COND t60_69
  (BND (binv .int .sub y_40 (Value.int .i64 1)) fun t62_70 =>
  (J_39 t62_70 w6 ∧ m_39 t62_70 w6 < m_39 y_40 w5))
  (BND (binv .int .gtr a_10 y_40) fun t65_71 =>
  COND t65_71
  (BND (iaddr 1 L_p0 i_p1) fun t72_72 =>
  BND (iaddr 1 L_p0 y_40) fun t76_73 =>
  BND (load1 w6.drew t72_72) fun t73_74 =>
  BND (load1 w6.drew t76_73) fun t77_75 =>
  BND (iaddr 1 L_p0 y_40) fun t78_76 =>
  BND (storev 1 w6.drew t78_76 t73_74) fun w7 =>
  BND (iaddr 1 L_p0 i_p1) fun t79_77 =>
  BND (storev 1 w7 t79_77 t77_75) fun w8 =>
  R (.tuple #[y_40, (Value.bool true)]) w8)
  (BND (iaddr 1 L_p0 y_40) fun t87_78 =>
  BND (iaddr 1 L_p0 a_10) fun t91_79 =>
  BND (load1 w6.drew t87_78) fun t88_80 =>
  BND (load1 w6.drew t91_79) fun t92_81 =>
  BND (iaddr 1 L_p0 a_10) fun t93_82 =>
  BND (storev 1 w6.drew t93_82 t88_80) fun w9 =>
  BND (iaddr 1 L_p0 y_40) fun t94_83 =>
  BND (storev 1 w9 t94_83 t92_81) fun w10 =>
  BND (binv .int .add a_10 (Value.int .i64 1)) fun t96_84 =>
  BND (binv .int .sub y_40 (Value.int .i64 1)) fun t98_85 =>
  ∃ (J_86 : Value → Value → World → Prop) (m_86 : Value → Value → World → Nat), J_86 t96_84 t98_85 w10 ∧ ∀ (_d_86 : Env) (a_87 y_88 : Value) (w11 : World), J_86 a_87 y_88 w11 →
  (∃ (J_143 : Value → World → Prop) (m_143 : Value → World → Nat), J_143 a_87 w11 ∧ ∀ (_d_143 : Env) (a_144 : Value) (w12 : World), J_143 a_144 w12 →
  (BND (binv .int .leq a_144 y_88) fun t101_161 =>
  BND (grd (isB t101_161 true) (some L_p0)) fun t103_162 =>
  BND (grd (isB t101_161 true) (some a_144)) fun t104_163 =>
  BND (grd (isB t101_161 true) (iaddr 1 t103_162 t104_163)) fun t105_164 =>
  BND (grd (isB t101_161 true) (some L_p0)) fun t107_165 =>
  BND (grd (isB t101_161 true) (some i_p1)) fun t108_166 =>
  BND (grd (isB t101_161 true) (iaddr 1 t107_165 t108_166)) fun t109_167 =>
  BND (grd (isB t101_161 true) (load1 w12.drew t105_164)) fun t106_168 =>
  BND (grd (isB t101_161 true) (load1 w12.drew t109_167)) fun t110_169 =>
  GEF (isB t101_161 true) (fun k_ => CALL PR F_cmp_Less_string [t106_168, t110_169] w12.drew k_) w12.drew fun t111_170 w13 =>
  BND (pickv t101_161 t111_170 (Value.bool false)) fun t112_171 =>
  COND t112_171
  (BND (binv .int .add a_144 (Value.int .i64 1)) fun t114_172 =>
  (J_143 t114_172 w13 ∧ m_143 t114_172 w13 < m_143 a_144 w12))
  (∃ (J_173 : Value → World → Prop) (m_173 : Value → World → Nat), J_173 y_88 w13 ∧ ∀ (_d_173 : Env) (y_174 : Value) (w14 : World), J_173 y_174 w14 →
  (BND (binv .int .leq a_144 y_174) fun t117_192 =>
  BND (grd (isB t117_192 true) (some L_p0)) fun t119_193 =>
  BND (grd (isB t117_192 true) (some y_174)) fun t120_194 =>
  BND (grd (isB t117_192 true) (iaddr 1 t119_193 t120_194)) fun t121_195 =>
  BND (grd (isB t117_192 true) (some L_p0)) fun t123_196 =>
  BND (grd (isB t117_192 true) (some i_p1)) fun t124_197 =>
  BND (grd (isB t117_192 true) (iaddr 1 t123_196 t124_197)) fun t125_198 =>
  BND (grd (isB t117_192 true) (load1 w14.drew t121_195)) fun t122_199 =>
  BND (grd (isB t117_192 true) (load1 w14.drew t125_198)) fun t126_200 =>
  GEF (isB t117_192 true) (fun k_ => CALL PR F_cmp_Less_string [t122_199, t126_200] w14.drew k_) w14.drew fun t127_201 w15 =>
  BND (grd (isB t117_192 true) (unv .not t127_201)) fun t128_202 =>
  BND (pickv t117_192 t128_202 (Value.bool false)) fun t129_203 =>
  COND t129_203
  (BND (binv .int .sub y_174 (Value.int .i64 1)) fun t131_204 =>
  (J_173 t131_204 w15 ∧ m_173 t131_204 w15 < m_173 y_174 w14))
  (BND (binv .int .gtr a_144 y_174) fun t134_205 =>
  COND t134_205
  (BND (iaddr 1 L_p0 i_p1) fun t159_206 =>
  BND (iaddr 1 L_p0 y_174) fun t163_207 =>
  BND (load1 w15.drew t159_206) fun t160_208 =>
  BND (load1 w15.drew t163_207) fun t164_209 =>
  BND (iaddr 1 L_p0 y_174) fun t165_210 =>
  BND (storev 1 w15.drew t165_210 t160_208) fun w16 =>
  BND (iaddr 1 L_p0 i_p1) fun t166_211 =>
  BND (storev 1 w16 t166_211 t164_209) fun w17 =>
  R (.tuple #[y_174, (Value.bool false)]) w17)
  (BND (iaddr 1 L_p0 y_174) fun t141_212 =>
  BND (iaddr 1 L_p0 a_144) fun t145_213 =>
  BND (load1 w15.drew t141_212) fun t142_214 =>
  BND (load1 w15.drew t145_213) fun t146_215 =>
  BND (iaddr 1 L_p0 a_144) fun t147_216 =>
  BND (storev 1 w15.drew t147_216 t142_214) fun w18 =>
  BND (iaddr 1 L_p0 y_174) fun t148_217 =>
  BND (storev 1 w18 t148_217 t146_215) fun w19 =>
  BND (binv .int .add a_144 (Value.int .i64 1)) fun t150_218 =>
  BND (binv .int .sub y_174 (Value.int .i64 1)) fun t152_219 =>
  (J_86 t150_218 t152_219 w19 ∧ m_86 t150_218 t152_219 w19 < m_86 a_87 y_88 w11))))))))))))
def ann_slices_partitionOrdered_string : List (Nat × List Nat) := [(1, [0, 1, 2, 3, 4, 5, 6, 8, 9, 10, 7, 11, 12, 13, 14, 15]), (3, [0, 1, 2, 3, 4, 5, 6, 8, 9, 10, 7, 11, 12, 13]), (5, [0, 1, 2, 3, 4, 5, 6, 8, 9, 10, 7, 11, 12, 13, 14]), (8, [0, 1, 2, 3, 4, 5, 6, 8, 9, 10, 7, 11, 12, 13, 14, 15]), (10, [0, 1, 2, 3, 4, 5, 6, 8, 9, 10, 7, 11, 12, 13, 14, 15]), (13, [0, 1, 2, 3, 4, 5, 6, 8, 9, 10, 7, 11, 12, 13]), (15, [0, 1, 2, 3, 4, 5, 6, 8, 9, 10, 7, 11, 12, 13, 14]), (18, [0, 1, 2, 3, 4, 5, 6, 8, 9, 10, 7, 11, 12, 13, 14, 15]), (21, [0, 1, 2, 3, 4, 5, 6, 8, 9, 10, 7, 11, 12, 13, 14, 15]), (1000003, [10]), (1000005, [11]), (1000013, [10]), (1000015, [11]), (1100013, [10, 11])]
theorem E_slices_partitionOrdered_string (L_p0 i_p1 s_p2 t_p3 : Value) (w : World) (R : Value → World → Prop) : M_slices_partitionOrdered_string L_p0 i_p1 s_p2 t_p3 w R = den PR ann_slices_partitionOrdered_string (bodyOf Try.f81) (retQ PR Try.f81.results.toList R) (env0 [L_p0, i_p1, s_p2, t_p3]) w := by kernel_rfl
theorem C_slices_partitionOrdered_string {L_p0 i_p1 s_p2 t_p3 : Value} {w : World} {R : Value → World → Prop} (h : M_slices_partitionOrdered_string L_p0 i_p1 s_p2 t_p3 w R) : CALL PR F_slices_partitionOrdered_string [L_p0, i_p1, s_p2, t_p3] w R :=
  call_of_den2 ann_slices_partitionOrdered_string Try.func81 (by kernel_rfl) (by kernel_rfl) (by kernel_rfl) ((E_slices_partitionOrdered_string L_p0 i_p1 s_p2 t_p3 w R) ▸ h)


-- 82 math.bits.Len32
def M_math_bits_Len32 (x_p0 : Value) (w : World) (R : Value → World → Prop) : Prop :=
  BND (binv .int .geq x_p0 (Value.int .u32 65536)) fun t4_1 =>
  JOIN (α := Value → Value → World → Prop) (fun k_20 => COND t4_1
  (BND (shiftv .shr x_p0 (Value.int .u64 16)) fun t6_21 =>
  k_20 t6_21 (Value.int .i64 16) w)
  (k_20 x_p0 (Value.int .i64 0) w))
  (fun x_2 n_3 w1 => BND (binv .int .geq x_2 (Value.int .u32 256)) fun t8_6 =>
  JOIN (α := Value → Value → World → Prop) (fun k_17 => COND t8_6
  (BND (shiftv .shr x_2 (Value.int .u64 8)) fun t10_18 =>
  BND (binv .int .add n_3 (Value.int .i64 8)) fun t12_19 =>
  k_17 t10_18 t12_19 w1)
  (k_17 x_2 n_3 w1))
  (fun x_7 n_8 w2 => BND (convi .u8 x_7) fun t15_13 =>
  BND (indexs (Value.string { data := (List.toArray (List.append (List.append [0, 1, 2, 2, 3, 3, 3, 3, 4, 4, 4, 4, 4, 4, 4, 4, 5, 5, 5, 5, 5, 5, 5, 5, 5, 5, 5, 5, 5, 5, 5, 5, 6, 6, 6, 6, 6, 6, 6, 6, 6, 6, 6, 6, 6, 6, 6, 6, 6, 6, 6, 6, 6, 6, 6, 6, 6, 6, 6, 6, 6, 6, 6, 6] [7, 7, 7, 7, 7, 7, 7, 7, 7, 7, 7, 7, 7, 7, 7, 7, 7, 7, 7, 7, 7, 7, 7, 7, 7, 7, 7, 7, 7, 7, 7, 7, 7, 7, 7, 7, 7, 7, 7, 7, 7, 7, 7, 7, 7, 7, 7, 7, 7, 7, 7, 7, 7, 7, 7, 7, 7, 7, 7, 7, 7, 7, 7, 7]) (List.append [8, 8, 8, 8, 8, 8, 8, 8, 8, 8, 8, 8, 8, 8, 8, 8, 8, 8, 8, 8, 8, 8, 8, 8, 8, 8, 8, 8, 8, 8, 8, 8, 8, 8, 8, 8, 8, 8, 8, 8, 8, 8, 8, 8, 8, 8, 8, 8, 8, 8, 8, 8, 8, 8, 8, 8, 8, 8, 8, 8, 8, 8, 8, 8] [8, 8, 8, 8, 8, 8, 8, 8, 8, 8, 8, 8, 8, 8, 8, 8, 8, 8, 8, 8, 8, 8, 8, 8, 8, 8, 8, 8, 8, 8, 8, 8, 8, 8, 8, 8, 8, 8, 8, 8, 8, 8, 8, 8, 8, 8, 8, 8, 8, 8, 8, 8, 8, 8, 8, 8, 8, 8, 8, 8, 8, 8, 8, 8]))) }) t15_13) fun t16_14 =>
  BND (convi .i64 t16_14) fun t17_15 =>
  BND (binv .int .add n_8 t17_15) fun t18_16 =>
  R t18_16 w2))
def ann_math_bits_Len32 : List (Nat × List Nat) := []
theorem E_math_bits_Len32 (x_p0 : Value) (w : World) (R : Value → World → Prop) : M_math_bits_Len32 x_p0 w R = den PR ann_math_bits_Len32 (bodyOf Try.f82) (retQ PR Try.f82.results.toList R) (env0 [x_p0]) w := by kernel_rfl
theorem C_math_bits_Len32 {x_p0 : Value} {w : World} {R : Value → World → Prop} (h : M_math_bits_Len32 x_p0 w R) : CALL PR F_math_bits_Len32 [x_p0] w R :=
  call_of_den2 ann_math_bits_Len32 Try.func82 (by kernel_rfl) (by kernel_rfl) (by kernel_rfl) ((E_math_bits_Len32 x_p0 w R) ▸ h)


-- 83 math.bits.Len64
def M_math_bits_Len64 (x_p0 : Value) (w : World) (R : Value → World → Prop) : Prop :=
  BND (binv .int .geq x_p0 (Value.int .u64 4294967296)) fun t4_1 =>
  JOIN (α := Value → Value → World → Prop) (fun k_30 => COND t4_1
  (BND (shiftv .shr x_p0 (Value.int .u64 32)) fun t6_31 =>
  k_30 t6_31 (Value.int .i64 32) w)
  (k_30 x_p0 (Value.int .i64 0) w))
  (fun x_2 n_3 w1 => BND (binv .int .geq x_2 (Value.int .u64 65536)) fun t8_6 =>
  JOIN (α := Value → Value → World → Prop) (fun k_27 => COND t8_6
  (BND (shiftv .shr x_2 (Value.int .u64 16)) fun t10_28 =>
  BND (binv .int .add n_3 (Value.int .i64 16)) fun t12_29 =>
  k_27 t10_28 t12_29 w1)
  (k_27 x_2 n_3 w1))
  (fun x_7 n_8 w2 => BND (binv .int .geq x_7 (Value.int .u64 256)) fun t14_13 =>
  JOIN (α := Value → Value → World → Prop) (fun k_24 => COND t14_13
  (BND (shiftv .shr x_7 (Value.int .u64 8)) fun t16_25 =>
  BND (binv .int .add n_8 (Value.int .i64 8)) fun t18_26 =>
  k_24 t16_25 t18_26 w2)
  (k_24 x_7 n_8 w2))
  (fun x_14 n_15 w3 => BND (convi .u8 x_14) fun t21_20 =>
  BND (indexs (Value.string { data := (List.toArray (List.append (List.append [0, 1, 2, 2, 3, 3, 3, 3, 4, 4, 4, 4, 4, 4, 4, 4, 5, 5, 5, 5, 5, 5, 5, 5, 5, 5, 5, 5, 5, 5, 5, 5, 6, 6, 6, 6, 6, 6, 6, 6, 6, 6, 6, 6, 6, 6, 6, 6, 6, 6, 6, 6, 6, 6, 6, 6, 6, 6, 6, 6, 6, 6, 6, 6] [7, 7, 7, 7, 7, 7, 7, 7, 7, 7, 7, 7, 7, 7, 7, 7, 7, 7, 7, 7, 7, 7, 7, 7, 7, 7, 7, 7, 7, 7, 7, 7, 7, 7, 7, 7, 7, 7, 7, 7, 7, 7, 7, 7, 7, 7, 7, 7, 7, 7, 7, 7, 7, 7, 7, 7, 7, 7, 7, 7, 7, 7, 7, 7]) (List.append [8, 8, 8, 8, 8, 8, 8, 8, 8, 8, 8, 8, 8, 8, 8, 8, 8, 8, 8, 8, 8, 8, 8, 8, 8, 8, 8, 8, 8, 8, 8, 8, 8, 8, 8, 8, 8, 8, 8, 8, 8, 8, 8, 8, 8, 8, 8, 8, 8, 8, 8, 8, 8, 8, 8, 8, 8, 8, 8, 8, 8, 8, 8, 8] [8, 8, 8, 8, 8, 8, 8, 8, 8, 8, 8, 8, 8, 8, 8, 8, 8, 8, 8, 8, 8, 8, 8, 8, 8, 8, 8, 8, 8, 8, 8, 8, 8, 8, 8, 8, 8, 8, 8, 8, 8, 8, 8, 8, 8, 8, 8, 8, 8, 8, 8, 8, 8, 8, 8, 8, 8, 8, 8, 8, 8, 8, 8, 8]))) }) t21_20) fun t22_21 =>
  BND (convi .i64 t22_21) fun t23_22 =>
  BND (binv .int .add n_15 t23_22) fun t24_23 =>
  R t24_23 w3)))
def ann_math_bits_Len64 : List (Nat × List Nat) := []
theorem E_math_bits_Len64 (x_p0 : Value) (w : World) (R : Value → World → Prop) : M_math_bits_Len64 x_p0 w R = den PR ann_math_bits_Len64 (bodyOf Try.f83) (retQ PR Try.f83.results.toList R) (env0 [x_p0]) w := by kernel_rfl
theorem C_math_bits_Len64 {x_p0 : Value} {w : World} {R : Value → World → Prop} (h : M_math_bits_Len64 x_p0 w R) : CALL PR F_math_bits_Len64 [x_p0] w R :=
  call_of_den2 ann_math_bits_Len64 Try.func83 (by kernel_rfl) (by kernel_rfl) (by kernel_rfl) ((E_math_bits_Len64 x_p0 w R) ▸ h)


-- 85 tumbrel.sum.More
def M_sum_More (sum_p0 b_p1 : Value) (w : World) (R : Value → World → Prop) : Prop :=
  CALL PR F_sum_Table [] w fun t8_1 w1 =>
  NEW (newv 147 w1 (Value.agg (List.replicate 256 (Value.int .u32 0)).toArray)) fun t_2 w2 =>
  BND (storev 256 w2 t_2 t8_1) fun w3 =>
  BND (unv .xor sum_p0) fun t10_3 =>
  BND (lenl b_p1) fun t12_4 =>
  ∃ (J_5 : Value → Value → World → Prop) (m_5 : Value → Value → World → Nat), J_5 t10_3 (Value.int .i64 0) w3 ∧ ∀ (_d_5 : Env) (sum_6 t13_8 : Value) (w4 : World), J_5 sum_6 t13_8 w4 →
  (BND (binv .int .lss t13_8 t12_4) fun t14_22 =>
  COND t14_22
  (BND (iaddr 1 b_p1 t13_8) fun t15_23 =>
  BND (load1 w4 t15_23) fun t16_24 =>
  BND (shiftv .shr sum_6 (Value.int .u64 8)) fun t18_25 =>
  BND (convi .u8 sum_6) fun t20_26 =>
  BND (binv .int .xor t20_26 t16_24) fun t22_27 =>
  BND (iaddra 256 1 t_2 t22_27) fun t23_28 =>
  BND (load1 w4 t23_28) fun t24_29 =>
  BND (binv .int .xor t18_25 t24_29) fun t25_30 =>
  BND (binv .int .add t13_8 (Value.int .i64 1)) fun t26_31 =>
  (J_5 t25_30 t26_31 w4 ∧ m_5 t25_30 t26_31 w4 < m_5 sum_6 t13_8 w4))
  (BND (unv .xor sum_6) fun t28_32 =>
  R t28_32 w4))
def ann_sum_More : List (Nat × List Nat) := [(1000004, [0, 13])]
theorem E_sum_More (sum_p0 b_p1 : Value) (w : World) (R : Value → World → Prop) : M_sum_More sum_p0 b_p1 w R = den PR ann_sum_More (bodyOf Try.f85) (retQ PR Try.f85.results.toList R) (env0 [sum_p0, b_p1]) w := by kernel_rfl
theorem C_sum_More {sum_p0 b_p1 : Value} {w : World} {R : Value → World → Prop} (h : M_sum_More sum_p0 b_p1 w R) : CALL PR F_sum_More [sum_p0, b_p1] w R :=
  call_of_den2 ann_sum_More Try.func85 (by kernel_rfl) (by kernel_rfl) (by kernel_rfl) ((E_sum_More sum_p0 b_p1 w R) ▸ h)


-- 86 slices.Equal[[]byte,byte]
def M_slices_Equal_byte_byte (s1_p0 s2_p1 : Value) (w : World) (R : Value → World → Prop) : Prop :=
  BND (lenl s1_p0) fun t7_1 =>
  BND (lenl s2_p1) fun t9_2 =>
  BND (binv .int .neq t7_1 t9_2) fun t10_3 =>
  COND t10_3
  (R (Value.bool false) w)
  (BND (lenl s1_p0) fun t12_4 =>
  ∃ (J_5 : Value → World → Prop) (m_5 : Value → World → Nat), J_5 (Value.int .i64 0) w ∧ ∀ (_d_5 : Env) (t13_8 : Value) (w1 : World), J_5 t13_8 w1 →
  (BND (binv .int .lss t13_8 t12_4) fun t14_21 =>
  COND t14_21
  (BND (iaddr 1 s1_p0 t13_8) fun t18_22 =>
  BND (iaddr 1 s2_p1 t13_8) fun t22_23 =>
  BND (load1 w1.drew t18_22) fun t19_24 =>
  BND (load1 w1.drew t22_23) fun t23_25 =>
  BND (binv .int .neq t19_24 t23_25) fun t24_26 =>
  COND t24_26
  (R (Value.bool false) w1.drew)
  (BND (binv .int .add t13_8 (Value.int .i64 1)) fun t25_27 =>
  (J_5 t25_27 w1.drew ∧ m_5 t25_27 w1.drew < m_5 t13_8 w1)))
  (R (Value.bool true) w1)))
def ann_slices_Equal_byte_byte : List (Nat × List Nat) := [(6, [0, 1, 2, 4, 5, 6, 3, 7, 8]), (1000004, [13])]
theorem E_slices_Equal_byte_byte (s1_p0 s2_p1 : Value) (w : World) (R : Value → World → Prop) : M_slices_Equal_byte_byte s1_p0 s2_p1 w R = den PR ann_slices_Equal_byte_byte (bodyOf Try.f86) (retQ PR Try.f86.results.toList R) (env0 [s1_p0, s2_p1]) w := by kernel_rfl
theorem C_slices_Equal_byte_byte {s1_p0 s2_p1 : Value} {w : World} {R : Value → World → Prop} (h : M_slices_Equal_byte_byte s1_p0 s2_p1 w R) : CALL PR F_slices_Equal_byte_byte [s1_p0, s2_p1] w R :=
  call_of_den2 ann_slices_Equal_byte_byte Try.func86 (by kernel_rfl) (by kernel_rfl) (by kernel_rfl) ((E_slices_Equal_byte_byte s1_p0 s2_p1 w R) ▸ h)


-- 87 slices.siftDownOrdered[string]
def M_slices_siftDownOrdered_string (L_p0 i_p1 s_p2 t_p3 : Value) (w : World) (R : Value → World → Prop) : Prop :=
  ∃ (J_1 : Value → World → Prop) (m_1 : Value → World → Nat), J_1 i_p1 w ∧ ∀ (_d_1 : Env) (r_2 : Value) (w1 : World), J_1 r_2 w1 →
  (BND (binv .int .mul (Value.int .i64 2) r_2) fun t12_69 =>
  BND (binv .int .add t12_69 (Value.int .i64 1)) fun t13_70 =>
  BND (binv .int .geq t13_70 s_p2) fun t16_71 =>
  COND t16_71
  (R (.tuple #[]) w1)
  (BND (binv .int .add t13_70 (Value.int .i64 1)) fun t18_72 =>
  BND (binv .int .lss t18_72 s_p2) fun t20_73 =>
  BND (grd (isB t20_73 true) (some L_p0)) fun t22_74 =>
  BND (grd (isB t20_73 true) (some t_p3)) fun t23_75 =>
  BND (grd (isB t20_73 true) (some t13_70)) fun t24_76 =>
  BND (grd (isB t20_73 true) (binv .int .add t23_75 t24_76)) fun t25_77 =>
  BND (grd (isB t20_73 true) (iaddr 1 t22_74 t25_77)) fun t26_78 =>
  BND (grd (isB t20_73 true) (some L_p0)) fun t28_79 =>
  BND (grd (isB t20_73 true) (some t_p3)) fun t29_80 =>
  BND (grd (isB t20_73 true) (some t13_70)) fun t30_81 =>
  BND (grd (isB t20_73 true) (binv .int .add t29_80 t30_81)) fun t31_82 =>
  BND (grd (isB t20_73 true) (binv .int .add t31_82 (Value.int .i64 1))) fun t32_83 =>
  BND (grd (isB t20_73 true) (iaddr 1 t28_79 t32_83)) fun t33_84 =>
  BND (grd (isB t20_73 true) (load1 w1.drew t26_78)) fun t27_85 =>
  BND (grd (isB t20_73 true) (load1 w1.drew t33_84)) fun t34_86 =>
  GEF (isB t20_73 true) (fun k_ => CALL PR F_cmp_Less_string [t27_85, t34_86] w1.drew k_) w1.drew fun t35_87 w2 =>
  BND (pickv t20_73 t35_87 (Value.bool false)) fun t36_88 =>
  JOIN (α := Value → World → Prop) (fun k_110 => COND t36_88
  (BND (binv .int .add t13_70 (Value.int .i64 1)) fun t38_111 =>
  k_110 t38_111 w2)
  (k_110 t13_70 w2))
  (fun r_89 w3 => BND (binv .int .add t_p3 r_2) fun t42_92 =>
  BND (iaddr 1 L_p0 t42_92) fun t43_93 =>
  BND (binv .int .add t_p3 r_89) fun t48_94 =>
  BND (iaddr 1 L_p0 t48_94) fun t49_95 =>
  BND (load1 w3.drew t43_93) fun t44_96 =>
  BND (load1 w3.drew t49_95) fun t50_97 =>
  CALL PR F_cmp_Less_string [t44_96, t50_97] w3.drew fun t51_98 w4 =>
  BND (unv .not t51_98) fun t52_99 =>
  COND t52_99
  (R (.tuple #[]) w4)
  (BND (binv .int .add t_p3 r_2) fun t56_100 =>
  BND (binv .int .add t_p3 r_89) fun t60_101 =>
  BND (binv .int .add t_p3 r_89) fun t64_102 =>
  BND (iaddr 1 L_p0 t64_102) fun t65_103 =>
  BND (binv .int .add t_p3 r_2) fun t70_104 =>
  BND (iaddr 1 L_p0 t70_104) fun t71_105 =>
  BND (load1 w4.drew t65_103) fun t66_106 =>
  BND (load1 w4.drew t71_105) fun t72_107 =>
  BND (iaddr 1 L_p0 t56_100) fun t73_108 =>
  BND (storev 1 w4.drew t73_108 t66_106) fun w5 =>
  BND (iaddr 1 L_p0 t60_101) fun t74_109 =>
  BND (storev 1 w5 t74_109 t72_107) fun w6 =>
  (J_1 r_89 w6 ∧ m_1 r_89 w6 < m_1 r_2 w1)))))
def ann_slices_siftDownOrdered_string : List (Nat × List Nat) := [(3, [0, 1, 2, 3, 4, 5, 6, 7, 8, 9, 11, 12, 13, 14, 15, 16, 10, 17, 18, 19]), (5, [0, 1, 2, 3, 4, 6, 7, 8, 9, 10, 5, 11, 12, 13]), (6, [0, 1, 2, 3, 4, 5, 6, 7, 8, 9, 10, 11, 12, 14, 15, 16, 17, 18, 13, 19, 20, 21, 22, 23]), (1000001, [8])]
theorem E_slices_siftDownOrdered_string (L_p0 i_p1 s_p2 t_p3 : Value) (w : World) (R : Value → World → Prop) : M_slices_siftDownOrdered_string L_p0 i_p1 s_p2 t_p3 w R = den PR ann_slices_siftDownOrdered_string (bodyOf Try.f87) (retQ PR Try.f87.results.toList R) (env0 [L_p0, i_p1, s_p2, t_p3]) w := by kernel_rfl
theorem C_slices_siftDownOrdered_string {L_p0 i_p1 s_p2 t_p3 : Value} {w : World} {R : Value → World → Prop} (h : M_slices_siftDownOrdered_string L_p0 i_p1 s_p2 t_p3 w R) : CALL PR F_slices_siftDownOrdered_string [L_p0, i_p1, s_p2, t_p3] w R :=
  call_of_den2 ann_slices_siftDownOrdered_string Try.func87 (by kernel_rfl) (by kernel_rfl) (by kernel_rfl) ((E_slices_siftDownOrdered_string L_p0 i_p1 s_p2 t_p3 w R) ▸ h)


-- 88 slices.nextPowerOfTwo
def M_slices_nextPowerOfTwo (length_p0 : Value) (w : World) (R : Value → World → Prop) : Prop :=
  BND (convi .u64 length_p0) fun t4_1 =>
  CALL PR F_math_bits_Len [t4_1] w fun t5_2 w1 =>
  BND (shiftv .shl (Value.int .u64 1) t5_2) fun t6_3 =>
  R t6_3 w1
def ann_slices_nextPowerOfTwo : List (Nat × List Nat) := []
theorem E_slices_nextPowerOfTwo (length_p0 : Value) (w : World) (R : Value → World → Prop) : M_slices_nextPowerOfTwo length_p0 w R = den PR ann_slices_nextPowerOfTwo (bodyOf Try.f88) (retQ PR Try.f88.results.toList R) (env0 [length_p0]) w := by kernel_rfl
theorem C_slices_nextPowerOfTwo {length_p0 : Value} {w : World} {R : Value → World → Prop} (h : M_slices_nextPowerOfTwo length_p0 w R) : CALL PR F_slices_nextPowerOfTwo [length_p0] w R :=
  call_of_den2 ann_slices_nextPowerOfTwo Try.func88 (by kernel_rfl) (by kernel_rfl) (by kernel_rfl) ((E_slices_nextPowerOfTwo length_p0 w R) ▸ h)


-- 89 (*slices.xorshift).Next
def M_slices_xorshift_Next (r_p0 : Value) (w : World) (R : Value → World → Prop) : Prop :=
  BND (nilchk r_p0) fun t4_1 =>
  BND (nilchk r_p0) fun t7_2 =>
  BND (load1 w.drew t4_1) fun t5_3 =>
  BND (load1 w.drew t7_2) fun t8_4 =>
  BND (shiftv .shl t8_4 (Value.int .u64 13)) fun t9_5 =>
  BND (binv .int .xor t5_3 t9_5) fun t10_6 =>
  BND (nilchk r_p0) fun t11_7 =>
  BND (storev 1 w.drew t11_7 t10_6) fun w1 =>
  BND (nilchk r_p0) fun t13_8 =>
  BND (nilchk r_p0) fun t16_9 =>
  BND (load1 w1.drew t13_8) fun t14_10 =>
  BND (load1 w1.drew t16_9) fun t17_11 =>
  BND (shiftv .shr t17_11 (Value.int .u64 7)) fun t18_12 =>
  BND (binv .int .xor t14_10 t18_12) fun t19_13 =>
  BND (nilchk r_p0) fun t20_14 =>
  BND (storev 1 w1.drew t20_14 t19_13) fun w2 =>
  BND (nilchk r_p0) fun t22_15 =>
  BND (nilchk r_p0) fun t25_16 =>
  BND (load1 w2.drew t22_15) fun t23_17 =>
  BND (load1 w2.drew t25_16) fun t26_18 =>
  BND (shiftv .shl t26_18 (Value.int .u64 17)) fun t27_19 =>
  BND (binv .int .xor t23_17 t27_19) fun t28_20 =>
  BND (nilchk r_p0) fun t29_21 =>
  BND (storev 1 w2.drew t29_21 t28_20) fun w3 =>
  BND (nilchk r_p0) fun t31_22 =>
  BND (load1 w3 t31_22) fun t32_23 =>
  R t32_23 w3
def ann_slices_xorshift_Next : List (Nat × List Nat) := [(1, [0, 1, 3, 4, 2, 5, 6, 7, 8, 9]), (2, [0, 1, 3, 4, 2, 5, 6, 7, 8, 9]), (3, [0, 1, 3, 4, 2, 5, 6, 7, 8, 9])]
theorem E_slices_xorshift_Next (r_p0 : Value) (w : World) (R : Value → World → Prop) : M_slices_xorshift_Next r_p0 w R = den PR ann_slices_xorshift_Next (bodyOf Try.f89) (retQ PR Try.f89.results.toList R) (env0 [r_p0]) w := by kernel_rfl
theorem C_slices_xorshift_Next {r_p0 : Value} {w : World} {R : Value → World → Prop} (h : M_slices_xorshift_Next r_p0 w R) : CALL PR F_slices_xorshift_Next [r_p0] w R :=
  call_of_den2 ann_slices_xorshift_Next Try.func89 (by kernel_rfl) (by kernel_rfl) (by kernel_rfl) ((E_slices_xorshift_Next r_p0 w R) ▸ h)


-- 90 slices.medianAdjacentOrdered[string]
def M_slices_medianAdjacentOrdered_string (data_p0 a_p1 swaps_p2 : Value) (w : World) (R : Value → World → Prop) : Prop :=
  BND (binv .int .sub a_p1 (Value.int .i64 1)) fun t9_1 =>
  BND (binv .int .add a_p1 (Value.int .i64 1)) fun t12_2 =>
  CALL PR F_slices_medianOrdered_string [data_p0, t9_1, a_p1, t12_2, swaps_p2] w fun t14_3 w1 =>
  R t14_3 w1
def ann_slices_medianAdjacentOrdered_string : List (Nat × List Nat) := []
theorem E_slices_medianAdjacentOrdered_string (data_p0 a_p1 swaps_p2 : Value) (w : World) (R : Value → World → Prop) : M_slices_medianAdjacentOrdered_string data_p0 a_p1 swaps_p2 w R = den PR ann_slices_medianAdjacentOrdered_string (bodyOf Try.f90) (retQ PR Try.f90.results.toList R) (env0 [data_p0, a_p1, swaps_p2]) w := by kernel_rfl
theorem C_slices_medianAdjacentOrdered_string {data_p0 a_p1 swaps_p2 : Value} {w : World} {R : Value → World → Prop} (h : M_slices_medianAdjacentOrdered_string data_p0 a_p1 swaps_p2 w R) : CALL PR F_slices_medianAdjacentOrdered_string [data_p0, a_p1, swaps_p2] w R :=
  call_of_den2 ann_slices_medianAdjacentOrdered_string Try.func90 (by kernel_rfl) (by kernel_rfl) (by kernel_rfl) ((E_slices_medianAdjacentOrdered_string data_p0 a_p1 swaps_p2 w R) ▸ h)


-- 91 slices.medianOrdered[string]
def M_slices_medianOrdered_string (data_p0 a_p1 b_p2 c_p3 swaps_p4 : Value) (w : World) (R : Value → World → Prop) : Prop :=
  CALL PR F_slices_order2Ordered_string [data_p0, a_p1, b_p2, swaps_p4] w fun t16_1 w1 =>
  BND (extractv t16_1 0) fun t17_2 =>
  BND (extractv t16_1 1) fun t18_3 =>
  CALL PR F_slices_order2Ordered_string [data_p0, t18_3, c_p3, swaps_p4] w1 fun t24_4 w2 =>
  BND (extractv t24_4 0) fun t25_5 =>
  BND (extractv t24_4 1) fun t26_6 =>
  CALL PR F_slices_order2Ordered_string [data_p0, t17_2, t25_5, swaps_p4] w2 fun t32_7 w3 =>
  BND (extractv t32_7 0) fun t33_8 =>
  BND (extractv t32_7 1) fun t34_9 =>
  R t34_9 w3
def ann_slices_medianOrdered_string : List (Nat × List Nat) := []
theorem E_slices_medianOrdered_string (data_p0 a_p1 b_p2 c_p3 swaps_p4 : Value) (w : World) (R : Value → World → Prop) : M_slices_medianOrdered_string data_p0 a_p1 b_p2 c_p3 swaps_p4 w R = den PR ann_slices_medianOrdered_string (bodyOf Try.f91) (retQ PR Try.f91.results.toList R) (env0 [data_p0, a_p1, b_p2, c_p3, swaps_p4]) w := by kernel_rfl
theorem C_slices_medianOrdered_string {data_p0 a_p1 b_p2 c_p3 swaps_p4 : Value} {w : World} {R : Value → World → Prop} (h : M_slices_medianOrdered_string data_p0 a_p1 b_p2 c_p3 swaps_p4 w R) : CALL PR F_slices_medianOrdered_string [data_p0, a_p1, b_p2, c_p3, swaps_p4] w R :=
  call_of_den2 ann_slices_medianOrdered_string Try.func91 (by kernel_rfl) (by kernel_rfl) (by kernel_rfl) ((E_slices_medianOrdered_string data_p0 a_p1 b_p2 c_p3 swaps_p4 w R) ▸ h)


-- 92 cmp.isNaN[string]
def M_cmp_isNaN_string (x_p0 : Value) (w : World) (R : Value → World → Prop) : Prop :=
  BND (binv .str .neq x_p0 x_p0) fun t5_1 =>
  R t5_1 w
def ann_cmp_isNaN_string : List (Nat × List Nat) := []
theorem E_cmp_isNaN_string (x_p0 : Value) (w : World) (R : Value → World → Prop) : M_cmp_isNaN_string x_p0 w R = den PR ann_cmp_isNaN_string (bodyOf Try.f92) (retQ PR Try.f92.results.toList R) (env0 [x_p0]) w := by kernel_rfl
theorem C_cmp_isNaN_string {x_p0 : Value} {w : World} {R : Value → World → Prop} (h : M_cmp_isNaN_string x_p0 w R) : CALL PR F_cmp_isNaN_string [x_p0] w R :=
  call_of_den2 ann_cmp_isNaN_string Try.func92 (by kernel_rfl) (by kernel_rfl) (by kernel_rfl) ((E_cmp_isNaN_string x_p0 w R) ▸ h)


-- 93 tumbrel.sum.Table
def M_sum_Table (w : World) (R : Value → World → Prop) : Prop :=
  NEW (newv 147 w (Value.agg (List.replicate 256 (Value.int .u32 0)).toArray)) fun t0_1 w1 =>
  NEW (newv 147 w1 (Value.agg (List.replicate 256 (Value.int .u32 0)).toArray)) fun t_2 w2 =>
  ∃ (J_3 : Value → World → Prop) (m_3 : Value → World → Nat), J_3 (Value.int .i64 0) w2 ∧ ∀ (_d_3 : Env) (t3_5 : Value) (w3 : World), J_3 t3_5 w3 →
  (BND (binv .int .lss t3_5 (Value.int .i64 256)) fun t4_14 =>
  COND t4_14
  (BND (convi .u32 t3_5) fun t8_15 =>
  CALL PR F_sum_entry [t8_15] w3 fun t9_16 w4 =>
  BND (iaddra 256 1 t_2 t3_5) fun t10_17 =>
  BND (storev 1 w4 t10_17 t9_16) fun w5 =>
  BND (binv .int .add t3_5 (Value.int .i64 1)) fun t11_18 =>
  (J_3 t11_18 w5 ∧ m_3 t11_18 w5 < m_3 t3_5 w3))
  (BND (loadn 256 w3 t_2) fun t12_19 =>
  BND (storev 256 w3 t0_1 t12_19) fun w6 =>
  BND (loadn 256 w6 t0_1) fun r_20 =>
  R r_20 w6))
def ann_sum_Table : List (Nat × List Nat) := [(1000003, [3])]
theorem E_sum_Table (w : World) (R : Value → World → Prop) : M_sum_Table w R = den PR ann_sum_Table (bodyOf Try.f93) (retQ PR Try.f93.results.toList R) (env0 []) w := by kernel_rfl
theorem C_sum_Table {w : World} {R : Value → World → Prop} (h : M_sum_Table w R) : CALL PR F_sum_Table [] w R :=
  call_of_den2 ann_sum_Table Try.func93 (by kernel_rfl) (by kernel_rfl) (by kernel_rfl) ((E_sum_Table w R) ▸ h)


-- 94 slices.order2Ordered[string]
def M_slices_order2Ordered_string (data_p0 a_p1 b_p2 swaps_p3 : Value) (w : World) (R : Value → World → Prop) : Prop :=
  BND (iaddr 1 data_p0 b_p2) fun t12_1 =>
  BND (iaddr 1 data_p0 a_p1) fun t16_2 =>
  BND (load1 w.drew t12_1) fun t13_3 =>
  BND (load1 w.drew t16_2) fun t17_4 =>
  CALL PR F_cmp_Less_string [t13_3, t17_4] w.drew fun t18_5 w1 =>
  COND t18_5
  (BND (nilchk swaps_p3) fun t20_6 =>
  BND (load1 w1 t20_6) fun t21_7 =>
  BND (binv .int .add t21_7 (Value.int .i64 1)) fun t22_8 =>
  BND (nilchk swaps_p3) fun t23_9 =>
  BND (storev 1 w1 t23_9 t22_8) fun w2 =>
  R (.tuple #[b_p2, a_p1]) w2)
  (R (.tuple #[a_p1, b_p2]) w1)
def ann_slices_order2Ordered_string : List (Nat × List Nat) := [(1, [0, 1, 2, 4, 5, 6, 3, 7, 8])]
theorem E_slices_order2Ordered_string (data_p0 a_p1 b_p2 swaps_p3 : Value) (w : World) (R : Value → World → Prop) : M_slices_order2Ordered_string data_p0 a_p1 b_p2 swaps_p3 w R = den PR ann_slices_order2Ordered_string (bodyOf Try.f94) (retQ PR Try.f94.results.toList R) (env0 [data_p0, a_p1, b_p2, swaps_p3]) w := by kernel_rfl
theorem C_slices_order2Ordered_string {data_p0 a_p1 b_p2 swaps_p3 : Value} {w : World} {R : Value → World → Prop} (h : M_slices_order2Ordered_string data_p0 a_p1 b_p2 swaps_p3 w R) : CALL PR F_slices_order2Ordered_string [data_p0, a_p1, b_p2, swaps_p3] w R :=
  call_of_den2 ann_slices_order2Ordered_string Try.func94 (by kernel_rfl) (by kernel_rfl) (by kernel_rfl) ((E_slices_order2Ordered_string data_p0 a_p1 b_p2 swaps_p3 w R) ▸ h)


-- 95 tumbrel.sum.entry
def M_sum_entry (n_p0 : Value) (w : World) (R : Value → World → Prop) : Prop :=
  ∃ (J_1 : Value → Value → World → Prop) (m_1 : Value → Value → World → Nat), J_1 n_p0 (Value.int .i64 0) w ∧ ∀ (_d_1 : Env) (n_2 t4_4 : Value) (w1 : World), J_1 n_2 t4_4 w1 →
  (BND (binv .int .lss t4_4 (Value.int .i64 8)) fun t5_15 =>
  COND t5_15
  (BND (binv .int .and n_2 (Value.int .u32 1)) fun t7_16 =>
  BND (shiftv .shr n_2 (Value.int .u64 1)) fun t9_17 =>
  BND (binv .int .eql t7_16 (Value.int .u32 1)) fun t11_18 =>
  JOIN (α := Value → World → Prop) (fun k_23 => COND t11_18
  (BND (binv .int .xor t9_17 (Value.int .u32 2197175160)) fun t13_24 =>
  k_23 t13_24 w1)
  (k_23 t9_17 w1))
  (fun n_19 w2 => BND (binv .int .add t4_4 (Value.int .i64 1)) fun t14_22 =>
  (J_1 n_19 t14_22 w2 ∧ m_1 n_19 t14_22 w2 < m_1 n_2 t4_4 w1)))
  (R n_2 w1))
def ann_sum_entry : List (Nat × List Nat) := [(1000002, [0, 4])]
theorem E_sum_entry (n_p0 : Value) (w : World) (R : Value → World → Prop) : M_sum_entry n_p0 w R = den PR ann_sum_entry (bodyOf Try.f95) (retQ PR Try.f95.results.toList R) (env0 [n_p0]) w := by kernel_rfl
theorem C_sum_entry {n_p0 : Value} {w : World} {R : Value → World → Prop} (h : M_sum_entry n_p0 w R) : CALL PR F_sum_entry [n_p0] w R :=
  call_of_den2 ann_sum_entry Try.func95 (by kernel_rfl) (by kernel_rfl) (by kernel_rfl) ((E_sum_entry n_p0 w R) ▸ h)

end Go.Proofs.Ythlmkjkjebcpfaa
