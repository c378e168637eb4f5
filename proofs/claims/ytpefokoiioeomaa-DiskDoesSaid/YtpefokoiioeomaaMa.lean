/- Printed by denprint.py: the Go function as a predicate, and that it stands for the call. No condition. -/
import Derived.Test.YtpefokoiioeomaaFns
set_option maxRecDepth 100000
set_option linter.unusedVariables false
namespace Go.Proofs.Ytpefokoiioeomaa
open Go.Den

-- 3 tumbrel.tumbrellaw06.DiskDoes
def M_tumbrellaw06_DiskDoes (L_p0 i_p1 : Value) (w : World) (R : Value → World → Prop) : Prop :=
  CALL PR F_tumbrellaw06_awake [] w fun t21_1 w1 =>
  BND (unv .not t21_1) fun t22_2 =>
  COND t22_2
  (R (Value.bool false) w1)
  (CALL PR F_tumbrellaw06_large [i_p1] w1 fun t24_3 w2 =>
  COND t24_3
  (R (Value.bool true) w2)
  (CALL PR F_disk_New [L_p0] w2 fun t27_4 w3 =>
  BND (extractv t27_4 0) fun t28_5 =>
  BND (extractv t27_4 1) fun t29_6 =>
  CALL PR F_tumbrelref06_New [L_p0] w3 fun t32_7 w4 =>
  BND (extractv t32_7 0) fun t33_8 =>
  BND (extractv t32_7 1) fun t34_9 =>
  BND (binv .int .neq t29_6 t34_9) fun t37_10 =>
  BND (grd (isB t37_10 false) (some t28_5)) fun t39_11 =>
  BND (grd (isB t37_10 false) (binv .ptr .eql t39_11 (Value.pointer none))) fun t40_12 =>
  BND (grd (isB t37_10 false) (some t33_8)) fun t41_13 =>
  BND (grd (isB t37_10 false) (binv .ptr .eql t41_13 (Value.pointer none))) fun t42_14 =>
  BND (grd (isB t37_10 false) (binv .bool .neq t40_12 t42_14)) fun t43_15 =>
  BND (pickv t37_10 (Value.bool true) t43_15) fun t44_16 =>
  COND t44_16
  (R (Value.bool false) w4)
  (BND (binv .ptr .eql t28_5 (Value.pointer none)) fun t46_17 =>
  COND t46_17
  (R (Value.bool true) w4)
  (BND (lenl i_p1) fun t48_18 =>
  ∃ (J_19 : Value → World → Prop) (m_19 : Value → World → Nat), J_19 (Value.int .i64 0) w4 ∧ ∀ (_d_19 : Env) (t49_31 : Value) (w5 : World), J_19 t49_31 w5 →
  (BND (binv .int .lss t49_31 t48_18) fun t50_110 =>
  COND t50_110
  (BND (iaddr 6 i_p1 t49_31) fun t51_111 =>
  BND (loadn 6 w5 t51_111) fun t52_112 =>
  NEW (newv 35 w5 (Value.agg #[(Value.int .i64 0), (Value.int .i64 0), (Value.string ByteArray.empty), (Value.string ByteArray.empty), (Value.slice none 0 0), (Value.slice none 0 0)])) fun a_113 w6 =>
  BND (storev 6 w6 a_113 t52_112) fun w7 =>
  BND (loadn 6 w7 a_113) fun t55_114 =>
  CALL PR F_tumbrellaw06_do [t28_5, t55_114] w7 fun t56_115 w8 =>
  BND (extractv t56_115 0) fun t57_116 =>
  BND (extractv t56_115 1) fun t58_117 =>
  BND (loadn 6 w8 a_113) fun t61_118 =>
  CALL PR F_tumbrellaw06_own [t33_8, t61_118] w8 fun t62_119 w9 =>
  BND (extractv t62_119 0) fun t63_120 =>
  BND (extractv t62_119 1) fun t64_121 =>
  ∃ S_122 : Nat → World → Prop,
  S_122 30 w9.drew ∧
  CALL PR F_tumbrelref01_Same [t57_116, t63_120] w9.drew fun t67_123 w10 =>
  S_122 30 w10 ∧
  BND (unv .not t67_123) fun t68_124 =>
  BND (grd (isB t68_124 false) (some t58_117)) fun t70_125 =>
  BND (grd (isB t68_124 false) (some t64_121)) fun t71_126 =>
  BND (grd (isB t68_124 false) (binv .int .neq t70_125 t71_126)) fun t72_127 =>
  BND (pickv t68_124 (Value.bool true) t72_127) fun t73_128 =>
  BND (grd (isB t73_128 false) (some t28_5)) fun t75_129 =>
  BND (grd (isB t73_128 false) (some t33_8)) fun t77_130 =>
  GEF (isB t73_128 false) (fun k_ => CALL PR F_disk_Disk_Names [t75_129] w10 k_) w10 fun t76_131 w11 =>
  S_122 30 w11 ∧
  GEF (isB t73_128 false) (fun k_ => CALL PR F_tumbrelref06_Disk_Names [t77_130] w11 k_) w11 fun t78_132 w12 =>
  S_122 30 w12 ∧
  GEF (isB t73_128 false) (fun k_ => CALL PR F_tumbrelref06_Same [t76_131, t78_132] w12 k_) w12 fun t79_133 w13 =>
  S_122 30 w13 ∧
  BND (grd (isB t73_128 false) (unv .not t79_133)) fun t80_134 =>
  BND (pickv t73_128 (Value.bool true) t80_134) fun t81_135 =>
  BND (grd (isB t81_135 false) (some t28_5)) fun t83_136 =>
  BND (grd (isB t81_135 false) (some t33_8)) fun t85_137 =>
  GEF (isB t81_135 false) (fun k_ => CALL PR F_disk_Disk_Held [t83_136] w13 k_) w13 fun t84_138 w14 =>
  S_122 30 w14 ∧
  GEF (isB t81_135 false) (fun k_ => CALL PR F_tumbrelref06_Disk_Held [t85_137] w14 k_) w14 fun t86_139 w15 =>
  S_122 30 w15 ∧
  BND (grd (isB t81_135 false) (binv .int .neq t84_138 t86_139)) fun t87_140 =>
  BND (pickv t81_135 (Value.bool true) t87_140) fun t88_141 =>
  BND (grd (isB t88_141 false) (some t28_5)) fun t90_142 =>
  BND (grd (isB t88_141 false) (some t33_8)) fun t92_143 =>
  BND (grd (isB t88_141 false) (nilchk t92_143)) fun t93_144 =>
  BND (grd (isB t88_141 false) (faddr 4 t93_144)) fun t94_145 =>
  FLT (S_122 30) (fun w_ => (grd (isB t88_141 false) (load1 w_ t94_145))) fun t95_146 =>
  GEF (isB t88_141 false) (fun k_ => CALL PR F_disk_Disk_Down [t90_142] w15 k_) w15 fun t91_147 w16 =>
  S_122 30 w16 ∧
  BND (grd (isB t88_141 false) (binv .bool .neq t91_147 t95_146)) fun t96_148 =>
  BND (pickv t88_141 (Value.bool true) t96_148) fun t97_149 =>
  COND t97_149
  (R (Value.bool false) w16)
  (CALL PR F_tumbrelref06_Disk_Names [t33_8] w16 fun t99_150 w17 =>
  BND (lenl t99_150) fun t100_151 =>
  ∃ (J_152 : Value → World → Prop) (m_152 : Value → World → Nat), J_152 (Value.int .i64 0) w17 ∧ ∀ (_d_152 : Env) (t101_159 : Value) (w18 : World), J_152 t101_159 w18 →
  (BND (binv .int .lss t101_159 t100_151) fun t102_185 =>
  COND t102_185
  (BND (iaddr 1 t99_150 t101_159) fun t103_186 =>
  BND (load1 w18 t103_186) fun t104_187 =>
  CALL PR F_disk_Disk_Read [t28_5, t104_187] w18 fun t108_188 w19 =>
  BND (extractv t108_188 0) fun t109_189 =>
  BND (extractv t108_188 1) fun t110_190 =>
  CALL PR F_tumbrelref06_Disk_Read [t33_8, t104_187] w19 fun t114_191 w20 =>
  BND (extractv t114_191 0) fun t115_192 =>
  BND (extractv t114_191 1) fun t116_193 =>
  CALL PR F_tumbrelref01_Same [t109_189, t115_192] w20 fun t119_194 w21 =>
  BND (unv .not t119_194) fun t120_195 =>
  BND (grd (isB t120_195 false) (some t110_190)) fun t122_196 =>
  BND (grd (isB t120_195 false) (some t116_193)) fun t123_197 =>
  BND (grd (isB t120_195 false) (binv .int .neq t122_196 t123_197)) fun t124_198 =>
  BND (pickv t120_195 (Value.bool true) t124_198) fun t125_199 =>
  COND t125_199
  (R (Value.bool false) w21)
  (BND (binv .int .add t101_159 (Value.int .i64 1)) fun t126_200 =>
  (J_152 t126_200 w21 ∧ m_152 t126_200 w21 < m_152 t101_159 w18)))
  (BND (binv .int .add t49_31 (Value.int .i64 1)) fun t127_201 =>
  (J_19 t127_201 w18 ∧ m_19 t127_201 w18 < m_19 t49_31 w5)))))
  (R (Value.bool true) w5))))))
def ann_tumbrellaw06_DiskDoes : List (Nat × List Nat) := [(16, [0, 1, 2, 3, 4, 5, 6, 7, 8, 9, 10, 12, 11, 13, 14, 15, 16, 17, 18, 20, 19, 21, 22, 23, 24, 25, 27, 28, 29, 30, 26, 31, 32]), (1000012, [49]), (1000019, [101]), (2000016, [30]), (3016002, [30]), (3016011, [30]), (3016013, [30]), (3016014, [30]), (3016019, [30]), (3016021, [30]), (3016026, [30])]
theorem E_tumbrellaw06_DiskDoes (L_p0 i_p1 : Value) (w : World) (R : Value → World → Prop) : M_tumbrellaw06_DiskDoes L_p0 i_p1 w R = den PR ann_tumbrellaw06_DiskDoes (bodyOf Try.f3) (retQ PR Try.f3.results.toList R) (env0 [L_p0, i_p1]) w := by kernel_rfl
theorem C_tumbrellaw06_DiskDoes {L_p0 i_p1 : Value} {w : World} {R : Value → World → Prop} (h : M_tumbrellaw06_DiskDoes L_p0 i_p1 w R) : CALL PR F_tumbrellaw06_DiskDoes [L_p0, i_p1] w R :=
  call_of_den2 ann_tumbrellaw06_DiskDoes Try.func3 (by kernel_rfl) (by kernel_rfl) (by kernel_rfl) ((E_tumbrellaw06_DiskDoes L_p0 i_p1 w R) ▸ h)


-- 4 tumbrel.tumbrellaw06.DiskSure
def M_tumbrellaw06_DiskSure (L_p0 i_p1 s_p2 t_p3 a_p4 : Value) (w : World) (R : Value → World → Prop) : Prop :=
  CALL PR F_tumbrellaw06_awake [] w fun t20_1 w1 =>
  BND (unv .not t20_1) fun t21_2 =>
  COND t21_2
  (R (Value.bool false) w1)
  (CALL PR F_tumbrellaw06_large [s_p2] w1 fun t23_3 w2 =>
  BND (grd (isB t23_3 false) (some i_p1)) fun t25_4 =>
  BND (grd (isB t23_3 false) (lenl t25_4)) fun t26_5 =>
  BND (grd (isB t23_3 false) (binv .int .gtr t26_5 (Value.int .i64 1000))) fun t27_6 =>
  BND (pickv t23_3 (Value.bool true) t27_6) fun t28_7 =>
  BND (grd (isB t28_7 false) (some a_p4)) fun t30_8 =>
  BND (grd (isB t28_7 false) (lenl t30_8)) fun t31_9 =>
  BND (grd (isB t28_7 false) (binv .int .gtr t31_9 (Value.int .i64 1000))) fun t32_10 =>
  BND (pickv t28_7 (Value.bool true) t32_10) fun t33_11 =>
  COND t33_11
  (R (Value.bool true) w2)
  (CALL PR F_disk_New [(Value.int .i64 131072)] w2 fun t35_12 w3 =>
  BND (extractv t35_12 0) fun t36_13 =>
  BND (extractv t35_12 1) fun t37_14 =>
  BND (binv .ptr .eql t36_13 (Value.pointer none)) fun t39_15 =>
  COND t39_15
  (R (Value.bool false) w3)
  (CALL PR F_disk_Disk_Create [t36_13, L_p0] w3 fun t42_16 w4 =>
  BND (binv .int .neq t42_16 (Value.int .i64 0)) fun t43_17 =>
  COND t43_17
  (R (Value.bool true) w4)
  (CALL PR F_disk_Disk_Append [t36_13, L_p0, i_p1] w4 fun t47_18 w5 =>
  BND (binv .int .neq t47_18 (Value.int .i64 0)) fun t48_19 =>
  BND (grd (isB t48_19 false) (some t36_13)) fun t50_20 =>
  BND (grd (isB t48_19 false) (some L_p0)) fun t51_21 =>
  GEF (isB t48_19 false) (fun k_ => CALL PR F_disk_Disk_Sync [t50_20, t51_21] w5 k_) w5 fun t52_22 w6 =>
  BND (grd (isB t48_19 false) (binv .int .neq t52_22 (Value.int .i64 0))) fun t53_23 =>
  BND (pickv t48_19 (Value.bool true) t53_23) fun t54_24 =>
  BND (grd (isB t54_24 false) (some t36_13)) fun t56_25 =>
  GEF (isB t54_24 false) (fun k_ => CALL PR F_disk_Disk_DirSync [t56_25] w6 k_) w6 fun t57_26 w7 =>
  BND (grd (isB t54_24 false) (binv .int .neq t57_26 (Value.int .i64 0))) fun t58_27 =>
  BND (pickv t54_24 (Value.bool true) t58_27) fun t59_28 =>
  COND t59_28
  (R (Value.bool false) w7)
  (BND (newslice 5 #[(Value.int .u8 0)] 1 0 [] w7) fun p_ => NEW p_ fun t60_29 w8 =>
  APPEND 5 1 1 (Value.int .u8 0) t60_29 i_p1 w8 fun t62_30 w9 =>
  BND (lenl s_p2) fun t64_31 =>
  ∃ (J_32 : Value → Value → World → Prop) (m_32 : Value → Value → World → Nat), J_32 t62_30 (Value.int .i64 0) w9 ∧ ∀ (_d_32 : Env) (t13_33 t65_37 : Value) (w10 : World), J_32 t13_33 t65_37 w10 →
  (BND (binv .int .lss t65_37 t64_31) fun t66_85 =>
  COND t66_85
  (BND (iaddr 6 s_p2 t65_37) fun t67_86 =>
  BND (loadn 6 w10 t67_86) fun t68_87 =>
  NEW (newv 35 w10 (Value.agg #[(Value.int .i64 0), (Value.int .i64 0), (Value.string ByteArray.empty), (Value.string ByteArray.empty), (Value.slice none 0 0), (Value.slice none 0 0)])) fun t15_88 w11 =>
  BND (storev 6 w11 t15_88 t68_87) fun w12 =>
  BND (faddr 0 t15_88) fun t69_89 =>
  BND (load1 w12 t69_89) fun t70_90 =>
  BND (binv .int .eql t70_90 (Value.int .i64 8)) fun t71_91 =>
  BND (grd (isB t71_91 false) (faddr 2 t15_88)) fun t73_92 =>
  BND (grd (isB t71_91 false) (load1 w12 t73_92)) fun t74_93 =>
  BND (grd (isB t71_91 false) (some L_p0)) fun t75_94 =>
  BND (grd (isB t71_91 false) (binv .str .eql t74_93 t75_94)) fun t76_95 =>
  BND (grd (isB t71_91 false) (some t76_95)) fun t77_96 =>
  BND (grd (isB t77_96 false) (faddr 3 t15_88)) fun t78_97 =>
  BND (grd (isB t77_96 false) (load1 w12 t78_97)) fun t79_98 =>
  BND (grd (isB t77_96 false) (some L_p0)) fun t80_99 =>
  BND (grd (isB t77_96 false) (binv .str .eql t79_98 t80_99)) fun t81_100 =>
  BND (grd (isB t71_91 false) (pickv t77_96 (Value.bool true) t81_100)) fun t82_101 =>
  BND (grd (isB t71_91 false) (some t82_101)) fun t83_102 =>
  BND (grd (isB t83_102 true) (faddr 0 t15_88)) fun t84_103 =>
  BND (grd (isB t83_102 true) (load1 w12 t84_103)) fun t85_104 =>
  BND (grd (isB t83_102 true) (binv .int .neq t85_104 (Value.int .i64 1))) fun t86_105 =>
  BND (grd (isB t71_91 false) (pickv t83_102 t86_105 (Value.bool false))) fun t87_106 =>
  BND (pickv t71_91 (Value.bool true) t87_106) fun t88_107 =>
  COND t88_107
  (BND (binv .int .add t65_37 (Value.int .i64 1)) fun t112_108 =>
  (J_32 t13_33 t112_108 w12 ∧ m_32 t13_33 t112_108 w12 < m_32 t13_33 t65_37 w10))
  (BND (loadn 6 w12 t15_88) fun t91_109 =>
  CALL PR F_tumbrellaw06_do [t36_13, t91_109] w12 fun t92_110 w13 =>
  BND (extractv t92_110 0) fun t93_111 =>
  BND (extractv t92_110 1) fun t94_112 =>
  BND (faddr 0 t15_88) fun t95_113 =>
  BND (load1 w13 t95_113) fun t96_114 =>
  BND (binv .int .eql t96_114 (Value.int .i64 1)) fun t97_115 =>
  BND (grd (isB t97_115 true) (faddr 2 t15_88)) fun t99_116 =>
  BND (grd (isB t97_115 true) (load1 w13 t99_116)) fun t100_117 =>
  BND (grd (isB t97_115 true) (some L_p0)) fun t101_118 =>
  BND (grd (isB t97_115 true) (binv .str .eql t100_117 t101_118)) fun t102_119 =>
  BND (pickv t97_115 t102_119 (Value.bool false)) fun t103_120 =>
  BND (grd (isB t103_120 true) (some t94_112)) fun t105_121 =>
  BND (grd (isB t103_120 true) (binv .int .eql t105_121 (Value.int .i64 0))) fun t106_122 =>
  BND (pickv t103_120 t106_122 (Value.bool false)) fun t107_123 =>
  JOIN (α := Value → World → Prop) (fun k_130 => COND t107_123
  (BND (faddr 4 t15_88) fun t109_131 =>
  BND (load1 w13 t109_131) fun t110_132 =>
  APPEND 5 1 1 (Value.int .u8 0) t13_33 t110_132 w13 fun t111_133 w15 =>
  k_130 t111_133 w15)
  (k_130 t13_33 w13))
  (fun t13_124 w14 => BND (binv .int .add t65_37 (Value.int .i64 1)) fun t112_129 =>
  (J_32 t13_124 t112_129 w14 ∧ m_32 t13_124 t112_129 w14 < m_32 t13_33 t65_37 w10))))
  (CALL PR F_disk_Disk_Crash [t36_13, t_p3, a_p4] w10 fun t116_134 w16 =>
  CALL PR F_disk_Disk_Read [t36_13, L_p0] w16 fun t120_135 w17 =>
  BND (extractv t120_135 0) fun t121_136 =>
  BND (extractv t120_135 1) fun t122_137 =>
  BND (binv .int .eql t122_137 (Value.int .i64 0)) fun t124_138 =>
  BND (grd (isB t124_138 true) (some t121_136)) fun t126_139 =>
  BND (grd (isB t124_138 true) (lenl t126_139)) fun t127_140 =>
  BND (grd (isB t124_138 true) (some i_p1)) fun t128_141 =>
  BND (grd (isB t124_138 true) (lenl t128_141)) fun t129_142 =>
  BND (grd (isB t124_138 true) (binv .int .geq t127_140 t129_142)) fun t130_143 =>
  BND (pickv t124_138 t130_143 (Value.bool false)) fun t131_144 =>
  BND (grd (isB t131_144 true) (some t121_136)) fun t133_145 =>
  BND (grd (isB t131_144 true) (lenl t133_145)) fun t134_146 =>
  BND (grd (isB t131_144 true) (some t13_33)) fun t135_147 =>
  BND (grd (isB t131_144 true) (lenl t135_147)) fun t136_148 =>
  BND (grd (isB t131_144 true) (binv .int .leq t134_146 t136_148)) fun t137_149 =>
  BND (pickv t131_144 t137_149 (Value.bool false)) fun t138_150 =>
  BND (grd (isB t138_150 true) (some t121_136)) fun t140_151 =>
  BND (grd (isB t138_150 true) (some t13_33)) fun t141_152 =>
  BND (grd (isB t138_150 true) (some t121_136)) fun t142_153 =>
  BND (grd (isB t138_150 true) (lenl t142_153)) fun t143_154 =>
  BND (grd (isB t138_150 true) (slicev 1 t141_152 none (some t143_154))) fun t144_155 =>
  GEF (isB t138_150 true) (fun k_ => CALL PR F_tumbrelref01_Same [t140_151, t144_155] w17 k_) w17 fun t145_156 w18 =>
  BND (pickv t138_150 t145_156 (Value.bool false)) fun t146_157 =>
  R t146_157 w18)))))))
def ann_tumbrellaw06_DiskSure : List (Nat × List Nat) := [(1000014, [13, 65])]
theorem E_tumbrellaw06_DiskSure (L_p0 i_p1 s_p2 t_p3 a_p4 : Value) (w : World) (R : Value → World → Prop) : M_tumbrellaw06_DiskSure L_p0 i_p1 s_p2 t_p3 a_p4 w R = den PR ann_tumbrellaw06_DiskSure (bodyOf Try.f4) (retQ PR Try.f4.results.toList R) (env0 [L_p0, i_p1, s_p2, t_p3, a_p4]) w := by kernel_rfl
theorem C_tumbrellaw06_DiskSure {L_p0 i_p1 s_p2 t_p3 a_p4 : Value} {w : World} {R : Value → World → Prop} (h : M_tumbrellaw06_DiskSure L_p0 i_p1 s_p2 t_p3 a_p4 w R) : CALL PR F_tumbrellaw06_DiskSure [L_p0, i_p1, s_p2, t_p3, a_p4] w R :=
  call_of_den2 ann_tumbrellaw06_DiskSure Try.func4 (by kernel_rfl) (by kernel_rfl) (by kernel_rfl) ((E_tumbrellaw06_DiskSure L_p0 i_p1 s_p2 t_p3 a_p4 w R) ▸ h)


-- 5 tumbrel.tumbrellaw06.DiskRoom
def M_tumbrellaw06_DiskRoom (L_p0 i_p1 : Value) (w : World) (R : Value → World → Prop) : Prop :=
  CALL PR F_tumbrellaw06_awake [] w fun t19_1 w1 =>
  BND (unv .not t19_1) fun t20_2 =>
  COND t20_2
  (R (Value.bool false) w1)
  (CALL PR F_disk_New [L_p0] w1 fun t23_3 w2 =>
  BND (extractv t23_3 0) fun t24_4 =>
  BND (extractv t23_3 1) fun t25_5 =>
  BND (binv .ptr .eql t24_4 (Value.pointer none)) fun t27_6 =>
  BND (grd (isB t27_6 false) (some i_p1)) fun t29_7 =>
  GEF (isB t27_6 false) (fun k_ => CALL PR F_tumbrellaw06_large [t29_7] w2 k_) w2 fun t30_8 w3 =>
  BND (pickv t27_6 (Value.bool true) t30_8) fun t31_9 =>
  COND t31_9
  (R (Value.bool true) w3)
  (BND (lenl i_p1) fun t33_10 =>
  ∃ (J_11 : Value → World → Prop) (m_11 : Value → World → Nat), J_11 (Value.int .i64 0) w3 ∧ ∀ (_d_11 : Env) (t34_23 : Value) (w4 : World), J_11 t34_23 w4 →
  (BND (binv .int .lss t34_23 t33_10) fun t35_111 =>
  COND t35_111
  (BND (iaddr 6 i_p1 t34_23) fun t36_112 =>
  BND (loadn 6 w4 t36_112) fun t37_113 =>
  NEW (newv 35 w4 (Value.agg #[(Value.int .i64 0), (Value.int .i64 0), (Value.string ByteArray.empty), (Value.string ByteArray.empty), (Value.slice none 0 0), (Value.slice none 0 0)])) fun r_114 w5 =>
  BND (storev 6 w5 r_114 t37_113) fun w6 =>
  CALL PR F_disk_Disk_Down [t24_4] w6 fun t39_115 w7 =>
  CALL PR F_disk_Disk_Names [t24_4] w7 fun t41_116 w8 =>
  CALL PR F_disk_Disk_Held [t24_4] w8 fun t43_117 w9 =>
  BND (loadn 6 w9 r_114) fun t46_118 =>
  CALL PR F_tumbrellaw06_do [t24_4, t46_118] w9 fun t47_119 w10 =>
  BND (extractv t47_119 0) fun t48_120 =>
  BND (extractv t47_119 1) fun t49_121 =>
  CALL PR F_disk_Disk_Held [t24_4] w10 fun t51_122 w11 =>
  BND (binv .int .gtr t51_122 L_p0) fun t53_123 =>
  BND (grd (isB t53_123 false) (some t24_4)) fun t55_124 =>
  GEF (isB t53_123 false) (fun k_ => CALL PR F_disk_Disk_Held [t55_124] w11 k_) w11 fun t56_125 w12 =>
  BND (grd (isB t53_123 false) (binv .int .lss t56_125 (Value.int .i64 0))) fun t57_126 =>
  BND (pickv t53_123 (Value.bool true) t57_126) fun t58_127 =>
  COND t58_127
  (R (Value.bool false) w12)
  (BND (grd (isB t39_115 true) (faddr 0 r_114)) fun t61_128 =>
  BND (grd (isB t39_115 true) (load1 w12 t61_128)) fun t62_129 =>
  BND (grd (isB t39_115 true) (binv .int .neq t62_129 (Value.int .i64 7))) fun t63_130 =>
  BND (pickv t39_115 t63_130 (Value.bool false)) fun t64_131 =>
  BND (grd (isB t64_131 true) (faddr 0 r_114)) fun t66_132 =>
  BND (grd (isB t64_131 true) (load1 w12 t66_132)) fun t67_133 =>
  BND (grd (isB t64_131 true) (binv .int .neq t67_133 (Value.int .i64 8))) fun t68_134 =>
  BND (pickv t64_131 t68_134 (Value.bool false)) fun t69_135 =>
  BND (grd (isB t69_135 true) (some t49_121)) fun t71_136 =>
  BND (grd (isB t69_135 true) (binv .int .neq t71_136 (Value.int .i64 7))) fun t72_137 =>
  BND (grd (isB t69_135 true) (some t72_137)) fun t73_138 =>
  BND (grd (isB t73_138 false) (some t24_4)) fun t74_139 =>
  GEF (isB t73_138 false) (fun k_ => CALL PR F_disk_Disk_Down [t74_139] w12 k_) w12 fun t75_140 w13 =>
  BND (grd (isB t73_138 false) (unv .not t75_140)) fun t76_141 =>
  BND (grd (isB t69_135 true) (pickv t73_138 (Value.bool true) t76_141)) fun t77_142 =>
  BND (grd (isB t69_135 true) (some t77_142)) fun t78_143 =>
  BND (grd (isB t78_143 false) (some t24_4)) fun t79_144 =>
  GEF (isB t78_143 false) (fun k_ => CALL PR F_disk_Disk_Names [t79_144] w13 k_) w13 fun t80_145 w14 =>
  BND (grd (isB t78_143 false) (some t41_116)) fun t81_146 =>
  GEF (isB t78_143 false) (fun k_ => CALL PR F_tumbrelref06_Same [t80_145, t81_146] w14 k_) w14 fun t82_147 w15 =>
  BND (grd (isB t78_143 false) (unv .not t82_147)) fun t83_148 =>
  BND (grd (isB t69_135 true) (pickv t78_143 (Value.bool true) t83_148)) fun t84_149 =>
  BND (grd (isB t69_135 true) (some t84_149)) fun t85_150 =>
  BND (grd (isB t85_150 false) (some t24_4)) fun t86_151 =>
  GEF (isB t85_150 false) (fun k_ => CALL PR F_disk_Disk_Held [t86_151] w15 k_) w15 fun t87_152 w16 =>
  BND (grd (isB t85_150 false) (some t43_117)) fun t88_153 =>
  BND (grd (isB t85_150 false) (binv .int .neq t87_152 t88_153)) fun t89_154 =>
  BND (grd (isB t69_135 true) (pickv t85_150 (Value.bool true) t89_154)) fun t90_155 =>
  BND (pickv t69_135 t90_155 (Value.bool false)) fun t91_156 =>
  COND t91_156
  (R (Value.bool false) w16)
  (BND (faddr 0 r_114) fun t92_157 =>
  BND (load1 w16 t92_157) fun t93_158 =>
  BND (binv .int .neq t93_158 (Value.int .i64 8)) fun t94_159 =>
  COND t94_159
  (BND (binv .int .add t34_23 (Value.int .i64 1)) fun t121_160 =>
  (J_11 t121_160 w16 ∧ m_11 t121_160 w16 < m_11 t34_23 w4))
  (CALL PR F_disk_Disk_Names [t24_4] w16 fun t96_161 w17 =>
  BND (lenl t96_161) fun t97_162 =>
  ∃ (J_163 : Value → Value → World → Prop) (m_163 : Value → Value → World → Nat), J_163 (Value.int .i64 0) (Value.int .i64 0) w17 ∧ ∀ (_d_163 : Env) (t14_164 t98_168 : Value) (w18 : World), J_163 t14_164 t98_168 w18 →
  (BND (binv .int .lss t98_168 t97_162) fun t99_183 =>
  COND t99_183
  (BND (iaddr 1 t96_161 t98_168) fun t100_184 =>
  BND (load1 w18 t100_184) fun t101_185 =>
  CALL PR F_disk_Disk_Read [t24_4, t101_185] w18 fun t105_186 w19 =>
  BND (extractv t105_186 0) fun t106_187 =>
  BND (extractv t105_186 1) fun t107_188 =>
  BND (lenl t106_187) fun t110_189 =>
  BND (binv .int .add t14_164 t110_189) fun t111_190 =>
  BND (binv .int .add t98_168 (Value.int .i64 1)) fun t112_191 =>
  (J_163 t111_190 t112_191 w19 ∧ m_163 t111_190 t112_191 w19 < m_163 t14_164 t98_168 w18))
  (CALL PR F_disk_Disk_Held [t24_4] w18 fun t115_192 w20 =>
  BND (binv .int .neq t14_164 t115_192) fun t116_193 =>
  BND (grd (isB t116_193 false) (some t24_4)) fun t118_194 =>
  GEF (isB t116_193 false) (fun k_ => CALL PR F_disk_Disk_Down [t118_194] w20 k_) w20 fun t119_195 w21 =>
  BND (pickv t116_193 (Value.bool true) t119_195) fun t120_196 =>
  COND t120_196
  (R (Value.bool false) w21)
  (BND (binv .int .add t34_23 (Value.int .i64 1)) fun t121_197 =>
  (J_11 t121_197 w21 ∧ m_11 t121_197 w21 < m_11 t34_23 w4))))))))
  (R (Value.bool true) w4))))
def ann_tumbrellaw06_DiskRoom : List (Nat × List Nat) := [(1000007, [34]), (1000019, [14, 98])]
theorem E_tumbrellaw06_DiskRoom (L_p0 i_p1 : Value) (w : World) (R : Value → World → Prop) : M_tumbrellaw06_DiskRoom L_p0 i_p1 w R = den PR ann_tumbrellaw06_DiskRoom (bodyOf Try.f5) (retQ PR Try.f5.results.toList R) (env0 [L_p0, i_p1]) w := by kernel_rfl
theorem C_tumbrellaw06_DiskRoom {L_p0 i_p1 : Value} {w : World} {R : Value → World → Prop} (h : M_tumbrellaw06_DiskRoom L_p0 i_p1 w R) : CALL PR F_tumbrellaw06_DiskRoom [L_p0, i_p1] w R :=
  call_of_den2 ann_tumbrellaw06_DiskRoom Try.func5 (by kernel_rfl) (by kernel_rfl) (by kernel_rfl) ((E_tumbrellaw06_DiskRoom L_p0 i_p1 w R) ▸ h)


-- 6 tumbrel.tumbrellaw06.DiskFuse
def M_tumbrellaw06_DiskFuse (L_p0 i_p1 s_p2 : Value) (w : World) (R : Value → World → Prop) : Prop :=
  CALL PR F_tumbrellaw06_awake [] w fun t18_1 w1 =>
  BND (unv .not t18_1) fun t19_2 =>
  COND t19_2
  (R (Value.bool false) w1)
  (CALL PR F_disk_New [L_p0] w1 fun t22_3 w2 =>
  BND (extractv t22_3 0) fun t23_4 =>
  BND (extractv t22_3 1) fun t24_5 =>
  CALL PR F_disk_New [L_p0] w2 fun t27_6 w3 =>
  BND (extractv t27_6 0) fun t28_7 =>
  BND (extractv t27_6 1) fun t29_8 =>
  BND (binv .ptr .eql t23_4 (Value.pointer none)) fun t31_9 =>
  BND (grd (isB t31_9 false) (some t28_7)) fun t33_10 =>
  BND (grd (isB t31_9 false) (binv .ptr .eql t33_10 (Value.pointer none))) fun t34_11 =>
  BND (pickv t31_9 (Value.bool true) t34_11) fun t35_12 =>
  BND (grd (isB t35_12 false) (some s_p2)) fun t37_13 =>
  GEF (isB t35_12 false) (fun k_ => CALL PR F_tumbrellaw06_large [t37_13] w3 k_) w3 fun t38_14 w4 =>
  BND (pickv t35_12 (Value.bool true) t38_14) fun t39_15 =>
  BND (grd (isB t39_15 false) (some i_p1)) fun t41_16 =>
  BND (grd (isB t39_15 false) (binv .int .lss t41_16 (Value.int .i64 0))) fun t42_17 =>
  BND (pickv t39_15 (Value.bool true) t42_17) fun t43_18 =>
  COND t43_18
  (R (Value.bool true) w4)
  (CALL PR F_disk_Disk_Fuse [t23_4, i_p1] w4 fun t46_19 w5 =>
  BND (lenl s_p2) fun t48_20 =>
  ∃ (J_21 : Value → Value → World → Prop) (m_21 : Value → Value → World → Nat), J_21 (Value.int .i64 0) (Value.int .i64 0) w5 ∧ ∀ (_d_21 : Env) (y_23 t49_29 : Value) (w6 : World), J_21 y_23 t49_29 w6 →
  (BND (binv .int .lss t49_29 t48_20) fun t50_90 =>
  COND t50_90
  (BND (iaddr 6 s_p2 t49_29) fun t51_91 =>
  BND (loadn 6 w6 t51_91) fun t52_92 =>
  NEW (newv 35 w6 (Value.agg #[(Value.int .i64 0), (Value.int .i64 0), (Value.string ByteArray.empty), (Value.string ByteArray.empty), (Value.slice none 0 0), (Value.slice none 0 0)])) fun t13_93 w7 =>
  BND (storev 6 w7 t13_93 t52_92) fun w8 =>
  BND (faddr 0 t13_93) fun t53_94 =>
  BND (load1 w8 t53_94) fun t54_95 =>
  BND (binv .int .eql t54_95 (Value.int .i64 7)) fun t55_96 =>
  BND (grd (isB t55_96 false) (faddr 0 t13_93)) fun t57_97 =>
  BND (grd (isB t55_96 false) (load1 w8 t57_97)) fun t58_98 =>
  BND (grd (isB t55_96 false) (binv .int .eql t58_98 (Value.int .i64 8))) fun t59_99 =>
  BND (pickv t55_96 (Value.bool true) t59_99) fun t60_100 =>
  BND (grd (isB t60_100 false) (some t23_4)) fun t62_101 =>
  GEF (isB t60_100 false) (fun k_ => CALL PR F_disk_Disk_Down [t62_101] w8 k_) w8 fun t63_102 w9 =>
  BND (pickv t60_100 (Value.bool true) t63_102) fun t64_103 =>
  COND t64_103
  (BND (binv .int .add t49_29 (Value.int .i64 1)) fun t109_104 =>
  (J_21 y_23 t109_104 w9 ∧ m_21 y_23 t109_104 w9 < m_21 y_23 t49_29 w6))
  (BND (loadn 6 w9 t13_93) fun t67_105 =>
  CALL PR F_tumbrellaw06_do [t23_4, t67_105] w9 fun t68_106 w10 =>
  BND (extractv t68_106 0) fun t69_107 =>
  BND (extractv t68_106 1) fun t70_108 =>
  CALL PR F_disk_Disk_Down [t23_4] w10 fun t72_109 w11 =>
  COND t72_109
  (BND (binv .int .neq t70_108 (Value.int .i64 7)) fun t74_110 =>
  BND (grd (isB t74_110 false) (some y_23)) fun t76_111 =>
  BND (grd (isB t74_110 false) (some i_p1)) fun t77_112 =>
  BND (grd (isB t74_110 false) (binv .int .neq t76_111 t77_112)) fun t78_113 =>
  BND (pickv t74_110 (Value.bool true) t78_113) fun t79_114 =>
  COND t79_114
  (R (Value.bool false) w11)
  (BND (binv .int .add t49_29 (Value.int .i64 1)) fun t109_115 =>
  (J_21 y_23 t109_115 w11 ∧ m_21 y_23 t109_115 w11 < m_21 y_23 t49_29 w6)))
  (BND (loadn 6 w11 t13_93) fun t82_116 =>
  CALL PR F_tumbrellaw06_do [t28_7, t82_116] w11 fun t83_117 w12 =>
  BND (extractv t83_117 0) fun t84_118 =>
  BND (extractv t83_117 1) fun t85_119 =>
  CALL PR F_tumbrelref01_Same [t69_107, t84_118] w12 fun t88_120 w13 =>
  BND (unv .not t88_120) fun t89_121 =>
  BND (grd (isB t89_121 false) (some t70_108)) fun t91_122 =>
  BND (grd (isB t89_121 false) (some t85_119)) fun t92_123 =>
  BND (grd (isB t89_121 false) (binv .int .neq t91_122 t92_123)) fun t93_124 =>
  BND (pickv t89_121 (Value.bool true) t93_124) fun t94_125 =>
  COND t94_125
  (R (Value.bool false) w13)
  (BND (binv .int .eql t70_108 (Value.int .i64 0)) fun t96_126 =>
  BND (grd (isB t96_126 true) (faddr 0 t13_93)) fun t98_127 =>
  BND (grd (isB t96_126 true) (load1 w13 t98_127)) fun t99_128 =>
  BND (grd (isB t96_126 true) (binv .int .geq t99_128 (Value.int .i64 0))) fun t100_129 =>
  BND (pickv t96_126 t100_129 (Value.bool false)) fun t101_130 =>
  BND (grd (isB t101_130 true) (faddr 0 t13_93)) fun t103_131 =>
  BND (grd (isB t101_130 true) (load1 w13 t103_131)) fun t104_132 =>
  BND (grd (isB t101_130 true) (binv .int .leq t104_132 (Value.int .i64 6))) fun t105_133 =>
  BND (pickv t101_130 t105_133 (Value.bool false)) fun t106_134 =>
  JOIN (α := Value → World → Prop) (fun k_139 => COND t106_134
  (BND (binv .int .add y_23 (Value.int .i64 1)) fun t108_140 =>
  k_139 t108_140 w13)
  (k_139 y_23 w13))
  (fun y_135 w14 => BND (binv .int .add t49_29 (Value.int .i64 1)) fun t109_138 =>
  (J_21 y_135 t109_138 w14 ∧ m_21 y_135 t109_138 w14 < m_21 y_23 t49_29 w6))))))
  (CALL PR F_disk_Disk_Crash [t23_4, (Value.int .i64 100), (Value.slice none 0 0)] w6 fun t111_141 w15 =>
  CALL PR F_disk_Disk_Crash [t28_7, (Value.int .i64 100), (Value.slice none 0 0)] w15 fun t113_142 w16 =>
  BND (binv .int .leq y_23 i_p1) fun t116_143 =>
  BND (grd (isB t116_143 true) (some t23_4)) fun t118_144 =>
  GEF (isB t116_143 true) (fun k_ => CALL PR F_disk_Disk_Names [t118_144] w16 k_) w16 fun t119_145 w17 =>
  BND (grd (isB t116_143 true) (some t28_7)) fun t120_146 =>
  GEF (isB t116_143 true) (fun k_ => CALL PR F_disk_Disk_Names [t120_146] w17 k_) w17 fun t121_147 w18 =>
  GEF (isB t116_143 true) (fun k_ => CALL PR F_tumbrelref06_Same [t119_145, t121_147] w18 k_) w18 fun t122_148 w19 =>
  BND (pickv t116_143 t122_148 (Value.bool false)) fun t123_149 =>
  BND (grd (isB t123_149 true) (some t23_4)) fun t125_150 =>
  GEF (isB t123_149 true) (fun k_ => CALL PR F_disk_Disk_Held [t125_150] w19 k_) w19 fun t126_151 w20 =>
  BND (grd (isB t123_149 true) (some t28_7)) fun t127_152 =>
  GEF (isB t123_149 true) (fun k_ => CALL PR F_disk_Disk_Held [t127_152] w20 k_) w20 fun t128_153 w21 =>
  BND (grd (isB t123_149 true) (binv .int .eql t126_151 t128_153)) fun t129_154 =>
  BND (pickv t123_149 t129_154 (Value.bool false)) fun t130_155 =>
  R t130_155 w21))))
def ann_tumbrellaw06_DiskFuse : List (Nat × List Nat) := [(1000010, [11, 49])]
theorem E_tumbrellaw06_DiskFuse (L_p0 i_p1 s_p2 : Value) (w : World) (R : Value → World → Prop) : M_tumbrellaw06_DiskFuse L_p0 i_p1 s_p2 w R = den PR ann_tumbrellaw06_DiskFuse (bodyOf Try.f6) (retQ PR Try.f6.results.toList R) (env0 [L_p0, i_p1, s_p2]) w := by kernel_rfl
theorem C_tumbrellaw06_DiskFuse {L_p0 i_p1 s_p2 : Value} {w : World} {R : Value → World → Prop} (h : M_tumbrellaw06_DiskFuse L_p0 i_p1 s_p2 w R) : CALL PR F_tumbrellaw06_DiskFuse [L_p0, i_p1, s_p2] w R :=
  call_of_den2 ann_tumbrellaw06_DiskFuse Try.func6 (by kernel_rfl) (by kernel_rfl) (by kernel_rfl) ((E_tumbrellaw06_DiskFuse L_p0 i_p1 s_p2 w R) ▸ h)


-- 7 tumbrel.tumbrellaw06.DiskNames
def M_tumbrellaw06_DiskNames (L_p0 i_p1 s_p2 t_p3 : Value) (w : World) (R : Value → World → Prop) : Prop :=
  CALL PR F_tumbrellaw06_awake [] w fun t24_1 w1 =>
  BND (unv .not t24_1) fun t25_2 =>
  COND t25_2
  (R (Value.bool false) w1)
  (CALL PR F_disk_New [L_p0] w1 fun t28_3 w2 =>
  BND (extractv t28_3 0) fun t29_4 =>
  BND (extractv t28_3 1) fun t30_5 =>
  BND (binv .ptr .eql t29_4 (Value.pointer none)) fun t32_6 =>
  BND (grd (isB t32_6 false) (some i_p1)) fun t34_7 =>
  GEF (isB t32_6 false) (fun k_ => CALL PR F_tumbrellaw06_large [t34_7] w2 k_) w2 fun t35_8 w3 =>
  BND (pickv t32_6 (Value.bool true) t35_8) fun t36_9 =>
  BND (grd (isB t36_9 false) (some s_p2)) fun t38_10 =>
  BND (grd (isB t36_9 false) (lens t38_10)) fun t39_11 =>
  BND (grd (isB t36_9 false) (some t_p3)) fun t40_12 =>
  BND (grd (isB t36_9 false) (lens t40_12)) fun t41_13 =>
  BND (grd (isB t36_9 false) (binv .int .add t39_11 t41_13)) fun t42_14 =>
  BND (grd (isB t36_9 false) (binv .int .gtr t42_14 (Value.int .i64 1000))) fun t43_15 =>
  BND (pickv t36_9 (Value.bool true) t43_15) fun t44_16 =>
  COND t44_16
  (R (Value.bool true) w3)
  (BND (lenl i_p1) fun t46_17 =>
  ∃ (J_18 : Value → World → Prop) (m_18 : Value → World → Nat), J_18 (Value.int .i64 0) w3 ∧ ∀ (_d_18 : Env) (t47_26 : Value) (w4 : World), J_18 t47_26 w4 →
  (BND (binv .int .lss t47_26 t46_17) fun t48_110 =>
  COND t48_110
  (BND (iaddr 6 i_p1 t47_26) fun t49_111 =>
  BND (loadn 6 w4 t49_111) fun t50_112 =>
  NEW (newv 35 w4 (Value.agg #[(Value.int .i64 0), (Value.int .i64 0), (Value.string ByteArray.empty), (Value.string ByteArray.empty), (Value.slice none 0 0), (Value.slice none 0 0)])) fun t12_113 w5 =>
  BND (storev 6 w5 t12_113 t50_112) fun w6 =>
  CALL PR F_disk_Disk_Names [t29_4] w6 fun t52_114 w7 =>
  BND (lenl t52_114) fun t53_115 =>
  BND (faddr 0 t12_113) fun t54_116 =>
  BND (load1 w7 t54_116) fun t55_117 =>
  BND (binv .int .eql t55_117 (Value.int .i64 7)) fun t56_118 =>
  BND (grd (isB t56_118 false) (faddr 0 t12_113)) fun t58_119 =>
  BND (grd (isB t56_118 false) (load1 w7 t58_119)) fun t59_120 =>
  BND (grd (isB t56_118 false) (binv .int .eql t59_120 (Value.int .i64 8))) fun t60_121 =>
  BND (pickv t56_118 (Value.bool true) t60_121) fun t61_122 =>
  COND t61_122
  (BND (binv .int .add t47_26 (Value.int .i64 1)) fun t130_123 =>
  (J_18 t130_123 w7 ∧ m_18 t130_123 w7 < m_18 t47_26 w4))
  (BND (loadn 6 w7 t12_113) fun t64_124 =>
  CALL PR F_tumbrellaw06_do [t29_4, t64_124] w7 fun t65_125 w8 =>
  BND (extractv t65_125 0) fun t66_126 =>
  BND (extractv t65_125 1) fun t67_127 =>
  CALL PR F_disk_Disk_Names [t29_4] w8 fun t69_128 w9 =>
  BND (lenl t69_128) fun t71_129 =>
  ∃ (J_130 : Value → World → Prop) (m_130 : Value → World → Nat), J_130 (Value.int .i64 0) w9 ∧ ∀ (_d_130 : Env) (t72_133 : Value) (w10 : World), J_130 t72_133 w10 →
  (BND (binv .int .lss t72_133 t71_129) fun t73_151 =>
  COND t73_151
  (BND (binv .int .gtr t72_133 (Value.int .i64 0)) fun t76_152 =>
  BND (grd (isB t76_152 true) (some t69_128)) fun t78_153 =>
  BND (grd (isB t76_152 true) (some t72_133)) fun t79_154 =>
  BND (grd (isB t76_152 true) (binv .int .sub t79_154 (Value.int .i64 1))) fun t80_155 =>
  BND (grd (isB t76_152 true) (iaddr 1 t78_153 t80_155)) fun t81_156 =>
  BND (grd (isB t76_152 true) (some t69_128)) fun t83_157 =>
  BND (grd (isB t76_152 true) (some t72_133)) fun t84_158 =>
  BND (grd (isB t76_152 true) (iaddr 1 t83_157 t84_158)) fun t85_159 =>
  BND (grd (isB t76_152 true) (load1 w10.drew t81_156)) fun t82_160 =>
  BND (grd (isB t76_152 true) (load1 w10.drew t85_159)) fun t86_161 =>
  BND (grd (isB t76_152 true) (binv .str .geq t82_160 t86_161)) fun t87_162 =>
  BND (pickv t76_152 t87_162 (Value.bool false)) fun t88_163 =>
  COND t88_163
  (R (Value.bool false) w10.drew)
  (BND (binv .int .add t72_133 (Value.int .i64 1)) fun t89_164 =>
  (J_130 t89_164 w10.drew ∧ m_130 t89_164 w10.drew < m_130 t72_133 w10)))
  (BND (faddr 0 t12_113) fun t90_165 =>
  BND (load1 w10 t90_165) fun t91_166 =>
  BND (binv .int .eql t91_166 (Value.int .i64 0)) fun t92_167 =>
  BND (grd (isB t92_167 true) (some t67_127)) fun t94_168 =>
  BND (grd (isB t92_167 true) (binv .int .eql t94_168 (Value.int .i64 0))) fun t95_169 =>
  BND (pickv t92_167 t95_169 (Value.bool false)) fun t96_170 =>
  BND (grd (isB t96_170 true) (some t69_128)) fun t98_171 =>
  BND (grd (isB t96_170 true) (lenl t98_171)) fun t99_172 =>
  BND (grd (isB t96_170 true) (some t53_115)) fun t100_173 =>
  BND (grd (isB t96_170 true) (binv .int .add t100_173 (Value.int .i64 1))) fun t101_174 =>
  BND (grd (isB t96_170 true) (binv .int .neq t99_172 t101_174)) fun t102_175 =>
  BND (pickv t96_170 t102_175 (Value.bool false)) fun t103_176 =>
  BND (grd (isB t103_176 false) (faddr 0 t12_113)) fun t105_177 =>
  BND (grd (isB t103_176 false) (load1 w10 t105_177)) fun t106_178 =>
  BND (grd (isB t103_176 false) (binv .int .eql t106_178 (Value.int .i64 5))) fun t107_179 =>
  BND (grd (isB t103_176 false) (some t107_179)) fun t108_180 =>
  BND (grd (isB t108_180 true) (some t67_127)) fun t109_181 =>
  BND (grd (isB t108_180 true) (binv .int .eql t109_181 (Value.int .i64 0))) fun t110_182 =>
  BND (grd (isB t103_176 false) (pickv t108_180 t110_182 (Value.bool false))) fun t111_183 =>
  BND (grd (isB t103_176 false) (some t111_183)) fun t112_184 =>
  BND (grd (isB t112_184 true) (some t69_128)) fun t113_185 =>
  BND (grd (isB t112_184 true) (lenl t113_185)) fun t114_186 =>
  BND (grd (isB t112_184 true) (some t53_115)) fun t115_187 =>
  BND (grd (isB t112_184 true) (binv .int .sub t115_187 (Value.int .i64 1))) fun t116_188 =>
  BND (grd (isB t112_184 true) (binv .int .neq t114_186 t116_188)) fun t117_189 =>
  BND (grd (isB t103_176 false) (pickv t112_184 t117_189 (Value.bool false))) fun t118_190 =>
  BND (pickv t103_176 (Value.bool true) t118_190) fun t119_191 =>
  BND (grd (isB t119_191 false) (some t67_127)) fun t121_192 =>
  BND (grd (isB t119_191 false) (binv .int .neq t121_192 (Value.int .i64 0))) fun t122_193 =>
  BND (grd (isB t119_191 false) (some t122_193)) fun t123_194 =>
  BND (grd (isB t123_194 true) (some t69_128)) fun t124_195 =>
  BND (grd (isB t123_194 true) (lenl t124_195)) fun t125_196 =>
  BND (grd (isB t123_194 true) (some t53_115)) fun t126_197 =>
  BND (grd (isB t123_194 true) (binv .int .neq t125_196 t126_197)) fun t127_198 =>
  BND (grd (isB t119_191 false) (pickv t123_194 t127_198 (Value.bool false))) fun t128_199 =>
  BND (pickv t119_191 (Value.bool true) t128_199) fun t129_200 =>
  COND t129_200
  (R (Value.bool false) w10)
  (BND (binv .int .add t47_26 (Value.int .i64 1)) fun t130_201 =>
  (J_18 t130_201 w10 ∧ m_18 t130_201 w10 < m_18 t47_26 w4))))))
  (CALL PR F_disk_Disk_Read [t29_4, s_p2] w4 fun t134_202 w11 =>
  BND (extractv t134_202 0) fun t135_203 =>
  BND (extractv t134_202 1) fun t136_204 =>
  CALL PR F_disk_Disk_Rename [t29_4, s_p2, t_p3] w11 fun t140_205 w12 =>
  BND (binv .int .neq t140_205 (Value.int .i64 0)) fun t141_206 =>
  COND t141_206
  (R (Value.bool true) w12)
  (CALL PR F_disk_Disk_Read [t29_4, t_p3] w12 fun t145_207 w13 =>
  BND (extractv t145_207 0) fun t146_208 =>
  BND (extractv t145_207 1) fun t147_209 =>
  CALL PR F_disk_Disk_Read [t29_4, s_p2] w13 fun t151_210 w14 =>
  BND (extractv t151_210 0) fun t152_211 =>
  BND (extractv t151_210 1) fun t153_212 =>
  BND (binv .int .eql t136_204 (Value.int .i64 0)) fun t155_213 =>
  BND (grd (isB t155_213 true) (some t147_209)) fun t157_214 =>
  BND (grd (isB t155_213 true) (binv .int .eql t157_214 (Value.int .i64 0))) fun t158_215 =>
  BND (pickv t155_213 t158_215 (Value.bool false)) fun t159_216 =>
  BND (grd (isB t159_216 true) (some t135_203)) fun t161_217 =>
  BND (grd (isB t159_216 true) (some t146_208)) fun t162_218 =>
  GEF (isB t159_216 true) (fun k_ => CALL PR F_tumbrelref01_Same [t161_217, t162_218] w14 k_) w14 fun t163_219 w15 =>
  BND (pickv t159_216 t163_219 (Value.bool false)) fun t164_220 =>
  BND (grd (isB t164_220 true) (some t153_212)) fun t166_221 =>
  BND (grd (isB t164_220 true) (binv .int .eql t166_221 (Value.int .i64 5))) fun t167_222 =>
  BND (grd (isB t164_220 true) (some t167_222)) fun t168_223 =>
  BND (grd (isB t168_223 false) (some s_p2)) fun t169_224 =>
  BND (grd (isB t168_223 false) (some t_p3)) fun t170_225 =>
  BND (grd (isB t168_223 false) (binv .str .eql t169_224 t170_225)) fun t171_226 =>
  BND (grd (isB t164_220 true) (pickv t168_223 (Value.bool true) t171_226)) fun t172_227 =>
  BND (pickv t164_220 t172_227 (Value.bool false)) fun t173_228 =>
  R t173_228 w15)))))
def ann_tumbrellaw06_DiskNames : List (Nat × List Nat) := [(16, [0, 1, 2, 3, 4, 5, 6, 8, 9, 10, 7, 11, 12, 13]), (1000007, [47]), (1000014, [72])]
theorem E_tumbrellaw06_DiskNames (L_p0 i_p1 s_p2 t_p3 : Value) (w : World) (R : Value → World → Prop) : M_tumbrellaw06_DiskNames L_p0 i_p1 s_p2 t_p3 w R = den PR ann_tumbrellaw06_DiskNames (bodyOf Try.f7) (retQ PR Try.f7.results.toList R) (env0 [L_p0, i_p1, s_p2, t_p3]) w := by kernel_rfl
theorem C_tumbrellaw06_DiskNames {L_p0 i_p1 s_p2 t_p3 : Value} {w : World} {R : Value → World → Prop} (h : M_tumbrellaw06_DiskNames L_p0 i_p1 s_p2 t_p3 w R) : CALL PR F_tumbrellaw06_DiskNames [L_p0, i_p1, s_p2, t_p3] w R :=
  call_of_den2 ann_tumbrellaw06_DiskNames Try.func7 (by kernel_rfl) (by kernel_rfl) (by kernel_rfl) ((E_tumbrellaw06_DiskNames L_p0 i_p1 s_p2 t_p3 w R) ▸ h)


-- 8 tumbrel.tumbrellaw06.awake
def M_tumbrellaw06_awake (w : World) (R : Value → World → Prop) : Prop :=
  CALL PR F_disk_New [(Value.int .i64 16)] w fun a_1 w1 =>
  BND (extractv a_1 0) fun y_2 =>
  BND (extractv a_1 1) fun t12_3 =>
  BND (binv .ptr .eql y_2 (Value.pointer none)) fun t14_4 =>
  BND (grd (isB t14_4 false) (some t12_3)) fun t16_5 =>
  BND (grd (isB t14_4 false) (binv .int .neq t16_5 (Value.int .i64 0))) fun t17_6 =>
  BND (pickv t14_4 (Value.bool true) t17_6) fun t18_7 =>
  COND t18_7
  (R (Value.bool false) w1)
  (CALL PR F_disk_Disk_Create [y_2, (Value.string { data := #[97] })] w1 fun t20_8 w2 =>
  CALL PR F_disk_Disk_DirSync [y_2] w2 fun t22_9 w3 =>
  CALL PR F_disk_Disk_Create [y_2, (Value.string { data := #[98] })] w3 fun t24_10 w4 =>
  BND (newslice 5 #[(Value.int .u8 0)] 1 3 [(0, 1, (Value.int .u8 1)), (1, 1, (Value.int .u8 2)), (2, 1, (Value.int .u8 3))] w4) fun p_ => NEW p_ fun t26_11 w5 =>
  CALL PR F_disk_Disk_Append [y_2, (Value.string { data := #[97] }), t26_11] w5 fun t27_12 w6 =>
  CALL PR F_disk_Disk_Sync [y_2, (Value.string { data := #[97] })] w6 fun t29_13 w7 =>
  BND (newslice 5 #[(Value.int .u8 0)] 1 2 [(0, 1, (Value.int .u8 4)), (1, 1, (Value.int .u8 5))] w7) fun p_ => NEW p_ fun t31_14 w8 =>
  CALL PR F_disk_Disk_Append [y_2, (Value.string { data := #[97] }), t31_14] w8 fun t32_15 w9 =>
  BND (mkslice 5 1 1 (Value.int .u8 0) w9 (Value.int .i64 12) (Value.int .i64 12)) fun p_ => NEW p_ fun t34_16 w10 =>
  CALL PR F_disk_Disk_Append [y_2, (Value.string { data := #[98] }), t34_16] w10 fun t35_17 w11 =>
  BND (newslice 3 #[(Value.int .i64 0)] 1 1 [(0, 1, (Value.int .i64 1))] w11) fun p_ => NEW p_ fun t37_18 w12 =>
  CALL PR F_disk_Disk_Crash [y_2, (Value.int .i64 0), t37_18] w12 fun t38_19 w13 =>
  CALL PR F_disk_Disk_Read [y_2, (Value.string { data := #[97] })] w13 fun t41_20 w14 =>
  BND (extractv t41_20 0) fun t42_21 =>
  BND (extractv t41_20 1) fun t43_22 =>
  CALL PR F_disk_Disk_Read [y_2, (Value.string { data := #[98] })] w14 fun t46_23 w15 =>
  BND (extractv t46_23 0) fun t47_24 =>
  BND (extractv t46_23 1) fun t48_25 =>
  BND (binv .int .eql t32_15 (Value.int .i64 0)) fun t50_26 =>
  BND (grd (isB t50_26 true) (some t35_17)) fun t52_27 =>
  BND (grd (isB t50_26 true) (binv .int .eql t52_27 (Value.int .i64 4))) fun t53_28 =>
  BND (pickv t50_26 t53_28 (Value.bool false)) fun t54_29 =>
  BND (grd (isB t54_29 true) (some t42_21)) fun t56_30 =>
  GEF (isB t54_29 true) (fun k_ => BND (newslice 5 #[(Value.int .u8 0)] 1 4 [(0, 1, (Value.int .u8 1)), (1, 1, (Value.int .u8 2)), (2, 1, (Value.int .u8 3)), (3, 1, (Value.int .u8 4))] w15) fun p_ => NEW p_ k_) w15 fun t57_31 w16 =>
  GEF (isB t54_29 true) (fun k_ => CALL PR F_tumbrelref01_Same [t56_30, t57_31] w16 k_) w16 fun t58_32 w17 =>
  BND (pickv t54_29 t58_32 (Value.bool false)) fun t59_33 =>
  BND (grd (isB t59_33 true) (some t43_22)) fun t61_34 =>
  BND (grd (isB t59_33 true) (binv .int .eql t61_34 (Value.int .i64 0))) fun t62_35 =>
  BND (pickv t59_33 t62_35 (Value.bool false)) fun t63_36 =>
  BND (grd (isB t63_36 true) (some t48_25)) fun t65_37 =>
  BND (grd (isB t63_36 true) (binv .int .eql t65_37 (Value.int .i64 5))) fun t66_38 =>
  BND (pickv t63_36 t66_38 (Value.bool false)) fun t67_39 =>
  BND (grd (isB t67_39 true) (some y_2)) fun t69_40 =>
  GEF (isB t67_39 true) (fun k_ => CALL PR F_disk_Disk_Names [t69_40] w17 k_) w17 fun t70_41 w18 =>
  GEF (isB t67_39 true) (fun k_ => BND (newslice 9 #[(Value.string ByteArray.empty)] 1 1 [(0, 1, (Value.string { data := #[97] }))] w18) fun p_ => NEW p_ k_) w18 fun t71_42 w19 =>
  GEF (isB t67_39 true) (fun k_ => CALL PR F_tumbrelref06_Same [t70_41, t71_42] w19 k_) w19 fun t72_43 w20 =>
  BND (pickv t67_39 t72_43 (Value.bool false)) fun t73_44 =>
  BND (grd (isB t73_44 true) (some y_2)) fun t75_45 =>
  GEF (isB t73_44 true) (fun k_ => CALL PR F_disk_Disk_Held [t75_45] w20 k_) w20 fun t76_46 w21 =>
  BND (grd (isB t73_44 true) (binv .int .eql t76_46 (Value.int .i64 4))) fun t77_47 =>
  BND (pickv t73_44 t77_47 (Value.bool false)) fun t78_48 =>
  BND (grd (isB t78_48 true) (some y_2)) fun t80_49 =>
  GEF (isB t78_48 true) (fun k_ => CALL PR F_disk_Disk_Down [t80_49] w21 k_) w21 fun t81_50 w22 =>
  BND (grd (isB t78_48 true) (unv .not t81_50)) fun t82_51 =>
  BND (pickv t78_48 t82_51 (Value.bool false)) fun t83_52 =>
  R t83_52 w22)
def ann_tumbrellaw06_awake : List (Nat × List Nat) := []
theorem E_tumbrellaw06_awake (w : World) (R : Value → World → Prop) : M_tumbrellaw06_awake w R = den PR ann_tumbrellaw06_awake (bodyOf Try.f8) (retQ PR Try.f8.results.toList R) (env0 []) w := by kernel_rfl
theorem C_tumbrellaw06_awake {w : World} {R : Value → World → Prop} (h : M_tumbrellaw06_awake w R) : CALL PR F_tumbrellaw06_awake [] w R :=
  call_of_den2 ann_tumbrellaw06_awake Try.func8 (by kernel_rfl) (by kernel_rfl) (by kernel_rfl) ((E_tumbrellaw06_awake w R) ▸ h)


-- 9 tumbrel.tumbrellaw06.large
def M_tumbrellaw06_large (l_p0 : Value) (w : World) (R : Value → World → Prop) : Prop :=
  BND (lenl l_p0) fun t6_1 =>
  BND (binv .int .gtr t6_1 (Value.int .i64 40)) fun t7_2 =>
  COND t7_2
  (R (Value.bool true) w)
  (BND (lenl l_p0) fun t9_3 =>
  ∃ (J_4 : Value → World → Prop) (m_4 : Value → World → Nat), J_4 (Value.int .i64 0) w ∧ ∀ (_d_4 : Env) (t10_7 : Value) (w1 : World), J_4 t10_7 w1 →
  (BND (binv .int .lss t10_7 t9_3) fun t11_32 =>
  COND t11_32
  (BND (iaddr 6 l_p0 t10_7) fun t12_33 =>
  BND (loadn 6 w1 t12_33) fun t13_34 =>
  NEW (newv 35 w1 (Value.agg #[(Value.int .i64 0), (Value.int .i64 0), (Value.string ByteArray.empty), (Value.string ByteArray.empty), (Value.slice none 0 0), (Value.slice none 0 0)])) fun x_35 w2 =>
  BND (storev 6 w2 x_35 t13_34) fun w3 =>
  BND (faddr 4 x_35) fun t14_36 =>
  BND (load1 w3 t14_36) fun t15_37 =>
  BND (lenl t15_37) fun t16_38 =>
  BND (binv .int .gtr t16_38 (Value.int .i64 1000)) fun t17_39 =>
  BND (grd (isB t17_39 false) (faddr 2 x_35)) fun t19_40 =>
  BND (grd (isB t17_39 false) (load1 w3 t19_40)) fun t20_41 =>
  BND (grd (isB t17_39 false) (lens t20_41)) fun t21_42 =>
  BND (grd (isB t17_39 false) (faddr 3 x_35)) fun t22_43 =>
  BND (grd (isB t17_39 false) (load1 w3 t22_43)) fun t23_44 =>
  BND (grd (isB t17_39 false) (lens t23_44)) fun t24_45 =>
  BND (grd (isB t17_39 false) (binv .int .add t21_42 t24_45)) fun t25_46 =>
  BND (grd (isB t17_39 false) (binv .int .gtr t25_46 (Value.int .i64 1000))) fun t26_47 =>
  BND (pickv t17_39 (Value.bool true) t26_47) fun t27_48 =>
  BND (grd (isB t27_48 false) (faddr 5 x_35)) fun t29_49 =>
  BND (grd (isB t27_48 false) (load1 w3 t29_49)) fun t30_50 =>
  BND (grd (isB t27_48 false) (lenl t30_50)) fun t31_51 =>
  BND (grd (isB t27_48 false) (binv .int .gtr t31_51 (Value.int .i64 1000))) fun t32_52 =>
  BND (pickv t27_48 (Value.bool true) t32_52) fun t33_53 =>
  COND t33_53
  (R (Value.bool true) w3)
  (BND (binv .int .add t10_7 (Value.int .i64 1)) fun t34_54 =>
  (J_4 t34_54 w3 ∧ m_4 t34_54 w3 < m_4 t10_7 w1)))
  (R (Value.bool false) w1)))
def ann_tumbrellaw06_large : List (Nat × List Nat) := [(1000004, [10])]
theorem E_tumbrellaw06_large (l_p0 : Value) (w : World) (R : Value → World → Prop) : M_tumbrellaw06_large l_p0 w R = den PR ann_tumbrellaw06_large (bodyOf Try.f9) (retQ PR Try.f9.results.toList R) (env0 [l_p0]) w := by kernel_rfl
theorem C_tumbrellaw06_large {l_p0 : Value} {w : World} {R : Value → World → Prop} (h : M_tumbrellaw06_large l_p0 w R) : CALL PR F_tumbrellaw06_large [l_p0] w R :=
  call_of_den2 ann_tumbrellaw06_large Try.func9 (by kernel_rfl) (by kernel_rfl) (by kernel_rfl) ((E_tumbrellaw06_large l_p0 w R) ▸ h)


-- 10 tumbrel.disk.New
def M_disk_New (room_p0 : Value) (w : World) (R : Value → World → Prop) : Prop :=
  BND (binv .int .lss room_p0 (Value.int .i64 16)) fun t5_1 =>
  BND (grd (isB t5_1 false) (some room_p0)) fun t7_2 =>
  BND (grd (isB t5_1 false) (binv .int .gtr t7_2 (Value.int .i64 1048576))) fun t8_3 =>
  BND (pickv t5_1 (Value.bool true) t8_3) fun t9_4 =>
  COND t9_4
  (R (.tuple #[(Value.pointer none), (Value.int .i64 1)]) w)
  (NEW (newmap w) fun t11_5 w1 =>
  BND (buildv #[(Value.int .i64 0), (Value.map none), (Value.slice none 0 0), (Value.int .i64 0), (Value.bool false)] [(0, 1, room_p0), (1, 1, t11_5), (3, 1, (Value.int .i64 (-1)))]) fun t12_6 =>
  NEW (newv 63 w1 t12_6) fun t13_7 w2 =>
  R (.tuple #[t13_7, (Value.int .i64 0)]) w2)
def ann_disk_New : List (Nat × List Nat) := []
theorem E_disk_New (room_p0 : Value) (w : World) (R : Value → World → Prop) : M_disk_New room_p0 w R = den PR ann_disk_New (bodyOf Try.f10) (retQ PR Try.f10.results.toList R) (env0 [room_p0]) w := by kernel_rfl
theorem C_disk_New {room_p0 : Value} {w : World} {R : Value → World → Prop} (h : M_disk_New room_p0 w R) : CALL PR F_disk_New [room_p0] w R :=
  call_of_den2 ann_disk_New Try.func10 (by kernel_rfl) (by kernel_rfl) (by kernel_rfl) ((E_disk_New room_p0 w R) ▸ h)


-- 11 tumbrel.tumbrelref06.New
def M_tumbrelref06_New (room_p0 : Value) (w : World) (R : Value → World → Prop) : Prop :=
  BND (binv .int .lss room_p0 (Value.int .i64 16)) fun t5_1 =>
  BND (grd (isB t5_1 false) (some room_p0)) fun t7_2 =>
  BND (grd (isB t5_1 false) (binv .int .gtr t7_2 (Value.int .i64 1048576))) fun t8_3 =>
  BND (pickv t5_1 (Value.bool true) t8_3) fun t9_4 =>
  COND t9_4
  (R (.tuple #[(Value.pointer none), (Value.int .i64 1)]) w)
  (BND (newslice 74 #[(Value.string ByteArray.empty), (Value.int .i64 0)] 2 0 [] w) fun p_ => NEW p_ fun t11_5 w1 =>
  BND (newslice 64 #[(Value.slice none 0 0)] 1 1 [(0, 1, t11_5)] w1) fun p_ => NEW p_ fun t12_6 w2 =>
  BND (buildv #[(Value.int .i64 0), (Value.slice none 0 0), (Value.slice none 0 0), (Value.int .i64 0), (Value.bool false)] [(0, 1, room_p0), (2, 1, t12_6), (3, 1, (Value.int .i64 (-1)))]) fun t13_7 =>
  NEW (newv 47 w2 t13_7) fun t14_8 w3 =>
  R (.tuple #[t14_8, (Value.int .i64 0)]) w3)
def ann_tumbrelref06_New : List (Nat × List Nat) := []
theorem E_tumbrelref06_New (room_p0 : Value) (w : World) (R : Value → World → Prop) : M_tumbrelref06_New room_p0 w R = den PR ann_tumbrelref06_New (bodyOf Try.f11) (retQ PR Try.f11.results.toList R) (env0 [room_p0]) w := by kernel_rfl
theorem C_tumbrelref06_New {room_p0 : Value} {w : World} {R : Value → World → Prop} (h : M_tumbrelref06_New room_p0 w R) : CALL PR F_tumbrelref06_New [room_p0] w R :=
  call_of_den2 ann_tumbrelref06_New Try.func11 (by kernel_rfl) (by kernel_rfl) (by kernel_rfl) ((E_tumbrelref06_New room_p0 w R) ▸ h)


-- 12 tumbrel.tumbrellaw06.do
def M_tumbrellaw06_do (L_p0 i_p1 : Value) (w : World) (R : Value → World → Prop) : Prop :=
  NEW (newv 35 w i_p1) fun t_1 w1 =>
  BND (faddr 0 t_1) fun o_2 =>
  BND (load1 w1 o_2) fun A_3 =>
  BND (binv .int .eql A_3 (Value.int .i64 0)) fun r_4 =>
  COND r_4
  (BND (faddr 2 t_1) fun y_5 =>
  BND (load1 w1 y_5) fun t12_6 =>
  CALL PR F_disk_Disk_Create [L_p0, t12_6] w1 fun t13_7 w2 =>
  R (.tuple #[(Value.slice none 0 0), t13_7]) w2)
  (BND (binv .int .eql A_3 (Value.int .i64 1)) fun t15_8 =>
  COND t15_8
  (BND (faddr 2 t_1) fun t17_9 =>
  BND (load1 w1 t17_9) fun t18_10 =>
  BND (faddr 4 t_1) fun t19_11 =>
  BND (load1 w1 t19_11) fun t20_12 =>
  CALL PR F_disk_Disk_Append [L_p0, t18_10, t20_12] w1 fun t21_13 w3 =>
  R (.tuple #[(Value.slice none 0 0), t21_13]) w3)
  (BND (binv .int .eql A_3 (Value.int .i64 2)) fun t23_14 =>
  COND t23_14
  (BND (faddr 2 t_1) fun t25_15 =>
  BND (load1 w1 t25_15) fun t26_16 =>
  CALL PR F_disk_Disk_Sync [L_p0, t26_16] w1 fun t27_17 w4 =>
  R (.tuple #[(Value.slice none 0 0), t27_17]) w4)
  (BND (binv .int .eql A_3 (Value.int .i64 3)) fun t29_18 =>
  COND t29_18
  (BND (faddr 2 t_1) fun t31_19 =>
  BND (load1 w1 t31_19) fun t32_20 =>
  BND (faddr 1 t_1) fun t33_21 =>
  BND (load1 w1 t33_21) fun t34_22 =>
  CALL PR F_disk_Disk_Cut [L_p0, t32_20, t34_22] w1 fun t35_23 w5 =>
  R (.tuple #[(Value.slice none 0 0), t35_23]) w5)
  (BND (binv .int .eql A_3 (Value.int .i64 4)) fun t37_24 =>
  COND t37_24
  (BND (faddr 2 t_1) fun t39_25 =>
  BND (load1 w1 t39_25) fun t40_26 =>
  BND (faddr 3 t_1) fun t41_27 =>
  BND (load1 w1 t41_27) fun t42_28 =>
  CALL PR F_disk_Disk_Rename [L_p0, t40_26, t42_28] w1 fun t43_29 w6 =>
  R (.tuple #[(Value.slice none 0 0), t43_29]) w6)
  (BND (binv .int .eql A_3 (Value.int .i64 5)) fun t45_30 =>
  COND t45_30
  (BND (faddr 2 t_1) fun t47_31 =>
  BND (load1 w1 t47_31) fun t48_32 =>
  CALL PR F_disk_Disk_Delete [L_p0, t48_32] w1 fun t49_33 w7 =>
  R (.tuple #[(Value.slice none 0 0), t49_33]) w7)
  (BND (binv .int .eql A_3 (Value.int .i64 6)) fun t51_34 =>
  COND t51_34
  (CALL PR F_disk_Disk_DirSync [L_p0] w1 fun t53_35 w8 =>
  R (.tuple #[(Value.slice none 0 0), t53_35]) w8)
  (BND (binv .int .eql A_3 (Value.int .i64 7)) fun t55_36 =>
  COND t55_36
  (BND (faddr 1 t_1) fun t57_37 =>
  BND (load1 w1 t57_37) fun t58_38 =>
  CALL PR F_disk_Disk_Fuse [L_p0, t58_38] w1 fun t59_39 w9 =>
  R (.tuple #[(Value.slice none 0 0), (Value.int .i64 0)]) w9)
  (BND (binv .int .eql A_3 (Value.int .i64 8)) fun t61_40 =>
  COND t61_40
  (BND (faddr 1 t_1) fun t63_41 =>
  BND (load1 w1 t63_41) fun t64_42 =>
  BND (faddr 5 t_1) fun t65_43 =>
  BND (load1 w1 t65_43) fun t66_44 =>
  CALL PR F_disk_Disk_Crash [L_p0, t64_42, t66_44] w1 fun t67_45 w10 =>
  R (.tuple #[(Value.slice none 0 0), (Value.int .i64 0)]) w10)
  (BND (faddr 2 t_1) fun t69_46 =>
  BND (load1 w1 t69_46) fun t70_47 =>
  CALL PR F_disk_Disk_Read [L_p0, t70_47] w1 fun t71_48 w11 =>
  BND (extractv t71_48 0) fun t72_49 =>
  BND (extractv t71_48 1) fun t73_50 =>
  R (.tuple #[t72_49, t73_50]) w11)))))))))
def ann_tumbrellaw06_do : List (Nat × List Nat) := []
theorem E_tumbrellaw06_do (L_p0 i_p1 : Value) (w : World) (R : Value → World → Prop) : M_tumbrellaw06_do L_p0 i_p1 w R = den PR ann_tumbrellaw06_do (bodyOf Try.f12) (retQ PR Try.f12.results.toList R) (env0 [L_p0, i_p1]) w := by kernel_rfl
theorem C_tumbrellaw06_do {L_p0 i_p1 : Value} {w : World} {R : Value → World → Prop} (h : M_tumbrellaw06_do L_p0 i_p1 w R) : CALL PR F_tumbrellaw06_do [L_p0, i_p1] w R :=
  call_of_den2 ann_tumbrellaw06_do Try.func12 (by kernel_rfl) (by kernel_rfl) (by kernel_rfl) ((E_tumbrellaw06_do L_p0 i_p1 w R) ▸ h)


-- 13 tumbrel.tumbrellaw06.own
def M_tumbrellaw06_own (L_p0 i_p1 : Value) (w : World) (R : Value → World → Prop) : Prop :=
  NEW (newv 35 w i_p1) fun t_1 w1 =>
  BND (faddr 0 t_1) fun o_2 =>
  BND (load1 w1 o_2) fun A_3 =>
  BND (binv .int .eql A_3 (Value.int .i64 0)) fun r_4 =>
  COND r_4
  (BND (faddr 2 t_1) fun y_5 =>
  BND (load1 w1 y_5) fun t12_6 =>
  CALL PR F_tumbrelref06_Disk_Create [L_p0, t12_6] w1 fun t13_7 w2 =>
  R (.tuple #[(Value.slice none 0 0), t13_7]) w2)
  (BND (binv .int .eql A_3 (Value.int .i64 1)) fun t15_8 =>
  COND t15_8
  (BND (faddr 2 t_1) fun t17_9 =>
  BND (load1 w1 t17_9) fun t18_10 =>
  BND (faddr 4 t_1) fun t19_11 =>
  BND (load1 w1 t19_11) fun t20_12 =>
  CALL PR F_tumbrelref06_Disk_Append [L_p0, t18_10, t20_12] w1 fun t21_13 w3 =>
  R (.tuple #[(Value.slice none 0 0), t21_13]) w3)
  (BND (binv .int .eql A_3 (Value.int .i64 2)) fun t23_14 =>
  COND t23_14
  (BND (faddr 2 t_1) fun t25_15 =>
  BND (load1 w1 t25_15) fun t26_16 =>
  CALL PR F_tumbrelref06_Disk_Sync [L_p0, t26_16] w1 fun t27_17 w4 =>
  R (.tuple #[(Value.slice none 0 0), t27_17]) w4)
  (BND (binv .int .eql A_3 (Value.int .i64 3)) fun t29_18 =>
  COND t29_18
  (BND (faddr 2 t_1) fun t31_19 =>
  BND (load1 w1 t31_19) fun t32_20 =>
  BND (faddr 1 t_1) fun t33_21 =>
  BND (load1 w1 t33_21) fun t34_22 =>
  CALL PR F_tumbrelref06_Disk_Cut [L_p0, t32_20, t34_22] w1 fun t35_23 w5 =>
  R (.tuple #[(Value.slice none 0 0), t35_23]) w5)
  (BND (binv .int .eql A_3 (Value.int .i64 4)) fun t37_24 =>
  COND t37_24
  (BND (faddr 2 t_1) fun t39_25 =>
  BND (load1 w1 t39_25) fun t40_26 =>
  BND (faddr 3 t_1) fun t41_27 =>
  BND (load1 w1 t41_27) fun t42_28 =>
  CALL PR F_tumbrelref06_Disk_Rename [L_p0, t40_26, t42_28] w1 fun t43_29 w6 =>
  R (.tuple #[(Value.slice none 0 0), t43_29]) w6)
  (BND (binv .int .eql A_3 (Value.int .i64 5)) fun t45_30 =>
  COND t45_30
  (BND (faddr 2 t_1) fun t47_31 =>
  BND (load1 w1 t47_31) fun t48_32 =>
  CALL PR F_tumbrelref06_Disk_Delete [L_p0, t48_32] w1 fun t49_33 w7 =>
  R (.tuple #[(Value.slice none 0 0), t49_33]) w7)
  (BND (binv .int .eql A_3 (Value.int .i64 6)) fun t51_34 =>
  COND t51_34
  (CALL PR F_tumbrelref06_Disk_DirSync [L_p0] w1 fun t53_35 w8 =>
  R (.tuple #[(Value.slice none 0 0), t53_35]) w8)
  (BND (binv .int .eql A_3 (Value.int .i64 7)) fun t55_36 =>
  COND t55_36
  (BND (faddr 1 t_1) fun t57_37 =>
  BND (load1 w1 t57_37) fun t58_38 =>
  CALL PR F_tumbrelref06_Disk_Fuse [L_p0, t58_38] w1 fun t59_39 w9 =>
  R (.tuple #[(Value.slice none 0 0), (Value.int .i64 0)]) w9)
  (BND (binv .int .eql A_3 (Value.int .i64 8)) fun t61_40 =>
  COND t61_40
  (BND (faddr 1 t_1) fun t63_41 =>
  BND (load1 w1 t63_41) fun t64_42 =>
  BND (faddr 5 t_1) fun t65_43 =>
  BND (load1 w1 t65_43) fun t66_44 =>
  CALL PR F_tumbrelref06_Disk_Crash [L_p0, t64_42, t66_44] w1 fun t67_45 w10 =>
  R (.tuple #[(Value.slice none 0 0), (Value.int .i64 0)]) w10)
  (BND (faddr 2 t_1) fun t69_46 =>
  BND (load1 w1 t69_46) fun t70_47 =>
  CALL PR F_tumbrelref06_Disk_Read [L_p0, t70_47] w1 fun t71_48 w11 =>
  BND (extractv t71_48 0) fun t72_49 =>
  BND (extractv t71_48 1) fun t73_50 =>
  R (.tuple #[t72_49, t73_50]) w11)))))))))
def ann_tumbrellaw06_own : List (Nat × List Nat) := []
theorem E_tumbrellaw06_own (L_p0 i_p1 : Value) (w : World) (R : Value → World → Prop) : M_tumbrellaw06_own L_p0 i_p1 w R = den PR ann_tumbrellaw06_own (bodyOf Try.f13) (retQ PR Try.f13.results.toList R) (env0 [L_p0, i_p1]) w := by kernel_rfl
theorem C_tumbrellaw06_own {L_p0 i_p1 : Value} {w : World} {R : Value → World → Prop} (h : M_tumbrellaw06_own L_p0 i_p1 w R) : CALL PR F_tumbrellaw06_own [L_p0, i_p1] w R :=
  call_of_den2 ann_tumbrellaw06_own Try.func13 (by kernel_rfl) (by kernel_rfl) (by kernel_rfl) ((E_tumbrellaw06_own L_p0 i_p1 w R) ▸ h)


-- 14 tumbrel.tumbrelref01.Same
def M_tumbrelref01_Same (a_p0 b_p1 : Value) (w : World) (R : Value → World → Prop) : Prop :=
  BND (lenl a_p0) fun t7_1 =>
  BND (lenl b_p1) fun t9_2 =>
  BND (binv .int .neq t7_1 t9_2) fun t10_3 =>
  COND t10_3
  (R (Value.bool false) w)
  (∃ (J_4 : Value → World → Prop) (m_4 : Value → World → Nat), J_4 (Value.int .i64 0) w ∧ ∀ (_d_4 : Env) (i_6 : Value) (w1 : World), J_4 i_6 w1 →
  (BND (lenl a_p0) fun t13_22 =>
  BND (binv .int .lss i_6 t13_22) fun t14_23 =>
  COND t14_23
  (BND (iaddr 1 a_p0 i_6) fun t19_24 =>
  BND (iaddr 1 b_p1 i_6) fun t23_25 =>
  BND (load1 w1.drew t19_24) fun t20_26 =>
  BND (load1 w1.drew t23_25) fun t24_27 =>
  BND (binv .int .neq t20_26 t24_27) fun t25_28 =>
  COND t25_28
  (R (Value.bool false) w1.drew)
  (BND (binv .int .add i_6 (Value.int .i64 1)) fun t16_29 =>
  (J_4 t16_29 w1.drew ∧ m_4 t16_29 w1.drew < m_4 i_6 w1)))
  (R (Value.bool true) w1)))
def ann_tumbrelref01_Same : List (Nat × List Nat) := [(6, [0, 1, 2, 4, 5, 6, 3, 7, 8]), (1000004, [5])]
theorem E_tumbrelref01_Same (a_p0 b_p1 : Value) (w : World) (R : Value → World → Prop) : M_tumbrelref01_Same a_p0 b_p1 w R = den PR ann_tumbrelref01_Same (bodyOf Try.f14) (retQ PR Try.f14.results.toList R) (env0 [a_p0, b_p1]) w := by kernel_rfl
theorem C_tumbrelref01_Same {a_p0 b_p1 : Value} {w : World} {R : Value → World → Prop} (h : M_tumbrelref01_Same a_p0 b_p1 w R) : CALL PR F_tumbrelref01_Same [a_p0, b_p1] w R :=
  call_of_den2 ann_tumbrelref01_Same Try.func14 (by kernel_rfl) (by kernel_rfl) (by kernel_rfl) ((E_tumbrelref01_Same a_p0 b_p1 w R) ▸ h)


-- 15 tumbrel.tumbrelref06.Same
def M_tumbrelref06_Same (a_p0 b_p1 : Value) (w : World) (R : Value → World → Prop) : Prop :=
  BND (lenl a_p0) fun t7_1 =>
  BND (lenl b_p1) fun t9_2 =>
  BND (binv .int .neq t7_1 t9_2) fun t10_3 =>
  COND t10_3
  (R (Value.bool false) w)
  (∃ (J_4 : Value → World → Prop) (m_4 : Value → World → Nat), J_4 (Value.int .i64 0) w ∧ ∀ (_d_4 : Env) (i_6 : Value) (w1 : World), J_4 i_6 w1 →
  (BND (lenl a_p0) fun t13_22 =>
  BND (binv .int .lss i_6 t13_22) fun t14_23 =>
  COND t14_23
  (BND (iaddr 1 a_p0 i_6) fun t19_24 =>
  BND (iaddr 1 b_p1 i_6) fun t23_25 =>
  BND (load1 w1.drew t19_24) fun t20_26 =>
  BND (load1 w1.drew t23_25) fun t24_27 =>
  BND (binv .str .neq t20_26 t24_27) fun t25_28 =>
  COND t25_28
  (R (Value.bool false) w1.drew)
  (BND (binv .int .add i_6 (Value.int .i64 1)) fun t16_29 =>
  (J_4 t16_29 w1.drew ∧ m_4 t16_29 w1.drew < m_4 i_6 w1)))
  (R (Value.bool true) w1)))
def ann_tumbrelref06_Same : List (Nat × List Nat) := [(6, [0, 1, 2, 4, 5, 6, 3, 7, 8]), (1000004, [5])]
theorem E_tumbrelref06_Same (a_p0 b_p1 : Value) (w : World) (R : Value → World → Prop) : M_tumbrelref06_Same a_p0 b_p1 w R = den PR ann_tumbrelref06_Same (bodyOf Try.f15) (retQ PR Try.f15.results.toList R) (env0 [a_p0, b_p1]) w := by kernel_rfl
theorem C_tumbrelref06_Same {a_p0 b_p1 : Value} {w : World} {R : Value → World → Prop} (h : M_tumbrelref06_Same a_p0 b_p1 w R) : CALL PR F_tumbrelref06_Same [a_p0, b_p1] w R :=
  call_of_den2 ann_tumbrelref06_Same Try.func15 (by kernel_rfl) (by kernel_rfl) (by kernel_rfl) ((E_tumbrelref06_Same a_p0 b_p1 w R) ▸ h)


-- 16 (*tumbrel.disk.Disk).Names
def M_disk_Disk_Names (d_p0 : Value) (w : World) (R : Value → World → Prop) : Prop :=
  CALL PR F_disk_Disk_now [d_p0] w fun t4_1 w1 =>
  CALL PR F_maps_Keys_file [t4_1] w1 fun t5_2 w2 =>
  CALL PR F_slices_Sorted_string [t5_2] w2 fun t6_3 w3 =>
  R t6_3 w3
def ann_disk_Disk_Names : List (Nat × List Nat) := []
theorem E_disk_Disk_Names (d_p0 : Value) (w : World) (R : Value → World → Prop) : M_disk_Disk_Names d_p0 w R = den PR ann_disk_Disk_Names (bodyOf Try.f16) (retQ PR Try.f16.results.toList R) (env0 [d_p0]) w := by kernel_rfl
theorem C_disk_Disk_Names {d_p0 : Value} {w : World} {R : Value → World → Prop} (h : M_disk_Disk_Names d_p0 w R) : CALL PR F_disk_Disk_Names [d_p0] w R :=
  call_of_den2 ann_disk_Disk_Names Try.func16 (by kernel_rfl) (by kernel_rfl) (by kernel_rfl) ((E_disk_Disk_Names d_p0 w R) ▸ h)


-- 17 (*tumbrel.tumbrelref06.Disk).Names
def M_tumbrelref06_Disk_Names (d_p0 : Value) (w : World) (R : Value → World → Prop) : Prop :=
  BND (newslice 9 #[(Value.string ByteArray.empty)] 1 0 [] w) fun p_ => NEW p_ fun t6_1 w1 =>
  CALL PR F_tumbrelref06_Disk_now [d_p0] w1 fun t8_2 w2 =>
  ∃ (J_3 : Value → Value → World → Prop) (m_3 : Value → Value → World → Nat), J_3 t6_1 (Value.int .i64 0) w2 ∧ ∀ (_d_3 : Env) (out_4 i_5 : Value) (w3 : World), J_3 out_4 i_5 w3 →
  (BND (lenl t8_2) fun t11_20 =>
  BND (binv .int .lss i_5 t11_20) fun t12_21 =>
  COND t12_21
  (BND (iaddr 2 t8_2 i_5) fun t18_22 =>
  BND (faddr 0 t18_22) fun t19_23 =>
  BND (load1 w3 t19_23) fun t20_24 =>
  BND (newslice 9 #[(Value.string ByteArray.empty)] 1 1 [(0, 1, t20_24)] w3) fun p_ => NEW p_ fun t21_25 w4 =>
  APPEND 9 1 16 (Value.string ByteArray.empty) out_4 t21_25 w4 fun t22_26 w5 =>
  BND (binv .int .add i_5 (Value.int .i64 1)) fun t14_27 =>
  (J_3 t22_26 t14_27 w5 ∧ m_3 t22_26 t14_27 w5 < m_3 out_4 i_5 w3))
  (R out_4 w3))
def ann_tumbrelref06_Disk_Names : List (Nat × List Nat) := [(1000004, [3, 5])]
theorem E_tumbrelref06_Disk_Names (d_p0 : Value) (w : World) (R : Value → World → Prop) : M_tumbrelref06_Disk_Names d_p0 w R = den PR ann_tumbrelref06_Disk_Names (bodyOf Try.f17) (retQ PR Try.f17.results.toList R) (env0 [d_p0]) w := by kernel_rfl
theorem C_tumbrelref06_Disk_Names {d_p0 : Value} {w : World} {R : Value → World → Prop} (h : M_tumbrelref06_Disk_Names d_p0 w R) : CALL PR F_tumbrelref06_Disk_Names [d_p0] w R :=
  call_of_den2 ann_tumbrelref06_Disk_Names Try.func17 (by kernel_rfl) (by kernel_rfl) (by kernel_rfl) ((E_tumbrelref06_Disk_Names d_p0 w R) ▸ h)


-- 18 (*tumbrel.disk.Disk).Held
def M_disk_Disk_Held (d_p0 : Value) (w : World) (R : Value → World → Prop) : Prop :=
  ∃ S_1 : Nat → World → Prop,
  S_1 8 w.drew ∧
  BND (nilchk d_p0) fun t10_2 =>
  BND (faddr 1 t10_2) fun t11_3 =>
  BND (nilchk d_p0) fun t15_4 =>
  BND (faddr 2 t15_4) fun t16_5 =>
  FLT (S_1 8) (fun w_ => load1 w_ t16_5) fun t17_6 =>
  BND (load1 w.drew t11_3) fun t12_7 =>
  BND (newslice 60 #[(Value.map none)] 1 1 [(0, 1, t12_7)] w.drew) fun p_ => NEW p_ fun t13_8 w1 =>
  S_1 8 w1 ∧
  APPEND 60 1 8 (Value.map none) t13_8 t17_6 w1 fun t18_9 w2 =>
  BND (lenl t18_9) fun t19_10 =>
  ∃ (J_11 : Value → Value → Value → World → Prop) (m_11 : Value → Value → Value → World → Nat), J_11 (Value.slice none 0 0) (Value.int .i64 0) (Value.int .i64 0) w2 ∧ ∀ (_d_11 : Env) (seen_12 n_13 t20_16 : Value) (w3 : World), J_11 seen_12 n_13 t20_16 w3 →
  (BND (binv .int .lss t20_16 t19_10) fun t21_42 =>
  COND t21_42
  (BND (iaddr 1 t18_9 t20_16) fun t22_43 =>
  BND (load1 w3 t22_43) fun t23_44 =>
  BND (rangemv w3 t23_44) fun p_ => NEW p_ fun t25_45 w4 =>
  ∃ (J_46 : Value → Value → World → Prop) (m_46 : Value → Value → World → Nat), J_46 seen_12 n_13 w4 ∧ ∀ (_d_46 : Env) (seen_47 n_48 : Value) (w5 : World), J_46 seen_47 n_48 w5 →
  (NEXTM t25_45 w5 fun t26_69 w6 =>
  BND (extractv t26_69 0) fun t27_70 =>
  COND t27_70
  (BND (entryv w6 t25_45) fun t28_71 =>
  BND (extractv t28_71 1) fun t29_72 =>
  CALL PR F_slices_Contains_disk_file_disk_file [seen_47, t29_72] w6 fun t32_73 w7 =>
  BND (unv .not t32_73) fun t33_74 =>
  JOIN (α := Value → Value → World → Prop) (fun k_88 => COND t33_74
  (BND (newslice 70 #[(Value.pointer none)] 1 1 [(0, 1, t29_72)] w7) fun p_ => NEW p_ fun t36_89 w9 =>
  APPEND 70 1 8 (Value.pointer none) seen_47 t36_89 w9 fun t37_90 w10 =>
  BND (nilchk t29_72) fun t40_91 =>
  BND (faddr 0 t40_91) fun t41_92 =>
  BND (load1 w10 t41_92) fun t42_93 =>
  BND (lenl t42_93) fun t43_94 =>
  BND (binv .int .add n_48 t43_94) fun t44_95 =>
  k_88 t37_90 t44_95 w10)
  (k_88 seen_47 n_48 w7))
  (fun seen_75 n_76 w8 => (J_46 seen_75 n_76 w8 ∧ m_46 seen_75 n_76 w8 < m_46 seen_47 n_48 w5)))
  (BND (binv .int .add t20_16 (Value.int .i64 1)) fun t45_96 =>
  (J_11 seen_47 n_48 t45_96 w6 ∧ m_11 seen_47 n_48 t45_96 w6 < m_11 seen_12 n_13 t20_16 w3))))
  (R n_13 w3))
def ann_disk_Disk_Held : List (Nat × List Nat) := [(3, [0, 1, 2, 5, 6, 7, 8, 11, 3, 4, 9, 10]), (1000004, [3, 4, 20]), (1000007, [3, 4]), (2000003, [8]), (3003004, [8])]
theorem E_disk_Disk_Held (d_p0 : Value) (w : World) (R : Value → World → Prop) : M_disk_Disk_Held d_p0 w R = den PR ann_disk_Disk_Held (bodyOf Try.f18) (retQ PR Try.f18.results.toList R) (env0 [d_p0]) w := by kernel_rfl
theorem C_disk_Disk_Held {d_p0 : Value} {w : World} {R : Value → World → Prop} (h : M_disk_Disk_Held d_p0 w R) : CALL PR F_disk_Disk_Held [d_p0] w R :=
  call_of_den2 ann_disk_Disk_Held Try.func18 (by kernel_rfl) (by kernel_rfl) (by kernel_rfl) ((E_disk_Disk_Held d_p0 w R) ▸ h)


-- 19 (*tumbrel.tumbrelref06.Disk).Held
def M_tumbrelref06_Disk_Held (L_p0 : Value) (w : World) (R : Value → World → Prop) : Prop :=
  ∃ (J_1 : Value → Value → World → Prop) (m_1 : Value → Value → World → Nat), J_1 (Value.int .i64 0) (Value.int .i64 0) w ∧ ∀ (_d_1 : Env) (t_2 t4_3 : Value) (w1 : World), J_1 t_2 t4_3 w1 →
  (BND (nilchk L_p0) fun a_65 =>
  BND (faddr 1 a_65) fun y_66 =>
  BND (load1 w1 y_66) fun t12_67 =>
  BND (lenl t12_67) fun t13_68 =>
  BND (binv .int .lss t4_3 t13_68) fun t14_69 =>
  COND t14_69
  (∃ (J_70 : Value → Value → World → Prop) (m_70 : Value → Value → World → Nat), J_70 (Value.bool false) (Value.int .i64 0) w1 ∧ ∀ (_d_70 : Env) (t_71 o_72 : Value) (w2 : World), J_70 t_71 o_72 w2 →
  (BND (nilchk L_p0) fun t19_111 =>
  BND (faddr 2 t19_111) fun t20_112 =>
  BND (load1 w2 t20_112) fun t21_113 =>
  BND (lenl t21_113) fun t22_114 =>
  BND (binv .int .lss o_72 t22_114) fun t23_115 =>
  COND t23_115
  (∃ (J_116 : Value → Value → World → Prop) (m_116 : Value → Value → World → Nat), J_116 t_71 (Value.int .i64 0) w2 ∧ ∀ (_d_116 : Env) (t_117 A_118 : Value) (w3 : World), J_116 t_117 A_118 w3 →
  (BND (nilchk L_p0) fun t28_147 =>
  BND (faddr 2 t28_147) fun t29_148 =>
  BND (load1 w3 t29_148) fun t30_149 =>
  BND (iaddr 1 t30_149 o_72) fun t32_150 =>
  BND (load1 w3 t32_150) fun t33_151 =>
  BND (lenl t33_151) fun t34_152 =>
  BND (binv .int .lss A_118 t34_152) fun t35_153 =>
  COND t35_153
  (BND (grd (isB t_117 false) (some L_p0)) fun t40_154 =>
  BND (grd (isB t_117 false) (nilchk t40_154)) fun t41_155 =>
  BND (grd (isB t_117 false) (faddr 2 t41_155)) fun t42_156 =>
  BND (grd (isB t_117 false) (load1 w3 t42_156)) fun t43_157 =>
  BND (grd (isB t_117 false) (some o_72)) fun t44_158 =>
  BND (grd (isB t_117 false) (iaddr 1 t43_157 t44_158)) fun t45_159 =>
  BND (grd (isB t_117 false) (load1 w3 t45_159)) fun t46_160 =>
  BND (grd (isB t_117 false) (some A_118)) fun t47_161 =>
  BND (grd (isB t_117 false) (iaddr 2 t46_160 t47_161)) fun t48_162 =>
  BND (grd (isB t_117 false) (faddr 1 t48_162)) fun t49_163 =>
  BND (grd (isB t_117 false) (load1 w3 t49_163)) fun t50_164 =>
  BND (grd (isB t_117 false) (some t4_3)) fun t51_165 =>
  BND (grd (isB t_117 false) (binv .int .eql t50_164 t51_165)) fun t52_166 =>
  BND (pickv t_117 (Value.bool true) t52_166) fun t53_167 =>
  BND (binv .int .add A_118 (Value.int .i64 1)) fun t37_168 =>
  (J_116 t53_167 t37_168 w3 ∧ m_116 t53_167 t37_168 w3 < m_116 t_117 A_118 w3))
  (BND (binv .int .add o_72 (Value.int .i64 1)) fun t25_169 =>
  (J_70 t_117 t25_169 w3 ∧ m_70 t_117 t25_169 w3 < m_70 t_71 o_72 w2))))
  (JOIN (α := Value → World → Prop) (fun k_183 => COND t_71
  (BND (nilchk L_p0) fun t57_184 =>
  BND (faddr 1 t57_184) fun t58_185 =>
  BND (load1 w2 t58_185) fun t59_186 =>
  BND (iaddr 2 t59_186 t4_3) fun t61_187 =>
  BND (faddr 0 t61_187) fun t62_188 =>
  BND (load1 w2 t62_188) fun t63_189 =>
  BND (lenl t63_189) fun t64_190 =>
  BND (binv .int .add t_2 t64_190) fun t65_191 =>
  k_183 t65_191 w2)
  (k_183 t_2 w2))
  (fun t_170 w4 => BND (binv .int .add t4_3 (Value.int .i64 1)) fun t16_182 =>
  (J_1 t_170 t16_182 w4 ∧ m_1 t_170 t16_182 w4 < m_1 t_2 t4_3 w1)))))
  (R t_2 w1))
def ann_tumbrelref06_Disk_Held : List (Nat × List Nat) := [(1000003, [3, 4]), (1000007, [5, 6]), (1000010, [5, 7])]
theorem E_tumbrelref06_Disk_Held (L_p0 : Value) (w : World) (R : Value → World → Prop) : M_tumbrelref06_Disk_Held L_p0 w R = den PR ann_tumbrelref06_Disk_Held (bodyOf Try.f19) (retQ PR Try.f19.results.toList R) (env0 [L_p0]) w := by kernel_rfl
theorem C_tumbrelref06_Disk_Held {L_p0 : Value} {w : World} {R : Value → World → Prop} (h : M_tumbrelref06_Disk_Held L_p0 w R) : CALL PR F_tumbrelref06_Disk_Held [L_p0] w R :=
  call_of_den2 ann_tumbrelref06_Disk_Held Try.func19 (by kernel_rfl) (by kernel_rfl) (by kernel_rfl) ((E_tumbrelref06_Disk_Held L_p0 w R) ▸ h)


-- 20 (*tumbrel.disk.Disk).Down
def M_disk_Disk_Down (d_p0 : Value) (w : World) (R : Value → World → Prop) : Prop :=
  BND (nilchk d_p0) fun t4_1 =>
  BND (faddr 4 t4_1) fun t5_2 =>
  BND (load1 w t5_2) fun t6_3 =>
  R t6_3 w
def ann_disk_Disk_Down : List (Nat × List Nat) := []
theorem E_disk_Disk_Down (d_p0 : Value) (w : World) (R : Value → World → Prop) : M_disk_Disk_Down d_p0 w R = den PR ann_disk_Disk_Down (bodyOf Try.f20) (retQ PR Try.f20.results.toList R) (env0 [d_p0]) w := by kernel_rfl
theorem C_disk_Disk_Down {d_p0 : Value} {w : World} {R : Value → World → Prop} (h : M_disk_Disk_Down d_p0 w R) : CALL PR F_disk_Disk_Down [d_p0] w R :=
  call_of_den2 ann_disk_Disk_Down Try.func20 (by kernel_rfl) (by kernel_rfl) (by kernel_rfl) ((E_disk_Disk_Down d_p0 w R) ▸ h)


-- 21 (*tumbrel.disk.Disk).Read
def M_disk_Disk_Read (d_p0 name_p1 : Value) (w : World) (R : Value → World → Prop) : Prop :=
  BND (nilchk d_p0) fun t8_1 =>
  BND (faddr 4 t8_1) fun t9_2 =>
  BND (load1 w t9_2) fun t10_3 =>
  COND t10_3
  (R (.tuple #[(Value.slice none 0 0), (Value.int .i64 7)]) w)
  (CALL PR F_disk_Disk_there [d_p0, name_p1] w fun t13_4 w1 =>
  BND (binv .int .neq t13_4 (Value.int .i64 0)) fun t15_5 =>
  COND t15_5
  (R (.tuple #[(Value.slice none 0 0), t13_4]) w1)
  (CALL PR F_disk_Disk_now [d_p0] w1 fun t18_6 w2 =>
  BND (lookv .string (Value.pointer none) false w2 t18_6 name_p1) fun t20_7 =>
  BND (nilchk t20_7) fun t21_8 =>
  BND (faddr 0 t21_8) fun t22_9 =>
  BND (load1 w2 t22_9) fun t23_10 =>
  CALL PR F_slices_Clone_byte_byte [t23_10] w2 fun t24_11 w3 =>
  R (.tuple #[t24_11, (Value.int .i64 0)]) w3))
def ann_disk_Disk_Read : List (Nat × List Nat) := []
theorem E_disk_Disk_Read (d_p0 name_p1 : Value) (w : World) (R : Value → World → Prop) : M_disk_Disk_Read d_p0 name_p1 w R = den PR ann_disk_Disk_Read (bodyOf Try.f21) (retQ PR Try.f21.results.toList R) (env0 [d_p0, name_p1]) w := by kernel_rfl
theorem C_disk_Disk_Read {d_p0 name_p1 : Value} {w : World} {R : Value → World → Prop} (h : M_disk_Disk_Read d_p0 name_p1 w R) : CALL PR F_disk_Disk_Read [d_p0, name_p1] w R :=
  call_of_den2 ann_disk_Disk_Read Try.func21 (by kernel_rfl) (by kernel_rfl) (by kernel_rfl) ((E_disk_Disk_Read d_p0 name_p1 w R) ▸ h)


-- 22 (*tumbrel.tumbrelref06.Disk).Read
def M_tumbrelref06_Disk_Read (d_p0 name_p1 : Value) (w : World) (R : Value → World → Prop) : Prop :=
  BND (nilchk d_p0) fun t8_1 =>
  BND (faddr 4 t8_1) fun t9_2 =>
  BND (load1 w t9_2) fun t10_3 =>
  COND t10_3
  (R (.tuple #[(Value.slice none 0 0), (Value.int .i64 7)]) w)
  (CALL PR F_tumbrelref06_Disk_find [d_p0, name_p1] w fun t13_4 w1 =>
  BND (binv .int .lss t13_4 (Value.int .i64 0)) fun t15_5 =>
  COND t15_5
  (R (.tuple #[(Value.slice none 0 0), (Value.int .i64 5)]) w1)
  (BND (newslice 5 #[(Value.int .u8 0)] 1 0 [] w1) fun p_ => NEW p_ fun t16_6 w2 =>
  BND (nilchk d_p0) fun t18_7 =>
  BND (faddr 1 t18_7) fun t19_8 =>
  BND (load1 w2 t19_8) fun t20_9 =>
  BND (iaddr 2 t20_9 t13_4) fun t22_10 =>
  BND (faddr 0 t22_10) fun t23_11 =>
  BND (load1 w2 t23_11) fun t24_12 =>
  APPEND 5 1 1 (Value.int .u8 0) t16_6 t24_12 w2 fun t25_13 w3 =>
  R (.tuple #[t25_13, (Value.int .i64 0)]) w3))
def ann_tumbrelref06_Disk_Read : List (Nat × List Nat) := []
theorem E_tumbrelref06_Disk_Read (d_p0 name_p1 : Value) (w : World) (R : Value → World → Prop) : M_tumbrelref06_Disk_Read d_p0 name_p1 w R = den PR ann_tumbrelref06_Disk_Read (bodyOf Try.f22) (retQ PR Try.f22.results.toList R) (env0 [d_p0, name_p1]) w := by kernel_rfl
theorem C_tumbrelref06_Disk_Read {d_p0 name_p1 : Value} {w : World} {R : Value → World → Prop} (h : M_tumbrelref06_Disk_Read d_p0 name_p1 w R) : CALL PR F_tumbrelref06_Disk_Read [d_p0, name_p1] w R :=
  call_of_den2 ann_tumbrelref06_Disk_Read Try.func22 (by kernel_rfl) (by kernel_rfl) (by kernel_rfl) ((E_tumbrelref06_Disk_Read d_p0 name_p1 w R) ▸ h)


-- 23 (*tumbrel.disk.Disk).Create
def M_disk_Disk_Create (d_p0 name_p1 : Value) (w : World) (R : Value → World → Prop) : Prop :=
  CALL PR F_disk_Disk_now [d_p0] w fun t8_1 w1 =>
  CALL PR F_disk_named [name_p1] w1 fun t11_2 w2 =>
  BND (unv .not t11_2) fun t12_3 =>
  JOIN (α := Value → World → Prop) (fun k_25 => COND t12_3
  (k_25 (Value.int .i64 1) w2)
  (BND (lookv .string (Value.pointer none) false w2 t8_1 name_p1) fun t16_26 =>
  BND (binv .ptr .neq t16_26 (Value.pointer none)) fun t17_27 =>
  JOIN (α := Value → World → Prop) (fun k_33 => COND t17_27
  (k_33 (Value.int .i64 6) w2)
  (BND (mlenv w2 t8_1) fun t20_34 =>
  BND (binv .int .geq t20_34 (Value.int .i64 60)) fun t21_35 =>
  JOIN (α := Value → World → Prop) (fun k_37 => COND t21_35
  (k_37 (Value.int .i64 4) w2)
  (k_37 (Value.int .i64 0) w2))
  (fun e_36 w10 => k_33 e_36 w10)))
  (fun e_28 w9 => k_25 e_28 w9)))
  (fun e_4 w3 => CALL PR F_disk_Disk_can [d_p0, e_4] w3 fun t24_14 w4 =>
  BND (binv .int .eql t24_14 (Value.int .i64 0)) fun t26_15 =>
  JOIN (α := World → Prop) (fun k_21 => COND t26_15
  (CALL PR F_disk_Disk_change [d_p0] w4 fun t28_22 w6 =>
  BND (buildv #[(Value.slice none 0 0), (Value.int .i64 0)] []) fun t30_23 =>
  NEW (newv 78 w6 t30_23) fun t31_24 w7 =>
  BND (mupd .string w7 t28_22 name_p1 t31_24) fun w8 =>
  k_21 w8)
  (k_21 w4))
  (fun w5 => R t24_14 w5))
def ann_disk_Disk_Create : List (Nat × List Nat) := []
theorem E_disk_Disk_Create (d_p0 name_p1 : Value) (w : World) (R : Value → World → Prop) : M_disk_Disk_Create d_p0 name_p1 w R = den PR ann_disk_Disk_Create (bodyOf Try.f23) (retQ PR Try.f23.results.toList R) (env0 [d_p0, name_p1]) w := by kernel_rfl
theorem C_disk_Disk_Create {d_p0 name_p1 : Value} {w : World} {R : Value → World → Prop} (h : M_disk_Disk_Create d_p0 name_p1 w R) : CALL PR F_disk_Disk_Create [d_p0, name_p1] w R :=
  call_of_den2 ann_disk_Disk_Create Try.func23 (by kernel_rfl) (by kernel_rfl) (by kernel_rfl) ((E_disk_Disk_Create d_p0 name_p1 w R) ▸ h)


-- 24 (*tumbrel.disk.Disk).Append
def M_disk_Disk_Append (d_p0 name_p1 b_p2 : Value) (w : World) (R : Value → World → Prop) : Prop :=
  CALL PR F_disk_Disk_there [d_p0, name_p1] w fun t11_1 w1 =>
  ∃ S_2 : Nat → World → Prop,
  S_2 11 w1.drew ∧
  BND (binv .int .eql t11_1 (Value.int .i64 0)) fun t13_3 =>
  BND (grd (isB t13_3 true) (some d_p0)) fun t15_4 =>
  BND (grd (isB t13_3 true) (some b_p2)) fun t17_5 =>
  BND (grd (isB t13_3 true) (lenl t17_5)) fun t18_6 =>
  BND (grd (isB t13_3 true) (some d_p0)) fun t20_7 =>
  BND (grd (isB t13_3 true) (nilchk t20_7)) fun t21_8 =>
  BND (grd (isB t13_3 true) (faddr 0 t21_8)) fun t22_9 =>
  FLT (S_2 11) (fun w_ => (grd (isB t13_3 true) (load1 w_ t22_9))) fun t23_10 =>
  GEF (isB t13_3 true) (fun k_ => CALL PR F_disk_Disk_Held [t15_4] w1.drew k_) w1.drew fun t16_11 w2 =>
  S_2 11 w2 ∧
  BND (grd (isB t13_3 true) (binv .int .add t16_11 t18_6)) fun t19_12 =>
  BND (grd (isB t13_3 true) (binv .int .gtr t19_12 t23_10)) fun t24_13 =>
  BND (pickv t13_3 t24_13 (Value.bool false)) fun t25_14 =>
  JOIN (α := Value → World → Prop) (fun k_41 => COND t25_14
  (k_41 (Value.int .i64 4) w2)
  (k_41 t11_1 w2))
  (fun e_15 w3 => CALL PR F_disk_Disk_can [d_p0, e_15] w3 fun t28_16 w4 =>
  BND (binv .int .eql t28_16 (Value.int .i64 0)) fun t30_17 =>
  JOIN (α := World → Prop) (fun k_32 => COND t30_17
  (CALL PR F_disk_Disk_now [d_p0] w4 fun t32_33 w6 =>
  BND (lookv .string (Value.pointer none) false w6 t32_33 name_p1) fun t34_34 =>
  BND (nilchk t34_34) fun t37_35 =>
  BND (faddr 0 t37_35) fun t38_36 =>
  BND (load1 w6 t38_36) fun t39_37 =>
  APPEND 5 1 1 (Value.int .u8 0) t39_37 b_p2 w6 fun t41_38 w7 =>
  BND (nilchk t34_34) fun t42_39 =>
  BND (faddr 0 t42_39) fun t43_40 =>
  BND (storev 1 w7 t43_40 t41_38) fun w8 =>
  k_32 w8)
  (k_32 w4))
  (fun w5 => R t28_16 w5))
def ann_disk_Disk_Append : List (Nat × List Nat) := [(2, [0, 1, 2, 3, 5, 6, 8, 9, 10, 11, 4, 7, 12, 13]), (2000002, [11]), (3002004, [11])]
theorem E_disk_Disk_Append (d_p0 name_p1 b_p2 : Value) (w : World) (R : Value → World → Prop) : M_disk_Disk_Append d_p0 name_p1 b_p2 w R = den PR ann_disk_Disk_Append (bodyOf Try.f24) (retQ PR Try.f24.results.toList R) (env0 [d_p0, name_p1, b_p2]) w := by kernel_rfl
theorem C_disk_Disk_Append {d_p0 name_p1 b_p2 : Value} {w : World} {R : Value → World → Prop} (h : M_disk_Disk_Append d_p0 name_p1 b_p2 w R) : CALL PR F_disk_Disk_Append [d_p0, name_p1, b_p2] w R :=
  call_of_den2 ann_disk_Disk_Append Try.func24 (by kernel_rfl) (by kernel_rfl) (by kernel_rfl) ((E_disk_Disk_Append d_p0 name_p1 b_p2 w R) ▸ h)


-- 25 (*tumbrel.disk.Disk).Sync
def M_disk_Disk_Sync (d_p0 name_p1 : Value) (w : World) (R : Value → World → Prop) : Prop :=
  CALL PR F_disk_Disk_there [d_p0, name_p1] w fun t10_1 w1 =>
  CALL PR F_disk_Disk_can [d_p0, t10_1] w1 fun t11_2 w2 =>
  BND (binv .int .eql t11_2 (Value.int .i64 0)) fun t13_3 =>
  JOIN (α := World → Prop) (fun k_17 => COND t13_3
  (CALL PR F_disk_Disk_now [d_p0] w2 fun t15_18 w4 =>
  BND (lookv .string (Value.pointer none) false w4 t15_18 name_p1) fun t17_19 =>
  BND (nilchk t17_19) fun t20_20 =>
  BND (faddr 0 t20_20) fun t21_21 =>
  BND (load1 w4 t21_21) fun t22_22 =>
  BND (lenl t22_22) fun t23_23 =>
  BND (nilchk t17_19) fun t24_24 =>
  BND (faddr 1 t24_24) fun t25_25 =>
  BND (storev 1 w4 t25_25 t23_23) fun w5 =>
  k_17 w5)
  (k_17 w2))
  (fun w3 => R t11_2 w3)
def ann_disk_Disk_Sync : List (Nat × List Nat) := []
theorem E_disk_Disk_Sync (d_p0 name_p1 : Value) (w : World) (R : Value → World → Prop) : M_disk_Disk_Sync d_p0 name_p1 w R = den PR ann_disk_Disk_Sync (bodyOf Try.f25) (retQ PR Try.f25.results.toList R) (env0 [d_p0, name_p1]) w := by kernel_rfl
theorem C_disk_Disk_Sync {d_p0 name_p1 : Value} {w : World} {R : Value → World → Prop} (h : M_disk_Disk_Sync d_p0 name_p1 w R) : CALL PR F_disk_Disk_Sync [d_p0, name_p1] w R :=
  call_of_den2 ann_disk_Disk_Sync Try.func25 (by kernel_rfl) (by kernel_rfl) (by kernel_rfl) ((E_disk_Disk_Sync d_p0 name_p1 w R) ▸ h)


-- 26 (*tumbrel.disk.Disk).DirSync
def M_disk_Disk_DirSync (d_p0 : Value) (w : World) (R : Value → World → Prop) : Prop :=
  CALL PR F_disk_Disk_can [d_p0, (Value.int .i64 0)] w fun t5_1 w1 =>
  BND (binv .int .eql t5_1 (Value.int .i64 0)) fun t7_2 =>
  JOIN (α := World → Prop) (fun k_11 => COND t7_2
  (CALL PR F_disk_Disk_now [d_p0] w1 fun t11_12 w3 =>
  BND (nilchk d_p0) fun t12_13 =>
  BND (faddr 1 t12_13) fun t13_14 =>
  BND (storev 1 w3 t13_14 t11_12) fun w4 =>
  BND (nilchk d_p0) fun t14_15 =>
  BND (faddr 2 t14_15) fun t15_16 =>
  BND (storev 1 w4 t15_16 (Value.slice none 0 0)) fun w5 =>
  k_11 w5)
  (k_11 w1))
  (fun w2 => R t5_1 w2)
def ann_disk_Disk_DirSync : List (Nat × List Nat) := []
theorem E_disk_Disk_DirSync (d_p0 : Value) (w : World) (R : Value → World → Prop) : M_disk_Disk_DirSync d_p0 w R = den PR ann_disk_Disk_DirSync (bodyOf Try.f26) (retQ PR Try.f26.results.toList R) (env0 [d_p0]) w := by kernel_rfl
theorem C_disk_Disk_DirSync {d_p0 : Value} {w : World} {R : Value → World → Prop} (h : M_disk_Disk_DirSync d_p0 w R) : CALL PR F_disk_Disk_DirSync [d_p0] w R :=
  call_of_den2 ann_disk_Disk_DirSync Try.func26 (by kernel_rfl) (by kernel_rfl) (by kernel_rfl) ((E_disk_Disk_DirSync d_p0 w R) ▸ h)


-- 27 (*tumbrel.disk.Disk).Crash
def M_disk_Disk_Crash (L_p0 i_p1 s_p2 : Value) (w : World) (R : Value → World → Prop) : Prop :=
  BND (nilchk L_p0) fun t12_1 =>
  BND (faddr 2 t12_1) fun t13_2 =>
  BND (load1 w t13_2) fun t14_3 =>
  BND (lenl t14_3) fun t15_4 =>
  BND (min2v i_p1 t15_4) fun t16_5 =>
  BND (binv .int .gtr t16_5 (Value.int .i64 0)) fun t18_6 =>
  JOIN (α := World → Prop) (fun k_145 => COND t18_6
  (BND (nilchk L_p0) fun t21_146 =>
  BND (faddr 2 t21_146) fun t22_147 =>
  BND (load1 w t22_147) fun t23_148 =>
  BND (binv .int .sub t16_5 (Value.int .i64 1)) fun t25_149 =>
  BND (iaddr 1 t23_148 t25_149) fun t26_150 =>
  BND (load1 w t26_150) fun t27_151 =>
  BND (nilchk L_p0) fun t28_152 =>
  BND (faddr 1 t28_152) fun t29_153 =>
  BND (storev 1 w t29_153 t27_151) fun w11 =>
  k_145 w11)
  (k_145 w))
  (fun w1 => BND (nilchk L_p0) fun t33_18 =>
  BND (faddr 2 t33_18) fun t34_19 =>
  BND (storev 1 w1 t34_19 (Value.slice none 0 0)) fun w2 =>
  BND (nilchk L_p0) fun t35_20 =>
  BND (faddr 3 t35_20) fun t36_21 =>
  BND (storev 1 w2 t36_21 (Value.int .i64 (-1))) fun w3 =>
  BND (nilchk L_p0) fun t37_22 =>
  BND (faddr 4 t37_22) fun t38_23 =>
  BND (storev 1 w3 t38_23 (Value.bool false)) fun w4 =>
  BND (nilchk L_p0) fun t40_24 =>
  BND (faddr 1 t40_24) fun t41_25 =>
  BND (load1 w4 t41_25) fun t42_26 =>
  CALL PR F_maps_Keys_file [t42_26] w4 fun t43_27 w5 =>
  CALL PR F_slices_Sorted_string [t43_27] w5 fun t44_28 w6 =>
  BND (lenl t44_28) fun t45_29 =>
  ∃ (J_30 : Value → World → Prop) (m_30 : Value → World → Nat), J_30 (Value.int .i64 0) w6 ∧ ∀ (_d_30 : Env) (t46_35 : Value) (w7 : World), J_30 t46_35 w7 →
  (BND (binv .int .lss t46_35 t45_29) fun t47_89 =>
  COND t47_89
  (BND (iaddr 1 t44_28 t46_35) fun t49_90 =>
  BND (load1 w7 t49_90) fun t50_91 =>
  BND (nilchk L_p0) fun t52_92 =>
  BND (faddr 1 t52_92) fun t53_93 =>
  BND (load1 w7 t53_93) fun t54_94 =>
  BND (lookv .string (Value.pointer none) false w7 t54_94 t50_91) fun t56_95 =>
  BND (lenl s_p2) fun t59_96 =>
  BND (binv .int .lss t46_35 t59_96) fun t60_97 =>
  JOIN (α := Value → World → Prop) (fun k_132 => COND t60_97
  (BND (iaddr 1 s_p2 t46_35) fun t63_133 =>
  BND (nilchk t56_95) fun t67_134 =>
  BND (faddr 0 t67_134) fun t68_135 =>
  BND (nilchk t56_95) fun t72_136 =>
  BND (faddr 1 t72_136) fun t73_137 =>
  BND (load1 w7.drew t63_133) fun t64_138 =>
  BND (max2v t64_138 (Value.int .i64 0)) fun t65_139 =>
  BND (load1 w7.drew t68_135) fun t69_140 =>
  BND (lenl t69_140) fun t70_141 =>
  BND (load1 w7.drew t73_137) fun t74_142 =>
  BND (binv .int .sub t70_141 t74_142) fun t75_143 =>
  BND (min2v t65_139 t75_143) fun t76_144 =>
  k_132 t76_144 w7.drew)
  (k_132 (Value.int .i64 0) w7))
  (fun r_98 w8 => BND (nilchk t56_95) fun t79_115 =>
  BND (faddr 0 t79_115) fun t80_116 =>
  BND (nilchk t56_95) fun t83_117 =>
  BND (faddr 1 t83_117) fun t84_118 =>
  BND (load1 w8.drew t80_116) fun t81_119 =>
  BND (load1 w8.drew t84_118) fun t85_120 =>
  BND (binv .int .add t85_120 r_98) fun t87_121 =>
  BND (slicev 1 t81_119 none (some t87_121)) fun t88_122 =>
  BND (nilchk t56_95) fun t89_123 =>
  BND (faddr 0 t89_123) fun t90_124 =>
  BND (storev 1 w8.drew t90_124 t88_122) fun w9 =>
  BND (nilchk t56_95) fun t93_125 =>
  BND (faddr 0 t93_125) fun t94_126 =>
  BND (load1 w9 t94_126) fun t95_127 =>
  BND (lenl t95_127) fun t96_128 =>
  BND (nilchk t56_95) fun t97_129 =>
  BND (faddr 1 t97_129) fun t98_130 =>
  BND (storev 1 w9 t98_130 t96_128) fun w10 =>
  BND (binv .int .add t46_35 (Value.int .i64 1)) fun t99_131 =>
  (J_30 t99_131 w10 ∧ m_30 t99_131 w10 < m_30 t46_35 w7)))
  (R (.tuple #[]) w7)))
def ann_disk_Disk_Crash : List (Nat × List Nat) := [(10, [0, 1, 2, 5, 6, 7, 10, 11, 12, 3, 4, 8, 9, 13, 14, 15, 16]), (11, [0, 1, 2, 3, 5, 6, 7, 9, 4, 8, 10, 11, 12, 13, 14]), (1000005, [46])]
theorem E_disk_Disk_Crash (L_p0 i_p1 s_p2 : Value) (w : World) (R : Value → World → Prop) : M_disk_Disk_Crash L_p0 i_p1 s_p2 w R = den PR ann_disk_Disk_Crash (bodyOf Try.f27) (retQ PR Try.f27.results.toList R) (env0 [L_p0, i_p1, s_p2]) w := by kernel_rfl
theorem C_disk_Disk_Crash {L_p0 i_p1 s_p2 : Value} {w : World} {R : Value → World → Prop} (h : M_disk_Disk_Crash L_p0 i_p1 s_p2 w R) : CALL PR F_disk_Disk_Crash [L_p0, i_p1, s_p2] w R :=
  call_of_den2 ann_disk_Disk_Crash Try.func27 (by kernel_rfl) (by kernel_rfl) (by kernel_rfl) ((E_disk_Disk_Crash L_p0 i_p1 s_p2 w R) ▸ h)


-- 28 (*tumbrel.disk.Disk).Fuse
def M_disk_Disk_Fuse (d_p0 n_p1 : Value) (w : World) (R : Value → World → Prop) : Prop :=
  BND (max2v n_p1 (Value.int .i64 (-1))) fun t6_1 =>
  BND (nilchk d_p0) fun t7_2 =>
  BND (faddr 3 t7_2) fun t8_3 =>
  BND (storev 1 w t8_3 t6_1) fun w1 =>
  R (.tuple #[]) w1
def ann_disk_Disk_Fuse : List (Nat × List Nat) := []
theorem E_disk_Disk_Fuse (d_p0 n_p1 : Value) (w : World) (R : Value → World → Prop) : M_disk_Disk_Fuse d_p0 n_p1 w R = den PR ann_disk_Disk_Fuse (bodyOf Try.f28) (retQ PR Try.f28.results.toList R) (env0 [d_p0, n_p1]) w := by kernel_rfl
theorem C_disk_Disk_Fuse {d_p0 n_p1 : Value} {w : World} {R : Value → World → Prop} (h : M_disk_Disk_Fuse d_p0 n_p1 w R) : CALL PR F_disk_Disk_Fuse [d_p0, n_p1] w R :=
  call_of_den2 ann_disk_Disk_Fuse Try.func28 (by kernel_rfl) (by kernel_rfl) (by kernel_rfl) ((E_disk_Disk_Fuse d_p0 n_p1 w R) ▸ h)


-- 29 (*tumbrel.disk.Disk).Rename
def M_disk_Disk_Rename (d_p0 from_p1 to_p2 : Value) (w : World) (R : Value → World → Prop) : Prop :=
  CALL PR F_disk_Disk_there [d_p0, from_p1] w fun t12_1 w1 =>
  BND (binv .int .eql t12_1 (Value.int .i64 0)) fun t14_2 =>
  BND (grd (isB t14_2 true) (some to_p2)) fun t16_3 =>
  GEF (isB t14_2 true) (fun k_ => CALL PR F_disk_named [t16_3] w1 k_) w1 fun t17_4 w2 =>
  BND (grd (isB t14_2 true) (unv .not t17_4)) fun t18_5 =>
  BND (pickv t14_2 t18_5 (Value.bool false)) fun t19_6 =>
  JOIN (α := Value → World → Prop) (fun k_25 => COND t19_6
  (k_25 (Value.int .i64 1) w2)
  (k_25 t12_1 w2))
  (fun e_7 w3 => CALL PR F_disk_Disk_can [d_p0, e_7] w3 fun t22_8 w4 =>
  BND (binv .int .eql t22_8 (Value.int .i64 0)) fun t24_9 =>
  JOIN (α := World → Prop) (fun k_22 => COND t24_9
  (CALL PR F_disk_Disk_change [d_p0] w4 fun t26_23 w6 =>
  BND (lookv .string (Value.pointer none) false w6 t26_23 from_p1) fun t29_24 =>
  BND (mdel .string w6 t26_23 from_p1) fun w7 =>
  BND (mupd .string w7 t26_23 to_p2 t29_24) fun w8 =>
  k_22 w8)
  (k_22 w4))
  (fun w5 => R t22_8 w5))
def ann_disk_Disk_Rename : List (Nat × List Nat) := []
theorem E_disk_Disk_Rename (d_p0 from_p1 to_p2 : Value) (w : World) (R : Value → World → Prop) : M_disk_Disk_Rename d_p0 from_p1 to_p2 w R = den PR ann_disk_Disk_Rename (bodyOf Try.f29) (retQ PR Try.f29.results.toList R) (env0 [d_p0, from_p1, to_p2]) w := by kernel_rfl
theorem C_disk_Disk_Rename {d_p0 from_p1 to_p2 : Value} {w : World} {R : Value → World → Prop} (h : M_disk_Disk_Rename d_p0 from_p1 to_p2 w R) : CALL PR F_disk_Disk_Rename [d_p0, from_p1, to_p2] w R :=
  call_of_den2 ann_disk_Disk_Rename Try.func29 (by kernel_rfl) (by kernel_rfl) (by kernel_rfl) ((E_disk_Disk_Rename d_p0 from_p1 to_p2 w R) ▸ h)


-- 30 (*tumbrel.disk.Disk).Cut
def M_disk_Disk_Cut (d_p0 name_p1 n_p2 : Value) (w : World) (R : Value → World → Prop) : Prop :=
  CALL PR F_disk_Disk_there [d_p0, name_p1] w fun t11_1 w1 =>
  BND (binv .int .eql t11_1 (Value.int .i64 0)) fun t13_2 =>
  BND (grd (isB t13_2 true) (some n_p2)) fun t15_3 =>
  BND (grd (isB t13_2 true) (binv .int .lss t15_3 (Value.int .i64 0))) fun t16_4 =>
  BND (grd (isB t13_2 true) (some t16_4)) fun t17_5 =>
  BND (grd (isB t17_5 false) (some n_p2)) fun t18_6 =>
  BND (grd (isB t17_5 false) (some d_p0)) fun t19_7 =>
  GEF (isB t17_5 false) (fun k_ => CALL PR F_disk_Disk_now [t19_7] w1 k_) w1 fun t20_8 w2 =>
  BND (grd (isB t17_5 false) (some name_p1)) fun t21_9 =>
  BND (grd (isB t17_5 false) (lookv .string (Value.pointer none) false w2 t20_8 t21_9)) fun t22_10 =>
  BND (grd (isB t17_5 false) (nilchk t22_10)) fun t23_11 =>
  BND (grd (isB t17_5 false) (faddr 0 t23_11)) fun t24_12 =>
  BND (grd (isB t17_5 false) (load1 w2 t24_12)) fun t25_13 =>
  BND (grd (isB t17_5 false) (lenl t25_13)) fun t26_14 =>
  BND (grd (isB t17_5 false) (binv .int .gtr t18_6 t26_14)) fun t27_15 =>
  BND (grd (isB t13_2 true) (pickv t17_5 (Value.bool true) t27_15)) fun t28_16 =>
  BND (pickv t13_2 t28_16 (Value.bool false)) fun t29_17 =>
  JOIN (α := Value → World → Prop) (fun k_59 => COND t29_17
  (k_59 (Value.int .i64 1) w2)
  (k_59 t11_1 w2))
  (fun e_18 w3 => CALL PR F_disk_Disk_can [d_p0, e_18] w3 fun t32_19 w4 =>
  BND (binv .int .eql t32_19 (Value.int .i64 0)) fun t34_20 =>
  JOIN (α := World → Prop) (fun k_44 => COND t34_20
  (CALL PR F_disk_Disk_now [d_p0] w4 fun t36_45 w6 =>
  BND (lookv .string (Value.pointer none) false w6 t36_45 name_p1) fun t38_46 =>
  BND (nilchk t38_46) fun t42_47 =>
  BND (faddr 0 t42_47) fun t43_48 =>
  BND (nilchk t38_46) fun t48_49 =>
  BND (faddr 1 t48_49) fun t49_50 =>
  BND (load1 w6.drew t43_48) fun t44_51 =>
  BND (slicev 1 t44_51 none (some n_p2)) fun t46_52 =>
  BND (load1 w6.drew t49_50) fun t50_53 =>
  BND (min2v t50_53 n_p2) fun t52_54 =>
  BND (nilchk t38_46) fun t53_55 =>
  BND (faddr 0 t53_55) fun t54_56 =>
  BND (storev 1 w6.drew t54_56 t46_52) fun w7 =>
  BND (nilchk t38_46) fun t55_57 =>
  BND (faddr 1 t55_57) fun t56_58 =>
  BND (storev 1 w7 t56_58 t52_54) fun w8 =>
  k_44 w8)
  (k_44 w4))
  (fun w5 => R t32_19 w5))
def ann_disk_Disk_Cut : List (Nat × List Nat) := [(7, [0, 1, 2, 3, 4, 6, 8, 9, 10, 12, 5, 7, 11, 13, 14, 15, 16, 17, 18, 19])]
theorem E_disk_Disk_Cut (d_p0 name_p1 n_p2 : Value) (w : World) (R : Value → World → Prop) : M_disk_Disk_Cut d_p0 name_p1 n_p2 w R = den PR ann_disk_Disk_Cut (bodyOf Try.f30) (retQ PR Try.f30.results.toList R) (env0 [d_p0, name_p1, n_p2]) w := by kernel_rfl
theorem C_disk_Disk_Cut {d_p0 name_p1 n_p2 : Value} {w : World} {R : Value → World → Prop} (h : M_disk_Disk_Cut d_p0 name_p1 n_p2 w R) : CALL PR F_disk_Disk_Cut [d_p0, name_p1, n_p2] w R :=
  call_of_den2 ann_disk_Disk_Cut Try.func30 (by kernel_rfl) (by kernel_rfl) (by kernel_rfl) ((E_disk_Disk_Cut d_p0 name_p1 n_p2 w R) ▸ h)


-- 31 (*tumbrel.disk.Disk).Delete
def M_disk_Disk_Delete (d_p0 name_p1 : Value) (w : World) (R : Value → World → Prop) : Prop :=
  CALL PR F_disk_Disk_there [d_p0, name_p1] w fun t9_1 w1 =>
  CALL PR F_disk_Disk_can [d_p0, t9_1] w1 fun t10_2 w2 =>
  BND (binv .int .eql t10_2 (Value.int .i64 0)) fun t12_3 =>
  JOIN (α := World → Prop) (fun k_7 => COND t12_3
  (CALL PR F_disk_Disk_change [d_p0] w2 fun t14_8 w4 =>
  BND (mdel .string w4 t14_8 name_p1) fun w5 =>
  k_7 w5)
  (k_7 w2))
  (fun w3 => R t10_2 w3)
def ann_disk_Disk_Delete : List (Nat × List Nat) := []
theorem E_disk_Disk_Delete (d_p0 name_p1 : Value) (w : World) (R : Value → World → Prop) : M_disk_Disk_Delete d_p0 name_p1 w R = den PR ann_disk_Disk_Delete (bodyOf Try.f31) (retQ PR Try.f31.results.toList R) (env0 [d_p0, name_p1]) w := by kernel_rfl
theorem C_disk_Disk_Delete {d_p0 name_p1 : Value} {w : World} {R : Value → World → Prop} (h : M_disk_Disk_Delete d_p0 name_p1 w R) : CALL PR F_disk_Disk_Delete [d_p0, name_p1] w R :=
  call_of_den2 ann_disk_Disk_Delete Try.func31 (by kernel_rfl) (by kernel_rfl) (by kernel_rfl) ((E_disk_Disk_Delete d_p0 name_p1 w R) ▸ h)


-- 32 (*tumbrel.tumbrelref06.Disk).Create
def M_tumbrelref06_Disk_Create (d_p0 name_p1 : Value) (w : World) (R : Value → World → Prop) : Prop :=
  CALL PR F_tumbrelref06_may [name_p1] w fun t7_1 w1 =>
  BND (unv .not t7_1) fun t8_2 =>
  JOIN (α := Value → World → Prop) (fun k_77 => COND t8_2
  (k_77 (Value.int .i64 1) w1)
  (CALL PR F_tumbrelref06_Disk_find [d_p0, name_p1] w1 fun t11_78 w17 =>
  BND (binv .int .geq t11_78 (Value.int .i64 0)) fun t12_79 =>
  JOIN (α := Value → World → Prop) (fun k_85 => COND t12_79
  (k_85 (Value.int .i64 6) w17)
  (CALL PR F_tumbrelref06_Disk_now [d_p0] w17 fun t14_86 w19 =>
  BND (lenl t14_86) fun t15_87 =>
  BND (binv .int .geq t15_87 (Value.int .i64 60)) fun t16_88 =>
  JOIN (α := Value → World → Prop) (fun k_90 => COND t16_88
  (k_90 (Value.int .i64 4) w19)
  (k_90 (Value.int .i64 0) w19))
  (fun e_89 w20 => k_85 e_89 w20)))
  (fun e_80 w18 => k_77 e_80 w18)))
  (fun e_3 w2 => CALL PR F_tumbrelref06_Disk_can [d_p0, e_3] w2 fun t19_12 w3 =>
  BND (binv .int .eql t19_12 (Value.int .i64 0)) fun t21_13 =>
  JOIN (α := World → Prop) (fun k_48 => COND t21_13
  (BND (newslice 80 #[(Value.slice none 0 0), (Value.int .i64 0)] 2 0 [] w3) fun p_ => NEW p_ fun t23_49 w5 =>
  BND (nilchk d_p0) fun t25_50 =>
  BND (faddr 1 t25_50) fun t26_51 =>
  BND (load1 w5 t26_51) fun t27_52 =>
  APPEND 80 2 32 (Value.agg #[(Value.slice none 0 0), (Value.int .i64 0)]) t23_49 t27_52 w5 fun t28_53 w6 =>
  BND (buildv #[(Value.slice none 0 0), (Value.int .i64 0)] []) fun t29_54 =>
  BND (newslice 80 #[(Value.slice none 0 0), (Value.int .i64 0)] 2 1 [(0, 2, t29_54)] w6) fun p_ => NEW p_ fun t30_55 w7 =>
  APPEND 80 2 32 (Value.agg #[(Value.slice none 0 0), (Value.int .i64 0)]) t28_53 t30_55 w7 fun t31_56 w8 =>
  BND (nilchk d_p0) fun t32_57 =>
  BND (faddr 1 t32_57) fun t33_58 =>
  BND (storev 1 w8 t33_58 t31_56) fun w9 =>
  ∃ S_59 : Nat → World → Prop,
  S_59 5 w9.drew ∧
  S_59 13 w9.drew ∧
  BND (nilchk d_p0) fun t37_60 =>
  BND (faddr 2 t37_60) fun t38_61 =>
  FLT (S_59 5) (fun w_ => load1 w_ t38_61) fun t39_62 =>
  BND (nilchk d_p0) fun t45_63 =>
  BND (faddr 1 t45_63) fun t46_64 =>
  FLT (S_59 13) (fun w_ => load1 w_ t46_64) fun t47_65 =>
  BND (lenl t47_65) fun t48_66 =>
  BND (binv .int .sub t48_66 (Value.int .i64 1)) fun t49_67 =>
  BND (buildv #[(Value.string ByteArray.empty), (Value.int .i64 0)] [(0, 1, name_p1), (1, 1, t49_67)]) fun t50_68 =>
  BND (newslice 64 #[(Value.slice none 0 0)] 1 0 [] w9.drew) fun p_ => NEW p_ fun t35_69 w10 =>
  S_59 5 w10 ∧
  S_59 13 w10 ∧
  APPEND 64 1 24 (Value.slice none 0 0) t35_69 t39_62 w10 fun t40_70 w11 =>
  S_59 13 w11 ∧
  CALL PR F_tumbrelref06_Disk_now [d_p0] w11 fun t42_71 w12 =>
  S_59 13 w12 ∧
  CALL PR F_tumbrelref06_with [t42_71, t50_68] w12 fun t51_72 w13 =>
  BND (newslice 64 #[(Value.slice none 0 0)] 1 1 [(0, 1, t51_72)] w13) fun p_ => NEW p_ fun t52_73 w14 =>
  APPEND 64 1 24 (Value.slice none 0 0) t40_70 t52_73 w14 fun t53_74 w15 =>
  BND (nilchk d_p0) fun t54_75 =>
  BND (faddr 2 t54_75) fun t55_76 =>
  BND (storev 1 w15 t55_76 t53_74) fun w16 =>
  k_48 w16)
  (k_48 w3))
  (fun w4 => R t19_12 w4))
def ann_tumbrelref06_Disk_Create : List (Nat × List Nat) := [(11, [0, 2, 3, 4, 5, 7, 9, 10, 11, 12, 13, 14, 15, 16, 1, 6, 8, 17, 18, 19, 20, 21, 22]), (2000011, [5, 13]), (3011001, [5, 13]), (3011006, [13]), (3011008, [13])]
theorem E_tumbrelref06_Disk_Create (d_p0 name_p1 : Value) (w : World) (R : Value → World → Prop) : M_tumbrelref06_Disk_Create d_p0 name_p1 w R = den PR ann_tumbrelref06_Disk_Create (bodyOf Try.f32) (retQ PR Try.f32.results.toList R) (env0 [d_p0, name_p1]) w := by kernel_rfl
theorem C_tumbrelref06_Disk_Create {d_p0 name_p1 : Value} {w : World} {R : Value → World → Prop} (h : M_tumbrelref06_Disk_Create d_p0 name_p1 w R) : CALL PR F_tumbrelref06_Disk_Create [d_p0, name_p1] w R :=
  call_of_den2 ann_tumbrelref06_Disk_Create Try.func32 (by kernel_rfl) (by kernel_rfl) (by kernel_rfl) ((E_tumbrelref06_Disk_Create d_p0 name_p1 w R) ▸ h)


-- 33 (*tumbrel.tumbrelref06.Disk).Append
def M_tumbrelref06_Disk_Append (d_p0 name_p1 b_p2 : Value) (w : World) (R : Value → World → Prop) : Prop :=
  CALL PR F_tumbrelref06_Disk_find [d_p0, name_p1] w fun t11_1 w1 =>
  BND (binv .int .lss t11_1 (Value.int .i64 0)) fun t13_2 =>
  JOIN (α := Value → World → Prop) (fun k_51 => COND t13_2
  (k_51 (Value.int .i64 5) w1)
  (∃ S_52 : Nat → World → Prop,
  S_52 8 w1.drew ∧
  BND (lenl b_p2) fun t17_53 =>
  BND (nilchk d_p0) fun t20_54 =>
  BND (faddr 0 t20_54) fun t21_55 =>
  FLT (S_52 8) (fun w_ => load1 w_ t21_55) fun t22_56 =>
  CALL PR F_tumbrelref06_Disk_Held [d_p0] w1.drew fun t15_57 w9 =>
  S_52 8 w9 ∧
  BND (binv .int .add t15_57 t17_53) fun t18_58 =>
  BND (binv .int .gtr t18_58 t22_56) fun t23_59 =>
  JOIN (α := Value → World → Prop) (fun k_61 => COND t23_59
  (k_61 (Value.int .i64 4) w9)
  (k_61 (Value.int .i64 0) w9))
  (fun e_60 w10 => k_51 e_60 w10)))
  (fun e_3 w2 => CALL PR F_tumbrelref06_Disk_can [d_p0, e_3] w2 fun t26_14 w3 =>
  BND (binv .int .eql t26_14 (Value.int .i64 0)) fun t28_15 =>
  JOIN (α := World → Prop) (fun k_35 => COND t28_15
  (∃ S_36 : Nat → World → Prop,
  S_36 3 w3.drew ∧
  S_36 9 w3.drew ∧
  S_36 13 w3.drew ∧
  BND (nilchk d_p0) fun t30_37 =>
  BND (faddr 1 t30_37) fun t31_38 =>
  FLT (S_36 3) (fun w_ => load1 w_ t31_38) fun t32_39 =>
  BND (nilchk d_p0) fun t36_40 =>
  BND (faddr 1 t36_40) fun t37_41 =>
  FLT (S_36 9) (fun w_ => load1 w_ t37_41) fun t38_42 =>
  BND (iaddr 2 t38_42 t11_1) fun t40_43 =>
  BND (faddr 0 t40_43) fun t41_44 =>
  FLT (S_36 13) (fun w_ => load1 w_ t41_44) fun t42_45 =>
  BND (newslice 5 #[(Value.int .u8 0)] 1 0 [] w3.drew) fun p_ => NEW p_ fun t34_46 w5 =>
  S_36 3 w5 ∧
  S_36 9 w5 ∧
  S_36 13 w5 ∧
  APPEND 5 1 1 (Value.int .u8 0) t34_46 t42_45 w5 fun t43_47 w6 =>
  S_36 3 w6 ∧
  APPEND 5 1 1 (Value.int .u8 0) t43_47 b_p2 w6 fun t45_48 w7 =>
  S_36 3 w7 ∧
  BND (iaddr 2 t32_39 t11_1) fun t46_49 =>
  BND (faddr 0 t46_49) fun t47_50 =>
  BND (storev 1 w7 t47_50 t45_48) fun w8 =>
  k_35 w8)
  (k_35 w3))
  (fun w4 => R t26_14 w4))
def ann_tumbrelref06_Disk_Append : List (Nat × List Nat) := [(5, [0, 2, 3, 5, 6, 7, 8, 1, 4, 9]), (9, [0, 1, 2, 3, 4, 6, 7, 8, 9, 10, 11, 12, 13, 15, 5, 14, 16, 17, 18, 19]), (2000005, [8]), (2000009, [3, 9, 13]), (3005001, [8]), (3009005, [3, 9, 13]), (3009014, [3]), (3009016, [3])]
theorem E_tumbrelref06_Disk_Append (d_p0 name_p1 b_p2 : Value) (w : World) (R : Value → World → Prop) : M_tumbrelref06_Disk_Append d_p0 name_p1 b_p2 w R = den PR ann_tumbrelref06_Disk_Append (bodyOf Try.f33) (retQ PR Try.f33.results.toList R) (env0 [d_p0, name_p1, b_p2]) w := by kernel_rfl
theorem C_tumbrelref06_Disk_Append {d_p0 name_p1 b_p2 : Value} {w : World} {R : Value → World → Prop} (h : M_tumbrelref06_Disk_Append d_p0 name_p1 b_p2 w R) : CALL PR F_tumbrelref06_Disk_Append [d_p0, name_p1, b_p2] w R :=
  call_of_den2 ann_tumbrelref06_Disk_Append Try.func33 (by kernel_rfl) (by kernel_rfl) (by kernel_rfl) ((E_tumbrelref06_Disk_Append d_p0 name_p1 b_p2 w R) ▸ h)


-- 34 (*tumbrel.tumbrelref06.Disk).Sync
def M_tumbrelref06_Disk_Sync (d_p0 name_p1 : Value) (w : World) (R : Value → World → Prop) : Prop :=
  CALL PR F_tumbrelref06_Disk_find [d_p0, name_p1] w fun t9_1 w1 =>
  BND (binv .int .lss t9_1 (Value.int .i64 0)) fun t11_2 =>
  JOIN (α := Value → World → Prop) (fun k_35 => COND t11_2
  (k_35 (Value.int .i64 5) w1)
  (k_35 (Value.int .i64 0) w1))
  (fun e_3 w2 => CALL PR F_tumbrelref06_Disk_can [d_p0, e_3] w2 fun t14_4 w3 =>
  BND (binv .int .eql t14_4 (Value.int .i64 0)) fun t16_5 =>
  JOIN (α := World → Prop) (fun k_22 => COND t16_5
  (BND (nilchk d_p0) fun t18_23 =>
  BND (faddr 1 t18_23) fun t19_24 =>
  BND (nilchk d_p0) fun t23_25 =>
  BND (faddr 1 t23_25) fun t24_26 =>
  BND (load1 w3.drew t19_24) fun t20_27 =>
  BND (load1 w3.drew t24_26) fun t25_28 =>
  BND (iaddr 2 t25_28 t9_1) fun t27_29 =>
  BND (faddr 0 t27_29) fun t28_30 =>
  BND (load1 w3.drew t28_30) fun t29_31 =>
  BND (lenl t29_31) fun t30_32 =>
  BND (iaddr 2 t20_27 t9_1) fun t31_33 =>
  BND (faddr 1 t31_33) fun t32_34 =>
  BND (storev 1 w3.drew t32_34 t30_32) fun w5 =>
  k_22 w5)
  (k_22 w3))
  (fun w4 => R t14_4 w4))
def ann_tumbrelref06_Disk_Sync : List (Nat × List Nat) := [(7, [0, 1, 2, 4, 5, 6, 7, 9, 3, 8, 10, 11, 12, 13, 14, 15, 16])]
theorem E_tumbrelref06_Disk_Sync (d_p0 name_p1 : Value) (w : World) (R : Value → World → Prop) : M_tumbrelref06_Disk_Sync d_p0 name_p1 w R = den PR ann_tumbrelref06_Disk_Sync (bodyOf Try.f34) (retQ PR Try.f34.results.toList R) (env0 [d_p0, name_p1]) w := by kernel_rfl
theorem C_tumbrelref06_Disk_Sync {d_p0 name_p1 : Value} {w : World} {R : Value → World → Prop} (h : M_tumbrelref06_Disk_Sync d_p0 name_p1 w R) : CALL PR F_tumbrelref06_Disk_Sync [d_p0, name_p1] w R :=
  call_of_den2 ann_tumbrelref06_Disk_Sync Try.func34 (by kernel_rfl) (by kernel_rfl) (by kernel_rfl) ((E_tumbrelref06_Disk_Sync d_p0 name_p1 w R) ▸ h)


-- 35 (*tumbrel.tumbrelref06.Disk).Cut
def M_tumbrelref06_Disk_Cut (L_p0 i_p1 s_p2 : Value) (w : World) (R : Value → World → Prop) : Prop :=
  CALL PR F_tumbrelref06_Disk_find [L_p0, i_p1] w fun y_1 w1 =>
  BND (binv .int .lss y_1 (Value.int .i64 0)) fun t13_2 =>
  JOIN (α := Value → World → Prop) (fun k_85 => COND t13_2
  (k_85 (Value.int .i64 5) w1)
  (BND (binv .int .lss s_p2 (Value.int .i64 0)) fun t15_86 =>
  BND (grd (isB t15_86 false) (some s_p2)) fun t17_87 =>
  BND (grd (isB t15_86 false) (some L_p0)) fun t18_88 =>
  BND (grd (isB t15_86 false) (nilchk t18_88)) fun t19_89 =>
  BND (grd (isB t15_86 false) (faddr 1 t19_89)) fun t20_90 =>
  BND (grd (isB t15_86 false) (load1 w1 t20_90)) fun t21_91 =>
  BND (grd (isB t15_86 false) (some y_1)) fun t22_92 =>
  BND (grd (isB t15_86 false) (iaddr 2 t21_91 t22_92)) fun t23_93 =>
  BND (grd (isB t15_86 false) (faddr 0 t23_93)) fun t24_94 =>
  BND (grd (isB t15_86 false) (load1 w1 t24_94)) fun t25_95 =>
  BND (grd (isB t15_86 false) (lenl t25_95)) fun t26_96 =>
  BND (grd (isB t15_86 false) (binv .int .gtr t17_87 t26_96)) fun t27_97 =>
  BND (pickv t15_86 (Value.bool true) t27_97) fun t28_98 =>
  JOIN (α := Value → World → Prop) (fun k_100 => COND t28_98
  (k_100 (Value.int .i64 1) w1)
  (k_100 (Value.int .i64 0) w1))
  (fun r_99 w9 => k_85 r_99 w9)))
  (fun r_3 w2 => CALL PR F_tumbrelref06_Disk_can [L_p0, r_3] w2 fun t31_19 w3 =>
  BND (binv .int .eql t31_19 (Value.int .i64 0)) fun t33_20 =>
  JOIN (α := World → Prop) (fun k_57 => COND t33_20
  (∃ S_58 : Nat → World → Prop,
  S_58 3 w3.drew ∧
  S_58 9 w3.drew ∧
  S_58 13 w3.drew ∧
  BND (nilchk L_p0) fun t35_59 =>
  BND (faddr 1 t35_59) fun t36_60 =>
  FLT (S_58 3) (fun w_ => load1 w_ t36_60) fun t37_61 =>
  BND (nilchk L_p0) fun t41_62 =>
  BND (faddr 1 t41_62) fun t42_63 =>
  FLT (S_58 9) (fun w_ => load1 w_ t42_63) fun t43_64 =>
  BND (iaddr 2 t43_64 y_1) fun t45_65 =>
  BND (faddr 0 t45_65) fun t46_66 =>
  FLT (S_58 13) (fun w_ => load1 w_ t46_66) fun t47_67 =>
  BND (slicev 1 t47_67 none (some s_p2)) fun t49_68 =>
  BND (newslice 5 #[(Value.int .u8 0)] 1 0 [] w3.drew) fun p_ => NEW p_ fun t39_69 w5 =>
  S_58 3 w5 ∧
  S_58 9 w5 ∧
  S_58 13 w5 ∧
  APPEND 5 1 1 (Value.int .u8 0) t39_69 t49_68 w5 fun t50_70 w6 =>
  S_58 3 w6 ∧
  BND (iaddr 2 t37_61 y_1) fun t51_71 =>
  BND (faddr 0 t51_71) fun t52_72 =>
  BND (storev 1 w6 t52_72 t50_70) fun w7 =>
  BND (nilchk L_p0) fun t54_73 =>
  BND (faddr 1 t54_73) fun t55_74 =>
  BND (nilchk L_p0) fun t59_75 =>
  BND (faddr 1 t59_75) fun t60_76 =>
  BND (load1 w7.drew t55_74) fun t56_77 =>
  BND (load1 w7.drew t60_76) fun t61_78 =>
  BND (iaddr 2 t61_78 y_1) fun t63_79 =>
  BND (faddr 1 t63_79) fun t64_80 =>
  BND (load1 w7.drew t64_80) fun t65_81 =>
  BND (min2v t65_81 s_p2) fun t67_82 =>
  BND (iaddr 2 t56_77 y_1) fun t68_83 =>
  BND (faddr 1 t68_83) fun t69_84 =>
  BND (storev 1 w7.drew t69_84 t67_82) fun w8 =>
  k_57 w8)
  (k_57 w3))
  (fun w4 => R t31_19 w4))
def ann_tumbrelref06_Disk_Cut : List (Nat × List Nat) := [(9, [0, 1, 2, 3, 4, 6, 7, 8, 9, 10, 11, 12, 13, 14, 15, 5, 16, 17, 18, 19]), (10, [0, 1, 2, 4, 5, 6, 7, 9, 13, 3, 8, 10, 11, 12, 14, 15, 16, 17]), (2000009, [3, 9, 13]), (3009005, [3, 9, 13]), (3009016, [3])]
theorem E_tumbrelref06_Disk_Cut (L_p0 i_p1 s_p2 : Value) (w : World) (R : Value → World → Prop) : M_tumbrelref06_Disk_Cut L_p0 i_p1 s_p2 w R = den PR ann_tumbrelref06_Disk_Cut (bodyOf Try.f35) (retQ PR Try.f35.results.toList R) (env0 [L_p0, i_p1, s_p2]) w := by kernel_rfl
theorem C_tumbrelref06_Disk_Cut {L_p0 i_p1 s_p2 : Value} {w : World} {R : Value → World → Prop} (h : M_tumbrelref06_Disk_Cut L_p0 i_p1 s_p2 w R) : CALL PR F_tumbrelref06_Disk_Cut [L_p0, i_p1, s_p2] w R :=
  call_of_den2 ann_tumbrelref06_Disk_Cut Try.func35 (by kernel_rfl) (by kernel_rfl) (by kernel_rfl) ((E_tumbrelref06_Disk_Cut L_p0 i_p1 s_p2 w R) ▸ h)


-- 36 (*tumbrel.tumbrelref06.Disk).Rename
def M_tumbrelref06_Disk_Rename (d_p0 from_p1 to_p2 : Value) (w : World) (R : Value → World → Prop) : Prop :=
  CALL PR F_tumbrelref06_Disk_find [d_p0, from_p1] w fun t11_1 w1 =>
  BND (binv .int .lss t11_1 (Value.int .i64 0)) fun t13_2 =>
  JOIN (α := Value → World → Prop) (fun k_45 => COND t13_2
  (k_45 (Value.int .i64 5) w1)
  (CALL PR F_tumbrelref06_may [to_p2] w1 fun t15_46 w14 =>
  BND (unv .not t15_46) fun t16_47 =>
  JOIN (α := Value → World → Prop) (fun k_49 => COND t16_47
  (k_49 (Value.int .i64 1) w14)
  (k_49 (Value.int .i64 0) w14))
  (fun e_48 w15 => k_45 e_48 w15)))
  (fun e_3 w2 => CALL PR F_tumbrelref06_Disk_can [d_p0, e_3] w2 fun t19_7 w3 =>
  BND (binv .int .eql t19_7 (Value.int .i64 0)) fun t21_8 =>
  JOIN (α := World → Prop) (fun k_30 => COND t21_8
  (BND (newslice 64 #[(Value.slice none 0 0)] 1 0 [] w3) fun p_ => NEW p_ fun t23_31 w5 =>
  BND (nilchk d_p0) fun t25_32 =>
  BND (faddr 2 t25_32) fun t26_33 =>
  BND (load1 w5 t26_33) fun t27_34 =>
  APPEND 64 1 24 (Value.slice none 0 0) t23_31 t27_34 w5 fun t28_35 w6 =>
  CALL PR F_tumbrelref06_Disk_now [d_p0] w6 fun t30_36 w7 =>
  CALL PR F_tumbrelref06_without [t30_36, from_p1] w7 fun t32_37 w8 =>
  CALL PR F_tumbrelref06_without [t32_37, to_p2] w8 fun t34_38 w9 =>
  BND (buildv #[(Value.string ByteArray.empty), (Value.int .i64 0)] [(0, 1, to_p2), (1, 1, t11_1)]) fun t37_39 =>
  CALL PR F_tumbrelref06_with [t34_38, t37_39] w9 fun t38_40 w10 =>
  BND (newslice 64 #[(Value.slice none 0 0)] 1 1 [(0, 1, t38_40)] w10) fun p_ => NEW p_ fun t39_41 w11 =>
  APPEND 64 1 24 (Value.slice none 0 0) t28_35 t39_41 w11 fun t40_42 w12 =>
  BND (nilchk d_p0) fun t41_43 =>
  BND (faddr 2 t41_43) fun t42_44 =>
  BND (storev 1 w12 t42_44 t40_42) fun w13 =>
  k_30 w13)
  (k_30 w3))
  (fun w4 => R t19_7 w4))
def ann_tumbrelref06_Disk_Rename : List (Nat × List Nat) := []
theorem E_tumbrelref06_Disk_Rename (d_p0 from_p1 to_p2 : Value) (w : World) (R : Value → World → Prop) : M_tumbrelref06_Disk_Rename d_p0 from_p1 to_p2 w R = den PR ann_tumbrelref06_Disk_Rename (bodyOf Try.f36) (retQ PR Try.f36.results.toList R) (env0 [d_p0, from_p1, to_p2]) w := by kernel_rfl
theorem C_tumbrelref06_Disk_Rename {d_p0 from_p1 to_p2 : Value} {w : World} {R : Value → World → Prop} (h : M_tumbrelref06_Disk_Rename d_p0 from_p1 to_p2 w R) : CALL PR F_tumbrelref06_Disk_Rename [d_p0, from_p1, to_p2] w R :=
  call_of_den2 ann_tumbrelref06_Disk_Rename Try.func36 (by kernel_rfl) (by kernel_rfl) (by kernel_rfl) ((E_tumbrelref06_Disk_Rename d_p0 from_p1 to_p2 w R) ▸ h)


-- 37 (*tumbrel.tumbrelref06.Disk).Delete
def M_tumbrelref06_Disk_Delete (d_p0 name_p1 : Value) (w : World) (R : Value → World → Prop) : Prop :=
  CALL PR F_tumbrelref06_Disk_find [d_p0, name_p1] w fun t8_1 w1 =>
  BND (binv .int .lss t8_1 (Value.int .i64 0)) fun t9_2 =>
  JOIN (α := Value → World → Prop) (fun k_33 => COND t9_2
  (k_33 (Value.int .i64 5) w1)
  (k_33 (Value.int .i64 0) w1))
  (fun e_3 w2 => CALL PR F_tumbrelref06_Disk_can [d_p0, e_3] w2 fun t12_4 w3 =>
  BND (binv .int .eql t12_4 (Value.int .i64 0)) fun t14_5 =>
  JOIN (α := World → Prop) (fun k_21 => COND t14_5
  (BND (newslice 64 #[(Value.slice none 0 0)] 1 0 [] w3) fun p_ => NEW p_ fun t16_22 w5 =>
  BND (nilchk d_p0) fun t18_23 =>
  BND (faddr 2 t18_23) fun t19_24 =>
  BND (load1 w5 t19_24) fun t20_25 =>
  APPEND 64 1 24 (Value.slice none 0 0) t16_22 t20_25 w5 fun t21_26 w6 =>
  CALL PR F_tumbrelref06_Disk_now [d_p0] w6 fun t23_27 w7 =>
  CALL PR F_tumbrelref06_without [t23_27, name_p1] w7 fun t25_28 w8 =>
  BND (newslice 64 #[(Value.slice none 0 0)] 1 1 [(0, 1, t25_28)] w8) fun p_ => NEW p_ fun t26_29 w9 =>
  APPEND 64 1 24 (Value.slice none 0 0) t21_26 t26_29 w9 fun t27_30 w10 =>
  BND (nilchk d_p0) fun t28_31 =>
  BND (faddr 2 t28_31) fun t29_32 =>
  BND (storev 1 w10 t29_32 t27_30) fun w11 =>
  k_21 w11)
  (k_21 w3))
  (fun w4 => R t12_4 w4))
def ann_tumbrelref06_Disk_Delete : List (Nat × List Nat) := []
theorem E_tumbrelref06_Disk_Delete (d_p0 name_p1 : Value) (w : World) (R : Value → World → Prop) : M_tumbrelref06_Disk_Delete d_p0 name_p1 w R = den PR ann_tumbrelref06_Disk_Delete (bodyOf Try.f37) (retQ PR Try.f37.results.toList R) (env0 [d_p0, name_p1]) w := by kernel_rfl
theorem C_tumbrelref06_Disk_Delete {d_p0 name_p1 : Value} {w : World} {R : Value → World → Prop} (h : M_tumbrelref06_Disk_Delete d_p0 name_p1 w R) : CALL PR F_tumbrelref06_Disk_Delete [d_p0, name_p1] w R :=
  call_of_den2 ann_tumbrelref06_Disk_Delete Try.func37 (by kernel_rfl) (by kernel_rfl) (by kernel_rfl) ((E_tumbrelref06_Disk_Delete d_p0 name_p1 w R) ▸ h)


-- 38 (*tumbrel.tumbrelref06.Disk).DirSync
def M_tumbrelref06_Disk_DirSync (d_p0 : Value) (w : World) (R : Value → World → Prop) : Prop :=
  CALL PR F_tumbrelref06_Disk_can [d_p0, (Value.int .i64 0)] w fun t5_1 w1 =>
  BND (binv .int .eql t5_1 (Value.int .i64 0)) fun t7_2 =>
  JOIN (α := World → Prop) (fun k_9 => COND t7_2
  (CALL PR F_tumbrelref06_Disk_now [d_p0] w1 fun t10_10 w3 =>
  BND (newslice 64 #[(Value.slice none 0 0)] 1 1 [(0, 1, t10_10)] w3) fun p_ => NEW p_ fun t11_11 w4 =>
  BND (nilchk d_p0) fun t12_12 =>
  BND (faddr 2 t12_12) fun t13_13 =>
  BND (storev 1 w4 t13_13 t11_11) fun w5 =>
  k_9 w5)
  (k_9 w1))
  (fun w2 => R t5_1 w2)
def ann_tumbrelref06_Disk_DirSync : List (Nat × List Nat) := []
theorem E_tumbrelref06_Disk_DirSync (d_p0 : Value) (w : World) (R : Value → World → Prop) : M_tumbrelref06_Disk_DirSync d_p0 w R = den PR ann_tumbrelref06_Disk_DirSync (bodyOf Try.f38) (retQ PR Try.f38.results.toList R) (env0 [d_p0]) w := by kernel_rfl
theorem C_tumbrelref06_Disk_DirSync {d_p0 : Value} {w : World} {R : Value → World → Prop} (h : M_tumbrelref06_Disk_DirSync d_p0 w R) : CALL PR F_tumbrelref06_Disk_DirSync [d_p0] w R :=
  call_of_den2 ann_tumbrelref06_Disk_DirSync Try.func38 (by kernel_rfl) (by kernel_rfl) (by kernel_rfl) ((E_tumbrelref06_Disk_DirSync d_p0 w R) ▸ h)


-- 39 (*tumbrel.tumbrelref06.Disk).Fuse
def M_tumbrelref06_Disk_Fuse (d_p0 n_p1 : Value) (w : World) (R : Value → World → Prop) : Prop :=
  BND (max2v n_p1 (Value.int .i64 (-1))) fun t6_1 =>
  BND (nilchk d_p0) fun t7_2 =>
  BND (faddr 3 t7_2) fun t8_3 =>
  BND (storev 1 w t8_3 t6_1) fun w1 =>
  R (.tuple #[]) w1
def ann_tumbrelref06_Disk_Fuse : List (Nat × List Nat) := []
theorem E_tumbrelref06_Disk_Fuse (d_p0 n_p1 : Value) (w : World) (R : Value → World → Prop) : M_tumbrelref06_Disk_Fuse d_p0 n_p1 w R = den PR ann_tumbrelref06_Disk_Fuse (bodyOf Try.f39) (retQ PR Try.f39.results.toList R) (env0 [d_p0, n_p1]) w := by kernel_rfl
theorem C_tumbrelref06_Disk_Fuse {d_p0 n_p1 : Value} {w : World} {R : Value → World → Prop} (h : M_tumbrelref06_Disk_Fuse d_p0 n_p1 w R) : CALL PR F_tumbrelref06_Disk_Fuse [d_p0, n_p1] w R :=
  call_of_den2 ann_tumbrelref06_Disk_Fuse Try.func39 (by kernel_rfl) (by kernel_rfl) (by kernel_rfl) ((E_tumbrelref06_Disk_Fuse d_p0 n_p1 w R) ▸ h)


-- 40 (*tumbrel.tumbrelref06.Disk).Crash
def M_tumbrelref06_Disk_Crash (L_p0 i_p1 s_p2 : Value) (w : World) (R : Value → World → Prop) : Prop :=
  BND (max2v i_p1 (Value.int .i64 0)) fun t12_1 =>
  BND (nilchk L_p0) fun t14_2 =>
  BND (faddr 2 t14_2) fun t15_3 =>
  BND (load1 w t15_3) fun t16_4 =>
  BND (lenl t16_4) fun t17_5 =>
  BND (binv .int .sub t17_5 (Value.int .i64 1)) fun t18_6 =>
  BND (min2v t12_1 t18_6) fun t19_7 =>
  BND (nilchk L_p0) fun t22_8 =>
  BND (faddr 2 t22_8) fun t23_9 =>
  BND (load1 w t23_9) fun t24_10 =>
  BND (iaddr 1 t24_10 t19_7) fun t26_11 =>
  BND (load1 w t26_11) fun t27_12 =>
  BND (newslice 64 #[(Value.slice none 0 0)] 1 1 [(0, 1, t27_12)] w) fun p_ => NEW p_ fun t28_13 w1 =>
  BND (nilchk L_p0) fun t29_14 =>
  BND (faddr 2 t29_14) fun t30_15 =>
  BND (storev 1 w1 t30_15 t28_13) fun w2 =>
  BND (nilchk L_p0) fun t32_16 =>
  BND (faddr 3 t32_16) fun t33_17 =>
  BND (storev 1 w2 t33_17 (Value.int .i64 (-1))) fun w3 =>
  BND (nilchk L_p0) fun t35_18 =>
  BND (faddr 4 t35_18) fun t36_19 =>
  BND (storev 1 w3 t36_19 (Value.bool false)) fun w4 =>
  CALL PR F_tumbrelref06_Disk_now [L_p0] w4 fun t38_20 w5 =>
  ∃ (J_21 : Value → World → Prop) (m_21 : Value → World → Nat), J_21 (Value.int .i64 0) w5 ∧ ∀ (_d_21 : Env) (r_22 : Value) (w6 : World), J_21 r_22 w6 →
  (BND (lenl t38_20) fun t41_82 =>
  BND (binv .int .lss r_22 t41_82) fun t42_83 =>
  COND t42_83
  (∃ S_84 : Nat → World → Prop,
  S_84 3 w6.drew ∧
  S_84 8 w6.drew ∧
  S_84 10 w6.drew ∧
  BND (nilchk L_p0) fun t46_85 =>
  BND (faddr 1 t46_85) fun t47_86 =>
  FLT (S_84 3) (fun w_ => load1 w_ t47_86) fun t48_87 =>
  BND (iaddr 2 t38_20 r_22) fun t51_88 =>
  BND (faddr 1 t51_88) fun t52_89 =>
  FLT (S_84 8) (fun w_ => load1 w_ t52_89) fun t53_90 =>
  BND (iaddr 2 t48_87 t53_90) fun t54_91 =>
  FLT (S_84 10) (fun w_ => loadn 2 w_ t54_91) fun t55_92 =>
  NEW (newv 80 w6.drew (Value.agg #[(Value.slice none 0 0), (Value.int .i64 0)])) fun r_93 w7 =>
  S_84 3 w7 ∧
  S_84 8 w7 ∧
  S_84 10 w7 ∧
  BND (storev 2 w7 r_93 t55_92) fun w8 =>
  BND (lenl s_p2) fun t58_94 =>
  BND (binv .int .lss r_22 t58_94) fun t59_95 =>
  JOIN (α := Value → World → Prop) (fun k_130 => COND t59_95
  (BND (iaddr 1 s_p2 r_22) fun t62_131 =>
  BND (faddr 0 r_93) fun t65_132 =>
  BND (faddr 1 r_93) fun t68_133 =>
  BND (load1 w8.drew t62_131) fun t63_134 =>
  BND (max2v t63_134 (Value.int .i64 0)) fun t64_135 =>
  BND (load1 w8.drew t65_132) fun t66_136 =>
  BND (lenl t66_136) fun t67_137 =>
  BND (load1 w8.drew t68_133) fun t69_138 =>
  BND (binv .int .sub t67_137 t69_138) fun t70_139 =>
  BND (min2v t64_135 t70_139) fun t71_140 =>
  k_130 t71_140 w8.drew)
  (k_130 (Value.int .i64 0) w8))
  (fun a_96 w9 => ∃ S_109 : Nat → World → Prop,
  S_109 3 w9.drew ∧
  S_109 8 w9.drew ∧
  S_109 11 w9.drew ∧
  S_109 13 w9.drew ∧
  S_109 19 w9.drew ∧
  BND (nilchk L_p0) fun t73_110 =>
  BND (faddr 1 t73_110) fun t74_111 =>
  FLT (S_109 3) (fun w_ => load1 w_ t74_111) fun t75_112 =>
  BND (iaddr 2 t38_20 r_22) fun t78_113 =>
  BND (faddr 1 t78_113) fun t79_114 =>
  FLT (S_109 8) (fun w_ => load1 w_ t79_114) fun t80_115 =>
  BND (faddr 0 r_93) fun t82_116 =>
  FLT (S_109 11) (fun w_ => load1 w_ t82_116) fun t83_117 =>
  BND (faddr 1 r_93) fun t84_118 =>
  FLT (S_109 13) (fun w_ => load1 w_ t84_118) fun t85_119 =>
  BND (binv .int .add t85_119 a_96) fun t87_120 =>
  BND (slicev 1 t83_117 none (some t87_120)) fun t88_121 =>
  BND (faddr 1 r_93) fun t90_122 =>
  FLT (S_109 19) (fun w_ => load1 w_ t90_122) fun t91_123 =>
  BND (binv .int .add t91_123 a_96) fun t93_124 =>
  BND (newslice 5 #[(Value.int .u8 0)] 1 0 [] w9.drew) fun p_ => NEW p_ fun t81_125 w10 =>
  S_109 3 w10 ∧
  S_109 8 w10 ∧
  S_109 11 w10 ∧
  S_109 13 w10 ∧
  S_109 19 w10 ∧
  APPEND 5 1 1 (Value.int .u8 0) t81_125 t88_121 w10 fun t89_126 w11 =>
  S_109 3 w11 ∧
  S_109 8 w11 ∧
  S_109 19 w11 ∧
  BND (buildv #[(Value.slice none 0 0), (Value.int .i64 0)] [(0, 1, t89_126), (1, 1, t93_124)]) fun t94_127 =>
  BND (iaddr 2 t75_112 t80_115) fun t95_128 =>
  BND (storev 2 w11 t95_128 t94_127) fun w12 =>
  BND (binv .int .add r_22 (Value.int .i64 1)) fun t44_129 =>
  (J_21 t44_129 w12 ∧ m_21 t44_129 w12 < m_21 r_22 w6)))
  (R (.tuple #[]) w6))
def ann_tumbrelref06_Disk_Crash : List (Nat × List Nat) := [(8, [0, 1, 2, 3, 4, 5, 6, 7, 8, 9, 10, 11, 12]), (11, [0, 1, 2, 5, 8, 3, 4, 6, 7, 9, 10, 11, 12]), (12, [0, 1, 2, 3, 4, 5, 6, 7, 8, 10, 11, 12, 13, 14, 15, 16, 18, 19, 20, 21, 9, 17, 22, 23, 24]), (1000006, [8]), (2000008, [3, 8, 10]), (2000012, [3, 8, 11, 13, 19]), (3008011, [3, 8, 10]), (3012009, [3, 8, 11, 13, 19]), (3012017, [3, 8, 19])]
theorem E_tumbrelref06_Disk_Crash (L_p0 i_p1 s_p2 : Value) (w : World) (R : Value → World → Prop) : M_tumbrelref06_Disk_Crash L_p0 i_p1 s_p2 w R = den PR ann_tumbrelref06_Disk_Crash (bodyOf Try.f40) (retQ PR Try.f40.results.toList R) (env0 [L_p0, i_p1, s_p2]) w := by kernel_rfl
theorem C_tumbrelref06_Disk_Crash {L_p0 i_p1 s_p2 : Value} {w : World} {R : Value → World → Prop} (h : M_tumbrelref06_Disk_Crash L_p0 i_p1 s_p2 w R) : CALL PR F_tumbrelref06_Disk_Crash [L_p0, i_p1, s_p2] w R :=
  call_of_den2 ann_tumbrelref06_Disk_Crash Try.func40 (by kernel_rfl) (by kernel_rfl) (by kernel_rfl) ((E_tumbrelref06_Disk_Crash L_p0 i_p1 s_p2 w R) ▸ h)


-- 41 slices.Sorted[string]
def M_slices_Sorted_string (seq_p0 : Value) (w : World) (R : Value → World → Prop) : Prop :=
  CALL PR F_slices_Collect_string [seq_p0] w fun t5_1 w1 =>
  CALL PR F_slices_Sort_string_string [t5_1] w1 fun t7_2 w2 =>
  R t5_1 w2
def ann_slices_Sorted_string : List (Nat × List Nat) := []
theorem E_slices_Sorted_string (seq_p0 : Value) (w : World) (R : Value → World → Prop) : M_slices_Sorted_string seq_p0 w R = den PR ann_slices_Sorted_string (bodyOf Try.f41) (retQ PR Try.f41.results.toList R) (env0 [seq_p0]) w := by kernel_rfl
theorem C_slices_Sorted_string {seq_p0 : Value} {w : World} {R : Value → World → Prop} (h : M_slices_Sorted_string seq_p0 w R) : CALL PR F_slices_Sorted_string [seq_p0] w R :=
  call_of_den2 ann_slices_Sorted_string Try.func41 (by kernel_rfl) (by kernel_rfl) (by kernel_rfl) ((E_slices_Sorted_string seq_p0 w R) ▸ h)


-- 42 maps.Keys[tumbrel.disk.dir,string,*tumbrel.disk.file]
def M_maps_Keys_file (m_p0 : Value) (w : World) (R : Value → World → Prop) : Prop :=
  NEW (newv 60 w m_p0) fun m_1 w1 =>
  R (Value.func (.func F_maps_Keys_file_1) #[] #[m_1]) w1
def ann_maps_Keys_file : List (Nat × List Nat) := []
theorem E_maps_Keys_file (m_p0 : Value) (w : World) (R : Value → World → Prop) : M_maps_Keys_file m_p0 w R = den PR ann_maps_Keys_file (bodyOf Try.f42) (retQ PR Try.f42.results.toList R) (env0 [m_p0]) w := by kernel_rfl
theorem C_maps_Keys_file {m_p0 : Value} {w : World} {R : Value → World → Prop} (h : M_maps_Keys_file m_p0 w R) : CALL PR F_maps_Keys_file [m_p0] w R :=
  call_of_den2 ann_maps_Keys_file Try.func42 (by kernel_rfl) (by kernel_rfl) (by kernel_rfl) ((E_maps_Keys_file m_p0 w R) ▸ h)


-- 43 (*tumbrel.disk.Disk).now
def M_disk_Disk_now (d_p0 : Value) (w : World) (R : Value → World → Prop) : Prop :=
  BND (nilchk d_p0) fun t5_1 =>
  BND (faddr 2 t5_1) fun t6_2 =>
  BND (load1 w t6_2) fun t7_3 =>
  BND (lenl t7_3) fun t8_4 =>
  BND (binv .int .gtr t8_4 (Value.int .i64 0)) fun t10_5 =>
  COND t10_5
  (BND (nilchk d_p0) fun t12_6 =>
  BND (faddr 2 t12_6) fun t13_7 =>
  BND (load1 w t13_7) fun t14_8 =>
  BND (binv .int .sub t8_4 (Value.int .i64 1)) fun t16_9 =>
  BND (iaddr 1 t14_8 t16_9) fun t17_10 =>
  BND (load1 w t17_10) fun t18_11 =>
  R t18_11 w)
  (BND (nilchk d_p0) fun t20_12 =>
  BND (faddr 1 t20_12) fun t21_13 =>
  BND (load1 w t21_13) fun t22_14 =>
  R t22_14 w)
def ann_disk_Disk_now : List (Nat × List Nat) := []
theorem E_disk_Disk_now (d_p0 : Value) (w : World) (R : Value → World → Prop) : M_disk_Disk_now d_p0 w R = den PR ann_disk_Disk_now (bodyOf Try.f43) (retQ PR Try.f43.results.toList R) (env0 [d_p0]) w := by kernel_rfl
theorem C_disk_Disk_now {d_p0 : Value} {w : World} {R : Value → World → Prop} (h : M_disk_Disk_now d_p0 w R) : CALL PR F_disk_Disk_now [d_p0] w R :=
  call_of_den2 ann_disk_Disk_now Try.func43 (by kernel_rfl) (by kernel_rfl) (by kernel_rfl) ((E_disk_Disk_now d_p0 w R) ▸ h)


-- 44 (*tumbrel.tumbrelref06.Disk).now
def M_tumbrelref06_Disk_now (d_p0 : Value) (w : World) (R : Value → World → Prop) : Prop :=
  BND (nilchk d_p0) fun t4_1 =>
  BND (faddr 2 t4_1) fun t5_2 =>
  BND (nilchk d_p0) fun t8_3 =>
  BND (faddr 2 t8_3) fun t9_4 =>
  BND (load1 w.drew t5_2) fun t6_5 =>
  BND (load1 w.drew t9_4) fun t10_6 =>
  BND (lenl t10_6) fun t11_7 =>
  BND (binv .int .sub t11_7 (Value.int .i64 1)) fun t12_8 =>
  BND (iaddr 1 t6_5 t12_8) fun t13_9 =>
  BND (load1 w.drew t13_9) fun t14_10 =>
  R t14_10 w.drew
def ann_tumbrelref06_Disk_now : List (Nat × List Nat) := [(1, [0, 1, 2, 4, 5, 6, 3, 7, 8, 9, 10, 11, 12])]
theorem E_tumbrelref06_Disk_now (d_p0 : Value) (w : World) (R : Value → World → Prop) : M_tumbrelref06_Disk_now d_p0 w R = den PR ann_tumbrelref06_Disk_now (bodyOf Try.f44) (retQ PR Try.f44.results.toList R) (env0 [d_p0]) w := by kernel_rfl
theorem C_tumbrelref06_Disk_now {d_p0 : Value} {w : World} {R : Value → World → Prop} (h : M_tumbrelref06_Disk_now d_p0 w R) : CALL PR F_tumbrelref06_Disk_now [d_p0] w R :=
  call_of_den2 ann_tumbrelref06_Disk_now Try.func44 (by kernel_rfl) (by kernel_rfl) (by kernel_rfl) ((E_tumbrelref06_Disk_now d_p0 w R) ▸ h)


-- 45 slices.Contains[[]*tumbrel.disk.file,*tumbrel.disk.file]
def M_slices_Contains_disk_file_disk_file (s_p0 v_p1 : Value) (w : World) (R : Value → World → Prop) : Prop :=
  CALL PR F_slices_Index_disk_file_disk_file [s_p0, v_p1] w fun t7_1 w1 =>
  BND (binv .int .geq t7_1 (Value.int .i64 0)) fun t8_2 =>
  R t8_2 w1
def ann_slices_Contains_disk_file_disk_file : List (Nat × List Nat) := []
theorem E_slices_Contains_disk_file_disk_file (s_p0 v_p1 : Value) (w : World) (R : Value → World → Prop) : M_slices_Contains_disk_file_disk_file s_p0 v_p1 w R = den PR ann_slices_Contains_disk_file_disk_file (bodyOf Try.f45) (retQ PR Try.f45.results.toList R) (env0 [s_p0, v_p1]) w := by kernel_rfl
theorem C_slices_Contains_disk_file_disk_file {s_p0 v_p1 : Value} {w : World} {R : Value → World → Prop} (h : M_slices_Contains_disk_file_disk_file s_p0 v_p1 w R) : CALL PR F_slices_Contains_disk_file_disk_file [s_p0, v_p1] w R :=
  call_of_den2 ann_slices_Contains_disk_file_disk_file Try.func45 (by kernel_rfl) (by kernel_rfl) (by kernel_rfl) ((E_slices_Contains_disk_file_disk_file s_p0 v_p1 w R) ▸ h)


-- 46 (*tumbrel.disk.Disk).there
def M_disk_Disk_there (d_p0 name_p1 : Value) (w : World) (R : Value → World → Prop) : Prop :=
  CALL PR F_disk_Disk_now [d_p0] w fun t6_1 w1 =>
  BND (lookv .string (Value.pointer none) false w1 t6_1 name_p1) fun t8_2 =>
  BND (binv .ptr .eql t8_2 (Value.pointer none)) fun t9_3 =>
  COND t9_3
  (R (Value.int .i64 5) w1)
  (R (Value.int .i64 0) w1)
def ann_disk_Disk_there : List (Nat × List Nat) := []
theorem E_disk_Disk_there (d_p0 name_p1 : Value) (w : World) (R : Value → World → Prop) : M_disk_Disk_there d_p0 name_p1 w R = den PR ann_disk_Disk_there (bodyOf Try.f46) (retQ PR Try.f46.results.toList R) (env0 [d_p0, name_p1]) w := by kernel_rfl
theorem C_disk_Disk_there {d_p0 name_p1 : Value} {w : World} {R : Value → World → Prop} (h : M_disk_Disk_there d_p0 name_p1 w R) : CALL PR F_disk_Disk_there [d_p0, name_p1] w R :=
  call_of_den2 ann_disk_Disk_there Try.func46 (by kernel_rfl) (by kernel_rfl) (by kernel_rfl) ((E_disk_Disk_there d_p0 name_p1 w R) ▸ h)


-- 47 slices.Clone[[]byte,byte]
def M_slices_Clone_byte_byte (s_p0 : Value) (w : World) (R : Value → World → Prop) : Prop :=
  BND (binv .slc .eql s_p0 (Value.slice none 0 0)) fun t4_1 =>
  COND t4_1
  (R (Value.slice none 0 0) w)
  (BND (newslice 5 #[(Value.int .u8 0)] 1 0 [] w) fun p_ => NEW p_ fun t5_2 w1 =>
  APPEND 5 1 1 (Value.int .u8 0) t5_2 s_p0 w1 fun t7_3 w2 =>
  R t7_3 w2)
def ann_slices_Clone_byte_byte : List (Nat × List Nat) := []
theorem E_slices_Clone_byte_byte (s_p0 : Value) (w : World) (R : Value → World → Prop) : M_slices_Clone_byte_byte s_p0 w R = den PR ann_slices_Clone_byte_byte (bodyOf Try.f47) (retQ PR Try.f47.results.toList R) (env0 [s_p0]) w := by kernel_rfl
theorem C_slices_Clone_byte_byte {s_p0 : Value} {w : World} {R : Value → World → Prop} (h : M_slices_Clone_byte_byte s_p0 w R) : CALL PR F_slices_Clone_byte_byte [s_p0] w R :=
  call_of_den2 ann_slices_Clone_byte_byte Try.func47 (by kernel_rfl) (by kernel_rfl) (by kernel_rfl) ((E_slices_Clone_byte_byte s_p0 w R) ▸ h)


-- 48 (*tumbrel.tumbrelref06.Disk).find
def M_tumbrelref06_Disk_find (d_p0 name_p1 : Value) (w : World) (R : Value → World → Prop) : Prop :=
  CALL PR F_tumbrelref06_Disk_now [d_p0] w fun t8_1 w1 =>
  ∃ (J_2 : Value → World → Prop) (m_2 : Value → World → Nat), J_2 (Value.int .i64 0) w1 ∧ ∀ (_d_2 : Env) (i_4 : Value) (w2 : World), J_2 i_4 w2 →
  (BND (lenl t8_1) fun t11_23 =>
  BND (binv .int .lss i_4 t11_23) fun t12_24 =>
  COND t12_24
  (BND (iaddr 2 t8_1 i_4) fun t17_25 =>
  BND (faddr 0 t17_25) fun t18_26 =>
  BND (load1 w2 t18_26) fun t19_27 =>
  BND (binv .str .eql t19_27 name_p1) fun t21_28 =>
  COND t21_28
  (BND (iaddr 2 t8_1 i_4) fun t24_29 =>
  BND (faddr 1 t24_29) fun t25_30 =>
  BND (load1 w2 t25_30) fun t26_31 =>
  R t26_31 w2)
  (BND (binv .int .add i_4 (Value.int .i64 1)) fun t14_32 =>
  (J_2 t14_32 w2 ∧ m_2 t14_32 w2 < m_2 i_4 w2)))
  (R (Value.int .i64 (-1)) w2))
def ann_tumbrelref06_Disk_find : List (Nat × List Nat) := [(1000003, [6])]
theorem E_tumbrelref06_Disk_find (d_p0 name_p1 : Value) (w : World) (R : Value → World → Prop) : M_tumbrelref06_Disk_find d_p0 name_p1 w R = den PR ann_tumbrelref06_Disk_find (bodyOf Try.f48) (retQ PR Try.f48.results.toList R) (env0 [d_p0, name_p1]) w := by kernel_rfl
theorem C_tumbrelref06_Disk_find {d_p0 name_p1 : Value} {w : World} {R : Value → World → Prop} (h : M_tumbrelref06_Disk_find d_p0 name_p1 w R) : CALL PR F_tumbrelref06_Disk_find [d_p0, name_p1] w R :=
  call_of_den2 ann_tumbrelref06_Disk_find Try.func48 (by kernel_rfl) (by kernel_rfl) (by kernel_rfl) ((E_tumbrelref06_Disk_find d_p0 name_p1 w R) ▸ h)


-- 49 tumbrel.disk.named
def M_disk_named (name_p0 : Value) (w : World) (R : Value → World → Prop) : Prop :=
  BND (lens name_p0) fun t6_1 =>
  BND (binv .int .eql t6_1 (Value.int .i64 0)) fun t7_2 =>
  BND (grd (isB t7_2 false) (some name_p0)) fun t9_3 =>
  BND (grd (isB t7_2 false) (lens t9_3)) fun t10_4 =>
  BND (grd (isB t7_2 false) (binv .int .gtr t10_4 (Value.int .i64 12))) fun t11_5 =>
  BND (pickv t7_2 (Value.bool true) t11_5) fun t12_6 =>
  COND t12_6
  (R (Value.bool false) w)
  (BYTES 5 name_p0 w fun t14_7 w1 =>
  BND (lenl t14_7) fun t15_8 =>
  ∃ (J_9 : Value → World → Prop) (m_9 : Value → World → Nat), J_9 (Value.int .i64 0) w1 ∧ ∀ (_d_9 : Env) (t16_12 : Value) (w2 : World), J_9 t16_12 w2 →
  (BND (binv .int .lss t16_12 t15_8) fun t17_35 =>
  COND t17_35
  (BND (iaddr 1 t14_7 t16_12) fun t18_36 =>
  BND (load1 w2 t18_36) fun t19_37 =>
  BND (binv .int .neq t19_37 (Value.int .u8 46)) fun t21_38 =>
  BND (grd (isB t21_38 true) (some t19_37)) fun t23_39 =>
  BND (grd (isB t21_38 true) (binv .int .lss t23_39 (Value.int .u8 48))) fun t24_40 =>
  BND (grd (isB t21_38 true) (some t24_40)) fun t25_41 =>
  BND (grd (isB t25_41 false) (some t19_37)) fun t26_42 =>
  BND (grd (isB t25_41 false) (binv .int .gtr t26_42 (Value.int .u8 57))) fun t27_43 =>
  BND (grd (isB t21_38 true) (pickv t25_41 (Value.bool true) t27_43)) fun t28_44 =>
  BND (pickv t21_38 t28_44 (Value.bool false)) fun t29_45 =>
  BND (grd (isB t29_45 true) (some t19_37)) fun t31_46 =>
  BND (grd (isB t29_45 true) (binv .int .lss t31_46 (Value.int .u8 97))) fun t32_47 =>
  BND (grd (isB t29_45 true) (some t32_47)) fun t33_48 =>
  BND (grd (isB t33_48 false) (some t19_37)) fun t34_49 =>
  BND (grd (isB t33_48 false) (binv .int .gtr t34_49 (Value.int .u8 122))) fun t35_50 =>
  BND (grd (isB t29_45 true) (pickv t33_48 (Value.bool true) t35_50)) fun t36_51 =>
  BND (pickv t29_45 t36_51 (Value.bool false)) fun t37_52 =>
  COND t37_52
  (R (Value.bool false) w2)
  (BND (binv .int .add t16_12 (Value.int .i64 1)) fun t38_53 =>
  (J_9 t38_53 w2 ∧ m_9 t38_53 w2 < m_9 t16_12 w2)))
  (R (Value.bool true) w2)))
def ann_disk_named : List (Nat × List Nat) := [(1000004, [16])]
theorem E_disk_named (name_p0 : Value) (w : World) (R : Value → World → Prop) : M_disk_named name_p0 w R = den PR ann_disk_named (bodyOf Try.f49) (retQ PR Try.f49.results.toList R) (env0 [name_p0]) w := by kernel_rfl
theorem C_disk_named {name_p0 : Value} {w : World} {R : Value → World → Prop} (h : M_disk_named name_p0 w R) : CALL PR F_disk_named [name_p0] w R :=
  call_of_den2 ann_disk_named Try.func49 (by kernel_rfl) (by kernel_rfl) (by kernel_rfl) ((E_disk_named name_p0 w R) ▸ h)


-- 50 (*tumbrel.disk.Disk).can
def M_disk_Disk_can (d_p0 e_p1 : Value) (w : World) (R : Value → World → Prop) : Prop :=
  BND (nilchk d_p0) fun t7_1 =>
  BND (faddr 4 t7_1) fun t8_2 =>
  BND (load1 w t8_2) fun t9_3 =>
  COND t9_3
  (R (Value.int .i64 7) w)
  (BND (binv .int .neq e_p1 (Value.int .i64 0)) fun t12_4 =>
  COND t12_4
  (R e_p1 w)
  (BND (nilchk d_p0) fun t16_5 =>
  BND (faddr 3 t16_5) fun t17_6 =>
  BND (load1 w t17_6) fun t18_7 =>
  BND (binv .int .eql t18_7 (Value.int .i64 0)) fun t19_8 =>
  COND t19_8
  (BND (nilchk d_p0) fun t21_9 =>
  BND (faddr 4 t21_9) fun t22_10 =>
  BND (storev 1 w t22_10 (Value.bool true)) fun w1 =>
  R (Value.int .i64 7) w1)
  (BND (nilchk d_p0) fun t25_11 =>
  BND (faddr 3 t25_11) fun t26_12 =>
  BND (load1 w t26_12) fun t27_13 =>
  BND (binv .int .gtr t27_13 (Value.int .i64 0)) fun t28_14 =>
  JOIN (α := World → Prop) (fun k_22 => COND t28_14
  (BND (nilchk d_p0) fun t30_23 =>
  BND (faddr 3 t30_23) fun t31_24 =>
  BND (load1 w t31_24) fun t32_25 =>
  BND (binv .int .sub t32_25 (Value.int .i64 1)) fun t33_26 =>
  BND (nilchk d_p0) fun t34_27 =>
  BND (faddr 3 t34_27) fun t35_28 =>
  BND (storev 1 w t35_28 t33_26) fun w3 =>
  k_22 w3)
  (k_22 w))
  (fun w2 => R (Value.int .i64 0) w2))))
def ann_disk_Disk_can : List (Nat × List Nat) := []
theorem E_disk_Disk_can (d_p0 e_p1 : Value) (w : World) (R : Value → World → Prop) : M_disk_Disk_can d_p0 e_p1 w R = den PR ann_disk_Disk_can (bodyOf Try.f50) (retQ PR Try.f50.results.toList R) (env0 [d_p0, e_p1]) w := by kernel_rfl
theorem C_disk_Disk_can {d_p0 e_p1 : Value} {w : World} {R : Value → World → Prop} (h : M_disk_Disk_can d_p0 e_p1 w R) : CALL PR F_disk_Disk_can [d_p0, e_p1] w R :=
  call_of_den2 ann_disk_Disk_can Try.func50 (by kernel_rfl) (by kernel_rfl) (by kernel_rfl) ((E_disk_Disk_can d_p0 e_p1 w R) ▸ h)


-- 51 (*tumbrel.disk.Disk).change
def M_disk_Disk_change (d_p0 : Value) (w : World) (R : Value → World → Prop) : Prop :=
  CALL PR F_disk_Disk_now [d_p0] w fun t5_1 w1 =>
  CALL PR F_maps_Clone_file [t5_1] w1 fun t6_2 w2 =>
  BND (nilchk d_p0) fun t9_3 =>
  BND (faddr 2 t9_3) fun t10_4 =>
  BND (load1 w2 t10_4) fun t11_5 =>
  BND (newslice 60 #[(Value.map none)] 1 1 [(0, 1, t6_2)] w2) fun p_ => NEW p_ fun t13_6 w3 =>
  APPEND 60 1 8 (Value.map none) t11_5 t13_6 w3 fun t14_7 w4 =>
  BND (nilchk d_p0) fun t15_8 =>
  BND (faddr 2 t15_8) fun t16_9 =>
  BND (storev 1 w4 t16_9 t14_7) fun w5 =>
  R t6_2 w5
def ann_disk_Disk_change : List (Nat × List Nat) := []
theorem E_disk_Disk_change (d_p0 : Value) (w : World) (R : Value → World → Prop) : M_disk_Disk_change d_p0 w R = den PR ann_disk_Disk_change (bodyOf Try.f51) (retQ PR Try.f51.results.toList R) (env0 [d_p0]) w := by kernel_rfl
theorem C_disk_Disk_change {d_p0 : Value} {w : World} {R : Value → World → Prop} (h : M_disk_Disk_change d_p0 w R) : CALL PR F_disk_Disk_change [d_p0] w R :=
  call_of_den2 ann_disk_Disk_change Try.func51 (by kernel_rfl) (by kernel_rfl) (by kernel_rfl) ((E_disk_Disk_change d_p0 w R) ▸ h)


-- 52 tumbrel.tumbrelref06.may
def M_tumbrelref06_may (name_p0 : Value) (w : World) (R : Value → World → Prop) : Prop :=
  ∃ (J_1 : Value → World → Prop) (m_1 : Value → World → Nat), J_1 (Value.int .i64 0) w ∧ ∀ (_d_1 : Env) (i_3 : Value) (w1 : World), J_1 i_3 w1 →
  (BND (lens name_p0) fun t7_33 =>
  BND (binv .int .lss i_3 t7_33) fun t8_34 =>
  COND t8_34
  (BND (indexs name_p0 i_3) fun t13_35 =>
  BND (binv .int .eql t13_35 (Value.int .u8 46)) fun t15_36 =>
  BND (grd (isB t15_36 false) (some t13_35)) fun t17_37 =>
  BND (grd (isB t15_36 false) (binv .int .geq t17_37 (Value.int .u8 48))) fun t18_38 =>
  BND (grd (isB t15_36 false) (some t18_38)) fun t19_39 =>
  BND (grd (isB t19_39 true) (some t13_35)) fun t20_40 =>
  BND (grd (isB t19_39 true) (binv .int .leq t20_40 (Value.int .u8 57))) fun t21_41 =>
  BND (grd (isB t15_36 false) (pickv t19_39 t21_41 (Value.bool false))) fun t22_42 =>
  BND (pickv t15_36 (Value.bool true) t22_42) fun t23_43 =>
  BND (grd (isB t23_43 false) (some t13_35)) fun t25_44 =>
  BND (grd (isB t23_43 false) (binv .int .geq t25_44 (Value.int .u8 97))) fun t26_45 =>
  BND (grd (isB t23_43 false) (some t26_45)) fun t27_46 =>
  BND (grd (isB t27_46 true) (some t13_35)) fun t28_47 =>
  BND (grd (isB t27_46 true) (binv .int .leq t28_47 (Value.int .u8 122))) fun t29_48 =>
  BND (grd (isB t23_43 false) (pickv t27_46 t29_48 (Value.bool false))) fun t30_49 =>
  BND (pickv t23_43 (Value.bool true) t30_49) fun t31_50 =>
  BND (unv .not t31_50) fun t32_51 =>
  COND t32_51
  (R (Value.bool false) w1)
  (BND (binv .int .add i_3 (Value.int .i64 1)) fun t10_52 =>
  (J_1 t10_52 w1 ∧ m_1 t10_52 w1 < m_1 i_3 w1)))
  (BND (lens name_p0) fun t34_53 =>
  BND (binv .int .geq t34_53 (Value.int .i64 1)) fun t35_54 =>
  BND (grd (isB t35_54 true) (some name_p0)) fun t37_55 =>
  BND (grd (isB t35_54 true) (lens t37_55)) fun t38_56 =>
  BND (grd (isB t35_54 true) (binv .int .leq t38_56 (Value.int .i64 12))) fun t39_57 =>
  BND (pickv t35_54 t39_57 (Value.bool false)) fun t40_58 =>
  R t40_58 w1))
def ann_tumbrelref06_may : List (Nat × List Nat) := [(1000002, [3])]
theorem E_tumbrelref06_may (name_p0 : Value) (w : World) (R : Value → World → Prop) : M_tumbrelref06_may name_p0 w R = den PR ann_tumbrelref06_may (bodyOf Try.f52) (retQ PR Try.f52.results.toList R) (env0 [name_p0]) w := by kernel_rfl
theorem C_tumbrelref06_may {name_p0 : Value} {w : World} {R : Value → World → Prop} (h : M_tumbrelref06_may name_p0 w R) : CALL PR F_tumbrelref06_may [name_p0] w R :=
  call_of_den2 ann_tumbrelref06_may Try.func52 (by kernel_rfl) (by kernel_rfl) (by kernel_rfl) ((E_tumbrelref06_may name_p0 w R) ▸ h)


-- 53 (*tumbrel.tumbrelref06.Disk).can
def M_tumbrelref06_Disk_can (d_p0 e_p1 : Value) (w : World) (R : Value → World → Prop) : Prop :=
  BND (nilchk d_p0) fun t6_1 =>
  BND (faddr 4 t6_1) fun t7_2 =>
  BND (load1 w t7_2) fun t8_3 =>
  COND t8_3
  (R (Value.int .i64 7) w)
  (BND (binv .int .neq e_p1 (Value.int .i64 0)) fun t10_4 =>
  COND t10_4
  (R e_p1 w)
  (BND (nilchk d_p0) fun t13_5 =>
  BND (faddr 3 t13_5) fun t14_6 =>
  BND (load1 w t14_6) fun t15_7 =>
  BND (binv .int .eql t15_7 (Value.int .i64 0)) fun t16_8 =>
  COND t16_8
  (BND (nilchk d_p0) fun t18_9 =>
  BND (faddr 4 t18_9) fun t19_10 =>
  BND (storev 1 w t19_10 (Value.bool true)) fun w1 =>
  R (Value.int .i64 7) w1)
  (BND (nilchk d_p0) fun t21_11 =>
  BND (faddr 3 t21_11) fun t22_12 =>
  BND (load1 w t22_12) fun t23_13 =>
  BND (binv .int .gtr t23_13 (Value.int .i64 0)) fun t24_14 =>
  JOIN (α := World → Prop) (fun k_22 => COND t24_14
  (BND (nilchk d_p0) fun t26_23 =>
  BND (faddr 3 t26_23) fun t27_24 =>
  BND (load1 w t27_24) fun t28_25 =>
  BND (binv .int .sub t28_25 (Value.int .i64 1)) fun t29_26 =>
  BND (nilchk d_p0) fun t30_27 =>
  BND (faddr 3 t30_27) fun t31_28 =>
  BND (storev 1 w t31_28 t29_26) fun w3 =>
  k_22 w3)
  (k_22 w))
  (fun w2 => R (Value.int .i64 0) w2))))
def ann_tumbrelref06_Disk_can : List (Nat × List Nat) := []
theorem E_tumbrelref06_Disk_can (d_p0 e_p1 : Value) (w : World) (R : Value → World → Prop) : M_tumbrelref06_Disk_can d_p0 e_p1 w R = den PR ann_tumbrelref06_Disk_can (bodyOf Try.f53) (retQ PR Try.f53.results.toList R) (env0 [d_p0, e_p1]) w := by kernel_rfl
theorem C_tumbrelref06_Disk_can {d_p0 e_p1 : Value} {w : World} {R : Value → World → Prop} (h : M_tumbrelref06_Disk_can d_p0 e_p1 w R) : CALL PR F_tumbrelref06_Disk_can [d_p0, e_p1] w R :=
  call_of_den2 ann_tumbrelref06_Disk_can Try.func53 (by kernel_rfl) (by kernel_rfl) (by kernel_rfl) ((E_tumbrelref06_Disk_can d_p0 e_p1 w R) ▸ h)


-- 54 tumbrel.tumbrelref06.with
def M_tumbrelref06_with (l_p0 x_p1 : Value) (w : World) (R : Value → World → Prop) : Prop :=
  NEW (newv 74 w x_p1) fun x_1 w1 =>
  ∃ (J_2 : Value → World → Prop) (m_2 : Value → World → Nat), J_2 (Value.int .i64 0) w1 ∧ ∀ (_d_2 : Env) (at_3 : Value) (w2 : World), J_2 at_3 w2 →
  (BND (lenl l_p0) fun t9_20 =>
  BND (binv .int .lss at_3 t9_20) fun t10_21 =>
  BND (grd (isB t10_21 true) (some l_p0)) fun t12_22 =>
  BND (grd (isB t10_21 true) (some at_3)) fun t13_23 =>
  BND (grd (isB t10_21 true) (iaddr 2 t12_22 t13_23)) fun t14_24 =>
  BND (grd (isB t10_21 true) (faddr 0 t14_24)) fun t15_25 =>
  BND (grd (isB t10_21 true) (faddr 0 x_1)) fun t17_26 =>
  BND (grd (isB t10_21 true) (load1 w2.drew t15_25)) fun t16_27 =>
  BND (grd (isB t10_21 true) (load1 w2.drew t17_26)) fun t18_28 =>
  BND (grd (isB t10_21 true) (binv .str .lss t16_27 t18_28)) fun t19_29 =>
  BND (pickv t10_21 t19_29 (Value.bool false)) fun t20_30 =>
  COND t20_30
  (BND (binv .int .add at_3 (Value.int .i64 1)) fun t22_31 =>
  (J_2 t22_31 w2.drew ∧ m_2 t22_31 w2.drew < m_2 at_3 w2))
  (BND (newslice 74 #[(Value.string ByteArray.empty), (Value.int .i64 0)] 2 0 [] w2.drew) fun p_ => NEW p_ fun t23_32 w3 =>
  BND (slicev 2 l_p0 none (some at_3)) fun t26_33 =>
  APPEND 74 2 24 (Value.agg #[(Value.string ByteArray.empty), (Value.int .i64 0)]) t23_32 t26_33 w3 fun t27_34 w4 =>
  BND (slicev 2 l_p0 (some at_3) none) fun t34_35 =>
  BND (loadn 2 w4.drew x_1) fun t29_36 =>
  BND (newslice 74 #[(Value.string ByteArray.empty), (Value.int .i64 0)] 2 1 [(0, 2, t29_36)] w4.drew) fun p_ => NEW p_ fun t30_37 w5 =>
  APPEND 74 2 24 (Value.agg #[(Value.string ByteArray.empty), (Value.int .i64 0)]) t27_34 t30_37 w5 fun t31_38 w6 =>
  APPEND 74 2 24 (Value.agg #[(Value.string ByteArray.empty), (Value.int .i64 0)]) t31_38 t34_35 w6 fun t35_39 w7 =>
  R t35_39 w7))
def ann_tumbrelref06_with : List (Nat × List Nat) := [(2, [0, 1, 2, 3, 4, 5, 6, 7, 8, 10, 9, 11, 12, 13]), (5, [0, 4, 5, 6, 1, 2, 3, 7, 8]), (1000002, [5])]
theorem E_tumbrelref06_with (l_p0 x_p1 : Value) (w : World) (R : Value → World → Prop) : M_tumbrelref06_with l_p0 x_p1 w R = den PR ann_tumbrelref06_with (bodyOf Try.f54) (retQ PR Try.f54.results.toList R) (env0 [l_p0, x_p1]) w := by kernel_rfl
theorem C_tumbrelref06_with {l_p0 x_p1 : Value} {w : World} {R : Value → World → Prop} (h : M_tumbrelref06_with l_p0 x_p1 w R) : CALL PR F_tumbrelref06_with [l_p0, x_p1] w R :=
  call_of_den2 ann_tumbrelref06_with Try.func54 (by kernel_rfl) (by kernel_rfl) (by kernel_rfl) ((E_tumbrelref06_with l_p0 x_p1 w R) ▸ h)


-- 55 tumbrel.tumbrelref06.without
def M_tumbrelref06_without (l_p0 name_p1 : Value) (w : World) (R : Value → World → Prop) : Prop :=
  BND (newslice 74 #[(Value.string ByteArray.empty), (Value.int .i64 0)] 2 0 [] w) fun p_ => NEW p_ fun t7_1 w1 =>
  ∃ (J_2 : Value → Value → World → Prop) (m_2 : Value → Value → World → Nat), J_2 t7_1 (Value.int .i64 0) w1 ∧ ∀ (_d_2 : Env) (out_3 i_4 : Value) (w2 : World), J_2 out_3 i_4 w2 →
  (BND (lenl l_p0) fun t10_25 =>
  BND (binv .int .lss i_4 t10_25) fun t11_26 =>
  COND t11_26
  (BND (iaddr 2 l_p0 i_4) fun t16_27 =>
  BND (faddr 0 t16_27) fun t17_28 =>
  BND (load1 w2 t17_28) fun t18_29 =>
  BND (binv .str .neq t18_29 name_p1) fun t20_30 =>
  JOIN (α := Value → World → Prop) (fun k_40 => COND t20_30
  (BND (iaddr 2 l_p0 i_4) fun t24_41 =>
  BND (loadn 2 w2 t24_41) fun t25_42 =>
  BND (newslice 74 #[(Value.string ByteArray.empty), (Value.int .i64 0)] 2 1 [(0, 2, t25_42)] w2) fun p_ => NEW p_ fun t26_43 w4 =>
  APPEND 74 2 24 (Value.agg #[(Value.string ByteArray.empty), (Value.int .i64 0)]) out_3 t26_43 w4 fun t27_44 w5 =>
  k_40 t27_44 w5)
  (k_40 out_3 w2))
  (fun out_31 w3 => BND (binv .int .add i_4 (Value.int .i64 1)) fun t13_39 =>
  (J_2 out_31 t13_39 w3 ∧ m_2 out_31 t13_39 w3 < m_2 out_3 i_4 w2)))
  (R out_3 w2))
def ann_tumbrelref06_without : List (Nat × List Nat) := [(1000003, [5, 6])]
theorem E_tumbrelref06_without (l_p0 name_p1 : Value) (w : World) (R : Value → World → Prop) : M_tumbrelref06_without l_p0 name_p1 w R = den PR ann_tumbrelref06_without (bodyOf Try.f55) (retQ PR Try.f55.results.toList R) (env0 [l_p0, name_p1]) w := by kernel_rfl
theorem C_tumbrelref06_without {l_p0 name_p1 : Value} {w : World} {R : Value → World → Prop} (h : M_tumbrelref06_without l_p0 name_p1 w R) : CALL PR F_tumbrelref06_without [l_p0, name_p1] w R :=
  call_of_den2 ann_tumbrelref06_without Try.func55 (by kernel_rfl) (by kernel_rfl) (by kernel_rfl) ((E_tumbrelref06_without l_p0 name_p1 w R) ▸ h)


-- 56 slices.Collect[string]
def M_slices_Collect_string (seq_p0 : Value) (w : World) (R : Value → World → Prop) : Prop :=
  CALL PR F_slices_AppendSeq_string_string [(Value.slice none 0 0), seq_p0] w fun t4_1 w1 =>
  R t4_1 w1
def ann_slices_Collect_string : List (Nat × List Nat) := []
theorem E_slices_Collect_string (seq_p0 : Value) (w : World) (R : Value → World → Prop) : M_slices_Collect_string seq_p0 w R = den PR ann_slices_Collect_string (bodyOf Try.f56) (retQ PR Try.f56.results.toList R) (env0 [seq_p0]) w := by kernel_rfl
theorem C_slices_Collect_string {seq_p0 : Value} {w : World} {R : Value → World → Prop} (h : M_slices_Collect_string seq_p0 w R) : CALL PR F_slices_Collect_string [seq_p0] w R :=
  call_of_den2 ann_slices_Collect_string Try.func56 (by kernel_rfl) (by kernel_rfl) (by kernel_rfl) ((E_slices_Collect_string seq_p0 w R) ▸ h)


-- 57 slices.Sort[[]string,string]
def M_slices_Sort_string_string (x_p0 : Value) (w : World) (R : Value → World → Prop) : Prop :=
  BND (lenl x_p0) fun t4_1 =>
  BND (convi .u64 t4_1) fun t8_2 =>
  CALL PR F_math_bits_Len [t8_2] w fun t9_3 w1 =>
  CALL PR F_slices_pdqsortOrdered_string [x_p0, (Value.int .i64 0), t4_1, t9_3] w1 fun t10_4 w2 =>
  R (.tuple #[]) w2
def ann_slices_Sort_string_string : List (Nat × List Nat) := []
theorem E_slices_Sort_string_string (x_p0 : Value) (w : World) (R : Value → World → Prop) : M_slices_Sort_string_string x_p0 w R = den PR ann_slices_Sort_string_string (bodyOf Try.f57) (retQ PR Try.f57.results.toList R) (env0 [x_p0]) w := by kernel_rfl
theorem C_slices_Sort_string_string {x_p0 : Value} {w : World} {R : Value → World → Prop} (h : M_slices_Sort_string_string x_p0 w R) : CALL PR F_slices_Sort_string_string [x_p0] w R :=
  call_of_den2 ann_slices_Sort_string_string Try.func57 (by kernel_rfl) (by kernel_rfl) (by kernel_rfl) ((E_slices_Sort_string_string x_p0 w R) ▸ h)


-- 58 maps.Keys[tumbrel.disk.dir,string,*tumbrel.disk.file]$1
def M_maps_Keys_file_1 (yield_p0 a_p1 : Value) (w : World) (R : Value → World → Prop) : Prop :=
  BND (load1 w a_p1) fun t4_1 =>
  BND (rangemv w t4_1) fun p_ => NEW p_ fun t5_2 w1 =>
  ∃ (J_3 : World → Prop) (m_3 : World → Nat), J_3 w1 ∧ ∀ (_d_3 : Env) (w2 : World), J_3 w2 →
  (NEXTM t5_2 w2 fun t6_13 w3 =>
  BND (extractv t6_13 0) fun t7_14 =>
  COND t7_14
  (BND (entryv w3 t5_2) fun t8_15 =>
  BND (extractv t8_15 0) fun t9_16 =>
  CALLV PR yield_p0 [t9_16] w3 fun t12_17 w4 =>
  BND (unv .not t12_17) fun t13_18 =>
  COND t13_18
  (R (.tuple #[]) w4)
  ((J_3 w4 ∧ m_3 w4 < m_3 w2)))
  (R (.tuple #[]) w3))
def ann_maps_Keys_file_1 : List (Nat × List Nat) := [(1000001, [])]
theorem E_maps_Keys_file_1 (yield_p0 a_p1 : Value) (w : World) (R : Value → World → Prop) : M_maps_Keys_file_1 yield_p0 a_p1 w R = den PR ann_maps_Keys_file_1 (bodyOf Try.f58) (retQ PR Try.f58.results.toList R) (env0 [yield_p0, a_p1]) w := by kernel_rfl
theorem C_maps_Keys_file_1 {yield_p0 a_p1 : Value} {w : World} {R : Value → World → Prop} (h : M_maps_Keys_file_1 yield_p0 a_p1 w R) : CALL PR F_maps_Keys_file_1 [yield_p0, a_p1] w R :=
  call_of_den2 ann_maps_Keys_file_1 Try.func58 (by kernel_rfl) (by kernel_rfl) (by kernel_rfl) ((E_maps_Keys_file_1 yield_p0 a_p1 w R) ▸ h)


-- 59 slices.Index[[]*tumbrel.disk.file,*tumbrel.disk.file]
def M_slices_Index_disk_file_disk_file (s_p0 v_p1 : Value) (w : World) (R : Value → World → Prop) : Prop :=
  BND (lenl s_p0) fun t7_1 =>
  ∃ (J_2 : Value → World → Prop) (m_2 : Value → World → Nat), J_2 (Value.int .i64 0) w ∧ ∀ (_d_2 : Env) (t8_5 : Value) (w1 : World), J_2 t8_5 w1 →
  (BND (binv .int .lss t8_5 t7_1) fun t9_16 =>
  COND t9_16
  (BND (iaddr 1 s_p0 t8_5) fun t14_17 =>
  BND (load1 w1 t14_17) fun t15_18 =>
  BND (ptrv w1 .eql v_p1 t15_18) fun t16_19 =>
  COND t16_19
  (R t8_5 w1)
  (BND (binv .int .add t8_5 (Value.int .i64 1)) fun t18_20 =>
  (J_2 t18_20 w1 ∧ m_2 t18_20 w1 < m_2 t8_5 w1)))
  (R (Value.int .i64 (-1)) w1))
def ann_slices_Index_disk_file_disk_file : List (Nat × List Nat) := [(1000002, [8])]
theorem E_slices_Index_disk_file_disk_file (s_p0 v_p1 : Value) (w : World) (R : Value → World → Prop) : M_slices_Index_disk_file_disk_file s_p0 v_p1 w R = den PR ann_slices_Index_disk_file_disk_file (bodyOf Try.f59) (retQ PR Try.f59.results.toList R) (env0 [s_p0, v_p1]) w := by kernel_rfl
theorem C_slices_Index_disk_file_disk_file {s_p0 v_p1 : Value} {w : World} {R : Value → World → Prop} (h : M_slices_Index_disk_file_disk_file s_p0 v_p1 w R) : CALL PR F_slices_Index_disk_file_disk_file [s_p0, v_p1] w R :=
  call_of_den2 ann_slices_Index_disk_file_disk_file Try.func59 (by kernel_rfl) (by kernel_rfl) (by kernel_rfl) ((E_slices_Index_disk_file_disk_file s_p0 v_p1 w R) ▸ h)


-- 62 slices.pdqsortOrdered[string]
def M_slices_pdqsortOrdered_string (L_p0 i_p1 s_p2 t_p3 : Value) (w : World) (R : Value → World → Prop) : Prop :=
  ∃ (J_1 : Value → Value → Value → Value → Value → World → Prop) (m_1 : Value → Value → Value → Value → Value → World → Nat), J_1 i_p1 s_p2 t_p3 (Value.bool true) (Value.bool true) w ∧ ∀ (_d_1 : Env) (i_2 s_3 t_4 r_5 r_6 : Value) (w1 : World), J_1 i_2 s_3 t_4 r_5 r_6 w1 →
  (BND (binv .int .sub s_3 i_2) fun t21_131 =>
  BND (binv .int .leq t21_131 (Value.int .i64 12)) fun t23_132 =>
  COND t23_132
  (CALL PR F_slices_insertionSortOrdered_string [L_p0, i_2, s_3] w1 fun t27_133 w2 =>
  R (.tuple #[]) w2)
  (BND (binv .int .eql t_4 (Value.int .i64 0)) fun t29_134 =>
  COND t29_134
  (CALL PR F_slices_heapSortOrdered_string [L_p0, i_2, s_3] w1 fun t33_135 w3 =>
  R (.tuple #[]) w3)
  (BND (unv .not r_5) fun t35_136 =>
  JOIN (α := Value → World → Prop) (fun k_227 => COND t35_136
  (CALL PR F_slices_breakPatternsOrdered_string [L_p0, i_2, s_3] w1 fun t39_228 w16 =>
  BND (binv .int .sub t_4 (Value.int .i64 1)) fun t41_229 =>
  k_227 t41_229 w16)
  (k_227 t_4 w1))
  (fun t_137 w4 => CALL PR F_slices_choosePivotOrdered_string [L_p0, i_2, s_3] w4 fun t46_144 w5 =>
  BND (extractv t46_144 0) fun t47_145 =>
  BND (extractv t46_144 1) fun t48_146 =>
  BND (binv .int .eql t48_146 (Value.int .i64 2)) fun t50_147 =>
  JOIN (α := Value → Value → World → Prop) (fun k_222 => COND t50_147
  (CALL PR F_slices_reverseRangeOrdered_string [L_p0, i_2, s_3] w5 fun t54_223 w15 =>
  BND (binv .int .sub s_3 (Value.int .i64 1)) fun t56_224 =>
  BND (binv .int .sub t47_145 i_2) fun t59_225 =>
  BND (binv .int .sub t56_224 t59_225) fun t60_226 =>
  k_222 t60_226 (Value.int .i64 1) w15)
  (k_222 t47_145 t48_146 w5))
  (fun y_148 t12_149 w6 => BND (grd (isB r_5 true) (some r_6)) fun t63_160 =>
  BND (pickv r_5 t63_160 (Value.bool false)) fun t64_161 =>
  BND (grd (isB t64_161 true) (some t12_149)) fun t66_162 =>
  BND (grd (isB t64_161 true) (binv .int .eql t66_162 (Value.int .i64 1))) fun t67_163 =>
  BND (pickv t64_161 t67_163 (Value.bool false)) fun t68_164 =>
  JOIN (α := World → Prop) (fun k_220 => COND t68_164
  (CALL PR F_slices_partialInsertionSortOrdered_string [L_p0, i_2, s_3] w6 fun t72_221 w14 =>
  COND t72_221
  (R (.tuple #[]) w14)
  (k_220 w14))
  (k_220 w6))
  (fun w7 => BND (binv .int .gtr i_2 (Value.int .i64 0)) fun t74_169 =>
  BND (grd (isB t74_169 true) (some L_p0)) fun t76_170 =>
  BND (grd (isB t74_169 true) (some i_2)) fun t77_171 =>
  BND (grd (isB t74_169 true) (binv .int .sub t77_171 (Value.int .i64 1))) fun t78_172 =>
  BND (grd (isB t74_169 true) (iaddr 1 t76_170 t78_172)) fun t79_173 =>
  BND (grd (isB t74_169 true) (some L_p0)) fun t81_174 =>
  BND (grd (isB t74_169 true) (some y_148)) fun t82_175 =>
  BND (grd (isB t74_169 true) (iaddr 1 t81_174 t82_175)) fun t83_176 =>
  BND (grd (isB t74_169 true) (load1 w7.drew t79_173)) fun t80_177 =>
  BND (grd (isB t74_169 true) (load1 w7.drew t83_176)) fun t84_178 =>
  GEF (isB t74_169 true) (fun k_ => CALL PR F_cmp_Less_string [t80_177, t84_178] w7.drew k_) w7.drew fun t85_179 w8 =>
  BND (grd (isB t74_169 true) (unv .not t85_179)) fun t86_180 =>
  BND (pickv t74_169 t86_180 (Value.bool false)) fun t87_181 =>
  COND t87_181
  (CALL PR F_slices_partitionEqualOrdered_string [L_p0, i_2, s_3, y_148] w8 fun t92_182 w9 =>
  (J_1 t92_182 s_3 t_137 r_5 r_6 w9 ∧ m_1 t92_182 s_3 t_137 r_5 r_6 w9 < m_1 i_2 s_3 t_4 r_5 r_6 w1))
  (CALL PR F_slices_partitionOrdered_string [L_p0, i_2, s_3, y_148] w8 fun t99_183 w10 =>
  BND (extractv t99_183 0) fun t100_184 =>
  BND (extractv t99_183 1) fun t101_185 =>
  BND (binv .int .sub t100_184 i_2) fun t105_186 =>
  BND (binv .int .sub s_3 t100_184) fun t108_187 =>
  BND (binv .int .quo t21_131 (Value.int .i64 8)) fun t110_188 =>
  BND (binv .int .lss t105_186 t108_187) fun t113_189 =>
  JOIN (α := Value → Value → Value → World → Prop) (fun k_213 => COND t113_189
  (BND (binv .int .geq t105_186 t110_188) fun t116_214 =>
  CALL PR F_slices_pdqsortOrdered_string [L_p0, i_2, t100_184, t_137] w10 fun t121_215 w12 =>
  BND (binv .int .add t100_184 (Value.int .i64 1)) fun t123_216 =>
  k_213 t123_216 s_3 t116_214 w12)
  (BND (binv .int .geq t108_187 t110_188) fun t126_217 =>
  BND (binv .int .add t100_184 (Value.int .i64 1)) fun t129_218 =>
  CALL PR F_slices_pdqsortOrdered_string [L_p0, t129_218, s_3, t_137] w10 fun t132_219 w13 =>
  k_213 i_2 t100_184 t126_217 w13))
  (fun i_190 s_191 r_192 w11 => (J_1 i_190 s_191 t_137 r_192 t101_185 w11 ∧ m_1 i_190 s_191 t_137 r_192 t101_185 w11 < m_1 i_2 s_3 t_4 r_5 r_6 w1)))))))))
def ann_slices_pdqsortOrdered_string : List (Nat × List Nat) := [(17, [0, 1, 2, 3, 4, 5, 6, 8, 9, 10, 7, 11, 12, 13, 14]), (1000002, [1, 2, 3, 8, 9])]
theorem E_slices_pdqsortOrdered_string (L_p0 i_p1 s_p2 t_p3 : Value) (w : World) (R : Value → World → Prop) : M_slices_pdqsortOrdered_string L_p0 i_p1 s_p2 t_p3 w R = den PR ann_slices_pdqsortOrdered_string (bodyOf Try.f62) (retQ PR Try.f62.results.toList R) (env0 [L_p0, i_p1, s_p2, t_p3]) w := by kernel_rfl
theorem C_slices_pdqsortOrdered_string {L_p0 i_p1 s_p2 t_p3 : Value} {w : World} {R : Value → World → Prop} (h : M_slices_pdqsortOrdered_string L_p0 i_p1 s_p2 t_p3 w R) : CALL PR F_slices_pdqsortOrdered_string [L_p0, i_p1, s_p2, t_p3] w R :=
  call_of_den2 ann_slices_pdqsortOrdered_string Try.func62 (by kernel_rfl) (by kernel_rfl) (by kernel_rfl) ((E_slices_pdqsortOrdered_string L_p0 i_p1 s_p2 t_p3 w R) ▸ h)


-- 63 math.bits.Len
def M_math_bits_Len (x_p0 : Value) (w : World) (R : Value → World → Prop) : Prop :=
  COND (Value.bool false)
  (BND (convi .u32 x_p0) fun t4_1 =>
  CALL PR F_math_bits_Len32 [t4_1] w fun t5_2 w1 =>
  R t5_2 w1)
  (CALL PR F_math_bits_Len64 [x_p0] w fun t7_3 w2 =>
  R t7_3 w2)
def ann_math_bits_Len : List (Nat × List Nat) := []
theorem E_math_bits_Len (x_p0 : Value) (w : World) (R : Value → World → Prop) : M_math_bits_Len x_p0 w R = den PR ann_math_bits_Len (bodyOf Try.f63) (retQ PR Try.f63.results.toList R) (env0 [x_p0]) w := by kernel_rfl
theorem C_math_bits_Len {x_p0 : Value} {w : World} {R : Value → World → Prop} (h : M_math_bits_Len x_p0 w R) : CALL PR F_math_bits_Len [x_p0] w R :=
  call_of_den2 ann_math_bits_Len Try.func63 (by kernel_rfl) (by kernel_rfl) (by kernel_rfl) ((E_math_bits_Len x_p0 w R) ▸ h)


-- 65 slices.insertionSortOrdered[string]
def M_slices_insertionSortOrdered_string (data_p0 a_p1 b_p2 : Value) (w : World) (R : Value → World → Prop) : Prop :=
  BND (binv .int .add a_p1 (Value.int .i64 1)) fun t9_1 =>
  ∃ (J_2 : Value → World → Prop) (m_2 : Value → World → Nat), J_2 t9_1 w ∧ ∀ (_d_2 : Env) (i_3 : Value) (w1 : World), J_2 i_3 w1 →
  (BND (binv .int .lss i_3 b_p2) fun t12_44 =>
  COND t12_44
  (∃ (J_45 : Value → World → Prop) (m_45 : Value → World → Nat), J_45 i_3 w1 ∧ ∀ (_d_45 : Env) (j_46 : Value) (w2 : World), J_45 j_46 w2 →
  (BND (binv .int .gtr j_46 a_p1) fun t18_80 =>
  BND (grd (isB t18_80 true) (some data_p0)) fun t20_81 =>
  BND (grd (isB t18_80 true) (some j_46)) fun t21_82 =>
  BND (grd (isB t18_80 true) (iaddr 1 t20_81 t21_82)) fun t22_83 =>
  BND (grd (isB t18_80 true) (some data_p0)) fun t24_84 =>
  BND (grd (isB t18_80 true) (some j_46)) fun t25_85 =>
  BND (grd (isB t18_80 true) (binv .int .sub t25_85 (Value.int .i64 1))) fun t26_86 =>
  BND (grd (isB t18_80 true) (iaddr 1 t24_84 t26_86)) fun t27_87 =>
  BND (grd (isB t18_80 true) (load1 w2.drew t22_83)) fun t23_88 =>
  BND (grd (isB t18_80 true) (load1 w2.drew t27_87)) fun t28_89 =>
  GEF (isB t18_80 true) (fun k_ => CALL PR F_cmp_Less_string [t23_88, t28_89] w2.drew k_) w2.drew fun t29_90 w3 =>
  BND (pickv t18_80 t29_90 (Value.bool false)) fun t30_91 =>
  COND t30_91
  (BND (binv .int .sub j_46 (Value.int .i64 1)) fun t37_92 =>
  BND (binv .int .sub j_46 (Value.int .i64 1)) fun t40_93 =>
  BND (iaddr 1 data_p0 t40_93) fun t41_94 =>
  BND (iaddr 1 data_p0 j_46) fun t45_95 =>
  BND (load1 w3.drew t41_94) fun t42_96 =>
  BND (load1 w3.drew t45_95) fun t46_97 =>
  BND (iaddr 1 data_p0 j_46) fun t47_98 =>
  BND (storev 1 w3.drew t47_98 t42_96) fun w4 =>
  BND (iaddr 1 data_p0 t37_92) fun t48_99 =>
  BND (storev 1 w4 t48_99 t46_97) fun w5 =>
  BND (binv .int .sub j_46 (Value.int .i64 1)) fun t32_100 =>
  (J_45 t32_100 w5 ∧ m_45 t32_100 w5 < m_45 j_46 w2))
  (BND (binv .int .add i_3 (Value.int .i64 1)) fun t14_101 =>
  (J_2 t14_101 w3 ∧ m_2 t14_101 w3 < m_2 i_3 w1))))
  (R (.tuple #[]) w1))
def ann_slices_insertionSortOrdered_string : List (Nat × List Nat) := [(4, [0, 1, 2, 3, 4, 5, 6, 8, 9, 10, 11, 7, 12, 13, 14]), (6, [0, 1, 2, 3, 4, 5, 6, 7, 8, 10, 11, 12, 9, 13, 14, 15, 16, 17]), (1000001, [6]), (1000004, [7])]
theorem E_slices_insertionSortOrdered_string (data_p0 a_p1 b_p2 : Value) (w : World) (R : Value → World → Prop) : M_slices_insertionSortOrdered_string data_p0 a_p1 b_p2 w R = den PR ann_slices_insertionSortOrdered_string (bodyOf Try.f65) (retQ PR Try.f65.results.toList R) (env0 [data_p0, a_p1, b_p2]) w := by kernel_rfl
theorem C_slices_insertionSortOrdered_string {data_p0 a_p1 b_p2 : Value} {w : World} {R : Value → World → Prop} (h : M_slices_insertionSortOrdered_string data_p0 a_p1 b_p2 w R) : CALL PR F_slices_insertionSortOrdered_string [data_p0, a_p1, b_p2] w R :=
  call_of_den2 ann_slices_insertionSortOrdered_string Try.func65 (by kernel_rfl) (by kernel_rfl) (by kernel_rfl) ((E_slices_insertionSortOrdered_string data_p0 a_p1 b_p2 w R) ▸ h)


-- 66 slices.heapSortOrdered[string]
def M_slices_heapSortOrdered_string (data_p0 a_p1 b_p2 : Value) (w : World) (R : Value → World → Prop) : Prop :=
  BND (binv .int .sub b_p2 a_p1) fun t14_1 =>
  BND (binv .int .sub t14_1 (Value.int .i64 1)) fun t16_2 =>
  BND (binv .int .quo t16_2 (Value.int .i64 2)) fun t17_3 =>
  ∃ (J_4 : Value → World → Prop) (m_4 : Value → World → Nat), J_4 t17_3 w ∧ ∀ (_d_4 : Env) (i_5 : Value) (w1 : World), J_4 i_5 w1 →
  (BND (binv .int .geq i_5 (Value.int .i64 0)) fun t19_15 =>
  COND t19_15
  (CALL PR F_slices_siftDownOrdered_string [data_p0, i_5, t14_1, a_p1] w1 fun t26_16 w2 =>
  BND (binv .int .sub i_5 (Value.int .i64 1)) fun t21_17 =>
  (J_4 t21_17 w2 ∧ m_4 t21_17 w2 < m_4 i_5 w1))
  (BND (binv .int .sub t14_1 (Value.int .i64 1)) fun t28_18 =>
  ∃ (J_19 : Value → World → Prop) (m_19 : Value → World → Nat), J_19 t28_18 w1 ∧ ∀ (_d_19 : Env) (i_20 : Value) (w3 : World), J_19 i_20 w3 →
  (BND (binv .int .geq i_20 (Value.int .i64 0)) fun t30_48 =>
  COND t30_48
  (BND (binv .int .add a_p1 i_20) fun t38_49 =>
  BND (binv .int .add a_p1 i_20) fun t42_50 =>
  BND (iaddr 1 data_p0 t42_50) fun t43_51 =>
  BND (iaddr 1 data_p0 a_p1) fun t47_52 =>
  BND (load1 w3.drew t43_51) fun t44_53 =>
  BND (load1 w3.drew t47_52) fun t48_54 =>
  BND (iaddr 1 data_p0 a_p1) fun t49_55 =>
  BND (storev 1 w3.drew t49_55 t44_53) fun w4 =>
  BND (iaddr 1 data_p0 t38_49) fun t50_56 =>
  BND (storev 1 w4 t50_56 t48_54) fun w5 =>
  CALL PR F_slices_siftDownOrdered_string [data_p0, (Value.int .i64 0), i_20, a_p1] w5 fun t55_57 w6 =>
  BND (binv .int .sub i_20 (Value.int .i64 1)) fun t32_58 =>
  (J_19 t32_58 w6 ∧ m_19 t32_58 w6 < m_19 i_20 w3))
  (R (.tuple #[]) w3))))
def ann_slices_heapSortOrdered_string : List (Nat × List Nat) := [(10, [0, 1, 2, 3, 4, 5, 6, 7, 8, 9, 10, 12, 13, 14, 11, 15, 16, 17, 18, 19]), (1000004, [9]), (1000008, [10])]
theorem E_slices_heapSortOrdered_string (data_p0 a_p1 b_p2 : Value) (w : World) (R : Value → World → Prop) : M_slices_heapSortOrdered_string data_p0 a_p1 b_p2 w R = den PR ann_slices_heapSortOrdered_string (bodyOf Try.f66) (retQ PR Try.f66.results.toList R) (env0 [data_p0, a_p1, b_p2]) w := by kernel_rfl
theorem C_slices_heapSortOrdered_string {data_p0 a_p1 b_p2 : Value} {w : World} {R : Value → World → Prop} (h : M_slices_heapSortOrdered_string data_p0 a_p1 b_p2 w R) : CALL PR F_slices_heapSortOrdered_string [data_p0, a_p1, b_p2] w R :=
  call_of_den2 ann_slices_heapSortOrdered_string Try.func66 (by kernel_rfl) (by kernel_rfl) (by kernel_rfl) ((E_slices_heapSortOrdered_string data_p0 a_p1 b_p2 w R) ▸ h)


-- 67 slices.breakPatternsOrdered[string]
def M_slices_breakPatternsOrdered_string (L_p0 i_p1 s_p2 : Value) (w : World) (R : Value → World → Prop) : Prop :=
  BND (binv .int .sub s_p2 i_p1) fun t13_1 =>
  BND (binv .int .geq t13_1 (Value.int .i64 8)) fun t15_2 =>
  JOIN (α := World → Prop) (fun k_56 => COND t15_2
  (BND (convi .u64 t13_1) fun t17_57 =>
  NEW (newv 108 w (Value.int .u64 0)) fun A_58 w2 =>
  BND (storev 1 w2 A_58 t17_57) fun w3 =>
  CALL PR F_slices_nextPowerOfTwo [t13_1] w3 fun t19_59 w4 =>
  BND (binv .int .quo t13_1 (Value.int .i64 4)) fun t22_60 =>
  BND (binv .int .mul t22_60 (Value.int .i64 2)) fun t23_61 =>
  BND (binv .int .add i_p1 t23_61) fun t24_62 =>
  BND (binv .int .sub t24_62 (Value.int .i64 1)) fun t25_63 =>
  ∃ (J_64 : Value → World → Prop) (m_64 : Value → World → Nat), J_64 t25_63 w4 ∧ ∀ (_d_64 : Env) (r_65 : Value) (w5 : World), J_64 r_65 w5 →
  (BND (binv .int .quo t13_1 (Value.int .i64 4)) fun t29_106 =>
  BND (binv .int .mul t29_106 (Value.int .i64 2)) fun t30_107 =>
  BND (binv .int .add i_p1 t30_107) fun t31_108 =>
  BND (binv .int .add t31_108 (Value.int .i64 1)) fun t32_109 =>
  BND (binv .int .leq r_65 t32_109) fun t33_110 =>
  COND t33_110
  (CALL PR F_slices_xorshift_Next [A_58] w5 fun t36_111 w6 =>
  BND (binv .int .sub t19_59 (Value.int .u64 1)) fun t38_112 =>
  BND (binv .int .and t36_111 t38_112) fun t39_113 =>
  BND (convi .i64 t39_113) fun t40_114 =>
  BND (binv .int .geq t40_114 t13_1) fun t43_115 =>
  JOIN (α := Value → World → Prop) (fun k_129 => COND t43_115
  (BND (binv .int .sub t40_114 t13_1) fun t46_130 =>
  k_129 t46_130 w6)
  (k_129 t40_114 w6))
  (fun a_116 w7 => BND (binv .int .add i_p1 a_116) fun t52_120 =>
  BND (binv .int .add i_p1 a_116) fun t56_121 =>
  BND (iaddr 1 L_p0 t56_121) fun t57_122 =>
  BND (iaddr 1 L_p0 r_65) fun t61_123 =>
  BND (load1 w7.drew t57_122) fun t58_124 =>
  BND (load1 w7.drew t61_123) fun t62_125 =>
  BND (iaddr 1 L_p0 r_65) fun t63_126 =>
  BND (storev 1 w7.drew t63_126 t58_124) fun w8 =>
  BND (iaddr 1 L_p0 t52_120) fun t64_127 =>
  BND (storev 1 w8 t64_127 t62_125) fun w9 =>
  BND (binv .int .add r_65 (Value.int .i64 1)) fun t35_128 =>
  (J_64 t35_128 w9 ∧ m_64 t35_128 w9 < m_64 r_65 w5)))
  (k_56 w5)))
  (k_56 w))
  (fun w1 => R (.tuple #[]) w1)
def ann_slices_breakPatternsOrdered_string : List (Nat × List Nat) := [(10, [0, 1, 2, 3, 4, 5, 6, 7, 8, 9, 10, 12, 13, 14, 11, 15, 16, 17, 18, 19]), (1000005, [9])]
theorem E_slices_breakPatternsOrdered_string (L_p0 i_p1 s_p2 : Value) (w : World) (R : Value → World → Prop) : M_slices_breakPatternsOrdered_string L_p0 i_p1 s_p2 w R = den PR ann_slices_breakPatternsOrdered_string (bodyOf Try.f67) (retQ PR Try.f67.results.toList R) (env0 [L_p0, i_p1, s_p2]) w := by kernel_rfl
theorem C_slices_breakPatternsOrdered_string {L_p0 i_p1 s_p2 : Value} {w : World} {R : Value → World → Prop} (h : M_slices_breakPatternsOrdered_string L_p0 i_p1 s_p2 w R) : CALL PR F_slices_breakPatternsOrdered_string [L_p0, i_p1, s_p2] w R :=
  call_of_den2 ann_slices_breakPatternsOrdered_string Try.func67 (by kernel_rfl) (by kernel_rfl) (by kernel_rfl) ((E_slices_breakPatternsOrdered_string L_p0 i_p1 s_p2 w R) ▸ h)


-- 68 slices.choosePivotOrdered[string]
def M_slices_choosePivotOrdered_string (data_p0 a_p1 b_p2 : Value) (w : World) (R : Value → World → Prop) : Prop :=
  BND (binv .int .sub b_p2 a_p1) fun t15_1 =>
  NEW (newv 3 w (Value.int .i64 0)) fun swaps_2 w1 =>
  BND (binv .int .quo t15_1 (Value.int .i64 4)) fun t18_3 =>
  BND (binv .int .mul t18_3 (Value.int .i64 1)) fun t19_4 =>
  BND (binv .int .add a_p1 t19_4) fun t20_5 =>
  BND (binv .int .quo t15_1 (Value.int .i64 4)) fun t23_6 =>
  BND (binv .int .mul t23_6 (Value.int .i64 2)) fun t24_7 =>
  BND (binv .int .add a_p1 t24_7) fun t25_8 =>
  BND (binv .int .quo t15_1 (Value.int .i64 4)) fun t28_9 =>
  BND (binv .int .mul t28_9 (Value.int .i64 3)) fun t29_10 =>
  BND (binv .int .add a_p1 t29_10) fun t30_11 =>
  BND (binv .int .geq t15_1 (Value.int .i64 8)) fun t32_12 =>
  JOIN (α := Value → World → Prop) (fun k_35 => COND t32_12
  (BND (binv .int .geq t15_1 (Value.int .i64 50)) fun t34_36 =>
  JOIN (α := Value → Value → Value → World → Prop) (fun k_50 => COND t34_36
  (CALL PR F_slices_medianAdjacentOrdered_string [data_p0, t20_5, swaps_2] w1 fun t37_51 w5 =>
  CALL PR F_slices_medianAdjacentOrdered_string [data_p0, t25_8, swaps_2] w5 fun t40_52 w6 =>
  CALL PR F_slices_medianAdjacentOrdered_string [data_p0, t30_11, swaps_2] w6 fun t43_53 w7 =>
  k_50 t37_51 t40_52 t43_53 w7)
  (k_50 t20_5 t25_8 t30_11 w1))
  (fun i_37 j_38 k_39 w3 => CALL PR F_slices_medianOrdered_string [data_p0, i_37, j_38, k_39, swaps_2] w3 fun t48_49 w4 =>
  k_35 t48_49 w4))
  (k_35 t25_8 w1))
  (fun j_14 w2 => BND (load1 w2 swaps_2) fun t49_32 =>
  BND (binv .int .eql t49_32 (Value.int .i64 0)) fun t52_33 =>
  COND t52_33
  (R (.tuple #[j_14, (Value.int .i64 1)]) w2)
  (BND (binv .int .eql t49_32 (Value.int .i64 12)) fun t55_34 =>
  COND t55_34
  (R (.tuple #[j_14, (Value.int .i64 2)]) w2)
  (R (.tuple #[j_14, (Value.int .i64 0)]) w2)))
def ann_slices_choosePivotOrdered_string : List (Nat × List Nat) := []
theorem E_slices_choosePivotOrdered_string (data_p0 a_p1 b_p2 : Value) (w : World) (R : Value → World → Prop) : M_slices_choosePivotOrdered_string data_p0 a_p1 b_p2 w R = den PR ann_slices_choosePivotOrdered_string (bodyOf Try.f68) (retQ PR Try.f68.results.toList R) (env0 [data_p0, a_p1, b_p2]) w := by kernel_rfl
theorem C_slices_choosePivotOrdered_string {data_p0 a_p1 b_p2 : Value} {w : World} {R : Value → World → Prop} (h : M_slices_choosePivotOrdered_string data_p0 a_p1 b_p2 w R) : CALL PR F_slices_choosePivotOrdered_string [data_p0, a_p1, b_p2] w R :=
  call_of_den2 ann_slices_choosePivotOrdered_string Try.func68 (by kernel_rfl) (by kernel_rfl) (by kernel_rfl) ((E_slices_choosePivotOrdered_string data_p0 a_p1 b_p2 w R) ▸ h)


-- 69 slices.reverseRangeOrdered[string]
def M_slices_reverseRangeOrdered_string (data_p0 a_p1 b_p2 : Value) (w : World) (R : Value → World → Prop) : Prop :=
  BND (binv .int .sub b_p2 (Value.int .i64 1)) fun t10_1 =>
  ∃ (J_2 : Value → Value → World → Prop) (m_2 : Value → Value → World → Nat), J_2 a_p1 t10_1 w ∧ ∀ (_d_2 : Env) (i_3 j_4 : Value) (w1 : World), J_2 i_3 j_4 w1 →
  (BND (binv .int .lss i_3 j_4) fun t13_26 =>
  COND t13_26
  (BND (iaddr 1 data_p0 j_4) fun t20_27 =>
  BND (iaddr 1 data_p0 i_3) fun t24_28 =>
  BND (load1 w1.drew t20_27) fun t21_29 =>
  BND (load1 w1.drew t24_28) fun t25_30 =>
  BND (iaddr 1 data_p0 i_3) fun t26_31 =>
  BND (storev 1 w1.drew t26_31 t21_29) fun w2 =>
  BND (iaddr 1 data_p0 j_4) fun t27_32 =>
  BND (storev 1 w2 t27_32 t25_30) fun w3 =>
  BND (binv .int .add i_3 (Value.int .i64 1)) fun t29_33 =>
  BND (binv .int .sub j_4 (Value.int .i64 1)) fun t31_34 =>
  (J_2 t29_33 t31_34 w3 ∧ m_2 t29_33 t31_34 w3 < m_2 i_3 j_4 w1))
  (R (.tuple #[]) w1))
def ann_slices_reverseRangeOrdered_string : List (Nat × List Nat) := [(3, [0, 1, 2, 3, 4, 5, 6, 8, 9, 10, 7, 11, 12, 13, 14, 15]), (1000002, [6, 7])]
theorem E_slices_reverseRangeOrdered_string (data_p0 a_p1 b_p2 : Value) (w : World) (R : Value → World → Prop) : M_slices_reverseRangeOrdered_string data_p0 a_p1 b_p2 w R = den PR ann_slices_reverseRangeOrdered_string (bodyOf Try.f69) (retQ PR Try.f69.results.toList R) (env0 [data_p0, a_p1, b_p2]) w := by kernel_rfl
theorem C_slices_reverseRangeOrdered_string {data_p0 a_p1 b_p2 : Value} {w : World} {R : Value → World → Prop} (h : M_slices_reverseRangeOrdered_string data_p0 a_p1 b_p2 w R) : CALL PR F_slices_reverseRangeOrdered_string [data_p0, a_p1, b_p2] w R :=
  call_of_den2 ann_slices_reverseRangeOrdered_string Try.func69 (by kernel_rfl) (by kernel_rfl) (by kernel_rfl) ((E_slices_reverseRangeOrdered_string data_p0 a_p1 b_p2 w R) ▸ h)


-- 70 slices.partialInsertionSortOrdered[string]
def M_slices_partialInsertionSortOrdered_string (L_p0 i_p1 s_p2 : Value) (w : World) (R : Value → World → Prop) : Prop :=
  BND (binv .int .add i_p1 (Value.int .i64 1)) fun t12_1 =>
  ∃ (J_2 : Value → Value → World → Prop) (m_2 : Value → Value → World → Nat), J_2 t12_1 (Value.int .i64 0) w ∧ ∀ (_d_2 : Env) (A_4 r_5 : Value) (w1 : World), J_2 A_4 r_5 w1 →
  (BND (binv .int .lss r_5 (Value.int .i64 5)) fun t14_128 =>
  COND t14_128
  (∃ (J_129 : Value → World → Prop) (m_129 : Value → World → Nat), J_129 A_4 w1 ∧ ∀ (_d_129 : Env) (A_130 : Value) (w2 : World), J_129 A_130 w2 →
  (BND (binv .int .lss A_130 s_p2) fun t19_149 =>
  BND (grd (isB t19_149 true) (some L_p0)) fun t21_150 =>
  BND (grd (isB t19_149 true) (some A_130)) fun t22_151 =>
  BND (grd (isB t19_149 true) (iaddr 1 t21_150 t22_151)) fun t23_152 =>
  BND (grd (isB t19_149 true) (some L_p0)) fun t25_153 =>
  BND (grd (isB t19_149 true) (some A_130)) fun t26_154 =>
  BND (grd (isB t19_149 true) (binv .int .sub t26_154 (Value.int .i64 1))) fun t27_155 =>
  BND (grd (isB t19_149 true) (iaddr 1 t25_153 t27_155)) fun t28_156 =>
  BND (grd (isB t19_149 true) (load1 w2.drew t23_152)) fun t24_157 =>
  BND (grd (isB t19_149 true) (load1 w2.drew t28_156)) fun t29_158 =>
  GEF (isB t19_149 true) (fun k_ => CALL PR F_cmp_Less_string [t24_157, t29_158] w2.drew k_) w2.drew fun t30_159 w3 =>
  BND (grd (isB t19_149 true) (unv .not t30_159)) fun t31_160 =>
  BND (pickv t19_149 t31_160 (Value.bool false)) fun t32_161 =>
  COND t32_161
  (BND (binv .int .add A_130 (Value.int .i64 1)) fun t34_162 =>
  (J_129 t34_162 w3 ∧ m_129 t34_162 w3 < m_129 A_130 w2))
  (BND (binv .int .eql A_130 s_p2) fun t37_163 =>
  COND t37_163
  (R (Value.bool true) w3)
  (BND (binv .int .sub s_p2 i_p1) fun t40_164 =>
  BND (binv .int .lss t40_164 (Value.int .i64 50)) fun t41_165 =>
  COND t41_165
  (R (Value.bool false) w3)
  (BND (binv .int .sub A_130 (Value.int .i64 1)) fun t46_166 =>
  BND (binv .int .sub A_130 (Value.int .i64 1)) fun t49_167 =>
  BND (iaddr 1 L_p0 t49_167) fun t50_168 =>
  BND (iaddr 1 L_p0 A_130) fun t54_169 =>
  BND (load1 w3.drew t50_168) fun t51_170 =>
  BND (load1 w3.drew t54_169) fun t55_171 =>
  BND (iaddr 1 L_p0 A_130) fun t56_172 =>
  BND (storev 1 w3.drew t56_172 t51_170) fun w4 =>
  BND (iaddr 1 L_p0 t46_166) fun t57_173 =>
  BND (storev 1 w4 t57_173 t55_171) fun w5 =>
  BND (binv .int .sub A_130 i_p1) fun t60_174 =>
  BND (binv .int .geq t60_174 (Value.int .i64 2)) fun t61_175 =>
  JOIN (α := World → Prop) (fun k_301 => COND t61_175
  (BND (binv .int .sub A_130 (Value.int .i64 1)) fun t63_302 =>
  ∃ (J_303 : Value → World → Prop) (m_303 : Value → World → Nat), J_303 t63_302 w5 ∧ ∀ (_d_303 : Env) (r_304 : Value) (w12 : World), J_303 r_304 w12 →
  (BND (binv .int .geq r_304 (Value.int .i64 1)) fun t65_336 =>
  COND t65_336
  (BND (iaddr 1 L_p0 r_304) fun t70_337 =>
  BND (binv .int .sub r_304 (Value.int .i64 1)) fun t74_338 =>
  BND (iaddr 1 L_p0 t74_338) fun t75_339 =>
  BND (load1 w12.drew t70_337) fun t71_340 =>
  BND (load1 w12.drew t75_339) fun t76_341 =>
  CALL PR F_cmp_Less_string [t71_340, t76_341] w12.drew fun t77_342 w13 =>
  BND (unv .not t77_342) fun t78_343 =>
  COND t78_343
  (k_301 w13)
  (BND (binv .int .sub r_304 (Value.int .i64 1)) fun t83_344 =>
  BND (binv .int .sub r_304 (Value.int .i64 1)) fun t86_345 =>
  BND (iaddr 1 L_p0 t86_345) fun t87_346 =>
  BND (iaddr 1 L_p0 r_304) fun t91_347 =>
  BND (load1 w13.drew t87_346) fun t88_348 =>
  BND (load1 w13.drew t91_347) fun t92_349 =>
  BND (iaddr 1 L_p0 r_304) fun t93_350 =>
  BND (storev 1 w13.drew t93_350 t88_348) fun w14 =>
  BND (iaddr 1 L_p0 t83_344) fun t94_351 =>
  BND (storev 1 w14 t94_351 t92_349) fun w15 =>
  BND (binv .int .sub r_304 (Value.int .i64 1)) fun t67_352 =>
  (J_303 t67_352 w15 ∧ m_303 t67_352 w15 < m_303 r_304 w12)))
  (k_301 w12)))
  (k_301 w5))
  (fun w6 => BND (binv .int .sub s_p2 A_130) fun t97_210 =>
  BND (binv .int .geq t97_210 (Value.int .i64 2)) fun t98_211 =>
  JOIN (α := World → Prop) (fun k_248 => COND t98_211
  (BND (binv .int .add A_130 (Value.int .i64 1)) fun t100_249 =>
  ∃ (J_250 : Value → World → Prop) (m_250 : Value → World → Nat), J_250 t100_249 w6 ∧ ∀ (_d_250 : Env) (a_251 : Value) (w8 : World), J_250 a_251 w8 →
  (BND (binv .int .lss a_251 s_p2) fun t103_284 =>
  COND t103_284
  (BND (iaddr 1 L_p0 a_251) fun t108_285 =>
  BND (binv .int .sub a_251 (Value.int .i64 1)) fun t112_286 =>
  BND (iaddr 1 L_p0 t112_286) fun t113_287 =>
  BND (load1 w8.drew t108_285) fun t109_288 =>
  BND (load1 w8.drew t113_287) fun t114_289 =>
  CALL PR F_cmp_Less_string [t109_288, t114_289] w8.drew fun t115_290 w9 =>
  BND (unv .not t115_290) fun t116_291 =>
  COND t116_291
  (k_248 w9)
  (BND (binv .int .sub a_251 (Value.int .i64 1)) fun t121_292 =>
  BND (binv .int .sub a_251 (Value.int .i64 1)) fun t124_293 =>
  BND (iaddr 1 L_p0 t124_293) fun t125_294 =>
  BND (iaddr 1 L_p0 a_251) fun t129_295 =>
  BND (load1 w9.drew t125_294) fun t126_296 =>
  BND (load1 w9.drew t129_295) fun t130_297 =>
  BND (iaddr 1 L_p0 a_251) fun t131_298 =>
  BND (storev 1 w9.drew t131_298 t126_296) fun w10 =>
  BND (iaddr 1 L_p0 t121_292) fun t132_299 =>
  BND (storev 1 w10 t132_299 t130_297) fun w11 =>
  BND (binv .int .add a_251 (Value.int .i64 1)) fun t105_300 =>
  (J_250 t105_300 w11 ∧ m_250 t105_300 w11 < m_250 a_251 w8)))
  (k_248 w8)))
  (k_248 w6))
  (fun w7 => BND (binv .int .add r_5 (Value.int .i64 1)) fun t16_247 =>
  (J_2 A_130 t16_247 w7 ∧ m_2 A_130 t16_247 w7 < m_2 A_4 r_5 w1))))))))
  (R (Value.bool false) w1))
def ann_slices_partialInsertionSortOrdered_string : List (Nat × List Nat) := [(5, [0, 1, 2, 3, 4, 5, 6, 8, 9, 10, 11, 7, 12, 13, 14, 15]), (11, [0, 1, 2, 3, 4, 5, 6, 7, 8, 10, 11, 12, 9, 13, 14, 15, 16, 17]), (16, [0, 1, 2, 4, 5, 6, 7, 3, 8, 9, 10]), (17, [0, 1, 2, 3, 4, 5, 6, 7, 8, 10, 11, 12, 9, 13, 14, 15, 16, 17]), (22, [0, 1, 2, 4, 5, 6, 7, 3, 8, 9, 10]), (23, [0, 1, 2, 3, 4, 5, 6, 7, 8, 10, 11, 12, 9, 13, 14, 15, 16, 17]), (1000003, [7, 8]), (1000005, [7]), (1000014, [9]), (1000020, [10])]
theorem E_slices_partialInsertionSortOrdered_string (L_p0 i_p1 s_p2 : Value) (w : World) (R : Value → World → Prop) : M_slices_partialInsertionSortOrdered_string L_p0 i_p1 s_p2 w R = den PR ann_slices_partialInsertionSortOrdered_string (bodyOf Try.f70) (retQ PR Try.f70.results.toList R) (env0 [L_p0, i_p1, s_p2]) w := by kernel_rfl
theorem C_slices_partialInsertionSortOrdered_string {L_p0 i_p1 s_p2 : Value} {w : World} {R : Value → World → Prop} (h : M_slices_partialInsertionSortOrdered_string L_p0 i_p1 s_p2 w R) : CALL PR F_slices_partialInsertionSortOrdered_string [L_p0, i_p1, s_p2] w R :=
  call_of_den2 ann_slices_partialInsertionSortOrdered_string Try.func70 (by kernel_rfl) (by kernel_rfl) (by kernel_rfl) ((E_slices_partialInsertionSortOrdered_string L_p0 i_p1 s_p2 w R) ▸ h)


-- 71 cmp.Less[string]
def M_cmp_Less_string (x_p0 y_p1 : Value) (w : World) (R : Value → World → Prop) : Prop :=
  CALL PR F_cmp_isNaN_string [x_p0] w fun t6_1 w1 =>
  BND (grd (isB t6_1 true) (some y_p1)) fun t8_2 =>
  GEF (isB t6_1 true) (fun k_ => CALL PR F_cmp_isNaN_string [t8_2] w1 k_) w1 fun t9_3 w2 =>
  BND (grd (isB t6_1 true) (unv .not t9_3)) fun t10_4 =>
  BND (pickv t6_1 t10_4 (Value.bool false)) fun t11_5 =>
  BND (grd (isB t11_5 false) (some x_p0)) fun t13_6 =>
  BND (grd (isB t11_5 false) (some y_p1)) fun t14_7 =>
  BND (grd (isB t11_5 false) (binv .str .lss t13_6 t14_7)) fun t15_8 =>
  BND (pickv t11_5 (Value.bool true) t15_8) fun t16_9 =>
  R t16_9 w2
def ann_cmp_Less_string : List (Nat × List Nat) := []
theorem E_cmp_Less_string (x_p0 y_p1 : Value) (w : World) (R : Value → World → Prop) : M_cmp_Less_string x_p0 y_p1 w R = den PR ann_cmp_Less_string (bodyOf Try.f71) (retQ PR Try.f71.results.toList R) (env0 [x_p0, y_p1]) w := by kernel_rfl
theorem C_cmp_Less_string {x_p0 y_p1 : Value} {w : World} {R : Value → World → Prop} (h : M_cmp_Less_string x_p0 y_p1 w R) : CALL PR F_cmp_Less_string [x_p0, y_p1] w R :=
  call_of_den2 ann_cmp_Less_string Try.func71 (by kernel_rfl) (by kernel_rfl) (by kernel_rfl) ((E_cmp_Less_string x_p0 y_p1 w R) ▸ h)


-- 72 slices.partitionEqualOrdered[string]
def M_slices_partitionEqualOrdered_string (L_p0 i_p1 s_p2 t_p3 : Value) (w : World) (R : Value → World → Prop) : Prop :=
  BND (iaddr 1 L_p0 t_p3) fun t17_1 =>
  BND (iaddr 1 L_p0 i_p1) fun t21_2 =>
  BND (load1 w.drew t17_1) fun t18_3 =>
  BND (load1 w.drew t21_2) fun t22_4 =>
  BND (iaddr 1 L_p0 i_p1) fun t23_5 =>
  BND (storev 1 w.drew t23_5 t18_3) fun w1 =>
  BND (iaddr 1 L_p0 t_p3) fun t24_6 =>
  BND (storev 1 w1 t24_6 t22_4) fun w2 =>
  BND (binv .int .add i_p1 (Value.int .i64 1)) fun t26_7 =>
  BND (binv .int .sub s_p2 (Value.int .i64 1)) fun t28_8 =>
  ∃ (J_9 : Value → Value → World → Prop) (m_9 : Value → Value → World → Nat), J_9 t26_7 t28_8 w2 ∧ ∀ (_d_9 : Env) (r_10 a_11 : Value) (w3 : World), J_9 r_10 a_11 w3 →
  (∃ (J_66 : Value → World → Prop) (m_66 : Value → World → Nat), J_66 r_10 w3 ∧ ∀ (_d_66 : Env) (r_67 : Value) (w4 : World), J_66 r_67 w4 →
  (BND (binv .int .leq r_67 a_11) fun t31_85 =>
  BND (grd (isB t31_85 true) (some L_p0)) fun t33_86 =>
  BND (grd (isB t31_85 true) (some i_p1)) fun t34_87 =>
  BND (grd (isB t31_85 true) (iaddr 1 t33_86 t34_87)) fun t35_88 =>
  BND (grd (isB t31_85 true) (some L_p0)) fun t37_89 =>
  BND (grd (isB t31_85 true) (some r_67)) fun t38_90 =>
  BND (grd (isB t31_85 true) (iaddr 1 t37_89 t38_90)) fun t39_91 =>
  BND (grd (isB t31_85 true) (load1 w4.drew t35_88)) fun t36_92 =>
  BND (grd (isB t31_85 true) (load1 w4.drew t39_91)) fun t40_93 =>
  GEF (isB t31_85 true) (fun k_ => CALL PR F_cmp_Less_string [t36_92, t40_93] w4.drew k_) w4.drew fun t41_94 w5 =>
  BND (grd (isB t31_85 true) (unv .not t41_94)) fun t42_95 =>
  BND (pickv t31_85 t42_95 (Value.bool false)) fun t43_96 =>
  COND t43_96
  (BND (binv .int .add r_67 (Value.int .i64 1)) fun t45_97 =>
  (J_66 t45_97 w5 ∧ m_66 t45_97 w5 < m_66 r_67 w4))
  (∃ (J_98 : Value → World → Prop) (m_98 : Value → World → Nat), J_98 a_11 w5 ∧ ∀ (_d_98 : Env) (a_99 : Value) (w6 : World), J_98 a_99 w6 →
  (BND (binv .int .leq r_67 a_99) fun t48_116 =>
  BND (grd (isB t48_116 true) (some L_p0)) fun t50_117 =>
  BND (grd (isB t48_116 true) (some i_p1)) fun t51_118 =>
  BND (grd (isB t48_116 true) (iaddr 1 t50_117 t51_118)) fun t52_119 =>
  BND (grd (isB t48_116 true) (some L_p0)) fun t54_120 =>
  BND (grd (isB t48_116 true) (some a_99)) fun t55_121 =>
  BND (grd (isB t48_116 true) (iaddr 1 t54_120 t55_121)) fun t56_122 =>
  BND (grd (isB t48_116 true) (load1 w6.drew t52_119)) fun t53_123 =>
  BND (grd (isB t48_116 true) (load1 w6.drew t56_122)) fun t57_124 =>
  GEF (isB t48_116 true) (fun k_ => CALL PR F_cmp_Less_string [t53_123, t57_124] w6.drew k_) w6.drew fun t58_125 w7 =>
  BND (pickv t48_116 t58_125 (Value.bool false)) fun t59_126 =>
  COND t59_126
  (BND (binv .int .sub a_99 (Value.int .i64 1)) fun t61_127 =>
  (J_98 t61_127 w7 ∧ m_98 t61_127 w7 < m_98 a_99 w6))
  (BND (binv .int .gtr r_67 a_99) fun t64_128 =>
  COND t64_128
  (R r_67 w7)
  (BND (iaddr 1 L_p0 a_99) fun t71_129 =>
  BND (iaddr 1 L_p0 r_67) fun t75_130 =>
  BND (load1 w7.drew t71_129) fun t72_131 =>
  BND (load1 w7.drew t75_130) fun t76_132 =>
  BND (iaddr 1 L_p0 r_67) fun t77_133 =>
  BND (storev 1 w7.drew t77_133 t72_131) fun w8 =>
  BND (iaddr 1 L_p0 a_99) fun t78_134 =>
  BND (storev 1 w8 t78_134 t76_132) fun w9 =>
  BND (binv .int .add r_67 (Value.int .i64 1)) fun t80_135 =>
  BND (binv .int .sub a_99 (Value.int .i64 1)) fun t82_136 =>
  (J_9 t80_135 t82_136 w9 ∧ m_9 t80_135 t82_136 w9 < m_9 r_10 a_11 w3)))))))
def ann_slices_partitionEqualOrdered_string : List (Nat × List Nat) := [(1, [0, 1, 2, 3, 4, 5, 6, 8, 9, 10, 7, 11, 12, 13, 14, 15]), (3, [0, 1, 2, 3, 4, 5, 6, 8, 9, 10, 7, 11, 12, 13, 14]), (5, [0, 1, 2, 3, 4, 5, 6, 8, 9, 10, 7, 11, 12, 13]), (8, [0, 1, 2, 3, 4, 5, 6, 8, 9, 10, 7, 11, 12, 13, 14, 15]), (1000003, [9]), (1000005, [10]), (1100003, [9, 10])]
theorem E_slices_partitionEqualOrdered_string (L_p0 i_p1 s_p2 t_p3 : Value) (w : World) (R : Value → World → Prop) : M_slices_partitionEqualOrdered_string L_p0 i_p1 s_p2 t_p3 w R = den PR ann_slices_partitionEqualOrdered_string (bodyOf Try.f72) (retQ PR Try.f72.results.toList R) (env0 [L_p0, i_p1, s_p2, t_p3]) w := by kernel_rfl
theorem C_slices_partitionEqualOrdered_string {L_p0 i_p1 s_p2 t_p3 : Value} {w : World} {R : Value → World → Prop} (h : M_slices_partitionEqualOrdered_string L_p0 i_p1 s_p2 t_p3 w R) : CALL PR F_slices_partitionEqualOrdered_string [L_p0, i_p1, s_p2, t_p3] w R :=
  call_of_den2 ann_slices_partitionEqualOrdered_string Try.func72 (by kernel_rfl) (by kernel_rfl) (by kernel_rfl) ((E_slices_partitionEqualOrdered_string L_p0 i_p1 s_p2 t_p3 w R) ▸ h)


-- 73 slices.partitionOrdered[string]
def M_slices_partitionOrdered_string (L_p0 i_p1 s_p2 t_p3 : Value) (w : World) (R : Value → World → Prop) : Prop :=
  BND (iaddr 1 L_p0 t_p3) fun t18_1 =>
  BND (iaddr 1 L_p0 i_p1) fun t22_2 =>
  BND (load1 w.drew t18_1) fun t19_3 =>
  BND (load1 w.drew t22_2) fun t23_4 =>
  BND (iaddr 1 L_p0 i_p1) fun t24_5 =>
  BND (storev 1 w.drew t24_5 t19_3) fun w1 =>
  BND (iaddr 1 L_p0 t_p3) fun t25_6 =>
  BND (storev 1 w1 t25_6 t23_4) fun w2 =>
  BND (binv .int .add i_p1 (Value.int .i64 1)) fun t27_7 =>
  BND (binv .int .sub s_p2 (Value.int .i64 1)) fun t29_8 =>
  ∃ (J_9 : Value → World → Prop) (m_9 : Value → World → Nat), J_9 t27_7 w2 ∧ ∀ (_d_9 : Env) (a_10 : Value) (w3 : World), J_9 a_10 w3 →
  (BND (binv .int .leq a_10 t29_8) fun t32_27 =>
  BND (grd (isB t32_27 true) (some L_p0)) fun t34_28 =>
  BND (grd (isB t32_27 true) (some a_10)) fun t35_29 =>
  BND (grd (isB t32_27 true) (iaddr 1 t34_28 t35_29)) fun t36_30 =>
  BND (grd (isB t32_27 true) (some L_p0)) fun t38_31 =>
  BND (grd (isB t32_27 true) (some i_p1)) fun t39_32 =>
  BND (grd (isB t32_27 true) (iaddr 1 t38_31 t39_32)) fun t40_33 =>
  BND (grd (isB t32_27 true) (load1 w3.drew t36_30)) fun t37_34 =>
  BND (grd (isB t32_27 true) (load1 w3.drew t40_33)) fun t41_35 =>
  GEF (isB t32_27 true) (fun k_ => CALL PR F_cmp_Less_string [t37_34, t41_35] w3.drew k_) w3.drew fun t42_36 w4 =>
  BND (pickv t32_27 t42_36 (Value.bool false)) fun t43_37 =>
  COND t43_37
  (BND (binv .int .add a_10 (Value.int .i64 1)) fun t45_38 =>
  (J_9 t45_38 w4 ∧ m_9 t45_38 w4 < m_9 a_10 w3))
  (∃ (J_39 : Value → World → Prop) (m_39 : Value → World → Nat), J_39 t29_8 w4 ∧ ∀ (_d_39 : Env) (y_40 : Value) (w5 : World), J_39 y_40 w5 →
  (BND (binv .int .leq a_10 y_40) fun t48_58 =>
  BND (grd (isB t48_58 true) (some L_p0)) fun t50_59 =>
  BND (grd (isB t48_58 true) (some y_40)) fun t51_60 =>
  BND (grd (isB t48_58 true) (iaddr 1 t50_59 t51_60)) fun t52_61 =>
  BND (grd (isB t48_58 true) (some L_p0)) fun t54_62 =>
  BND (grd (isB t48_58 true) (some i_p1)) fun t55_63 =>
  BND (grd (isB t48_58 true) (iaddr 1 t54_62 t55_63)) fun t56_64 =>
  BND (grd (isB t48_58 true) (load1 w5.drew t52_61)) fun t53_65 =>
  BND (grd (isB t48_58 true) (load1 w5.drew t56_64)) fun t57_66 =>
  GEF (isB t48_58 true) (fun k_ => CALL PR F_cmp_Less_string [t53_65, t57_66] w5.drew k_) w5.drew fun t58_67 w6 =>
  BND (grd (isB t48_58 true) (unv .not t58_67)) fun t59_68 =>
  BND (pickv t48_58 t59_68 (Value.bool false)) fun t60_69 =>
  COND t60_69
  (BND (binv .int .sub y_40 (Value.int .i64 1)) fun t62_70 =>
  (J_39 t62_70 w6 ∧ m_39 t62_70 w6 < m_39 y_40 w5))
  (BND (binv .int .gtr a_10 y_40) fun t65_71 =>
  COND t65_71
  (BND (iaddr 1 L_p0 i_p1) fun t72_72 =>
  BND (iaddr 1 L_p0 y_40) fun t76_73 =>
  BND (load1 w6.drew t72_72) fun t73_74 =>
  BND (load1 w6.drew t76_73) fun t77_75 =>
  BND (iaddr 1 L_p0 y_40) fun t78_76 =>
  BND (storev 1 w6.drew t78_76 t73_74) fun w7 =>
  BND (iaddr 1 L_p0 i_p1) fun t79_77 =>
  BND (storev 1 w7 t79_77 t77_75) fun w8 =>
  R (.tuple #[y_40, (Value.bool true)]) w8)
  (BND (iaddr 1 L_p0 y_40) fun t87_78 =>
  BND (iaddr 1 L_p0 a_10) fun t91_79 =>
  BND (load1 w6.drew t87_78) fun t88_80 =>
  BND (load1 w6.drew t91_79) fun t92_81 =>
  BND (iaddr 1 L_p0 a_10) fun t93_82 =>
  BND (storev 1 w6.drew t93_82 t88_80) fun w9 =>
  BND (iaddr 1 L_p0 y_40) fun t94_83 =>
  BND (storev 1 w9 t94_83 t92_81) fun w10 =>
  BND (binv .int .add a_10 (Value.int .i64 1)) fun t96_84 =>
  BND (binv .int .sub y_40 (Value.int .i64 1)) fun t98_85 =>
  ∃ (J_86 : Value → Value → World → Prop) (m_86 : Value → Value → World → Nat), J_86 t96_84 t98_85 w10 ∧ ∀ (_d_86 : Env) (a_87 y_88 : Value) (w11 : World), J_86 a_87 y_88 w11 →
  (∃ (J_143 : Value → World → Prop) (m_143 : Value → World → Nat), J_143 a_87 w11 ∧ ∀ (_d_143 : Env) (a_144 : Value) (w12 : World), J_143 a_144 w12 →
  (BND (binv .int .leq a_144 y_88) fun t101_161 =>
  BND (grd (isB t101_161 true) (some L_p0)) fun t103_162 =>
  BND (grd (isB t101_161 true) (some a_144)) fun t104_163 =>
  BND (grd (isB t101_161 true) (iaddr 1 t103_162 t104_163)) fun t105_164 =>
  BND (grd (isB t101_161 true) (some L_p0)) fun t107_165 =>
  BND (grd (isB t101_161 true) (some i_p1)) fun t108_166 =>
  BND (grd (isB t101_161 true) (iaddr 1 t107_165 t108_166)) fun t109_167 =>
  BND (grd (isB t101_161 true) (load1 w12.drew t105_164)) fun t106_168 =>
  BND (grd (isB t101_161 true) (load1 w12.drew t109_167)) fun t110_169 =>
  GEF (isB t101_161 true) (fun k_ => CALL PR F_cmp_Less_string [t106_168, t110_169] w12.drew k_) w12.drew fun t111_170 w13 =>
  BND (pickv t101_161 t111_170 (Value.bool false)) fun t112_171 =>
  COND t112_171
  (BND (binv .int .add a_144 (Value.int .i64 1)) fun t114_172 =>
  (J_143 t114_172 w13 ∧ m_143 t114_172 w13 < m_143 a_144 w12))
  (∃ (J_173 : Value → World → Prop) (m_173 : Value → World → Nat), J_173 y_88 w13 ∧ ∀ (_d_173 : Env) (y_174 : Value) (w14 : World), J_173 y_174 w14 →
  (BND (binv .int .leq a_144 y_174) fun t117_192 =>
  BND (grd (isB t117_192 true) (some L_p0)) fun t119_193 =>
  BND (grd (isB t117_192 true) (some y_174)) fun t120_194 =>
  BND (grd (isB t117_192 true) (iaddr 1 t119_193 t120_194)) fun t121_195 =>
  BND (grd (isB t117_192 true) (some L_p0)) fun t123_196 =>
  BND (grd (isB t117_192 true) (some i_p1)) fun t124_197 =>
  BND (grd (isB t117_192 true) (iaddr 1 t123_196 t124_197)) fun t125_198 =>
  BND (grd (isB t117_192 true) (load1 w14.drew t121_195)) fun t122_199 =>
  BND (grd (isB t117_192 true) (load1 w14.drew t125_198)) fun t126_200 =>
  GEF (isB t117_192 true) (fun k_ => CALL PR F_cmp_Less_string [t122_199, t126_200] w14.drew k_) w14.drew fun t127_201 w15 =>
  BND (grd (isB t117_192 true) (unv .not t127_201)) fun t128_202 =>
  BND (pickv t117_192 t128_202 (Value.bool false)) fun t129_203 =>
  COND t129_203
  (BND (binv .int .sub y_174 (Value.int .i64 1)) fun t131_204 =>
  (J_173 t131_204 w15 ∧ m_173 t131_204 w15 < m_173 y_174 w14))
  (BND (binv .int .gtr a_144 y_174) fun t134_205 =>
  COND t134_205
  (BND (iaddr 1 L_p0 i_p1) fun t159_206 =>
  BND (iaddr 1 L_p0 y_174) fun t163_207 =>
  BND (load1 w15.drew t159_206) fun t160_208 =>
  BND (load1 w15.drew t163_207) fun t164_209 =>
  BND (iaddr 1 L_p0 y_174) fun t165_210 =>
  BND (storev 1 w15.drew t165_210 t160_208) fun w16 =>
  BND (iaddr 1 L_p0 i_p1) fun t166_211 =>
  BND (storev 1 w16 t166_211 t164_209) fun w17 =>
  R (.tuple #[y_174, (Value.bool false)]) w17)
  (BND (iaddr 1 L_p0 y_174) fun t141_212 =>
  BND (iaddr 1 L_p0 a_144) fun t145_213 =>
  BND (load1 w15.drew t141_212) fun t142_214 =>
  BND (load1 w15.drew t145_213) fun t146_215 =>
  BND (iaddr 1 L_p0 a_144) fun t147_216 =>
  BND (storev 1 w15.drew t147_216 t142_214) fun w18 =>
  BND (iaddr 1 L_p0 y_174) fun t148_217 =>
  BND (storev 1 w18 t148_217 t146_215) fun w19 =>
  BND (binv .int .add a_144 (Value.int .i64 1)) fun t150_218 =>
  BND (binv .int .sub y_174 (Value.int .i64 1)) fun t152_219 =>
  (J_86 t150_218 t152_219 w19 ∧ m_86 t150_218 t152_219 w19 < m_86 a_87 y_88 w11))))))))))))
def ann_slices_partitionOrdered_string : List (Nat × List Nat) := [(1, [0, 1, 2, 3, 4, 5, 6, 8, 9, 10, 7, 11, 12, 13, 14, 15]), (3, [0, 1, 2, 3, 4, 5, 6, 8, 9, 10, 7, 11, 12, 13]), (5, [0, 1, 2, 3, 4, 5, 6, 8, 9, 10, 7, 11, 12, 13, 14]), (8, [0, 1, 2, 3, 4, 5, 6, 8, 9, 10, 7, 11, 12, 13, 14, 15]), (10, [0, 1, 2, 3, 4, 5, 6, 8, 9, 10, 7, 11, 12, 13, 14, 15]), (13, [0, 1, 2, 3, 4, 5, 6, 8, 9, 10, 7, 11, 12, 13]), (15, [0, 1, 2, 3, 4, 5, 6, 8, 9, 10, 7, 11, 12, 13, 14]), (18, [0, 1, 2, 3, 4, 5, 6, 8, 9, 10, 7, 11, 12, 13, 14, 15]), (21, [0, 1, 2, 3, 4, 5, 6, 8, 9, 10, 7, 11, 12, 13, 14, 15]), (1000003, [10]), (1000005, [11]), (1000013, [10]), (1000015, [11]), (1100013, [10, 11])]
theorem E_slices_partitionOrdered_string (L_p0 i_p1 s_p2 t_p3 : Value) (w : World) (R : Value → World → Prop) : M_slices_partitionOrdered_string L_p0 i_p1 s_p2 t_p3 w R = den PR ann_slices_partitionOrdered_string (bodyOf Try.f73) (retQ PR Try.f73.results.toList R) (env0 [L_p0, i_p1, s_p2, t_p3]) w := by kernel_rfl
theorem C_slices_partitionOrdered_string {L_p0 i_p1 s_p2 t_p3 : Value} {w : World} {R : Value → World → Prop} (h : M_slices_partitionOrdered_string L_p0 i_p1 s_p2 t_p3 w R) : CALL PR F_slices_partitionOrdered_string [L_p0, i_p1, s_p2, t_p3] w R :=
  call_of_den2 ann_slices_partitionOrdered_string Try.func73 (by kernel_rfl) (by kernel_rfl) (by kernel_rfl) ((E_slices_partitionOrdered_string L_p0 i_p1 s_p2 t_p3 w R) ▸ h)


-- 74 math.bits.Len32
def M_math_bits_Len32 (x_p0 : Value) (w : World) (R : Value → World → Prop) : Prop :=
  BND (binv .int .geq x_p0 (Value.int .u32 65536)) fun t4_1 =>
  JOIN (α := Value → Value → World → Prop) (fun k_20 => COND t4_1
  (BND (shiftv .shr x_p0 (Value.int .u64 16)) fun t6_21 =>
  k_20 t6_21 (Value.int .i64 16) w)
  (k_20 x_p0 (Value.int .i64 0) w))
  (fun x_2 n_3 w1 => BND (binv .int .geq x_2 (Value.int .u32 256)) fun t8_6 =>
  JOIN (α := Value → Value → World → Prop) (fun k_17 => COND t8_6
  (BND (shiftv .shr x_2 (Value.int .u64 8)) fun t10_18 =>
  BND (binv .int .add n_3 (Value.int .i64 8)) fun t12_19 =>
  k_17 t10_18 t12_19 w1)
  (k_17 x_2 n_3 w1))
  (fun x_7 n_8 w2 => BND (convi .u8 x_7) fun t15_13 =>
  BND (indexs (Value.string { data := (List.toArray (List.append (List.append [0, 1, 2, 2, 3, 3, 3, 3, 4, 4, 4, 4, 4, 4, 4, 4, 5, 5, 5, 5, 5, 5, 5, 5, 5, 5, 5, 5, 5, 5, 5, 5, 6, 6, 6, 6, 6, 6, 6, 6, 6, 6, 6, 6, 6, 6, 6, 6, 6, 6, 6, 6, 6, 6, 6, 6, 6, 6, 6, 6, 6, 6, 6, 6] [7, 7, 7, 7, 7, 7, 7, 7, 7, 7, 7, 7, 7, 7, 7, 7, 7, 7, 7, 7, 7, 7, 7, 7, 7, 7, 7, 7, 7, 7, 7, 7, 7, 7, 7, 7, 7, 7, 7, 7, 7, 7, 7, 7, 7, 7, 7, 7, 7, 7, 7, 7, 7, 7, 7, 7, 7, 7, 7, 7, 7, 7, 7, 7]) (List.append [8, 8, 8, 8, 8, 8, 8, 8, 8, 8, 8, 8, 8, 8, 8, 8, 8, 8, 8, 8, 8, 8, 8, 8, 8, 8, 8, 8, 8, 8, 8, 8, 8, 8, 8, 8, 8, 8, 8, 8, 8, 8, 8, 8, 8, 8, 8, 8, 8, 8, 8, 8, 8, 8, 8, 8, 8, 8, 8, 8, 8, 8, 8, 8] [8, 8, 8, 8, 8, 8, 8, 8, 8, 8, 8, 8, 8, 8, 8, 8, 8, 8, 8, 8, 8, 8, 8, 8, 8, 8, 8, 8, 8, 8, 8, 8, 8, 8, 8, 8, 8, 8, 8, 8, 8, 8, 8, 8, 8, 8, 8, 8, 8, 8, 8, 8, 8, 8, 8, 8, 8, 8, 8, 8, 8, 8, 8, 8]))) }) t15_13) fun t16_14 =>
  BND (convi .i64 t16_14) fun t17_15 =>
  BND (binv .int .add n_8 t17_15) fun t18_16 =>
  R t18_16 w2))
def ann_math_bits_Len32 : List (Nat × List Nat) := []
theorem E_math_bits_Len32 (x_p0 : Value) (w : World) (R : Value → World → Prop) : M_math_bits_Len32 x_p0 w R = den PR ann_math_bits_Len32 (bodyOf Try.f74) (retQ PR Try.f74.results.toList R) (env0 [x_p0]) w := by kernel_rfl
theorem C_math_bits_Len32 {x_p0 : Value} {w : World} {R : Value → World → Prop} (h : M_math_bits_Len32 x_p0 w R) : CALL PR F_math_bits_Len32 [x_p0] w R :=
  call_of_den2 ann_math_bits_Len32 Try.func74 (by kernel_rfl) (by kernel_rfl) (by kernel_rfl) ((E_math_bits_Len32 x_p0 w R) ▸ h)


-- 75 math.bits.Len64
def M_math_bits_Len64 (x_p0 : Value) (w : World) (R : Value → World → Prop) : Prop :=
  BND (binv .int .geq x_p0 (Value.int .u64 4294967296)) fun t4_1 =>
  JOIN (α := Value → Value → World → Prop) (fun k_30 => COND t4_1
  (BND (shiftv .shr x_p0 (Value.int .u64 32)) fun t6_31 =>
  k_30 t6_31 (Value.int .i64 32) w)
  (k_30 x_p0 (Value.int .i64 0) w))
  (fun x_2 n_3 w1 => BND (binv .int .geq x_2 (Value.int .u64 65536)) fun t8_6 =>
  JOIN (α := Value → Value → World → Prop) (fun k_27 => COND t8_6
  (BND (shiftv .shr x_2 (Value.int .u64 16)) fun t10_28 =>
  BND (binv .int .add n_3 (Value.int .i64 16)) fun t12_29 =>
  k_27 t10_28 t12_29 w1)
  (k_27 x_2 n_3 w1))
  (fun x_7 n_8 w2 => BND (binv .int .geq x_7 (Value.int .u64 256)) fun t14_13 =>
  JOIN (α := Value → Value → World → Prop) (fun k_24 => COND t14_13
  (BND (shiftv .shr x_7 (Value.int .u64 8)) fun t16_25 =>
  BND (binv .int .add n_8 (Value.int .i64 8)) fun t18_26 =>
  k_24 t16_25 t18_26 w2)
  (k_24 x_7 n_8 w2))
  (fun x_14 n_15 w3 => BND (convi .u8 x_14) fun t21_20 =>
  BND (indexs (Value.string { data := (List.toArray (List.append (List.append [0, 1, 2, 2, 3, 3, 3, 3, 4, 4, 4, 4, 4, 4, 4, 4, 5, 5, 5, 5, 5, 5, 5, 5, 5, 5, 5, 5, 5, 5, 5, 5, 6, 6, 6, 6, 6, 6, 6, 6, 6, 6, 6, 6, 6, 6, 6, 6, 6, 6, 6, 6, 6, 6, 6, 6, 6, 6, 6, 6, 6, 6, 6, 6] [7, 7, 7, 7, 7, 7, 7, 7, 7, 7, 7, 7, 7, 7, 7, 7, 7, 7, 7, 7, 7, 7, 7, 7, 7, 7, 7, 7, 7, 7, 7, 7, 7, 7, 7, 7, 7, 7, 7, 7, 7, 7, 7, 7, 7, 7, 7, 7, 7, 7, 7, 7, 7, 7, 7, 7, 7, 7, 7, 7, 7, 7, 7, 7]) (List.append [8, 8, 8, 8, 8, 8, 8, 8, 8, 8, 8, 8, 8, 8, 8, 8, 8, 8, 8, 8, 8, 8, 8, 8, 8, 8, 8, 8, 8, 8, 8, 8, 8, 8, 8, 8, 8, 8, 8, 8, 8, 8, 8, 8, 8, 8, 8, 8, 8, 8, 8, 8, 8, 8, 8, 8, 8, 8, 8, 8, 8, 8, 8, 8] [8, 8, 8, 8, 8, 8, 8, 8, 8, 8, 8, 8, 8, 8, 8, 8, 8, 8, 8, 8, 8, 8, 8, 8, 8, 8, 8, 8, 8, 8, 8, 8, 8, 8, 8, 8, 8, 8, 8, 8, 8, 8, 8, 8, 8, 8, 8, 8, 8, 8, 8, 8, 8, 8, 8, 8, 8, 8, 8, 8, 8, 8, 8, 8]))) }) t21_20) fun t22_21 =>
  BND (convi .i64 t22_21) fun t23_22 =>
  BND (binv .int .add n_15 t23_22) fun t24_23 =>
  R t24_23 w3)))
def ann_math_bits_Len64 : List (Nat × List Nat) := []
theorem E_math_bits_Len64 (x_p0 : Value) (w : World) (R : Value → World → Prop) : M_math_bits_Len64 x_p0 w R = den PR ann_math_bits_Len64 (bodyOf Try.f75) (retQ PR Try.f75.results.toList R) (env0 [x_p0]) w := by kernel_rfl
theorem C_math_bits_Len64 {x_p0 : Value} {w : World} {R : Value → World → Prop} (h : M_math_bits_Len64 x_p0 w R) : CALL PR F_math_bits_Len64 [x_p0] w R :=
  call_of_den2 ann_math_bits_Len64 Try.func75 (by kernel_rfl) (by kernel_rfl) (by kernel_rfl) ((E_math_bits_Len64 x_p0 w R) ▸ h)


-- 76 slices.siftDownOrdered[string]
def M_slices_siftDownOrdered_string (L_p0 i_p1 s_p2 t_p3 : Value) (w : World) (R : Value → World → Prop) : Prop :=
  ∃ (J_1 : Value → World → Prop) (m_1 : Value → World → Nat), J_1 i_p1 w ∧ ∀ (_d_1 : Env) (r_2 : Value) (w1 : World), J_1 r_2 w1 →
  (BND (binv .int .mul (Value.int .i64 2) r_2) fun t12_69 =>
  BND (binv .int .add t12_69 (Value.int .i64 1)) fun t13_70 =>
  BND (binv .int .geq t13_70 s_p2) fun t16_71 =>
  COND t16_71
  (R (.tuple #[]) w1)
  (BND (binv .int .add t13_70 (Value.int .i64 1)) fun t18_72 =>
  BND (binv .int .lss t18_72 s_p2) fun t20_73 =>
  BND (grd (isB t20_73 true) (some L_p0)) fun t22_74 =>
  BND (grd (isB t20_73 true) (some t_p3)) fun t23_75 =>
  BND (grd (isB t20_73 true) (some t13_70)) fun t24_76 =>
  BND (grd (isB t20_73 true) (binv .int .add t23_75 t24_76)) fun t25_77 =>
  BND (grd (isB t20_73 true) (iaddr 1 t22_74 t25_77)) fun t26_78 =>
  BND (grd (isB t20_73 true) (some L_p0)) fun t28_79 =>
  BND (grd (isB t20_73 true) (some t_p3)) fun t29_80 =>
  BND (grd (isB t20_73 true) (some t13_70)) fun t30_81 =>
  BND (grd (isB t20_73 true) (binv .int .add t29_80 t30_81)) fun t31_82 =>
  BND (grd (isB t20_73 true) (binv .int .add t31_82 (Value.int .i64 1))) fun t32_83 =>
  BND (grd (isB t20_73 true) (iaddr 1 t28_79 t32_83)) fun t33_84 =>
  BND (grd (isB t20_73 true) (load1 w1.drew t26_78)) fun t27_85 =>
  BND (grd (isB t20_73 true) (load1 w1.drew t33_84)) fun t34_86 =>
  GEF (isB t20_73 true) (fun k_ => CALL PR F_cmp_Less_string [t27_85, t34_86] w1.drew k_) w1.drew fun t35_87 w2 =>
  BND (pickv t20_73 t35_87 (Value.bool false)) fun t36_88 =>
  JOIN (α := Value → World → Prop) (fun k_110 => COND t36_88
  (BND (binv .int .add t13_70 (Value.int .i64 1)) fun t38_111 =>
  k_110 t38_111 w2)
  (k_110 t13_70 w2))
  (fun r_89 w3 => BND (binv .int .add t_p3 r_2) fun t42_92 =>
  BND (iaddr 1 L_p0 t42_92) fun t43_93 =>
  BND (binv .int .add t_p3 r_89) fun t48_94 =>
  BND (iaddr 1 L_p0 t48_94) fun t49_95 =>
  BND (load1 w3.drew t43_93) fun t44_96 =>
  BND (load1 w3.drew t49_95) fun t50_97 =>
  CALL PR F_cmp_Less_string [t44_96, t50_97] w3.drew fun t51_98 w4 =>
  BND (unv .not t51_98) fun t52_99 =>
  COND t52_99
  (R (.tuple #[]) w4)
  (BND (binv .int .add t_p3 r_2) fun t56_100 =>
  BND (binv .int .add t_p3 r_89) fun t60_101 =>
  BND (binv .int .add t_p3 r_89) fun t64_102 =>
  BND (iaddr 1 L_p0 t64_102) fun t65_103 =>
  BND (binv .int .add t_p3 r_2) fun t70_104 =>
  BND (iaddr 1 L_p0 t70_104) fun t71_105 =>
  BND (load1 w4.drew t65_103) fun t66_106 =>
  BND (load1 w4.drew t71_105) fun t72_107 =>
  BND (iaddr 1 L_p0 t56_100) fun t73_108 =>
  BND (storev 1 w4.drew t73_108 t66_106) fun w5 =>
  BND (iaddr 1 L_p0 t60_101) fun t74_109 =>
  BND (storev 1 w5 t74_109 t72_107) fun w6 =>
  (J_1 r_89 w6 ∧ m_1 r_89 w6 < m_1 r_2 w1)))))
def ann_slices_siftDownOrdered_string : List (Nat × List Nat) := [(3, [0, 1, 2, 3, 4, 5, 6, 7, 8, 9, 11, 12, 13, 14, 15, 16, 10, 17, 18, 19]), (5, [0, 1, 2, 3, 4, 6, 7, 8, 9, 10, 5, 11, 12, 13]), (6, [0, 1, 2, 3, 4, 5, 6, 7, 8, 9, 10, 11, 12, 14, 15, 16, 17, 18, 13, 19, 20, 21, 22, 23]), (1000001, [8])]
theorem E_slices_siftDownOrdered_string (L_p0 i_p1 s_p2 t_p3 : Value) (w : World) (R : Value → World → Prop) : M_slices_siftDownOrdered_string L_p0 i_p1 s_p2 t_p3 w R = den PR ann_slices_siftDownOrdered_string (bodyOf Try.f76) (retQ PR Try.f76.results.toList R) (env0 [L_p0, i_p1, s_p2, t_p3]) w := by kernel_rfl
theorem C_slices_siftDownOrdered_string {L_p0 i_p1 s_p2 t_p3 : Value} {w : World} {R : Value → World → Prop} (h : M_slices_siftDownOrdered_string L_p0 i_p1 s_p2 t_p3 w R) : CALL PR F_slices_siftDownOrdered_string [L_p0, i_p1, s_p2, t_p3] w R :=
  call_of_den2 ann_slices_siftDownOrdered_string Try.func76 (by kernel_rfl) (by kernel_rfl) (by kernel_rfl) ((E_slices_siftDownOrdered_string L_p0 i_p1 s_p2 t_p3 w R) ▸ h)


-- 77 slices.nextPowerOfTwo
def M_slices_nextPowerOfTwo (length_p0 : Value) (w : World) (R : Value → World → Prop) : Prop :=
  BND (convi .u64 length_p0) fun t4_1 =>
  CALL PR F_math_bits_Len [t4_1] w fun t5_2 w1 =>
  BND (shiftv .shl (Value.int .u64 1) t5_2) fun t6_3 =>
  R t6_3 w1
def ann_slices_nextPowerOfTwo : List (Nat × List Nat) := []
theorem E_slices_nextPowerOfTwo (length_p0 : Value) (w : World) (R : Value → World → Prop) : M_slices_nextPowerOfTwo length_p0 w R = den PR ann_slices_nextPowerOfTwo (bodyOf Try.f77) (retQ PR Try.f77.results.toList R) (env0 [length_p0]) w := by kernel_rfl
theorem C_slices_nextPowerOfTwo {length_p0 : Value} {w : World} {R : Value → World → Prop} (h : M_slices_nextPowerOfTwo length_p0 w R) : CALL PR F_slices_nextPowerOfTwo [length_p0] w R :=
  call_of_den2 ann_slices_nextPowerOfTwo Try.func77 (by kernel_rfl) (by kernel_rfl) (by kernel_rfl) ((E_slices_nextPowerOfTwo length_p0 w R) ▸ h)


-- 78 (*slices.xorshift).Next
def M_slices_xorshift_Next (r_p0 : Value) (w : World) (R : Value → World → Prop) : Prop :=
  BND (nilchk r_p0) fun t4_1 =>
  BND (nilchk r_p0) fun t7_2 =>
  BND (load1 w.drew t4_1) fun t5_3 =>
  BND (load1 w.drew t7_2) fun t8_4 =>
  BND (shiftv .shl t8_4 (Value.int .u64 13)) fun t9_5 =>
  BND (binv .int .xor t5_3 t9_5) fun t10_6 =>
  BND (nilchk r_p0) fun t11_7 =>
  BND (storev 1 w.drew t11_7 t10_6) fun w1 =>
  BND (nilchk r_p0) fun t13_8 =>
  BND (nilchk r_p0) fun t16_9 =>
  BND (load1 w1.drew t13_8) fun t14_10 =>
  BND (load1 w1.drew t16_9) fun t17_11 =>
  BND (shiftv .shr t17_11 (Value.int .u64 7)) fun t18_12 =>
  BND (binv .int .xor t14_10 t18_12) fun t19_13 =>
  BND (nilchk r_p0) fun t20_14 =>
  BND (storev 1 w1.drew t20_14 t19_13) fun w2 =>
  BND (nilchk r_p0) fun t22_15 =>
  BND (nilchk r_p0) fun t25_16 =>
  BND (load1 w2.drew t22_15) fun t23_17 =>
  BND (load1 w2.drew t25_16) fun t26_18 =>
  BND (shiftv .shl t26_18 (Value.int .u64 17)) fun t27_19 =>
  BND (binv .int .xor t23_17 t27_19) fun t28_20 =>
  BND (nilchk r_p0) fun t29_21 =>
  BND (storev 1 w2.drew t29_21 t28_20) fun w3 =>
  BND (nilchk r_p0) fun t31_22 =>
  BND (load1 w3 t31_22) fun t32_23 =>
  R t32_23 w3
def ann_slices_xorshift_Next : List (Nat × List Nat) := [(1, [0, 1, 3, 4, 2, 5, 6, 7, 8, 9]), (2, [0, 1, 3, 4, 2, 5, 6, 7, 8, 9]), (3, [0, 1, 3, 4, 2, 5, 6, 7, 8, 9])]
theorem E_slices_xorshift_Next (r_p0 : Value) (w : World) (R : Value → World → Prop) : M_slices_xorshift_Next r_p0 w R = den PR ann_slices_xorshift_Next (bodyOf Try.f78) (retQ PR Try.f78.results.toList R) (env0 [r_p0]) w := by kernel_rfl
theorem C_slices_xorshift_Next {r_p0 : Value} {w : World} {R : Value → World → Prop} (h : M_slices_xorshift_Next r_p0 w R) : CALL PR F_slices_xorshift_Next [r_p0] w R :=
  call_of_den2 ann_slices_xorshift_Next Try.func78 (by kernel_rfl) (by kernel_rfl) (by kernel_rfl) ((E_slices_xorshift_Next r_p0 w R) ▸ h)


-- 79 slices.medianAdjacentOrdered[string]
def M_slices_medianAdjacentOrdered_string (data_p0 a_p1 swaps_p2 : Value) (w : World) (R : Value → World → Prop) : Prop :=
  BND (binv .int .sub a_p1 (Value.int .i64 1)) fun t9_1 =>
  BND (binv .int .add a_p1 (Value.int .i64 1)) fun t12_2 =>
  CALL PR F_slices_medianOrdered_string [data_p0, t9_1, a_p1, t12_2, swaps_p2] w fun t14_3 w1 =>
  R t14_3 w1
def ann_slices_medianAdjacentOrdered_string : List (Nat × List Nat) := []
theorem E_slices_medianAdjacentOrdered_string (data_p0 a_p1 swaps_p2 : Value) (w : World) (R : Value → World → Prop) : M_slices_medianAdjacentOrdered_string data_p0 a_p1 swaps_p2 w R = den PR ann_slices_medianAdjacentOrdered_string (bodyOf Try.f79) (retQ PR Try.f79.results.toList R) (env0 [data_p0, a_p1, swaps_p2]) w := by kernel_rfl
theorem C_slices_medianAdjacentOrdered_string {data_p0 a_p1 swaps_p2 : Value} {w : World} {R : Value → World → Prop} (h : M_slices_medianAdjacentOrdered_string data_p0 a_p1 swaps_p2 w R) : CALL PR F_slices_medianAdjacentOrdered_string [data_p0, a_p1, swaps_p2] w R :=
  call_of_den2 ann_slices_medianAdjacentOrdered_string Try.func79 (by kernel_rfl) (by kernel_rfl) (by kernel_rfl) ((E_slices_medianAdjacentOrdered_string data_p0 a_p1 swaps_p2 w R) ▸ h)


-- 80 slices.medianOrdered[string]
def M_slices_medianOrdered_string (data_p0 a_p1 b_p2 c_p3 swaps_p4 : Value) (w : World) (R : Value → World → Prop) : Prop :=
  CALL PR F_slices_order2Ordered_string [data_p0, a_p1, b_p2, swaps_p4] w fun t16_1 w1 =>
  BND (extractv t16_1 0) fun t17_2 =>
  BND (extractv t16_1 1) fun t18_3 =>
  CALL PR F_slices_order2Ordered_string [data_p0, t18_3, c_p3, swaps_p4] w1 fun t24_4 w2 =>
  BND (extractv t24_4 0) fun t25_5 =>
  BND (extractv t24_4 1) fun t26_6 =>
  CALL PR F_slices_order2Ordered_string [data_p0, t17_2, t25_5, swaps_p4] w2 fun t32_7 w3 =>
  BND (extractv t32_7 0) fun t33_8 =>
  BND (extractv t32_7 1) fun t34_9 =>
  R t34_9 w3
def ann_slices_medianOrdered_string : List (Nat × List Nat) := []
theorem E_slices_medianOrdered_string (data_p0 a_p1 b_p2 c_p3 swaps_p4 : Value) (w : World) (R : Value → World → Prop) : M_slices_medianOrdered_string data_p0 a_p1 b_p2 c_p3 swaps_p4 w R = den PR ann_slices_medianOrdered_string (bodyOf Try.f80) (retQ PR Try.f80.results.toList R) (env0 [data_p0, a_p1, b_p2, c_p3, swaps_p4]) w := by kernel_rfl
theorem C_slices_medianOrdered_string {data_p0 a_p1 b_p2 c_p3 swaps_p4 : Value} {w : World} {R : Value → World → Prop} (h : M_slices_medianOrdered_string data_p0 a_p1 b_p2 c_p3 swaps_p4 w R) : CALL PR F_slices_medianOrdered_string [data_p0, a_p1, b_p2, c_p3, swaps_p4] w R :=
  call_of_den2 ann_slices_medianOrdered_string Try.func80 (by kernel_rfl) (by kernel_rfl) (by kernel_rfl) ((E_slices_medianOrdered_string data_p0 a_p1 b_p2 c_p3 swaps_p4 w R) ▸ h)


-- 81 cmp.isNaN[string]
def M_cmp_isNaN_string (x_p0 : Value) (w : World) (R : Value → World → Prop) : Prop :=
  BND (binv .str .neq x_p0 x_p0) fun t5_1 =>
  R t5_1 w
def ann_cmp_isNaN_string : List (Nat × List Nat) := []
theorem E_cmp_isNaN_string (x_p0 : Value) (w : World) (R : Value → World → Prop) : M_cmp_isNaN_string x_p0 w R = den PR ann_cmp_isNaN_string (bodyOf Try.f81) (retQ PR Try.f81.results.toList R) (env0 [x_p0]) w := by kernel_rfl
theorem C_cmp_isNaN_string {x_p0 : Value} {w : World} {R : Value → World → Prop} (h : M_cmp_isNaN_string x_p0 w R) : CALL PR F_cmp_isNaN_string [x_p0] w R :=
  call_of_den2 ann_cmp_isNaN_string Try.func81 (by kernel_rfl) (by kernel_rfl) (by kernel_rfl) ((E_cmp_isNaN_string x_p0 w R) ▸ h)


-- 82 slices.order2Ordered[string]
def M_slices_order2Ordered_string (data_p0 a_p1 b_p2 swaps_p3 : Value) (w : World) (R : Value → World → Prop) : Prop :=
  BND (iaddr 1 data_p0 b_p2) fun t12_1 =>
  BND (iaddr 1 data_p0 a_p1) fun t16_2 =>
  BND (load1 w.drew t12_1) fun t13_3 =>
  BND (load1 w.drew t16_2) fun t17_4 =>
  CALL PR F_cmp_Less_string [t13_3, t17_4] w.drew fun t18_5 w1 =>
  COND t18_5
  (BND (nilchk swaps_p3) fun t20_6 =>
  BND (load1 w1 t20_6) fun t21_7 =>
  BND (binv .int .add t21_7 (Value.int .i64 1)) fun t22_8 =>
  BND (nilchk swaps_p3) fun t23_9 =>
  BND (storev 1 w1 t23_9 t22_8) fun w2 =>
  R (.tuple #[b_p2, a_p1]) w2)
  (R (.tuple #[a_p1, b_p2]) w1)
def ann_slices_order2Ordered_string : List (Nat × List Nat) := [(1, [0, 1, 2, 4, 5, 6, 3, 7, 8])]
theorem E_slices_order2Ordered_string (data_p0 a_p1 b_p2 swaps_p3 : Value) (w : World) (R : Value → World → Prop) : M_slices_order2Ordered_string data_p0 a_p1 b_p2 swaps_p3 w R = den PR ann_slices_order2Ordered_string (bodyOf Try.f82) (retQ PR Try.f82.results.toList R) (env0 [data_p0, a_p1, b_p2, swaps_p3]) w := by kernel_rfl
theorem C_slices_order2Ordered_string {data_p0 a_p1 b_p2 swaps_p3 : Value} {w : World} {R : Value → World → Prop} (h : M_slices_order2Ordered_string data_p0 a_p1 b_p2 swaps_p3 w R) : CALL PR F_slices_order2Ordered_string [data_p0, a_p1, b_p2, swaps_p3] w R :=
  call_of_den2 ann_slices_order2Ordered_string Try.func82 (by kernel_rfl) (by kernel_rfl) (by kernel_rfl) ((E_slices_order2Ordered_string data_p0 a_p1 b_p2 swaps_p3 w R) ▸ h)

end Go.Proofs.Ytpefokoiioeomaa
