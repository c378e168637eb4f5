/- Printed by denprint.py: the Go function as a predicate, and that it stands for the call. No condition. -/
import Derived.Test.YtofllgbdphakiaaGreatDoorGf
set_option maxRecDepth 100000
set_option linter.unusedVariables false
namespace Go.Proofs.YtofllgbdphakiaaGreatDoor
open Go.Den
-- 3 tumbrel.tumbrellaw15.SeglogSure
def M_tumbrellaw15_SeglogSure (seg_p0 size_p1 l_p2 more_p3 open_p4 tails_p5 : Value) (w : World) (R : Value → World → Prop) : Prop :=
  CALL PR F_tumbrellaw15_awake [] w fun t25_1 w1 =>
  BND (unv .not t25_1) fun t26_2 =>
  COND t26_2
  (R (Value.bool false) w1)
  (CALL PR F_tumbrellaw15_full [seg_p0, size_p1, l_p2] w1 fun t31_3 w2 =>
  BND (extractv t31_3 0) fun t32_4 =>
  BND (extractv t31_3 1) fun t33_5 =>
  BND (extractv t31_3 2) fun t34_6 =>
  BND (extractv t31_3 3) fun t35_7 =>
  BND (unv .not t35_7) fun t37_8 =>
  BND (grd (isB t37_8 false) (some more_p3)) fun t39_9 =>
  BND (grd (isB t37_8 false) (lenl t39_9)) fun t40_10 =>
  BND (grd (isB t37_8 false) (binv .int .gtr t40_10 (Value.int .i64 50))) fun t41_11 =>
  BND (pickv t37_8 (Value.bool true) t41_11) fun t42_12 =>
  BND (grd (isB t42_12 false) (some tails_p5)) fun t44_13 =>
  BND (grd (isB t42_12 false) (lenl t44_13)) fun t45_14 =>
  BND (grd (isB t42_12 false) (binv .int .gtr t45_14 (Value.int .i64 100))) fun t46_15 =>
  BND (pickv t42_12 (Value.bool true) t46_15) fun t47_16 =>
  COND t47_16
  (R (Value.bool true) w2)
  (CALL PR F_seglog_Log_Sync [t33_5] w2 fun t49_17 w3 =>
  BND (binv .int .neq t49_17 (Value.int .i64 0)) fun t50_18 =>
  COND t50_18
  (R (Value.bool false) w3)
  (CALL PR F_seglog_Log_End [t33_5] w3 fun t53_19 w4 =>
  BND (extractv t53_19 0) fun t54_20 =>
  BND (extractv t53_19 1) fun t55_21 =>
  BND (lenl more_p3) fun t57_22 =>
  ∃ (J_23 : Value → World → Prop) (m_23 : Value → World → Nat), J_23 (Value.int .i64 0) w4 ∧ ∀ (_d_23 : Env) (t58_26 : Value) (w5 : World), J_23 t58_26 w5 →
  (BND (binv .int .lss t58_26 t57_22) fun t59_36 =>
  COND t59_36
  (BND (iaddr 3 more_p3 t58_26) fun t60_37 =>
  BND (loadn 3 w5 t60_37) fun t61_38 =>
  NEW (newv 37 w5 (Value.agg #[(Value.int .i64 0), (Value.slice none 0 0), (Value.string ByteArray.empty)])) fun r_39 w6 =>
  BND (storev 3 w6 r_39 t61_38) fun w7 =>
  BND (loadn 3 w7 r_39) fun t62_40 =>
  CALL PR F_tumbrelref05_Large [t62_40] w7 fun t63_41 w8 =>
  COND t63_41
  (R (Value.bool true) w8)
  (BND (loadn 3 w8 r_39) fun t65_42 =>
  CALL PR F_seglog_Log_Append [t33_5, t65_42] w8 fun t66_43 w9 =>
  BND (binv .int .add t58_26 (Value.int .i64 1)) fun t67_44 =>
  (J_23 t67_44 w9 ∧ m_23 t67_44 w9 < m_23 t58_26 w5)))
  (CALL PR F_disk_Disk_Crash [t32_4, open_p4, tails_p5] w5 fun t71_45 w10 =>
  CALL PR F_seglog_Open [t32_4, t54_20, t55_21, size_p1] w10 fun t77_46 w11 =>
  BND (extractv t77_46 0) fun t78_47 =>
  BND (extractv t77_46 1) fun t79_48 =>
  BND (binv .ptr .eql t78_47 (Value.pointer none)) fun t81_49 =>
  BND (grd (isB t81_49 false) (some t79_48)) fun t83_50 =>
  BND (grd (isB t81_49 false) (binv .int .neq t83_50 (Value.int .i64 0))) fun t84_51 =>
  BND (pickv t81_49 (Value.bool true) t84_51) fun t85_52 =>
  COND t85_52
  (R (Value.bool false) w11)
  (CALL PR F_seglog_Log_End [t78_47] w11 fun t88_53 w12 =>
  BND (extractv t88_53 0) fun t89_54 =>
  BND (extractv t88_53 1) fun t90_55 =>
  CALL PR F_tumbrellaw15_there [t78_47, t34_6] w12 fun t93_56 w13 =>
  BND (grd (isB t93_56 true) (some t89_54)) fun t95_57 =>
  BND (grd (isB t93_56 true) (some t54_20)) fun t96_58 =>
  BND (grd (isB t93_56 true) (binv .int .eql t95_57 t96_58)) fun t97_59 =>
  BND (pickv t93_56 t97_59 (Value.bool false)) fun t98_60 =>
  BND (grd (isB t98_60 true) (some t90_55)) fun t100_61 =>
  BND (grd (isB t98_60 true) (some t55_21)) fun t101_62 =>
  BND (grd (isB t98_60 true) (binv .int .eql t100_61 t101_62)) fun t102_63 =>
  BND (pickv t98_60 t102_63 (Value.bool false)) fun t103_64 =>
  R t103_64 w13))))))
def ann_tumbrellaw15_SeglogSure : List (Nat × List Nat) := [(1000010, [58])]
theorem E_tumbrellaw15_SeglogSure (seg_p0 size_p1 l_p2 more_p3 open_p4 tails_p5 : Value) (w : World) (R : Value → World → Prop) : M_tumbrellaw15_SeglogSure seg_p0 size_p1 l_p2 more_p3 open_p4 tails_p5 w R = den PR ann_tumbrellaw15_SeglogSure (bodyOf Tryz.f3) (retQ PR Tryz.f3.results.toList R) (env0 [seg_p0, size_p1, l_p2, more_p3, open_p4, tails_p5]) w := by kernel_rfl
theorem C_tumbrellaw15_SeglogSure {seg_p0 size_p1 l_p2 more_p3 open_p4 tails_p5 : Value} {w : World} {R : Value → World → Prop} (h : M_tumbrellaw15_SeglogSure seg_p0 size_p1 l_p2 more_p3 open_p4 tails_p5 w R) : CALL PR F_tumbrellaw15_SeglogSure [seg_p0, size_p1, l_p2, more_p3, open_p4, tails_p5] w R :=
  call_of_den2 ann_tumbrellaw15_SeglogSure Tryz.func3 (by kernel_rfl) (by kernel_rfl) (by kernel_rfl) ((E_tumbrellaw15_SeglogSure seg_p0 size_p1 l_p2 more_p3 open_p4 tails_p5 w R) ▸ h)
-- 4 tumbrel.tumbrellaw15.SeglogDoes
def M_tumbrellaw15_SeglogDoes (room_p0 seg_p1 size_p2 l_p3 : Value) (w : World) (R : Value → World → Prop) : Prop :=
  CALL PR F_tumbrellaw15_awake [] w fun t23_1 w1 =>
  BND (unv .not t23_1) fun t24_2 =>
  COND t24_2
  (R (Value.bool false) w1)
  (CALL PR F_disk_New [room_p0] w1 fun t27_3 w2 =>
  BND (extractv t27_3 0) fun t28_4 =>
  BND (extractv t27_3 1) fun t29_5 =>
  CALL PR F_tumbrelref06_New [room_p0] w2 fun t32_6 w3 =>
  BND (extractv t32_6 0) fun t33_7 =>
  BND (extractv t32_6 1) fun t34_8 =>
  BND (binv .ptr .eql t28_4 (Value.pointer none)) fun t36_9 =>
  BND (grd (isB t36_9 false) (some t33_7)) fun t38_10 =>
  BND (grd (isB t36_9 false) (binv .ptr .eql t38_10 (Value.pointer none))) fun t39_11 =>
  BND (pickv t36_9 (Value.bool true) t39_11) fun t40_12 =>
  BND (grd (isB t40_12 false) (some l_p3)) fun t42_13 =>
  GEF (isB t40_12 false) (fun k_ => CALL PR F_tumbrellaw15_large [t42_13] w3 k_) w3 fun t43_14 w4 =>
  BND (pickv t40_12 (Value.bool true) t43_14) fun t44_15 =>
  COND t44_15
  (R (Value.bool true) w4)
  (CALL PR F_seglog_Begin [t28_4, seg_p1, size_p2] w4 fun t49_16 w5 =>
  BND (extractv t49_16 0) fun t50_17 =>
  BND (extractv t49_16 1) fun t51_18 =>
  CALL PR F_tumbrelref15_Begin [t33_7, seg_p1, size_p2] w5 fun t56_19 w6 =>
  BND (extractv t56_19 0) fun t57_20 =>
  BND (extractv t56_19 1) fun t58_21 =>
  BND (binv .int .neq t51_18 t58_21) fun t61_22 =>
  BND (grd (isB t61_22 false) (some t50_17)) fun t63_23 =>
  BND (grd (isB t61_22 false) (binv .ptr .eql t63_23 (Value.pointer none))) fun t64_24 =>
  BND (grd (isB t61_22 false) (some t57_20)) fun t65_25 =>
  BND (grd (isB t61_22 false) (binv .ptr .eql t65_25 (Value.pointer none))) fun t66_26 =>
  BND (grd (isB t61_22 false) (binv .bool .neq t64_24 t66_26)) fun t67_27 =>
  BND (pickv t61_22 (Value.bool true) t67_27) fun t68_28 =>
  COND t68_28
  (R (Value.bool false) w6)
  (BND (lenl l_p3) fun t70_29 =>
  ∃ (J_30 : Value → Value → Value → World → Prop) (m_30 : Value → Value → Value → World → Nat), J_30 t50_17 t57_20 (Value.int .i64 0) w6 ∧ ∀ (_d_30 : Env) (a_32 b_33 t71_39 : Value) (w7 : World), J_30 a_32 b_33 t71_39 w7 →
  (BND (binv .int .lss t71_39 t70_29) fun t72_116 =>
  COND t72_116
  (BND (iaddr 8 l_p3 t71_39) fun t73_117 =>
  BND (loadn 8 w7 t73_117) fun t74_118 =>
  NEW (newv 59 w7 (Value.agg #[(Value.int .i64 0), (Value.int .i64 0), (Value.int .u64 0), (Value.int .u64 0), (Value.int .i64 0), (Value.slice none 0 0), (Value.string ByteArray.empty), (Value.slice none 0 0)])) fun x_119 w8 =>
  BND (storev 8 w8 x_119 t74_118) fun w9 =>
  NEW (newv 61 w9 (Value.agg #[(Value.int .i64 0), (Value.int .u64 0), (Value.int .u64 0), (Value.int .i64 0), (Value.slice none 0 0), (Value.string ByteArray.empty), (Value.int .i64 0)])) fun p_120 w10 =>
  NEW (newv 61 w10 (Value.agg #[(Value.int .i64 0), (Value.int .u64 0), (Value.int .u64 0), (Value.int .i64 0), (Value.slice none 0 0), (Value.string ByteArray.empty), (Value.int .i64 0)])) fun q_121 w11 =>
  BND (loadn 8 w11 x_119) fun t78_122 =>
  CALL PR F_tumbrellaw15_do [t28_4, a_32, t78_122, size_p2] w11 fun t80_123 w12 =>
  BND (extractv t80_123 0) fun t81_124 =>
  BND (extractv t80_123 1) fun t82_125 =>
  BND (storev 7 w12 p_120 t82_125) fun w13 =>
  BND (loadn 8 w13 x_119) fun t86_126 =>
  CALL PR F_tumbrellaw15_own [t33_7, b_33, t86_126, size_p2] w13 fun t88_127 w14 =>
  BND (extractv t88_127 0) fun t89_128 =>
  BND (extractv t88_127 1) fun t90_129 =>
  BND (storev 7 w14 q_121 t90_129) fun w15 =>
  ∃ S_130 : Nat → World → Prop,
  S_130 32 w15.drew ∧
  BND (loadn 7 w15.drew p_120) fun t91_131 =>
  BND (loadn 7 w15.drew q_121) fun t92_132 =>
  CALL PR F_tumbrellaw15_alike [t91_131, t92_132] w15.drew fun t93_133 w16 =>
  S_130 32 w16 ∧
  BND (unv .not t93_133) fun t94_134 =>
  BND (grd (isB t94_134 false) (some t81_124)) fun t96_135 =>
  BND (grd (isB t94_134 false) (binv .ptr .eql t96_135 (Value.pointer none))) fun t97_136 =>
  BND (grd (isB t94_134 false) (some t89_128)) fun t98_137 =>
  BND (grd (isB t94_134 false) (binv .ptr .eql t98_137 (Value.pointer none))) fun t99_138 =>
  BND (grd (isB t94_134 false) (binv .bool .neq t97_136 t99_138)) fun t100_139 =>
  BND (pickv t94_134 (Value.bool true) t100_139) fun t101_140 =>
  BND (grd (isB t101_140 false) (some t28_4)) fun t103_141 =>
  BND (grd (isB t101_140 false) (some t33_7)) fun t105_142 =>
  GEF (isB t101_140 false) (fun k_ => CALL PR F_disk_Disk_Names [t103_141] w16 k_) w16 fun t104_143 w17 =>
  S_130 32 w17 ∧
  GEF (isB t101_140 false) (fun k_ => CALL PR F_tumbrelref06_Disk_Names [t105_142] w17 k_) w17 fun t106_144 w18 =>
  S_130 32 w18 ∧
  GEF (isB t101_140 false) (fun k_ => CALL PR F_tumbrelref06_Same [t104_143, t106_144] w18 k_) w18 fun t107_145 w19 =>
  S_130 32 w19 ∧
  BND (grd (isB t101_140 false) (unv .not t107_145)) fun t108_146 =>
  BND (pickv t101_140 (Value.bool true) t108_146) fun t109_147 =>
  BND (grd (isB t109_147 false) (some t28_4)) fun t111_148 =>
  BND (grd (isB t109_147 false) (some t33_7)) fun t113_149 =>
  GEF (isB t109_147 false) (fun k_ => CALL PR F_disk_Disk_Held [t111_148] w19 k_) w19 fun t112_150 w20 =>
  S_130 32 w20 ∧
  GEF (isB t109_147 false) (fun k_ => CALL PR F_tumbrelref06_Disk_Held [t113_149] w20 k_) w20 fun t114_151 w21 =>
  S_130 32 w21 ∧
  BND (grd (isB t109_147 false) (binv .int .neq t112_150 t114_151)) fun t115_152 =>
  BND (pickv t109_147 (Value.bool true) t115_152) fun t116_153 =>
  BND (grd (isB t116_153 false) (some t28_4)) fun t118_154 =>
  BND (grd (isB t116_153 false) (some t33_7)) fun t120_155 =>
  BND (grd (isB t116_153 false) (nilchk t120_155)) fun t121_156 =>
  BND (grd (isB t116_153 false) (faddr 4 t121_156)) fun t122_157 =>
  FLT (S_130 32) (fun w_ => (grd (isB t116_153 false) (load1 w_ t122_157))) fun t123_158 =>
  GEF (isB t116_153 false) (fun k_ => CALL PR F_disk_Disk_Down [t118_154] w21 k_) w21 fun t119_159 w22 =>
  S_130 32 w22 ∧
  BND (grd (isB t116_153 false) (binv .bool .neq t119_159 t123_158)) fun t124_160 =>
  BND (pickv t116_153 (Value.bool true) t124_160) fun t125_161 =>
  COND t125_161
  (R (Value.bool false) w22)
  (BND (binv .ptr .eql t81_124 (Value.pointer none)) fun t127_162 =>
  COND t127_162
  (BND (binv .int .add t71_39 (Value.int .i64 1)) fun t147_163 =>
  (J_30 t81_124 t89_128 t147_163 w22 ∧ m_30 t81_124 t89_128 t147_163 w22 < m_30 a_32 b_33 t71_39 w7))
  (CALL PR F_seglog_Log_End [t81_124] w22 fun t130_164 w23 =>
  BND (extractv t130_164 0) fun t131_165 =>
  BND (extractv t130_164 1) fun t132_166 =>
  BND (nilchk t89_128) fun t135_167 =>
  BND (faddr 1 t135_167) fun t136_168 =>
  BND (load1 w23 t136_168) fun t137_169 =>
  BND (binv .int .neq t131_165 t137_169) fun t138_170 =>
  BND (grd (isB t138_170 false) (some t132_166)) fun t140_171 =>
  BND (grd (isB t138_170 false) (some t89_128)) fun t141_172 =>
  BND (grd (isB t138_170 false) (nilchk t141_172)) fun t142_173 =>
  BND (grd (isB t138_170 false) (faddr 2 t142_173)) fun t143_174 =>
  BND (grd (isB t138_170 false) (load1 w23 t143_174)) fun t144_175 =>
  BND (grd (isB t138_170 false) (binv .int .neq t140_171 t144_175)) fun t145_176 =>
  BND (pickv t138_170 (Value.bool true) t145_176) fun t146_177 =>
  COND t146_177
  (R (Value.bool false) w23)
  (BND (binv .int .add t71_39 (Value.int .i64 1)) fun t147_178 =>
  (J_30 t81_124 t89_128 t147_178 w23 ∧ m_30 t81_124 t89_128 t147_178 w23 < m_30 a_32 b_33 t71_39 w7)))))
  (R (Value.bool true) w7)))))
def ann_tumbrellaw15_SeglogDoes : List (Nat × List Nat) := [(17, [0, 1, 2, 3, 4, 5, 6, 7, 8, 9, 10, 11, 12, 14, 13, 15, 16, 17, 18, 19, 20, 22, 21, 23, 24, 25, 26, 27, 29, 30, 31, 32, 28, 33, 34]), (1000012, [13, 15, 71]), (2000017, [32]), (3017002, [32]), (3017013, [32]), (3017015, [32]), (3017016, [32]), (3017021, [32]), (3017023, [32]), (3017028, [32])]
theorem E_tumbrellaw15_SeglogDoes (room_p0 seg_p1 size_p2 l_p3 : Value) (w : World) (R : Value → World → Prop) : M_tumbrellaw15_SeglogDoes room_p0 seg_p1 size_p2 l_p3 w R = den PR ann_tumbrellaw15_SeglogDoes (bodyOf Tryz.f4) (retQ PR Tryz.f4.results.toList R) (env0 [room_p0, seg_p1, size_p2, l_p3]) w := by kernel_rfl
theorem C_tumbrellaw15_SeglogDoes {room_p0 seg_p1 size_p2 l_p3 : Value} {w : World} {R : Value → World → Prop} (h : M_tumbrellaw15_SeglogDoes room_p0 seg_p1 size_p2 l_p3 w R) : CALL PR F_tumbrellaw15_SeglogDoes [room_p0, seg_p1, size_p2, l_p3] w R :=
  call_of_den2 ann_tumbrellaw15_SeglogDoes Tryz.func4 (by kernel_rfl) (by kernel_rfl) (by kernel_rfl) ((E_tumbrellaw15_SeglogDoes room_p0 seg_p1 size_p2 l_p3 w R) ▸ h)
-- 6 tumbrel.tumbrellaw15.awake
def M_tumbrellaw15_awake (w : World) (R : Value → World → Prop) : Prop :=
  CALL PR F_disk_New [(Value.int .i64 200)] w fun t19_1 w1 =>
  BND (extractv t19_1 0) fun t20_2 =>
  BND (extractv t19_1 1) fun t21_3 =>
  BND (binv .ptr .eql t20_2 (Value.pointer none)) fun t23_4 =>
  COND t23_4
  (R (Value.bool false) w1)
  (CALL PR F_seglog_Begin [t20_2, (Value.int .u64 1), (Value.int .i64 64)] w1 fun t26_5 w2 =>
  BND (extractv t26_5 0) fun t27_6 =>
  BND (extractv t26_5 1) fun t28_7 =>
  BND (binv .ptr .eql t27_6 (Value.pointer none)) fun t30_8 =>
  BND (grd (isB t30_8 false) (some t28_7)) fun t32_9 =>
  BND (grd (isB t30_8 false) (binv .int .neq t32_9 (Value.int .i64 0))) fun t33_10 =>
  BND (pickv t30_8 (Value.bool true) t33_10) fun t34_11 =>
  COND t34_11
  (R (Value.bool false) w2)
  (BND (newslice 22 #[(Value.int .u64 0)] 1 1 [(0, 1, (Value.int .u64 5))] w2) fun p_ => NEW p_ fun t37_12 w3 =>
  BND (buildv #[(Value.int .i64 0), (Value.slice none 0 0), (Value.string ByteArray.empty)] [(0, 1, (Value.int .i64 7)), (1, 1, t37_12)]) fun t38_13 =>
  CALL PR F_seglog_Log_Append [t27_6, t38_13] w3 fun t39_14 w4 =>
  BND (extractv t39_14 0) fun t40_15 =>
  BND (extractv t39_14 1) fun t41_16 =>
  BND (extractv t39_14 2) fun t42_17 =>
  CALL PR F_seglog_Log_Read [t27_6, (Value.int .u64 1), (Value.int .u64 0)] w4 fun t45_18 w5 =>
  BND (extractv t45_18 0) fun t46_19 =>
  BND (extractv t45_18 1) fun t47_20 =>
  BND (extractv t45_18 2) fun t48_21 =>
  NEW (newv 37 w5 (Value.agg #[(Value.int .i64 0), (Value.slice none 0 0), (Value.string ByteArray.empty)])) fun r_22 w6 =>
  BND (storev 3 w6 r_22 t46_19) fun w7 =>
  CALL PR F_seglog_Log_End [t27_6] w7 fun t51_23 w8 =>
  BND (extractv t51_23 0) fun t52_24 =>
  BND (extractv t51_23 1) fun t53_25 =>
  CALL PR F_seglog_Log_Read [t27_6, (Value.int .u64 1), (Value.int .u64 12)] w8 fun t56_26 w9 =>
  BND (extractv t56_26 0) fun t57_27 =>
  BND (extractv t56_26 1) fun t58_28 =>
  BND (extractv t56_26 2) fun t59_29 =>
  NEW (newv 37 w9 (Value.agg #[(Value.int .i64 0), (Value.slice none 0 0), (Value.string ByteArray.empty)])) fun t13_30 w10 =>
  BND (storev 3 w10 t13_30 t57_27) fun w11 =>
  CALL PR F_seglog_Open [t20_2, (Value.int .u64 1), (Value.int .u64 13), (Value.int .i64 64)] w11 fun t62_31 w12 =>
  BND (extractv t62_31 0) fun t63_32 =>
  BND (extractv t62_31 1) fun t64_33 =>
  BND (binv .int .eql t40_15 (Value.int .u64 1)) fun t66_34 =>
  BND (grd (isB t66_34 true) (some t41_16)) fun t68_35 =>
  BND (grd (isB t66_34 true) (binv .int .eql t68_35 (Value.int .u64 0))) fun t69_36 =>
  BND (pickv t66_34 t69_36 (Value.bool false)) fun t70_37 =>
  BND (grd (isB t70_37 true) (some t42_17)) fun t72_38 =>
  BND (grd (isB t70_37 true) (binv .int .eql t72_38 (Value.int .i64 0))) fun t73_39 =>
  BND (pickv t70_37 t73_39 (Value.bool false)) fun t74_40 =>
  BND (grd (isB t74_40 true) (faddr 0 r_22)) fun t76_41 =>
  BND (grd (isB t74_40 true) (load1 w12 t76_41)) fun t77_42 =>
  BND (grd (isB t74_40 true) (binv .int .eql t77_42 (Value.int .i64 7))) fun t78_43 =>
  BND (pickv t74_40 t78_43 (Value.bool false)) fun t79_44 =>
  BND (grd (isB t79_44 true) (some t47_20)) fun t81_45 =>
  BND (grd (isB t79_44 true) (binv .int .eql t81_45 (Value.int .i64 12))) fun t82_46 =>
  BND (pickv t79_44 t82_46 (Value.bool false)) fun t83_47 =>
  BND (grd (isB t83_47 true) (some t48_21)) fun t85_48 =>
  BND (grd (isB t83_47 true) (binv .int .eql t85_48 (Value.int .i64 0))) fun t86_49 =>
  BND (pickv t83_47 t86_49 (Value.bool false)) fun t87_50 =>
  BND (grd (isB t87_50 true) (some t53_25)) fun t89_51 =>
  BND (grd (isB t87_50 true) (binv .int .eql t89_51 (Value.int .u64 12))) fun t90_52 =>
  BND (pickv t87_50 t90_52 (Value.bool false)) fun t91_53 =>
  BND (grd (isB t91_53 true) (some t59_29)) fun t93_54 =>
  BND (grd (isB t91_53 true) (binv .int .eql t93_54 (Value.int .i64 3))) fun t94_55 =>
  BND (pickv t91_53 t94_55 (Value.bool false)) fun t95_56 =>
  BND (grd (isB t95_56 true) (some t27_6)) fun t97_57 =>
  GEF (isB t95_56 true) (fun k_ => CALL PR F_seglog_Log_Sync [t97_57] w12 k_) w12 fun t98_58 w13 =>
  BND (grd (isB t95_56 true) (binv .int .eql t98_58 (Value.int .i64 0))) fun t99_59 =>
  BND (pickv t95_56 t99_59 (Value.bool false)) fun t100_60 =>
  BND (grd (isB t100_60 true) (some t63_32)) fun t102_61 =>
  BND (grd (isB t100_60 true) (binv .ptr .eql t102_61 (Value.pointer none))) fun t103_62 =>
  BND (pickv t100_60 t103_62 (Value.bool false)) fun t104_63 =>
  BND (grd (isB t104_63 true) (some t64_33)) fun t106_64 =>
  BND (grd (isB t104_63 true) (binv .int .eql t106_64 (Value.int .i64 3))) fun t107_65 =>
  BND (pickv t104_63 t107_65 (Value.bool false)) fun t108_66 =>
  R t108_66 w13))
def ann_tumbrellaw15_awake : List (Nat × List Nat) := []
theorem E_tumbrellaw15_awake (w : World) (R : Value → World → Prop) : M_tumbrellaw15_awake w R = den PR ann_tumbrellaw15_awake (bodyOf Tryz.f6) (retQ PR Tryz.f6.results.toList R) (env0 []) w := by kernel_rfl
theorem C_tumbrellaw15_awake {w : World} {R : Value → World → Prop} (h : M_tumbrellaw15_awake w R) : CALL PR F_tumbrellaw15_awake [] w R :=
  call_of_den2 ann_tumbrellaw15_awake Tryz.func6 (by kernel_rfl) (by kernel_rfl) (by kernel_rfl) ((E_tumbrellaw15_awake w R) ▸ h)
-- 7 tumbrel.tumbrellaw15.full
def M_tumbrellaw15_full (seg_p0 size_p1 l_p2 : Value) (w : World) (R : Value → World → Prop) : Prop :=
  CALL PR F_disk_New [(Value.int .i64 131072)] w fun t21_1 w1 =>
  BND (extractv t21_1 0) fun t22_2 =>
  BND (extractv t21_1 1) fun t23_3 =>
  BND (binv .ptr .eql t22_2 (Value.pointer none)) fun t25_4 =>
  BND (grd (isB t25_4 false) (some l_p2)) fun t27_5 =>
  BND (grd (isB t25_4 false) (lenl t27_5)) fun t28_6 =>
  BND (grd (isB t25_4 false) (binv .int .gtr t28_6 (Value.int .i64 50))) fun t29_7 =>
  BND (pickv t25_4 (Value.bool true) t29_7) fun t30_8 =>
  BND (grd (isB t30_8 false) (some seg_p0)) fun t32_9 =>
  BND (grd (isB t30_8 false) (binv .int .gtr t32_9 (Value.int .u64 1000))) fun t33_10 =>
  BND (pickv t30_8 (Value.bool true) t33_10) fun t34_11 =>
  COND t34_11
  (R (.tuple #[(Value.pointer none), (Value.pointer none), (Value.slice none 0 0), (Value.bool false)]) w1)
  (CALL PR F_seglog_Begin [t22_2, seg_p0, size_p1] w1 fun t39_12 w2 =>
  BND (extractv t39_12 0) fun t40_13 =>
  BND (extractv t39_12 1) fun t41_14 =>
  BND (binv .ptr .eql t40_13 (Value.pointer none)) fun t43_15 =>
  BND (grd (isB t43_15 false) (some t41_14)) fun t45_16 =>
  BND (grd (isB t43_15 false) (binv .int .neq t45_16 (Value.int .i64 0))) fun t46_17 =>
  BND (pickv t43_15 (Value.bool true) t46_17) fun t47_18 =>
  COND t47_18
  (R (.tuple #[(Value.pointer none), (Value.pointer none), (Value.slice none 0 0), (Value.bool false)]) w2)
  (BND (lenl l_p2) fun t49_19 =>
  ∃ (J_20 : Value → Value → World → Prop) (m_20 : Value → Value → World → Nat), J_20 (Value.slice none 0 0) (Value.int .i64 0) w2 ∧ ∀ (_d_20 : Env) (out_25 t50_30 : Value) (w3 : World), J_20 out_25 t50_30 w3 →
  (BND (binv .int .lss t50_30 t49_19) fun t51_58 =>
  COND t51_58
  (BND (iaddr 3 l_p2 t50_30) fun t52_59 =>
  BND (loadn 3 w3 t52_59) fun t53_60 =>
  NEW (newv 37 w3 (Value.agg #[(Value.int .i64 0), (Value.slice none 0 0), (Value.string ByteArray.empty)])) fun r_61 w4 =>
  BND (storev 3 w4 r_61 t53_60) fun w5 =>
  BND (loadn 3 w5 r_61) fun t54_62 =>
  CALL PR F_tumbrelref05_Large [t54_62] w5 fun t55_63 w6 =>
  BND (grd (isB t55_63 false) (loadn 3 w6 r_61)) fun t57_64 =>
  GEF (isB t55_63 false) (fun k_ => CALL PR F_record_Right [t57_64] w6 k_) w6 fun t58_65 w7 =>
  BND (grd (isB t55_63 false) (unv .not t58_65)) fun t59_66 =>
  BND (pickv t55_63 (Value.bool true) t59_66) fun t60_67 =>
  COND t60_67
  (R (.tuple #[(Value.pointer none), (Value.pointer none), (Value.slice none 0 0), (Value.bool false)]) w7)
  (BND (loadn 3 w7 r_61) fun t63_68 =>
  CALL PR F_seglog_Log_Append [t40_13, t63_68] w7 fun t64_69 w8 =>
  BND (extractv t64_69 0) fun t65_70 =>
  BND (extractv t64_69 1) fun t66_71 =>
  BND (extractv t64_69 2) fun t67_72 =>
  BND (binv .int .neq t67_72 (Value.int .i64 0)) fun t69_73 =>
  COND t69_73
  (R (.tuple #[(Value.pointer none), (Value.pointer none), (Value.slice none 0 0), (Value.bool false)]) w8)
  (BND (loadn 3 w8 r_61) fun t71_74 =>
  BND (buildv #[(Value.int .i64 0), (Value.slice none 0 0), (Value.string ByteArray.empty), (Value.int .u64 0), (Value.int .u64 0)] [(0, 3, t71_74), (3, 1, t65_70), (4, 1, t66_71)]) fun t74_75 =>
  BND (newslice 79 #[(Value.int .i64 0), (Value.slice none 0 0), (Value.string ByteArray.empty), (Value.int .u64 0), (Value.int .u64 0)] 5 1 [(0, 5, t74_75)] w8) fun p_ => NEW p_ fun t75_76 w9 =>
  APPEND 79 5 64 (Value.agg #[(Value.int .i64 0), (Value.slice none 0 0), (Value.string ByteArray.empty), (Value.int .u64 0), (Value.int .u64 0)]) out_25 t75_76 w9 fun t76_77 w10 =>
  BND (binv .int .add t50_30 (Value.int .i64 1)) fun t77_78 =>
  (J_20 t76_77 t77_78 w10 ∧ m_20 t76_77 t77_78 w10 < m_20 out_25 t50_30 w3))))
  (R (.tuple #[t22_2, t40_13, out_25, (Value.bool true)]) w3))))
def ann_tumbrellaw15_full : List (Nat × List Nat) := [(1000009, [14, 50])]
theorem E_tumbrellaw15_full (seg_p0 size_p1 l_p2 : Value) (w : World) (R : Value → World → Prop) : M_tumbrellaw15_full seg_p0 size_p1 l_p2 w R = den PR ann_tumbrellaw15_full (bodyOf Tryz.f7) (retQ PR Tryz.f7.results.toList R) (env0 [seg_p0, size_p1, l_p2]) w := by kernel_rfl
theorem C_tumbrellaw15_full {seg_p0 size_p1 l_p2 : Value} {w : World} {R : Value → World → Prop} (h : M_tumbrellaw15_full seg_p0 size_p1 l_p2 w R) : CALL PR F_tumbrellaw15_full [seg_p0, size_p1, l_p2] w R :=
  call_of_den2 ann_tumbrellaw15_full Tryz.func7 (by kernel_rfl) (by kernel_rfl) (by kernel_rfl) ((E_tumbrellaw15_full seg_p0 size_p1 l_p2 w R) ▸ h)
-- 8 (*tumbrel.seglog.Log).Sync
def M_seglog_Log_Sync (l_p0 : Value) (w : World) (R : Value → World → Prop) : Prop :=
  BND (nilchk l_p0) fun t9_1 =>
  BND (faddr 1 t9_1) fun t10_2 =>
  BND (nilchk l_p0) fun t14_3 =>
  BND (faddr 4 t14_3) fun t15_4 =>
  BND (nilchk l_p0) fun t18_5 =>
  BND (faddr 1 t18_5) fun t19_6 =>
  BND (load1 w.drew t10_2) fun t11_7 =>
  BND (binv .int .add t11_7 (Value.int .u64 1)) fun t12_8 =>
  BND (load1 w.drew t15_4) fun t16_9 =>
  BND (load1 w.drew t19_6) fun t20_10 =>
  BND (binv .int .add t20_10 (Value.int .u64 1)) fun t21_11 =>
  BND (min2v t16_9 t21_11) fun t22_12 =>
  BND (binv .int .sub t12_8 t22_12) fun t23_13 =>
  ∃ (J_14 : Value → World → Prop) (m_14 : Value → World → Nat), J_14 (Value.int .u64 0) w.drew ∧ ∀ (_d_14 : Env) (t24_20 : Value) (w1 : World), J_14 t24_20 w1 →
  (BND (binv .int .lss t24_20 t23_13) fun t25_43 =>
  COND t25_43
  (BND (nilchk l_p0) fun t29_44 =>
  BND (faddr 4 t29_44) fun t30_45 =>
  BND (load1 w1 t30_45) fun t31_46 =>
  BND (binv .int .add t31_46 t24_20) fun t33_47 =>
  CALL PR F_name_Of [(Value.int .u8 109), t33_47] w1 fun t34_48 w2 =>
  BND (extractv t34_48 0) fun t35_49 =>
  BND (extractv t34_48 1) fun t36_50 =>
  BND (nilchk l_p0) fun t38_51 =>
  BND (faddr 0 t38_51) fun t39_52 =>
  BND (load1 w2 t39_52) fun t40_53 =>
  CALL PR F_disk_Disk_Sync [t40_53, t35_49] w2 fun t42_54 w3 =>
  BND (binv .int .neq t42_54 (Value.int .i64 0)) fun t44_55 =>
  COND t44_55
  (R t42_54 w3)
  (BND (binv .int .add t24_20 (Value.int .u64 1)) fun t46_56 =>
  (J_14 t46_56 w3 ∧ m_14 t46_56 w3 < m_14 t24_20 w1)))
  (BND (nilchk l_p0) fun t48_57 =>
  BND (faddr 5 t48_57) fun t49_58 =>
  BND (load1 w1 t49_58) fun t50_59 =>
  JOIN (α := World → Prop) (fun k_78 => COND t50_59
  (BND (nilchk l_p0) fun t52_79 =>
  BND (faddr 0 t52_79) fun t53_80 =>
  BND (load1 w1 t53_80) fun t54_81 =>
  CALL PR F_disk_Disk_DirSync [t54_81] w1 fun t55_82 w7 =>
  BND (binv .int .neq t55_82 (Value.int .i64 0)) fun t57_83 =>
  COND t57_83
  (R t55_82 w7)
  (k_78 w7))
  (k_78 w1))
  (fun w4 => BND (nilchk l_p0) fun t62_70 =>
  BND (faddr 1 t62_70) fun t63_71 =>
  BND (load1 w4 t63_71) fun t64_72 =>
  BND (binv .int .add t64_72 (Value.int .u64 1)) fun t65_73 =>
  BND (nilchk l_p0) fun t66_74 =>
  BND (faddr 4 t66_74) fun t67_75 =>
  BND (storev 1 w4 t67_75 t65_73) fun w5 =>
  BND (nilchk l_p0) fun t68_76 =>
  BND (faddr 5 t68_76) fun t69_77 =>
  BND (storev 1 w5 t69_77 (Value.bool false)) fun w6 =>
  R (Value.int .i64 0) w6)))
def ann_seglog_Log_Sync : List (Nat × List Nat) := [(1, [0, 1, 2, 5, 6, 7, 9, 10, 11, 16, 3, 4, 8, 12, 13, 14, 15]), (1000002, [24])]
theorem E_seglog_Log_Sync (l_p0 : Value) (w : World) (R : Value → World → Prop) : M_seglog_Log_Sync l_p0 w R = den PR ann_seglog_Log_Sync (bodyOf Tryz.f8) (retQ PR Tryz.f8.results.toList R) (env0 [l_p0]) w := by kernel_rfl
theorem C_seglog_Log_Sync {l_p0 : Value} {w : World} {R : Value → World → Prop} (h : M_seglog_Log_Sync l_p0 w R) : CALL PR F_seglog_Log_Sync [l_p0] w R :=
  call_of_den2 ann_seglog_Log_Sync Tryz.func8 (by kernel_rfl) (by kernel_rfl) (by kernel_rfl) ((E_seglog_Log_Sync l_p0 w R) ▸ h)
-- 9 (*tumbrel.seglog.Log).End
def M_seglog_Log_End (l_p0 : Value) (w : World) (R : Value → World → Prop) : Prop :=
  BND (nilchk l_p0) fun t5_1 =>
  BND (faddr 1 t5_1) fun t6_2 =>
  BND (nilchk l_p0) fun t9_3 =>
  BND (faddr 2 t9_3) fun t10_4 =>
  BND (load1 w.drew t6_2) fun t7_5 =>
  BND (load1 w.drew t10_4) fun t11_6 =>
  R (.tuple #[t7_5, t11_6]) w.drew
def ann_seglog_Log_End : List (Nat × List Nat) := [(1, [0, 1, 2, 4, 5, 6, 3, 8, 7, 9])]
theorem E_seglog_Log_End (l_p0 : Value) (w : World) (R : Value → World → Prop) : M_seglog_Log_End l_p0 w R = den PR ann_seglog_Log_End (bodyOf Tryz.f9) (retQ PR Tryz.f9.results.toList R) (env0 [l_p0]) w := by kernel_rfl
theorem C_seglog_Log_End {l_p0 : Value} {w : World} {R : Value → World → Prop} (h : M_seglog_Log_End l_p0 w R) : CALL PR F_seglog_Log_End [l_p0] w R :=
  call_of_den2 ann_seglog_Log_End Tryz.func9 (by kernel_rfl) (by kernel_rfl) (by kernel_rfl) ((E_seglog_Log_End l_p0 w R) ▸ h)
-- 10 tumbrel.tumbrelref05.Large
def M_tumbrelref05_Large (r_p0 : Value) (w : World) (R : Value → World → Prop) : Prop :=
  NEW (newv 39 w r_p0) fun r_1 w1 =>
  BND (faddr 1 r_1) fun t3_2 =>
  BND (load1 w1 t3_2) fun t4_3 =>
  BND (lenl t4_3) fun t5_4 =>
  BND (binv .int .gtr t5_4 (Value.int .i64 100)) fun t6_5 =>
  BND (grd (isB t6_5 false) (faddr 2 r_1)) fun t8_6 =>
  BND (grd (isB t6_5 false) (load1 w1 t8_6)) fun t9_7 =>
  BND (grd (isB t6_5 false) (lens t9_7)) fun t10_8 =>
  BND (grd (isB t6_5 false) (binv .int .gtr t10_8 (Value.int .i64 300))) fun t11_9 =>
  BND (pickv t6_5 (Value.bool true) t11_9) fun t12_10 =>
  R t12_10 w1
def ann_tumbrelref05_Large : List (Nat × List Nat) := []
theorem E_tumbrelref05_Large (r_p0 : Value) (w : World) (R : Value → World → Prop) : M_tumbrelref05_Large r_p0 w R = den PR ann_tumbrelref05_Large (bodyOf Tryz.f10) (retQ PR Tryz.f10.results.toList R) (env0 [r_p0]) w := by kernel_rfl
theorem C_tumbrelref05_Large {r_p0 : Value} {w : World} {R : Value → World → Prop} (h : M_tumbrelref05_Large r_p0 w R) : CALL PR F_tumbrelref05_Large [r_p0] w R :=
  call_of_den2 ann_tumbrelref05_Large Tryz.func10 (by kernel_rfl) (by kernel_rfl) (by kernel_rfl) ((E_tumbrelref05_Large r_p0 w R) ▸ h)
-- 11 (*tumbrel.seglog.Log).Append
def M_seglog_Log_Append (l_p0 r_p1 : Value) (w : World) (R : Value → World → Prop) : Prop :=
  NEW (newv 37 w r_p1) fun r_1 w1 =>
  BND (loadn 3 w1 r_1) fun t15_2 =>
  CALL PR F_record_Bytes [t15_2] w1 fun t16_3 w2 =>
  BND (extractv t16_3 0) fun t17_4 =>
  BND (extractv t16_3 1) fun t18_5 =>
  BND (binv .int .neq t18_5 (Value.int .i64 0)) fun t20_6 =>
  COND t20_6
  (R (.tuple #[(Value.int .u64 0), (Value.int .u64 0), t18_5]) w2)
  (BND (nilchk l_p0) fun t23_7 =>
  BND (faddr 2 t23_7) fun t24_8 =>
  BND (load1 w2.drew t24_8) fun t25_9 =>
  BND (binv .int .gtr t25_9 (Value.int .u64 0)) fun t26_10 =>
  BND (grd (isB t26_10 true) (some l_p0)) fun t28_11 =>
  BND (grd (isB t26_10 true) (nilchk t28_11)) fun t29_12 =>
  BND (grd (isB t26_10 true) (faddr 2 t29_12)) fun t30_13 =>
  BND (grd (isB t26_10 true) (some t17_4)) fun t32_14 =>
  BND (grd (isB t26_10 true) (lenl t32_14)) fun t33_15 =>
  BND (grd (isB t26_10 true) (convi .u64 t33_15)) fun t34_16 =>
  BND (grd (isB t26_10 true) (some l_p0)) fun t36_17 =>
  BND (grd (isB t26_10 true) (nilchk t36_17)) fun t37_18 =>
  BND (grd (isB t26_10 true) (faddr 3 t37_18)) fun t38_19 =>
  BND (grd (isB t26_10 true) (load1 w2.drew t30_13)) fun t31_20 =>
  BND (grd (isB t26_10 true) (binv .int .add t31_20 t34_16)) fun t35_21 =>
  BND (grd (isB t26_10 true) (load1 w2.drew t38_19)) fun t39_22 =>
  BND (grd (isB t26_10 true) (convi .u64 t39_22)) fun t40_23 =>
  BND (grd (isB t26_10 true) (binv .int .gtr t35_21 t40_23)) fun t41_24 =>
  BND (pickv t26_10 t41_24 (Value.bool false)) fun t42_25 =>
  JOIN (α := World → Prop) (fun k_69 => COND t42_25
  (CALL PR F_seglog_Log_turn [l_p0] w2.drew fun t44_70 w8 =>
  BND (binv .int .neq t44_70 (Value.int .i64 0)) fun t46_71 =>
  COND t46_71
  (R (.tuple #[(Value.int .u64 0), (Value.int .u64 0), t44_70]) w8)
  (k_69 w8))
  (k_69 w2.drew))
  (fun w3 => BND (nilchk l_p0) fun t50_35 =>
  BND (faddr 1 t50_35) fun t51_36 =>
  BND (load1 w3 t51_36) fun t52_37 =>
  CALL PR F_name_Of [(Value.int .u8 109), t52_37] w3 fun t53_38 w4 =>
  BND (extractv t53_38 0) fun t54_39 =>
  BND (extractv t53_38 1) fun t55_40 =>
  BND (nilchk l_p0) fun t57_41 =>
  BND (faddr 0 t57_41) fun t58_42 =>
  BND (load1 w4 t58_42) fun t59_43 =>
  CALL PR F_disk_Disk_Append [t59_43, t54_39, t17_4] w4 fun t62_44 w5 =>
  BND (binv .int .neq t62_44 (Value.int .i64 0)) fun t64_45 =>
  COND t64_45
  (R (.tuple #[(Value.int .u64 0), (Value.int .u64 0), t62_44]) w5)
  (BND (nilchk l_p0) fun t67_46 =>
  BND (faddr 2 t67_46) fun t68_47 =>
  BND (load1 w5 t68_47) fun t69_48 =>
  BND (nilchk l_p0) fun t71_49 =>
  BND (faddr 2 t71_49) fun t72_50 =>
  BND (load1 w5 t72_50) fun t73_51 =>
  BND (lenl t17_4) fun t75_52 =>
  BND (convi .u64 t75_52) fun t76_53 =>
  BND (binv .int .add t73_51 t76_53) fun t77_54 =>
  BND (nilchk l_p0) fun t78_55 =>
  BND (faddr 2 t78_55) fun t79_56 =>
  BND (storev 1 w5 t79_56 t77_54) fun w6 =>
  BND (nilchk l_p0) fun t82_57 =>
  BND (faddr 4 t82_57) fun t83_58 =>
  BND (nilchk l_p0) fun t86_59 =>
  BND (faddr 1 t86_59) fun t87_60 =>
  BND (load1 w6.drew t83_58) fun t84_61 =>
  BND (load1 w6.drew t87_60) fun t88_62 =>
  BND (min2v t84_61 t88_62) fun t89_63 =>
  BND (nilchk l_p0) fun t90_64 =>
  BND (faddr 4 t90_64) fun t91_65 =>
  BND (storev 1 w6.drew t91_65 t89_63) fun w7 =>
  BND (nilchk l_p0) fun t93_66 =>
  BND (faddr 1 t93_66) fun t94_67 =>
  BND (load1 w7 t94_67) fun t95_68 =>
  R (.tuple #[t95_68, t69_48, (Value.int .i64 0)]) w7)))
def ann_seglog_Log_Append : List (Nat × List Nat) := [(4, [0, 1, 2, 3, 4, 5, 6, 7, 8, 10, 11, 12, 14, 15, 16, 9, 13, 17, 18, 19, 20]), (14, [0, 1, 2, 3, 5, 6, 7, 4, 8, 9, 10, 11, 12])]
theorem E_seglog_Log_Append (l_p0 r_p1 : Value) (w : World) (R : Value → World → Prop) : M_seglog_Log_Append l_p0 r_p1 w R = den PR ann_seglog_Log_Append (bodyOf Tryz.f11) (retQ PR Tryz.f11.results.toList R) (env0 [l_p0, r_p1]) w := by kernel_rfl
theorem C_seglog_Log_Append {l_p0 r_p1 : Value} {w : World} {R : Value → World → Prop} (h : M_seglog_Log_Append l_p0 r_p1 w R) : CALL PR F_seglog_Log_Append [l_p0, r_p1] w R :=
  call_of_den2 ann_seglog_Log_Append Tryz.func11 (by kernel_rfl) (by kernel_rfl) (by kernel_rfl) ((E_seglog_Log_Append l_p0 r_p1 w R) ▸ h)
-- 12 (*tumbrel.disk.Disk).Crash
def M_disk_Disk_Crash (d_p0 open_p1 tails_p2 : Value) (w : World) (R : Value → World → Prop) : Prop :=
  BND (nilchk d_p0) fun t12_1 =>
  BND (faddr 2 t12_1) fun t13_2 =>
  BND (load1 w t13_2) fun t14_3 =>
  BND (lenl t14_3) fun t15_4 =>
  BND (min2v open_p1 t15_4) fun t16_5 =>
  BND (binv .int .gtr t16_5 (Value.int .i64 0)) fun t18_6 =>
  JOIN (α := World → Prop) (fun k_145 => COND t18_6
  (BND (nilchk d_p0) fun t21_146 =>
  BND (faddr 2 t21_146) fun t22_147 =>
  BND (load1 w t22_147) fun t23_148 =>
  BND (binv .int .sub t16_5 (Value.int .i64 1)) fun t25_149 =>
  BND (iaddr 1 t23_148 t25_149) fun t26_150 =>
  BND (load1 w t26_150) fun t27_151 =>
  BND (nilchk d_p0) fun t28_152 =>
  BND (faddr 1 t28_152) fun t29_153 =>
  BND (storev 1 w t29_153 t27_151) fun w11 =>
  k_145 w11)
  (k_145 w))
  (fun w1 => BND (nilchk d_p0) fun t33_18 =>
  BND (faddr 2 t33_18) fun t34_19 =>
  BND (storev 1 w1 t34_19 (Value.slice none 0 0)) fun w2 =>
  BND (nilchk d_p0) fun t35_20 =>
  BND (faddr 3 t35_20) fun t36_21 =>
  BND (storev 1 w2 t36_21 (Value.int .i64 (-1))) fun w3 =>
  BND (nilchk d_p0) fun t37_22 =>
  BND (faddr 4 t37_22) fun t38_23 =>
  BND (storev 1 w3 t38_23 (Value.bool false)) fun w4 =>
  BND (nilchk d_p0) fun t40_24 =>
  BND (faddr 1 t40_24) fun t41_25 =>
  BND (load1 w4 t41_25) fun t42_26 =>
  CALL PR F_maps_Keys_file [t42_26] w4 fun t43_27 w5 =>
  CALL PR F_slices_Sorted_string [t43_27] w5 fun t44_28 w6 =>
  BND (lenl t44_28) fun t45_29 =>
  ∃ (J_30 : Value → World → Prop) (m_30 : Value → World → Nat), J_30 (Value.int .i64 0) w6 ∧ ∀ (_d_30 : Env) (t46_35 : Value) (w7 : World), J_30 t46_35 w7 →
  (BND (binv .int .lss t46_35 t45_29) fun t47_89 =>
  COND t47_89
  (BND (iaddr 1 t44_28 t46_35) fun t49_90 =>
  BND (load1 w7 t49_90) fun t50_91 =>
  BND (nilchk d_p0) fun t52_92 =>
  BND (faddr 1 t52_92) fun t53_93 =>
  BND (load1 w7 t53_93) fun t54_94 =>
  BND (lookv .string (Value.pointer none) false w7 t54_94 t50_91) fun t56_95 =>
  BND (lenl tails_p2) fun t59_96 =>
  BND (binv .int .lss t46_35 t59_96) fun t60_97 =>
  JOIN (α := Value → World → Prop) (fun k_132 => COND t60_97
  (BND (iaddr 1 tails_p2 t46_35) fun t63_133 =>
  BND (nilchk t56_95) fun t67_134 =>
  BND (faddr 0 t67_134) fun t68_135 =>
  BND (nilchk t56_95) fun t72_136 =>
  BND (faddr 1 t72_136) fun t73_137 =>
  BND (load1 w7.drew t63_133) fun t64_138 =>
  BND (max2v t64_138 (Value.int .i64 0)) fun t65_139 =>
  BND (load1 w7.drew t68_135) fun t69_140 =>
  BND (lenl t69_140) fun t70_141 =>
  BND (load1 w7.drew t73_137) fun t74_142 =>
  BND (binv .int .sub t70_141 t74_142) fun t75_143 =>
  BND (min2v t65_139 t75_143) fun t76_144 =>
  k_132 t76_144 w7.drew)
  (k_132 (Value.int .i64 0) w7))
  (fun tail_98 w8 => BND (nilchk t56_95) fun t79_115 =>
  BND (faddr 0 t79_115) fun t80_116 =>
  BND (nilchk t56_95) fun t83_117 =>
  BND (faddr 1 t83_117) fun t84_118 =>
  BND (load1 w8.drew t80_116) fun t81_119 =>
  BND (load1 w8.drew t84_118) fun t85_120 =>
  BND (binv .int .add t85_120 tail_98) fun t87_121 =>
  BND (slicev 1 t81_119 none (some t87_121)) fun t88_122 =>
  BND (nilchk t56_95) fun t89_123 =>
  BND (faddr 0 t89_123) fun t90_124 =>
  BND (storev 1 w8.drew t90_124 t88_122) fun w9 =>
  BND (nilchk t56_95) fun t93_125 =>
  BND (faddr 0 t93_125) fun t94_126 =>
  BND (load1 w9 t94_126) fun t95_127 =>
  BND (lenl t95_127) fun t96_128 =>
  BND (nilchk t56_95) fun t97_129 =>
  BND (faddr 1 t97_129) fun t98_130 =>
  BND (storev 1 w9 t98_130 t96_128) fun w10 =>
  BND (binv .int .add t46_35 (Value.int .i64 1)) fun t99_131 =>
  (J_30 t99_131 w10 ∧ m_30 t99_131 w10 < m_30 t46_35 w7)))
  (R (.tuple #[]) w7)))
def ann_disk_Disk_Crash : List (Nat × List Nat) := [(10, [0, 1, 2, 5, 6, 7, 10, 11, 12, 3, 4, 8, 9, 13, 14, 15, 16]), (11, [0, 1, 2, 3, 5, 6, 7, 9, 4, 8, 10, 11, 12, 13, 14]), (1000005, [46])]
theorem E_disk_Disk_Crash (d_p0 open_p1 tails_p2 : Value) (w : World) (R : Value → World → Prop) : M_disk_Disk_Crash d_p0 open_p1 tails_p2 w R = den PR ann_disk_Disk_Crash (bodyOf Tryz.f12) (retQ PR Tryz.f12.results.toList R) (env0 [d_p0, open_p1, tails_p2]) w := by kernel_rfl
theorem C_disk_Disk_Crash {d_p0 open_p1 tails_p2 : Value} {w : World} {R : Value → World → Prop} (h : M_disk_Disk_Crash d_p0 open_p1 tails_p2 w R) : CALL PR F_disk_Disk_Crash [d_p0, open_p1, tails_p2] w R :=
  call_of_den2 ann_disk_Disk_Crash Tryz.func12 (by kernel_rfl) (by kernel_rfl) (by kernel_rfl) ((E_disk_Disk_Crash d_p0 open_p1 tails_p2 w R) ▸ h)
-- 13 tumbrel.seglog.Open
def M_seglog_Open (d_p0 seg_p1 at_p2 most_p3 : Value) (w : World) (R : Value → World → Prop) : Prop :=
  CALL PR F_seglog_made [d_p0, seg_p1, most_p3] w fun t19_1 w1 =>
  BND (extractv t19_1 0) fun t20_2 =>
  BND (extractv t19_1 1) fun t21_3 =>
  BND (extractv t19_1 2) fun t22_4 =>
  BND (binv .int .neq t22_4 (Value.int .i64 0)) fun t24_5 =>
  COND t24_5
  (R (.tuple #[(Value.pointer none), t22_4]) w1)
  (BND (nilchk t20_2) fun t28_6 =>
  BND (faddr 0 t28_6) fun t29_7 =>
  BND (load1 w1 t29_7) fun t30_8 =>
  CALL PR F_disk_Disk_Read [t30_8, t21_3] w1 fun t32_9 w2 =>
  BND (extractv t32_9 0) fun t33_10 =>
  BND (extractv t32_9 1) fun t34_11 =>
  BND (binv .int .neq t34_11 (Value.int .i64 0)) fun t37_12 =>
  COND t37_12
  (R (.tuple #[(Value.pointer none), t34_11]) w2)
  (BND (lenl t33_10) fun t41_13 =>
  BND (convi .u64 t41_13) fun t42_14 =>
  BND (binv .int .lss t42_14 at_p2) fun t44_15 =>
  COND t44_15
  (R (.tuple #[(Value.pointer none), (Value.int .i64 3)]) w2)
  (BND (lenl t33_10) fun t47_16 =>
  BND (convi .u64 t47_16) fun t48_17 =>
  BND (binv .int .gtr t48_17 at_p2) fun t50_18 =>
  JOIN (α := World → Prop) (fun k_38 => COND t50_18
  (BND (nilchk t20_2) fun t52_39 =>
  BND (faddr 0 t52_39) fun t53_40 =>
  BND (load1 w2 t53_40) fun t54_41 =>
  BND (convi .i64 at_p2) fun t57_42 =>
  CALL PR F_disk_Disk_Cut [t54_41, t21_3, t57_42] w2 fun t58_43 w6 =>
  BND (binv .int .neq t58_43 (Value.int .i64 0)) fun t60_44 =>
  COND t60_44
  (R (.tuple #[(Value.pointer none), t58_43]) w6)
  (k_38 w6))
  (k_38 w2))
  (fun w3 => BND (binv .int .add seg_p1 (Value.int .u64 1)) fun t66_33 =>
  BND (nilchk t20_2) fun t67_34 =>
  BND (faddr 2 t67_34) fun t68_35 =>
  BND (storev 1 w3 t68_35 at_p2) fun w4 =>
  BND (nilchk t20_2) fun t69_36 =>
  BND (faddr 4 t69_36) fun t70_37 =>
  BND (storev 1 w4 t70_37 t66_33) fun w5 =>
  R (.tuple #[t20_2, (Value.int .i64 0)]) w5))))
def ann_seglog_Open : List (Nat × List Nat) := []
theorem E_seglog_Open (d_p0 seg_p1 at_p2 most_p3 : Value) (w : World) (R : Value → World → Prop) : M_seglog_Open d_p0 seg_p1 at_p2 most_p3 w R = den PR ann_seglog_Open (bodyOf Tryz.f13) (retQ PR Tryz.f13.results.toList R) (env0 [d_p0, seg_p1, at_p2, most_p3]) w := by kernel_rfl
theorem C_seglog_Open {d_p0 seg_p1 at_p2 most_p3 : Value} {w : World} {R : Value → World → Prop} (h : M_seglog_Open d_p0 seg_p1 at_p2 most_p3 w R) : CALL PR F_seglog_Open [d_p0, seg_p1, at_p2, most_p3] w R :=
  call_of_den2 ann_seglog_Open Tryz.func13 (by kernel_rfl) (by kernel_rfl) (by kernel_rfl) ((E_seglog_Open d_p0 seg_p1 at_p2 most_p3 w R) ▸ h)
-- 14 tumbrel.tumbrellaw15.there
def M_tumbrellaw15_there (l_p0 p_p1 : Value) (w : World) (R : Value → World → Prop) : Prop :=
  BND (lenl p_p1) fun t13_1 =>
  ∃ (J_2 : Value → World → Prop) (m_2 : Value → World → Nat), J_2 (Value.int .i64 0) w ∧ ∀ (_d_2 : Env) (t14_10 : Value) (w1 : World), J_2 t14_10 w1 →
  (BND (binv .int .lss t14_10 t13_1) fun t15_46 =>
  COND t15_46
  (BND (iaddr 5 p_p1 t14_10) fun t16_47 =>
  BND (loadn 5 w1 t16_47) fun t17_48 =>
  NEW (newv 79 w1 (Value.agg #[(Value.int .i64 0), (Value.slice none 0 0), (Value.string ByteArray.empty), (Value.int .u64 0), (Value.int .u64 0)])) fun x_49 w2 =>
  BND (storev 5 w2 x_49 t17_48) fun w3 =>
  BND (faddr 3 x_49) fun t20_50 =>
  BND (load1 w3 t20_50) fun t21_51 =>
  BND (faddr 4 x_49) fun t22_52 =>
  BND (load1 w3 t22_52) fun t23_53 =>
  CALL PR F_seglog_Log_Read [l_p0, t21_51, t23_53] w3 fun t24_54 w4 =>
  BND (extractv t24_54 0) fun t25_55 =>
  BND (extractv t24_54 1) fun t26_56 =>
  BND (extractv t24_54 2) fun t27_57 =>
  NEW (newv 37 w4 (Value.agg #[(Value.int .i64 0), (Value.slice none 0 0), (Value.string ByteArray.empty)])) fun r_58 w5 =>
  BND (storev 3 w5 r_58 t25_55) fun w6 =>
  BND (faddr 0 x_49) fun t29_59 =>
  BND (loadn 3 w6 t29_59) fun t30_60 =>
  CALL PR F_record_Bytes [t30_60] w6 fun t31_61 w7 =>
  BND (extractv t31_61 0) fun t32_62 =>
  BND (extractv t31_61 1) fun t33_63 =>
  BND (binv .int .neq t27_57 (Value.int .i64 0)) fun t35_64 =>
  BND (grd (isB t35_64 false) (some t26_56)) fun t37_65 =>
  BND (grd (isB t35_64 false) (some t32_62)) fun t38_66 =>
  BND (grd (isB t35_64 false) (lenl t38_66)) fun t39_67 =>
  BND (grd (isB t35_64 false) (binv .int .neq t37_65 t39_67)) fun t40_68 =>
  BND (pickv t35_64 (Value.bool true) t40_68) fun t41_69 =>
  BND (grd (isB t41_69 false) (loadn 3 w7 r_58)) fun t43_70 =>
  BND (grd (isB t41_69 false) (faddr 0 x_49)) fun t44_71 =>
  BND (grd (isB t41_69 false) (loadn 3 w7 t44_71)) fun t45_72 =>
  GEF (isB t41_69 false) (fun k_ => CALL PR F_record_Same [t43_70, t45_72] w7 k_) w7 fun t46_73 w8 =>
  BND (grd (isB t41_69 false) (unv .not t46_73)) fun t47_74 =>
  BND (pickv t41_69 (Value.bool true) t47_74) fun t48_75 =>
  COND t48_75
  (R (Value.bool false) w8)
  (BND (binv .int .add t14_10 (Value.int .i64 1)) fun t49_76 =>
  (J_2 t49_76 w8 ∧ m_2 t49_76 w8 < m_2 t14_10 w1)))
  (R (Value.bool true) w1))
def ann_tumbrellaw15_there : List (Nat × List Nat) := [(1000002, [14])]
theorem E_tumbrellaw15_there (l_p0 p_p1 : Value) (w : World) (R : Value → World → Prop) : M_tumbrellaw15_there l_p0 p_p1 w R = den PR ann_tumbrellaw15_there (bodyOf Tryz.f14) (retQ PR Tryz.f14.results.toList R) (env0 [l_p0, p_p1]) w := by kernel_rfl
theorem C_tumbrellaw15_there {l_p0 p_p1 : Value} {w : World} {R : Value → World → Prop} (h : M_tumbrellaw15_there l_p0 p_p1 w R) : CALL PR F_tumbrellaw15_there [l_p0, p_p1] w R :=
  call_of_den2 ann_tumbrellaw15_there Tryz.func14 (by kernel_rfl) (by kernel_rfl) (by kernel_rfl) ((E_tumbrellaw15_there l_p0 p_p1 w R) ▸ h)
-- 15 tumbrel.disk.New
def M_disk_New (room_p0 : Value) (w : World) (R : Value → World → Prop) : Prop :=
  BND (binv .int .lss room_p0 (Value.int .i64 16)) fun t5_1 =>
  BND (grd (isB t5_1 false) (some room_p0)) fun t7_2 =>
  BND (grd (isB t5_1 false) (binv .int .gtr t7_2 (Value.int .i64 1048576))) fun t8_3 =>
  BND (pickv t5_1 (Value.bool true) t8_3) fun t9_4 =>
  COND t9_4
  (R (.tuple #[(Value.pointer none), (Value.int .i64 1)]) w)
  (NEW (newmap w) fun t11_5 w1 =>
  BND (buildv #[(Value.int .i64 0), (Value.map none), (Value.slice none 0 0), (Value.int .i64 0), (Value.bool false)] [(0, 1, room_p0), (1, 1, t11_5), (3, 1, (Value.int .i64 (-1)))]) fun t12_6 =>
  NEW (newv 98 w1 t12_6) fun t13_7 w2 =>
  R (.tuple #[t13_7, (Value.int .i64 0)]) w2)
def ann_disk_New : List (Nat × List Nat) := []
theorem E_disk_New (room_p0 : Value) (w : World) (R : Value → World → Prop) : M_disk_New room_p0 w R = den PR ann_disk_New (bodyOf Tryz.f15) (retQ PR Tryz.f15.results.toList R) (env0 [room_p0]) w := by kernel_rfl
theorem C_disk_New {room_p0 : Value} {w : World} {R : Value → World → Prop} (h : M_disk_New room_p0 w R) : CALL PR F_disk_New [room_p0] w R :=
  call_of_den2 ann_disk_New Tryz.func15 (by kernel_rfl) (by kernel_rfl) (by kernel_rfl) ((E_disk_New room_p0 w R) ▸ h)
-- 16 tumbrel.tumbrelref06.New
def M_tumbrelref06_New (room_p0 : Value) (w : World) (R : Value → World → Prop) : Prop :=
  BND (binv .int .lss room_p0 (Value.int .i64 16)) fun t5_1 =>
  BND (grd (isB t5_1 false) (some room_p0)) fun t7_2 =>
  BND (grd (isB t5_1 false) (binv .int .gtr t7_2 (Value.int .i64 1048576))) fun t8_3 =>
  BND (pickv t5_1 (Value.bool true) t8_3) fun t9_4 =>
  COND t9_4
  (R (.tuple #[(Value.pointer none), (Value.int .i64 1)]) w)
  (BND (newslice 125 #[(Value.string ByteArray.empty), (Value.int .i64 0)] 2 0 [] w) fun p_ => NEW p_ fun t11_5 w1 =>
  BND (newslice 111 #[(Value.slice none 0 0)] 1 1 [(0, 1, t11_5)] w1) fun p_ => NEW p_ fun t12_6 w2 =>
  BND (buildv #[(Value.int .i64 0), (Value.slice none 0 0), (Value.slice none 0 0), (Value.int .i64 0), (Value.bool false)] [(0, 1, room_p0), (2, 1, t12_6), (3, 1, (Value.int .i64 (-1)))]) fun t13_7 =>
  NEW (newv 74 w2 t13_7) fun t14_8 w3 =>
  R (.tuple #[t14_8, (Value.int .i64 0)]) w3)
def ann_tumbrelref06_New : List (Nat × List Nat) := []
theorem E_tumbrelref06_New (room_p0 : Value) (w : World) (R : Value → World → Prop) : M_tumbrelref06_New room_p0 w R = den PR ann_tumbrelref06_New (bodyOf Tryz.f16) (retQ PR Tryz.f16.results.toList R) (env0 [room_p0]) w := by kernel_rfl
theorem C_tumbrelref06_New {room_p0 : Value} {w : World} {R : Value → World → Prop} (h : M_tumbrelref06_New room_p0 w R) : CALL PR F_tumbrelref06_New [room_p0] w R :=
  call_of_den2 ann_tumbrelref06_New Tryz.func16 (by kernel_rfl) (by kernel_rfl) (by kernel_rfl) ((E_tumbrelref06_New room_p0 w R) ▸ h)
-- 17 tumbrel.tumbrellaw15.large
def M_tumbrellaw15_large (l_p0 : Value) (w : World) (R : Value → World → Prop) : Prop :=
  BND (lenl l_p0) fun t6_1 =>
  BND (binv .int .gtr t6_1 (Value.int .i64 60)) fun t7_2 =>
  COND t7_2
  (R (Value.bool true) w)
  (BND (lenl l_p0) fun t9_3 =>
  ∃ (J_4 : Value → World → Prop) (m_4 : Value → World → Nat), J_4 (Value.int .i64 0) w ∧ ∀ (_d_4 : Env) (t10_7 : Value) (w1 : World), J_4 t10_7 w1 →
  (BND (binv .int .lss t10_7 t9_3) fun t11_21 =>
  COND t11_21
  (BND (iaddr 8 l_p0 t10_7) fun t12_22 =>
  BND (loadn 8 w1 t12_22) fun t13_23 =>
  NEW (newv 59 w1 (Value.agg #[(Value.int .i64 0), (Value.int .i64 0), (Value.int .u64 0), (Value.int .u64 0), (Value.int .i64 0), (Value.slice none 0 0), (Value.string ByteArray.empty), (Value.slice none 0 0)])) fun x_24 w2 =>
  BND (storev 8 w2 x_24 t13_23) fun w3 =>
  BND (faddr 4 x_24) fun t14_25 =>
  BND (loadn 3 w3 t14_25) fun t15_26 =>
  CALL PR F_tumbrelref05_Large [t15_26] w3 fun t16_27 w4 =>
  BND (grd (isB t16_27 false) (faddr 7 x_24)) fun t18_28 =>
  BND (grd (isB t16_27 false) (load1 w4 t18_28)) fun t19_29 =>
  BND (grd (isB t16_27 false) (lenl t19_29)) fun t20_30 =>
  BND (grd (isB t16_27 false) (binv .int .gtr t20_30 (Value.int .i64 100))) fun t21_31 =>
  BND (pickv t16_27 (Value.bool true) t21_31) fun t22_32 =>
  COND t22_32
  (R (Value.bool true) w4)
  (BND (binv .int .add t10_7 (Value.int .i64 1)) fun t23_33 =>
  (J_4 t23_33 w4 ∧ m_4 t23_33 w4 < m_4 t10_7 w1)))
  (R (Value.bool false) w1)))
def ann_tumbrellaw15_large : List (Nat × List Nat) := [(1000004, [10])]
theorem E_tumbrellaw15_large (l_p0 : Value) (w : World) (R : Value → World → Prop) : M_tumbrellaw15_large l_p0 w R = den PR ann_tumbrellaw15_large (bodyOf Tryz.f17) (retQ PR Tryz.f17.results.toList R) (env0 [l_p0]) w := by kernel_rfl
theorem C_tumbrellaw15_large {l_p0 : Value} {w : World} {R : Value → World → Prop} (h : M_tumbrellaw15_large l_p0 w R) : CALL PR F_tumbrellaw15_large [l_p0] w R :=
  call_of_den2 ann_tumbrellaw15_large Tryz.func17 (by kernel_rfl) (by kernel_rfl) (by kernel_rfl) ((E_tumbrellaw15_large l_p0 w R) ▸ h)
-- 18 tumbrel.seglog.Begin
def M_seglog_Begin (d_p0 seg_p1 most_p2 : Value) (w : World) (R : Value → World → Prop) : Prop :=
  CALL PR F_seglog_made [d_p0, seg_p1, most_p2] w fun t16_1 w1 =>
  BND (extractv t16_1 0) fun t17_2 =>
  BND (extractv t16_1 1) fun t18_3 =>
  BND (extractv t16_1 2) fun t19_4 =>
  BND (binv .int .neq t19_4 (Value.int .i64 0)) fun t21_5 =>
  COND t21_5
  (R (.tuple #[(Value.pointer none), t19_4]) w1)
  (BND (nilchk t17_2) fun t24_6 =>
  BND (faddr 0 t24_6) fun t25_7 =>
  BND (load1 w1 t25_7) fun t26_8 =>
  CALL PR F_disk_Disk_Create [t26_8, t18_3] w1 fun t28_9 w2 =>
  BND (binv .int .neq t28_9 (Value.int .i64 0)) fun t30_10 =>
  COND t30_10
  (R (.tuple #[(Value.pointer none), t28_9]) w2)
  (BND (nilchk t17_2) fun t33_11 =>
  BND (faddr 5 t33_11) fun t34_12 =>
  BND (storev 1 w2 t34_12 (Value.bool true)) fun w3 =>
  R (.tuple #[t17_2, (Value.int .i64 0)]) w3))
def ann_seglog_Begin : List (Nat × List Nat) := []
theorem E_seglog_Begin (d_p0 seg_p1 most_p2 : Value) (w : World) (R : Value → World → Prop) : M_seglog_Begin d_p0 seg_p1 most_p2 w R = den PR ann_seglog_Begin (bodyOf Tryz.f18) (retQ PR Tryz.f18.results.toList R) (env0 [d_p0, seg_p1, most_p2]) w := by kernel_rfl
theorem C_seglog_Begin {d_p0 seg_p1 most_p2 : Value} {w : World} {R : Value → World → Prop} (h : M_seglog_Begin d_p0 seg_p1 most_p2 w R) : CALL PR F_seglog_Begin [d_p0, seg_p1, most_p2] w R :=
  call_of_den2 ann_seglog_Begin Tryz.func18 (by kernel_rfl) (by kernel_rfl) (by kernel_rfl) ((E_seglog_Begin d_p0 seg_p1 most_p2 w R) ▸ h)
-- 19 tumbrel.tumbrelref15.Begin
def M_tumbrelref15_Begin (d_p0 seg_p1 most_p2 : Value) (w : World) (R : Value → World → Prop) : Prop :=
  CALL PR F_tumbrelref15_may [d_p0, seg_p1, most_p2] w fun t12_1 w1 =>
  BND (unv .not t12_1) fun t13_2 =>
  COND t13_2
  (R (.tuple #[(Value.pointer none), (Value.int .i64 1)]) w1)
  (CALL PR F_tumbrelref15_file [seg_p1] w1 fun t16_3 w2 =>
  CALL PR F_tumbrelref06_Disk_Create [d_p0, t16_3] w2 fun t17_4 w3 =>
  BND (binv .int .neq t17_4 (Value.int .i64 0)) fun t19_5 =>
  COND t19_5
  (R (.tuple #[(Value.pointer none), t17_4]) w3)
  (BND (buildv #[(Value.pointer none), (Value.int .u64 0), (Value.int .u64 0), (Value.int .i64 0), (Value.int .u64 0), (Value.bool false)] [(0, 1, d_p0), (1, 1, seg_p1), (3, 1, most_p2), (4, 1, seg_p1), (5, 1, (Value.bool true))]) fun t25_6 =>
  NEW (newv 76 w3 t25_6) fun t26_7 w4 =>
  R (.tuple #[t26_7, (Value.int .i64 0)]) w4))
def ann_tumbrelref15_Begin : List (Nat × List Nat) := []
theorem E_tumbrelref15_Begin (d_p0 seg_p1 most_p2 : Value) (w : World) (R : Value → World → Prop) : M_tumbrelref15_Begin d_p0 seg_p1 most_p2 w R = den PR ann_tumbrelref15_Begin (bodyOf Tryz.f19) (retQ PR Tryz.f19.results.toList R) (env0 [d_p0, seg_p1, most_p2]) w := by kernel_rfl
theorem C_tumbrelref15_Begin {d_p0 seg_p1 most_p2 : Value} {w : World} {R : Value → World → Prop} (h : M_tumbrelref15_Begin d_p0 seg_p1 most_p2 w R) : CALL PR F_tumbrelref15_Begin [d_p0, seg_p1, most_p2] w R :=
  call_of_den2 ann_tumbrelref15_Begin Tryz.func19 (by kernel_rfl) (by kernel_rfl) (by kernel_rfl) ((E_tumbrelref15_Begin d_p0 seg_p1 most_p2 w R) ▸ h)
-- 20 tumbrel.tumbrellaw15.do
def M_tumbrellaw15_do (d_p0 l_p1 x_p2 size_p3 : Value) (w : World) (R : Value → World → Prop) : Prop :=
  NEW (newv 59 w x_p2) fun x_1 w1 =>
  NEW (newv 61 w1 (Value.agg #[(Value.int .i64 0), (Value.int .u64 0), (Value.int .u64 0), (Value.int .i64 0), (Value.slice none 0 0), (Value.string ByteArray.empty), (Value.int .i64 0)])) fun t9_2 w2 =>
  NEW (newv 61 w2 (Value.agg #[(Value.int .i64 0), (Value.int .u64 0), (Value.int .u64 0), (Value.int .i64 0), (Value.slice none 0 0), (Value.string ByteArray.empty), (Value.int .i64 0)])) fun t_3 w3 =>
  BND (faddr 0 x_1) fun t15_4 =>
  BND (load1 w3 t15_4) fun t16_5 =>
  BND (binv .int .eql t16_5 (Value.int .i64 0)) fun t24_6 =>
  JOIN (α := Value → World → Prop) (fun k_110 => COND t24_6
  (BND (binv .ptr .neq l_p1 (Value.pointer none)) fun t26_111 =>
  JOIN (α := World → Prop) (fun k_123 => COND t26_111
  (BND (faddr 4 x_1) fun t29_124 =>
  BND (loadn 3 w3 t29_124) fun t30_125 =>
  CALL PR F_seglog_Log_Append [l_p1, t30_125] w3 fun t31_126 w7 =>
  BND (extractv t31_126 0) fun t32_127 =>
  BND (extractv t31_126 1) fun t33_128 =>
  BND (extractv t31_126 2) fun t34_129 =>
  BND (faddr 1 t_3) fun t35_130 =>
  BND (storev 1 w7 t35_130 t32_127) fun w8 =>
  BND (faddr 2 t_3) fun t36_131 =>
  BND (storev 1 w8 t36_131 t33_128) fun w9 =>
  BND (faddr 0 t_3) fun t37_132 =>
  BND (storev 1 w9 t37_132 t34_129) fun w10 =>
  k_123 w10)
  (k_123 w3))
  (fun w6 => k_110 l_p1 w6))
  (BND (binv .int .eql t16_5 (Value.int .i64 1)) fun t39_133 =>
  JOIN (α := Value → World → Prop) (fun k_220 => COND t39_133
  (BND (binv .ptr .neq l_p1 (Value.pointer none)) fun t41_221 =>
  JOIN (α := World → Prop) (fun k_267 => COND t41_221
  (NEW (newv 37 w3 (Value.agg #[(Value.int .i64 0), (Value.slice none 0 0), (Value.string ByteArray.empty)])) fun r_268 w13 =>
  BND (faddr 2 x_1) fun t44_269 =>
  BND (load1 w13 t44_269) fun t45_270 =>
  BND (faddr 3 x_1) fun t46_271 =>
  BND (load1 w13 t46_271) fun t47_272 =>
  CALL PR F_seglog_Log_Read [l_p1, t45_270, t47_272] w13 fun t48_273 w14 =>
  BND (extractv t48_273 0) fun t49_274 =>
  BND (extractv t48_273 1) fun t50_275 =>
  BND (extractv t48_273 2) fun t51_276 =>
  BND (storev 3 w14 r_268 t49_274) fun w15 =>
  BND (faddr 6 t_3) fun t52_277 =>
  BND (storev 1 w15 t52_277 t50_275) fun w16 =>
  BND (faddr 0 t_3) fun t53_278 =>
  BND (storev 1 w16 t53_278 t51_276) fun w17 =>
  BND (loadn 3 w17 r_268) fun t54_279 =>
  BND (faddr 3 t_3) fun t55_280 =>
  BND (storev 3 w17 t55_280 t54_279) fun w18 =>
  BND (faddr 2 x_1) fun t58_281 =>
  BND (load1 w18 t58_281) fun t59_282 =>
  BND (faddr 3 x_1) fun t60_283 =>
  BND (load1 w18 t60_283) fun t61_284 =>
  CALL PR F_seglog_At [d_p0, t59_282, t61_284] w18 fun t62_285 w19 =>
  BND (extractv t62_285 0) fun t63_286 =>
  BND (extractv t62_285 1) fun t64_287 =>
  BND (extractv t62_285 2) fun t65_288 =>
  NEW (newv 37 w19 (Value.agg #[(Value.int .i64 0), (Value.slice none 0 0), (Value.string ByteArray.empty)])) fun s_289 w20 =>
  BND (storev 3 w20 s_289 t63_286) fun w21 =>
  BND (loadn 3 w21 s_289) fun t66_290 =>
  BND (loadn 3 w21 r_268) fun t67_291 =>
  CALL PR F_record_Same [t66_290, t67_291] w21 fun t68_292 w22 =>
  BND (unv .not t68_292) fun t69_293 =>
  BND (grd (isB t69_293 false) (some t64_287)) fun t71_294 =>
  BND (grd (isB t69_293 false) (faddr 6 t_3)) fun t72_295 =>
  BND (grd (isB t69_293 false) (load1 w22 t72_295)) fun t73_296 =>
  BND (grd (isB t69_293 false) (binv .int .neq t71_294 t73_296)) fun t74_297 =>
  BND (pickv t69_293 (Value.bool true) t74_297) fun t75_298 =>
  BND (grd (isB t75_298 false) (some t65_288)) fun t77_299 =>
  BND (grd (isB t75_298 false) (faddr 0 t_3)) fun t78_300 =>
  BND (grd (isB t75_298 false) (load1 w22 t78_300)) fun t79_301 =>
  BND (grd (isB t75_298 false) (binv .int .neq t77_299 t79_301)) fun t80_302 =>
  BND (pickv t75_298 (Value.bool true) t80_302) fun t81_303 =>
  JOIN (α := World → Prop) (fun k_305 => COND t81_303
  (BND (faddr 6 t_3) fun t82_306 =>
  BND (storev 1 w22 t82_306 (Value.int .i64 (-1))) fun w24 =>
  k_305 w24)
  (k_305 w22))
  (fun w23 => k_267 w23))
  (k_267 w3))
  (fun w12 => k_220 l_p1 w12))
  (BND (binv .int .eql t16_5 (Value.int .i64 2)) fun t84_307 =>
  JOIN (α := Value → World → Prop) (fun k_345 => COND t84_307
  (BND (binv .ptr .neq l_p1 (Value.pointer none)) fun t86_346 =>
  JOIN (α := World → Prop) (fun k_350 => COND t86_346
  (CALL PR F_seglog_Log_Sync [l_p1] w3 fun t88_351 w27 =>
  BND (faddr 0 t_3) fun t89_352 =>
  BND (storev 1 w27 t89_352 t88_351) fun w28 =>
  k_350 w28)
  (k_350 w3))
  (fun w26 => k_345 l_p1 w26))
  (BND (binv .int .eql t16_5 (Value.int .i64 3)) fun t91_353 =>
  JOIN (α := Value → World → Prop) (fun k_384 => COND t91_353
  (BND (faddr 1 x_1) fun t93_385 =>
  BND (load1 w3 t93_385) fun t94_386 =>
  CALL PR F_disk_Disk_Fuse [d_p0, t94_386] w3 fun t95_387 w30 =>
  k_384 l_p1 w30)
  (BND (binv .int .eql t16_5 (Value.int .i64 4)) fun t97_388 =>
  JOIN (α := Value → World → Prop) (fun k_413 => COND t97_388
  (BND (faddr 1 x_1) fun t99_414 =>
  BND (load1 w3 t99_414) fun t100_415 =>
  BND (faddr 7 x_1) fun t101_416 =>
  BND (load1 w3 t101_416) fun t102_417 =>
  CALL PR F_disk_Disk_Crash [d_p0, t100_415, t102_417] w3 fun t103_418 w32 =>
  BND (faddr 2 x_1) fun t106_419 =>
  BND (load1 w32 t106_419) fun t107_420 =>
  BND (faddr 3 x_1) fun t108_421 =>
  BND (load1 w32 t108_421) fun t109_422 =>
  CALL PR F_seglog_Open [d_p0, t107_420, t109_422, size_p3] w32 fun t111_423 w33 =>
  BND (extractv t111_423 0) fun t112_424 =>
  BND (extractv t111_423 1) fun t113_425 =>
  BND (faddr 0 t_3) fun t114_426 =>
  BND (storev 1 w33 t114_426 t113_425) fun w34 =>
  k_413 t112_424 w34)
  (CALL PR F_disk_Disk_Create [d_p0, (Value.string { data := #[97] })] w3 fun t18_427 w35 =>
  BND (mkslice 5 1 1 (Value.int .u8 0) w35 (Value.int .i64 20) (Value.int .i64 20)) fun p_ => NEW p_ fun t20_428 w36 =>
  CALL PR F_disk_Disk_Append [d_p0, (Value.string { data := #[97] }), t20_428] w36 fun t21_429 w37 =>
  BND (faddr 0 t_3) fun t22_430 =>
  BND (storev 1 w37 t22_430 t21_429) fun w38 =>
  k_413 l_p1 w38))
  (fun l_389 w31 => k_384 l_389 w31)))
  (fun l_354 w29 => k_345 l_354 w29)))
  (fun l_308 w25 => k_220 l_308 w25)))
  (fun l_134 w11 => k_110 l_134 w11)))
  (fun l_7 w4 => BND (loadn 7 w4.drew t_3) fun t116_108 =>
  BND (storev 7 w4.drew t9_2 t116_108) fun w5 =>
  BND (loadn 7 w5 t9_2) fun r_109 =>
  R (.tuple #[l_7, r_109]) w5)
def ann_tumbrellaw15_do : List (Nat × List Nat) := [(24, [0, 2, 1, 3])]
theorem E_tumbrellaw15_do (d_p0 l_p1 x_p2 size_p3 : Value) (w : World) (R : Value → World → Prop) : M_tumbrellaw15_do d_p0 l_p1 x_p2 size_p3 w R = den PR ann_tumbrellaw15_do (bodyOf Tryz.f20) (retQ PR Tryz.f20.results.toList R) (env0 [d_p0, l_p1, x_p2, size_p3]) w := by kernel_rfl
theorem C_tumbrellaw15_do {d_p0 l_p1 x_p2 size_p3 : Value} {w : World} {R : Value → World → Prop} (h : M_tumbrellaw15_do d_p0 l_p1 x_p2 size_p3 w R) : CALL PR F_tumbrellaw15_do [d_p0, l_p1, x_p2, size_p3] w R :=
  call_of_den2 ann_tumbrellaw15_do Tryz.func20 (by kernel_rfl) (by kernel_rfl) (by kernel_rfl) ((E_tumbrellaw15_do d_p0 l_p1 x_p2 size_p3 w R) ▸ h)
-- 21 tumbrel.tumbrellaw15.own
def M_tumbrellaw15_own (d_p0 l_p1 x_p2 size_p3 : Value) (w : World) (R : Value → World → Prop) : Prop :=
  NEW (newv 59 w x_p2) fun x_1 w1 =>
  NEW (newv 61 w1 (Value.agg #[(Value.int .i64 0), (Value.int .u64 0), (Value.int .u64 0), (Value.int .i64 0), (Value.slice none 0 0), (Value.string ByteArray.empty), (Value.int .i64 0)])) fun t9_2 w2 =>
  NEW (newv 61 w2 (Value.agg #[(Value.int .i64 0), (Value.int .u64 0), (Value.int .u64 0), (Value.int .i64 0), (Value.slice none 0 0), (Value.string ByteArray.empty), (Value.int .i64 0)])) fun t_3 w3 =>
  BND (faddr 0 x_1) fun t11_4 =>
  BND (load1 w3 t11_4) fun t12_5 =>
  BND (binv .int .eql t12_5 (Value.int .i64 0)) fun t20_6 =>
  JOIN (α := Value → World → Prop) (fun k_78 => COND t20_6
  (BND (binv .ptr .neq l_p1 (Value.pointer none)) fun t22_79 =>
  JOIN (α := World → Prop) (fun k_91 => COND t22_79
  (BND (faddr 4 x_1) fun t25_92 =>
  BND (loadn 3 w3 t25_92) fun t26_93 =>
  CALL PR F_tumbrelref15_Log_Append [l_p1, t26_93] w3 fun t27_94 w7 =>
  BND (extractv t27_94 0) fun t28_95 =>
  BND (extractv t27_94 1) fun t29_96 =>
  BND (extractv t27_94 2) fun t30_97 =>
  BND (faddr 1 t_3) fun t31_98 =>
  BND (storev 1 w7 t31_98 t28_95) fun w8 =>
  BND (faddr 2 t_3) fun t32_99 =>
  BND (storev 1 w8 t32_99 t29_96) fun w9 =>
  BND (faddr 0 t_3) fun t33_100 =>
  BND (storev 1 w9 t33_100 t30_97) fun w10 =>
  k_91 w10)
  (k_91 w3))
  (fun w6 => k_78 l_p1 w6))
  (BND (binv .int .eql t12_5 (Value.int .i64 1)) fun t35_101 =>
  JOIN (α := Value → World → Prop) (fun k_156 => COND t35_101
  (BND (binv .ptr .neq l_p1 (Value.pointer none)) fun t37_157 =>
  JOIN (α := World → Prop) (fun k_171 => COND t37_157
  (BND (faddr 2 x_1) fun t40_172 =>
  BND (load1 w3 t40_172) fun t41_173 =>
  BND (faddr 3 x_1) fun t42_174 =>
  BND (load1 w3 t42_174) fun t43_175 =>
  CALL PR F_tumbrelref15_Read [d_p0, t41_173, t43_175] w3 fun t44_176 w13 =>
  BND (extractv t44_176 0) fun t45_177 =>
  BND (extractv t44_176 1) fun t46_178 =>
  BND (extractv t44_176 2) fun t47_179 =>
  BND (faddr 3 t_3) fun t48_180 =>
  BND (storev 3 w13 t48_180 t45_177) fun w14 =>
  BND (faddr 6 t_3) fun t49_181 =>
  BND (storev 1 w14 t49_181 t46_178) fun w15 =>
  BND (faddr 0 t_3) fun t50_182 =>
  BND (storev 1 w15 t50_182 t47_179) fun w16 =>
  k_171 w16)
  (k_171 w3))
  (fun w12 => k_156 l_p1 w12))
  (BND (binv .int .eql t12_5 (Value.int .i64 2)) fun t52_183 =>
  JOIN (α := Value → World → Prop) (fun k_221 => COND t52_183
  (BND (binv .ptr .neq l_p1 (Value.pointer none)) fun t54_222 =>
  JOIN (α := World → Prop) (fun k_226 => COND t54_222
  (CALL PR F_tumbrelref15_Log_Sync [l_p1] w3 fun t56_227 w19 =>
  BND (faddr 0 t_3) fun t57_228 =>
  BND (storev 1 w19 t57_228 t56_227) fun w20 =>
  k_226 w20)
  (k_226 w3))
  (fun w18 => k_221 l_p1 w18))
  (BND (binv .int .eql t12_5 (Value.int .i64 3)) fun t59_229 =>
  JOIN (α := Value → World → Prop) (fun k_260 => COND t59_229
  (BND (faddr 1 x_1) fun t61_261 =>
  BND (load1 w3 t61_261) fun t62_262 =>
  CALL PR F_tumbrelref06_Disk_Fuse [d_p0, t62_262] w3 fun t63_263 w22 =>
  k_260 l_p1 w22)
  (BND (binv .int .eql t12_5 (Value.int .i64 4)) fun t65_264 =>
  JOIN (α := Value → World → Prop) (fun k_289 => COND t65_264
  (BND (faddr 1 x_1) fun t67_290 =>
  BND (load1 w3 t67_290) fun t68_291 =>
  BND (faddr 7 x_1) fun t69_292 =>
  BND (load1 w3 t69_292) fun t70_293 =>
  CALL PR F_tumbrelref06_Disk_Crash [d_p0, t68_291, t70_293] w3 fun t71_294 w24 =>
  BND (faddr 2 x_1) fun t74_295 =>
  BND (load1 w24 t74_295) fun t75_296 =>
  BND (faddr 3 x_1) fun t76_297 =>
  BND (load1 w24 t76_297) fun t77_298 =>
  CALL PR F_tumbrelref15_Open [d_p0, t75_296, t77_298, size_p3] w24 fun t79_299 w25 =>
  BND (extractv t79_299 0) fun t80_300 =>
  BND (extractv t79_299 1) fun t81_301 =>
  BND (faddr 0 t_3) fun t82_302 =>
  BND (storev 1 w25 t82_302 t81_301) fun w26 =>
  k_289 t80_300 w26)
  (CALL PR F_tumbrelref06_Disk_Create [d_p0, (Value.string { data := #[97] })] w3 fun t14_303 w27 =>
  BND (mkslice 5 1 1 (Value.int .u8 0) w27 (Value.int .i64 20) (Value.int .i64 20)) fun p_ => NEW p_ fun t16_304 w28 =>
  CALL PR F_tumbrelref06_Disk_Append [d_p0, (Value.string { data := #[97] }), t16_304] w28 fun t17_305 w29 =>
  BND (faddr 0 t_3) fun t18_306 =>
  BND (storev 1 w29 t18_306 t17_305) fun w30 =>
  k_289 l_p1 w30))
  (fun l_265 w23 => k_260 l_265 w23)))
  (fun l_230 w21 => k_221 l_230 w21)))
  (fun l_184 w17 => k_156 l_184 w17)))
  (fun l_102 w11 => k_78 l_102 w11)))
  (fun l_7 w4 => BND (loadn 7 w4.drew t_3) fun t84_76 =>
  BND (storev 7 w4.drew t9_2 t84_76) fun w5 =>
  BND (loadn 7 w5 t9_2) fun r_77 =>
  R (.tuple #[l_7, r_77]) w5)
def ann_tumbrellaw15_own : List (Nat × List Nat) := [(19, [0, 2, 1, 3])]
theorem E_tumbrellaw15_own (d_p0 l_p1 x_p2 size_p3 : Value) (w : World) (R : Value → World → Prop) : M_tumbrellaw15_own d_p0 l_p1 x_p2 size_p3 w R = den PR ann_tumbrellaw15_own (bodyOf Tryz.f21) (retQ PR Tryz.f21.results.toList R) (env0 [d_p0, l_p1, x_p2, size_p3]) w := by kernel_rfl
theorem C_tumbrellaw15_own {d_p0 l_p1 x_p2 size_p3 : Value} {w : World} {R : Value → World → Prop} (h : M_tumbrellaw15_own d_p0 l_p1 x_p2 size_p3 w R) : CALL PR F_tumbrellaw15_own [d_p0, l_p1, x_p2, size_p3] w R :=
  call_of_den2 ann_tumbrellaw15_own Tryz.func21 (by kernel_rfl) (by kernel_rfl) (by kernel_rfl) ((E_tumbrellaw15_own d_p0 l_p1 x_p2 size_p3 w R) ▸ h)
-- 22 tumbrel.tumbrellaw15.alike
def M_tumbrellaw15_alike (a_p0 b_p1 : Value) (w : World) (R : Value → World → Prop) : Prop :=
  NEW (newv 61 w a_p0) fun a_1 w1 =>
  NEW (newv 61 w1 b_p1) fun b_2 w2 =>
  BND (faddr 0 a_1) fun t5_3 =>
  BND (load1 w2 t5_3) fun t6_4 =>
  BND (faddr 0 b_2) fun t7_5 =>
  BND (load1 w2 t7_5) fun t8_6 =>
  BND (binv .int .eql t6_4 t8_6) fun t9_7 =>
  BND (grd (isB t9_7 true) (faddr 1 a_1)) fun t11_8 =>
  BND (grd (isB t9_7 true) (load1 w2 t11_8)) fun t12_9 =>
  BND (grd (isB t9_7 true) (faddr 1 b_2)) fun t13_10 =>
  BND (grd (isB t9_7 true) (load1 w2 t13_10)) fun t14_11 =>
  BND (grd (isB t9_7 true) (binv .int .eql t12_9 t14_11)) fun t15_12 =>
  BND (pickv t9_7 t15_12 (Value.bool false)) fun t16_13 =>
  BND (grd (isB t16_13 true) (faddr 2 a_1)) fun t18_14 =>
  BND (grd (isB t16_13 true) (load1 w2 t18_14)) fun t19_15 =>
  BND (grd (isB t16_13 true) (faddr 2 b_2)) fun t20_16 =>
  BND (grd (isB t16_13 true) (load1 w2 t20_16)) fun t21_17 =>
  BND (grd (isB t16_13 true) (binv .int .eql t19_15 t21_17)) fun t22_18 =>
  BND (pickv t16_13 t22_18 (Value.bool false)) fun t23_19 =>
  BND (grd (isB t23_19 true) (faddr 6 a_1)) fun t25_20 =>
  BND (grd (isB t23_19 true) (load1 w2 t25_20)) fun t26_21 =>
  BND (grd (isB t23_19 true) (faddr 6 b_2)) fun t27_22 =>
  BND (grd (isB t23_19 true) (load1 w2 t27_22)) fun t28_23 =>
  BND (grd (isB t23_19 true) (binv .int .eql t26_21 t28_23)) fun t29_24 =>
  BND (pickv t23_19 t29_24 (Value.bool false)) fun t30_25 =>
  BND (grd (isB t30_25 true) (faddr 3 a_1)) fun t32_26 =>
  BND (grd (isB t30_25 true) (loadn 3 w2 t32_26)) fun t33_27 =>
  GEF (isB t30_25 true) (fun k_ => BND (newslice 39 #[(Value.int .i64 0), (Value.slice none 0 0), (Value.string ByteArray.empty)] 3 1 [(0, 3, t33_27)] w2) fun p_ => NEW p_ k_) w2 fun t34_28 w3 =>
  BND (grd (isB t30_25 true) (faddr 3 b_2)) fun t35_29 =>
  BND (grd (isB t30_25 true) (loadn 3 w3 t35_29)) fun t36_30 =>
  GEF (isB t30_25 true) (fun k_ => BND (newslice 39 #[(Value.int .i64 0), (Value.slice none 0 0), (Value.string ByteArray.empty)] 3 1 [(0, 3, t36_30)] w3) fun p_ => NEW p_ k_) w3 fun t37_31 w4 =>
  GEF (isB t30_25 true) (fun k_ => CALL PR F_tumbrelref05_Same [t34_28, t37_31] w4 k_) w4 fun t38_32 w5 =>
  BND (pickv t30_25 t38_32 (Value.bool false)) fun t39_33 =>
  R t39_33 w5
def ann_tumbrellaw15_alike : List (Nat × List Nat) := []
theorem E_tumbrellaw15_alike (a_p0 b_p1 : Value) (w : World) (R : Value → World → Prop) : M_tumbrellaw15_alike a_p0 b_p1 w R = den PR ann_tumbrellaw15_alike (bodyOf Tryz.f22) (retQ PR Tryz.f22.results.toList R) (env0 [a_p0, b_p1]) w := by kernel_rfl
theorem C_tumbrellaw15_alike {a_p0 b_p1 : Value} {w : World} {R : Value → World → Prop} (h : M_tumbrellaw15_alike a_p0 b_p1 w R) : CALL PR F_tumbrellaw15_alike [a_p0, b_p1] w R :=
  call_of_den2 ann_tumbrellaw15_alike Tryz.func22 (by kernel_rfl) (by kernel_rfl) (by kernel_rfl) ((E_tumbrellaw15_alike a_p0 b_p1 w R) ▸ h)
-- 23 tumbrel.tumbrelref06.Same
def M_tumbrelref06_Same (a_p0 b_p1 : Value) (w : World) (R : Value → World → Prop) : Prop :=
  BND (lenl a_p0) fun t7_1 =>
  BND (lenl b_p1) fun t9_2 =>
  BND (binv .int .neq t7_1 t9_2) fun t10_3 =>
  COND t10_3
  (R (Value.bool false) w)
  (∃ (J_4 : Value → World → Prop) (m_4 : Value → World → Nat), J_4 (Value.int .i64 0) w ∧ ∀ (_d_4 : Env) (i_6 : Value) (w1 : World), J_4 i_6 w1 →
  (BND (lenl a_p0) fun t13_22 =>
  BND (binv .int .lss i_6 t13_22) fun t14_23 =>
  COND t14_23
  (BND (iaddr 1 a_p0 i_6) fun t19_24 =>
  BND (iaddr 1 b_p1 i_6) fun t23_25 =>
  BND (load1 w1.drew t19_24) fun t20_26 =>
  BND (load1 w1.drew t23_25) fun t24_27 =>
  BND (binv .str .neq t20_26 t24_27) fun t25_28 =>
  COND t25_28
  (R (Value.bool false) w1.drew)
  (BND (binv .int .add i_6 (Value.int .i64 1)) fun t16_29 =>
  (J_4 t16_29 w1.drew ∧ m_4 t16_29 w1.drew < m_4 i_6 w1)))
  (R (Value.bool true) w1)))
def ann_tumbrelref06_Same : List (Nat × List Nat) := [(6, [0, 1, 2, 4, 5, 6, 3, 7, 8]), (1000004, [5])]
theorem E_tumbrelref06_Same (a_p0 b_p1 : Value) (w : World) (R : Value → World → Prop) : M_tumbrelref06_Same a_p0 b_p1 w R = den PR ann_tumbrelref06_Same (bodyOf Tryz.f23) (retQ PR Tryz.f23.results.toList R) (env0 [a_p0, b_p1]) w := by kernel_rfl
theorem C_tumbrelref06_Same {a_p0 b_p1 : Value} {w : World} {R : Value → World → Prop} (h : M_tumbrelref06_Same a_p0 b_p1 w R) : CALL PR F_tumbrelref06_Same [a_p0, b_p1] w R :=
  call_of_den2 ann_tumbrelref06_Same Tryz.func23 (by kernel_rfl) (by kernel_rfl) (by kernel_rfl) ((E_tumbrelref06_Same a_p0 b_p1 w R) ▸ h)
-- 24 (*tumbrel.disk.Disk).Names
def M_disk_Disk_Names (d_p0 : Value) (w : World) (R : Value → World → Prop) : Prop :=
  CALL PR F_disk_Disk_now [d_p0] w fun t4_1 w1 =>
  CALL PR F_maps_Keys_file [t4_1] w1 fun t5_2 w2 =>
  CALL PR F_slices_Sorted_string [t5_2] w2 fun t6_3 w3 =>
  R t6_3 w3
def ann_disk_Disk_Names : List (Nat × List Nat) := []
theorem E_disk_Disk_Names (d_p0 : Value) (w : World) (R : Value → World → Prop) : M_disk_Disk_Names d_p0 w R = den PR ann_disk_Disk_Names (bodyOf Tryz.f24) (retQ PR Tryz.f24.results.toList R) (env0 [d_p0]) w := by kernel_rfl
theorem C_disk_Disk_Names {d_p0 : Value} {w : World} {R : Value → World → Prop} (h : M_disk_Disk_Names d_p0 w R) : CALL PR F_disk_Disk_Names [d_p0] w R :=
  call_of_den2 ann_disk_Disk_Names Tryz.func24 (by kernel_rfl) (by kernel_rfl) (by kernel_rfl) ((E_disk_Disk_Names d_p0 w R) ▸ h)
-- 25 (*tumbrel.tumbrelref06.Disk).Names
def M_tumbrelref06_Disk_Names (d_p0 : Value) (w : World) (R : Value → World → Prop) : Prop :=
  BND (newslice 9 #[(Value.string ByteArray.empty)] 1 0 [] w) fun p_ => NEW p_ fun t6_1 w1 =>
  CALL PR F_tumbrelref06_Disk_now [d_p0] w1 fun t8_2 w2 =>
  ∃ (J_3 : Value → Value → World → Prop) (m_3 : Value → Value → World → Nat), J_3 t6_1 (Value.int .i64 0) w2 ∧ ∀ (_d_3 : Env) (out_4 i_5 : Value) (w3 : World), J_3 out_4 i_5 w3 →
  (BND (lenl t8_2) fun t11_20 =>
  BND (binv .int .lss i_5 t11_20) fun t12_21 =>
  COND t12_21
  (BND (iaddr 2 t8_2 i_5) fun t18_22 =>
  BND (faddr 0 t18_22) fun t19_23 =>
  BND (load1 w3 t19_23) fun t20_24 =>
  BND (newslice 9 #[(Value.string ByteArray.empty)] 1 1 [(0, 1, t20_24)] w3) fun p_ => NEW p_ fun t21_25 w4 =>
  APPEND 9 1 16 (Value.string ByteArray.empty) out_4 t21_25 w4 fun t22_26 w5 =>
  BND (binv .int .add i_5 (Value.int .i64 1)) fun t14_27 =>
  (J_3 t22_26 t14_27 w5 ∧ m_3 t22_26 t14_27 w5 < m_3 out_4 i_5 w3))
  (R out_4 w3))
def ann_tumbrelref06_Disk_Names : List (Nat × List Nat) := [(1000004, [3, 5])]
theorem E_tumbrelref06_Disk_Names (d_p0 : Value) (w : World) (R : Value → World → Prop) : M_tumbrelref06_Disk_Names d_p0 w R = den PR ann_tumbrelref06_Disk_Names (bodyOf Tryz.f25) (retQ PR Tryz.f25.results.toList R) (env0 [d_p0]) w := by kernel_rfl
theorem C_tumbrelref06_Disk_Names {d_p0 : Value} {w : World} {R : Value → World → Prop} (h : M_tumbrelref06_Disk_Names d_p0 w R) : CALL PR F_tumbrelref06_Disk_Names [d_p0] w R :=
  call_of_den2 ann_tumbrelref06_Disk_Names Tryz.func25 (by kernel_rfl) (by kernel_rfl) (by kernel_rfl) ((E_tumbrelref06_Disk_Names d_p0 w R) ▸ h)
-- 26 (*tumbrel.disk.Disk).Held
def M_disk_Disk_Held (d_p0 : Value) (w : World) (R : Value → World → Prop) : Prop :=
  ∃ S_1 : Nat → World → Prop,
  S_1 8 w.drew ∧
  BND (nilchk d_p0) fun t10_2 =>
  BND (faddr 1 t10_2) fun t11_3 =>
  BND (nilchk d_p0) fun t15_4 =>
  BND (faddr 2 t15_4) fun t16_5 =>
  FLT (S_1 8) (fun w_ => load1 w_ t16_5) fun t17_6 =>
  BND (load1 w.drew t11_3) fun t12_7 =>
  BND (newslice 95 #[(Value.map none)] 1 1 [(0, 1, t12_7)] w.drew) fun p_ => NEW p_ fun t13_8 w1 =>
  S_1 8 w1 ∧
  APPEND 95 1 8 (Value.map none) t13_8 t17_6 w1 fun t18_9 w2 =>
  BND (lenl t18_9) fun t19_10 =>
  ∃ (J_11 : Value → Value → Value → World → Prop) (m_11 : Value → Value → Value → World → Nat), J_11 (Value.slice none 0 0) (Value.int .i64 0) (Value.int .i64 0) w2 ∧ ∀ (_d_11 : Env) (seen_12 n_13 t20_16 : Value) (w3 : World), J_11 seen_12 n_13 t20_16 w3 →
  (BND (binv .int .lss t20_16 t19_10) fun t21_42 =>
  COND t21_42
  (BND (iaddr 1 t18_9 t20_16) fun t22_43 =>
  BND (load1 w3 t22_43) fun t23_44 =>
  BND (rangemv w3 t23_44) fun p_ => NEW p_ fun t25_45 w4 =>
  ∃ (J_46 : Value → Value → World → Prop) (m_46 : Value → Value → World → Nat), J_46 seen_12 n_13 w4 ∧ ∀ (_d_46 : Env) (seen_47 n_48 : Value) (w5 : World), J_46 seen_47 n_48 w5 →
  (NEXTM t25_45 w5 fun t26_69 w6 =>
  BND (extractv t26_69 0) fun t27_70 =>
  COND t27_70
  (BND (entryv w6 t25_45) fun t28_71 =>
  BND (extractv t28_71 1) fun t29_72 =>
  CALL PR F_slices_Contains_disk_file_disk_file [seen_47, t29_72] w6 fun t32_73 w7 =>
  BND (unv .not t32_73) fun t33_74 =>
  JOIN (α := Value → Value → World → Prop) (fun k_88 => COND t33_74
  (BND (newslice 103 #[(Value.pointer none)] 1 1 [(0, 1, t29_72)] w7) fun p_ => NEW p_ fun t36_89 w9 =>
  APPEND 103 1 8 (Value.pointer none) seen_47 t36_89 w9 fun t37_90 w10 =>
  BND (nilchk t29_72) fun t40_91 =>
  BND (faddr 0 t40_91) fun t41_92 =>
  BND (load1 w10 t41_92) fun t42_93 =>
  BND (lenl t42_93) fun t43_94 =>
  BND (binv .int .add n_48 t43_94) fun t44_95 =>
  k_88 t37_90 t44_95 w10)
  (k_88 seen_47 n_48 w7))
  (fun seen_75 n_76 w8 => (J_46 seen_75 n_76 w8 ∧ m_46 seen_75 n_76 w8 < m_46 seen_47 n_48 w5)))
  (BND (binv .int .add t20_16 (Value.int .i64 1)) fun t45_96 =>
  (J_11 seen_47 n_48 t45_96 w6 ∧ m_11 seen_47 n_48 t45_96 w6 < m_11 seen_12 n_13 t20_16 w3))))
  (R n_13 w3))
def ann_disk_Disk_Held : List (Nat × List Nat) := [(3, [0, 1, 2, 5, 6, 7, 8, 11, 3, 4, 9, 10]), (1000004, [3, 4, 20]), (1000007, [3, 4]), (2000003, [8]), (3003004, [8])]
theorem E_disk_Disk_Held (d_p0 : Value) (w : World) (R : Value → World → Prop) : M_disk_Disk_Held d_p0 w R = den PR ann_disk_Disk_Held (bodyOf Tryz.f26) (retQ PR Tryz.f26.results.toList R) (env0 [d_p0]) w := by kernel_rfl
theorem C_disk_Disk_Held {d_p0 : Value} {w : World} {R : Value → World → Prop} (h : M_disk_Disk_Held d_p0 w R) : CALL PR F_disk_Disk_Held [d_p0] w R :=
  call_of_den2 ann_disk_Disk_Held Tryz.func26 (by kernel_rfl) (by kernel_rfl) (by kernel_rfl) ((E_disk_Disk_Held d_p0 w R) ▸ h)
-- 27 (*tumbrel.tumbrelref06.Disk).Held
def M_tumbrelref06_Disk_Held (d_p0 : Value) (w : World) (R : Value → World → Prop) : Prop :=
  ∃ (J_1 : Value → Value → World → Prop) (m_1 : Value → Value → World → Nat), J_1 (Value.int .i64 0) (Value.int .i64 0) w ∧ ∀ (_d_1 : Env) (n_2 f_3 : Value) (w1 : World), J_1 n_2 f_3 w1 →
  (BND (nilchk d_p0) fun t10_65 =>
  BND (faddr 1 t10_65) fun t11_66 =>
  BND (load1 w1 t11_66) fun t12_67 =>
  BND (lenl t12_67) fun t13_68 =>
  BND (binv .int .lss f_3 t13_68) fun t14_69 =>
  COND t14_69
  (∃ (J_70 : Value → Value → World → Prop) (m_70 : Value → Value → World → Nat), J_70 (Value.bool false) (Value.int .i64 0) w1 ∧ ∀ (_d_70 : Env) (there_71 i_72 : Value) (w2 : World), J_70 there_71 i_72 w2 →
  (BND (nilchk d_p0) fun t19_111 =>
  BND (faddr 2 t19_111) fun t20_112 =>
  BND (load1 w2 t20_112) fun t21_113 =>
  BND (lenl t21_113) fun t22_114 =>
  BND (binv .int .lss i_72 t22_114) fun t23_115 =>
  COND t23_115
  (∃ (J_116 : Value → Value → World → Prop) (m_116 : Value → Value → World → Nat), J_116 there_71 (Value.int .i64 0) w2 ∧ ∀ (_d_116 : Env) (there_117 k_118 : Value) (w3 : World), J_116 there_117 k_118 w3 →
  (BND (nilchk d_p0) fun t28_147 =>
  BND (faddr 2 t28_147) fun t29_148 =>
  BND (load1 w3 t29_148) fun t30_149 =>
  BND (iaddr 1 t30_149 i_72) fun t32_150 =>
  BND (load1 w3 t32_150) fun t33_151 =>
  BND (lenl t33_151) fun t34_152 =>
  BND (binv .int .lss k_118 t34_152) fun t35_153 =>
  COND t35_153
  (BND (grd (isB there_117 false) (some d_p0)) fun t40_154 =>
  BND (grd (isB there_117 false) (nilchk t40_154)) fun t41_155 =>
  BND (grd (isB there_117 false) (faddr 2 t41_155)) fun t42_156 =>
  BND (grd (isB there_117 false) (load1 w3 t42_156)) fun t43_157 =>
  BND (grd (isB there_117 false) (some i_72)) fun t44_158 =>
  BND (grd (isB there_117 false) (iaddr 1 t43_157 t44_158)) fun t45_159 =>
  BND (grd (isB there_117 false) (load1 w3 t45_159)) fun t46_160 =>
  BND (grd (isB there_117 false) (some k_118)) fun t47_161 =>
  BND (grd (isB there_117 false) (iaddr 2 t46_160 t47_161)) fun t48_162 =>
  BND (grd (isB there_117 false) (faddr 1 t48_162)) fun t49_163 =>
  BND (grd (isB there_117 false) (load1 w3 t49_163)) fun t50_164 =>
  BND (grd (isB there_117 false) (some f_3)) fun t51_165 =>
  BND (grd (isB there_117 false) (binv .int .eql t50_164 t51_165)) fun t52_166 =>
  BND (pickv there_117 (Value.bool true) t52_166) fun t53_167 =>
  BND (binv .int .add k_118 (Value.int .i64 1)) fun t37_168 =>
  (J_116 t53_167 t37_168 w3 ∧ m_116 t53_167 t37_168 w3 < m_116 there_117 k_118 w3))
  (BND (binv .int .add i_72 (Value.int .i64 1)) fun t25_169 =>
  (J_70 there_117 t25_169 w3 ∧ m_70 there_117 t25_169 w3 < m_70 there_71 i_72 w2))))
  (JOIN (α := Value → World → Prop) (fun k_183 => COND there_71
  (BND (nilchk d_p0) fun t57_184 =>
  BND (faddr 1 t57_184) fun t58_185 =>
  BND (load1 w2 t58_185) fun t59_186 =>
  BND (iaddr 2 t59_186 f_3) fun t61_187 =>
  BND (faddr 0 t61_187) fun t62_188 =>
  BND (load1 w2 t62_188) fun t63_189 =>
  BND (lenl t63_189) fun t64_190 =>
  BND (binv .int .add n_2 t64_190) fun t65_191 =>
  k_183 t65_191 w2)
  (k_183 n_2 w2))
  (fun n_170 w4 => BND (binv .int .add f_3 (Value.int .i64 1)) fun t16_182 =>
  (J_1 n_170 t16_182 w4 ∧ m_1 n_170 t16_182 w4 < m_1 n_2 f_3 w1)))))
  (R n_2 w1))
def ann_tumbrelref06_Disk_Held : List (Nat × List Nat) := [(1000003, [3, 4]), (1000007, [5, 6]), (1000010, [5, 7])]
theorem E_tumbrelref06_Disk_Held (d_p0 : Value) (w : World) (R : Value → World → Prop) : M_tumbrelref06_Disk_Held d_p0 w R = den PR ann_tumbrelref06_Disk_Held (bodyOf Tryz.f27) (retQ PR Tryz.f27.results.toList R) (env0 [d_p0]) w := by kernel_rfl
theorem C_tumbrelref06_Disk_Held {d_p0 : Value} {w : World} {R : Value → World → Prop} (h : M_tumbrelref06_Disk_Held d_p0 w R) : CALL PR F_tumbrelref06_Disk_Held [d_p0] w R :=
  call_of_den2 ann_tumbrelref06_Disk_Held Tryz.func27 (by kernel_rfl) (by kernel_rfl) (by kernel_rfl) ((E_tumbrelref06_Disk_Held d_p0 w R) ▸ h)
-- 28 (*tumbrel.disk.Disk).Down
def M_disk_Disk_Down (d_p0 : Value) (w : World) (R : Value → World → Prop) : Prop :=
  BND (nilchk d_p0) fun t4_1 =>
  BND (faddr 4 t4_1) fun t5_2 =>
  BND (load1 w t5_2) fun t6_3 =>
  R t6_3 w
def ann_disk_Disk_Down : List (Nat × List Nat) := []
theorem E_disk_Disk_Down (d_p0 : Value) (w : World) (R : Value → World → Prop) : M_disk_Disk_Down d_p0 w R = den PR ann_disk_Disk_Down (bodyOf Tryz.f28) (retQ PR Tryz.f28.results.toList R) (env0 [d_p0]) w := by kernel_rfl
theorem C_disk_Disk_Down {d_p0 : Value} {w : World} {R : Value → World → Prop} (h : M_disk_Disk_Down d_p0 w R) : CALL PR F_disk_Disk_Down [d_p0] w R :=
  call_of_den2 ann_disk_Disk_Down Tryz.func28 (by kernel_rfl) (by kernel_rfl) (by kernel_rfl) ((E_disk_Disk_Down d_p0 w R) ▸ h)
-- 29 tumbrel.record.Bytes
def M_record_Bytes (r_p0 : Value) (w : World) (R : Value → World → Prop) : Prop :=
  NEW (newv 37 w r_p0) fun r_1 w1 =>
  BND (loadn 3 w1 r_1) fun t4_2 =>
  CALL PR F_record_Right [t4_2] w1 fun t5_3 w2 =>
  BND (unv .not t5_3) fun t6_4 =>
  COND t6_4
  (R (.tuple #[(Value.slice none 0 0), (Value.int .i64 1)]) w2)
  (∃ S_5 : Nat → World → Prop,
  S_5 1 w2.drew ∧
  S_5 7 w2.drew ∧
  BND (faddr 0 r_1) fun t7_6 =>
  FLT (S_5 1) (fun w_ => load1 w_ t7_6) fun t8_7 =>
  BND (convi .u8 t8_7) fun t9_8 =>
  BND (faddr 1 r_1) fun t10_9 =>
  BND (faddr 2 r_1) fun t13_10 =>
  FLT (S_5 7) (fun w_ => load1 w_ t13_10) fun t14_11 =>
  BND (load1 w2.drew t10_9) fun t11_12 =>
  CALL PR F_vint_All [t11_12] w2.drew fun t12_13 w3 =>
  S_5 1 w3 ∧
  S_5 7 w3 ∧
  APPEND 5 1 1 (Value.int .u8 0) t12_13 t14_11 w3 fun t15_14 w4 =>
  S_5 1 w4 ∧
  BND (buildv #[(Value.int .u8 0), (Value.slice none 0 0)] [(0, 1, t9_8), (1, 1, t15_14)]) fun t16_15 =>
  CALL PR F_frame_Bytes [t16_15] w4 fun t17_16 w5 =>
  BND (extractv t17_16 0) fun t18_17 =>
  BND (extractv t17_16 1) fun t19_18 =>
  R (.tuple #[t18_17, t19_18]) w5)
def ann_record_Bytes : List (Nat × List Nat) := [(3, [0, 1, 2, 3, 6, 7, 4, 5, 8, 9, 10, 11, 12, 13, 14]), (2000003, [1, 7]), (3003005, [1, 7]), (3003008, [1])]
theorem E_record_Bytes (r_p0 : Value) (w : World) (R : Value → World → Prop) : M_record_Bytes r_p0 w R = den PR ann_record_Bytes (bodyOf Tryz.f29) (retQ PR Tryz.f29.results.toList R) (env0 [r_p0]) w := by kernel_rfl
theorem C_record_Bytes {r_p0 : Value} {w : World} {R : Value → World → Prop} (h : M_record_Bytes r_p0 w R) : CALL PR F_record_Bytes [r_p0] w R :=
  call_of_den2 ann_record_Bytes Tryz.func29 (by kernel_rfl) (by kernel_rfl) (by kernel_rfl) ((E_record_Bytes r_p0 w R) ▸ h)
-- 31 (*tumbrel.seglog.Log).Read
def M_seglog_Log_Read (l_p0 seg_p1 at_p2 : Value) (w : World) (R : Value → World → Prop) : Prop :=
  NEW (newv 37 w (Value.agg #[(Value.int .i64 0), (Value.slice none 0 0), (Value.string ByteArray.empty)])) fun t6_1 w1 =>
  BND (nilchk l_p0) fun t10_2 =>
  BND (faddr 0 t10_2) fun t11_3 =>
  BND (load1 w1 t11_3) fun t12_4 =>
  CALL PR F_seglog_At [t12_4, seg_p1, at_p2] w1 fun t15_5 w2 =>
  BND (extractv t15_5 0) fun t16_6 =>
  BND (extractv t15_5 1) fun t17_7 =>
  BND (extractv t15_5 2) fun t18_8 =>
  BND (storev 3 w2 t6_1 t16_6) fun w3 =>
  BND (loadn 3 w3 t6_1) fun r_9 =>
  R (.tuple #[r_9, t17_7, t18_8]) w3
def ann_seglog_Log_Read : List (Nat × List Nat) := []
theorem E_seglog_Log_Read (l_p0 seg_p1 at_p2 : Value) (w : World) (R : Value → World → Prop) : M_seglog_Log_Read l_p0 seg_p1 at_p2 w R = den PR ann_seglog_Log_Read (bodyOf Tryz.f31) (retQ PR Tryz.f31.results.toList R) (env0 [l_p0, seg_p1, at_p2]) w := by kernel_rfl
theorem C_seglog_Log_Read {l_p0 seg_p1 at_p2 : Value} {w : World} {R : Value → World → Prop} (h : M_seglog_Log_Read l_p0 seg_p1 at_p2 w R) : CALL PR F_seglog_Log_Read [l_p0, seg_p1, at_p2] w R :=
  call_of_den2 ann_seglog_Log_Read Tryz.func31 (by kernel_rfl) (by kernel_rfl) (by kernel_rfl) ((E_seglog_Log_Read l_p0 seg_p1 at_p2 w R) ▸ h)
-- 32 tumbrel.record.Right
def M_record_Right (r_p0 : Value) (w : World) (R : Value → World → Prop) : Prop :=
  NEW (newv 37 w r_p0) fun r_1 w1 =>
  ∃ S_2 : Nat → World → Prop,
  S_2 5 w1.drew ∧
  S_2 9 w1.drew ∧
  BND (faddr 0 r_1) fun t3_3 =>
  BND (load1 w1.drew t3_3) fun t4_4 =>
  CALL PR F_record_known [t4_4] w1.drew fun t5_5 w2 =>
  S_2 5 w2 ∧
  S_2 9 w2 ∧
  BND (grd (isB t5_5 true) (faddr 1 r_1)) fun t7_6 =>
  FLT (S_2 5) (fun w_ => (grd (isB t5_5 true) (load1 w_ t7_6))) fun t8_7 =>
  BND (grd (isB t5_5 true) (lenl t8_7)) fun t9_8 =>
  BND (grd (isB t5_5 true) (faddr 0 r_1)) fun t11_9 =>
  FLT (S_2 9) (fun w_ => (grd (isB t5_5 true) (load1 w_ t11_9))) fun t12_10 =>
  GEF (isB t5_5 true) (fun k_ => CALL PR F_record_numbers [] w2 k_) w2 fun t10_11 w3 =>
  S_2 5 w3 ∧
  S_2 9 w3 ∧
  BND (grd (isB t5_5 true) (indexav false 18 1 t10_11 t12_10)) fun t13_12 =>
  BND (grd (isB t5_5 true) (binv .int .eql t9_8 t13_12)) fun t14_13 =>
  BND (pickv t5_5 t14_13 (Value.bool false)) fun t15_14 =>
  BND (grd (isB t15_14 true) (faddr 0 r_1)) fun t17_15 =>
  BND (grd (isB t15_14 true) (faddr 2 r_1)) fun t19_16 =>
  BND (grd (isB t15_14 true) (load1 w3 t17_15)) fun t18_17 =>
  BND (grd (isB t15_14 true) (load1 w3 t19_16)) fun t20_18 =>
  BND (grd (isB t15_14 true) (lens t20_18)) fun t21_19 =>
  GEF (isB t15_14 true) (fun k_ => CALL PR F_record_fits [t18_17, t21_19] w3 k_) w3 fun t22_20 w4 =>
  BND (pickv t15_14 t22_20 (Value.bool false)) fun t23_21 =>
  R t23_21 w4
def ann_record_Right : List (Nat × List Nat) := [(1, [0, 1, 2, 3, 4, 5, 6, 8, 9, 7, 10, 11, 12, 13, 14, 16, 15, 17, 18, 19, 20, 21]), (2000001, [5, 9]), (3001002, [5, 9]), (3001007, [5, 9])]
theorem E_record_Right (r_p0 : Value) (w : World) (R : Value → World → Prop) : M_record_Right r_p0 w R = den PR ann_record_Right (bodyOf Tryz.f32) (retQ PR Tryz.f32.results.toList R) (env0 [r_p0]) w := by kernel_rfl
theorem C_record_Right {r_p0 : Value} {w : World} {R : Value → World → Prop} (h : M_record_Right r_p0 w R) : CALL PR F_record_Right [r_p0] w R :=
  call_of_den2 ann_record_Right Tryz.func32 (by kernel_rfl) (by kernel_rfl) (by kernel_rfl) ((E_record_Right r_p0 w R) ▸ h)
-- 33 tumbrel.name.Of
def M_name_Of (kind_p0 n_p1 : Value) (w : World) (R : Value → World → Prop) : Prop :=
  CALL PR F_strings_IndexByte [(Value.string { data := #[109, 101, 115] }), kind_p0] w fun t7_1 w1 =>
  BND (binv .int .lss t7_1 (Value.int .i64 0)) fun t8_2 =>
  BND (grd (isB t8_2 false) (some n_p1)) fun t10_3 =>
  BND (grd (isB t8_2 false) (binv .int .geq t10_3 (Value.int .u64 10000000000))) fun t11_4 =>
  BND (pickv t8_2 (Value.bool true) t11_4) fun t12_5 =>
  COND t12_5
  (R (.tuple #[(Value.string { data := #[] }), (Value.int .i64 1)]) w1)
  (BND (convi .i32 kind_p0) fun t14_6 =>
  BND (runev t14_6) fun t15_7 =>
  BND (binv .str .add t15_7 (Value.string { data := #[46] })) fun t16_8 =>
  CALL PR F_strconv_FormatUint [n_p1, (Value.int .i64 10)] w1 fun t18_9 w2 =>
  BND (binv .str .add t16_8 t18_9) fun t19_10 =>
  R (.tuple #[t19_10, (Value.int .i64 0)]) w2)
def ann_name_Of : List (Nat × List Nat) := []
theorem E_name_Of (kind_p0 n_p1 : Value) (w : World) (R : Value → World → Prop) : M_name_Of kind_p0 n_p1 w R = den PR ann_name_Of (bodyOf Tryz.f33) (retQ PR Tryz.f33.results.toList R) (env0 [kind_p0, n_p1]) w := by kernel_rfl
theorem C_name_Of {kind_p0 n_p1 : Value} {w : World} {R : Value → World → Prop} (h : M_name_Of kind_p0 n_p1 w R) : CALL PR F_name_Of [kind_p0, n_p1] w R :=
  call_of_den2 ann_name_Of Tryz.func33 (by kernel_rfl) (by kernel_rfl) (by kernel_rfl) ((E_name_Of kind_p0 n_p1 w R) ▸ h)
-- 34 (*tumbrel.disk.Disk).Sync
def M_disk_Disk_Sync (d_p0 name_p1 : Value) (w : World) (R : Value → World → Prop) : Prop :=
  CALL PR F_disk_Disk_there [d_p0, name_p1] w fun t10_1 w1 =>
  CALL PR F_disk_Disk_can [d_p0, t10_1] w1 fun t11_2 w2 =>
  BND (binv .int .eql t11_2 (Value.int .i64 0)) fun t13_3 =>
  JOIN (α := World → Prop) (fun k_17 => COND t13_3
  (CALL PR F_disk_Disk_now [d_p0] w2 fun t15_18 w4 =>
  BND (lookv .string (Value.pointer none) false w4 t15_18 name_p1) fun t17_19 =>
  BND (nilchk t17_19) fun t20_20 =>
  BND (faddr 0 t20_20) fun t21_21 =>
  BND (load1 w4 t21_21) fun t22_22 =>
  BND (lenl t22_22) fun t23_23 =>
  BND (nilchk t17_19) fun t24_24 =>
  BND (faddr 1 t24_24) fun t25_25 =>
  BND (storev 1 w4 t25_25 t23_23) fun w5 =>
  k_17 w5)
  (k_17 w2))
  (fun w3 => R t11_2 w3)
def ann_disk_Disk_Sync : List (Nat × List Nat) := []
theorem E_disk_Disk_Sync (d_p0 name_p1 : Value) (w : World) (R : Value → World → Prop) : M_disk_Disk_Sync d_p0 name_p1 w R = den PR ann_disk_Disk_Sync (bodyOf Tryz.f34) (retQ PR Tryz.f34.results.toList R) (env0 [d_p0, name_p1]) w := by kernel_rfl
theorem C_disk_Disk_Sync {d_p0 name_p1 : Value} {w : World} {R : Value → World → Prop} (h : M_disk_Disk_Sync d_p0 name_p1 w R) : CALL PR F_disk_Disk_Sync [d_p0, name_p1] w R :=
  call_of_den2 ann_disk_Disk_Sync Tryz.func34 (by kernel_rfl) (by kernel_rfl) (by kernel_rfl) ((E_disk_Disk_Sync d_p0 name_p1 w R) ▸ h)
-- 35 (*tumbrel.disk.Disk).DirSync
def M_disk_Disk_DirSync (d_p0 : Value) (w : World) (R : Value → World → Prop) : Prop :=
  CALL PR F_disk_Disk_can [d_p0, (Value.int .i64 0)] w fun t5_1 w1 =>
  BND (binv .int .eql t5_1 (Value.int .i64 0)) fun t7_2 =>
  JOIN (α := World → Prop) (fun k_11 => COND t7_2
  (CALL PR F_disk_Disk_now [d_p0] w1 fun t11_12 w3 =>
  BND (nilchk d_p0) fun t12_13 =>
  BND (faddr 1 t12_13) fun t13_14 =>
  BND (storev 1 w3 t13_14 t11_12) fun w4 =>
  BND (nilchk d_p0) fun t14_15 =>
  BND (faddr 2 t14_15) fun t15_16 =>
  BND (storev 1 w4 t15_16 (Value.slice none 0 0)) fun w5 =>
  k_11 w5)
  (k_11 w1))
  (fun w2 => R t5_1 w2)
def ann_disk_Disk_DirSync : List (Nat × List Nat) := []
theorem E_disk_Disk_DirSync (d_p0 : Value) (w : World) (R : Value → World → Prop) : M_disk_Disk_DirSync d_p0 w R = den PR ann_disk_Disk_DirSync (bodyOf Tryz.f35) (retQ PR Tryz.f35.results.toList R) (env0 [d_p0]) w := by kernel_rfl
theorem C_disk_Disk_DirSync {d_p0 : Value} {w : World} {R : Value → World → Prop} (h : M_disk_Disk_DirSync d_p0 w R) : CALL PR F_disk_Disk_DirSync [d_p0] w R :=
  call_of_den2 ann_disk_Disk_DirSync Tryz.func35 (by kernel_rfl) (by kernel_rfl) (by kernel_rfl) ((E_disk_Disk_DirSync d_p0 w R) ▸ h)
-- 36 (*tumbrel.seglog.Log).turn
def M_seglog_Log_turn (l_p0 : Value) (w : World) (R : Value → World → Prop) : Prop :=
  BND (nilchk l_p0) fun t8_1 =>
  BND (faddr 1 t8_1) fun t9_2 =>
  BND (load1 w t9_2) fun t10_3 =>
  BND (binv .int .add t10_3 (Value.int .u64 1)) fun t11_4 =>
  CALL PR F_name_Of [(Value.int .u8 109), t11_4] w fun t12_5 w1 =>
  BND (extractv t12_5 0) fun t13_6 =>
  BND (extractv t12_5 1) fun t14_7 =>
  BND (binv .int .neq t14_7 (Value.int .i64 0)) fun t16_8 =>
  COND t16_8
  (R (Value.int .i64 4) w1)
  (BND (nilchk l_p0) fun t18_9 =>
  BND (faddr 0 t18_9) fun t19_10 =>
  BND (load1 w1 t19_10) fun t20_11 =>
  CALL PR F_disk_Disk_Create [t20_11, t13_6] w1 fun t22_12 w2 =>
  BND (binv .int .neq t22_12 (Value.int .i64 0)) fun t24_13 =>
  COND t24_13
  (R t22_12 w2)
  (BND (nilchk l_p0) fun t30_14 =>
  BND (faddr 1 t30_14) fun t31_15 =>
  BND (load1 w2 t31_15) fun t32_16 =>
  BND (binv .int .add t32_16 (Value.int .u64 1)) fun t33_17 =>
  BND (nilchk l_p0) fun t34_18 =>
  BND (faddr 1 t34_18) fun t35_19 =>
  BND (storev 1 w2 t35_19 t33_17) fun w3 =>
  BND (nilchk l_p0) fun t36_20 =>
  BND (faddr 2 t36_20) fun t37_21 =>
  BND (storev 1 w3 t37_21 (Value.int .u64 0)) fun w4 =>
  BND (nilchk l_p0) fun t38_22 =>
  BND (faddr 5 t38_22) fun t39_23 =>
  BND (storev 1 w4 t39_23 (Value.bool true)) fun w5 =>
  R (Value.int .i64 0) w5))
def ann_seglog_Log_turn : List (Nat × List Nat) := []
theorem E_seglog_Log_turn (l_p0 : Value) (w : World) (R : Value → World → Prop) : M_seglog_Log_turn l_p0 w R = den PR ann_seglog_Log_turn (bodyOf Tryz.f36) (retQ PR Tryz.f36.results.toList R) (env0 [l_p0]) w := by kernel_rfl
theorem C_seglog_Log_turn {l_p0 : Value} {w : World} {R : Value → World → Prop} (h : M_seglog_Log_turn l_p0 w R) : CALL PR F_seglog_Log_turn [l_p0] w R :=
  call_of_den2 ann_seglog_Log_turn Tryz.func36 (by kernel_rfl) (by kernel_rfl) (by kernel_rfl) ((E_seglog_Log_turn l_p0 w R) ▸ h)
-- 37 (*tumbrel.disk.Disk).Append
def M_disk_Disk_Append (d_p0 name_p1 b_p2 : Value) (w : World) (R : Value → World → Prop) : Prop :=
  CALL PR F_disk_Disk_there [d_p0, name_p1] w fun t11_1 w1 =>
  ∃ S_2 : Nat → World → Prop,
  S_2 11 w1.drew ∧
  BND (binv .int .eql t11_1 (Value.int .i64 0)) fun t13_3 =>
  BND (grd (isB t13_3 true) (some d_p0)) fun t15_4 =>
  BND (grd (isB t13_3 true) (some b_p2)) fun t17_5 =>
  BND (grd (isB t13_3 true) (lenl t17_5)) fun t18_6 =>
  BND (grd (isB t13_3 true) (some d_p0)) fun t20_7 =>
  BND (grd (isB t13_3 true) (nilchk t20_7)) fun t21_8 =>
  BND (grd (isB t13_3 true) (faddr 0 t21_8)) fun t22_9 =>
  FLT (S_2 11) (fun w_ => (grd (isB t13_3 true) (load1 w_ t22_9))) fun t23_10 =>
  GEF (isB t13_3 true) (fun k_ => CALL PR F_disk_Disk_Held [t15_4] w1.drew k_) w1.drew fun t16_11 w2 =>
  S_2 11 w2 ∧
  BND (grd (isB t13_3 true) (binv .int .add t16_11 t18_6)) fun t19_12 =>
  BND (grd (isB t13_3 true) (binv .int .gtr t19_12 t23_10)) fun t24_13 =>
  BND (pickv t13_3 t24_13 (Value.bool false)) fun t25_14 =>
  JOIN (α := Value → World → Prop) (fun k_41 => COND t25_14
  (k_41 (Value.int .i64 4) w2)
  (k_41 t11_1 w2))
  (fun e_15 w3 => CALL PR F_disk_Disk_can [d_p0, e_15] w3 fun t28_16 w4 =>
  BND (binv .int .eql t28_16 (Value.int .i64 0)) fun t30_17 =>
  JOIN (α := World → Prop) (fun k_32 => COND t30_17
  (CALL PR F_disk_Disk_now [d_p0] w4 fun t32_33 w6 =>
  BND (lookv .string (Value.pointer none) false w6 t32_33 name_p1) fun t34_34 =>
  BND (nilchk t34_34) fun t37_35 =>
  BND (faddr 0 t37_35) fun t38_36 =>
  BND (load1 w6 t38_36) fun t39_37 =>
  APPEND 5 1 1 (Value.int .u8 0) t39_37 b_p2 w6 fun t41_38 w7 =>
  BND (nilchk t34_34) fun t42_39 =>
  BND (faddr 0 t42_39) fun t43_40 =>
  BND (storev 1 w7 t43_40 t41_38) fun w8 =>
  k_32 w8)
  (k_32 w4))
  (fun w5 => R t28_16 w5))
def ann_disk_Disk_Append : List (Nat × List Nat) := [(2, [0, 1, 2, 3, 5, 6, 8, 9, 10, 11, 4, 7, 12, 13]), (2000002, [11]), (3002004, [11])]
theorem E_disk_Disk_Append (d_p0 name_p1 b_p2 : Value) (w : World) (R : Value → World → Prop) : M_disk_Disk_Append d_p0 name_p1 b_p2 w R = den PR ann_disk_Disk_Append (bodyOf Tryz.f37) (retQ PR Tryz.f37.results.toList R) (env0 [d_p0, name_p1, b_p2]) w := by kernel_rfl
theorem C_disk_Disk_Append {d_p0 name_p1 b_p2 : Value} {w : World} {R : Value → World → Prop} (h : M_disk_Disk_Append d_p0 name_p1 b_p2 w R) : CALL PR F_disk_Disk_Append [d_p0, name_p1, b_p2] w R :=
  call_of_den2 ann_disk_Disk_Append Tryz.func37 (by kernel_rfl) (by kernel_rfl) (by kernel_rfl) ((E_disk_Disk_Append d_p0 name_p1 b_p2 w R) ▸ h)
-- 40 tumbrel.seglog.made
def M_seglog_made (d_p0 seg_p1 size_p2 : Value) (w : World) (R : Value → World → Prop) : Prop :=
  CALL PR F_name_Of [(Value.int .u8 109), seg_p1] w fun t13_1 w1 =>
  BND (extractv t13_1 0) fun t14_2 =>
  BND (extractv t13_1 1) fun t15_3 =>
  BND (binv .ptr .eql d_p0 (Value.pointer none)) fun t17_4 =>
  BND (grd (isB t17_4 false) (some size_p2)) fun t19_5 =>
  BND (grd (isB t17_4 false) (binv .int .lss t19_5 (Value.int .i64 64))) fun t20_6 =>
  BND (pickv t17_4 (Value.bool true) t20_6) fun t21_7 =>
  BND (grd (isB t21_7 false) (some size_p2)) fun t23_8 =>
  BND (grd (isB t21_7 false) (binv .int .gtr t23_8 (Value.int .i64 65536))) fun t24_9 =>
  BND (pickv t21_7 (Value.bool true) t24_9) fun t25_10 =>
  BND (grd (isB t25_10 false) (some t15_3)) fun t27_11 =>
  BND (grd (isB t25_10 false) (binv .int .neq t27_11 (Value.int .i64 0))) fun t28_12 =>
  BND (pickv t25_10 (Value.bool true) t28_12) fun t29_13 =>
  COND t29_13
  (R (.tuple #[(Value.pointer none), (Value.string { data := #[] }), (Value.int .i64 1)]) w1)
  (BND (buildv #[(Value.pointer none), (Value.int .u64 0), (Value.int .u64 0), (Value.int .i64 0), (Value.int .u64 0), (Value.bool false)] [(0, 1, d_p0), (1, 1, seg_p1), (3, 1, size_p2), (4, 1, seg_p1)]) fun t34_14 =>
  NEW (newv 89 w1 t34_14) fun t35_15 w2 =>
  R (.tuple #[t35_15, t14_2, (Value.int .i64 0)]) w2)
def ann_seglog_made : List (Nat × List Nat) := []
theorem E_seglog_made (d_p0 seg_p1 size_p2 : Value) (w : World) (R : Value → World → Prop) : M_seglog_made d_p0 seg_p1 size_p2 w R = den PR ann_seglog_made (bodyOf Tryz.f40) (retQ PR Tryz.f40.results.toList R) (env0 [d_p0, seg_p1, size_p2]) w := by kernel_rfl
theorem C_seglog_made {d_p0 seg_p1 size_p2 : Value} {w : World} {R : Value → World → Prop} (h : M_seglog_made d_p0 seg_p1 size_p2 w R) : CALL PR F_seglog_made [d_p0, seg_p1, size_p2] w R :=
  call_of_den2 ann_seglog_made Tryz.func40 (by kernel_rfl) (by kernel_rfl) (by kernel_rfl) ((E_seglog_made d_p0 seg_p1 size_p2 w R) ▸ h)
-- 41 (*tumbrel.disk.Disk).Read
def M_disk_Disk_Read (d_p0 name_p1 : Value) (w : World) (R : Value → World → Prop) : Prop :=
  BND (nilchk d_p0) fun t8_1 =>
  BND (faddr 4 t8_1) fun t9_2 =>
  BND (load1 w t9_2) fun t10_3 =>
  COND t10_3
  (R (.tuple #[(Value.slice none 0 0), (Value.int .i64 7)]) w)
  (CALL PR F_disk_Disk_there [d_p0, name_p1] w fun t13_4 w1 =>
  BND (binv .int .neq t13_4 (Value.int .i64 0)) fun t15_5 =>
  COND t15_5
  (R (.tuple #[(Value.slice none 0 0), t13_4]) w1)
  (CALL PR F_disk_Disk_now [d_p0] w1 fun t18_6 w2 =>
  BND (lookv .string (Value.pointer none) false w2 t18_6 name_p1) fun t20_7 =>
  BND (nilchk t20_7) fun t21_8 =>
  BND (faddr 0 t21_8) fun t22_9 =>
  BND (load1 w2 t22_9) fun t23_10 =>
  CALL PR F_slices_Clone_byte_byte [t23_10] w2 fun t24_11 w3 =>
  R (.tuple #[t24_11, (Value.int .i64 0)]) w3))
def ann_disk_Disk_Read : List (Nat × List Nat) := []
theorem E_disk_Disk_Read (d_p0 name_p1 : Value) (w : World) (R : Value → World → Prop) : M_disk_Disk_Read d_p0 name_p1 w R = den PR ann_disk_Disk_Read (bodyOf Tryz.f41) (retQ PR Tryz.f41.results.toList R) (env0 [d_p0, name_p1]) w := by kernel_rfl
theorem C_disk_Disk_Read {d_p0 name_p1 : Value} {w : World} {R : Value → World → Prop} (h : M_disk_Disk_Read d_p0 name_p1 w R) : CALL PR F_disk_Disk_Read [d_p0, name_p1] w R :=
  call_of_den2 ann_disk_Disk_Read Tryz.func41 (by kernel_rfl) (by kernel_rfl) (by kernel_rfl) ((E_disk_Disk_Read d_p0 name_p1 w R) ▸ h)
-- 42 (*tumbrel.disk.Disk).Cut
def M_disk_Disk_Cut (d_p0 name_p1 n_p2 : Value) (w : World) (R : Value → World → Prop) : Prop :=
  CALL PR F_disk_Disk_there [d_p0, name_p1] w fun t11_1 w1 =>
  BND (binv .int .eql t11_1 (Value.int .i64 0)) fun t13_2 =>
  BND (grd (isB t13_2 true) (some n_p2)) fun t15_3 =>
  BND (grd (isB t13_2 true) (binv .int .lss t15_3 (Value.int .i64 0))) fun t16_4 =>
  BND (grd (isB t13_2 true) (some t16_4)) fun t17_5 =>
  BND (grd (isB t17_5 false) (some n_p2)) fun t18_6 =>
  BND (grd (isB t17_5 false) (some d_p0)) fun t19_7 =>
  GEF (isB t17_5 false) (fun k_ => CALL PR F_disk_Disk_now [t19_7] w1 k_) w1 fun t20_8 w2 =>
  BND (grd (isB t17_5 false) (some name_p1)) fun t21_9 =>
  BND (grd (isB t17_5 false) (lookv .string (Value.pointer none) false w2 t20_8 t21_9)) fun t22_10 =>
  BND (grd (isB t17_5 false) (nilchk t22_10)) fun t23_11 =>
  BND (grd (isB t17_5 false) (faddr 0 t23_11)) fun t24_12 =>
  BND (grd (isB t17_5 false) (load1 w2 t24_12)) fun t25_13 =>
  BND (grd (isB t17_5 false) (lenl t25_13)) fun t26_14 =>
  BND (grd (isB t17_5 false) (binv .int .gtr t18_6 t26_14)) fun t27_15 =>
  BND (grd (isB t13_2 true) (pickv t17_5 (Value.bool true) t27_15)) fun t28_16 =>
  BND (pickv t13_2 t28_16 (Value.bool false)) fun t29_17 =>
  JOIN (α := Value → World → Prop) (fun k_59 => COND t29_17
  (k_59 (Value.int .i64 1) w2)
  (k_59 t11_1 w2))
  (fun e_18 w3 => CALL PR F_disk_Disk_can [d_p0, e_18] w3 fun t32_19 w4 =>
  BND (binv .int .eql t32_19 (Value.int .i64 0)) fun t34_20 =>
  JOIN (α := World → Prop) (fun k_44 => COND t34_20
  (CALL PR F_disk_Disk_now [d_p0] w4 fun t36_45 w6 =>
  BND (lookv .string (Value.pointer none) false w6 t36_45 name_p1) fun t38_46 =>
  BND (nilchk t38_46) fun t42_47 =>
  BND (faddr 0 t42_47) fun t43_48 =>
  BND (nilchk t38_46) fun t48_49 =>
  BND (faddr 1 t48_49) fun t49_50 =>
  BND (load1 w6.drew t43_48) fun t44_51 =>
  BND (slicev 1 t44_51 none (some n_p2)) fun t46_52 =>
  BND (load1 w6.drew t49_50) fun t50_53 =>
  BND (min2v t50_53 n_p2) fun t52_54 =>
  BND (nilchk t38_46) fun t53_55 =>
  BND (faddr 0 t53_55) fun t54_56 =>
  BND (storev 1 w6.drew t54_56 t46_52) fun w7 =>
  BND (nilchk t38_46) fun t55_57 =>
  BND (faddr 1 t55_57) fun t56_58 =>
  BND (storev 1 w7 t56_58 t52_54) fun w8 =>
  k_44 w8)
  (k_44 w4))
  (fun w5 => R t32_19 w5))
def ann_disk_Disk_Cut : List (Nat × List Nat) := [(7, [0, 1, 2, 3, 4, 6, 8, 9, 10, 12, 5, 7, 11, 13, 14, 15, 16, 17, 18, 19])]
theorem E_disk_Disk_Cut (d_p0 name_p1 n_p2 : Value) (w : World) (R : Value → World → Prop) : M_disk_Disk_Cut d_p0 name_p1 n_p2 w R = den PR ann_disk_Disk_Cut (bodyOf Tryz.f42) (retQ PR Tryz.f42.results.toList R) (env0 [d_p0, name_p1, n_p2]) w := by kernel_rfl
theorem C_disk_Disk_Cut {d_p0 name_p1 n_p2 : Value} {w : World} {R : Value → World → Prop} (h : M_disk_Disk_Cut d_p0 name_p1 n_p2 w R) : CALL PR F_disk_Disk_Cut [d_p0, name_p1, n_p2] w R :=
  call_of_den2 ann_disk_Disk_Cut Tryz.func42 (by kernel_rfl) (by kernel_rfl) (by kernel_rfl) ((E_disk_Disk_Cut d_p0 name_p1 n_p2 w R) ▸ h)
-- 43 tumbrel.record.Same
def M_record_Same (a_p0 b_p1 : Value) (w : World) (R : Value → World → Prop) : Prop :=
  NEW (newv 37 w a_p0) fun a_1 w1 =>
  NEW (newv 37 w1 b_p1) fun b_2 w2 =>
  BND (faddr 0 a_1) fun t5_3 =>
  BND (load1 w2 t5_3) fun t6_4 =>
  BND (faddr 0 b_2) fun t7_5 =>
  BND (load1 w2 t7_5) fun t8_6 =>
  BND (binv .int .eql t6_4 t8_6) fun t9_7 =>
  BND (grd (isB t9_7 true) (faddr 1 a_1)) fun t11_8 =>
  BND (grd (isB t9_7 true) (load1 w2 t11_8)) fun t12_9 =>
  BND (grd (isB t9_7 true) (faddr 1 b_2)) fun t13_10 =>
  BND (grd (isB t9_7 true) (load1 w2 t13_10)) fun t14_11 =>
  GEF (isB t9_7 true) (fun k_ => CALL PR F_slices_Equal_uint64_uint64 [t12_9, t14_11] w2 k_) w2 fun t15_12 w3 =>
  BND (pickv t9_7 t15_12 (Value.bool false)) fun t16_13 =>
  BND (grd (isB t16_13 true) (faddr 2 a_1)) fun t18_14 =>
  BND (grd (isB t16_13 true) (load1 w3 t18_14)) fun t19_15 =>
  BND (grd (isB t16_13 true) (faddr 2 b_2)) fun t20_16 =>
  BND (grd (isB t16_13 true) (load1 w3 t20_16)) fun t21_17 =>
  BND (grd (isB t16_13 true) (binv .str .eql t19_15 t21_17)) fun t22_18 =>
  BND (pickv t16_13 t22_18 (Value.bool false)) fun t23_19 =>
  R t23_19 w3
def ann_record_Same : List (Nat × List Nat) := []
theorem E_record_Same (a_p0 b_p1 : Value) (w : World) (R : Value → World → Prop) : M_record_Same a_p0 b_p1 w R = den PR ann_record_Same (bodyOf Tryz.f43) (retQ PR Tryz.f43.results.toList R) (env0 [a_p0, b_p1]) w := by kernel_rfl
theorem C_record_Same {a_p0 b_p1 : Value} {w : World} {R : Value → World → Prop} (h : M_record_Same a_p0 b_p1 w R) : CALL PR F_record_Same [a_p0, b_p1] w R :=
  call_of_den2 ann_record_Same Tryz.func43 (by kernel_rfl) (by kernel_rfl) (by kernel_rfl) ((E_record_Same a_p0 b_p1 w R) ▸ h)
-- 44 (*tumbrel.disk.Disk).Create
def M_disk_Disk_Create (d_p0 name_p1 : Value) (w : World) (R : Value → World → Prop) : Prop :=
  CALL PR F_disk_Disk_now [d_p0] w fun t8_1 w1 =>
  CALL PR F_disk_named [name_p1] w1 fun t11_2 w2 =>
  BND (unv .not t11_2) fun t12_3 =>
  JOIN (α := Value → World → Prop) (fun k_25 => COND t12_3
  (k_25 (Value.int .i64 1) w2)
  (BND (lookv .string (Value.pointer none) false w2 t8_1 name_p1) fun t16_26 =>
  BND (binv .ptr .neq t16_26 (Value.pointer none)) fun t17_27 =>
  JOIN (α := Value → World → Prop) (fun k_33 => COND t17_27
  (k_33 (Value.int .i64 6) w2)
  (BND (mlenv w2 t8_1) fun t20_34 =>
  BND (binv .int .geq t20_34 (Value.int .i64 60)) fun t21_35 =>
  JOIN (α := Value → World → Prop) (fun k_37 => COND t21_35
  (k_37 (Value.int .i64 4) w2)
  (k_37 (Value.int .i64 0) w2))
  (fun e_36 w10 => k_33 e_36 w10)))
  (fun e_28 w9 => k_25 e_28 w9)))
  (fun e_4 w3 => CALL PR F_disk_Disk_can [d_p0, e_4] w3 fun t24_14 w4 =>
  BND (binv .int .eql t24_14 (Value.int .i64 0)) fun t26_15 =>
  JOIN (α := World → Prop) (fun k_21 => COND t26_15
  (CALL PR F_disk_Disk_change [d_p0] w4 fun t28_22 w6 =>
  BND (buildv #[(Value.slice none 0 0), (Value.int .i64 0)] []) fun t30_23 =>
  NEW (newv 105 w6 t30_23) fun t31_24 w7 =>
  BND (mupd .string w7 t28_22 name_p1 t31_24) fun w8 =>
  k_21 w8)
  (k_21 w4))
  (fun w5 => R t24_14 w5))
def ann_disk_Disk_Create : List (Nat × List Nat) := []
theorem E_disk_Disk_Create (d_p0 name_p1 : Value) (w : World) (R : Value → World → Prop) : M_disk_Disk_Create d_p0 name_p1 w R = den PR ann_disk_Disk_Create (bodyOf Tryz.f44) (retQ PR Tryz.f44.results.toList R) (env0 [d_p0, name_p1]) w := by kernel_rfl
theorem C_disk_Disk_Create {d_p0 name_p1 : Value} {w : World} {R : Value → World → Prop} (h : M_disk_Disk_Create d_p0 name_p1 w R) : CALL PR F_disk_Disk_Create [d_p0, name_p1] w R :=
  call_of_den2 ann_disk_Disk_Create Tryz.func44 (by kernel_rfl) (by kernel_rfl) (by kernel_rfl) ((E_disk_Disk_Create d_p0 name_p1 w R) ▸ h)
-- 45 tumbrel.tumbrelref15.may
def M_tumbrelref15_may (d_p0 seg_p1 most_p2 : Value) (w : World) (R : Value → World → Prop) : Prop :=
  BND (binv .ptr .neq d_p0 (Value.pointer none)) fun t8_1 =>
  BND (grd (isB t8_1 true) (some most_p2)) fun t10_2 =>
  BND (grd (isB t8_1 true) (binv .int .geq t10_2 (Value.int .i64 64))) fun t11_3 =>
  BND (pickv t8_1 t11_3 (Value.bool false)) fun t12_4 =>
  BND (grd (isB t12_4 true) (some most_p2)) fun t14_5 =>
  BND (grd (isB t12_4 true) (binv .int .leq t14_5 (Value.int .i64 65536))) fun t15_6 =>
  BND (pickv t12_4 t15_6 (Value.bool false)) fun t16_7 =>
  BND (grd (isB t16_7 true) (some seg_p1)) fun t18_8 =>
  BND (grd (isB t16_7 true) (binv .int .leq t18_8 (Value.int .u64 9999999999))) fun t19_9 =>
  BND (pickv t16_7 t19_9 (Value.bool false)) fun t20_10 =>
  R t20_10 w
def ann_tumbrelref15_may : List (Nat × List Nat) := []
theorem E_tumbrelref15_may (d_p0 seg_p1 most_p2 : Value) (w : World) (R : Value → World → Prop) : M_tumbrelref15_may d_p0 seg_p1 most_p2 w R = den PR ann_tumbrelref15_may (bodyOf Tryz.f45) (retQ PR Tryz.f45.results.toList R) (env0 [d_p0, seg_p1, most_p2]) w := by kernel_rfl
theorem C_tumbrelref15_may {d_p0 seg_p1 most_p2 : Value} {w : World} {R : Value → World → Prop} (h : M_tumbrelref15_may d_p0 seg_p1 most_p2 w R) : CALL PR F_tumbrelref15_may [d_p0, seg_p1, most_p2] w R :=
  call_of_den2 ann_tumbrelref15_may Tryz.func45 (by kernel_rfl) (by kernel_rfl) (by kernel_rfl) ((E_tumbrelref15_may d_p0 seg_p1 most_p2 w R) ▸ h)
-- 46 (*tumbrel.tumbrelref06.Disk).Create
def M_tumbrelref06_Disk_Create (d_p0 name_p1 : Value) (w : World) (R : Value → World → Prop) : Prop :=
  CALL PR F_tumbrelref06_may [name_p1] w fun t7_1 w1 =>
  BND (unv .not t7_1) fun t8_2 =>
  JOIN (α := Value → World → Prop) (fun k_77 => COND t8_2
  (k_77 (Value.int .i64 1) w1)
  (CALL PR F_tumbrelref06_Disk_find [d_p0, name_p1] w1 fun t11_78 w17 =>
  BND (binv .int .geq t11_78 (Value.int .i64 0)) fun t12_79 =>
  JOIN (α := Value → World → Prop) (fun k_85 => COND t12_79
  (k_85 (Value.int .i64 6) w17)
  (CALL PR F_tumbrelref06_Disk_now [d_p0] w17 fun t14_86 w19 =>
  BND (lenl t14_86) fun t15_87 =>
  BND (binv .int .geq t15_87 (Value.int .i64 60)) fun t16_88 =>
  JOIN (α := Value → World → Prop) (fun k_90 => COND t16_88
  (k_90 (Value.int .i64 4) w19)
  (k_90 (Value.int .i64 0) w19))
  (fun e_89 w20 => k_85 e_89 w20)))
  (fun e_80 w18 => k_77 e_80 w18)))
  (fun e_3 w2 => CALL PR F_tumbrelref06_Disk_can [d_p0, e_3] w2 fun t19_12 w3 =>
  BND (binv .int .eql t19_12 (Value.int .i64 0)) fun t21_13 =>
  JOIN (α := World → Prop) (fun k_48 => COND t21_13
  (BND (newslice 129 #[(Value.slice none 0 0), (Value.int .i64 0)] 2 0 [] w3) fun p_ => NEW p_ fun t23_49 w5 =>
  BND (nilchk d_p0) fun t25_50 =>
  BND (faddr 1 t25_50) fun t26_51 =>
  BND (load1 w5 t26_51) fun t27_52 =>
  APPEND 129 2 32 (Value.agg #[(Value.slice none 0 0), (Value.int .i64 0)]) t23_49 t27_52 w5 fun t28_53 w6 =>
  BND (buildv #[(Value.slice none 0 0), (Value.int .i64 0)] []) fun t29_54 =>
  BND (newslice 129 #[(Value.slice none 0 0), (Value.int .i64 0)] 2 1 [(0, 2, t29_54)] w6) fun p_ => NEW p_ fun t30_55 w7 =>
  APPEND 129 2 32 (Value.agg #[(Value.slice none 0 0), (Value.int .i64 0)]) t28_53 t30_55 w7 fun t31_56 w8 =>
  BND (nilchk d_p0) fun t32_57 =>
  BND (faddr 1 t32_57) fun t33_58 =>
  BND (storev 1 w8 t33_58 t31_56) fun w9 =>
  ∃ S_59 : Nat → World → Prop,
  S_59 5 w9.drew ∧
  S_59 13 w9.drew ∧
  BND (nilchk d_p0) fun t37_60 =>
  BND (faddr 2 t37_60) fun t38_61 =>
  FLT (S_59 5) (fun w_ => load1 w_ t38_61) fun t39_62 =>
  BND (nilchk d_p0) fun t45_63 =>
  BND (faddr 1 t45_63) fun t46_64 =>
  FLT (S_59 13) (fun w_ => load1 w_ t46_64) fun t47_65 =>
  BND (lenl t47_65) fun t48_66 =>
  BND (binv .int .sub t48_66 (Value.int .i64 1)) fun t49_67 =>
  BND (buildv #[(Value.string ByteArray.empty), (Value.int .i64 0)] [(0, 1, name_p1), (1, 1, t49_67)]) fun t50_68 =>
  BND (newslice 111 #[(Value.slice none 0 0)] 1 0 [] w9.drew) fun p_ => NEW p_ fun t35_69 w10 =>
  S_59 5 w10 ∧
  S_59 13 w10 ∧
  APPEND 111 1 24 (Value.slice none 0 0) t35_69 t39_62 w10 fun t40_70 w11 =>
  S_59 13 w11 ∧
  CALL PR F_tumbrelref06_Disk_now [d_p0] w11 fun t42_71 w12 =>
  S_59 13 w12 ∧
  CALL PR F_tumbrelref06_with [t42_71, t50_68] w12 fun t51_72 w13 =>
  BND (newslice 111 #[(Value.slice none 0 0)] 1 1 [(0, 1, t51_72)] w13) fun p_ => NEW p_ fun t52_73 w14 =>
  APPEND 111 1 24 (Value.slice none 0 0) t40_70 t52_73 w14 fun t53_74 w15 =>
  BND (nilchk d_p0) fun t54_75 =>
  BND (faddr 2 t54_75) fun t55_76 =>
  BND (storev 1 w15 t55_76 t53_74) fun w16 =>
  k_48 w16)
  (k_48 w3))
  (fun w4 => R t19_12 w4))
def ann_tumbrelref06_Disk_Create : List (Nat × List Nat) := [(11, [0, 2, 3, 4, 5, 7, 9, 10, 11, 12, 13, 14, 15, 16, 1, 6, 8, 17, 18, 19, 20, 21, 22]), (2000011, [5, 13]), (3011001, [5, 13]), (3011006, [13]), (3011008, [13])]
theorem E_tumbrelref06_Disk_Create (d_p0 name_p1 : Value) (w : World) (R : Value → World → Prop) : M_tumbrelref06_Disk_Create d_p0 name_p1 w R = den PR ann_tumbrelref06_Disk_Create (bodyOf Tryz.f46) (retQ PR Tryz.f46.results.toList R) (env0 [d_p0, name_p1]) w := by kernel_rfl
theorem C_tumbrelref06_Disk_Create {d_p0 name_p1 : Value} {w : World} {R : Value → World → Prop} (h : M_tumbrelref06_Disk_Create d_p0 name_p1 w R) : CALL PR F_tumbrelref06_Disk_Create [d_p0, name_p1] w R :=
  call_of_den2 ann_tumbrelref06_Disk_Create Tryz.func46 (by kernel_rfl) (by kernel_rfl) (by kernel_rfl) ((E_tumbrelref06_Disk_Create d_p0 name_p1 w R) ▸ h)
-- 47 tumbrel.tumbrelref15.file
def M_tumbrelref15_file (seg_p0 : Value) (w : World) (R : Value → World → Prop) : Prop :=
  CALL PR F_tumbrelref14_Of [(Value.int .u8 109), seg_p0] w fun t7_1 w1 =>
  BND (extractv t7_1 0) fun t8_2 =>
  BND (extractv t7_1 1) fun t9_3 =>
  R t8_2 w1
def ann_tumbrelref15_file : List (Nat × List Nat) := []
theorem E_tumbrelref15_file (seg_p0 : Value) (w : World) (R : Value → World → Prop) : M_tumbrelref15_file seg_p0 w R = den PR ann_tumbrelref15_file (bodyOf Tryz.f47) (retQ PR Tryz.f47.results.toList R) (env0 [seg_p0]) w := by kernel_rfl
theorem C_tumbrelref15_file {seg_p0 : Value} {w : World} {R : Value → World → Prop} (h : M_tumbrelref15_file seg_p0 w R) : CALL PR F_tumbrelref15_file [seg_p0] w R :=
  call_of_den2 ann_tumbrelref15_file Tryz.func47 (by kernel_rfl) (by kernel_rfl) (by kernel_rfl) ((E_tumbrelref15_file seg_p0 w R) ▸ h)
-- 48 tumbrel.seglog.At
def M_seglog_At (d_p0 seg_p1 at_p2 : Value) (w : World) (R : Value → World → Prop) : Prop :=
  NEW (newv 37 w (Value.agg #[(Value.int .i64 0), (Value.slice none 0 0), (Value.string ByteArray.empty)])) fun t6_1 w1 =>
  CALL PR F_name_Of [(Value.int .u8 109), seg_p1] w1 fun t16_2 w2 =>
  BND (extractv t16_2 0) fun t17_3 =>
  BND (extractv t16_2 1) fun t18_4 =>
  BND (binv .int .neq t18_4 (Value.int .i64 0)) fun t20_5 =>
  COND t20_5
  (BND (buildv #[(Value.int .i64 0), (Value.slice none 0 0), (Value.string ByteArray.empty)] []) fun t21_6 =>
  BND (storev 3 w2 t6_1 t21_6) fun w3 =>
  BND (loadn 3 w3 t6_1) fun r_7 =>
  R (.tuple #[r_7, (Value.int .i64 0), t18_4]) w3)
  (CALL PR F_disk_Disk_Read [d_p0, t17_3] w2 fun t26_8 w4 =>
  BND (extractv t26_8 0) fun t27_9 =>
  BND (extractv t26_8 1) fun t28_10 =>
  BND (binv .int .neq t28_10 (Value.int .i64 0)) fun t31_11 =>
  COND t31_11
  (BND (buildv #[(Value.int .i64 0), (Value.slice none 0 0), (Value.string ByteArray.empty)] []) fun t32_12 =>
  BND (storev 3 w4 t6_1 t32_12) fun w5 =>
  BND (loadn 3 w5 t6_1) fun r_13 =>
  R (.tuple #[r_13, (Value.int .i64 0), t28_10]) w5)
  (BND (lenl t27_9) fun t37_14 =>
  BND (convi .u64 t37_14) fun t38_15 =>
  BND (binv .int .gtr at_p2 t38_15) fun t39_16 =>
  COND t39_16
  (BND (buildv #[(Value.int .i64 0), (Value.slice none 0 0), (Value.string ByteArray.empty)] []) fun t40_17 =>
  BND (storev 3 w4 t6_1 t40_17) fun w6 =>
  BND (loadn 3 w6 t6_1) fun r_18 =>
  R (.tuple #[r_18, (Value.int .i64 0), (Value.int .i64 3)]) w6)
  (BND (slicev 1 t27_9 (some at_p2) none) fun t44_19 =>
  CALL PR F_record_All [t44_19] w4 fun t45_20 w7 =>
  BND (extractv t45_20 0) fun t46_21 =>
  BND (extractv t45_20 1) fun t47_22 =>
  BND (extractv t45_20 2) fun t48_23 =>
  BND (lenl t46_21) fun t51_24 =>
  BND (binv .int .gtr t51_24 (Value.int .i64 0)) fun t52_25 =>
  COND t52_25
  (∃ S_26 : Nat → World → Prop,
  S_26 5 w7.drew ∧
  BND (iaddr 3 t46_21 (Value.int .i64 0)) fun t54_27 =>
  BND (iaddr 1 t47_22 (Value.int .i64 0)) fun t57_28 =>
  FLT (S_26 5) (fun w_ => load1 w_ t57_28) fun t58_29 =>
  BND (loadn 3 w7.drew t54_27) fun t55_30 =>
  BND (storev 3 w7.drew t6_1 t55_30) fun w8 =>
  S_26 5 w8 ∧
  BND (loadn 3 w8 t6_1) fun r_31 =>
  R (.tuple #[r_31, t58_29, (Value.int .i64 0)]) w8)
  (BND (binv .int .eql t48_23 (Value.int .i64 0)) fun t61_32 =>
  COND t61_32
  (BND (buildv #[(Value.int .i64 0), (Value.slice none 0 0), (Value.string ByteArray.empty)] []) fun t62_33 =>
  BND (storev 3 w7 t6_1 t62_33) fun w9 =>
  BND (loadn 3 w9 t6_1) fun r_34 =>
  R (.tuple #[r_34, (Value.int .i64 0), (Value.int .i64 3)]) w9)
  (BND (buildv #[(Value.int .i64 0), (Value.slice none 0 0), (Value.string ByteArray.empty)] []) fun t63_35 =>
  BND (storev 3 w7 t6_1 t63_35) fun w10 =>
  BND (loadn 3 w10 t6_1) fun r_36 =>
  R (.tuple #[r_36, (Value.int .i64 0), t48_23]) w10)))))
def ann_seglog_At : List (Nat × List Nat) := [(11, [0, 1, 3, 4, 5, 2, 6, 7, 8]), (2000011, [5]), (3011006, [5])]
theorem E_seglog_At (d_p0 seg_p1 at_p2 : Value) (w : World) (R : Value → World → Prop) : M_seglog_At d_p0 seg_p1 at_p2 w R = den PR ann_seglog_At (bodyOf Tryz.f48) (retQ PR Tryz.f48.results.toList R) (env0 [d_p0, seg_p1, at_p2]) w := by kernel_rfl
theorem C_seglog_At {d_p0 seg_p1 at_p2 : Value} {w : World} {R : Value → World → Prop} (h : M_seglog_At d_p0 seg_p1 at_p2 w R) : CALL PR F_seglog_At [d_p0, seg_p1, at_p2] w R :=
  call_of_den2 ann_seglog_At Tryz.func48 (by kernel_rfl) (by kernel_rfl) (by kernel_rfl) ((E_seglog_At d_p0 seg_p1 at_p2 w R) ▸ h)
-- 49 (*tumbrel.disk.Disk).Fuse
def M_disk_Disk_Fuse (d_p0 n_p1 : Value) (w : World) (R : Value → World → Prop) : Prop :=
  BND (max2v n_p1 (Value.int .i64 (-1))) fun t6_1 =>
  BND (nilchk d_p0) fun t7_2 =>
  BND (faddr 3 t7_2) fun t8_3 =>
  BND (storev 1 w t8_3 t6_1) fun w1 =>
  R (.tuple #[]) w1
def ann_disk_Disk_Fuse : List (Nat × List Nat) := []
theorem E_disk_Disk_Fuse (d_p0 n_p1 : Value) (w : World) (R : Value → World → Prop) : M_disk_Disk_Fuse d_p0 n_p1 w R = den PR ann_disk_Disk_Fuse (bodyOf Tryz.f49) (retQ PR Tryz.f49.results.toList R) (env0 [d_p0, n_p1]) w := by kernel_rfl
theorem C_disk_Disk_Fuse {d_p0 n_p1 : Value} {w : World} {R : Value → World → Prop} (h : M_disk_Disk_Fuse d_p0 n_p1 w R) : CALL PR F_disk_Disk_Fuse [d_p0, n_p1] w R :=
  call_of_den2 ann_disk_Disk_Fuse Tryz.func49 (by kernel_rfl) (by kernel_rfl) (by kernel_rfl) ((E_disk_Disk_Fuse d_p0 n_p1 w R) ▸ h)
-- 50 (*tumbrel.tumbrelref15.Log).Append
def M_tumbrelref15_Log_Append (l_p0 r_p1 : Value) (w : World) (R : Value → World → Prop) : Prop :=
  NEW (newv 39 w r_p1) fun r_1 w1 =>
  BND (loadn 3 w1 r_1) fun t11_2 =>
  CALL PR F_tumbrelref05_Bytes [t11_2] w1 fun t12_3 w2 =>
  BND (extractv t12_3 0) fun t13_4 =>
  BND (extractv t12_3 1) fun t14_5 =>
  BND (binv .int .neq t14_5 (Value.int .i64 0)) fun t16_6 =>
  COND t16_6
  (R (.tuple #[(Value.int .u64 0), (Value.int .u64 0), t14_5]) w2)
  (BND (nilchk l_p0) fun t19_7 =>
  BND (faddr 2 t19_7) fun t20_8 =>
  BND (load1 w2.drew t20_8) fun t21_9 =>
  BND (binv .int .gtr t21_9 (Value.int .u64 0)) fun t22_10 =>
  BND (grd (isB t22_10 true) (some l_p0)) fun t24_11 =>
  BND (grd (isB t22_10 true) (nilchk t24_11)) fun t25_12 =>
  BND (grd (isB t22_10 true) (faddr 2 t25_12)) fun t26_13 =>
  BND (grd (isB t22_10 true) (some t13_4)) fun t29_14 =>
  BND (grd (isB t22_10 true) (lenl t29_14)) fun t30_15 =>
  BND (grd (isB t22_10 true) (some l_p0)) fun t32_16 =>
  BND (grd (isB t22_10 true) (nilchk t32_16)) fun t33_17 =>
  BND (grd (isB t22_10 true) (faddr 3 t33_17)) fun t34_18 =>
  BND (grd (isB t22_10 true) (load1 w2.drew t26_13)) fun t27_19 =>
  BND (grd (isB t22_10 true) (convi .i64 t27_19)) fun t28_20 =>
  BND (grd (isB t22_10 true) (binv .int .add t28_20 t30_15)) fun t31_21 =>
  BND (grd (isB t22_10 true) (load1 w2.drew t34_18)) fun t35_22 =>
  BND (grd (isB t22_10 true) (binv .int .gtr t31_21 t35_22)) fun t36_23 =>
  BND (pickv t22_10 t36_23 (Value.bool false)) fun t37_24 =>
  JOIN (α := World → Prop) (fun k_94 => COND t37_24
  (BND (nilchk l_p0) fun t39_95 =>
  BND (faddr 1 t39_95) fun t40_96 =>
  BND (load1 w2.drew t40_96) fun t41_97 =>
  BND (binv .int .eql t41_97 (Value.int .u64 9999999999)) fun t42_98 =>
  COND t42_98
  (R (.tuple #[(Value.int .u64 0), (Value.int .u64 0), (Value.int .i64 4)]) w2.drew)
  (∃ S_99 : Nat → World → Prop,
  S_99 3 w2.drew.drew ∧
  BND (nilchk l_p0) fun t44_100 =>
  BND (faddr 0 t44_100) fun t45_101 =>
  FLT (S_99 3) (fun w_ => load1 w_ t45_101) fun t46_102 =>
  BND (nilchk l_p0) fun t48_103 =>
  BND (faddr 1 t48_103) fun t49_104 =>
  BND (load1 w2.drew.drew t49_104) fun t50_105 =>
  BND (binv .int .add t50_105 (Value.int .u64 1)) fun t51_106 =>
  CALL PR F_tumbrelref15_file [t51_106] w2.drew.drew fun t52_107 w8 =>
  S_99 3 w8 ∧
  CALL PR F_tumbrelref06_Disk_Create [t46_102, t52_107] w8 fun t53_108 w9 =>
  BND (binv .int .neq t53_108 (Value.int .i64 0)) fun t55_109 =>
  COND t55_109
  (R (.tuple #[(Value.int .u64 0), (Value.int .u64 0), t53_108]) w9)
  (BND (nilchk l_p0) fun t58_110 =>
  BND (faddr 1 t58_110) fun t59_111 =>
  BND (load1 w9 t59_111) fun t60_112 =>
  BND (binv .int .add t60_112 (Value.int .u64 1)) fun t61_113 =>
  BND (nilchk l_p0) fun t62_114 =>
  BND (faddr 1 t62_114) fun t63_115 =>
  BND (storev 1 w9 t63_115 t61_113) fun w10 =>
  BND (nilchk l_p0) fun t65_116 =>
  BND (faddr 2 t65_116) fun t66_117 =>
  BND (storev 1 w10 t66_117 (Value.int .u64 0)) fun w11 =>
  BND (nilchk l_p0) fun t68_118 =>
  BND (faddr 5 t68_118) fun t69_119 =>
  BND (storev 1 w11 t69_119 (Value.bool true)) fun w12 =>
  k_94 w12)))
  (k_94 w2.drew))
  (fun w3 => ∃ S_61 : Nat → World → Prop,
  S_61 3 w3.drew ∧
  BND (nilchk l_p0) fun t71_62 =>
  BND (faddr 0 t71_62) fun t72_63 =>
  FLT (S_61 3) (fun w_ => load1 w_ t72_63) fun t73_64 =>
  BND (nilchk l_p0) fun t75_65 =>
  BND (faddr 1 t75_65) fun t76_66 =>
  BND (load1 w3.drew t76_66) fun t77_67 =>
  CALL PR F_tumbrelref15_file [t77_67] w3.drew fun t78_68 w4 =>
  S_61 3 w4 ∧
  CALL PR F_tumbrelref06_Disk_Append [t73_64, t78_68, t13_4] w4 fun t80_69 w5 =>
  BND (binv .int .neq t80_69 (Value.int .i64 0)) fun t82_70 =>
  COND t82_70
  (R (.tuple #[(Value.int .u64 0), (Value.int .u64 0), t80_69]) w5)
  (BND (nilchk l_p0) fun t85_71 =>
  BND (faddr 2 t85_71) fun t86_72 =>
  BND (load1 w5 t86_72) fun t87_73 =>
  BND (nilchk l_p0) fun t90_74 =>
  BND (faddr 2 t90_74) fun t91_75 =>
  BND (load1 w5 t91_75) fun t92_76 =>
  BND (lenl t13_4) fun t94_77 =>
  BND (convi .u64 t94_77) fun t95_78 =>
  BND (binv .int .add t92_76 t95_78) fun t96_79 =>
  BND (nilchk l_p0) fun t97_80 =>
  BND (faddr 2 t97_80) fun t98_81 =>
  BND (storev 1 w5 t98_81 t96_79) fun w6 =>
  BND (nilchk l_p0) fun t101_82 =>
  BND (faddr 4 t101_82) fun t102_83 =>
  BND (nilchk l_p0) fun t105_84 =>
  BND (faddr 1 t105_84) fun t106_85 =>
  BND (load1 w6.drew t102_83) fun t103_86 =>
  BND (load1 w6.drew t106_85) fun t107_87 =>
  BND (min2v t103_86 t107_87) fun t108_88 =>
  BND (nilchk l_p0) fun t109_89 =>
  BND (faddr 4 t109_89) fun t110_90 =>
  BND (storev 1 w6.drew t110_90 t108_88) fun w7 =>
  BND (nilchk l_p0) fun t112_91 =>
  BND (faddr 1 t112_91) fun t113_92 =>
  BND (load1 w7 t113_92) fun t114_93 =>
  R (.tuple #[t114_93, t87_73, (Value.int .i64 0)]) w7)))
def ann_tumbrelref15_Log_Append : List (Nat × List Nat) := [(4, [0, 1, 2, 3, 4, 5, 6, 7, 8, 11, 12, 14, 15, 16, 9, 10, 13, 17, 18, 19]), (7, [0, 1, 2, 3, 4, 5, 6, 7, 8, 9, 10, 11]), (13, [0, 1, 2, 3, 4, 5, 6, 9, 7, 8, 10, 11]), (18, [0, 1, 2, 3, 5, 6, 7, 4, 8, 9, 10, 11, 12]), (2000007, [3]), (2000013, [3]), (3007009, [3]), (3013008, [3])]
theorem E_tumbrelref15_Log_Append (l_p0 r_p1 : Value) (w : World) (R : Value → World → Prop) : M_tumbrelref15_Log_Append l_p0 r_p1 w R = den PR ann_tumbrelref15_Log_Append (bodyOf Tryz.f50) (retQ PR Tryz.f50.results.toList R) (env0 [l_p0, r_p1]) w := by kernel_rfl
theorem C_tumbrelref15_Log_Append {l_p0 r_p1 : Value} {w : World} {R : Value → World → Prop} (h : M_tumbrelref15_Log_Append l_p0 r_p1 w R) : CALL PR F_tumbrelref15_Log_Append [l_p0, r_p1] w R :=
  call_of_den2 ann_tumbrelref15_Log_Append Tryz.func50 (by kernel_rfl) (by kernel_rfl) (by kernel_rfl) ((E_tumbrelref15_Log_Append l_p0 r_p1 w R) ▸ h)
-- 51 tumbrel.tumbrelref15.Read
def M_tumbrelref15_Read (d_p0 seg_p1 at_p2 : Value) (w : World) (R : Value → World → Prop) : Prop :=
  NEW (newv 39 w (Value.agg #[(Value.int .i64 0), (Value.slice none 0 0), (Value.string ByteArray.empty)])) fun t6_1 w1 =>
  BND (binv .int .gtr seg_p1 (Value.int .u64 9999999999)) fun t15_2 =>
  COND t15_2
  (BND (buildv #[(Value.int .i64 0), (Value.slice none 0 0), (Value.string ByteArray.empty)] []) fun t16_3 =>
  BND (storev 3 w1 t6_1 t16_3) fun w2 =>
  BND (loadn 3 w2 t6_1) fun r_4 =>
  R (.tuple #[r_4, (Value.int .i64 0), (Value.int .i64 1)]) w2)
  (CALL PR F_tumbrelref15_file [seg_p1] w1 fun t20_5 w3 =>
  CALL PR F_tumbrelref06_Disk_Read [d_p0, t20_5] w3 fun t21_6 w4 =>
  BND (extractv t21_6 0) fun t22_7 =>
  BND (extractv t21_6 1) fun t23_8 =>
  BND (binv .int .neq t23_8 (Value.int .i64 0)) fun t25_9 =>
  COND t25_9
  (BND (buildv #[(Value.int .i64 0), (Value.slice none 0 0), (Value.string ByteArray.empty)] []) fun t26_10 =>
  BND (storev 3 w4 t6_1 t26_10) fun w5 =>
  BND (loadn 3 w5 t6_1) fun r_11 =>
  R (.tuple #[r_11, (Value.int .i64 0), t23_8]) w5)
  (BND (lenl t22_7) fun t30_12 =>
  BND (convi .u64 t30_12) fun t31_13 =>
  BND (binv .int .geq at_p2 t31_13) fun t32_14 =>
  COND t32_14
  (BND (buildv #[(Value.int .i64 0), (Value.slice none 0 0), (Value.string ByteArray.empty)] []) fun t33_15 =>
  BND (storev 3 w4 t6_1 t33_15) fun w6 =>
  BND (loadn 3 w6 t6_1) fun r_16 =>
  R (.tuple #[r_16, (Value.int .i64 0), (Value.int .i64 3)]) w6)
  (BND (slicev 1 t22_7 (some at_p2) none) fun t37_17 =>
  CALL PR F_tumbrelref05_All [t37_17] w4 fun t38_18 w7 =>
  BND (extractv t38_18 0) fun t39_19 =>
  BND (extractv t38_18 1) fun t40_20 =>
  BND (extractv t38_18 2) fun t41_21 =>
  BND (lenl t39_19) fun t43_22 =>
  BND (binv .int .eql t43_22 (Value.int .i64 0)) fun t44_23 =>
  COND t44_23
  (BND (buildv #[(Value.int .i64 0), (Value.slice none 0 0), (Value.string ByteArray.empty)] []) fun t45_24 =>
  BND (storev 3 w7 t6_1 t45_24) fun w8 =>
  BND (loadn 3 w8 t6_1) fun r_25 =>
  R (.tuple #[r_25, (Value.int .i64 0), t41_21]) w8)
  (∃ S_26 : Nat → World → Prop,
  S_26 5 w7.drew ∧
  BND (iaddr 3 t39_19 (Value.int .i64 0)) fun t48_27 =>
  BND (iaddr 1 t40_20 (Value.int .i64 0)) fun t51_28 =>
  FLT (S_26 5) (fun w_ => load1 w_ t51_28) fun t52_29 =>
  BND (loadn 3 w7.drew t48_27) fun t49_30 =>
  BND (storev 3 w7.drew t6_1 t49_30) fun w9 =>
  S_26 5 w9 ∧
  BND (loadn 3 w9 t6_1) fun r_31 =>
  R (.tuple #[r_31, t52_29, (Value.int .i64 0)]) w9))))
def ann_tumbrelref15_Read : List (Nat × List Nat) := [(11, [0, 1, 3, 4, 5, 2, 6, 7, 8]), (2000011, [5]), (3011006, [5])]
theorem E_tumbrelref15_Read (d_p0 seg_p1 at_p2 : Value) (w : World) (R : Value → World → Prop) : M_tumbrelref15_Read d_p0 seg_p1 at_p2 w R = den PR ann_tumbrelref15_Read (bodyOf Tryz.f51) (retQ PR Tryz.f51.results.toList R) (env0 [d_p0, seg_p1, at_p2]) w := by kernel_rfl
theorem C_tumbrelref15_Read {d_p0 seg_p1 at_p2 : Value} {w : World} {R : Value → World → Prop} (h : M_tumbrelref15_Read d_p0 seg_p1 at_p2 w R) : CALL PR F_tumbrelref15_Read [d_p0, seg_p1, at_p2] w R :=
  call_of_den2 ann_tumbrelref15_Read Tryz.func51 (by kernel_rfl) (by kernel_rfl) (by kernel_rfl) ((E_tumbrelref15_Read d_p0 seg_p1 at_p2 w R) ▸ h)
-- 52 (*tumbrel.tumbrelref15.Log).Sync
def M_tumbrelref15_Log_Sync (l_p0 : Value) (w : World) (R : Value → World → Prop) : Prop :=
  BND (nilchk l_p0) fun t7_1 =>
  BND (faddr 4 t7_1) fun t8_2 =>
  BND (load1 w t8_2) fun t9_3 =>
  ∃ (J_4 : Value → World → Prop) (m_4 : Value → World → Nat), J_4 t9_3 w ∧ ∀ (_d_4 : Env) (s_6 : Value) (w1 : World), J_4 s_6 w1 →
  (BND (nilchk l_p0) fun t12_26 =>
  BND (faddr 1 t12_26) fun t13_27 =>
  BND (load1 w1 t13_27) fun t14_28 =>
  BND (binv .int .leq s_6 t14_28) fun t15_29 =>
  COND t15_29
  (∃ S_30 : Nat → World → Prop,
  S_30 3 w1.drew ∧
  BND (nilchk l_p0) fun t19_31 =>
  BND (faddr 0 t19_31) fun t20_32 =>
  FLT (S_30 3) (fun w_ => load1 w_ t20_32) fun t21_33 =>
  CALL PR F_tumbrelref15_file [s_6] w1.drew fun t23_34 w2 =>
  S_30 3 w2 ∧
  CALL PR F_tumbrelref06_Disk_Sync [t21_33, t23_34] w2 fun t24_35 w3 =>
  BND (binv .int .neq t24_35 (Value.int .i64 0)) fun t26_36 =>
  COND t26_36
  (R t24_35 w3)
  (BND (binv .int .add s_6 (Value.int .u64 1)) fun t17_37 =>
  (J_4 t17_37 w3 ∧ m_4 t17_37 w3 < m_4 s_6 w1)))
  (BND (nilchk l_p0) fun t29_38 =>
  BND (faddr 5 t29_38) fun t30_39 =>
  BND (load1 w1 t30_39) fun t31_40 =>
  JOIN (α := World → Prop) (fun k_59 => COND t31_40
  (BND (nilchk l_p0) fun t33_60 =>
  BND (faddr 0 t33_60) fun t34_61 =>
  BND (load1 w1 t34_61) fun t35_62 =>
  CALL PR F_tumbrelref06_Disk_DirSync [t35_62] w1 fun t36_63 w7 =>
  BND (binv .int .neq t36_63 (Value.int .i64 0)) fun t38_64 =>
  COND t38_64
  (R t36_63 w7)
  (k_59 w7))
  (k_59 w1))
  (fun w4 => BND (nilchk l_p0) fun t42_51 =>
  BND (faddr 1 t42_51) fun t43_52 =>
  BND (load1 w4 t43_52) fun t44_53 =>
  BND (binv .int .add t44_53 (Value.int .u64 1)) fun t45_54 =>
  BND (nilchk l_p0) fun t46_55 =>
  BND (faddr 4 t46_55) fun t47_56 =>
  BND (storev 1 w4 t47_56 t45_54) fun w5 =>
  BND (nilchk l_p0) fun t49_57 =>
  BND (faddr 5 t49_57) fun t50_58 =>
  BND (storev 1 w5 t50_58 (Value.bool false)) fun w6 =>
  R (Value.int .i64 0) w6)))
def ann_tumbrelref15_Log_Sync : List (Nat × List Nat) := [(4, [0, 1, 2, 3, 4, 5, 6, 7]), (1000002, [3]), (2000004, [3]), (3004005, [3])]
theorem E_tumbrelref15_Log_Sync (l_p0 : Value) (w : World) (R : Value → World → Prop) : M_tumbrelref15_Log_Sync l_p0 w R = den PR ann_tumbrelref15_Log_Sync (bodyOf Tryz.f52) (retQ PR Tryz.f52.results.toList R) (env0 [l_p0]) w := by kernel_rfl
theorem C_tumbrelref15_Log_Sync {l_p0 : Value} {w : World} {R : Value → World → Prop} (h : M_tumbrelref15_Log_Sync l_p0 w R) : CALL PR F_tumbrelref15_Log_Sync [l_p0] w R :=
  call_of_den2 ann_tumbrelref15_Log_Sync Tryz.func52 (by kernel_rfl) (by kernel_rfl) (by kernel_rfl) ((E_tumbrelref15_Log_Sync l_p0 w R) ▸ h)
-- 53 (*tumbrel.tumbrelref06.Disk).Fuse
def M_tumbrelref06_Disk_Fuse (d_p0 n_p1 : Value) (w : World) (R : Value → World → Prop) : Prop :=
  BND (max2v n_p1 (Value.int .i64 (-1))) fun t6_1 =>
  BND (nilchk d_p0) fun t7_2 =>
  BND (faddr 3 t7_2) fun t8_3 =>
  BND (storev 1 w t8_3 t6_1) fun w1 =>
  R (.tuple #[]) w1
def ann_tumbrelref06_Disk_Fuse : List (Nat × List Nat) := []
theorem E_tumbrelref06_Disk_Fuse (d_p0 n_p1 : Value) (w : World) (R : Value → World → Prop) : M_tumbrelref06_Disk_Fuse d_p0 n_p1 w R = den PR ann_tumbrelref06_Disk_Fuse (bodyOf Tryz.f53) (retQ PR Tryz.f53.results.toList R) (env0 [d_p0, n_p1]) w := by kernel_rfl
theorem C_tumbrelref06_Disk_Fuse {d_p0 n_p1 : Value} {w : World} {R : Value → World → Prop} (h : M_tumbrelref06_Disk_Fuse d_p0 n_p1 w R) : CALL PR F_tumbrelref06_Disk_Fuse [d_p0, n_p1] w R :=
  call_of_den2 ann_tumbrelref06_Disk_Fuse Tryz.func53 (by kernel_rfl) (by kernel_rfl) (by kernel_rfl) ((E_tumbrelref06_Disk_Fuse d_p0 n_p1 w R) ▸ h)
-- 54 (*tumbrel.tumbrelref06.Disk).Crash
def M_tumbrelref06_Disk_Crash (d_p0 open_p1 tails_p2 : Value) (w : World) (R : Value → World → Prop) : Prop :=
  BND (max2v open_p1 (Value.int .i64 0)) fun t12_1 =>
  BND (nilchk d_p0) fun t14_2 =>
  BND (faddr 2 t14_2) fun t15_3 =>
  BND (load1 w t15_3) fun t16_4 =>
  BND (lenl t16_4) fun t17_5 =>
  BND (binv .int .sub t17_5 (Value.int .i64 1)) fun t18_6 =>
  BND (min2v t12_1 t18_6) fun t19_7 =>
  BND (nilchk d_p0) fun t22_8 =>
  BND (faddr 2 t22_8) fun t23_9 =>
  BND (load1 w t23_9) fun t24_10 =>
  BND (iaddr 1 t24_10 t19_7) fun t26_11 =>
  BND (load1 w t26_11) fun t27_12 =>
  BND (newslice 111 #[(Value.slice none 0 0)] 1 1 [(0, 1, t27_12)] w) fun p_ => NEW p_ fun t28_13 w1 =>
  BND (nilchk d_p0) fun t29_14 =>
  BND (faddr 2 t29_14) fun t30_15 =>
  BND (storev 1 w1 t30_15 t28_13) fun w2 =>
  BND (nilchk d_p0) fun t32_16 =>
  BND (faddr 3 t32_16) fun t33_17 =>
  BND (storev 1 w2 t33_17 (Value.int .i64 (-1))) fun w3 =>
  BND (nilchk d_p0) fun t35_18 =>
  BND (faddr 4 t35_18) fun t36_19 =>
  BND (storev 1 w3 t36_19 (Value.bool false)) fun w4 =>
  CALL PR F_tumbrelref06_Disk_now [d_p0] w4 fun t38_20 w5 =>
  ∃ (J_21 : Value → World → Prop) (m_21 : Value → World → Nat), J_21 (Value.int .i64 0) w5 ∧ ∀ (_d_21 : Env) (i_22 : Value) (w6 : World), J_21 i_22 w6 →
  (BND (lenl t38_20) fun t41_82 =>
  BND (binv .int .lss i_22 t41_82) fun t42_83 =>
  COND t42_83
  (∃ S_84 : Nat → World → Prop,
  S_84 3 w6.drew ∧
  S_84 8 w6.drew ∧
  S_84 10 w6.drew ∧
  BND (nilchk d_p0) fun t46_85 =>
  BND (faddr 1 t46_85) fun t47_86 =>
  FLT (S_84 3) (fun w_ => load1 w_ t47_86) fun t48_87 =>
  BND (iaddr 2 t38_20 i_22) fun t51_88 =>
  BND (faddr 1 t51_88) fun t52_89 =>
  FLT (S_84 8) (fun w_ => load1 w_ t52_89) fun t53_90 =>
  BND (iaddr 2 t48_87 t53_90) fun t54_91 =>
  FLT (S_84 10) (fun w_ => loadn 2 w_ t54_91) fun t55_92 =>
  NEW (newv 129 w6.drew (Value.agg #[(Value.slice none 0 0), (Value.int .i64 0)])) fun f_93 w7 =>
  S_84 3 w7 ∧
  S_84 8 w7 ∧
  S_84 10 w7 ∧
  BND (storev 2 w7 f_93 t55_92) fun w8 =>
  BND (lenl tails_p2) fun t58_94 =>
  BND (binv .int .lss i_22 t58_94) fun t59_95 =>
  JOIN (α := Value → World → Prop) (fun k_130 => COND t59_95
  (BND (iaddr 1 tails_p2 i_22) fun t62_131 =>
  BND (faddr 0 f_93) fun t65_132 =>
  BND (faddr 1 f_93) fun t68_133 =>
  BND (load1 w8.drew t62_131) fun t63_134 =>
  BND (max2v t63_134 (Value.int .i64 0)) fun t64_135 =>
  BND (load1 w8.drew t65_132) fun t66_136 =>
  BND (lenl t66_136) fun t67_137 =>
  BND (load1 w8.drew t68_133) fun t69_138 =>
  BND (binv .int .sub t67_137 t69_138) fun t70_139 =>
  BND (min2v t64_135 t70_139) fun t71_140 =>
  k_130 t71_140 w8.drew)
  (k_130 (Value.int .i64 0) w8))
  (fun tail_96 w9 => ∃ S_109 : Nat → World → Prop,
  S_109 3 w9.drew ∧
  S_109 8 w9.drew ∧
  S_109 11 w9.drew ∧
  S_109 13 w9.drew ∧
  S_109 19 w9.drew ∧
  BND (nilchk d_p0) fun t73_110 =>
  BND (faddr 1 t73_110) fun t74_111 =>
  FLT (S_109 3) (fun w_ => load1 w_ t74_111) fun t75_112 =>
  BND (iaddr 2 t38_20 i_22) fun t78_113 =>
  BND (faddr 1 t78_113) fun t79_114 =>
  FLT (S_109 8) (fun w_ => load1 w_ t79_114) fun t80_115 =>
  BND (faddr 0 f_93) fun t82_116 =>
  FLT (S_109 11) (fun w_ => load1 w_ t82_116) fun t83_117 =>
  BND (faddr 1 f_93) fun t84_118 =>
  FLT (S_109 13) (fun w_ => load1 w_ t84_118) fun t85_119 =>
  BND (binv .int .add t85_119 tail_96) fun t87_120 =>
  BND (slicev 1 t83_117 none (some t87_120)) fun t88_121 =>
  BND (faddr 1 f_93) fun t90_122 =>
  FLT (S_109 19) (fun w_ => load1 w_ t90_122) fun t91_123 =>
  BND (binv .int .add t91_123 tail_96) fun t93_124 =>
  BND (newslice 5 #[(Value.int .u8 0)] 1 0 [] w9.drew) fun p_ => NEW p_ fun t81_125 w10 =>
  S_109 3 w10 ∧
  S_109 8 w10 ∧
  S_109 11 w10 ∧
  S_109 13 w10 ∧
  S_109 19 w10 ∧
  APPEND 5 1 1 (Value.int .u8 0) t81_125 t88_121 w10 fun t89_126 w11 =>
  S_109 3 w11 ∧
  S_109 8 w11 ∧
  S_109 19 w11 ∧
  BND (buildv #[(Value.slice none 0 0), (Value.int .i64 0)] [(0, 1, t89_126), (1, 1, t93_124)]) fun t94_127 =>
  BND (iaddr 2 t75_112 t80_115) fun t95_128 =>
  BND (storev 2 w11 t95_128 t94_127) fun w12 =>
  BND (binv .int .add i_22 (Value.int .i64 1)) fun t44_129 =>
  (J_21 t44_129 w12 ∧ m_21 t44_129 w12 < m_21 i_22 w6)))
  (R (.tuple #[]) w6))
def ann_tumbrelref06_Disk_Crash : List (Nat × List Nat) := [(8, [0, 1, 2, 3, 4, 5, 6, 7, 8, 9, 10, 11, 12]), (11, [0, 1, 2, 5, 8, 3, 4, 6, 7, 9, 10, 11, 12]), (12, [0, 1, 2, 3, 4, 5, 6, 7, 8, 10, 11, 12, 13, 14, 15, 16, 18, 19, 20, 21, 9, 17, 22, 23, 24]), (1000006, [8]), (2000008, [3, 8, 10]), (2000012, [3, 8, 11, 13, 19]), (3008011, [3, 8, 10]), (3012009, [3, 8, 11, 13, 19]), (3012017, [3, 8, 19])]
theorem E_tumbrelref06_Disk_Crash (d_p0 open_p1 tails_p2 : Value) (w : World) (R : Value → World → Prop) : M_tumbrelref06_Disk_Crash d_p0 open_p1 tails_p2 w R = den PR ann_tumbrelref06_Disk_Crash (bodyOf Tryz.f54) (retQ PR Tryz.f54.results.toList R) (env0 [d_p0, open_p1, tails_p2]) w := by kernel_rfl
theorem C_tumbrelref06_Disk_Crash {d_p0 open_p1 tails_p2 : Value} {w : World} {R : Value → World → Prop} (h : M_tumbrelref06_Disk_Crash d_p0 open_p1 tails_p2 w R) : CALL PR F_tumbrelref06_Disk_Crash [d_p0, open_p1, tails_p2] w R :=
  call_of_den2 ann_tumbrelref06_Disk_Crash Tryz.func54 (by kernel_rfl) (by kernel_rfl) (by kernel_rfl) ((E_tumbrelref06_Disk_Crash d_p0 open_p1 tails_p2 w R) ▸ h)
-- 55 tumbrel.tumbrelref15.Open
def M_tumbrelref15_Open (d_p0 seg_p1 at_p2 most_p3 : Value) (w : World) (R : Value → World → Prop) : Prop :=
  CALL PR F_tumbrelref15_may [d_p0, seg_p1, most_p3] w fun t15_1 w1 =>
  BND (unv .not t15_1) fun t16_2 =>
  COND t16_2
  (R (.tuple #[(Value.pointer none), (Value.int .i64 1)]) w1)
  (CALL PR F_tumbrelref15_file [seg_p1] w1 fun t20_3 w2 =>
  CALL PR F_tumbrelref06_Disk_Read [d_p0, t20_3] w2 fun t21_4 w3 =>
  BND (extractv t21_4 0) fun t22_5 =>
  BND (extractv t21_4 1) fun t23_6 =>
  BND (binv .int .neq t23_6 (Value.int .i64 0)) fun t25_7 =>
  COND t25_7
  (R (.tuple #[(Value.pointer none), t23_6]) w3)
  (BND (lenl t22_5) fun t28_8 =>
  BND (convi .u64 t28_8) fun t29_9 =>
  BND (binv .int .lss t29_9 at_p2) fun t31_10 =>
  COND t31_10
  (R (.tuple #[(Value.pointer none), (Value.int .i64 3)]) w3)
  (BND (lenl t22_5) fun t33_11 =>
  BND (convi .u64 t33_11) fun t34_12 =>
  BND (binv .int .gtr t34_12 at_p2) fun t36_13 =>
  JOIN (α := World → Prop) (fun k_29 => COND t36_13
  (CALL PR F_tumbrelref15_file [seg_p1] w3 fun t39_30 w6 =>
  BND (convi .i64 at_p2) fun t41_31 =>
  CALL PR F_tumbrelref06_Disk_Cut [d_p0, t39_30, t41_31] w6 fun t42_32 w7 =>
  BND (binv .int .neq t42_32 (Value.int .i64 0)) fun t44_33 =>
  COND t44_33
  (R (.tuple #[(Value.pointer none), t42_32]) w7)
  (k_29 w7))
  (k_29 w3))
  (fun w4 => BND (binv .int .add seg_p1 (Value.int .u64 1)) fun t51_26 =>
  BND (buildv #[(Value.pointer none), (Value.int .u64 0), (Value.int .u64 0), (Value.int .i64 0), (Value.int .u64 0), (Value.bool false)] [(0, 1, d_p0), (1, 1, seg_p1), (2, 1, at_p2), (3, 1, most_p3), (4, 1, t51_26)]) fun t52_27 =>
  NEW (newv 76 w4 t52_27) fun t53_28 w5 =>
  R (.tuple #[t53_28, (Value.int .i64 0)]) w5))))
def ann_tumbrelref15_Open : List (Nat × List Nat) := []
theorem E_tumbrelref15_Open (d_p0 seg_p1 at_p2 most_p3 : Value) (w : World) (R : Value → World → Prop) : M_tumbrelref15_Open d_p0 seg_p1 at_p2 most_p3 w R = den PR ann_tumbrelref15_Open (bodyOf Tryz.f55) (retQ PR Tryz.f55.results.toList R) (env0 [d_p0, seg_p1, at_p2, most_p3]) w := by kernel_rfl
theorem C_tumbrelref15_Open {d_p0 seg_p1 at_p2 most_p3 : Value} {w : World} {R : Value → World → Prop} (h : M_tumbrelref15_Open d_p0 seg_p1 at_p2 most_p3 w R) : CALL PR F_tumbrelref15_Open [d_p0, seg_p1, at_p2, most_p3] w R :=
  call_of_den2 ann_tumbrelref15_Open Tryz.func55 (by kernel_rfl) (by kernel_rfl) (by kernel_rfl) ((E_tumbrelref15_Open d_p0 seg_p1 at_p2 most_p3 w R) ▸ h)
-- 56 (*tumbrel.tumbrelref06.Disk).Append
def M_tumbrelref06_Disk_Append (d_p0 name_p1 b_p2 : Value) (w : World) (R : Value → World → Prop) : Prop :=
  CALL PR F_tumbrelref06_Disk_find [d_p0, name_p1] w fun t11_1 w1 =>
  BND (binv .int .lss t11_1 (Value.int .i64 0)) fun t13_2 =>
  JOIN (α := Value → World → Prop) (fun k_51 => COND t13_2
  (k_51 (Value.int .i64 5) w1)
  (∃ S_52 : Nat → World → Prop,
  S_52 8 w1.drew ∧
  BND (lenl b_p2) fun t17_53 =>
  BND (nilchk d_p0) fun t20_54 =>
  BND (faddr 0 t20_54) fun t21_55 =>
  FLT (S_52 8) (fun w_ => load1 w_ t21_55) fun t22_56 =>
  CALL PR F_tumbrelref06_Disk_Held [d_p0] w1.drew fun t15_57 w9 =>
  S_52 8 w9 ∧
  BND (binv .int .add t15_57 t17_53) fun t18_58 =>
  BND (binv .int .gtr t18_58 t22_56) fun t23_59 =>
  JOIN (α := Value → World → Prop) (fun k_61 => COND t23_59
  (k_61 (Value.int .i64 4) w9)
  (k_61 (Value.int .i64 0) w9))
  (fun e_60 w10 => k_51 e_60 w10)))
  (fun e_3 w2 => CALL PR F_tumbrelref06_Disk_can [d_p0, e_3] w2 fun t26_14 w3 =>
  BND (binv .int .eql t26_14 (Value.int .i64 0)) fun t28_15 =>
  JOIN (α := World → Prop) (fun k_35 => COND t28_15
  (∃ S_36 : Nat → World → Prop,
  S_36 3 w3.drew ∧
  S_36 9 w3.drew ∧
  S_36 13 w3.drew ∧
  BND (nilchk d_p0) fun t30_37 =>
  BND (faddr 1 t30_37) fun t31_38 =>
  FLT (S_36 3) (fun w_ => load1 w_ t31_38) fun t32_39 =>
  BND (nilchk d_p0) fun t36_40 =>
  BND (faddr 1 t36_40) fun t37_41 =>
  FLT (S_36 9) (fun w_ => load1 w_ t37_41) fun t38_42 =>
  BND (iaddr 2 t38_42 t11_1) fun t40_43 =>
  BND (faddr 0 t40_43) fun t41_44 =>
  FLT (S_36 13) (fun w_ => load1 w_ t41_44) fun t42_45 =>
  BND (newslice 5 #[(Value.int .u8 0)] 1 0 [] w3.drew) fun p_ => NEW p_ fun t34_46 w5 =>
  S_36 3 w5 ∧
  S_36 9 w5 ∧
  S_36 13 w5 ∧
  APPEND 5 1 1 (Value.int .u8 0) t34_46 t42_45 w5 fun t43_47 w6 =>
  S_36 3 w6 ∧
  APPEND 5 1 1 (Value.int .u8 0) t43_47 b_p2 w6 fun t45_48 w7 =>
  S_36 3 w7 ∧
  BND (iaddr 2 t32_39 t11_1) fun t46_49 =>
  BND (faddr 0 t46_49) fun t47_50 =>
  BND (storev 1 w7 t47_50 t45_48) fun w8 =>
  k_35 w8)
  (k_35 w3))
  (fun w4 => R t26_14 w4))
def ann_tumbrelref06_Disk_Append : List (Nat × List Nat) := [(5, [0, 2, 3, 5, 6, 7, 8, 1, 4, 9]), (9, [0, 1, 2, 3, 4, 6, 7, 8, 9, 10, 11, 12, 13, 15, 5, 14, 16, 17, 18, 19]), (2000005, [8]), (2000009, [3, 9, 13]), (3005001, [8]), (3009005, [3, 9, 13]), (3009014, [3]), (3009016, [3])]
theorem E_tumbrelref06_Disk_Append (d_p0 name_p1 b_p2 : Value) (w : World) (R : Value → World → Prop) : M_tumbrelref06_Disk_Append d_p0 name_p1 b_p2 w R = den PR ann_tumbrelref06_Disk_Append (bodyOf Tryz.f56) (retQ PR Tryz.f56.results.toList R) (env0 [d_p0, name_p1, b_p2]) w := by kernel_rfl
theorem C_tumbrelref06_Disk_Append {d_p0 name_p1 b_p2 : Value} {w : World} {R : Value → World → Prop} (h : M_tumbrelref06_Disk_Append d_p0 name_p1 b_p2 w R) : CALL PR F_tumbrelref06_Disk_Append [d_p0, name_p1, b_p2] w R :=
  call_of_den2 ann_tumbrelref06_Disk_Append Tryz.func56 (by kernel_rfl) (by kernel_rfl) (by kernel_rfl) ((E_tumbrelref06_Disk_Append d_p0 name_p1 b_p2 w R) ▸ h)
-- 57 tumbrel.tumbrelref05.Same
def M_tumbrelref05_Same (a_p0 b_p1 : Value) (w : World) (R : Value → World → Prop) : Prop :=
  BND (lenl a_p0) fun t7_1 =>
  BND (lenl b_p1) fun t9_2 =>
  BND (binv .int .neq t7_1 t9_2) fun t10_3 =>
  COND t10_3
  (R (Value.bool false) w)
  (∃ (J_4 : Value → World → Prop) (m_4 : Value → World → Nat), J_4 (Value.int .i64 0) w ∧ ∀ (_d_4 : Env) (i_6 : Value) (w1 : World), J_4 i_6 w1 →
  (BND (lenl a_p0) fun t13_51 =>
  BND (binv .int .lss i_6 t13_51) fun t14_52 =>
  COND t14_52
  (BND (iaddr 3 a_p0 i_6) fun t19_53 =>
  BND (faddr 0 t19_53) fun t20_54 =>
  BND (iaddr 3 b_p1 i_6) fun t24_55 =>
  BND (faddr 0 t24_55) fun t25_56 =>
  BND (load1 w1.drew t20_54) fun t21_57 =>
  BND (load1 w1.drew t25_56) fun t26_58 =>
  BND (binv .int .neq t21_57 t26_58) fun t27_59 =>
  BND (grd (isB t27_59 false) (some a_p0)) fun t29_60 =>
  BND (grd (isB t27_59 false) (some i_6)) fun t30_61 =>
  BND (grd (isB t27_59 false) (iaddr 3 t29_60 t30_61)) fun t31_62 =>
  BND (grd (isB t27_59 false) (faddr 2 t31_62)) fun t32_63 =>
  BND (grd (isB t27_59 false) (some b_p1)) fun t34_64 =>
  BND (grd (isB t27_59 false) (some i_6)) fun t35_65 =>
  BND (grd (isB t27_59 false) (iaddr 3 t34_64 t35_65)) fun t36_66 =>
  BND (grd (isB t27_59 false) (faddr 2 t36_66)) fun t37_67 =>
  BND (grd (isB t27_59 false) (load1 w1.drew t32_63)) fun t33_68 =>
  BND (grd (isB t27_59 false) (load1 w1.drew t37_67)) fun t38_69 =>
  BND (grd (isB t27_59 false) (binv .str .neq t33_68 t38_69)) fun t39_70 =>
  BND (pickv t27_59 (Value.bool true) t39_70) fun t40_71 =>
  BND (grd (isB t40_71 false) (some a_p0)) fun t42_72 =>
  BND (grd (isB t40_71 false) (some i_6)) fun t43_73 =>
  BND (grd (isB t40_71 false) (iaddr 3 t42_72 t43_73)) fun t44_74 =>
  BND (grd (isB t40_71 false) (faddr 1 t44_74)) fun t45_75 =>
  BND (grd (isB t40_71 false) (some b_p1)) fun t47_76 =>
  BND (grd (isB t40_71 false) (some i_6)) fun t48_77 =>
  BND (grd (isB t40_71 false) (iaddr 3 t47_76 t48_77)) fun t49_78 =>
  BND (grd (isB t40_71 false) (faddr 1 t49_78)) fun t50_79 =>
  BND (grd (isB t40_71 false) (load1 w1.drew t45_75)) fun t46_80 =>
  BND (grd (isB t40_71 false) (load1 w1.drew t50_79)) fun t51_81 =>
  GEF (isB t40_71 false) (fun k_ => CALL PR F_tumbrelref02_Same [t46_80, t51_81] w1.drew k_) w1.drew fun t52_82 w2 =>
  BND (grd (isB t40_71 false) (unv .not t52_82)) fun t53_83 =>
  BND (pickv t40_71 (Value.bool true) t53_83) fun t54_84 =>
  COND t54_84
  (R (Value.bool false) w2)
  (BND (binv .int .add i_6 (Value.int .i64 1)) fun t16_85 =>
  (J_4 t16_85 w2 ∧ m_4 t16_85 w2 < m_4 i_6 w1)))
  (R (Value.bool true) w1)))
def ann_tumbrelref05_Same : List (Nat × List Nat) := [(6, [0, 1, 2, 3, 5, 6, 7, 8, 4, 9, 10, 11, 12, 13, 14, 15, 17, 18, 19, 20, 16, 21, 22, 23, 24, 25, 26, 27, 28, 30, 31, 32, 33, 29, 34, 35, 36, 37]), (1000004, [5])]
theorem E_tumbrelref05_Same (a_p0 b_p1 : Value) (w : World) (R : Value → World → Prop) : M_tumbrelref05_Same a_p0 b_p1 w R = den PR ann_tumbrelref05_Same (bodyOf Tryz.f57) (retQ PR Tryz.f57.results.toList R) (env0 [a_p0, b_p1]) w := by kernel_rfl
theorem C_tumbrelref05_Same {a_p0 b_p1 : Value} {w : World} {R : Value → World → Prop} (h : M_tumbrelref05_Same a_p0 b_p1 w R) : CALL PR F_tumbrelref05_Same [a_p0, b_p1] w R :=
  call_of_den2 ann_tumbrelref05_Same Tryz.func57 (by kernel_rfl) (by kernel_rfl) (by kernel_rfl) ((E_tumbrelref05_Same a_p0 b_p1 w R) ▸ h)
-- 58 (*tumbrel.disk.Disk).now
def M_disk_Disk_now (d_p0 : Value) (w : World) (R : Value → World → Prop) : Prop :=
  BND (nilchk d_p0) fun t5_1 =>
  BND (faddr 2 t5_1) fun t6_2 =>
  BND (load1 w t6_2) fun t7_3 =>
  BND (lenl t7_3) fun t8_4 =>
  BND (binv .int .gtr t8_4 (Value.int .i64 0)) fun t10_5 =>
  COND t10_5
  (BND (nilchk d_p0) fun t12_6 =>
  BND (faddr 2 t12_6) fun t13_7 =>
  BND (load1 w t13_7) fun t14_8 =>
  BND (binv .int .sub t8_4 (Value.int .i64 1)) fun t16_9 =>
  BND (iaddr 1 t14_8 t16_9) fun t17_10 =>
  BND (load1 w t17_10) fun t18_11 =>
  R t18_11 w)
  (BND (nilchk d_p0) fun t20_12 =>
  BND (faddr 1 t20_12) fun t21_13 =>
  BND (load1 w t21_13) fun t22_14 =>
  R t22_14 w)
def ann_disk_Disk_now : List (Nat × List Nat) := []
theorem E_disk_Disk_now (d_p0 : Value) (w : World) (R : Value → World → Prop) : M_disk_Disk_now d_p0 w R = den PR ann_disk_Disk_now (bodyOf Tryz.f58) (retQ PR Tryz.f58.results.toList R) (env0 [d_p0]) w := by kernel_rfl
theorem C_disk_Disk_now {d_p0 : Value} {w : World} {R : Value → World → Prop} (h : M_disk_Disk_now d_p0 w R) : CALL PR F_disk_Disk_now [d_p0] w R :=
  call_of_den2 ann_disk_Disk_now Tryz.func58 (by kernel_rfl) (by kernel_rfl) (by kernel_rfl) ((E_disk_Disk_now d_p0 w R) ▸ h)
-- 59 (*tumbrel.tumbrelref06.Disk).now
def M_tumbrelref06_Disk_now (d_p0 : Value) (w : World) (R : Value → World → Prop) : Prop :=
  BND (nilchk d_p0) fun t4_1 =>
  BND (faddr 2 t4_1) fun t5_2 =>
  BND (nilchk d_p0) fun t8_3 =>
  BND (faddr 2 t8_3) fun t9_4 =>
  BND (load1 w.drew t5_2) fun t6_5 =>
  BND (load1 w.drew t9_4) fun t10_6 =>
  BND (lenl t10_6) fun t11_7 =>
  BND (binv .int .sub t11_7 (Value.int .i64 1)) fun t12_8 =>
  BND (iaddr 1 t6_5 t12_8) fun t13_9 =>
  BND (load1 w.drew t13_9) fun t14_10 =>
  R t14_10 w.drew
def ann_tumbrelref06_Disk_now : List (Nat × List Nat) := [(1, [0, 1, 2, 4, 5, 6, 3, 7, 8, 9, 10, 11, 12])]
theorem E_tumbrelref06_Disk_now (d_p0 : Value) (w : World) (R : Value → World → Prop) : M_tumbrelref06_Disk_now d_p0 w R = den PR ann_tumbrelref06_Disk_now (bodyOf Tryz.f59) (retQ PR Tryz.f59.results.toList R) (env0 [d_p0]) w := by kernel_rfl
theorem C_tumbrelref06_Disk_now {d_p0 : Value} {w : World} {R : Value → World → Prop} (h : M_tumbrelref06_Disk_now d_p0 w R) : CALL PR F_tumbrelref06_Disk_now [d_p0] w R :=
  call_of_den2 ann_tumbrelref06_Disk_now Tryz.func59 (by kernel_rfl) (by kernel_rfl) (by kernel_rfl) ((E_tumbrelref06_Disk_now d_p0 w R) ▸ h)
-- 60 slices.Contains[[]*tumbrel.disk.file,*tumbrel.disk.file]
def M_slices_Contains_disk_file_disk_file (s_p0 v_p1 : Value) (w : World) (R : Value → World → Prop) : Prop :=
  CALL PR F_slices_Index_disk_file_disk_file [s_p0, v_p1] w fun t7_1 w1 =>
  BND (binv .int .geq t7_1 (Value.int .i64 0)) fun t8_2 =>
  R t8_2 w1
def ann_slices_Contains_disk_file_disk_file : List (Nat × List Nat) := []
theorem E_slices_Contains_disk_file_disk_file (s_p0 v_p1 : Value) (w : World) (R : Value → World → Prop) : M_slices_Contains_disk_file_disk_file s_p0 v_p1 w R = den PR ann_slices_Contains_disk_file_disk_file (bodyOf Tryz.f60) (retQ PR Tryz.f60.results.toList R) (env0 [s_p0, v_p1]) w := by kernel_rfl
theorem C_slices_Contains_disk_file_disk_file {s_p0 v_p1 : Value} {w : World} {R : Value → World → Prop} (h : M_slices_Contains_disk_file_disk_file s_p0 v_p1 w R) : CALL PR F_slices_Contains_disk_file_disk_file [s_p0, v_p1] w R :=
  call_of_den2 ann_slices_Contains_disk_file_disk_file Tryz.func60 (by kernel_rfl) (by kernel_rfl) (by kernel_rfl) ((E_slices_Contains_disk_file_disk_file s_p0 v_p1 w R) ▸ h)
-- 61 tumbrel.frame.Bytes
def M_frame_Bytes (x_p0 : Value) (w : World) (R : Value → World → Prop) : Prop :=
  NEW (newv 133 w x_p0) fun x_1 w1 =>
  BND (faddr 1 x_1) fun t8_2 =>
  BND (load1 w1 t8_2) fun t9_3 =>
  BND (lenl t9_3) fun t10_4 =>
  BND (binv .int .gtr t10_4 (Value.int .i64 400)) fun t11_5 =>
  COND t11_5
  (R (.tuple #[(Value.slice none 0 0), (Value.int .i64 4)]) w1)
  (BND (faddr 1 x_1) fun t13_6 =>
  BND (load1 w1 t13_6) fun t14_7 =>
  BND (lenl t14_7) fun t15_8 =>
  CALL PR F_frame_low_int [t15_8] w1 fun t16_9 w2 =>
  BND (extractv t16_9 0) fun t17_10 =>
  BND (extractv t16_9 1) fun t18_11 =>
  CALL PR F_frame_low_int [t18_11] w2 fun t21_12 w3 =>
  BND (extractv t21_12 0) fun t22_13 =>
  BND (extractv t21_12 1) fun t23_14 =>
  ∃ S_15 : Nat → World → Prop,
  S_15 7 w3.drew ∧
  BND (faddr 0 x_1) fun t24_16 =>
  BND (faddr 1 x_1) fun t30_17 =>
  FLT (S_15 7) (fun w_ => load1 w_ t30_17) fun t31_18 =>
  BND (load1 w3.drew t24_16) fun t25_19 =>
  BND (newslice 5 #[(Value.int .u8 0)] 1 3 [(0, 1, t25_19), (1, 1, t17_10), (2, 1, t22_13)] w3.drew) fun p_ => NEW p_ fun t28_20 w4 =>
  S_15 7 w4 ∧
  CALL PR F_sum_Put [t28_20] w4 fun t29_21 w5 =>
  S_15 7 w5 ∧
  CALL PR F_sum_Put [t31_18] w5 fun t32_22 w6 =>
  APPEND 5 1 1 (Value.int .u8 0) t29_21 t32_22 w6 fun t33_23 w7 =>
  R (.tuple #[t33_23, (Value.int .i64 0)]) w7)
def ann_frame_Bytes : List (Nat × List Nat) := [(5, [0, 2, 3, 6, 7, 1, 4, 5, 8, 9, 10, 11]), (2000005, [7]), (3005004, [7]), (3005005, [7])]
theorem E_frame_Bytes (x_p0 : Value) (w : World) (R : Value → World → Prop) : M_frame_Bytes x_p0 w R = den PR ann_frame_Bytes (bodyOf Tryz.f61) (retQ PR Tryz.f61.results.toList R) (env0 [x_p0]) w := by kernel_rfl
theorem C_frame_Bytes {x_p0 : Value} {w : World} {R : Value → World → Prop} (h : M_frame_Bytes x_p0 w R) : CALL PR F_frame_Bytes [x_p0] w R :=
  call_of_den2 ann_frame_Bytes Tryz.func61 (by kernel_rfl) (by kernel_rfl) (by kernel_rfl) ((E_frame_Bytes x_p0 w R) ▸ h)
-- 62 tumbrel.vint.All
def M_vint_All (l_p0 : Value) (w : World) (R : Value → World → Prop) : Prop :=
  BND (lenl l_p0) fun t7_1 =>
  ∃ (J_2 : Value → Value → World → Prop) (m_2 : Value → Value → World → Nat), J_2 (Value.slice none 0 0) (Value.int .i64 0) w ∧ ∀ (_d_2 : Env) (b_3 t8_5 : Value) (w1 : World), J_2 b_3 t8_5 w1 →
  (BND (binv .int .lss t8_5 t7_1) fun t9_14 =>
  COND t9_14
  (BND (iaddr 1 l_p0 t8_5) fun t10_15 =>
  BND (load1 w1 t10_15) fun t11_16 =>
  CALL PR F_vint_Put [t11_16] w1 fun t14_17 w2 =>
  APPEND 5 1 1 (Value.int .u8 0) b_3 t14_17 w2 fun t15_18 w3 =>
  BND (binv .int .add t8_5 (Value.int .i64 1)) fun t16_19 =>
  (J_2 t15_18 t16_19 w3 ∧ m_2 t15_18 t16_19 w3 < m_2 b_3 t8_5 w1))
  (R b_3 w1))
def ann_vint_All : List (Nat × List Nat) := [(1000003, [3, 8])]
theorem E_vint_All (l_p0 : Value) (w : World) (R : Value → World → Prop) : M_vint_All l_p0 w R = den PR ann_vint_All (bodyOf Tryz.f62) (retQ PR Tryz.f62.results.toList R) (env0 [l_p0]) w := by kernel_rfl
theorem C_vint_All {l_p0 : Value} {w : World} {R : Value → World → Prop} (h : M_vint_All l_p0 w R) : CALL PR F_vint_All [l_p0] w R :=
  call_of_den2 ann_vint_All Tryz.func62 (by kernel_rfl) (by kernel_rfl) (by kernel_rfl) ((E_vint_All l_p0 w R) ▸ h)
-- 63 tumbrel.name.Read
def M_name_Read (s_p0 : Value) (w : World) (R : Value → World → Prop) : Prop :=
  BND (lens s_p0) fun t9_1 =>
  BND (binv .int .lss t9_1 (Value.int .i64 3)) fun t10_2 =>
  COND t10_2
  (R (.tuple #[(Value.int .u8 0), (Value.int .u64 0), (Value.bool false)]) w)
  (BND (slices s_p0 (some (Value.int .i64 2)) none) fun t13_3 =>
  CALL PR F_strconv_ParseUint [t13_3, (Value.int .i64 10), (Value.int .i64 64)] w fun t14_4 w1 =>
  BND (extractv t14_4 0) fun t15_5 =>
  BND (extractv t14_4 1) fun t16_6 =>
  BND (ifnilv .neq t16_6 Value.nilIface) fun t18_7 =>
  COND t18_7
  (R (.tuple #[(Value.int .u8 0), (Value.int .u64 0), (Value.bool false)]) w1)
  (BND (indexs s_p0 (Value.int .i64 0)) fun t21_8 =>
  CALL PR F_name_Of [t21_8, t15_5] w1 fun t23_9 w2 =>
  BND (extractv t23_9 0) fun t24_10 =>
  BND (extractv t23_9 1) fun t25_11 =>
  BND (binv .str .eql t24_10 s_p0) fun t28_12 =>
  COND t28_12
  (BND (indexs s_p0 (Value.int .i64 0)) fun t30_13 =>
  R (.tuple #[t30_13, t15_5, (Value.bool true)]) w2)
  (R (.tuple #[(Value.int .u8 0), (Value.int .u64 0), (Value.bool false)]) w2)))
def ann_name_Read : List (Nat × List Nat) := []
theorem E_name_Read (s_p0 : Value) (w : World) (R : Value → World → Prop) : M_name_Read s_p0 w R = den PR ann_name_Read (bodyOf Tryz.f63) (retQ PR Tryz.f63.results.toList R) (env0 [s_p0]) w := by kernel_rfl
theorem C_name_Read {s_p0 : Value} {w : World} {R : Value → World → Prop} (h : M_name_Read s_p0 w R) : CALL PR F_name_Read [s_p0] w R :=
  call_of_den2 ann_name_Read Tryz.func63 (by kernel_rfl) (by kernel_rfl) (by kernel_rfl) ((E_name_Read s_p0 w R) ▸ h)
-- 65 tumbrel.record.known
def M_record_known (kind_p0 : Value) (w : World) (R : Value → World → Prop) : Prop :=
  BND (binv .int .geq kind_p0 (Value.int .i64 1)) fun t4_1 =>
  BND (grd (isB t4_1 true) (some kind_p0)) fun t6_2 =>
  BND (grd (isB t4_1 true) (binv .int .leq t6_2 (Value.int .i64 17))) fun t7_3 =>
  BND (pickv t4_1 t7_3 (Value.bool false)) fun t8_4 =>
  R t8_4 w
def ann_record_known : List (Nat × List Nat) := []
theorem E_record_known (kind_p0 : Value) (w : World) (R : Value → World → Prop) : M_record_known kind_p0 w R = den PR ann_record_known (bodyOf Tryz.f65) (retQ PR Tryz.f65.results.toList R) (env0 [kind_p0]) w := by kernel_rfl
theorem C_record_known {kind_p0 : Value} {w : World} {R : Value → World → Prop} (h : M_record_known kind_p0 w R) : CALL PR F_record_known [kind_p0] w R :=
  call_of_den2 ann_record_known Tryz.func65 (by kernel_rfl) (by kernel_rfl) (by kernel_rfl) ((E_record_known kind_p0 w R) ▸ h)
-- 66 tumbrel.record.numbers
def M_record_numbers (w : World) (R : Value → World → Prop) : Prop :=
  NEW (newv 138 w (Value.agg #[(Value.int .i64 0), (Value.int .i64 0), (Value.int .i64 0), (Value.int .i64 0), (Value.int .i64 0), (Value.int .i64 0), (Value.int .i64 0), (Value.int .i64 0), (Value.int .i64 0), (Value.int .i64 0), (Value.int .i64 0), (Value.int .i64 0), (Value.int .i64 0), (Value.int .i64 0), (Value.int .i64 0), (Value.int .i64 0), (Value.int .i64 0), (Value.int .i64 0)])) fun t0_1 w1 =>
  BND (buildv #[(Value.int .i64 0), (Value.int .i64 0), (Value.int .i64 0), (Value.int .i64 0), (Value.int .i64 0), (Value.int .i64 0), (Value.int .i64 0), (Value.int .i64 0), (Value.int .i64 0), (Value.int .i64 0), (Value.int .i64 0), (Value.int .i64 0), (Value.int .i64 0), (Value.int .i64 0), (Value.int .i64 0), (Value.int .i64 0), (Value.int .i64 0), (Value.int .i64 0)] [(2, 1, (Value.int .i64 5)), (3, 1, (Value.int .i64 2)), (4, 1, (Value.int .i64 1)), (5, 1, (Value.int .i64 2)), (6, 1, (Value.int .i64 2)), (7, 1, (Value.int .i64 1)), (8, 1, (Value.int .i64 1)), (9, 1, (Value.int .i64 1)), (10, 1, (Value.int .i64 1)), (11, 1, (Value.int .i64 1)), (12, 1, (Value.int .i64 5)), (13, 1, (Value.int .i64 7)), (14, 1, (Value.int .i64 10)), (15, 1, (Value.int .i64 2)), (16, 1, (Value.int .i64 1)), (17, 1, (Value.int .i64 1))]) fun t1_2 =>
  BND (storev 18 w1 t0_1 t1_2) fun w2 =>
  BND (loadn 18 w2 t0_1) fun r_3 =>
  R r_3 w2
def ann_record_numbers : List (Nat × List Nat) := []
theorem E_record_numbers (w : World) (R : Value → World → Prop) : M_record_numbers w R = den PR ann_record_numbers (bodyOf Tryz.f66) (retQ PR Tryz.f66.results.toList R) (env0 []) w := by kernel_rfl
theorem C_record_numbers {w : World} {R : Value → World → Prop} (h : M_record_numbers w R) : CALL PR F_record_numbers [] w R :=
  call_of_den2 ann_record_numbers Tryz.func66 (by kernel_rfl) (by kernel_rfl) (by kernel_rfl) ((E_record_numbers w R) ▸ h)
-- 67 tumbrel.record.fits
def M_record_fits (kind_p0 many_p1 : Value) (w : World) (R : Value → World → Prop) : Prop :=
  BND (binv .int .eql many_p1 (Value.int .i64 0)) fun t6_1 =>
  BND (grd (isB t6_1 false) (some kind_p0)) fun t8_2 =>
  GEF (isB t6_1 false) (fun k_ => CALL PR F_record_worded [t8_2] w k_) w fun t9_3 w1 =>
  BND (grd (isB t6_1 false) (some t9_3)) fun t10_4 =>
  BND (grd (isB t10_4 true) (some many_p1)) fun t11_5 =>
  BND (grd (isB t10_4 true) (binv .int .leq t11_5 (Value.int .i64 64))) fun t12_6 =>
  BND (grd (isB t6_1 false) (pickv t10_4 t12_6 (Value.bool false))) fun t13_7 =>
  BND (pickv t6_1 (Value.bool true) t13_7) fun t14_8 =>
  R t14_8 w1
def ann_record_fits : List (Nat × List Nat) := []
theorem E_record_fits (kind_p0 many_p1 : Value) (w : World) (R : Value → World → Prop) : M_record_fits kind_p0 many_p1 w R = den PR ann_record_fits (bodyOf Tryz.f67) (retQ PR Tryz.f67.results.toList R) (env0 [kind_p0, many_p1]) w := by kernel_rfl
theorem C_record_fits {kind_p0 many_p1 : Value} {w : World} {R : Value → World → Prop} (h : M_record_fits kind_p0 many_p1 w R) : CALL PR F_record_fits [kind_p0, many_p1] w R :=
  call_of_den2 ann_record_fits Tryz.func67 (by kernel_rfl) (by kernel_rfl) (by kernel_rfl) ((E_record_fits kind_p0 many_p1 w R) ▸ h)
-- 69 strconv.FormatUint
def M_strconv_FormatUint (i_p0 base_p1 : Value) (w : World) (R : Value → World → Prop) : Prop :=
  CALL PR F_internal_strconv_FormatUint [i_p0, base_p1] w fun t7_1 w1 =>
  R t7_1 w1
def ann_strconv_FormatUint : List (Nat × List Nat) := []
theorem E_strconv_FormatUint (i_p0 base_p1 : Value) (w : World) (R : Value → World → Prop) : M_strconv_FormatUint i_p0 base_p1 w R = den PR ann_strconv_FormatUint (bodyOf Tryz.f69) (retQ PR Tryz.f69.results.toList R) (env0 [i_p0, base_p1]) w := by kernel_rfl
theorem C_strconv_FormatUint {i_p0 base_p1 : Value} {w : World} {R : Value → World → Prop} (h : M_strconv_FormatUint i_p0 base_p1 w R) : CALL PR F_strconv_FormatUint [i_p0, base_p1] w R :=
  call_of_den2 ann_strconv_FormatUint Tryz.func69 (by kernel_rfl) (by kernel_rfl) (by kernel_rfl) ((E_strconv_FormatUint i_p0 base_p1 w R) ▸ h)
-- 70 (*tumbrel.disk.Disk).can
def M_disk_Disk_can (d_p0 e_p1 : Value) (w : World) (R : Value → World → Prop) : Prop :=
  BND (nilchk d_p0) fun t7_1 =>
  BND (faddr 4 t7_1) fun t8_2 =>
  BND (load1 w t8_2) fun t9_3 =>
  COND t9_3
  (R (Value.int .i64 7) w)
  (BND (binv .int .neq e_p1 (Value.int .i64 0)) fun t12_4 =>
  COND t12_4
  (R e_p1 w)
  (BND (nilchk d_p0) fun t16_5 =>
  BND (faddr 3 t16_5) fun t17_6 =>
  BND (load1 w t17_6) fun t18_7 =>
  BND (binv .int .eql t18_7 (Value.int .i64 0)) fun t19_8 =>
  COND t19_8
  (BND (nilchk d_p0) fun t21_9 =>
  BND (faddr 4 t21_9) fun t22_10 =>
  BND (storev 1 w t22_10 (Value.bool true)) fun w1 =>
  R (Value.int .i64 7) w1)
  (BND (nilchk d_p0) fun t25_11 =>
  BND (faddr 3 t25_11) fun t26_12 =>
  BND (load1 w t26_12) fun t27_13 =>
  BND (binv .int .gtr t27_13 (Value.int .i64 0)) fun t28_14 =>
  JOIN (α := World → Prop) (fun k_22 => COND t28_14
  (BND (nilchk d_p0) fun t30_23 =>
  BND (faddr 3 t30_23) fun t31_24 =>
  BND (load1 w t31_24) fun t32_25 =>
  BND (binv .int .sub t32_25 (Value.int .i64 1)) fun t33_26 =>
  BND (nilchk d_p0) fun t34_27 =>
  BND (faddr 3 t34_27) fun t35_28 =>
  BND (storev 1 w t35_28 t33_26) fun w3 =>
  k_22 w3)
  (k_22 w))
  (fun w2 => R (Value.int .i64 0) w2))))
def ann_disk_Disk_can : List (Nat × List Nat) := []
theorem E_disk_Disk_can (d_p0 e_p1 : Value) (w : World) (R : Value → World → Prop) : M_disk_Disk_can d_p0 e_p1 w R = den PR ann_disk_Disk_can (bodyOf Tryz.f70) (retQ PR Tryz.f70.results.toList R) (env0 [d_p0, e_p1]) w := by kernel_rfl
theorem C_disk_Disk_can {d_p0 e_p1 : Value} {w : World} {R : Value → World → Prop} (h : M_disk_Disk_can d_p0 e_p1 w R) : CALL PR F_disk_Disk_can [d_p0, e_p1] w R :=
  call_of_den2 ann_disk_Disk_can Tryz.func70 (by kernel_rfl) (by kernel_rfl) (by kernel_rfl) ((E_disk_Disk_can d_p0 e_p1 w R) ▸ h)
-- 71 (*tumbrel.disk.Disk).there
def M_disk_Disk_there (d_p0 name_p1 : Value) (w : World) (R : Value → World → Prop) : Prop :=
  CALL PR F_disk_Disk_now [d_p0] w fun t6_1 w1 =>
  BND (lookv .string (Value.pointer none) false w1 t6_1 name_p1) fun t8_2 =>
  BND (binv .ptr .eql t8_2 (Value.pointer none)) fun t9_3 =>
  COND t9_3
  (R (Value.int .i64 5) w1)
  (R (Value.int .i64 0) w1)
def ann_disk_Disk_there : List (Nat × List Nat) := []
theorem E_disk_Disk_there (d_p0 name_p1 : Value) (w : World) (R : Value → World → Prop) : M_disk_Disk_there d_p0 name_p1 w R = den PR ann_disk_Disk_there (bodyOf Tryz.f71) (retQ PR Tryz.f71.results.toList R) (env0 [d_p0, name_p1]) w := by kernel_rfl
theorem C_disk_Disk_there {d_p0 name_p1 : Value} {w : World} {R : Value → World → Prop} (h : M_disk_Disk_there d_p0 name_p1 w R) : CALL PR F_disk_Disk_there [d_p0, name_p1] w R :=
  call_of_den2 ann_disk_Disk_there Tryz.func71 (by kernel_rfl) (by kernel_rfl) (by kernel_rfl) ((E_disk_Disk_there d_p0 name_p1 w R) ▸ h)
-- 75 slices.Clone[[]byte,byte]
def M_slices_Clone_byte_byte (s_p0 : Value) (w : World) (R : Value → World → Prop) : Prop :=
  BND (binv .slc .eql s_p0 (Value.slice none 0 0)) fun t4_1 =>
  COND t4_1
  (R (Value.slice none 0 0) w)
  (BND (newslice 5 #[(Value.int .u8 0)] 1 0 [] w) fun p_ => NEW p_ fun t5_2 w1 =>
  APPEND 5 1 1 (Value.int .u8 0) t5_2 s_p0 w1 fun t7_3 w2 =>
  R t7_3 w2)
def ann_slices_Clone_byte_byte : List (Nat × List Nat) := []
theorem E_slices_Clone_byte_byte (s_p0 : Value) (w : World) (R : Value → World → Prop) : M_slices_Clone_byte_byte s_p0 w R = den PR ann_slices_Clone_byte_byte (bodyOf Tryz.f75) (retQ PR Tryz.f75.results.toList R) (env0 [s_p0]) w := by kernel_rfl
theorem C_slices_Clone_byte_byte {s_p0 : Value} {w : World} {R : Value → World → Prop} (h : M_slices_Clone_byte_byte s_p0 w R) : CALL PR F_slices_Clone_byte_byte [s_p0] w R :=
  call_of_den2 ann_slices_Clone_byte_byte Tryz.func75 (by kernel_rfl) (by kernel_rfl) (by kernel_rfl) ((E_slices_Clone_byte_byte s_p0 w R) ▸ h)
-- 76 slices.Equal[[]uint64,uint64]
def M_slices_Equal_uint64_uint64 (s1_p0 s2_p1 : Value) (w : World) (R : Value → World → Prop) : Prop :=
  BND (lenl s1_p0) fun t7_1 =>
  BND (lenl s2_p1) fun t9_2 =>
  BND (binv .int .neq t7_1 t9_2) fun t10_3 =>
  COND t10_3
  (R (Value.bool false) w)
  (BND (lenl s1_p0) fun t12_4 =>
  ∃ (J_5 : Value → World → Prop) (m_5 : Value → World → Nat), J_5 (Value.int .i64 0) w ∧ ∀ (_d_5 : Env) (t13_8 : Value) (w1 : World), J_5 t13_8 w1 →
  (BND (binv .int .lss t13_8 t12_4) fun t14_21 =>
  COND t14_21
  (BND (iaddr 1 s1_p0 t13_8) fun t18_22 =>
  BND (iaddr 1 s2_p1 t13_8) fun t22_23 =>
  BND (load1 w1.drew t18_22) fun t19_24 =>
  BND (load1 w1.drew t22_23) fun t23_25 =>
  BND (binv .int .neq t19_24 t23_25) fun t24_26 =>
  COND t24_26
  (R (Value.bool false) w1.drew)
  (BND (binv .int .add t13_8 (Value.int .i64 1)) fun t25_27 =>
  (J_5 t25_27 w1.drew ∧ m_5 t25_27 w1.drew < m_5 t13_8 w1)))
  (R (Value.bool true) w1)))
def ann_slices_Equal_uint64_uint64 : List (Nat × List Nat) := [(6, [0, 1, 2, 4, 5, 6, 3, 7, 8]), (1000004, [13])]
theorem E_slices_Equal_uint64_uint64 (s1_p0 s2_p1 : Value) (w : World) (R : Value → World → Prop) : M_slices_Equal_uint64_uint64 s1_p0 s2_p1 w R = den PR ann_slices_Equal_uint64_uint64 (bodyOf Tryz.f76) (retQ PR Tryz.f76.results.toList R) (env0 [s1_p0, s2_p1]) w := by kernel_rfl
theorem C_slices_Equal_uint64_uint64 {s1_p0 s2_p1 : Value} {w : World} {R : Value → World → Prop} (h : M_slices_Equal_uint64_uint64 s1_p0 s2_p1 w R) : CALL PR F_slices_Equal_uint64_uint64 [s1_p0, s2_p1] w R :=
  call_of_den2 ann_slices_Equal_uint64_uint64 Tryz.func76 (by kernel_rfl) (by kernel_rfl) (by kernel_rfl) ((E_slices_Equal_uint64_uint64 s1_p0 s2_p1 w R) ▸ h)
-- 77 tumbrel.disk.named
def M_disk_named (name_p0 : Value) (w : World) (R : Value → World → Prop) : Prop :=
  BND (lens name_p0) fun t6_1 =>
  BND (binv .int .eql t6_1 (Value.int .i64 0)) fun t7_2 =>
  BND (grd (isB t7_2 false) (some name_p0)) fun t9_3 =>
  BND (grd (isB t7_2 false) (lens t9_3)) fun t10_4 =>
  BND (grd (isB t7_2 false) (binv .int .gtr t10_4 (Value.int .i64 12))) fun t11_5 =>
  BND (pickv t7_2 (Value.bool true) t11_5) fun t12_6 =>
  COND t12_6
  (R (Value.bool false) w)
  (BYTES 5 name_p0 w fun t14_7 w1 =>
  BND (lenl t14_7) fun t15_8 =>
  ∃ (J_9 : Value → World → Prop) (m_9 : Value → World → Nat), J_9 (Value.int .i64 0) w1 ∧ ∀ (_d_9 : Env) (t16_12 : Value) (w2 : World), J_9 t16_12 w2 →
  (BND (binv .int .lss t16_12 t15_8) fun t17_35 =>
  COND t17_35
  (BND (iaddr 1 t14_7 t16_12) fun t18_36 =>
  BND (load1 w2 t18_36) fun t19_37 =>
  BND (binv .int .neq t19_37 (Value.int .u8 46)) fun t21_38 =>
  BND (grd (isB t21_38 true) (some t19_37)) fun t23_39 =>
  BND (grd (isB t21_38 true) (binv .int .lss t23_39 (Value.int .u8 48))) fun t24_40 =>
  BND (grd (isB t21_38 true) (some t24_40)) fun t25_41 =>
  BND (grd (isB t25_41 false) (some t19_37)) fun t26_42 =>
  BND (grd (isB t25_41 false) (binv .int .gtr t26_42 (Value.int .u8 57))) fun t27_43 =>
  BND (grd (isB t21_38 true) (pickv t25_41 (Value.bool true) t27_43)) fun t28_44 =>
  BND (pickv t21_38 t28_44 (Value.bool false)) fun t29_45 =>
  BND (grd (isB t29_45 true) (some t19_37)) fun t31_46 =>
  BND (grd (isB t29_45 true) (binv .int .lss t31_46 (Value.int .u8 97))) fun t32_47 =>
  BND (grd (isB t29_45 true) (some t32_47)) fun t33_48 =>
  BND (grd (isB t33_48 false) (some t19_37)) fun t34_49 =>
  BND (grd (isB t33_48 false) (binv .int .gtr t34_49 (Value.int .u8 122))) fun t35_50 =>
  BND (grd (isB t29_45 true) (pickv t33_48 (Value.bool true) t35_50)) fun t36_51 =>
  BND (pickv t29_45 t36_51 (Value.bool false)) fun t37_52 =>
  COND t37_52
  (R (Value.bool false) w2)
  (BND (binv .int .add t16_12 (Value.int .i64 1)) fun t38_53 =>
  (J_9 t38_53 w2 ∧ m_9 t38_53 w2 < m_9 t16_12 w2)))
  (R (Value.bool true) w2)))
def ann_disk_named : List (Nat × List Nat) := [(1000004, [16])]
theorem E_disk_named (name_p0 : Value) (w : World) (R : Value → World → Prop) : M_disk_named name_p0 w R = den PR ann_disk_named (bodyOf Tryz.f77) (retQ PR Tryz.f77.results.toList R) (env0 [name_p0]) w := by kernel_rfl
theorem C_disk_named {name_p0 : Value} {w : World} {R : Value → World → Prop} (h : M_disk_named name_p0 w R) : CALL PR F_disk_named [name_p0] w R :=
  call_of_den2 ann_disk_named Tryz.func77 (by kernel_rfl) (by kernel_rfl) (by kernel_rfl) ((E_disk_named name_p0 w R) ▸ h)
-- 78 (*tumbrel.disk.Disk).change
def M_disk_Disk_change (d_p0 : Value) (w : World) (R : Value → World → Prop) : Prop :=
  CALL PR F_disk_Disk_now [d_p0] w fun t5_1 w1 =>
  CALL PR F_maps_Clone_file [t5_1] w1 fun t6_2 w2 =>
  BND (nilchk d_p0) fun t9_3 =>
  BND (faddr 2 t9_3) fun t10_4 =>
  BND (load1 w2 t10_4) fun t11_5 =>
  BND (newslice 95 #[(Value.map none)] 1 1 [(0, 1, t6_2)] w2) fun p_ => NEW p_ fun t13_6 w3 =>
  APPEND 95 1 8 (Value.map none) t11_5 t13_6 w3 fun t14_7 w4 =>
  BND (nilchk d_p0) fun t15_8 =>
  BND (faddr 2 t15_8) fun t16_9 =>
  BND (storev 1 w4 t16_9 t14_7) fun w5 =>
  R t6_2 w5
def ann_disk_Disk_change : List (Nat × List Nat) := []
theorem E_disk_Disk_change (d_p0 : Value) (w : World) (R : Value → World → Prop) : M_disk_Disk_change d_p0 w R = den PR ann_disk_Disk_change (bodyOf Tryz.f78) (retQ PR Tryz.f78.results.toList R) (env0 [d_p0]) w := by kernel_rfl
theorem C_disk_Disk_change {d_p0 : Value} {w : World} {R : Value → World → Prop} (h : M_disk_Disk_change d_p0 w R) : CALL PR F_disk_Disk_change [d_p0] w R :=
  call_of_den2 ann_disk_Disk_change Tryz.func78 (by kernel_rfl) (by kernel_rfl) (by kernel_rfl) ((E_disk_Disk_change d_p0 w R) ▸ h)
-- 79 tumbrel.tumbrelref06.may
def M_tumbrelref06_may (name_p0 : Value) (w : World) (R : Value → World → Prop) : Prop :=
  ∃ (J_1 : Value → World → Prop) (m_1 : Value → World → Nat), J_1 (Value.int .i64 0) w ∧ ∀ (_d_1 : Env) (i_3 : Value) (w1 : World), J_1 i_3 w1 →
  (BND (lens name_p0) fun t7_33 =>
  BND (binv .int .lss i_3 t7_33) fun t8_34 =>
  COND t8_34
  (BND (indexs name_p0 i_3) fun t13_35 =>
  BND (binv .int .eql t13_35 (Value.int .u8 46)) fun t15_36 =>
  BND (grd (isB t15_36 false) (some t13_35)) fun t17_37 =>
  BND (grd (isB t15_36 false) (binv .int .geq t17_37 (Value.int .u8 48))) fun t18_38 =>
  BND (grd (isB t15_36 false) (some t18_38)) fun t19_39 =>
  BND (grd (isB t19_39 true) (some t13_35)) fun t20_40 =>
  BND (grd (isB t19_39 true) (binv .int .leq t20_40 (Value.int .u8 57))) fun t21_41 =>
  BND (grd (isB t15_36 false) (pickv t19_39 t21_41 (Value.bool false))) fun t22_42 =>
  BND (pickv t15_36 (Value.bool true) t22_42) fun t23_43 =>
  BND (grd (isB t23_43 false) (some t13_35)) fun t25_44 =>
  BND (grd (isB t23_43 false) (binv .int .geq t25_44 (Value.int .u8 97))) fun t26_45 =>
  BND (grd (isB t23_43 false) (some t26_45)) fun t27_46 =>
  BND (grd (isB t27_46 true) (some t13_35)) fun t28_47 =>
  BND (grd (isB t27_46 true) (binv .int .leq t28_47 (Value.int .u8 122))) fun t29_48 =>
  BND (grd (isB t23_43 false) (pickv t27_46 t29_48 (Value.bool false))) fun t30_49 =>
  BND (pickv t23_43 (Value.bool true) t30_49) fun t31_50 =>
  BND (unv .not t31_50) fun t32_51 =>
  COND t32_51
  (R (Value.bool false) w1)
  (BND (binv .int .add i_3 (Value.int .i64 1)) fun t10_52 =>
  (J_1 t10_52 w1 ∧ m_1 t10_52 w1 < m_1 i_3 w1)))
  (BND (lens name_p0) fun t34_53 =>
  BND (binv .int .geq t34_53 (Value.int .i64 1)) fun t35_54 =>
  BND (grd (isB t35_54 true) (some name_p0)) fun t37_55 =>
  BND (grd (isB t35_54 true) (lens t37_55)) fun t38_56 =>
  BND (grd (isB t35_54 true) (binv .int .leq t38_56 (Value.int .i64 12))) fun t39_57 =>
  BND (pickv t35_54 t39_57 (Value.bool false)) fun t40_58 =>
  R t40_58 w1))
def ann_tumbrelref06_may : List (Nat × List Nat) := [(1000002, [3])]
theorem E_tumbrelref06_may (name_p0 : Value) (w : World) (R : Value → World → Prop) : M_tumbrelref06_may name_p0 w R = den PR ann_tumbrelref06_may (bodyOf Tryz.f79) (retQ PR Tryz.f79.results.toList R) (env0 [name_p0]) w := by kernel_rfl
theorem C_tumbrelref06_may {name_p0 : Value} {w : World} {R : Value → World → Prop} (h : M_tumbrelref06_may name_p0 w R) : CALL PR F_tumbrelref06_may [name_p0] w R :=
  call_of_den2 ann_tumbrelref06_may Tryz.func79 (by kernel_rfl) (by kernel_rfl) (by kernel_rfl) ((E_tumbrelref06_may name_p0 w R) ▸ h)
-- 80 (*tumbrel.tumbrelref06.Disk).find
def M_tumbrelref06_Disk_find (d_p0 name_p1 : Value) (w : World) (R : Value → World → Prop) : Prop :=
  CALL PR F_tumbrelref06_Disk_now [d_p0] w fun t8_1 w1 =>
  ∃ (J_2 : Value → World → Prop) (m_2 : Value → World → Nat), J_2 (Value.int .i64 0) w1 ∧ ∀ (_d_2 : Env) (i_4 : Value) (w2 : World), J_2 i_4 w2 →
  (BND (lenl t8_1) fun t11_23 =>
  BND (binv .int .lss i_4 t11_23) fun t12_24 =>
  COND t12_24
  (BND (iaddr 2 t8_1 i_4) fun t17_25 =>
  BND (faddr 0 t17_25) fun t18_26 =>
  BND (load1 w2 t18_26) fun t19_27 =>
  BND (binv .str .eql t19_27 name_p1) fun t21_28 =>
  COND t21_28
  (BND (iaddr 2 t8_1 i_4) fun t24_29 =>
  BND (faddr 1 t24_29) fun t25_30 =>
  BND (load1 w2 t25_30) fun t26_31 =>
  R t26_31 w2)
  (BND (binv .int .add i_4 (Value.int .i64 1)) fun t14_32 =>
  (J_2 t14_32 w2 ∧ m_2 t14_32 w2 < m_2 i_4 w2)))
  (R (Value.int .i64 (-1)) w2))
def ann_tumbrelref06_Disk_find : List (Nat × List Nat) := [(1000003, [6])]
theorem E_tumbrelref06_Disk_find (d_p0 name_p1 : Value) (w : World) (R : Value → World → Prop) : M_tumbrelref06_Disk_find d_p0 name_p1 w R = den PR ann_tumbrelref06_Disk_find (bodyOf Tryz.f80) (retQ PR Tryz.f80.results.toList R) (env0 [d_p0, name_p1]) w := by kernel_rfl
theorem C_tumbrelref06_Disk_find {d_p0 name_p1 : Value} {w : World} {R : Value → World → Prop} (h : M_tumbrelref06_Disk_find d_p0 name_p1 w R) : CALL PR F_tumbrelref06_Disk_find [d_p0, name_p1] w R :=
  call_of_den2 ann_tumbrelref06_Disk_find Tryz.func80 (by kernel_rfl) (by kernel_rfl) (by kernel_rfl) ((E_tumbrelref06_Disk_find d_p0 name_p1 w R) ▸ h)
-- 81 (*tumbrel.tumbrelref06.Disk).can
def M_tumbrelref06_Disk_can (d_p0 e_p1 : Value) (w : World) (R : Value → World → Prop) : Prop :=
  BND (nilchk d_p0) fun t6_1 =>
  BND (faddr 4 t6_1) fun t7_2 =>
  BND (load1 w t7_2) fun t8_3 =>
  COND t8_3
  (R (Value.int .i64 7) w)
  (BND (binv .int .neq e_p1 (Value.int .i64 0)) fun t10_4 =>
  COND t10_4
  (R e_p1 w)
  (BND (nilchk d_p0) fun t13_5 =>
  BND (faddr 3 t13_5) fun t14_6 =>
  BND (load1 w t14_6) fun t15_7 =>
  BND (binv .int .eql t15_7 (Value.int .i64 0)) fun t16_8 =>
  COND t16_8
  (BND (nilchk d_p0) fun t18_9 =>
  BND (faddr 4 t18_9) fun t19_10 =>
  BND (storev 1 w t19_10 (Value.bool true)) fun w1 =>
  R (Value.int .i64 7) w1)
  (BND (nilchk d_p0) fun t21_11 =>
  BND (faddr 3 t21_11) fun t22_12 =>
  BND (load1 w t22_12) fun t23_13 =>
  BND (binv .int .gtr t23_13 (Value.int .i64 0)) fun t24_14 =>
  JOIN (α := World → Prop) (fun k_22 => COND t24_14
  (BND (nilchk d_p0) fun t26_23 =>
  BND (faddr 3 t26_23) fun t27_24 =>
  BND (load1 w t27_24) fun t28_25 =>
  BND (binv .int .sub t28_25 (Value.int .i64 1)) fun t29_26 =>
  BND (nilchk d_p0) fun t30_27 =>
  BND (faddr 3 t30_27) fun t31_28 =>
  BND (storev 1 w t31_28 t29_26) fun w3 =>
  k_22 w3)
  (k_22 w))
  (fun w2 => R (Value.int .i64 0) w2))))
def ann_tumbrelref06_Disk_can : List (Nat × List Nat) := []
theorem E_tumbrelref06_Disk_can (d_p0 e_p1 : Value) (w : World) (R : Value → World → Prop) : M_tumbrelref06_Disk_can d_p0 e_p1 w R = den PR ann_tumbrelref06_Disk_can (bodyOf Tryz.f81) (retQ PR Tryz.f81.results.toList R) (env0 [d_p0, e_p1]) w := by kernel_rfl
theorem C_tumbrelref06_Disk_can {d_p0 e_p1 : Value} {w : World} {R : Value → World → Prop} (h : M_tumbrelref06_Disk_can d_p0 e_p1 w R) : CALL PR F_tumbrelref06_Disk_can [d_p0, e_p1] w R :=
  call_of_den2 ann_tumbrelref06_Disk_can Tryz.func81 (by kernel_rfl) (by kernel_rfl) (by kernel_rfl) ((E_tumbrelref06_Disk_can d_p0 e_p1 w R) ▸ h)
-- 82 tumbrel.tumbrelref06.with
def M_tumbrelref06_with (l_p0 x_p1 : Value) (w : World) (R : Value → World → Prop) : Prop :=
  NEW (newv 125 w x_p1) fun x_1 w1 =>
  ∃ (J_2 : Value → World → Prop) (m_2 : Value → World → Nat), J_2 (Value.int .i64 0) w1 ∧ ∀ (_d_2 : Env) (at_3 : Value) (w2 : World), J_2 at_3 w2 →
  (BND (lenl l_p0) fun t9_20 =>
  BND (binv .int .lss at_3 t9_20) fun t10_21 =>
  BND (grd (isB t10_21 true) (some l_p0)) fun t12_22 =>
  BND (grd (isB t10_21 true) (some at_3)) fun t13_23 =>
  BND (grd (isB t10_21 true) (iaddr 2 t12_22 t13_23)) fun t14_24 =>
  BND (grd (isB t10_21 true) (faddr 0 t14_24)) fun t15_25 =>
  BND (grd (isB t10_21 true) (faddr 0 x_1)) fun t17_26 =>
  BND (grd (isB t10_21 true) (load1 w2.drew t15_25)) fun t16_27 =>
  BND (grd (isB t10_21 true) (load1 w2.drew t17_26)) fun t18_28 =>
  BND (grd (isB t10_21 true) (binv .str .lss t16_27 t18_28)) fun t19_29 =>
  BND (pickv t10_21 t19_29 (Value.bool false)) fun t20_30 =>
  COND t20_30
  (BND (binv .int .add at_3 (Value.int .i64 1)) fun t22_31 =>
  (J_2 t22_31 w2.drew ∧ m_2 t22_31 w2.drew < m_2 at_3 w2))
  (BND (newslice 125 #[(Value.string ByteArray.empty), (Value.int .i64 0)] 2 0 [] w2.drew) fun p_ => NEW p_ fun t23_32 w3 =>
  BND (slicev 2 l_p0 none (some at_3)) fun t26_33 =>
  APPEND 125 2 24 (Value.agg #[(Value.string ByteArray.empty), (Value.int .i64 0)]) t23_32 t26_33 w3 fun t27_34 w4 =>
  BND (slicev 2 l_p0 (some at_3) none) fun t34_35 =>
  BND (loadn 2 w4.drew x_1) fun t29_36 =>
  BND (newslice 125 #[(Value.string ByteArray.empty), (Value.int .i64 0)] 2 1 [(0, 2, t29_36)] w4.drew) fun p_ => NEW p_ fun t30_37 w5 =>
  APPEND 125 2 24 (Value.agg #[(Value.string ByteArray.empty), (Value.int .i64 0)]) t27_34 t30_37 w5 fun t31_38 w6 =>
  APPEND 125 2 24 (Value.agg #[(Value.string ByteArray.empty), (Value.int .i64 0)]) t31_38 t34_35 w6 fun t35_39 w7 =>
  R t35_39 w7))
def ann_tumbrelref06_with : List (Nat × List Nat) := [(2, [0, 1, 2, 3, 4, 5, 6, 7, 8, 10, 9, 11, 12, 13]), (5, [0, 4, 5, 6, 1, 2, 3, 7, 8]), (1000002, [5])]
theorem E_tumbrelref06_with (l_p0 x_p1 : Value) (w : World) (R : Value → World → Prop) : M_tumbrelref06_with l_p0 x_p1 w R = den PR ann_tumbrelref06_with (bodyOf Tryz.f82) (retQ PR Tryz.f82.results.toList R) (env0 [l_p0, x_p1]) w := by kernel_rfl
theorem C_tumbrelref06_with {l_p0 x_p1 : Value} {w : World} {R : Value → World → Prop} (h : M_tumbrelref06_with l_p0 x_p1 w R) : CALL PR F_tumbrelref06_with [l_p0, x_p1] w R :=
  call_of_den2 ann_tumbrelref06_with Tryz.func82 (by kernel_rfl) (by kernel_rfl) (by kernel_rfl) ((E_tumbrelref06_with l_p0 x_p1 w R) ▸ h)
-- 83 tumbrel.tumbrelref14.Of
def M_tumbrelref14_Of (kind_p0 n_p1 : Value) (w : World) (R : Value → World → Prop) : Prop :=
  BND (binv .int .neq kind_p0 (Value.int .u8 109)) fun t7_1 =>
  BND (grd (isB t7_1 true) (some kind_p0)) fun t9_2 =>
  BND (grd (isB t7_1 true) (binv .int .neq t9_2 (Value.int .u8 101))) fun t10_3 =>
  BND (pickv t7_1 t10_3 (Value.bool false)) fun t11_4 =>
  BND (grd (isB t11_4 true) (some kind_p0)) fun t13_5 =>
  BND (grd (isB t11_4 true) (binv .int .neq t13_5 (Value.int .u8 115))) fun t14_6 =>
  BND (pickv t11_4 t14_6 (Value.bool false)) fun t15_7 =>
  BND (grd (isB t15_7 false) (some n_p1)) fun t17_8 =>
  BND (grd (isB t15_7 false) (binv .int .gtr t17_8 (Value.int .u64 9999999999))) fun t18_9 =>
  BND (pickv t15_7 (Value.bool true) t18_9) fun t19_10 =>
  COND t19_10
  (R (.tuple #[(Value.string { data := #[] }), (Value.int .i64 1)]) w)
  (∃ S_11 : Nat → World → Prop,
  JOIN (α := Value → Value → World → Prop) (fun k_18 => (BND (newslice 5 #[(Value.int .u8 0)] 1 2 [(0, 1, kind_p0), (1, 1, (Value.int .u8 46))] w.drew) fun p_ => NEW p_ fun t21_19 w2 =>
  BND (textv .u8 textOfBytes w2 t21_19) fun t22_20 =>
  CALL PR F_tumbrelref14_digits [n_p1] w2 fun t24_21 w3 =>
  BND (binv .str .add t22_20 t24_21) fun t25_22 =>
  k_18 t25_22 (Value.int .i64 0) w3) ∧
  (BND (newslice 5 #[(Value.int .u8 0)] 1 2 [(0, 1, kind_p0), (1, 1, (Value.int .u8 46))] w.drew) fun p_ => NEW p_ fun t21_23 w4 =>
  CALL PR F_tumbrelref14_digits [n_p1] w4 fun t24_24 w5 =>
  BND (textv .u8 textOfBytes w5 t21_23) fun t22_25 =>
  BND (binv .str .add t22_25 t24_24) fun t25_26 =>
  k_18 t25_26 (Value.int .i64 0) w5) ∧
  (CALL PR F_tumbrelref14_digits [n_p1] w.drew fun t24_27 w6 =>
  BND (newslice 5 #[(Value.int .u8 0)] 1 2 [(0, 1, kind_p0), (1, 1, (Value.int .u8 46))] w6) fun p_ => NEW p_ fun t21_28 w7 =>
  BND (textv .u8 textOfBytes w7 t21_28) fun t22_29 =>
  BND (binv .str .add t22_29 t24_27) fun t25_30 =>
  k_18 t25_30 (Value.int .i64 0) w7))
  (fun t4_12 t5_13 w1 => R (.tuple #[t4_12, t5_13]) w1))
def ann_tumbrelref14_Of : List (Nat × List Nat) := [(3, [0, 3]), (4000003, [1, 2, 4]), (5000003, [1, 2, 4, 5, 6, 7, 9999, 1, 4, 2, 5, 6, 7, 9999, 4, 1, 2, 5, 6, 7])]
theorem E_tumbrelref14_Of (kind_p0 n_p1 : Value) (w : World) (R : Value → World → Prop) : M_tumbrelref14_Of kind_p0 n_p1 w R = den PR ann_tumbrelref14_Of (bodyOf Tryz.f83) (retQ PR Tryz.f83.results.toList R) (env0 [kind_p0, n_p1]) w := by kernel_rfl
theorem C_tumbrelref14_Of {kind_p0 n_p1 : Value} {w : World} {R : Value → World → Prop} (h : M_tumbrelref14_Of kind_p0 n_p1 w R) : CALL PR F_tumbrelref14_Of [kind_p0, n_p1] w R :=
  call_of_den2 ann_tumbrelref14_Of Tryz.func83 (by kernel_rfl) (by kernel_rfl) (by kernel_rfl) ((E_tumbrelref14_Of kind_p0 n_p1 w R) ▸ h)
-- 84 tumbrel.record.All
def M_record_All (b_p0 : Value) (w : World) (R : Value → World → Prop) : Prop :=
  CALL PR F_frame_All [b_p0] w fun t19_1 w1 =>
  BND (extractv t19_1 0) fun t20_2 =>
  BND (extractv t19_1 1) fun t21_3 =>
  BND (extractv t19_1 2) fun t22_4 =>
  BND (lenl t20_2) fun t24_5 =>
  ∃ (J_6 : Value → Value → Value → Value → World → Prop) (m_6 : Value → Value → Value → Value → World → Nat), J_6 (Value.slice none 0 0) (Value.slice none 0 0) (Value.int .i64 0) (Value.int .i64 0) w1 ∧ ∀ (_d_6 : Env) (out_10 ends_11 at_12 t25_18 : Value) (w2 : World), J_6 out_10 ends_11 at_12 t25_18 w2 →
  (BND (binv .int .lss t25_18 t24_5) fun t26_50 =>
  COND t26_50
  (BND (iaddr 2 t20_2 t25_18) fun t27_51 =>
  BND (loadn 2 w2 t27_51) fun t28_52 =>
  NEW (newv 133 w2 (Value.agg #[(Value.int .u8 0), (Value.slice none 0 0)])) fun x_53 w3 =>
  BND (storev 2 w3 x_53 t28_52) fun w4 =>
  BND (loadn 2 w4 x_53) fun t30_54 =>
  CALL PR F_record_Read [t30_54] w4 fun t31_55 w5 =>
  BND (extractv t31_55 0) fun t32_56 =>
  BND (extractv t31_55 1) fun t33_57 =>
  NEW (newv 37 w5 (Value.agg #[(Value.int .i64 0), (Value.slice none 0 0), (Value.string ByteArray.empty)])) fun r_58 w6 =>
  BND (storev 3 w6 r_58 t32_56) fun w7 =>
  BND (binv .int .neq t33_57 (Value.int .i64 0)) fun t35_59 =>
  COND t35_59
  (R (.tuple #[out_10, ends_11, t33_57]) w7)
  (BND (loadn 2 w7 x_53) fun t40_60 =>
  CALL PR F_frame_Bytes [t40_60] w7 fun t41_61 w8 =>
  BND (extractv t41_61 0) fun t42_62 =>
  BND (extractv t41_61 1) fun t43_63 =>
  BND (lenl t42_62) fun t46_64 =>
  BND (binv .int .add at_12 t46_64) fun t47_65 =>
  BND (loadn 3 w8 r_58) fun t49_66 =>
  BND (newslice 37 #[(Value.int .i64 0), (Value.slice none 0 0), (Value.string ByteArray.empty)] 3 1 [(0, 3, t49_66)] w8) fun p_ => NEW p_ fun t50_67 w9 =>
  APPEND 37 3 48 (Value.agg #[(Value.int .i64 0), (Value.slice none 0 0), (Value.string ByteArray.empty)]) out_10 t50_67 w9 fun t51_68 w10 =>
  BND (newslice 3 #[(Value.int .i64 0)] 1 1 [(0, 1, t47_65)] w10) fun p_ => NEW p_ fun t54_69 w11 =>
  APPEND 3 1 8 (Value.int .i64 0) ends_11 t54_69 w11 fun t55_70 w12 =>
  BND (binv .int .add t25_18 (Value.int .i64 1)) fun t56_71 =>
  (J_6 t51_68 t55_70 t47_65 t56_71 w12 ∧ m_6 t51_68 t55_70 t47_65 t56_71 w12 < m_6 out_10 ends_11 at_12 t25_18 w2)))
  (R (.tuple #[out_10, ends_11, t22_4]) w2))
def ann_record_All : List (Nat × List Nat) := [(1000006, [8, 9, 10, 25])]
theorem E_record_All (b_p0 : Value) (w : World) (R : Value → World → Prop) : M_record_All b_p0 w R = den PR ann_record_All (bodyOf Tryz.f84) (retQ PR Tryz.f84.results.toList R) (env0 [b_p0]) w := by kernel_rfl
theorem C_record_All {b_p0 : Value} {w : World} {R : Value → World → Prop} (h : M_record_All b_p0 w R) : CALL PR F_record_All [b_p0] w R :=
  call_of_den2 ann_record_All Tryz.func84 (by kernel_rfl) (by kernel_rfl) (by kernel_rfl) ((E_record_All b_p0 w R) ▸ h)
-- 85 tumbrel.tumbrelref05.Bytes
def M_tumbrelref05_Bytes (r_p0 : Value) (w : World) (R : Value → World → Prop) : Prop :=
  NEW (newv 39 w r_p0) fun r_1 w1 =>
  BND (loadn 3 w1 r_1) fun t4_2 =>
  CALL PR F_tumbrelref05_Right [t4_2] w1 fun t5_3 w2 =>
  BND (unv .not t5_3) fun t6_4 =>
  COND t6_4
  (R (.tuple #[(Value.slice none 0 0), (Value.int .i64 1)]) w2)
  (∃ S_5 : Nat → World → Prop,
  S_5 1 w2.drew ∧
  S_5 4 w2.drew ∧
  S_5 7 w2.drew ∧
  BND (faddr 0 r_1) fun t7_6 =>
  FLT (S_5 1) (fun w_ => load1 w_ t7_6) fun t8_7 =>
  BND (convi .u8 t8_7) fun t9_8 =>
  BND (faddr 1 r_1) fun t10_9 =>
  FLT (S_5 4) (fun w_ => load1 w_ t10_9) fun t11_10 =>
  BND (faddr 2 r_1) fun t13_11 =>
  FLT (S_5 7) (fun w_ => load1 w_ t13_11) fun t14_12 =>
  JOIN (α := Value → Value → World → Prop) (fun k_22 => (CALL PR F_tumbrelref02_All [t11_10] w2.drew fun t12_23 w4 =>
  S_5 1 w4 ∧
  S_5 7 w4 ∧
  BYTES 5 t14_12 w4 fun t15_24 w5 =>
  S_5 1 w5 ∧
  S_5 4 w5 ∧
  APPEND 5 1 1 (Value.int .u8 0) t12_23 t15_24 w5 fun t16_25 w6 =>
  S_5 1 w6 ∧
  BND (buildv #[(Value.int .u8 0), (Value.slice none 0 0)] [(0, 1, t9_8), (1, 1, t16_25)]) fun t17_26 =>
  CALL PR F_tumbrelref04_Bytes [t17_26] w6 fun t18_27 w7 =>
  BND (extractv t18_27 0) fun t19_28 =>
  BND (extractv t18_27 1) fun t20_29 =>
  k_22 t19_28 t20_29 w7) ∧
  (BYTES 5 t14_12 w2.drew fun t15_30 w8 =>
  S_5 1 w8 ∧
  S_5 4 w8 ∧
  CALL PR F_tumbrelref02_All [t11_10] w8 fun t12_31 w9 =>
  S_5 1 w9 ∧
  S_5 7 w9 ∧
  APPEND 5 1 1 (Value.int .u8 0) t12_31 t15_30 w9 fun t16_32 w10 =>
  S_5 1 w10 ∧
  BND (buildv #[(Value.int .u8 0), (Value.slice none 0 0)] [(0, 1, t9_8), (1, 1, t16_32)]) fun t17_33 =>
  CALL PR F_tumbrelref04_Bytes [t17_33] w10 fun t18_34 w11 =>
  BND (extractv t18_34 0) fun t19_35 =>
  BND (extractv t18_34 1) fun t20_36 =>
  k_22 t19_35 t20_36 w11))
  (fun t2_13 t3_14 w3 => R (.tuple #[t2_13, t3_14]) w3))
def ann_tumbrelref05_Bytes : List (Nat × List Nat) := [(3, [0, 1, 2, 3, 4, 6, 7]), (2000003, [1, 4, 7]), (3003005, [1, 7]), (3003008, [1, 4]), (3003009, [1]), (4000003, [5, 8]), (5000003, [5, 8, 9, 10, 11, 12, 13, 14, 15, 9999, 8, 5, 9, 10, 11, 12, 13, 14, 15])]
theorem E_tumbrelref05_Bytes (r_p0 : Value) (w : World) (R : Value → World → Prop) : M_tumbrelref05_Bytes r_p0 w R = den PR ann_tumbrelref05_Bytes (bodyOf Tryz.f85) (retQ PR Tryz.f85.results.toList R) (env0 [r_p0]) w := by kernel_rfl
theorem C_tumbrelref05_Bytes {r_p0 : Value} {w : World} {R : Value → World → Prop} (h : M_tumbrelref05_Bytes r_p0 w R) : CALL PR F_tumbrelref05_Bytes [r_p0] w R :=
  call_of_den2 ann_tumbrelref05_Bytes Tryz.func85 (by kernel_rfl) (by kernel_rfl) (by kernel_rfl) ((E_tumbrelref05_Bytes r_p0 w R) ▸ h)
-- 86 (*tumbrel.tumbrelref06.Disk).Read
def M_tumbrelref06_Disk_Read (d_p0 name_p1 : Value) (w : World) (R : Value → World → Prop) : Prop :=
  BND (nilchk d_p0) fun t8_1 =>
  BND (faddr 4 t8_1) fun t9_2 =>
  BND (load1 w t9_2) fun t10_3 =>
  COND t10_3
  (R (.tuple #[(Value.slice none 0 0), (Value.int .i64 7)]) w)
  (CALL PR F_tumbrelref06_Disk_find [d_p0, name_p1] w fun t13_4 w1 =>
  BND (binv .int .lss t13_4 (Value.int .i64 0)) fun t15_5 =>
  COND t15_5
  (R (.tuple #[(Value.slice none 0 0), (Value.int .i64 5)]) w1)
  (BND (newslice 5 #[(Value.int .u8 0)] 1 0 [] w1) fun p_ => NEW p_ fun t16_6 w2 =>
  BND (nilchk d_p0) fun t18_7 =>
  BND (faddr 1 t18_7) fun t19_8 =>
  BND (load1 w2 t19_8) fun t20_9 =>
  BND (iaddr 2 t20_9 t13_4) fun t22_10 =>
  BND (faddr 0 t22_10) fun t23_11 =>
  BND (load1 w2 t23_11) fun t24_12 =>
  APPEND 5 1 1 (Value.int .u8 0) t16_6 t24_12 w2 fun t25_13 w3 =>
  R (.tuple #[t25_13, (Value.int .i64 0)]) w3))
def ann_tumbrelref06_Disk_Read : List (Nat × List Nat) := []
theorem E_tumbrelref06_Disk_Read (d_p0 name_p1 : Value) (w : World) (R : Value → World → Prop) : M_tumbrelref06_Disk_Read d_p0 name_p1 w R = den PR ann_tumbrelref06_Disk_Read (bodyOf Tryz.f86) (retQ PR Tryz.f86.results.toList R) (env0 [d_p0, name_p1]) w := by kernel_rfl
theorem C_tumbrelref06_Disk_Read {d_p0 name_p1 : Value} {w : World} {R : Value → World → Prop} (h : M_tumbrelref06_Disk_Read d_p0 name_p1 w R) : CALL PR F_tumbrelref06_Disk_Read [d_p0, name_p1] w R :=
  call_of_den2 ann_tumbrelref06_Disk_Read Tryz.func86 (by kernel_rfl) (by kernel_rfl) (by kernel_rfl) ((E_tumbrelref06_Disk_Read d_p0 name_p1 w R) ▸ h)
-- 87 tumbrel.tumbrelref05.All
def M_tumbrelref05_All (b_p0 : Value) (w : World) (R : Value → World → Prop) : Prop :=
  BND (newslice 39 #[(Value.int .i64 0), (Value.slice none 0 0), (Value.string ByteArray.empty)] 3 0 [] w) fun p_ => NEW p_ fun t14_1 w1 =>
  BND (newslice 3 #[(Value.int .i64 0)] 1 0 [] w1) fun p_ => NEW p_ fun t15_2 w2 =>
  CALL PR F_tumbrelref04_All [b_p0] w2 fun t18_3 w3 =>
  BND (extractv t18_3 0) fun t19_4 =>
  BND (extractv t18_3 1) fun t20_5 =>
  BND (extractv t18_3 2) fun t21_6 =>
  ∃ (J_7 : Value → Value → Value → Value → World → Prop) (m_7 : Value → Value → Value → Value → World → Nat), J_7 t14_1 t15_2 (Value.int .i64 0) (Value.int .i64 0) w3 ∧ ∀ (_d_7 : Env) (out_11 ends_12 at_13 i_14 : Value) (w4 : World), J_7 out_11 ends_12 at_13 i_14 w4 →
  (BND (lenl t19_4) fun t24_53 =>
  BND (binv .int .lss i_14 t24_53) fun t25_54 =>
  COND t25_54
  (BND (iaddr 2 t19_4 i_14) fun t31_55 =>
  BND (loadn 2 w4 t31_55) fun t32_56 =>
  CALL PR F_tumbrelref05_Read [t32_56] w4 fun t33_57 w5 =>
  BND (extractv t33_57 0) fun t34_58 =>
  BND (extractv t33_57 1) fun t35_59 =>
  NEW (newv 39 w5 (Value.agg #[(Value.int .i64 0), (Value.slice none 0 0), (Value.string ByteArray.empty)])) fun r_60 w6 =>
  BND (storev 3 w6 r_60 t34_58) fun w7 =>
  BND (binv .int .neq t35_59 (Value.int .i64 0)) fun t37_61 =>
  COND t37_61
  (R (.tuple #[out_11, ends_12, t35_59]) w7)
  (BND (iaddr 2 t19_4 i_14) fun t44_62 =>
  BND (faddr 1 t44_62) fun t45_63 =>
  BND (load1 w7 t45_63) fun t46_64 =>
  BND (lenl t46_64) fun t47_65 =>
  BND (binv .int .add at_13 t47_65) fun t48_66 =>
  BND (binv .int .add t48_66 (Value.int .i64 11)) fun t49_67 =>
  BND (loadn 3 w7 r_60) fun t51_68 =>
  BND (newslice 39 #[(Value.int .i64 0), (Value.slice none 0 0), (Value.string ByteArray.empty)] 3 1 [(0, 3, t51_68)] w7) fun p_ => NEW p_ fun t52_69 w8 =>
  APPEND 39 3 48 (Value.agg #[(Value.int .i64 0), (Value.slice none 0 0), (Value.string ByteArray.empty)]) out_11 t52_69 w8 fun t53_70 w9 =>
  BND (newslice 3 #[(Value.int .i64 0)] 1 1 [(0, 1, t49_67)] w9) fun p_ => NEW p_ fun t56_71 w10 =>
  APPEND 3 1 8 (Value.int .i64 0) ends_12 t56_71 w10 fun t57_72 w11 =>
  BND (binv .int .add i_14 (Value.int .i64 1)) fun t27_73 =>
  (J_7 t53_70 t57_72 t49_67 t27_73 w11 ∧ m_7 t53_70 t57_72 t49_67 t27_73 w11 < m_7 out_11 ends_12 at_13 i_14 w4)))
  (R (.tuple #[out_11, ends_12, t21_6]) w4))
def ann_tumbrelref05_All : List (Nat × List Nat) := [(1000006, [5, 6, 10, 11])]
theorem E_tumbrelref05_All (b_p0 : Value) (w : World) (R : Value → World → Prop) : M_tumbrelref05_All b_p0 w R = den PR ann_tumbrelref05_All (bodyOf Tryz.f87) (retQ PR Tryz.f87.results.toList R) (env0 [b_p0]) w := by kernel_rfl
theorem C_tumbrelref05_All {b_p0 : Value} {w : World} {R : Value → World → Prop} (h : M_tumbrelref05_All b_p0 w R) : CALL PR F_tumbrelref05_All [b_p0] w R :=
  call_of_den2 ann_tumbrelref05_All Tryz.func87 (by kernel_rfl) (by kernel_rfl) (by kernel_rfl) ((E_tumbrelref05_All b_p0 w R) ▸ h)
-- 88 (*tumbrel.tumbrelref06.Disk).Sync
def M_tumbrelref06_Disk_Sync (d_p0 name_p1 : Value) (w : World) (R : Value → World → Prop) : Prop :=
  CALL PR F_tumbrelref06_Disk_find [d_p0, name_p1] w fun t9_1 w1 =>
  BND (binv .int .lss t9_1 (Value.int .i64 0)) fun t11_2 =>
  JOIN (α := Value → World → Prop) (fun k_35 => COND t11_2
  (k_35 (Value.int .i64 5) w1)
  (k_35 (Value.int .i64 0) w1))
  (fun e_3 w2 => CALL PR F_tumbrelref06_Disk_can [d_p0, e_3] w2 fun t14_4 w3 =>
  BND (binv .int .eql t14_4 (Value.int .i64 0)) fun t16_5 =>
  JOIN (α := World → Prop) (fun k_22 => COND t16_5
  (BND (nilchk d_p0) fun t18_23 =>
  BND (faddr 1 t18_23) fun t19_24 =>
  BND (nilchk d_p0) fun t23_25 =>
  BND (faddr 1 t23_25) fun t24_26 =>
  BND (load1 w3.drew t19_24) fun t20_27 =>
  BND (load1 w3.drew t24_26) fun t25_28 =>
  BND (iaddr 2 t25_28 t9_1) fun t27_29 =>
  BND (faddr 0 t27_29) fun t28_30 =>
  BND (load1 w3.drew t28_30) fun t29_31 =>
  BND (lenl t29_31) fun t30_32 =>
  BND (iaddr 2 t20_27 t9_1) fun t31_33 =>
  BND (faddr 1 t31_33) fun t32_34 =>
  BND (storev 1 w3.drew t32_34 t30_32) fun w5 =>
  k_22 w5)
  (k_22 w3))
  (fun w4 => R t14_4 w4))
def ann_tumbrelref06_Disk_Sync : List (Nat × List Nat) := [(7, [0, 1, 2, 4, 5, 6, 7, 9, 3, 8, 10, 11, 12, 13, 14, 15, 16])]
theorem E_tumbrelref06_Disk_Sync (d_p0 name_p1 : Value) (w : World) (R : Value → World → Prop) : M_tumbrelref06_Disk_Sync d_p0 name_p1 w R = den PR ann_tumbrelref06_Disk_Sync (bodyOf Tryz.f88) (retQ PR Tryz.f88.results.toList R) (env0 [d_p0, name_p1]) w := by kernel_rfl
theorem C_tumbrelref06_Disk_Sync {d_p0 name_p1 : Value} {w : World} {R : Value → World → Prop} (h : M_tumbrelref06_Disk_Sync d_p0 name_p1 w R) : CALL PR F_tumbrelref06_Disk_Sync [d_p0, name_p1] w R :=
  call_of_den2 ann_tumbrelref06_Disk_Sync Tryz.func88 (by kernel_rfl) (by kernel_rfl) (by kernel_rfl) ((E_tumbrelref06_Disk_Sync d_p0 name_p1 w R) ▸ h)
-- 89 (*tumbrel.tumbrelref06.Disk).DirSync
def M_tumbrelref06_Disk_DirSync (d_p0 : Value) (w : World) (R : Value → World → Prop) : Prop :=
  CALL PR F_tumbrelref06_Disk_can [d_p0, (Value.int .i64 0)] w fun t5_1 w1 =>
  BND (binv .int .eql t5_1 (Value.int .i64 0)) fun t7_2 =>
  JOIN (α := World → Prop) (fun k_9 => COND t7_2
  (CALL PR F_tumbrelref06_Disk_now [d_p0] w1 fun t10_10 w3 =>
  BND (newslice 111 #[(Value.slice none 0 0)] 1 1 [(0, 1, t10_10)] w3) fun p_ => NEW p_ fun t11_11 w4 =>
  BND (nilchk d_p0) fun t12_12 =>
  BND (faddr 2 t12_12) fun t13_13 =>
  BND (storev 1 w4 t13_13 t11_11) fun w5 =>
  k_9 w5)
  (k_9 w1))
  (fun w2 => R t5_1 w2)
def ann_tumbrelref06_Disk_DirSync : List (Nat × List Nat) := []
theorem E_tumbrelref06_Disk_DirSync (d_p0 : Value) (w : World) (R : Value → World → Prop) : M_tumbrelref06_Disk_DirSync d_p0 w R = den PR ann_tumbrelref06_Disk_DirSync (bodyOf Tryz.f89) (retQ PR Tryz.f89.results.toList R) (env0 [d_p0]) w := by kernel_rfl
theorem C_tumbrelref06_Disk_DirSync {d_p0 : Value} {w : World} {R : Value → World → Prop} (h : M_tumbrelref06_Disk_DirSync d_p0 w R) : CALL PR F_tumbrelref06_Disk_DirSync [d_p0] w R :=
  call_of_den2 ann_tumbrelref06_Disk_DirSync Tryz.func89 (by kernel_rfl) (by kernel_rfl) (by kernel_rfl) ((E_tumbrelref06_Disk_DirSync d_p0 w R) ▸ h)
-- 90 (*tumbrel.tumbrelref06.Disk).Cut
def M_tumbrelref06_Disk_Cut (d_p0 name_p1 n_p2 : Value) (w : World) (R : Value → World → Prop) : Prop :=
  CALL PR F_tumbrelref06_Disk_find [d_p0, name_p1] w fun t11_1 w1 =>
  BND (binv .int .lss t11_1 (Value.int .i64 0)) fun t13_2 =>
  JOIN (α := Value → World → Prop) (fun k_85 => COND t13_2
  (k_85 (Value.int .i64 5) w1)
  (BND (binv .int .lss n_p2 (Value.int .i64 0)) fun t15_86 =>
  BND (grd (isB t15_86 false) (some n_p2)) fun t17_87 =>
  BND (grd (isB t15_86 false) (some d_p0)) fun t18_88 =>
  BND (grd (isB t15_86 false) (nilchk t18_88)) fun t19_89 =>
  BND (grd (isB t15_86 false) (faddr 1 t19_89)) fun t20_90 =>
  BND (grd (isB t15_86 false) (load1 w1 t20_90)) fun t21_91 =>
  BND (grd (isB t15_86 false) (some t11_1)) fun t22_92 =>
  BND (grd (isB t15_86 false) (iaddr 2 t21_91 t22_92)) fun t23_93 =>
  BND (grd (isB t15_86 false) (faddr 0 t23_93)) fun t24_94 =>
  BND (grd (isB t15_86 false) (load1 w1 t24_94)) fun t25_95 =>
  BND (grd (isB t15_86 false) (lenl t25_95)) fun t26_96 =>
  BND (grd (isB t15_86 false) (binv .int .gtr t17_87 t26_96)) fun t27_97 =>
  BND (pickv t15_86 (Value.bool true) t27_97) fun t28_98 =>
  JOIN (α := Value → World → Prop) (fun k_100 => COND t28_98
  (k_100 (Value.int .i64 1) w1)
  (k_100 (Value.int .i64 0) w1))
  (fun e_99 w9 => k_85 e_99 w9)))
  (fun e_3 w2 => CALL PR F_tumbrelref06_Disk_can [d_p0, e_3] w2 fun t31_19 w3 =>
  BND (binv .int .eql t31_19 (Value.int .i64 0)) fun t33_20 =>
  JOIN (α := World → Prop) (fun k_57 => COND t33_20
  (∃ S_58 : Nat → World → Prop,
  S_58 3 w3.drew ∧
  S_58 9 w3.drew ∧
  S_58 13 w3.drew ∧
  BND (nilchk d_p0) fun t35_59 =>
  BND (faddr 1 t35_59) fun t36_60 =>
  FLT (S_58 3) (fun w_ => load1 w_ t36_60) fun t37_61 =>
  BND (nilchk d_p0) fun t41_62 =>
  BND (faddr 1 t41_62) fun t42_63 =>
  FLT (S_58 9) (fun w_ => load1 w_ t42_63) fun t43_64 =>
  BND (iaddr 2 t43_64 t11_1) fun t45_65 =>
  BND (faddr 0 t45_65) fun t46_66 =>
  FLT (S_58 13) (fun w_ => load1 w_ t46_66) fun t47_67 =>
  BND (slicev 1 t47_67 none (some n_p2)) fun t49_68 =>
  BND (newslice 5 #[(Value.int .u8 0)] 1 0 [] w3.drew) fun p_ => NEW p_ fun t39_69 w5 =>
  S_58 3 w5 ∧
  S_58 9 w5 ∧
  S_58 13 w5 ∧
  APPEND 5 1 1 (Value.int .u8 0) t39_69 t49_68 w5 fun t50_70 w6 =>
  S_58 3 w6 ∧
  BND (iaddr 2 t37_61 t11_1) fun t51_71 =>
  BND (faddr 0 t51_71) fun t52_72 =>
  BND (storev 1 w6 t52_72 t50_70) fun w7 =>
  BND (nilchk d_p0) fun t54_73 =>
  BND (faddr 1 t54_73) fun t55_74 =>
  BND (nilchk d_p0) fun t59_75 =>
  BND (faddr 1 t59_75) fun t60_76 =>
  BND (load1 w7.drew t55_74) fun t56_77 =>
  BND (load1 w7.drew t60_76) fun t61_78 =>
  BND (iaddr 2 t61_78 t11_1) fun t63_79 =>
  BND (faddr 1 t63_79) fun t64_80 =>
  BND (load1 w7.drew t64_80) fun t65_81 =>
  BND (min2v t65_81 n_p2) fun t67_82 =>
  BND (iaddr 2 t56_77 t11_1) fun t68_83 =>
  BND (faddr 1 t68_83) fun t69_84 =>
  BND (storev 1 w7.drew t69_84 t67_82) fun w8 =>
  k_57 w8)
  (k_57 w3))
  (fun w4 => R t31_19 w4))
def ann_tumbrelref06_Disk_Cut : List (Nat × List Nat) := [(9, [0, 1, 2, 3, 4, 6, 7, 8, 9, 10, 11, 12, 13, 14, 15, 5, 16, 17, 18, 19]), (10, [0, 1, 2, 4, 5, 6, 7, 9, 13, 3, 8, 10, 11, 12, 14, 15, 16, 17]), (2000009, [3, 9, 13]), (3009005, [3, 9, 13]), (3009016, [3])]
theorem E_tumbrelref06_Disk_Cut (d_p0 name_p1 n_p2 : Value) (w : World) (R : Value → World → Prop) : M_tumbrelref06_Disk_Cut d_p0 name_p1 n_p2 w R = den PR ann_tumbrelref06_Disk_Cut (bodyOf Tryz.f90) (retQ PR Tryz.f90.results.toList R) (env0 [d_p0, name_p1, n_p2]) w := by kernel_rfl
theorem C_tumbrelref06_Disk_Cut {d_p0 name_p1 n_p2 : Value} {w : World} {R : Value → World → Prop} (h : M_tumbrelref06_Disk_Cut d_p0 name_p1 n_p2 w R) : CALL PR F_tumbrelref06_Disk_Cut [d_p0, name_p1, n_p2] w R :=
  call_of_den2 ann_tumbrelref06_Disk_Cut Tryz.func90 (by kernel_rfl) (by kernel_rfl) (by kernel_rfl) ((E_tumbrelref06_Disk_Cut d_p0 name_p1 n_p2 w R) ▸ h)
-- 91 tumbrel.tumbrelref02.Same
def M_tumbrelref02_Same (a_p0 b_p1 : Value) (w : World) (R : Value → World → Prop) : Prop :=
  BND (lenl a_p0) fun t7_1 =>
  BND (lenl b_p1) fun t9_2 =>
  BND (binv .int .neq t7_1 t9_2) fun t10_3 =>
  COND t10_3
  (R (Value.bool false) w)
  (∃ (J_4 : Value → World → Prop) (m_4 : Value → World → Nat), J_4 (Value.int .i64 0) w ∧ ∀ (_d_4 : Env) (i_6 : Value) (w1 : World), J_4 i_6 w1 →
  (BND (lenl a_p0) fun t13_22 =>
  BND (binv .int .lss i_6 t13_22) fun t14_23 =>
  COND t14_23
  (BND (iaddr 1 a_p0 i_6) fun t19_24 =>
  BND (iaddr 1 b_p1 i_6) fun t23_25 =>
  BND (load1 w1.drew t19_24) fun t20_26 =>
  BND (load1 w1.drew t23_25) fun t24_27 =>
  BND (binv .int .neq t20_26 t24_27) fun t25_28 =>
  COND t25_28
  (R (Value.bool false) w1.drew)
  (BND (binv .int .add i_6 (Value.int .i64 1)) fun t16_29 =>
  (J_4 t16_29 w1.drew ∧ m_4 t16_29 w1.drew < m_4 i_6 w1)))
  (R (Value.bool true) w1)))
def ann_tumbrelref02_Same : List (Nat × List Nat) := [(6, [0, 1, 2, 4, 5, 6, 3, 7, 8]), (1000004, [5])]
theorem E_tumbrelref02_Same (a_p0 b_p1 : Value) (w : World) (R : Value → World → Prop) : M_tumbrelref02_Same a_p0 b_p1 w R = den PR ann_tumbrelref02_Same (bodyOf Tryz.f91) (retQ PR Tryz.f91.results.toList R) (env0 [a_p0, b_p1]) w := by kernel_rfl
theorem C_tumbrelref02_Same {a_p0 b_p1 : Value} {w : World} {R : Value → World → Prop} (h : M_tumbrelref02_Same a_p0 b_p1 w R) : CALL PR F_tumbrelref02_Same [a_p0, b_p1] w R :=
  call_of_den2 ann_tumbrelref02_Same Tryz.func91 (by kernel_rfl) (by kernel_rfl) (by kernel_rfl) ((E_tumbrelref02_Same a_p0 b_p1 w R) ▸ h)
-- 92 slices.Index[[]*tumbrel.disk.file,*tumbrel.disk.file]
def M_slices_Index_disk_file_disk_file (s_p0 v_p1 : Value) (w : World) (R : Value → World → Prop) : Prop :=
  BND (lenl s_p0) fun t7_1 =>
  ∃ (J_2 : Value → World → Prop) (m_2 : Value → World → Nat), J_2 (Value.int .i64 0) w ∧ ∀ (_d_2 : Env) (t8_5 : Value) (w1 : World), J_2 t8_5 w1 →
  (BND (binv .int .lss t8_5 t7_1) fun t9_16 =>
  COND t9_16
  (BND (iaddr 1 s_p0 t8_5) fun t14_17 =>
  BND (load1 w1 t14_17) fun t15_18 =>
  BND (ptrv w1 .eql v_p1 t15_18) fun t16_19 =>
  COND t16_19
  (R t8_5 w1)
  (BND (binv .int .add t8_5 (Value.int .i64 1)) fun t18_20 =>
  (J_2 t18_20 w1 ∧ m_2 t18_20 w1 < m_2 t8_5 w1)))
  (R (Value.int .i64 (-1)) w1))
def ann_slices_Index_disk_file_disk_file : List (Nat × List Nat) := [(1000002, [8])]
theorem E_slices_Index_disk_file_disk_file (s_p0 v_p1 : Value) (w : World) (R : Value → World → Prop) : M_slices_Index_disk_file_disk_file s_p0 v_p1 w R = den PR ann_slices_Index_disk_file_disk_file (bodyOf Tryz.f92) (retQ PR Tryz.f92.results.toList R) (env0 [s_p0, v_p1]) w := by kernel_rfl
theorem C_slices_Index_disk_file_disk_file {s_p0 v_p1 : Value} {w : World} {R : Value → World → Prop} (h : M_slices_Index_disk_file_disk_file s_p0 v_p1 w R) : CALL PR F_slices_Index_disk_file_disk_file [s_p0, v_p1] w R :=
  call_of_den2 ann_slices_Index_disk_file_disk_file Tryz.func92 (by kernel_rfl) (by kernel_rfl) (by kernel_rfl) ((E_slices_Index_disk_file_disk_file s_p0 v_p1 w R) ▸ h)
-- 93 tumbrel.frame.low[int]
def M_frame_low_int (n_p0 : Value) (w : World) (R : Value → World → Prop) : Prop :=
  BND (binv .int .and n_p0 (Value.int .i64 255)) fun t5_1 =>
  BND (convi .u8 t5_1) fun t6_2 =>
  BND (shiftv .shr n_p0 (Value.int .u64 8)) fun t8_3 =>
  R (.tuple #[t6_2, t8_3]) w
def ann_frame_low_int : List (Nat × List Nat) := []
theorem E_frame_low_int (n_p0 : Value) (w : World) (R : Value → World → Prop) : M_frame_low_int n_p0 w R = den PR ann_frame_low_int (bodyOf Tryz.f93) (retQ PR Tryz.f93.results.toList R) (env0 [n_p0]) w := by kernel_rfl
theorem C_frame_low_int {n_p0 : Value} {w : World} {R : Value → World → Prop} (h : M_frame_low_int n_p0 w R) : CALL PR F_frame_low_int [n_p0] w R :=
  call_of_den2 ann_frame_low_int Tryz.func93 (by kernel_rfl) (by kernel_rfl) (by kernel_rfl) ((E_frame_low_int n_p0 w R) ▸ h)
-- 94 tumbrel.sum.Put
def M_sum_Put (b_p0 : Value) (w : World) (R : Value → World → Prop) : Prop :=
  CALL PR F_sum_Of [b_p0] w fun t5_1 w1 =>
  CALL PR F_sum_four [t5_1] w1 fun t6_2 w2 =>
  BND (newslice 80 #[(Value.slice none 0 0)] 1 2 [(0, 1, b_p0), (1, 1, t6_2)] w2) fun p_ => NEW p_ fun t7_3 w3 =>
  CALL PR F_slices_Concat_byte_byte [t7_3] w3 fun t8_4 w4 =>
  R t8_4 w4
def ann_sum_Put : List (Nat × List Nat) := []
theorem E_sum_Put (b_p0 : Value) (w : World) (R : Value → World → Prop) : M_sum_Put b_p0 w R = den PR ann_sum_Put (bodyOf Tryz.f94) (retQ PR Tryz.f94.results.toList R) (env0 [b_p0]) w := by kernel_rfl
theorem C_sum_Put {b_p0 : Value} {w : World} {R : Value → World → Prop} (h : M_sum_Put b_p0 w R) : CALL PR F_sum_Put [b_p0] w R :=
  call_of_den2 ann_sum_Put Tryz.func94 (by kernel_rfl) (by kernel_rfl) (by kernel_rfl) ((E_sum_Put b_p0 w R) ▸ h)
-- 95 tumbrel.vint.Put
def M_vint_Put (n_p0 : Value) (w : World) (R : Value → World → Prop) : Prop :=
  NEW (newv 186 w (Value.agg #[(Value.int .u8 0), (Value.int .u8 0), (Value.int .u8 0), (Value.int .u8 0), (Value.int .u8 0), (Value.int .u8 0), (Value.int .u8 0), (Value.int .u8 0), (Value.int .u8 0), (Value.int .u8 0)])) fun b_1 w1 =>
  CALL PR F_vint_lay [b_1, n_p0] w1 fun t6_2 w2 =>
  BND (slicea 10 1 b_1 none (some t6_2) (some t6_2)) fun t9_3 =>
  R t9_3 w2
def ann_vint_Put : List (Nat × List Nat) := []
theorem E_vint_Put (n_p0 : Value) (w : World) (R : Value → World → Prop) : M_vint_Put n_p0 w R = den PR ann_vint_Put (bodyOf Tryz.f95) (retQ PR Tryz.f95.results.toList R) (env0 [n_p0]) w := by kernel_rfl
theorem C_vint_Put {n_p0 : Value} {w : World} {R : Value → World → Prop} (h : M_vint_Put n_p0 w R) : CALL PR F_vint_Put [n_p0] w R :=
  call_of_den2 ann_vint_Put Tryz.func95 (by kernel_rfl) (by kernel_rfl) (by kernel_rfl) ((E_vint_Put n_p0 w R) ▸ h)
-- 99 tumbrel.record.worded
def M_record_worded (kind_p0 : Value) (w : World) (R : Value → World → Prop) : Prop :=
  BND (binv .int .eql kind_p0 (Value.int .i64 10)) fun t4_1 =>
  BND (grd (isB t4_1 false) (some kind_p0)) fun t6_2 =>
  BND (grd (isB t4_1 false) (binv .int .eql t6_2 (Value.int .i64 11))) fun t7_3 =>
  BND (pickv t4_1 (Value.bool true) t7_3) fun t8_4 =>
  BND (grd (isB t8_4 false) (some kind_p0)) fun t10_5 =>
  BND (grd (isB t8_4 false) (binv .int .eql t10_5 (Value.int .i64 16))) fun t11_6 =>
  BND (pickv t8_4 (Value.bool true) t11_6) fun t12_7 =>
  R t12_7 w
def ann_record_worded : List (Nat × List Nat) := []
theorem E_record_worded (kind_p0 : Value) (w : World) (R : Value → World → Prop) : M_record_worded kind_p0 w R = den PR ann_record_worded (bodyOf Tryz.f99) (retQ PR Tryz.f99.results.toList R) (env0 [kind_p0]) w := by kernel_rfl
theorem C_record_worded {kind_p0 : Value} {w : World} {R : Value → World → Prop} (h : M_record_worded kind_p0 w R) : CALL PR F_record_worded [kind_p0] w R :=
  call_of_den2 ann_record_worded Tryz.func99 (by kernel_rfl) (by kernel_rfl) (by kernel_rfl) ((E_record_worded kind_p0 w R) ▸ h)
-- 101 internal.strconv.FormatUint
def M_internal_strconv_FormatUint (i_p0 base_p1 : Value) (w : World) (R : Value → World → Prop) : Prop :=
  BND (binv .int .eql base_p1 (Value.int .i64 10)) fun t10_1 =>
  COND t10_1
  (BND (binv .int .lss i_p0 (Value.int .u64 100)) fun t12_2 =>
  COND t12_2
  (BND (convi .i64 i_p0) fun t14_3 =>
  CALL PR F_internal_strconv_small [t14_3] w fun t15_4 w1 =>
  R t15_4 w1)
  (NEW (newv 202 w (Value.agg #[(Value.int .u8 0), (Value.int .u8 0), (Value.int .u8 0), (Value.int .u8 0), (Value.int .u8 0), (Value.int .u8 0), (Value.int .u8 0), (Value.int .u8 0), (Value.int .u8 0), (Value.int .u8 0), (Value.int .u8 0), (Value.int .u8 0), (Value.int .u8 0), (Value.int .u8 0), (Value.int .u8 0), (Value.int .u8 0), (Value.int .u8 0), (Value.int .u8 0), (Value.int .u8 0), (Value.int .u8 0), (Value.int .u8 0), (Value.int .u8 0), (Value.int .u8 0), (Value.int .u8 0)])) fun a_5 w2 =>
  CALL PR F_internal_strconv_numDigits [i_p0] w2 fun t17_6 w3 =>
  BND (slicea 24 1 a_5 none (some t17_6) none) fun t19_7 =>
  CALL PR F_internal_strconv_formatBase10 [t19_7, i_p0] w3 fun t21_8 w4 =>
  BND (slicea 24 1 a_5 none (some t17_6) none) fun t23_9 =>
  BND (textv .u8 textOfBytes w4 t23_9) fun t24_10 =>
  R t24_10 w4))
  (CALL PR F_internal_strconv_formatBits [(Value.slice none 0 0), i_p0, base_p1, (Value.bool false), (Value.bool false)] w fun t28_11 w5 =>
  BND (extractv t28_11 0) fun t29_12 =>
  BND (extractv t28_11 1) fun t30_13 =>
  R t30_13 w5)
def ann_internal_strconv_FormatUint : List (Nat × List Nat) := []
theorem E_internal_strconv_FormatUint (i_p0 base_p1 : Value) (w : World) (R : Value → World → Prop) : M_internal_strconv_FormatUint i_p0 base_p1 w R = den PR ann_internal_strconv_FormatUint (bodyOf Tryz.f101) (retQ PR Tryz.f101.results.toList R) (env0 [i_p0, base_p1]) w := by kernel_rfl
theorem C_internal_strconv_FormatUint {i_p0 base_p1 : Value} {w : World} {R : Value → World → Prop} (h : M_internal_strconv_FormatUint i_p0 base_p1 w R) : CALL PR F_internal_strconv_FormatUint [i_p0, base_p1] w R :=
  call_of_den2 ann_internal_strconv_FormatUint Tryz.func101 (by kernel_rfl) (by kernel_rfl) (by kernel_rfl) ((E_internal_strconv_FormatUint i_p0 base_p1 w R) ▸ h)
-- 105 tumbrel.tumbrelref14.digits
def M_tumbrelref14_digits (n_p0 : Value) (w : World) (R : Value → World → Prop) : Prop :=
  BND (binv .int .rem n_p0 (Value.int .u64 10)) fun t5_1 =>
  BND (binv .int .add (Value.int .u64 48) t5_1) fun t6_2 =>
  BND (convi .u8 t6_2) fun t7_3 =>
  BND (newslice 5 #[(Value.int .u8 0)] 1 1 [(0, 1, t7_3)] w) fun p_ => NEW p_ fun t8_4 w1 =>
  BND (textv .u8 textOfBytes w1 t8_4) fun t9_5 =>
  BND (binv .int .lss n_p0 (Value.int .u64 10)) fun t11_6 =>
  COND t11_6
  (R t9_5 w1)
  (BND (binv .int .quo n_p0 (Value.int .u64 10)) fun t14_7 =>
  CALL PR F_tumbrelref14_digits [t14_7] w1 fun t15_8 w2 =>
  BND (binv .str .add t15_8 t9_5) fun t17_9 =>
  R t17_9 w2)
def ann_tumbrelref14_digits : List (Nat × List Nat) := []
theorem E_tumbrelref14_digits (n_p0 : Value) (w : World) (R : Value → World → Prop) : M_tumbrelref14_digits n_p0 w R = den PR ann_tumbrelref14_digits (bodyOf Tryz.f105) (retQ PR Tryz.f105.results.toList R) (env0 [n_p0]) w := by kernel_rfl
theorem C_tumbrelref14_digits {n_p0 : Value} {w : World} {R : Value → World → Prop} (h : M_tumbrelref14_digits n_p0 w R) : CALL PR F_tumbrelref14_digits [n_p0] w R :=
  call_of_den2 ann_tumbrelref14_digits Tryz.func105 (by kernel_rfl) (by kernel_rfl) (by kernel_rfl) ((E_tumbrelref14_digits n_p0 w R) ▸ h)
-- 106 tumbrel.frame.All
def M_frame_All (b_p0 : Value) (w : World) (R : Value → World → Prop) : Prop :=
  ∃ (J_1 : Value → Value → World → Prop) (m_1 : Value → Value → World → Nat), J_1 (Value.slice none 0 0) (Value.int .i64 0) w ∧ ∀ (_d_1 : Env) (l_5 at_6 : Value) (w1 : World), J_1 l_5 at_6 w1 →
  (BND (lenl b_p0) fun t12_34 =>
  BND (binv .int .lss at_6 t12_34) fun t13_35 =>
  COND t13_35
  (BND (slicev 1 b_p0 (some at_6) none) fun t17_36 =>
  CALL PR F_frame_Read [t17_36] w1 fun t18_37 w2 =>
  BND (extractv t18_37 0) fun t19_38 =>
  BND (extractv t18_37 1) fun t20_39 =>
  BND (extractv t18_37 2) fun t21_40 =>
  NEW (newv 133 w2 (Value.agg #[(Value.int .u8 0), (Value.slice none 0 0)])) fun x_41 w3 =>
  BND (storev 2 w3 x_41 t19_38) fun w4 =>
  BND (binv .int .neq t21_40 (Value.int .i64 0)) fun t23_42 =>
  COND t23_42
  (R (.tuple #[l_5, at_6, t21_40]) w4)
  (BND (loadn 2 w4 x_41) fun t28_43 =>
  BND (newslice 133 #[(Value.int .u8 0), (Value.slice none 0 0)] 2 1 [(0, 2, t28_43)] w4) fun p_ => NEW p_ fun t29_44 w5 =>
  APPEND 133 2 32 (Value.agg #[(Value.int .u8 0), (Value.slice none 0 0)]) l_5 t29_44 w5 fun t30_45 w6 =>
  BND (binv .int .add at_6 t20_39) fun t33_46 =>
  (J_1 t30_45 t33_46 w6 ∧ m_1 t30_45 t33_46 w6 < m_1 l_5 at_6 w1)))
  (R (.tuple #[l_5, at_6, (Value.int .i64 0)]) w1))
def ann_frame_All : List (Nat × List Nat) := [(1000003, [5, 6])]
theorem E_frame_All (b_p0 : Value) (w : World) (R : Value → World → Prop) : M_frame_All b_p0 w R = den PR ann_frame_All (bodyOf Tryz.f106) (retQ PR Tryz.f106.results.toList R) (env0 [b_p0]) w := by kernel_rfl
theorem C_frame_All {b_p0 : Value} {w : World} {R : Value → World → Prop} (h : M_frame_All b_p0 w R) : CALL PR F_frame_All [b_p0] w R :=
  call_of_den2 ann_frame_All Tryz.func106 (by kernel_rfl) (by kernel_rfl) (by kernel_rfl) ((E_frame_All b_p0 w R) ▸ h)
-- 107 tumbrel.record.Read
def M_record_Read (x_p0 : Value) (w : World) (R : Value → World → Prop) : Prop :=
  NEW (newv 133 w x_p0) fun x_1 w1 =>
  NEW (newv 37 w1 (Value.agg #[(Value.int .i64 0), (Value.slice none 0 0), (Value.string ByteArray.empty)])) fun t2_2 w2 =>
  BND (faddr 0 x_1) fun t9_3 =>
  BND (load1 w2 t9_3) fun t10_4 =>
  BND (convi .i64 t10_4) fun t11_5 =>
  BND (buildv #[(Value.int .i64 0), (Value.slice none 0 0), (Value.string ByteArray.empty)] [(0, 1, t11_5)]) fun t12_6 =>
  NEW (newv 37 w2 (Value.agg #[(Value.int .i64 0), (Value.slice none 0 0), (Value.string ByteArray.empty)])) fun r_7 w3 =>
  BND (storev 3 w3 r_7 t12_6) fun w4 =>
  BND (faddr 0 r_7) fun t13_8 =>
  BND (load1 w4 t13_8) fun t14_9 =>
  CALL PR F_record_known [t14_9] w4 fun t15_10 w5 =>
  BND (unv .not t15_10) fun t16_11 =>
  COND t16_11
  (BND (buildv #[(Value.int .i64 0), (Value.slice none 0 0), (Value.string ByteArray.empty)] []) fun t17_12 =>
  BND (storev 3 w5 t2_2 t17_12) fun w6 =>
  BND (loadn 3 w6 t2_2) fun r_13 =>
  R (.tuple #[r_13, (Value.int .i64 2)]) w6)
  (BND (faddr 1 x_1) fun t18_14 =>
  BND (load1 w5 t18_14) fun t19_15 =>
  ∃ S_16 : Nat → World → Prop,
  S_16 2 w5.drew ∧
  BND (faddr 0 r_7) fun t21_17 =>
  FLT (S_16 2) (fun w_ => load1 w_ t21_17) fun t22_18 =>
  CALL PR F_record_numbers [] w5.drew fun t20_19 w7 =>
  S_16 2 w7 ∧
  BND (indexav false 18 1 t20_19 t22_18) fun t23_20 =>
  ∃ (J_21 : Value → Value → World → Prop) (m_21 : Value → Value → World → Nat), J_21 t19_15 (Value.int .i64 0) w7 ∧ ∀ (_d_21 : Env) (rest_23 t24_27 : Value) (w8 : World), J_21 rest_23 t24_27 w8 →
  (BND (binv .int .lss t24_27 t23_20) fun t25_49 =>
  COND t25_49
  (CALL PR F_vint_Get [rest_23] w8 fun t28_50 w9 =>
  BND (extractv t28_50 0) fun t29_51 =>
  BND (extractv t28_50 1) fun t30_52 =>
  BND (extractv t28_50 2) fun t31_53 =>
  BND (binv .int .neq t31_53 (Value.int .i64 0)) fun t33_54 =>
  COND t33_54
  (BND (buildv #[(Value.int .i64 0), (Value.slice none 0 0), (Value.string ByteArray.empty)] []) fun t34_55 =>
  BND (storev 3 w9 t2_2 t34_55) fun w10 =>
  BND (loadn 3 w10 t2_2) fun r_56 =>
  R (.tuple #[r_56, t31_53]) w10)
  (∃ S_57 : Nat → World → Prop,
  S_57 1 w9.drew ∧
  BND (faddr 1 r_7) fun t36_58 =>
  FLT (S_57 1) (fun w_ => load1 w_ t36_58) fun t37_59 =>
  BND (slicev 1 rest_23 (some t30_52) none) fun t43_60 =>
  BND (newslice 22 #[(Value.int .u64 0)] 1 1 [(0, 1, t29_51)] w9.drew) fun p_ => NEW p_ fun t39_61 w11 =>
  S_57 1 w11 ∧
  APPEND 22 1 8 (Value.int .u64 0) t37_59 t39_61 w11 fun t40_62 w12 =>
  BND (faddr 1 r_7) fun t44_63 =>
  BND (storev 1 w12 t44_63 t40_62) fun w13 =>
  BND (binv .int .add t24_27 (Value.int .i64 1)) fun t45_64 =>
  (J_21 t43_60 t45_64 w13 ∧ m_21 t43_60 t45_64 w13 < m_21 rest_23 t24_27 w8)))
  (BND (faddr 0 r_7) fun t46_65 =>
  BND (load1 w8 t46_65) fun t47_66 =>
  BND (lenl rest_23) fun t49_67 =>
  CALL PR F_record_fits [t47_66, t49_67] w8 fun t50_68 w14 =>
  BND (unv .not t50_68) fun t51_69 =>
  COND t51_69
  (BND (buildv #[(Value.int .i64 0), (Value.slice none 0 0), (Value.string ByteArray.empty)] []) fun t52_70 =>
  BND (storev 3 w14 t2_2 t52_70) fun w15 =>
  BND (loadn 3 w15 t2_2) fun r_71 =>
  R (.tuple #[r_71, (Value.int .i64 2)]) w15)
  (BND (textv .u8 textOfBytes w14 rest_23) fun t54_72 =>
  BND (faddr 2 r_7) fun t55_73 =>
  BND (storev 1 w14 t55_73 t54_72) fun w16 =>
  BND (loadn 3 w16 r_7) fun t56_74 =>
  BND (storev 3 w16 t2_2 t56_74) fun w17 =>
  BND (loadn 3 w17 t2_2) fun r_75 =>
  R (.tuple #[r_75, (Value.int .i64 0)]) w17))))
def ann_record_Read : List (Nat × List Nat) := [(5, [1, 2, 4, 0, 3]), (10, [0, 1, 2, 5, 6, 7, 3, 4, 8, 9, 10]), (1000006, [5, 24]), (2000005, [2]), (2000010, [1]), (3005000, [2]), (3010003, [1])]
theorem E_record_Read (x_p0 : Value) (w : World) (R : Value → World → Prop) : M_record_Read x_p0 w R = den PR ann_record_Read (bodyOf Tryz.f107) (retQ PR Tryz.f107.results.toList R) (env0 [x_p0]) w := by kernel_rfl
theorem C_record_Read {x_p0 : Value} {w : World} {R : Value → World → Prop} (h : M_record_Read x_p0 w R) : CALL PR F_record_Read [x_p0] w R :=
  call_of_den2 ann_record_Read Tryz.func107 (by kernel_rfl) (by kernel_rfl) (by kernel_rfl) ((E_record_Read x_p0 w R) ▸ h)
-- 108 tumbrel.tumbrelref05.Right
def M_tumbrelref05_Right (r_p0 : Value) (w : World) (R : Value → World → Prop) : Prop :=
  NEW (newv 39 w r_p0) fun r_1 w1 =>
  ∃ S_2 : Nat → World → Prop,
  S_2 6 w1.drew ∧
  BND (faddr 0 r_1) fun t3_3 =>
  BND (load1 w1.drew t3_3) fun t4_4 =>
  CALL PR F_tumbrelref05_many [t4_4] w1.drew fun t5_5 w2 =>
  S_2 6 w2 ∧
  BND (binv .int .geq t5_5 (Value.int .i64 0)) fun t6_6 =>
  BND (grd (isB t6_6 true) (faddr 1 r_1)) fun t8_7 =>
  FLT (S_2 6) (fun w_ => (grd (isB t6_6 true) (load1 w_ t8_7))) fun t9_8 =>
  BND (grd (isB t6_6 true) (lenl t9_8)) fun t10_9 =>
  BND (grd (isB t6_6 true) (faddr 0 r_1)) fun t11_10 =>
  BND (grd (isB t6_6 true) (load1 w2 t11_10)) fun t12_11 =>
  GEF (isB t6_6 true) (fun k_ => CALL PR F_tumbrelref05_many [t12_11] w2 k_) w2 fun t13_12 w3 =>
  S_2 6 w3 ∧
  BND (grd (isB t6_6 true) (binv .int .eql t10_9 t13_12)) fun t14_13 =>
  BND (pickv t6_6 t14_13 (Value.bool false)) fun t15_14 =>
  BND (grd (isB t15_14 true) (faddr 0 r_1)) fun t17_15 =>
  BND (grd (isB t15_14 true) (faddr 2 r_1)) fun t19_16 =>
  BND (grd (isB t15_14 true) (load1 w3 t17_15)) fun t18_17 =>
  BND (grd (isB t15_14 true) (load1 w3 t19_16)) fun t20_18 =>
  BND (grd (isB t15_14 true) (lens t20_18)) fun t21_19 =>
  GEF (isB t15_14 true) (fun k_ => CALL PR F_tumbrelref05_texts [t18_17, t21_19] w3 k_) w3 fun t22_20 w4 =>
  BND (pickv t15_14 t22_20 (Value.bool false)) fun t23_21 =>
  R t23_21 w4
def ann_tumbrelref05_Right : List (Nat × List Nat) := [(1, [0, 1, 2, 3, 4, 5, 6, 7, 8, 9, 10, 11, 12, 13, 14, 16, 15, 17, 18, 19, 20, 21]), (2000001, [6]), (3001002, [6]), (3001010, [6])]
theorem E_tumbrelref05_Right (r_p0 : Value) (w : World) (R : Value → World → Prop) : M_tumbrelref05_Right r_p0 w R = den PR ann_tumbrelref05_Right (bodyOf Tryz.f108) (retQ PR Tryz.f108.results.toList R) (env0 [r_p0]) w := by kernel_rfl
theorem C_tumbrelref05_Right {r_p0 : Value} {w : World} {R : Value → World → Prop} (h : M_tumbrelref05_Right r_p0 w R) : CALL PR F_tumbrelref05_Right [r_p0] w R :=
  call_of_den2 ann_tumbrelref05_Right Tryz.func108 (by kernel_rfl) (by kernel_rfl) (by kernel_rfl) ((E_tumbrelref05_Right r_p0 w R) ▸ h)
-- 109 tumbrel.tumbrelref04.Bytes
def M_tumbrelref04_Bytes (x_p0 : Value) (w : World) (R : Value → World → Prop) : Prop :=
  NEW (newv 176 w x_p0) fun x_1 w1 =>
  BND (faddr 1 x_1) fun t5_2 =>
  BND (load1 w1 t5_2) fun t6_3 =>
  BND (lenl t6_3) fun t7_4 =>
  BND (binv .int .gtr t7_4 (Value.int .i64 400)) fun t9_5 =>
  COND t9_5
  (R (.tuple #[(Value.slice none 0 0), (Value.int .i64 4)]) w1)
  (∃ S_6 : Nat → World → Prop,
  S_6 11 w1.drew ∧
  BND (faddr 0 x_1) fun t10_7 =>
  BND (binv .int .rem t7_4 (Value.int .i64 256)) fun t13_8 =>
  BND (convi .u8 t13_8) fun t14_9 =>
  BND (binv .int .quo t7_4 (Value.int .i64 256)) fun t16_10 =>
  BND (convi .u8 t16_10) fun t17_11 =>
  BND (faddr 1 x_1) fun t20_12 =>
  FLT (S_6 11) (fun w_ => load1 w_ t20_12) fun t21_13 =>
  BND (load1 w1.drew t10_7) fun t11_14 =>
  BND (newslice 5 #[(Value.int .u8 0)] 1 3 [(0, 1, t11_14), (1, 1, t14_9), (2, 1, t17_11)] w1.drew) fun p_ => NEW p_ fun t18_15 w2 =>
  S_6 11 w2 ∧
  CALL PR F_tumbrelref01_Put [t18_15] w2 fun t19_16 w3 =>
  S_6 11 w3 ∧
  CALL PR F_tumbrelref01_Put [t21_13] w3 fun t22_17 w4 =>
  APPEND 5 1 1 (Value.int .u8 0) t19_16 t22_17 w4 fun t23_18 w5 =>
  R (.tuple #[t23_18, (Value.int .i64 0)]) w5)
def ann_tumbrelref04_Bytes : List (Nat × List Nat) := [(4, [0, 2, 3, 4, 5, 6, 7, 10, 11, 1, 8, 9, 12, 13, 14, 15]), (2000004, [11]), (3004008, [11]), (3004009, [11])]
theorem E_tumbrelref04_Bytes (x_p0 : Value) (w : World) (R : Value → World → Prop) : M_tumbrelref04_Bytes x_p0 w R = den PR ann_tumbrelref04_Bytes (bodyOf Tryz.f109) (retQ PR Tryz.f109.results.toList R) (env0 [x_p0]) w := by kernel_rfl
theorem C_tumbrelref04_Bytes {x_p0 : Value} {w : World} {R : Value → World → Prop} (h : M_tumbrelref04_Bytes x_p0 w R) : CALL PR F_tumbrelref04_Bytes [x_p0] w R :=
  call_of_den2 ann_tumbrelref04_Bytes Tryz.func109 (by kernel_rfl) (by kernel_rfl) (by kernel_rfl) ((E_tumbrelref04_Bytes x_p0 w R) ▸ h)
-- 110 tumbrel.tumbrelref02.All
def M_tumbrelref02_All (l_p0 : Value) (w : World) (R : Value → World → Prop) : Prop :=
  BND (newslice 5 #[(Value.int .u8 0)] 1 0 [] w) fun p_ => NEW p_ fun t5_1 w1 =>
  ∃ (J_2 : Value → Value → World → Prop) (m_2 : Value → Value → World → Nat), J_2 t5_1 (Value.int .i64 0) w1 ∧ ∀ (_d_2 : Env) (out_3 i_4 : Value) (w2 : World), J_2 out_3 i_4 w2 →
  (BND (lenl l_p0) fun t8_18 =>
  BND (binv .int .lss i_4 t8_18) fun t9_19 =>
  COND t9_19
  (BND (iaddr 1 l_p0 i_4) fun t15_20 =>
  BND (load1 w2 t15_20) fun t16_21 =>
  CALL PR F_tumbrelref02_Put [t16_21] w2 fun t17_22 w3 =>
  APPEND 5 1 1 (Value.int .u8 0) out_3 t17_22 w3 fun t18_23 w4 =>
  BND (binv .int .add i_4 (Value.int .i64 1)) fun t11_24 =>
  (J_2 t18_23 t11_24 w4 ∧ m_2 t18_23 t11_24 w4 < m_2 out_3 i_4 w2))
  (R out_3 w2))
def ann_tumbrelref02_All : List (Nat × List Nat) := [(1000003, [3, 4])]
theorem E_tumbrelref02_All (l_p0 : Value) (w : World) (R : Value → World → Prop) : M_tumbrelref02_All l_p0 w R = den PR ann_tumbrelref02_All (bodyOf Tryz.f110) (retQ PR Tryz.f110.results.toList R) (env0 [l_p0]) w := by kernel_rfl
theorem C_tumbrelref02_All {l_p0 : Value} {w : World} {R : Value → World → Prop} (h : M_tumbrelref02_All l_p0 w R) : CALL PR F_tumbrelref02_All [l_p0] w R :=
  call_of_den2 ann_tumbrelref02_All Tryz.func110 (by kernel_rfl) (by kernel_rfl) (by kernel_rfl) ((E_tumbrelref02_All l_p0 w R) ▸ h)
-- 111 tumbrel.tumbrelref04.All
def M_tumbrelref04_All (b_p0 : Value) (w : World) (R : Value → World → Prop) : Prop :=
  BND (newslice 176 #[(Value.int .u8 0), (Value.slice none 0 0)] 2 0 [] w) fun p_ => NEW p_ fun t10_1 w1 =>
  ∃ (J_2 : Value → Value → World → Prop) (m_2 : Value → Value → World → Nat), J_2 t10_1 (Value.int .i64 0) w1 ∧ ∀ (_d_2 : Env) (out_6 at_7 : Value) (w2 : World), J_2 out_6 at_7 w2 →
  (BND (lenl b_p0) fun t13_35 =>
  BND (binv .int .lss at_7 t13_35) fun t14_36 =>
  COND t14_36
  (BND (slicev 1 b_p0 (some at_7) none) fun t18_37 =>
  CALL PR F_tumbrelref04_Read [t18_37] w2 fun t19_38 w3 =>
  BND (extractv t19_38 0) fun t20_39 =>
  BND (extractv t19_38 1) fun t21_40 =>
  BND (extractv t19_38 2) fun t22_41 =>
  NEW (newv 176 w3 (Value.agg #[(Value.int .u8 0), (Value.slice none 0 0)])) fun x_42 w4 =>
  BND (storev 2 w4 x_42 t20_39) fun w5 =>
  BND (binv .int .neq t22_41 (Value.int .i64 0)) fun t24_43 =>
  COND t24_43
  (R (.tuple #[out_6, at_7, t22_41]) w5)
  (BND (loadn 2 w5 x_42) fun t29_44 =>
  BND (newslice 176 #[(Value.int .u8 0), (Value.slice none 0 0)] 2 1 [(0, 2, t29_44)] w5) fun p_ => NEW p_ fun t30_45 w6 =>
  APPEND 176 2 32 (Value.agg #[(Value.int .u8 0), (Value.slice none 0 0)]) out_6 t30_45 w6 fun t31_46 w7 =>
  BND (binv .int .add at_7 t21_40) fun t34_47 =>
  (J_2 t31_46 t34_47 w7 ∧ m_2 t31_46 t34_47 w7 < m_2 out_6 at_7 w2)))
  (R (.tuple #[out_6, at_7, (Value.int .i64 0)]) w2))
def ann_tumbrelref04_All : List (Nat × List Nat) := [(1000003, [5, 6])]
theorem E_tumbrelref04_All (b_p0 : Value) (w : World) (R : Value → World → Prop) : M_tumbrelref04_All b_p0 w R = den PR ann_tumbrelref04_All (bodyOf Tryz.f111) (retQ PR Tryz.f111.results.toList R) (env0 [b_p0]) w := by kernel_rfl
theorem C_tumbrelref04_All {b_p0 : Value} {w : World} {R : Value → World → Prop} (h : M_tumbrelref04_All b_p0 w R) : CALL PR F_tumbrelref04_All [b_p0] w R :=
  call_of_den2 ann_tumbrelref04_All Tryz.func111 (by kernel_rfl) (by kernel_rfl) (by kernel_rfl) ((E_tumbrelref04_All b_p0 w R) ▸ h)
-- 112 tumbrel.tumbrelref05.Read
def M_tumbrelref05_Read (x_p0 : Value) (w : World) (R : Value → World → Prop) : Prop :=
  NEW (newv 176 w x_p0) fun x_1 w1 =>
  NEW (newv 39 w1 (Value.agg #[(Value.int .i64 0), (Value.slice none 0 0), (Value.string ByteArray.empty)])) fun t2_2 w2 =>
  BND (faddr 0 x_1) fun t11_3 =>
  BND (load1 w2 t11_3) fun t12_4 =>
  BND (convi .i64 t12_4) fun t13_5 =>
  CALL PR F_tumbrelref05_many [t13_5] w2 fun t14_6 w3 =>
  BND (binv .int .lss t14_6 (Value.int .i64 0)) fun t16_7 =>
  COND t16_7
  (BND (buildv #[(Value.int .i64 0), (Value.slice none 0 0), (Value.string ByteArray.empty)] []) fun t17_8 =>
  BND (storev 3 w3 t2_2 t17_8) fun w4 =>
  BND (loadn 3 w4 t2_2) fun r_9 =>
  R (.tuple #[r_9, (Value.int .i64 2)]) w4)
  (BND (faddr 0 x_1) fun t18_10 =>
  BND (load1 w3 t18_10) fun t19_11 =>
  BND (convi .i64 t19_11) fun t20_12 =>
  BND (buildv #[(Value.int .i64 0), (Value.slice none 0 0), (Value.string ByteArray.empty)] [(0, 1, t20_12)]) fun t21_13 =>
  NEW (newv 39 w3 (Value.agg #[(Value.int .i64 0), (Value.slice none 0 0), (Value.string ByteArray.empty)])) fun r_14 w5 =>
  BND (storev 3 w5 r_14 t21_13) fun w6 =>
  ∃ (J_15 : Value → Value → World → Prop) (m_15 : Value → Value → World → Nat), J_15 (Value.int .i64 0) (Value.int .i64 0) w6 ∧ ∀ (_d_15 : Env) (at_17 i_18 : Value) (w7 : World), J_15 at_17 i_18 w7 →
  (BND (binv .int .lss i_18 t14_6) fun t24_49 =>
  COND t24_49
  (BND (faddr 1 x_1) fun t28_50 =>
  BND (load1 w7 t28_50) fun t29_51 =>
  BND (slicev 1 t29_51 (some at_17) none) fun t31_52 =>
  CALL PR F_tumbrelref02_Get [t31_52] w7 fun t32_53 w8 =>
  BND (extractv t32_53 0) fun t33_54 =>
  BND (extractv t32_53 1) fun t34_55 =>
  BND (extractv t32_53 2) fun t35_56 =>
  BND (binv .int .neq t35_56 (Value.int .i64 0)) fun t37_57 =>
  COND t37_57
  (BND (buildv #[(Value.int .i64 0), (Value.slice none 0 0), (Value.string ByteArray.empty)] []) fun t38_58 =>
  BND (storev 3 w8 t2_2 t38_58) fun w9 =>
  BND (loadn 3 w9 t2_2) fun r_59 =>
  R (.tuple #[r_59, t35_56]) w9)
  (BND (faddr 1 r_14) fun t40_60 =>
  BND (load1 w8 t40_60) fun t41_61 =>
  BND (newslice 22 #[(Value.int .u64 0)] 1 1 [(0, 1, t33_54)] w8) fun p_ => NEW p_ fun t43_62 w10 =>
  APPEND 22 1 8 (Value.int .u64 0) t41_61 t43_62 w10 fun t44_63 w11 =>
  BND (faddr 1 r_14) fun t45_64 =>
  BND (storev 1 w11 t45_64 t44_63) fun w12 =>
  BND (binv .int .add at_17 t34_55) fun t48_65 =>
  BND (binv .int .add i_18 (Value.int .i64 1)) fun t26_66 =>
  (J_15 t48_65 t26_66 w12 ∧ m_15 t48_65 t26_66 w12 < m_15 at_17 i_18 w7)))
  (BND (faddr 0 r_14) fun t49_67 =>
  BND (load1 w7 t49_67) fun t50_68 =>
  BND (faddr 1 x_1) fun t51_69 =>
  BND (load1 w7 t51_69) fun t52_70 =>
  BND (lenl t52_70) fun t53_71 =>
  BND (binv .int .sub t53_71 at_17) fun t55_72 =>
  CALL PR F_tumbrelref05_texts [t50_68, t55_72] w7 fun t56_73 w13 =>
  BND (unv .not t56_73) fun t57_74 =>
  COND t57_74
  (BND (buildv #[(Value.int .i64 0), (Value.slice none 0 0), (Value.string ByteArray.empty)] []) fun t58_75 =>
  BND (storev 3 w13 t2_2 t58_75) fun w14 =>
  BND (loadn 3 w14 t2_2) fun r_76 =>
  R (.tuple #[r_76, (Value.int .i64 2)]) w14)
  (BND (faddr 1 x_1) fun t59_77 =>
  BND (load1 w13 t59_77) fun t60_78 =>
  BND (slicev 1 t60_78 (some at_17) none) fun t62_79 =>
  BND (textv .u8 textOfBytes w13 t62_79) fun t63_80 =>
  BND (faddr 2 r_14) fun t64_81 =>
  BND (storev 1 w13 t64_81 t63_80) fun w15 =>
  BND (loadn 3 w15 r_14) fun t65_82 =>
  BND (storev 3 w15 t2_2 t65_82) fun w16 =>
  BND (loadn 3 w16 t2_2) fun r_83 =>
  R (.tuple #[r_83, (Value.int .i64 0)]) w16))))
def ann_tumbrelref05_Read : List (Nat × List Nat) := [(1000007, [6, 7])]
theorem E_tumbrelref05_Read (x_p0 : Value) (w : World) (R : Value → World → Prop) : M_tumbrelref05_Read x_p0 w R = den PR ann_tumbrelref05_Read (bodyOf Tryz.f112) (retQ PR Tryz.f112.results.toList R) (env0 [x_p0]) w := by kernel_rfl
theorem C_tumbrelref05_Read {x_p0 : Value} {w : World} {R : Value → World → Prop} (h : M_tumbrelref05_Read x_p0 w R) : CALL PR F_tumbrelref05_Read [x_p0] w R :=
  call_of_den2 ann_tumbrelref05_Read Tryz.func112 (by kernel_rfl) (by kernel_rfl) (by kernel_rfl) ((E_tumbrelref05_Read x_p0 w R) ▸ h)
-- 113 slices.Concat[[]byte,byte]
def M_slices_Concat_byte_byte (slices_p0 : Value) (w : World) (R : Value → World → Prop) : Prop :=
  BND (lenl slices_p0) fun t10_1 =>
  ∃ (J_2 : Value → Value → World → Prop) (m_2 : Value → Value → World → Nat), J_2 (Value.int .i64 0) (Value.int .i64 0) w ∧ ∀ (_d_2 : Env) (size_3 t11_5 : Value) (w1 : World), J_2 size_3 t11_5 w1 →
  (BND (binv .int .lss t11_5 t10_1) fun t12_17 =>
  COND t12_17
  (BND (iaddr 1 slices_p0 t11_5) fun t13_18 =>
  BND (load1 w1 t13_18) fun t14_19 =>
  BND (lenl t14_19) fun t17_20 =>
  BND (binv .int .add size_3 t17_20) fun t18_21 =>
  BND (binv .int .lss t18_21 (Value.int .i64 0)) fun t20_22 =>
  COND t20_22
  (False)
  (BND (binv .int .add t11_5 (Value.int .i64 1)) fun t22_23 =>
  (J_2 t18_21 t22_23 w1 ∧ m_2 t18_21 t22_23 w1 < m_2 size_3 t11_5 w1)))
  (CALL PR F_slices_Grow_byte_byte [(Value.slice none 0 0), size_3] w1 fun t24_24 w2 =>
  BND (lenl slices_p0) fun t26_25 =>
  ∃ (J_26 : Value → Value → World → Prop) (m_26 : Value → Value → World → Nat), J_26 t24_24 (Value.int .i64 0) w2 ∧ ∀ (_d_26 : Env) (newslice_27 t27_29 : Value) (w3 : World), J_26 newslice_27 t27_29 w3 →
  (BND (binv .int .lss t27_29 t26_25) fun t28_37 =>
  COND t28_37
  (BND (iaddr 1 slices_p0 t27_29) fun t29_38 =>
  BND (load1 w3 t29_38) fun t30_39 =>
  APPEND 5 1 1 (Value.int .u8 0) newslice_27 t30_39 w3 fun t33_40 w4 =>
  BND (binv .int .add t27_29 (Value.int .i64 1)) fun t34_41 =>
  (J_26 t33_40 t34_41 w4 ∧ m_26 t33_40 t34_41 w4 < m_26 newslice_27 t27_29 w3))
  (R newslice_27 w3))))
def ann_slices_Concat_byte_byte : List (Nat × List Nat) := [(1000003, [3, 11]), (1000011, [6, 27])]
theorem E_slices_Concat_byte_byte (slices_p0 : Value) (w : World) (R : Value → World → Prop) : M_slices_Concat_byte_byte slices_p0 w R = den PR ann_slices_Concat_byte_byte (bodyOf Tryz.f113) (retQ PR Tryz.f113.results.toList R) (env0 [slices_p0]) w := by kernel_rfl
theorem C_slices_Concat_byte_byte {slices_p0 : Value} {w : World} {R : Value → World → Prop} (h : M_slices_Concat_byte_byte slices_p0 w R) : CALL PR F_slices_Concat_byte_byte [slices_p0] w R :=
  call_of_den2 ann_slices_Concat_byte_byte Tryz.func113 (by kernel_rfl) (by kernel_rfl) (by kernel_rfl) ((E_slices_Concat_byte_byte slices_p0 w R) ▸ h)
-- 114 tumbrel.sum.four
def M_sum_four (n_p0 : Value) (w : World) (R : Value → World → Prop) : Prop :=
  BND (convi .u8 n_p0) fun t4_1 =>
  BND (shiftv .shr n_p0 (Value.int .u64 8)) fun t6_2 =>
  BND (convi .u8 t6_2) fun t7_3 =>
  BND (shiftv .shr n_p0 (Value.int .u64 16)) fun t9_4 =>
  BND (convi .u8 t9_4) fun t10_5 =>
  BND (shiftv .shr n_p0 (Value.int .u64 24)) fun t12_6 =>
  BND (convi .u8 t12_6) fun t13_7 =>
  BND (newslice 5 #[(Value.int .u8 0)] 1 4 [(0, 1, t4_1), (1, 1, t7_3), (2, 1, t10_5), (3, 1, t13_7)] w) fun p_ => NEW p_ fun t14_8 w1 =>
  R t14_8 w1
def ann_sum_four : List (Nat × List Nat) := []
theorem E_sum_four (n_p0 : Value) (w : World) (R : Value → World → Prop) : M_sum_four n_p0 w R = den PR ann_sum_four (bodyOf Tryz.f114) (retQ PR Tryz.f114.results.toList R) (env0 [n_p0]) w := by kernel_rfl
theorem C_sum_four {n_p0 : Value} {w : World} {R : Value → World → Prop} (h : M_sum_four n_p0 w R) : CALL PR F_sum_four [n_p0] w R :=
  call_of_den2 ann_sum_four Tryz.func114 (by kernel_rfl) (by kernel_rfl) (by kernel_rfl) ((E_sum_four n_p0 w R) ▸ h)
-- 115 tumbrel.sum.Of
def M_sum_Of (b_p0 : Value) (w : World) (R : Value → World → Prop) : Prop :=
  CALL PR F_sum_More [(Value.int .u32 0), b_p0] w fun t4_1 w1 =>
  R t4_1 w1
def ann_sum_Of : List (Nat × List Nat) := []
theorem E_sum_Of (b_p0 : Value) (w : World) (R : Value → World → Prop) : M_sum_Of b_p0 w R = den PR ann_sum_Of (bodyOf Tryz.f115) (retQ PR Tryz.f115.results.toList R) (env0 [b_p0]) w := by kernel_rfl
theorem C_sum_Of {b_p0 : Value} {w : World} {R : Value → World → Prop} (h : M_sum_Of b_p0 w R) : CALL PR F_sum_Of [b_p0] w R :=
  call_of_den2 ann_sum_Of Tryz.func115 (by kernel_rfl) (by kernel_rfl) (by kernel_rfl) ((E_sum_Of b_p0 w R) ▸ h)
-- 116 tumbrel.vint.lay
def M_vint_lay (into_p0 n_p1 : Value) (w : World) (R : Value → World → Prop) : Prop :=
  ∃ (J_1 : Value → Value → World → Prop) (m_1 : Value → Value → World → Nat), J_1 n_p1 (Value.int .i64 0) w ∧ ∀ (_d_1 : Env) (n_2 i_3 : Value) (w1 : World), J_1 n_2 i_3 w1 →
  (BND (binv .int .geq n_2 (Value.int .u64 128)) fun t7_17 =>
  COND t7_17
  (BND (convi .u8 n_2) fun t13_18 =>
  BND (binv .int .or t13_18 (Value.int .u8 128)) fun t14_19 =>
  BND (nilchk into_p0) fun t15_20 =>
  BND (iaddra 10 1 t15_20 i_3) fun t16_21 =>
  BND (storev 1 w1 t16_21 t14_19) fun w2 =>
  BND (binv .int .add i_3 (Value.int .i64 1)) fun t18_22 =>
  BND (shiftv .shr n_2 (Value.int .u64 7)) fun t9_23 =>
  (J_1 t9_23 t18_22 w2 ∧ m_1 t9_23 t18_22 w2 < m_1 n_2 i_3 w1))
  (BND (convi .u8 n_2) fun t22_24 =>
  BND (nilchk into_p0) fun t23_25 =>
  BND (iaddra 10 1 t23_25 i_3) fun t24_26 =>
  BND (storev 1 w1 t24_26 t22_24) fun w3 =>
  BND (binv .int .add i_3 (Value.int .i64 1)) fun t26_27 =>
  R t26_27 w3))
def ann_vint_lay : List (Nat × List Nat) := [(1000002, [1, 5])]
theorem E_vint_lay (into_p0 n_p1 : Value) (w : World) (R : Value → World → Prop) : M_vint_lay into_p0 n_p1 w R = den PR ann_vint_lay (bodyOf Tryz.f116) (retQ PR Tryz.f116.results.toList R) (env0 [into_p0, n_p1]) w := by kernel_rfl
theorem C_vint_lay {into_p0 n_p1 : Value} {w : World} {R : Value → World → Prop} (h : M_vint_lay into_p0 n_p1 w R) : CALL PR F_vint_lay [into_p0, n_p1] w R :=
  call_of_den2 ann_vint_lay Tryz.func116 (by kernel_rfl) (by kernel_rfl) (by kernel_rfl) ((E_vint_lay into_p0 n_p1 w R) ▸ h)
-- 145 tumbrel.frame.Read
def M_frame_Read (b_p0 : Value) (w : World) (R : Value → World → Prop) : Prop :=
  NEW (newv 133 w (Value.agg #[(Value.int .u8 0), (Value.slice none 0 0)])) fun t2_1 w1 =>
  BND (lenl b_p0) fun t11_2 =>
  BND (binv .int .lss t11_2 (Value.int .i64 7)) fun t12_3 =>
  COND t12_3
  (BND (buildv #[(Value.int .u8 0), (Value.slice none 0 0)] []) fun t13_4 =>
  BND (storev 2 w1 t2_1 t13_4) fun w2 =>
  BND (loadn 2 w2 t2_1) fun r_5 =>
  R (.tuple #[r_5, (Value.int .i64 0), (Value.int .i64 3)]) w2)
  (BND (slicev 1 b_p0 none (some (Value.int .i64 7))) fun t16_6 =>
  CALL PR F_sum_Cut [t16_6] w1 fun t17_7 w3 =>
  BND (extractv t17_7 0) fun t18_8 =>
  BND (extractv t17_7 1) fun t19_9 =>
  BND (unv .not t19_9) fun t21_10 =>
  COND t21_10
  (BND (buildv #[(Value.int .u8 0), (Value.slice none 0 0)] []) fun t22_11 =>
  BND (storev 2 w3 t2_1 t22_11) fun w4 =>
  BND (loadn 2 w4 t2_1) fun r_12 =>
  R (.tuple #[r_12, (Value.int .i64 0), (Value.int .i64 8)]) w4)
  (BND (iaddr 1 t18_8 (Value.int .i64 1)) fun t24_13 =>
  BND (iaddr 1 t18_8 (Value.int .i64 2)) fun t28_14 =>
  BND (load1 w3.drew t24_13) fun t25_15 =>
  BND (convi .i64 t25_15) fun t26_16 =>
  BND (load1 w3.drew t28_14) fun t29_17 =>
  BND (convi .i64 t29_17) fun t30_18 =>
  BND (shiftv .shl t30_18 (Value.int .u64 8)) fun t31_19 =>
  BND (binv .int .or t26_16 t31_19) fun t32_20 =>
  BND (binv .int .add (Value.int .i64 7) t32_20) fun t34_21 =>
  BND (binv .int .add t34_21 (Value.int .i64 4)) fun t35_22 =>
  BND (binv .int .gtr t32_20 (Value.int .i64 400)) fun t38_23 =>
  COND t38_23
  (BND (buildv #[(Value.int .u8 0), (Value.slice none 0 0)] []) fun t39_24 =>
  BND (storev 2 w3.drew t2_1 t39_24) fun w5 =>
  BND (loadn 2 w5 t2_1) fun r_25 =>
  R (.tuple #[r_25, (Value.int .i64 0), (Value.int .i64 2)]) w5)
  (BND (lenl b_p0) fun t42_26 =>
  BND (binv .int .lss t42_26 t35_22) fun t44_27 =>
  COND t44_27
  (BND (buildv #[(Value.int .u8 0), (Value.slice none 0 0)] []) fun t45_28 =>
  BND (storev 2 w3.drew t2_1 t45_28) fun w6 =>
  BND (loadn 2 w6 t2_1) fun r_29 =>
  R (.tuple #[r_29, (Value.int .i64 0), (Value.int .i64 3)]) w6)
  (BND (slicev 1 b_p0 (some (Value.int .i64 7)) (some t35_22)) fun t49_30 =>
  CALL PR F_sum_Cut [t49_30] w3.drew fun t50_31 w7 =>
  BND (extractv t50_31 0) fun t51_32 =>
  BND (extractv t50_31 1) fun t52_33 =>
  BND (unv .not t52_33) fun t54_34 =>
  COND t54_34
  (BND (buildv #[(Value.int .u8 0), (Value.slice none 0 0)] []) fun t55_35 =>
  BND (storev 2 w7 t2_1 t55_35) fun w8 =>
  BND (loadn 2 w8 t2_1) fun r_36 =>
  R (.tuple #[r_36, (Value.int .i64 0), (Value.int .i64 8)]) w8)
  (BND (iaddr 1 t18_8 (Value.int .i64 0)) fun t57_37 =>
  BND (load1 w7 t57_37) fun t58_38 =>
  BND (buildv #[(Value.int .u8 0), (Value.slice none 0 0)] [(0, 1, t58_38), (1, 1, t51_32)]) fun t60_39 =>
  BND (storev 2 w7 t2_1 t60_39) fun w9 =>
  BND (loadn 2 w9 t2_1) fun r_40 =>
  R (.tuple #[r_40, t35_22, (Value.int .i64 0)]) w9)))))
def ann_frame_Read : List (Nat × List Nat) := [(6, [0, 1, 4, 5, 2, 3, 6, 7, 8, 9, 10])]
theorem E_frame_Read (b_p0 : Value) (w : World) (R : Value → World → Prop) : M_frame_Read b_p0 w R = den PR ann_frame_Read (bodyOf Tryz.f145) (retQ PR Tryz.f145.results.toList R) (env0 [b_p0]) w := by kernel_rfl
theorem C_frame_Read {b_p0 : Value} {w : World} {R : Value → World → Prop} (h : M_frame_Read b_p0 w R) : CALL PR F_frame_Read [b_p0] w R :=
  call_of_den2 ann_frame_Read Tryz.func145 (by kernel_rfl) (by kernel_rfl) (by kernel_rfl) ((E_frame_Read b_p0 w R) ▸ h)
-- 146 tumbrel.vint.Get
def M_vint_Get (b_p0 : Value) (w : World) (R : Value → World → Prop) : Prop :=
  BND (lenl b_p0) fun t9_1 =>
  ∃ (J_2 : Value → Value → World → Prop) (m_2 : Value → Value → World → Nat), J_2 (Value.int .u64 0) (Value.int .i64 0) w ∧ ∀ (_d_2 : Env) (n_6 t10_9 : Value) (w1 : World), J_2 n_6 t10_9 w1 →
  (BND (binv .int .lss t10_9 t9_1) fun t11_40 =>
  COND t11_40
  (BND (iaddr 1 b_p0 t10_9) fun t13_41 =>
  BND (load1 w1 t13_41) fun t14_42 =>
  BND (binv .int .eql t10_9 (Value.int .i64 9)) fun t16_43 =>
  BND (grd (isB t16_43 true) (some t14_42)) fun t18_44 =>
  BND (grd (isB t16_43 true) (binv .int .gtr t18_44 (Value.int .u8 1))) fun t19_45 =>
  BND (pickv t16_43 t19_45 (Value.bool false)) fun t20_46 =>
  COND t20_46
  (R (.tuple #[(Value.int .u64 0), (Value.int .i64 0), (Value.int .i64 2)]) w1)
  (BND (binv .int .rem t14_42 (Value.int .u8 128)) fun t23_47 =>
  BND (convi .u64 t23_47) fun t24_48 =>
  BND (binv .int .mul (Value.int .i64 7) t10_9) fun t26_49 =>
  BND (shiftv .shl t24_48 t26_49) fun t27_50 =>
  BND (binv .int .or n_6 t27_50) fun t28_51 =>
  BND (binv .int .geq t14_42 (Value.int .u8 128)) fun t30_52 =>
  COND t30_52
  (BND (binv .int .add t10_9 (Value.int .i64 1)) fun t40_53 =>
  (J_2 t28_51 t40_53 w1 ∧ m_2 t28_51 t40_53 w1 < m_2 n_6 t10_9 w1))
  (BND (binv .int .eql t14_42 (Value.int .u8 0)) fun t32_54 =>
  BND (grd (isB t32_54 true) (some t10_9)) fun t34_55 =>
  BND (grd (isB t32_54 true) (binv .int .gtr t34_55 (Value.int .i64 0))) fun t35_56 =>
  BND (pickv t32_54 t35_56 (Value.bool false)) fun t36_57 =>
  COND t36_57
  (R (.tuple #[(Value.int .u64 0), (Value.int .i64 0), (Value.int .i64 2)]) w1)
  (BND (binv .int .add t10_9 (Value.int .i64 1)) fun t39_58 =>
  R (.tuple #[t28_51, t39_58, (Value.int .i64 0)]) w1))))
  (R (.tuple #[(Value.int .u64 0), (Value.int .i64 0), (Value.int .i64 3)]) w1))
def ann_vint_Get : List (Nat × List Nat) := [(1000003, [5, 10])]
theorem E_vint_Get (b_p0 : Value) (w : World) (R : Value → World → Prop) : M_vint_Get b_p0 w R = den PR ann_vint_Get (bodyOf Tryz.f146) (retQ PR Tryz.f146.results.toList R) (env0 [b_p0]) w := by kernel_rfl
theorem C_vint_Get {b_p0 : Value} {w : World} {R : Value → World → Prop} (h : M_vint_Get b_p0 w R) : CALL PR F_vint_Get [b_p0] w R :=
  call_of_den2 ann_vint_Get Tryz.func146 (by kernel_rfl) (by kernel_rfl) (by kernel_rfl) ((E_vint_Get b_p0 w R) ▸ h)
-- 147 tumbrel.tumbrelref05.many
def M_tumbrelref05_many (kind_p0 : Value) (w : World) (R : Value → World → Prop) : Prop :=
  BND (newslice 3 #[(Value.int .i64 0)] 1 18 [(0, 1, (Value.int .i64 (-1))), (1, 1, (Value.int .i64 0)), (2, 1, (Value.int .i64 5)), (3, 1, (Value.int .i64 2)), (4, 1, (Value.int .i64 1)), (5, 1, (Value.int .i64 2)), (6, 1, (Value.int .i64 2)), (7, 1, (Value.int .i64 1)), (8, 1, (Value.int .i64 1)), (9, 1, (Value.int .i64 1)), (10, 1, (Value.int .i64 1)), (11, 1, (Value.int .i64 1)), (12, 1, (Value.int .i64 5)), (13, 1, (Value.int .i64 7)), (14, 1, (Value.int .i64 10)), (15, 1, (Value.int .i64 2)), (16, 1, (Value.int .i64 1)), (17, 1, (Value.int .i64 1))] w) fun p_ => NEW p_ fun t4_1 w1 =>
  BND (binv .int .lss kind_p0 (Value.int .i64 0)) fun t6_2 =>
  BND (grd (isB t6_2 false) (some kind_p0)) fun t8_3 =>
  BND (grd (isB t6_2 false) (binv .int .gtr t8_3 (Value.int .i64 17))) fun t9_4 =>
  BND (pickv t6_2 (Value.bool true) t9_4) fun t10_5 =>
  COND t10_5
  (R (Value.int .i64 (-1)) w1)
  (BND (iaddr 1 t4_1 kind_p0) fun t13_6 =>
  BND (load1 w1 t13_6) fun t14_7 =>
  R t14_7 w1)
def ann_tumbrelref05_many : List (Nat × List Nat) := []
theorem E_tumbrelref05_many (kind_p0 : Value) (w : World) (R : Value → World → Prop) : M_tumbrelref05_many kind_p0 w R = den PR ann_tumbrelref05_many (bodyOf Tryz.f147) (retQ PR Tryz.f147.results.toList R) (env0 [kind_p0]) w := by kernel_rfl
theorem C_tumbrelref05_many {kind_p0 : Value} {w : World} {R : Value → World → Prop} (h : M_tumbrelref05_many kind_p0 w R) : CALL PR F_tumbrelref05_many [kind_p0] w R :=
  call_of_den2 ann_tumbrelref05_many Tryz.func147 (by kernel_rfl) (by kernel_rfl) (by kernel_rfl) ((E_tumbrelref05_many kind_p0 w R) ▸ h)
-- 148 tumbrel.tumbrelref05.texts
def M_tumbrelref05_texts (kind_p0 n_p1 : Value) (w : World) (R : Value → World → Prop) : Prop :=
  BND (binv .int .eql kind_p0 (Value.int .i64 10)) fun t6_1 =>
  BND (grd (isB t6_1 false) (some kind_p0)) fun t8_2 =>
  BND (grd (isB t6_1 false) (binv .int .eql t8_2 (Value.int .i64 11))) fun t9_3 =>
  BND (pickv t6_1 (Value.bool true) t9_3) fun t10_4 =>
  BND (grd (isB t10_4 false) (some kind_p0)) fun t12_5 =>
  BND (grd (isB t10_4 false) (binv .int .eql t12_5 (Value.int .i64 16))) fun t13_6 =>
  BND (pickv t10_4 (Value.bool true) t13_6) fun t14_7 =>
  COND t14_7
  (BND (binv .int .leq n_p1 (Value.int .i64 64)) fun t16_8 =>
  R t16_8 w)
  (BND (binv .int .eql n_p1 (Value.int .i64 0)) fun t18_9 =>
  R t18_9 w)
def ann_tumbrelref05_texts : List (Nat × List Nat) := []
theorem E_tumbrelref05_texts (kind_p0 n_p1 : Value) (w : World) (R : Value → World → Prop) : M_tumbrelref05_texts kind_p0 n_p1 w R = den PR ann_tumbrelref05_texts (bodyOf Tryz.f148) (retQ PR Tryz.f148.results.toList R) (env0 [kind_p0, n_p1]) w := by kernel_rfl
theorem C_tumbrelref05_texts {kind_p0 n_p1 : Value} {w : World} {R : Value → World → Prop} (h : M_tumbrelref05_texts kind_p0 n_p1 w R) : CALL PR F_tumbrelref05_texts [kind_p0, n_p1] w R :=
  call_of_den2 ann_tumbrelref05_texts Tryz.func148 (by kernel_rfl) (by kernel_rfl) (by kernel_rfl) ((E_tumbrelref05_texts kind_p0 n_p1 w R) ▸ h)
end Go.Proofs.YtofllgbdphakiaaGreatDoor
