/- Printed by denprint.py: the Go function as a predicate, and that it stands for the call. No condition. -/
import Derived.Test.YtmefbneoljpbgaaGreatDoorFns
set_option maxRecDepth 100000
set_option linter.unusedVariables false
namespace Go.Proofs.YtmefbneoljpbgaaGreatDoor
open Go.Den

-- 4 tumbrel.tumbrellaw17.EventsSure
def M_tumbrellaw17_EventsSure (gen_p0 a_p1 b_p2 c_p3 tails_p4 : Value) (w : World) (R : Value → World → Prop) : Prop :=
  CALL PR F_tumbrellaw17_awake [] w fun t25_1 w1 =>
  BND (unv .not t25_1) fun t26_2 =>
  COND t26_2
  (R (Value.bool false) w1)
  (CALL PR F_disk_New [(Value.int .i64 65536)] w1 fun t28_3 w2 =>
  BND (extractv t28_3 0) fun t29_4 =>
  BND (extractv t28_3 1) fun t30_5 =>
  BND (binv .ptr .eql t29_4 (Value.pointer none)) fun t32_6 =>
  BND (grd (isB t32_6 false) (some gen_p0)) fun t34_7 =>
  BND (grd (isB t32_6 false) (binv .int .gtr t34_7 (Value.int .u64 1000))) fun t35_8 =>
  BND (pickv t32_6 (Value.bool true) t35_8) fun t36_9 =>
  BND (grd (isB t36_9 false) (some tails_p4)) fun t38_10 =>
  BND (grd (isB t36_9 false) (lenl t38_10)) fun t39_11 =>
  BND (grd (isB t36_9 false) (binv .int .gtr t39_11 (Value.int .i64 300))) fun t40_12 =>
  BND (pickv t36_9 (Value.bool true) t40_12) fun t41_13 =>
  BND (grd (isB t41_13 false) (some a_p1)) fun t43_14 =>
  GEF (isB t41_13 false) (fun k_ => CALL PR F_tumbrellaw17_own [t43_14] w2 k_) w2 fun t44_15 w3 =>
  GEF (isB t41_13 false) (fun k_ => CALL PR F_tumbrelref12_Large [t44_15, (Value.int .i64 20)] w3 k_) w3 fun t45_16 w4 =>
  BND (pickv t41_13 (Value.bool true) t45_16) fun t46_17 =>
  BND (grd (isB t46_17 false) (some b_p2)) fun t48_18 =>
  GEF (isB t46_17 false) (fun k_ => CALL PR F_tumbrellaw17_own [t48_18] w4 k_) w4 fun t49_19 w5 =>
  GEF (isB t46_17 false) (fun k_ => CALL PR F_tumbrelref12_Large [t49_19, (Value.int .i64 20)] w5 k_) w5 fun t50_20 w6 =>
  BND (pickv t46_17 (Value.bool true) t50_20) fun t51_21 =>
  BND (grd (isB t51_21 false) (some c_p3)) fun t53_22 =>
  GEF (isB t51_21 false) (fun k_ => CALL PR F_tumbrellaw17_own [t53_22] w6 k_) w6 fun t54_23 w7 =>
  GEF (isB t51_21 false) (fun k_ => CALL PR F_tumbrelref12_Large [t54_23, (Value.int .i64 20)] w7 k_) w7 fun t55_24 w8 =>
  BND (pickv t51_21 (Value.bool true) t55_24) fun t56_25 =>
  COND t56_25
  (R (Value.bool true) w8)
  (BND (newslice 68 #[(Value.int .i64 0), (Value.int .i64 0), (Value.int .u64 0), (Value.int .u64 0), (Value.string ByteArray.empty), (Value.int .u64 0), (Value.int .u64 0), (Value.int .i64 0)] 8 0 [] w8) fun p_ => NEW p_ fun t57_26 w9 =>
  APPEND 68 8 72 (Value.agg #[(Value.int .i64 0), (Value.int .i64 0), (Value.int .u64 0), (Value.int .u64 0), (Value.string ByteArray.empty), (Value.int .u64 0), (Value.int .u64 0), (Value.int .i64 0)]) t57_26 a_p1 w9 fun t59_27 w10 =>
  APPEND 68 8 72 (Value.agg #[(Value.int .i64 0), (Value.int .i64 0), (Value.int .u64 0), (Value.int .u64 0), (Value.string ByteArray.empty), (Value.int .u64 0), (Value.int .u64 0), (Value.int .i64 0)]) t59_27 b_p2 w10 fun t61_28 w11 =>
  APPEND 68 8 72 (Value.agg #[(Value.int .i64 0), (Value.int .i64 0), (Value.int .u64 0), (Value.int .u64 0), (Value.string ByteArray.empty), (Value.int .u64 0), (Value.int .u64 0), (Value.int .i64 0)]) t61_28 c_p3 w11 fun t63_29 w12 =>
  BND (lenl t63_29) fun t64_30 =>
  ∃ (J_31 : Value → World → Prop) (m_31 : Value → World → Nat), J_31 (Value.int .i64 0) w12 ∧ ∀ (_d_31 : Env) (t65_34 : Value) (w13 : World), J_31 t65_34 w13 →
  (BND (binv .int .lss t65_34 t64_30) fun t66_42 =>
  COND t66_42
  (BND (iaddr 8 t63_29 t65_34) fun t67_43 =>
  BND (loadn 8 w13 t67_43) fun t68_44 =>
  NEW (newv 68 w13 (Value.agg #[(Value.int .i64 0), (Value.int .i64 0), (Value.int .u64 0), (Value.int .u64 0), (Value.string ByteArray.empty), (Value.int .u64 0), (Value.int .u64 0), (Value.int .i64 0)])) fun o_45 w14 =>
  BND (storev 8 w14 o_45 t68_44) fun w15 =>
  BND (loadn 8 w15 o_45) fun t69_46 =>
  CALL PR F_op_Right [t69_46] w15 fun t70_47 w16 =>
  BND (unv .not t70_47) fun t71_48 =>
  COND t71_48
  (R (Value.bool true) w16)
  (BND (binv .int .add t65_34 (Value.int .i64 1)) fun t72_49 =>
  (J_31 t72_49 w16 ∧ m_31 t72_49 w16 < m_31 t65_34 w13)))
  (CALL PR F_events_Begin [t29_4, gen_p0] w13 fun t75_50 w17 =>
  BND (binv .int .neq t75_50 (Value.int .i64 0)) fun t76_51 =>
  BND (grd (isB t76_51 false) (some t29_4)) fun t78_52 =>
  GEF (isB t76_51 false) (fun k_ => CALL PR F_disk_Disk_DirSync [t78_52] w17 k_) w17 fun t79_53 w18 =>
  BND (grd (isB t76_51 false) (binv .int .neq t79_53 (Value.int .i64 0))) fun t80_54 =>
  BND (pickv t76_51 (Value.bool true) t80_54) fun t81_55 =>
  BND (grd (isB t81_55 false) (some t29_4)) fun t83_56 =>
  BND (grd (isB t81_55 false) (some gen_p0)) fun t84_57 =>
  BND (grd (isB t81_55 false) (some a_p1)) fun t85_58 =>
  GEF (isB t81_55 false) (fun k_ => CALL PR F_events_Append [t83_56, t84_57, t85_58] w18 k_) w18 fun t86_59 w19 =>
  BND (grd (isB t81_55 false) (binv .int .neq t86_59 (Value.int .i64 0))) fun t87_60 =>
  BND (pickv t81_55 (Value.bool true) t87_60) fun t88_61 =>
  BND (grd (isB t88_61 false) (some t29_4)) fun t90_62 =>
  BND (grd (isB t88_61 false) (some gen_p0)) fun t91_63 =>
  GEF (isB t88_61 false) (fun k_ => CALL PR F_events_Sync [t90_62, t91_63] w19 k_) w19 fun t92_64 w20 =>
  BND (grd (isB t88_61 false) (binv .int .neq t92_64 (Value.int .i64 0))) fun t93_65 =>
  BND (pickv t88_61 (Value.bool true) t93_65) fun t94_66 =>
  COND t94_66
  (R (Value.bool false) w20)
  (BND (lenl b_p2) fun t96_67 =>
  ∃ (J_68 : Value → World → Prop) (m_68 : Value → World → Nat), J_68 (Value.int .i64 0) w20 ∧ ∀ (_d_68 : Env) (t97_71 : Value) (w21 : World), J_68 t97_71 w21 →
  (BND (binv .int .lss t97_71 t96_67) fun t98_82 =>
  COND t98_82
  (BND (iaddr 8 b_p2 t97_71) fun t99_83 =>
  BND (loadn 8 w21 t99_83) fun t100_84 =>
  NEW (newv 68 w21 (Value.agg #[(Value.int .i64 0), (Value.int .i64 0), (Value.int .u64 0), (Value.int .u64 0), (Value.string ByteArray.empty), (Value.int .u64 0), (Value.int .u64 0), (Value.int .i64 0)])) fun o_85 w22 =>
  BND (storev 8 w22 o_85 t100_84) fun w23 =>
  BND (loadn 8 w23 o_85) fun t103_86 =>
  BND (newslice 68 #[(Value.int .i64 0), (Value.int .i64 0), (Value.int .u64 0), (Value.int .u64 0), (Value.string ByteArray.empty), (Value.int .u64 0), (Value.int .u64 0), (Value.int .i64 0)] 8 1 [(0, 8, t103_86)] w23) fun p_ => NEW p_ fun t104_87 w24 =>
  CALL PR F_events_Append [t29_4, gen_p0, t104_87] w24 fun t105_88 w25 =>
  BND (binv .int .neq t105_88 (Value.int .i64 0)) fun t106_89 =>
  COND t106_89
  (R (Value.bool false) w25)
  (BND (binv .int .add t97_71 (Value.int .i64 1)) fun t107_90 =>
  (J_68 t107_90 w25 ∧ m_68 t107_90 w25 < m_68 t97_71 w21)))
  (CALL PR F_disk_Disk_Crash [t29_4, (Value.int .i64 0), tails_p4] w21 fun t110_91 w26 =>
  CALL PR F_events_Load [t29_4, gen_p0] w26 fun t114_92 w27 =>
  BND (extractv t114_92 0) fun t115_93 =>
  BND (extractv t114_92 1) fun t116_94 =>
  BND (extractv t114_92 2) fun t117_95 =>
  BND (newslice 68 #[(Value.int .i64 0), (Value.int .i64 0), (Value.int .u64 0), (Value.int .u64 0), (Value.string ByteArray.empty), (Value.int .u64 0), (Value.int .u64 0), (Value.int .i64 0)] 8 0 [] w27) fun p_ => NEW p_ fun t118_96 w28 =>
  APPEND 68 8 72 (Value.agg #[(Value.int .i64 0), (Value.int .i64 0), (Value.int .u64 0), (Value.int .u64 0), (Value.string ByteArray.empty), (Value.int .u64 0), (Value.int .u64 0), (Value.int .i64 0)]) t118_96 a_p1 w28 fun t120_97 w29 =>
  APPEND 68 8 72 (Value.agg #[(Value.int .i64 0), (Value.int .i64 0), (Value.int .u64 0), (Value.int .u64 0), (Value.string ByteArray.empty), (Value.int .u64 0), (Value.int .u64 0), (Value.int .i64 0)]) t120_97 b_p2 w29 fun t122_98 w30 =>
  BND (binv .int .neq t117_95 (Value.int .i64 0)) fun t124_99 =>
  BND (grd (isB t124_99 false) (some t115_93)) fun t126_100 =>
  BND (grd (isB t124_99 false) (lenl t126_100)) fun t127_101 =>
  BND (grd (isB t124_99 false) (some a_p1)) fun t128_102 =>
  BND (grd (isB t124_99 false) (lenl t128_102)) fun t129_103 =>
  BND (grd (isB t124_99 false) (binv .int .lss t127_101 t129_103)) fun t130_104 =>
  BND (pickv t124_99 (Value.bool true) t130_104) fun t131_105 =>
  BND (grd (isB t131_105 false) (some t115_93)) fun t133_106 =>
  BND (grd (isB t131_105 false) (lenl t133_106)) fun t134_107 =>
  BND (grd (isB t131_105 false) (some t122_98)) fun t135_108 =>
  BND (grd (isB t131_105 false) (lenl t135_108)) fun t136_109 =>
  BND (grd (isB t131_105 false) (binv .int .gtr t134_107 t136_109)) fun t137_110 =>
  BND (pickv t131_105 (Value.bool true) t137_110) fun t138_111 =>
  BND (grd (isB t138_111 false) (some t116_94)) fun t140_112 =>
  BND (grd (isB t138_111 false) (lenl t140_112)) fun t141_113 =>
  BND (grd (isB t138_111 false) (some t115_93)) fun t142_114 =>
  BND (grd (isB t138_111 false) (lenl t142_114)) fun t143_115 =>
  BND (grd (isB t138_111 false) (binv .int .neq t141_113 t143_115)) fun t144_116 =>
  BND (pickv t138_111 (Value.bool true) t144_116) fun t145_117 =>
  BND (grd (isB t145_117 false) (some t115_93)) fun t147_118 =>
  BND (grd (isB t145_117 false) (some t122_98)) fun t149_119 =>
  BND (grd (isB t145_117 false) (some t115_93)) fun t150_120 =>
  BND (grd (isB t145_117 false) (lenl t150_120)) fun t151_121 =>
  BND (grd (isB t145_117 false) (slicev 8 t149_119 none (some t151_121))) fun t152_122 =>
  GEF (isB t145_117 false) (fun k_ => CALL PR F_tumbrellaw17_own [t147_118] w30.drew k_) w30.drew fun t148_123 w31 =>
  GEF (isB t145_117 false) (fun k_ => CALL PR F_tumbrellaw17_own [t152_122] w31 k_) w31 fun t153_124 w32 =>
  GEF (isB t145_117 false) (fun k_ => CALL PR F_tumbrellaw17_same [t148_123, t153_124] w32 k_) w32 fun t154_125 w33 =>
  BND (grd (isB t145_117 false) (unv .not t154_125)) fun t155_126 =>
  BND (pickv t145_117 (Value.bool true) t155_126) fun t156_127 =>
  COND t156_127
  (R (Value.bool false) w33)
  (BND (lenl t116_94) fun t158_128 =>
  BND (binv .int .gtr t158_128 (Value.int .i64 0)) fun t159_129 =>
  JOIN (α := Value → World → Prop) (fun k_160 => COND t159_129
  (BND (lenl t116_94) fun t162_161 =>
  BND (binv .int .sub t162_161 (Value.int .i64 1)) fun t163_162 =>
  BND (iaddr 1 t116_94 t163_162) fun t164_163 =>
  BND (load1 w33 t164_163) fun t165_164 =>
  k_160 t165_164 w33)
  (k_160 (Value.int .i64 0) w33))
  (fun end_130 w34 => CALL PR F_events_Cut [t29_4, gen_p0, end_130] w34 fun t169_137 w35 =>
  BND (binv .int .neq t169_137 (Value.int .i64 0)) fun t170_138 =>
  BND (grd (isB t170_138 false) (some t29_4)) fun t172_139 =>
  BND (grd (isB t170_138 false) (some gen_p0)) fun t173_140 =>
  BND (grd (isB t170_138 false) (some c_p3)) fun t174_141 =>
  GEF (isB t170_138 false) (fun k_ => CALL PR F_events_Append [t172_139, t173_140, t174_141] w35 k_) w35 fun t175_142 w36 =>
  BND (grd (isB t170_138 false) (binv .int .neq t175_142 (Value.int .i64 0))) fun t176_143 =>
  BND (pickv t170_138 (Value.bool true) t176_143) fun t177_144 =>
  COND t177_144
  (R (Value.bool false) w36)
  (CALL PR F_events_Load [t29_4, gen_p0] w36 fun t181_145 w37 =>
  BND (extractv t181_145 0) fun t182_146 =>
  BND (extractv t181_145 1) fun t183_147 =>
  BND (extractv t181_145 2) fun t184_148 =>
  BND (binv .int .eql t184_148 (Value.int .i64 0)) fun t186_149 =>
  BND (grd (isB t186_149 true) (some t182_146)) fun t188_150 =>
  GEF (isB t186_149 true) (fun k_ => CALL PR F_tumbrellaw17_own [t188_150] w37 k_) w37 fun t189_151 w38 =>
  GEF (isB t186_149 true) (fun k_ => BND (newslice 68 #[(Value.int .i64 0), (Value.int .i64 0), (Value.int .u64 0), (Value.int .u64 0), (Value.string ByteArray.empty), (Value.int .u64 0), (Value.int .u64 0), (Value.int .i64 0)] 8 0 [] w38) fun p_ => NEW p_ k_) w38 fun t190_152 w39 =>
  BND (grd (isB t186_149 true) (some t115_93)) fun t191_153 =>
  GEF (isB t186_149 true) (fun k_ => APPEND 68 8 72 (Value.agg #[(Value.int .i64 0), (Value.int .i64 0), (Value.int .u64 0), (Value.int .u64 0), (Value.string ByteArray.empty), (Value.int .u64 0), (Value.int .u64 0), (Value.int .i64 0)]) t190_152 t191_153 w39 k_) w39 fun t192_154 w40 =>
  BND (grd (isB t186_149 true) (some c_p3)) fun t193_155 =>
  GEF (isB t186_149 true) (fun k_ => APPEND 68 8 72 (Value.agg #[(Value.int .i64 0), (Value.int .i64 0), (Value.int .u64 0), (Value.int .u64 0), (Value.string ByteArray.empty), (Value.int .u64 0), (Value.int .u64 0), (Value.int .i64 0)]) t192_154 t193_155 w40 k_) w40 fun t194_156 w41 =>
  GEF (isB t186_149 true) (fun k_ => CALL PR F_tumbrellaw17_own [t194_156] w41 k_) w41 fun t195_157 w42 =>
  GEF (isB t186_149 true) (fun k_ => CALL PR F_tumbrellaw17_same [t189_151, t195_157] w42 k_) w42 fun t196_158 w43 =>
  BND (pickv t186_149 t196_158 (Value.bool false)) fun t197_159 =>
  R t197_159 w43))))))))))
def ann_tumbrellaw17_EventsSure : List (Nat × List Nat) := [(23, [0, 1, 2, 3, 4, 5, 6, 7, 8, 9, 10, 11, 12, 13, 14, 15, 16, 17, 18, 19, 20, 21, 22, 23, 24, 26, 27, 28, 29, 25, 30, 31, 32, 33]), (1000007, [65]), (1000015, [97])]
theorem E_tumbrellaw17_EventsSure (gen_p0 a_p1 b_p2 c_p3 tails_p4 : Value) (w : World) (R : Value → World → Prop) : M_tumbrellaw17_EventsSure gen_p0 a_p1 b_p2 c_p3 tails_p4 w R = den PR ann_tumbrellaw17_EventsSure (bodyOf Tryz.f4) (retQ PR Tryz.f4.results.toList R) (env0 [gen_p0, a_p1, b_p2, c_p3, tails_p4]) w := by kernel_rfl
theorem C_tumbrellaw17_EventsSure {gen_p0 a_p1 b_p2 c_p3 tails_p4 : Value} {w : World} {R : Value → World → Prop} (h : M_tumbrellaw17_EventsSure gen_p0 a_p1 b_p2 c_p3 tails_p4 w R) : CALL PR F_tumbrellaw17_EventsSure [gen_p0, a_p1, b_p2, c_p3, tails_p4] w R :=
  call_of_den2 ann_tumbrellaw17_EventsSure Tryz.func4 (by kernel_rfl) (by kernel_rfl) (by kernel_rfl) ((E_tumbrellaw17_EventsSure gen_p0 a_p1 b_p2 c_p3 tails_p4 w R) ▸ h)


-- 5 tumbrel.tumbrellaw17.awake
def M_tumbrellaw17_awake (w : World) (R : Value → World → Prop) : Prop :=
  CALL PR F_disk_New [(Value.int .i64 200)] w fun t13_1 w1 =>
  BND (extractv t13_1 0) fun t14_2 =>
  BND (extractv t13_1 1) fun t15_3 =>
  BND (binv .ptr .eql t14_2 (Value.pointer none)) fun t17_4 =>
  COND t17_4
  (R (Value.bool false) w1)
  (CALL PR F_events_Begin [t14_2, (Value.int .u64 1)] w1 fun t19_5 w2 =>
  BND (buildv #[(Value.int .i64 0), (Value.int .i64 0), (Value.int .u64 0), (Value.int .u64 0), (Value.string ByteArray.empty), (Value.int .u64 0), (Value.int .u64 0), (Value.int .i64 0)] [(0, 1, (Value.int .i64 7)), (3, 1, (Value.int .u64 5))]) fun t21_6 =>
  BND (newslice 68 #[(Value.int .i64 0), (Value.int .i64 0), (Value.int .u64 0), (Value.int .u64 0), (Value.string ByteArray.empty), (Value.int .u64 0), (Value.int .u64 0), (Value.int .i64 0)] 8 1 [(0, 8, t21_6)] w2) fun p_ => NEW p_ fun t22_7 w3 =>
  CALL PR F_events_Append [t14_2, (Value.int .u64 1), t22_7] w3 fun t23_8 w4 =>
  BND (buildv #[(Value.int .i64 0), (Value.int .i64 0), (Value.int .u64 0), (Value.int .u64 0), (Value.string ByteArray.empty), (Value.int .u64 0), (Value.int .u64 0), (Value.int .i64 0)] []) fun t25_9 =>
  BND (newslice 68 #[(Value.int .i64 0), (Value.int .i64 0), (Value.int .u64 0), (Value.int .u64 0), (Value.string ByteArray.empty), (Value.int .u64 0), (Value.int .u64 0), (Value.int .i64 0)] 8 1 [(0, 8, t25_9)] w4) fun p_ => NEW p_ fun t26_10 w5 =>
  CALL PR F_events_Append [t14_2, (Value.int .u64 1), t26_10] w5 fun t27_11 w6 =>
  CALL PR F_events_Load [t14_2, (Value.int .u64 1)] w6 fun t30_12 w7 =>
  BND (extractv t30_12 0) fun t31_13 =>
  BND (extractv t30_12 1) fun t32_14 =>
  BND (extractv t30_12 2) fun t33_15 =>
  CALL PR F_events_Load [t14_2, (Value.int .u64 2)] w7 fun t36_16 w8 =>
  BND (extractv t36_16 0) fun t37_17 =>
  BND (extractv t36_16 1) fun t38_18 =>
  BND (extractv t36_16 2) fun t39_19 =>
  BND (binv .int .eql t19_5 (Value.int .i64 0)) fun t41_20 =>
  BND (grd (isB t41_20 true) (some t23_8)) fun t43_21 =>
  BND (grd (isB t41_20 true) (binv .int .eql t43_21 (Value.int .i64 0))) fun t44_22 =>
  BND (pickv t41_20 t44_22 (Value.bool false)) fun t45_23 =>
  BND (grd (isB t45_23 true) (some t27_11)) fun t47_24 =>
  BND (grd (isB t45_23 true) (binv .int .eql t47_24 (Value.int .i64 1))) fun t48_25 =>
  BND (pickv t45_23 t48_25 (Value.bool false)) fun t49_26 =>
  BND (grd (isB t49_26 true) (some t31_13)) fun t51_27 =>
  BND (grd (isB t49_26 true) (lenl t51_27)) fun t52_28 =>
  BND (grd (isB t49_26 true) (binv .int .eql t52_28 (Value.int .i64 1))) fun t53_29 =>
  BND (pickv t49_26 t53_29 (Value.bool false)) fun t54_30 =>
  BND (grd (isB t54_30 true) (some t31_13)) fun t56_31 =>
  BND (grd (isB t54_30 true) (iaddr 8 t56_31 (Value.int .i64 0))) fun t57_32 =>
  BND (grd (isB t54_30 true) (loadn 8 w8 t57_32)) fun t58_33 =>
  BND (grd (isB t54_30 true) (buildv #[(Value.int .i64 0), (Value.int .i64 0), (Value.int .u64 0), (Value.int .u64 0), (Value.string ByteArray.empty), (Value.int .u64 0), (Value.int .u64 0), (Value.int .i64 0)] [(0, 1, (Value.int .i64 7)), (3, 1, (Value.int .u64 5))])) fun t59_34 =>
  BND (grd (isB t54_30 true) (eqaggv [(0, (.int .i64)), (1, (.int .i64)), (2, (.int .u64)), (3, (.int .u64)), (4, .string), (5, (.int .u64)), (6, (.int .u64)), (7, (.int .i64))] .eql t58_33 t59_34)) fun t60_35 =>
  BND (pickv t54_30 t60_35 (Value.bool false)) fun t61_36 =>
  BND (grd (isB t61_36 true) (some t32_14)) fun t63_37 =>
  GEF (isB t61_36 true) (fun k_ => BND (newslice 3 #[(Value.int .i64 0)] 1 1 [(0, 1, (Value.int .i64 12))] w8) fun p_ => NEW p_ k_) w8 fun t64_38 w9 =>
  GEF (isB t61_36 true) (fun k_ => CALL PR F_tumbrelref05_Ints [t63_37, t64_38] w9 k_) w9 fun t65_39 w10 =>
  BND (pickv t61_36 t65_39 (Value.bool false)) fun t66_40 =>
  BND (grd (isB t66_40 true) (some t33_15)) fun t68_41 =>
  BND (grd (isB t66_40 true) (binv .int .eql t68_41 (Value.int .i64 0))) fun t69_42 =>
  BND (pickv t66_40 t69_42 (Value.bool false)) fun t70_43 =>
  BND (grd (isB t70_43 true) (some t39_19)) fun t72_44 =>
  BND (grd (isB t70_43 true) (binv .int .eql t72_44 (Value.int .i64 5))) fun t73_45 =>
  BND (pickv t70_43 t73_45 (Value.bool false)) fun t74_46 =>
  BND (grd (isB t74_46 true) (some t14_2)) fun t76_47 =>
  GEF (isB t74_46 true) (fun k_ => CALL PR F_events_Sync [t76_47, (Value.int .u64 1)] w10 k_) w10 fun t77_48 w11 =>
  BND (grd (isB t74_46 true) (binv .int .eql t77_48 (Value.int .i64 0))) fun t78_49 =>
  BND (pickv t74_46 t78_49 (Value.bool false)) fun t79_50 =>
  BND (grd (isB t79_50 true) (some t14_2)) fun t81_51 =>
  GEF (isB t79_50 true) (fun k_ => CALL PR F_events_Cut [t81_51, (Value.int .u64 1), (Value.int .i64 99)] w11 k_) w11 fun t82_52 w12 =>
  BND (grd (isB t79_50 true) (binv .int .eql t82_52 (Value.int .i64 0))) fun t83_53 =>
  BND (pickv t79_50 t83_53 (Value.bool false)) fun t84_54 =>
  BND (grd (isB t84_54 true) (some t14_2)) fun t86_55 =>
  GEF (isB t84_54 true) (fun k_ => CALL PR F_events_Begin [t86_55, (Value.int .u64 9223372036854775808)] w12 k_) w12 fun t87_56 w13 =>
  BND (grd (isB t84_54 true) (binv .int .eql t87_56 (Value.int .i64 1))) fun t88_57 =>
  BND (pickv t84_54 t88_57 (Value.bool false)) fun t89_58 =>
  R t89_58 w13)
def ann_tumbrellaw17_awake : List (Nat × List Nat) := []
theorem E_tumbrellaw17_awake (w : World) (R : Value → World → Prop) : M_tumbrellaw17_awake w R = den PR ann_tumbrellaw17_awake (bodyOf Tryz.f5) (retQ PR Tryz.f5.results.toList R) (env0 []) w := by kernel_rfl
theorem C_tumbrellaw17_awake {w : World} {R : Value → World → Prop} (h : M_tumbrellaw17_awake w R) : CALL PR F_tumbrellaw17_awake [] w R :=
  call_of_den2 ann_tumbrellaw17_awake Tryz.func5 (by kernel_rfl) (by kernel_rfl) (by kernel_rfl) ((E_tumbrellaw17_awake w R) ▸ h)


-- 6 tumbrel.disk.New
def M_disk_New (room_p0 : Value) (w : World) (R : Value → World → Prop) : Prop :=
  BND (binv .int .lss room_p0 (Value.int .i64 16)) fun t5_1 =>
  BND (grd (isB t5_1 false) (some room_p0)) fun t7_2 =>
  BND (grd (isB t5_1 false) (binv .int .gtr t7_2 (Value.int .i64 1048576))) fun t8_3 =>
  BND (pickv t5_1 (Value.bool true) t8_3) fun t9_4 =>
  COND t9_4
  (R (.tuple #[(Value.pointer none), (Value.int .i64 1)]) w)
  (NEW (newmap w) fun t11_5 w1 =>
  BND (buildv #[(Value.int .i64 0), (Value.map none), (Value.slice none 0 0), (Value.int .i64 0), (Value.bool false)] [(0, 1, room_p0), (1, 1, t11_5), (3, 1, (Value.int .i64 (-1)))]) fun t12_6 =>
  NEW (newv 76 w1 t12_6) fun t13_7 w2 =>
  R (.tuple #[t13_7, (Value.int .i64 0)]) w2)
def ann_disk_New : List (Nat × List Nat) := []
theorem E_disk_New (room_p0 : Value) (w : World) (R : Value → World → Prop) : M_disk_New room_p0 w R = den PR ann_disk_New (bodyOf Tryz.f6) (retQ PR Tryz.f6.results.toList R) (env0 [room_p0]) w := by kernel_rfl
theorem C_disk_New {room_p0 : Value} {w : World} {R : Value → World → Prop} (h : M_disk_New room_p0 w R) : CALL PR F_disk_New [room_p0] w R :=
  call_of_den2 ann_disk_New Tryz.func6 (by kernel_rfl) (by kernel_rfl) (by kernel_rfl) ((E_disk_New room_p0 w R) ▸ h)


-- 9 tumbrel.events.Begin
def M_events_Begin (d_p0 gen_p1 : Value) (w : World) (R : Value → World → Prop) : Prop :=
  CALL PR F_name_Of [(Value.int .u8 101), gen_p1] w fun t10_1 w1 =>
  BND (extractv t10_1 0) fun t11_2 =>
  BND (extractv t10_1 1) fun t12_3 =>
  BND (binv .int .neq t12_3 (Value.int .i64 0)) fun t14_4 =>
  COND t14_4
  (R t12_3 w1)
  (CALL PR F_disk_Disk_Create [d_p0, t11_2] w1 fun t18_5 w2 =>
  BND (binv .int .neq t18_5 (Value.int .i64 0)) fun t20_6 =>
  COND t20_6
  (R t18_5 w2)
  (CALL PR F_disk_Disk_Sync [d_p0, t11_2] w2 fun t24_7 w3 =>
  R t24_7 w3))
def ann_events_Begin : List (Nat × List Nat) := []
theorem E_events_Begin (d_p0 gen_p1 : Value) (w : World) (R : Value → World → Prop) : M_events_Begin d_p0 gen_p1 w R = den PR ann_events_Begin (bodyOf Tryz.f9) (retQ PR Tryz.f9.results.toList R) (env0 [d_p0, gen_p1]) w := by kernel_rfl
theorem C_events_Begin {d_p0 gen_p1 : Value} {w : World} {R : Value → World → Prop} (h : M_events_Begin d_p0 gen_p1 w R) : CALL PR F_events_Begin [d_p0, gen_p1] w R :=
  call_of_den2 ann_events_Begin Tryz.func9 (by kernel_rfl) (by kernel_rfl) (by kernel_rfl) ((E_events_Begin d_p0 gen_p1 w R) ▸ h)


-- 11 tumbrel.events.Append
def M_events_Append (d_p0 gen_p1 l_p2 : Value) (w : World) (R : Value → World → Prop) : Prop :=
  CALL PR F_name_Of [(Value.int .u8 101), gen_p1] w fun t17_1 w1 =>
  BND (extractv t17_1 0) fun t18_2 =>
  BND (extractv t17_1 1) fun t19_3 =>
  BND (binv .int .neq t19_3 (Value.int .i64 0)) fun t21_4 =>
  COND t21_4
  (R t19_3 w1)
  (CALL PR F_events_turned_Record [l_p2, (Value.func (.func F_op_Record) #[] #[])] w1 fun t25_5 w2 =>
  BND (extractv t25_5 0) fun t26_6 =>
  BND (extractv t25_5 1) fun t27_7 =>
  BND (binv .int .neq t27_7 (Value.int .i64 0)) fun t29_8 =>
  COND t29_8
  (R t27_7 w2)
  (BND (lenl t26_6) fun t32_9 =>
  ∃ (J_10 : Value → Value → World → Prop) (m_10 : Value → Value → World → Nat), J_10 (Value.slice none 0 0) (Value.int .i64 0) w2 ∧ ∀ (_d_10 : Env) (all_11 t33_15 : Value) (w3 : World), J_10 all_11 t33_15 w3 →
  (BND (binv .int .lss t33_15 t32_9) fun t34_28 =>
  COND t34_28
  (BND (iaddr 3 t26_6 t33_15) fun t35_29 =>
  BND (loadn 3 w3 t35_29) fun t36_30 =>
  NEW (newv 86 w3 (Value.agg #[(Value.int .i64 0), (Value.slice none 0 0), (Value.string ByteArray.empty)])) fun r_31 w4 =>
  BND (storev 3 w4 r_31 t36_30) fun w5 =>
  BND (loadn 3 w5 r_31) fun t38_32 =>
  CALL PR F_record_Bytes [t38_32] w5 fun t39_33 w6 =>
  BND (extractv t39_33 0) fun t40_34 =>
  BND (extractv t39_33 1) fun t41_35 =>
  APPEND 5 1 1 (Value.int .u8 0) all_11 t40_34 w6 fun t44_36 w7 =>
  BND (binv .int .add t33_15 (Value.int .i64 1)) fun t45_37 =>
  (J_10 t44_36 t45_37 w7 ∧ m_10 t44_36 t45_37 w7 < m_10 all_11 t33_15 w3))
  (CALL PR F_disk_Disk_Append [d_p0, t18_2, all_11] w3 fun t49_38 w8 =>
  R t49_38 w8))))
def ann_events_Append : List (Nat × List Nat) := [(1000009, [10, 33])]
theorem E_events_Append (d_p0 gen_p1 l_p2 : Value) (w : World) (R : Value → World → Prop) : M_events_Append d_p0 gen_p1 l_p2 w R = den PR ann_events_Append (bodyOf Tryz.f11) (retQ PR Tryz.f11.results.toList R) (env0 [d_p0, gen_p1, l_p2]) w := by kernel_rfl
theorem C_events_Append {d_p0 gen_p1 l_p2 : Value} {w : World} {R : Value → World → Prop} (h : M_events_Append d_p0 gen_p1 l_p2 w R) : CALL PR F_events_Append [d_p0, gen_p1, l_p2] w R :=
  call_of_den2 ann_events_Append Tryz.func11 (by kernel_rfl) (by kernel_rfl) (by kernel_rfl) ((E_events_Append d_p0 gen_p1 l_p2 w R) ▸ h)


-- 13 tumbrel.tumbrellaw17.own
def M_tumbrellaw17_own (l_p0 : Value) (w : World) (R : Value → World → Prop) : Prop :=
  BND (newslice 95 #[(Value.int .i64 0), (Value.int .i64 0), (Value.int .u64 0), (Value.int .u64 0), (Value.string ByteArray.empty), (Value.int .u64 0), (Value.int .u64 0), (Value.int .i64 0)] 8 0 [] w) fun p_ => NEW p_ fun t6_1 w1 =>
  BND (lenl l_p0) fun t8_2 =>
  ∃ (J_3 : Value → Value → World → Prop) (m_3 : Value → Value → World → Nat), J_3 t6_1 (Value.int .i64 0) w1 ∧ ∀ (_d_3 : Env) (out_4 t9_6 : Value) (w2 : World), J_3 out_4 t9_6 w2 →
  (BND (binv .int .lss t9_6 t8_2) fun t10_27 =>
  COND t10_27
  (BND (iaddr 8 l_p0 t9_6) fun t11_28 =>
  BND (loadn 8 w2 t11_28) fun t12_29 =>
  NEW (newv 68 w2 (Value.agg #[(Value.int .i64 0), (Value.int .i64 0), (Value.int .u64 0), (Value.int .u64 0), (Value.string ByteArray.empty), (Value.int .u64 0), (Value.int .u64 0), (Value.int .i64 0)])) fun o_30 w3 =>
  BND (storev 8 w3 o_30 t12_29) fun w4 =>
  BND (faddr 0 o_30) fun t14_31 =>
  BND (load1 w4 t14_31) fun t15_32 =>
  BND (faddr 1 o_30) fun t16_33 =>
  BND (load1 w4 t16_33) fun t17_34 =>
  BND (faddr 2 o_30) fun t18_35 =>
  BND (load1 w4 t18_35) fun t19_36 =>
  BND (faddr 3 o_30) fun t20_37 =>
  BND (load1 w4 t20_37) fun t21_38 =>
  BND (faddr 4 o_30) fun t22_39 =>
  BND (load1 w4 t22_39) fun t23_40 =>
  BND (faddr 5 o_30) fun t24_41 =>
  BND (loadn 3 w4 t24_41) fun t25_42 =>
  BND (buildv #[(Value.int .i64 0), (Value.int .i64 0), (Value.int .u64 0), (Value.int .u64 0), (Value.string ByteArray.empty), (Value.int .u64 0), (Value.int .u64 0), (Value.int .i64 0)] [(0, 1, t15_32), (1, 1, t17_34), (2, 1, t19_36), (3, 1, t21_38), (4, 1, t23_40), (5, 3, t25_42)]) fun t26_43 =>
  BND (newslice 95 #[(Value.int .i64 0), (Value.int .i64 0), (Value.int .u64 0), (Value.int .u64 0), (Value.string ByteArray.empty), (Value.int .u64 0), (Value.int .u64 0), (Value.int .i64 0)] 8 1 [(0, 8, t26_43)] w4) fun p_ => NEW p_ fun t27_44 w5 =>
  APPEND 95 8 72 (Value.agg #[(Value.int .i64 0), (Value.int .i64 0), (Value.int .u64 0), (Value.int .u64 0), (Value.string ByteArray.empty), (Value.int .u64 0), (Value.int .u64 0), (Value.int .i64 0)]) out_4 t27_44 w5 fun t28_45 w6 =>
  BND (binv .int .add t9_6 (Value.int .i64 1)) fun t29_46 =>
  (J_3 t28_45 t29_46 w6 ∧ m_3 t28_45 t29_46 w6 < m_3 out_4 t9_6 w2))
  (R out_4 w2))
def ann_tumbrellaw17_own : List (Nat × List Nat) := [(1000003, [3, 9])]
theorem E_tumbrellaw17_own (l_p0 : Value) (w : World) (R : Value → World → Prop) : M_tumbrellaw17_own l_p0 w R = den PR ann_tumbrellaw17_own (bodyOf Tryz.f13) (retQ PR Tryz.f13.results.toList R) (env0 [l_p0]) w := by kernel_rfl
theorem C_tumbrellaw17_own {l_p0 : Value} {w : World} {R : Value → World → Prop} (h : M_tumbrellaw17_own l_p0 w R) : CALL PR F_tumbrellaw17_own [l_p0] w R :=
  call_of_den2 ann_tumbrellaw17_own Tryz.func13 (by kernel_rfl) (by kernel_rfl) (by kernel_rfl) ((E_tumbrellaw17_own l_p0 w R) ▸ h)


-- 14 tumbrel.events.Sync
def M_events_Sync (d_p0 gen_p1 : Value) (w : World) (R : Value → World → Prop) : Prop :=
  CALL PR F_name_Of [(Value.int .u8 101), gen_p1] w fun t9_1 w1 =>
  BND (extractv t9_1 0) fun t10_2 =>
  BND (extractv t9_1 1) fun t11_3 =>
  BND (binv .int .neq t11_3 (Value.int .i64 0)) fun t13_4 =>
  COND t13_4
  (R t11_3 w1)
  (CALL PR F_disk_Disk_Sync [d_p0, t10_2] w1 fun t17_5 w2 =>
  R t17_5 w2)
def ann_events_Sync : List (Nat × List Nat) := []
theorem E_events_Sync (d_p0 gen_p1 : Value) (w : World) (R : Value → World → Prop) : M_events_Sync d_p0 gen_p1 w R = den PR ann_events_Sync (bodyOf Tryz.f14) (retQ PR Tryz.f14.results.toList R) (env0 [d_p0, gen_p1]) w := by kernel_rfl
theorem C_events_Sync {d_p0 gen_p1 : Value} {w : World} {R : Value → World → Prop} (h : M_events_Sync d_p0 gen_p1 w R) : CALL PR F_events_Sync [d_p0, gen_p1] w R :=
  call_of_den2 ann_events_Sync Tryz.func14 (by kernel_rfl) (by kernel_rfl) (by kernel_rfl) ((E_events_Sync d_p0 gen_p1 w R) ▸ h)


-- 16 tumbrel.events.Load
def M_events_Load (d_p0 gen_p1 : Value) (w : World) (R : Value → World → Prop) : Prop :=
  CALL PR F_name_Of [(Value.int .u8 101), gen_p1] w fun t16_1 w1 =>
  BND (extractv t16_1 0) fun t17_2 =>
  BND (extractv t16_1 1) fun t18_3 =>
  BND (binv .int .neq t18_3 (Value.int .i64 0)) fun t20_4 =>
  COND t20_4
  (R (.tuple #[(Value.slice none 0 0), (Value.slice none 0 0), t18_3]) w1)
  (CALL PR F_disk_Disk_Read [d_p0, t17_2] w1 fun t25_5 w2 =>
  BND (extractv t25_5 0) fun t26_6 =>
  BND (extractv t25_5 1) fun t27_7 =>
  BND (binv .int .neq t27_7 (Value.int .i64 0)) fun t29_8 =>
  COND t29_8
  (R (.tuple #[(Value.slice none 0 0), (Value.slice none 0 0), t27_7]) w2)
  (CALL PR F_record_All [t26_6] w2 fun t33_9 w3 =>
  BND (extractv t33_9 0) fun t34_10 =>
  BND (extractv t33_9 1) fun t35_11 =>
  BND (extractv t33_9 2) fun t36_12 =>
  CALL PR F_events_turned_Op [t34_10, (Value.func (.func F_op_Of) #[] #[])] w3 fun t39_13 w4 =>
  BND (extractv t39_13 0) fun t40_14 =>
  BND (extractv t39_13 1) fun t41_15 =>
  BND (binv .int .neq t41_15 (Value.int .i64 0)) fun t44_16 =>
  COND t44_16
  (R (.tuple #[(Value.slice none 0 0), (Value.slice none 0 0), t41_15]) w4)
  (BND (binv .int .neq t36_12 (Value.int .i64 0)) fun t48_17 =>
  BND (grd (isB t48_17 true) (some t36_12)) fun t50_18 =>
  BND (grd (isB t48_17 true) (binv .int .neq t50_18 (Value.int .i64 3))) fun t51_19 =>
  BND (pickv t48_17 t51_19 (Value.bool false)) fun t52_20 =>
  COND t52_20
  (R (.tuple #[(Value.slice none 0 0), (Value.slice none 0 0), t36_12]) w4)
  (R (.tuple #[t40_14, t35_11, (Value.int .i64 0)]) w4))))
def ann_events_Load : List (Nat × List Nat) := []
theorem E_events_Load (d_p0 gen_p1 : Value) (w : World) (R : Value → World → Prop) : M_events_Load d_p0 gen_p1 w R = den PR ann_events_Load (bodyOf Tryz.f16) (retQ PR Tryz.f16.results.toList R) (env0 [d_p0, gen_p1]) w := by kernel_rfl
theorem C_events_Load {d_p0 gen_p1 : Value} {w : World} {R : Value → World → Prop} (h : M_events_Load d_p0 gen_p1 w R) : CALL PR F_events_Load [d_p0, gen_p1] w R :=
  call_of_den2 ann_events_Load Tryz.func16 (by kernel_rfl) (by kernel_rfl) (by kernel_rfl) ((E_events_Load d_p0 gen_p1 w R) ▸ h)


-- 18 tumbrel.tumbrellaw17.same
def M_tumbrellaw17_same (a_p0 b_p1 : Value) (w : World) (R : Value → World → Prop) : Prop :=
  BND (lenl a_p0) fun t7_1 =>
  BND (lenl b_p1) fun t9_2 =>
  BND (binv .int .neq t7_1 t9_2) fun t10_3 =>
  COND t10_3
  (R (Value.bool false) w)
  (BND (lenl a_p0) fun t12_4 =>
  ∃ (J_5 : Value → World → Prop) (m_5 : Value → World → Nat), J_5 (Value.int .i64 0) w ∧ ∀ (_d_5 : Env) (t13_8 : Value) (w1 : World), J_5 t13_8 w1 →
  (BND (binv .int .lss t13_8 t12_4) fun t14_21 =>
  COND t14_21
  (BND (iaddr 8 a_p0 t13_8) fun t18_22 =>
  BND (iaddr 8 b_p1 t13_8) fun t22_23 =>
  BND (loadn 8 w1.drew t18_22) fun t19_24 =>
  BND (loadn 8 w1.drew t22_23) fun t23_25 =>
  BND (eqaggv [(0, (.int .i64)), (1, (.int .i64)), (2, (.int .u64)), (3, (.int .u64)), (4, .string), (5, (.int .u64)), (6, (.int .u64)), (7, (.int .i64))] .neq t19_24 t23_25) fun t24_26 =>
  COND t24_26
  (R (Value.bool false) w1.drew)
  (BND (binv .int .add t13_8 (Value.int .i64 1)) fun t25_27 =>
  (J_5 t25_27 w1.drew ∧ m_5 t25_27 w1.drew < m_5 t13_8 w1)))
  (R (Value.bool true) w1)))
def ann_tumbrellaw17_same : List (Nat × List Nat) := [(6, [0, 1, 2, 4, 5, 6, 3, 7, 8]), (1000004, [13])]
theorem E_tumbrellaw17_same (a_p0 b_p1 : Value) (w : World) (R : Value → World → Prop) : M_tumbrellaw17_same a_p0 b_p1 w R = den PR ann_tumbrellaw17_same (bodyOf Tryz.f18) (retQ PR Tryz.f18.results.toList R) (env0 [a_p0, b_p1]) w := by kernel_rfl
theorem C_tumbrellaw17_same {a_p0 b_p1 : Value} {w : World} {R : Value → World → Prop} (h : M_tumbrellaw17_same a_p0 b_p1 w R) : CALL PR F_tumbrellaw17_same [a_p0, b_p1] w R :=
  call_of_den2 ann_tumbrellaw17_same Tryz.func18 (by kernel_rfl) (by kernel_rfl) (by kernel_rfl) ((E_tumbrellaw17_same a_p0 b_p1 w R) ▸ h)


-- 19 tumbrel.tumbrelref05.Ints
def M_tumbrelref05_Ints (a_p0 b_p1 : Value) (w : World) (R : Value → World → Prop) : Prop :=
  BND (lenl a_p0) fun t7_1 =>
  BND (lenl b_p1) fun t9_2 =>
  BND (binv .int .neq t7_1 t9_2) fun t10_3 =>
  COND t10_3
  (R (Value.bool false) w)
  (∃ (J_4 : Value → World → Prop) (m_4 : Value → World → Nat), J_4 (Value.int .i64 0) w ∧ ∀ (_d_4 : Env) (i_6 : Value) (w1 : World), J_4 i_6 w1 →
  (BND (lenl a_p0) fun t13_22 =>
  BND (binv .int .lss i_6 t13_22) fun t14_23 =>
  COND t14_23
  (BND (iaddr 1 a_p0 i_6) fun t19_24 =>
  BND (iaddr 1 b_p1 i_6) fun t23_25 =>
  BND (load1 w1.drew t19_24) fun t20_26 =>
  BND (load1 w1.drew t23_25) fun t24_27 =>
  BND (binv .int .neq t20_26 t24_27) fun t25_28 =>
  COND t25_28
  (R (Value.bool false) w1.drew)
  (BND (binv .int .add i_6 (Value.int .i64 1)) fun t16_29 =>
  (J_4 t16_29 w1.drew ∧ m_4 t16_29 w1.drew < m_4 i_6 w1)))
  (R (Value.bool true) w1)))
def ann_tumbrelref05_Ints : List (Nat × List Nat) := [(6, [0, 1, 2, 4, 5, 6, 3, 7, 8]), (1000004, [5])]
theorem E_tumbrelref05_Ints (a_p0 b_p1 : Value) (w : World) (R : Value → World → Prop) : M_tumbrelref05_Ints a_p0 b_p1 w R = den PR ann_tumbrelref05_Ints (bodyOf Tryz.f19) (retQ PR Tryz.f19.results.toList R) (env0 [a_p0, b_p1]) w := by kernel_rfl
theorem C_tumbrelref05_Ints {a_p0 b_p1 : Value} {w : World} {R : Value → World → Prop} (h : M_tumbrelref05_Ints a_p0 b_p1 w R) : CALL PR F_tumbrelref05_Ints [a_p0, b_p1] w R :=
  call_of_den2 ann_tumbrelref05_Ints Tryz.func19 (by kernel_rfl) (by kernel_rfl) (by kernel_rfl) ((E_tumbrelref05_Ints a_p0 b_p1 w R) ▸ h)


-- 20 tumbrel.events.Cut
def M_events_Cut (d_p0 gen_p1 end_p2 : Value) (w : World) (R : Value → World → Prop) : Prop :=
  CALL PR F_name_Of [(Value.int .u8 101), gen_p1] w fun t12_1 w1 =>
  BND (extractv t12_1 0) fun t13_2 =>
  BND (extractv t12_1 1) fun t14_3 =>
  BND (binv .int .neq t14_3 (Value.int .i64 0)) fun t16_4 =>
  COND t16_4
  (R t14_3 w1)
  (CALL PR F_disk_Disk_Read [d_p0, t13_2] w1 fun t21_5 w2 =>
  BND (extractv t21_5 0) fun t22_6 =>
  BND (extractv t21_5 1) fun t23_7 =>
  BND (binv .int .neq t23_7 (Value.int .i64 0)) fun t25_8 =>
  COND t25_8
  (R t23_7 w2)
  (BND (lenl t22_6) fun t28_9 =>
  BND (binv .int .leq t28_9 end_p2) fun t30_10 =>
  COND t30_10
  (R (Value.int .i64 0) w2)
  (CALL PR F_disk_Disk_Cut [d_p0, t13_2, end_p2] w2 fun t34_11 w3 =>
  R t34_11 w3)))
def ann_events_Cut : List (Nat × List Nat) := []
theorem E_events_Cut (d_p0 gen_p1 end_p2 : Value) (w : World) (R : Value → World → Prop) : M_events_Cut d_p0 gen_p1 end_p2 w R = den PR ann_events_Cut (bodyOf Tryz.f20) (retQ PR Tryz.f20.results.toList R) (env0 [d_p0, gen_p1, end_p2]) w := by kernel_rfl
theorem C_events_Cut {d_p0 gen_p1 end_p2 : Value} {w : World} {R : Value → World → Prop} (h : M_events_Cut d_p0 gen_p1 end_p2 w R) : CALL PR F_events_Cut [d_p0, gen_p1, end_p2] w R :=
  call_of_den2 ann_events_Cut Tryz.func20 (by kernel_rfl) (by kernel_rfl) (by kernel_rfl) ((E_events_Cut d_p0 gen_p1 end_p2 w R) ▸ h)


-- 24 (*tumbrel.disk.Disk).Crash
def M_disk_Disk_Crash (d_p0 open_p1 tails_p2 : Value) (w : World) (R : Value → World → Prop) : Prop :=
  BND (nilchk d_p0) fun t12_1 =>
  BND (faddr 2 t12_1) fun t13_2 =>
  BND (load1 w t13_2) fun t14_3 =>
  BND (lenl t14_3) fun t15_4 =>
  BND (min2v open_p1 t15_4) fun t16_5 =>
  BND (binv .int .gtr t16_5 (Value.int .i64 0)) fun t18_6 =>
  JOIN (α := World → Prop) (fun k_145 => COND t18_6
  (BND (nilchk d_p0) fun t21_146 =>
  BND (faddr 2 t21_146) fun t22_147 =>
  BND (load1 w t22_147) fun t23_148 =>
  BND (binv .int .sub t16_5 (Value.int .i64 1)) fun t25_149 =>
  BND (iaddr 1 t23_148 t25_149) fun t26_150 =>
  BND (load1 w t26_150) fun t27_151 =>
  BND (nilchk d_p0) fun t28_152 =>
  BND (faddr 1 t28_152) fun t29_153 =>
  BND (storev 1 w t29_153 t27_151) fun w11 =>
  k_145 w11)
  (k_145 w))
  (fun w1 => BND (nilchk d_p0) fun t33_18 =>
  BND (faddr 2 t33_18) fun t34_19 =>
  BND (storev 1 w1 t34_19 (Value.slice none 0 0)) fun w2 =>
  BND (nilchk d_p0) fun t35_20 =>
  BND (faddr 3 t35_20) fun t36_21 =>
  BND (storev 1 w2 t36_21 (Value.int .i64 (-1))) fun w3 =>
  BND (nilchk d_p0) fun t37_22 =>
  BND (faddr 4 t37_22) fun t38_23 =>
  BND (storev 1 w3 t38_23 (Value.bool false)) fun w4 =>
  BND (nilchk d_p0) fun t40_24 =>
  BND (faddr 1 t40_24) fun t41_25 =>
  BND (load1 w4 t41_25) fun t42_26 =>
  CALL PR F_maps_Keys_file [t42_26] w4 fun t43_27 w5 =>
  CALL PR F_slices_Sorted_string [t43_27] w5 fun t44_28 w6 =>
  BND (lenl t44_28) fun t45_29 =>
  ∃ (J_30 : Value → World → Prop) (m_30 : Value → World → Nat), J_30 (Value.int .i64 0) w6 ∧ ∀ (_d_30 : Env) (t46_35 : Value) (w7 : World), J_30 t46_35 w7 →
  (BND (binv .int .lss t46_35 t45_29) fun t47_89 =>
  COND t47_89
  (BND (iaddr 1 t44_28 t46_35) fun t49_90 =>
  BND (load1 w7 t49_90) fun t50_91 =>
  BND (nilchk d_p0) fun t52_92 =>
  BND (faddr 1 t52_92) fun t53_93 =>
  BND (load1 w7 t53_93) fun t54_94 =>
  BND (lookv .string (Value.pointer none) false w7 t54_94 t50_91) fun t56_95 =>
  BND (lenl tails_p2) fun t59_96 =>
  BND (binv .int .lss t46_35 t59_96) fun t60_97 =>
  JOIN (α := Value → World → Prop) (fun k_132 => COND t60_97
  (BND (iaddr 1 tails_p2 t46_35) fun t63_133 =>
  BND (nilchk t56_95) fun t67_134 =>
  BND (faddr 0 t67_134) fun t68_135 =>
  BND (nilchk t56_95) fun t72_136 =>
  BND (faddr 1 t72_136) fun t73_137 =>
  BND (load1 w7.drew t63_133) fun t64_138 =>
  BND (max2v t64_138 (Value.int .i64 0)) fun t65_139 =>
  BND (load1 w7.drew t68_135) fun t69_140 =>
  BND (lenl t69_140) fun t70_141 =>
  BND (load1 w7.drew t73_137) fun t74_142 =>
  BND (binv .int .sub t70_141 t74_142) fun t75_143 =>
  BND (min2v t65_139 t75_143) fun t76_144 =>
  k_132 t76_144 w7.drew)
  (k_132 (Value.int .i64 0) w7))
  (fun tail_98 w8 => BND (nilchk t56_95) fun t79_115 =>
  BND (faddr 0 t79_115) fun t80_116 =>
  BND (nilchk t56_95) fun t83_117 =>
  BND (faddr 1 t83_117) fun t84_118 =>
  BND (load1 w8.drew t80_116) fun t81_119 =>
  BND (load1 w8.drew t84_118) fun t85_120 =>
  BND (binv .int .add t85_120 tail_98) fun t87_121 =>
  BND (slicev 1 t81_119 none (some t87_121)) fun t88_122 =>
  BND (nilchk t56_95) fun t89_123 =>
  BND (faddr 0 t89_123) fun t90_124 =>
  BND (storev 1 w8.drew t90_124 t88_122) fun w9 =>
  BND (nilchk t56_95) fun t93_125 =>
  BND (faddr 0 t93_125) fun t94_126 =>
  BND (load1 w9 t94_126) fun t95_127 =>
  BND (lenl t95_127) fun t96_128 =>
  BND (nilchk t56_95) fun t97_129 =>
  BND (faddr 1 t97_129) fun t98_130 =>
  BND (storev 1 w9 t98_130 t96_128) fun w10 =>
  BND (binv .int .add t46_35 (Value.int .i64 1)) fun t99_131 =>
  (J_30 t99_131 w10 ∧ m_30 t99_131 w10 < m_30 t46_35 w7)))
  (R (.tuple #[]) w7)))
def ann_disk_Disk_Crash : List (Nat × List Nat) := [(10, [0, 1, 2, 5, 6, 7, 10, 11, 12, 3, 4, 8, 9, 13, 14, 15, 16]), (11, [0, 1, 2, 3, 5, 6, 7, 9, 4, 8, 10, 11, 12, 13, 14]), (1000005, [46])]
theorem E_disk_Disk_Crash (d_p0 open_p1 tails_p2 : Value) (w : World) (R : Value → World → Prop) : M_disk_Disk_Crash d_p0 open_p1 tails_p2 w R = den PR ann_disk_Disk_Crash (bodyOf Tryz.f24) (retQ PR Tryz.f24.results.toList R) (env0 [d_p0, open_p1, tails_p2]) w := by kernel_rfl
theorem C_disk_Disk_Crash {d_p0 open_p1 tails_p2 : Value} {w : World} {R : Value → World → Prop} (h : M_disk_Disk_Crash d_p0 open_p1 tails_p2 w R) : CALL PR F_disk_Disk_Crash [d_p0, open_p1, tails_p2] w R :=
  call_of_den2 ann_disk_Disk_Crash Tryz.func24 (by kernel_rfl) (by kernel_rfl) (by kernel_rfl) ((E_disk_Disk_Crash d_p0 open_p1 tails_p2 w R) ▸ h)


-- 26 (*tumbrel.disk.Disk).Append
def M_disk_Disk_Append (d_p0 name_p1 b_p2 : Value) (w : World) (R : Value → World → Prop) : Prop :=
  CALL PR F_disk_Disk_there [d_p0, name_p1] w fun t11_1 w1 =>
  ∃ S_2 : Nat → World → Prop,
  S_2 11 w1.drew ∧
  BND (binv .int .eql t11_1 (Value.int .i64 0)) fun t13_3 =>
  BND (grd (isB t13_3 true) (some d_p0)) fun t15_4 =>
  BND (grd (isB t13_3 true) (some b_p2)) fun t17_5 =>
  BND (grd (isB t13_3 true) (lenl t17_5)) fun t18_6 =>
  BND (grd (isB t13_3 true) (some d_p0)) fun t20_7 =>
  BND (grd (isB t13_3 true) (nilchk t20_7)) fun t21_8 =>
  BND (grd (isB t13_3 true) (faddr 0 t21_8)) fun t22_9 =>
  FLT (S_2 11) (fun w_ => (grd (isB t13_3 true) (load1 w_ t22_9))) fun t23_10 =>
  GEF (isB t13_3 true) (fun k_ => CALL PR F_disk_Disk_Held [t15_4] w1.drew k_) w1.drew fun t16_11 w2 =>
  S_2 11 w2 ∧
  BND (grd (isB t13_3 true) (binv .int .add t16_11 t18_6)) fun t19_12 =>
  BND (grd (isB t13_3 true) (binv .int .gtr t19_12 t23_10)) fun t24_13 =>
  BND (pickv t13_3 t24_13 (Value.bool false)) fun t25_14 =>
  JOIN (α := Value → World → Prop) (fun k_41 => COND t25_14
  (k_41 (Value.int .i64 4) w2)
  (k_41 t11_1 w2))
  (fun e_15 w3 => CALL PR F_disk_Disk_can [d_p0, e_15] w3 fun t28_16 w4 =>
  BND (binv .int .eql t28_16 (Value.int .i64 0)) fun t30_17 =>
  JOIN (α := World → Prop) (fun k_32 => COND t30_17
  (CALL PR F_disk_Disk_now [d_p0] w4 fun t32_33 w6 =>
  BND (lookv .string (Value.pointer none) false w6 t32_33 name_p1) fun t34_34 =>
  BND (nilchk t34_34) fun t37_35 =>
  BND (faddr 0 t37_35) fun t38_36 =>
  BND (load1 w6 t38_36) fun t39_37 =>
  APPEND 5 1 1 (Value.int .u8 0) t39_37 b_p2 w6 fun t41_38 w7 =>
  BND (nilchk t34_34) fun t42_39 =>
  BND (faddr 0 t42_39) fun t43_40 =>
  BND (storev 1 w7 t43_40 t41_38) fun w8 =>
  k_32 w8)
  (k_32 w4))
  (fun w5 => R t28_16 w5))
def ann_disk_Disk_Append : List (Nat × List Nat) := [(2, [0, 1, 2, 3, 5, 6, 8, 9, 10, 11, 4, 7, 12, 13]), (2000002, [11]), (3002004, [11])]
theorem E_disk_Disk_Append (d_p0 name_p1 b_p2 : Value) (w : World) (R : Value → World → Prop) : M_disk_Disk_Append d_p0 name_p1 b_p2 w R = den PR ann_disk_Disk_Append (bodyOf Tryz.f26) (retQ PR Tryz.f26.results.toList R) (env0 [d_p0, name_p1, b_p2]) w := by kernel_rfl
theorem C_disk_Disk_Append {d_p0 name_p1 b_p2 : Value} {w : World} {R : Value → World → Prop} (h : M_disk_Disk_Append d_p0 name_p1 b_p2 w R) : CALL PR F_disk_Disk_Append [d_p0, name_p1, b_p2] w R :=
  call_of_den2 ann_disk_Disk_Append Tryz.func26 (by kernel_rfl) (by kernel_rfl) (by kernel_rfl) ((E_disk_Disk_Append d_p0 name_p1 b_p2 w R) ▸ h)


-- 29 (*tumbrel.disk.Disk).Names
def M_disk_Disk_Names (d_p0 : Value) (w : World) (R : Value → World → Prop) : Prop :=
  CALL PR F_disk_Disk_now [d_p0] w fun t4_1 w1 =>
  CALL PR F_maps_Keys_file [t4_1] w1 fun t5_2 w2 =>
  CALL PR F_slices_Sorted_string [t5_2] w2 fun t6_3 w3 =>
  R t6_3 w3
def ann_disk_Disk_Names : List (Nat × List Nat) := []
theorem E_disk_Disk_Names (d_p0 : Value) (w : World) (R : Value → World → Prop) : M_disk_Disk_Names d_p0 w R = den PR ann_disk_Disk_Names (bodyOf Tryz.f29) (retQ PR Tryz.f29.results.toList R) (env0 [d_p0]) w := by kernel_rfl
theorem C_disk_Disk_Names {d_p0 : Value} {w : World} {R : Value → World → Prop} (h : M_disk_Disk_Names d_p0 w R) : CALL PR F_disk_Disk_Names [d_p0] w R :=
  call_of_den2 ann_disk_Disk_Names Tryz.func29 (by kernel_rfl) (by kernel_rfl) (by kernel_rfl) ((E_disk_Disk_Names d_p0 w R) ▸ h)


-- 31 (*tumbrel.disk.Disk).Held
def M_disk_Disk_Held (d_p0 : Value) (w : World) (R : Value → World → Prop) : Prop :=
  ∃ S_1 : Nat → World → Prop,
  S_1 8 w.drew ∧
  BND (nilchk d_p0) fun t10_2 =>
  BND (faddr 1 t10_2) fun t11_3 =>
  BND (nilchk d_p0) fun t15_4 =>
  BND (faddr 2 t15_4) fun t16_5 =>
  FLT (S_1 8) (fun w_ => load1 w_ t16_5) fun t17_6 =>
  BND (load1 w.drew t11_3) fun t12_7 =>
  BND (newslice 73 #[(Value.map none)] 1 1 [(0, 1, t12_7)] w.drew) fun p_ => NEW p_ fun t13_8 w1 =>
  S_1 8 w1 ∧
  APPEND 73 1 8 (Value.map none) t13_8 t17_6 w1 fun t18_9 w2 =>
  BND (lenl t18_9) fun t19_10 =>
  ∃ (J_11 : Value → Value → Value → World → Prop) (m_11 : Value → Value → Value → World → Nat), J_11 (Value.slice none 0 0) (Value.int .i64 0) (Value.int .i64 0) w2 ∧ ∀ (_d_11 : Env) (seen_12 n_13 t20_16 : Value) (w3 : World), J_11 seen_12 n_13 t20_16 w3 →
  (BND (binv .int .lss t20_16 t19_10) fun t21_42 =>
  COND t21_42
  (BND (iaddr 1 t18_9 t20_16) fun t22_43 =>
  BND (load1 w3 t22_43) fun t23_44 =>
  BND (rangemv w3 t23_44) fun p_ => NEW p_ fun t25_45 w4 =>
  ∃ (J_46 : Value → Value → World → Prop) (m_46 : Value → Value → World → Nat), J_46 seen_12 n_13 w4 ∧ ∀ (_d_46 : Env) (seen_47 n_48 : Value) (w5 : World), J_46 seen_47 n_48 w5 →
  (NEXTM t25_45 w5 fun t26_69 w6 =>
  BND (extractv t26_69 0) fun t27_70 =>
  COND t27_70
  (BND (entryv w6 t25_45) fun t28_71 =>
  BND (extractv t28_71 1) fun t29_72 =>
  CALL PR F_slices_Contains_disk_file_disk_file [seen_47, t29_72] w6 fun t32_73 w7 =>
  BND (unv .not t32_73) fun t33_74 =>
  JOIN (α := Value → Value → World → Prop) (fun k_88 => COND t33_74
  (BND (newslice 113 #[(Value.pointer none)] 1 1 [(0, 1, t29_72)] w7) fun p_ => NEW p_ fun t36_89 w9 =>
  APPEND 113 1 8 (Value.pointer none) seen_47 t36_89 w9 fun t37_90 w10 =>
  BND (nilchk t29_72) fun t40_91 =>
  BND (faddr 0 t40_91) fun t41_92 =>
  BND (load1 w10 t41_92) fun t42_93 =>
  BND (lenl t42_93) fun t43_94 =>
  BND (binv .int .add n_48 t43_94) fun t44_95 =>
  k_88 t37_90 t44_95 w10)
  (k_88 seen_47 n_48 w7))
  (fun seen_75 n_76 w8 => (J_46 seen_75 n_76 w8 ∧ m_46 seen_75 n_76 w8 < m_46 seen_47 n_48 w5)))
  (BND (binv .int .add t20_16 (Value.int .i64 1)) fun t45_96 =>
  (J_11 seen_47 n_48 t45_96 w6 ∧ m_11 seen_47 n_48 t45_96 w6 < m_11 seen_12 n_13 t20_16 w3))))
  (R n_13 w3))
def ann_disk_Disk_Held : List (Nat × List Nat) := [(3, [0, 1, 2, 5, 6, 7, 8, 11, 3, 4, 9, 10]), (1000004, [3, 4, 20]), (1000007, [3, 4]), (2000003, [8]), (3003004, [8])]
theorem E_disk_Disk_Held (d_p0 : Value) (w : World) (R : Value → World → Prop) : M_disk_Disk_Held d_p0 w R = den PR ann_disk_Disk_Held (bodyOf Tryz.f31) (retQ PR Tryz.f31.results.toList R) (env0 [d_p0]) w := by kernel_rfl
theorem C_disk_Disk_Held {d_p0 : Value} {w : World} {R : Value → World → Prop} (h : M_disk_Disk_Held d_p0 w R) : CALL PR F_disk_Disk_Held [d_p0] w R :=
  call_of_den2 ann_disk_Disk_Held Tryz.func31 (by kernel_rfl) (by kernel_rfl) (by kernel_rfl) ((E_disk_Disk_Held d_p0 w R) ▸ h)


-- 34 tumbrel.tumbrelref12.Large
def M_tumbrelref12_Large (l_p0 most_p1 : Value) (w : World) (R : Value → World → Prop) : Prop :=
  BND (lenl l_p0) fun t7_1 =>
  BND (binv .int .gtr t7_1 most_p1) fun t9_2 =>
  COND t9_2
  (R (Value.bool true) w)
  (∃ (J_3 : Value → World → Prop) (m_3 : Value → World → Nat), J_3 (Value.int .i64 0) w ∧ ∀ (_d_3 : Env) (i_5 : Value) (w1 : World), J_3 i_5 w1 →
  (BND (lenl l_p0) fun t12_19 =>
  BND (binv .int .lss i_5 t12_19) fun t13_20 =>
  COND t13_20
  (BND (iaddr 8 l_p0 i_5) fun t18_21 =>
  BND (faddr 4 t18_21) fun t19_22 =>
  BND (load1 w1 t19_22) fun t20_23 =>
  BND (lens t20_23) fun t21_24 =>
  BND (binv .int .gtr t21_24 (Value.int .i64 300)) fun t22_25 =>
  COND t22_25
  (R (Value.bool true) w1)
  (BND (binv .int .add i_5 (Value.int .i64 1)) fun t15_26 =>
  (J_3 t15_26 w1 ∧ m_3 t15_26 w1 < m_3 i_5 w1)))
  (R (Value.bool false) w1)))
def ann_tumbrelref12_Large : List (Nat × List Nat) := [(1000004, [5])]
theorem E_tumbrelref12_Large (l_p0 most_p1 : Value) (w : World) (R : Value → World → Prop) : M_tumbrelref12_Large l_p0 most_p1 w R = den PR ann_tumbrelref12_Large (bodyOf Tryz.f34) (retQ PR Tryz.f34.results.toList R) (env0 [l_p0, most_p1]) w := by kernel_rfl
theorem C_tumbrelref12_Large {l_p0 most_p1 : Value} {w : World} {R : Value → World → Prop} (h : M_tumbrelref12_Large l_p0 most_p1 w R) : CALL PR F_tumbrelref12_Large [l_p0, most_p1] w R :=
  call_of_den2 ann_tumbrelref12_Large Tryz.func34 (by kernel_rfl) (by kernel_rfl) (by kernel_rfl) ((E_tumbrelref12_Large l_p0 most_p1 w R) ▸ h)


-- 35 tumbrel.op.Right
def M_op_Right (o_p0 : Value) (w : World) (R : Value → World → Prop) : Prop :=
  NEW (newv 68 w o_p0) fun o_1 w1 =>
  ∃ S_2 : Nat → World → Prop,
  S_2 9 w1.drew ∧
  BND (faddr 0 o_1) fun t3_3 =>
  BND (load1 w1.drew t3_3) fun t4_4 =>
  BND (binv .int .lss t4_4 (Value.int .i64 1)) fun t5_5 =>
  BND (grd (isB t5_5 false) (faddr 0 o_1)) fun t7_6 =>
  BND (grd (isB t5_5 false) (load1 w1.drew t7_6)) fun t8_7 =>
  BND (grd (isB t5_5 false) (binv .int .gtr t8_7 (Value.int .i64 10))) fun t9_8 =>
  BND (pickv t5_5 (Value.bool true) t9_8) fun t10_9 =>
  FLT (S_2 9) (fun w_ => (grd (isB t10_9 false) (loadn 8 w_ o_1))) fun t12_10 =>
  BND (grd (isB t10_9 false) (loadn 8 w1.drew o_1)) fun t13_11 =>
  GEF (isB t10_9 false) (fun k_ => CALL PR F_op_Op_kept [t13_11] w1.drew k_) w1.drew fun t14_12 w2 =>
  S_2 9 w2 ∧
  BND (grd (isB t10_9 false) (eqaggv [(0, (.int .i64)), (1, (.int .i64)), (2, (.int .u64)), (3, (.int .u64)), (4, .string), (5, (.int .u64)), (6, (.int .u64)), (7, (.int .i64))] .neq t12_10 t14_12)) fun t15_13 =>
  BND (pickv t10_9 (Value.bool true) t15_13) fun t16_14 =>
  BND (grd (isB t16_14 false) (faddr 4 o_1)) fun t18_15 =>
  BND (grd (isB t16_14 false) (load1 w2 t18_15)) fun t19_16 =>
  BND (grd (isB t16_14 false) (lens t19_16)) fun t20_17 =>
  BND (grd (isB t16_14 false) (binv .int .gtr t20_17 (Value.int .i64 64))) fun t21_18 =>
  BND (pickv t16_14 (Value.bool true) t21_18) fun t22_19 =>
  COND t22_19
  (R (Value.bool false) w2)
  (BND (faddr 0 o_1) fun t23_20 =>
  BND (load1 w2 t23_20) fun t24_21 =>
  BND (binv .int .eql t24_21 (Value.int .i64 2)) fun t26_22 =>
  COND t26_22
  (BND (faddr 1 o_1) fun t27_23 =>
  BND (load1 w2 t27_23) fun t28_24 =>
  CALL PR F_op_lane [t28_24, (Value.int .i64 0)] w2 fun t29_25 w3 =>
  BND (grd (isB t29_25 true) (faddr 5 o_1)) fun t31_26 =>
  BND (grd (isB t29_25 true) (faddr 2 t31_26)) fun t32_27 =>
  BND (grd (isB t29_25 true) (load1 w3 t32_27)) fun t33_28 =>
  BND (grd (isB t29_25 true) (binv .int .geq t33_28 (Value.int .i64 0))) fun t34_29 =>
  BND (pickv t29_25 t34_29 (Value.bool false)) fun t35_30 =>
  BND (grd (isB t35_30 true) (faddr 5 o_1)) fun t37_31 =>
  BND (grd (isB t35_30 true) (faddr 2 t37_31)) fun t38_32 =>
  BND (grd (isB t35_30 true) (load1 w3 t38_32)) fun t39_33 =>
  BND (grd (isB t35_30 true) (binv .int .leq t39_33 (Value.int .i64 64))) fun t40_34 =>
  BND (pickv t35_30 t40_34 (Value.bool false)) fun t41_35 =>
  R t41_35 w3)
  (BND (binv .int .eql t24_21 (Value.int .i64 3)) fun t43_36 =>
  COND t43_36
  (BND (faddr 1 o_1) fun t44_37 =>
  BND (load1 w2 t44_37) fun t45_38 =>
  CALL PR F_op_lane [t45_38, (Value.int .i64 (-1))] w2 fun t46_39 w4 =>
  R t46_39 w4)
  (R (Value.bool true) w2)))
def ann_op_Right : List (Nat × List Nat) := [(1, [0, 1, 2, 3, 4, 5, 6, 7, 8, 9, 10, 11, 12, 13, 14, 15, 16, 17, 18, 19]), (2000001, [9]), (3001011, [9])]
theorem E_op_Right (o_p0 : Value) (w : World) (R : Value → World → Prop) : M_op_Right o_p0 w R = den PR ann_op_Right (bodyOf Tryz.f35) (retQ PR Tryz.f35.results.toList R) (env0 [o_p0]) w := by kernel_rfl
theorem C_op_Right {o_p0 : Value} {w : World} {R : Value → World → Prop} (h : M_op_Right o_p0 w R) : CALL PR F_op_Right [o_p0] w R :=
  call_of_den2 ann_op_Right Tryz.func35 (by kernel_rfl) (by kernel_rfl) (by kernel_rfl) ((E_op_Right o_p0 w R) ▸ h)


-- 36 (*tumbrel.disk.Disk).DirSync
def M_disk_Disk_DirSync (d_p0 : Value) (w : World) (R : Value → World → Prop) : Prop :=
  CALL PR F_disk_Disk_can [d_p0, (Value.int .i64 0)] w fun t5_1 w1 =>
  BND (binv .int .eql t5_1 (Value.int .i64 0)) fun t7_2 =>
  JOIN (α := World → Prop) (fun k_11 => COND t7_2
  (CALL PR F_disk_Disk_now [d_p0] w1 fun t11_12 w3 =>
  BND (nilchk d_p0) fun t12_13 =>
  BND (faddr 1 t12_13) fun t13_14 =>
  BND (storev 1 w3 t13_14 t11_12) fun w4 =>
  BND (nilchk d_p0) fun t14_15 =>
  BND (faddr 2 t14_15) fun t15_16 =>
  BND (storev 1 w4 t15_16 (Value.slice none 0 0)) fun w5 =>
  k_11 w5)
  (k_11 w1))
  (fun w2 => R t5_1 w2)
def ann_disk_Disk_DirSync : List (Nat × List Nat) := []
theorem E_disk_Disk_DirSync (d_p0 : Value) (w : World) (R : Value → World → Prop) : M_disk_Disk_DirSync d_p0 w R = den PR ann_disk_Disk_DirSync (bodyOf Tryz.f36) (retQ PR Tryz.f36.results.toList R) (env0 [d_p0]) w := by kernel_rfl
theorem C_disk_Disk_DirSync {d_p0 : Value} {w : World} {R : Value → World → Prop} (h : M_disk_Disk_DirSync d_p0 w R) : CALL PR F_disk_Disk_DirSync [d_p0] w R :=
  call_of_den2 ann_disk_Disk_DirSync Tryz.func36 (by kernel_rfl) (by kernel_rfl) (by kernel_rfl) ((E_disk_Disk_DirSync d_p0 w R) ▸ h)


-- 37 tumbrel.name.Of
def M_name_Of (kind_p0 n_p1 : Value) (w : World) (R : Value → World → Prop) : Prop :=
  CALL PR F_strings_IndexByte [(Value.string { data := #[109, 101, 115] }), kind_p0] w fun t7_1 w1 =>
  BND (binv .int .lss t7_1 (Value.int .i64 0)) fun t8_2 =>
  BND (grd (isB t8_2 false) (some n_p1)) fun t10_3 =>
  BND (grd (isB t8_2 false) (binv .int .geq t10_3 (Value.int .u64 10000000000))) fun t11_4 =>
  BND (pickv t8_2 (Value.bool true) t11_4) fun t12_5 =>
  COND t12_5
  (R (.tuple #[(Value.string { data := #[] }), (Value.int .i64 1)]) w1)
  (BND (convi .i32 kind_p0) fun t14_6 =>
  BND (runev t14_6) fun t15_7 =>
  BND (binv .str .add t15_7 (Value.string { data := #[46] })) fun t16_8 =>
  CALL PR F_strconv_FormatUint [n_p1, (Value.int .i64 10)] w1 fun t18_9 w2 =>
  BND (binv .str .add t16_8 t18_9) fun t19_10 =>
  R (.tuple #[t19_10, (Value.int .i64 0)]) w2)
def ann_name_Of : List (Nat × List Nat) := []
theorem E_name_Of (kind_p0 n_p1 : Value) (w : World) (R : Value → World → Prop) : M_name_Of kind_p0 n_p1 w R = den PR ann_name_Of (bodyOf Tryz.f37) (retQ PR Tryz.f37.results.toList R) (env0 [kind_p0, n_p1]) w := by kernel_rfl
theorem C_name_Of {kind_p0 n_p1 : Value} {w : World} {R : Value → World → Prop} (h : M_name_Of kind_p0 n_p1 w R) : CALL PR F_name_Of [kind_p0, n_p1] w R :=
  call_of_den2 ann_name_Of Tryz.func37 (by kernel_rfl) (by kernel_rfl) (by kernel_rfl) ((E_name_Of kind_p0 n_p1 w R) ▸ h)


-- 38 (*tumbrel.disk.Disk).Create
def M_disk_Disk_Create (d_p0 name_p1 : Value) (w : World) (R : Value → World → Prop) : Prop :=
  CALL PR F_disk_Disk_now [d_p0] w fun t8_1 w1 =>
  CALL PR F_disk_named [name_p1] w1 fun t11_2 w2 =>
  BND (unv .not t11_2) fun t12_3 =>
  JOIN (α := Value → World → Prop) (fun k_25 => COND t12_3
  (k_25 (Value.int .i64 1) w2)
  (BND (lookv .string (Value.pointer none) false w2 t8_1 name_p1) fun t16_26 =>
  BND (binv .ptr .neq t16_26 (Value.pointer none)) fun t17_27 =>
  JOIN (α := Value → World → Prop) (fun k_33 => COND t17_27
  (k_33 (Value.int .i64 6) w2)
  (BND (mlenv w2 t8_1) fun t20_34 =>
  BND (binv .int .geq t20_34 (Value.int .i64 60)) fun t21_35 =>
  JOIN (α := Value → World → Prop) (fun k_37 => COND t21_35
  (k_37 (Value.int .i64 4) w2)
  (k_37 (Value.int .i64 0) w2))
  (fun e_36 w10 => k_33 e_36 w10)))
  (fun e_28 w9 => k_25 e_28 w9)))
  (fun e_4 w3 => CALL PR F_disk_Disk_can [d_p0, e_4] w3 fun t24_14 w4 =>
  BND (binv .int .eql t24_14 (Value.int .i64 0)) fun t26_15 =>
  JOIN (α := World → Prop) (fun k_21 => COND t26_15
  (CALL PR F_disk_Disk_change [d_p0] w4 fun t28_22 w6 =>
  BND (buildv #[(Value.slice none 0 0), (Value.int .i64 0)] []) fun t30_23 =>
  NEW (newv 115 w6 t30_23) fun t31_24 w7 =>
  BND (mupd .string w7 t28_22 name_p1 t31_24) fun w8 =>
  k_21 w8)
  (k_21 w4))
  (fun w5 => R t24_14 w5))
def ann_disk_Disk_Create : List (Nat × List Nat) := []
theorem E_disk_Disk_Create (d_p0 name_p1 : Value) (w : World) (R : Value → World → Prop) : M_disk_Disk_Create d_p0 name_p1 w R = den PR ann_disk_Disk_Create (bodyOf Tryz.f38) (retQ PR Tryz.f38.results.toList R) (env0 [d_p0, name_p1]) w := by kernel_rfl
theorem C_disk_Disk_Create {d_p0 name_p1 : Value} {w : World} {R : Value → World → Prop} (h : M_disk_Disk_Create d_p0 name_p1 w R) : CALL PR F_disk_Disk_Create [d_p0, name_p1] w R :=
  call_of_den2 ann_disk_Disk_Create Tryz.func38 (by kernel_rfl) (by kernel_rfl) (by kernel_rfl) ((E_disk_Disk_Create d_p0 name_p1 w R) ▸ h)


-- 39 (*tumbrel.disk.Disk).Sync
def M_disk_Disk_Sync (d_p0 name_p1 : Value) (w : World) (R : Value → World → Prop) : Prop :=
  CALL PR F_disk_Disk_there [d_p0, name_p1] w fun t10_1 w1 =>
  CALL PR F_disk_Disk_can [d_p0, t10_1] w1 fun t11_2 w2 =>
  BND (binv .int .eql t11_2 (Value.int .i64 0)) fun t13_3 =>
  JOIN (α := World → Prop) (fun k_17 => COND t13_3
  (CALL PR F_disk_Disk_now [d_p0] w2 fun t15_18 w4 =>
  BND (lookv .string (Value.pointer none) false w4 t15_18 name_p1) fun t17_19 =>
  BND (nilchk t17_19) fun t20_20 =>
  BND (faddr 0 t20_20) fun t21_21 =>
  BND (load1 w4 t21_21) fun t22_22 =>
  BND (lenl t22_22) fun t23_23 =>
  BND (nilchk t17_19) fun t24_24 =>
  BND (faddr 1 t24_24) fun t25_25 =>
  BND (storev 1 w4 t25_25 t23_23) fun w5 =>
  k_17 w5)
  (k_17 w2))
  (fun w3 => R t11_2 w3)
def ann_disk_Disk_Sync : List (Nat × List Nat) := []
theorem E_disk_Disk_Sync (d_p0 name_p1 : Value) (w : World) (R : Value → World → Prop) : M_disk_Disk_Sync d_p0 name_p1 w R = den PR ann_disk_Disk_Sync (bodyOf Tryz.f39) (retQ PR Tryz.f39.results.toList R) (env0 [d_p0, name_p1]) w := by kernel_rfl
theorem C_disk_Disk_Sync {d_p0 name_p1 : Value} {w : World} {R : Value → World → Prop} (h : M_disk_Disk_Sync d_p0 name_p1 w R) : CALL PR F_disk_Disk_Sync [d_p0, name_p1] w R :=
  call_of_den2 ann_disk_Disk_Sync Tryz.func39 (by kernel_rfl) (by kernel_rfl) (by kernel_rfl) ((E_disk_Disk_Sync d_p0 name_p1 w R) ▸ h)


-- 43 tumbrel.events.turned[tumbrel.op.Op,tumbrel.record.Record]
def M_events_turned_Record (l_p0 turn_p1 : Value) (w : World) (R : Value → World → Prop) : Prop :=
  BND (lenl l_p0) fun t12_1 =>
  ∃ (J_2 : Value → Value → World → Prop) (m_2 : Value → Value → World → Nat), J_2 (Value.slice none 0 0) (Value.int .i64 0) w ∧ ∀ (_d_2 : Env) (out_5 t13_9 : Value) (w1 : World), J_2 out_5 t13_9 w1 →
  (BND (binv .int .lss t13_9 t12_1) fun t14_27 =>
  COND t14_27
  (BND (iaddr 8 l_p0 t13_9) fun t15_28 =>
  BND (loadn 8 w1 t15_28) fun t16_29 =>
  NEW (newv 68 w1 (Value.agg #[(Value.int .i64 0), (Value.int .i64 0), (Value.int .u64 0), (Value.int .u64 0), (Value.string ByteArray.empty), (Value.int .u64 0), (Value.int .u64 0), (Value.int .i64 0)])) fun x_30 w2 =>
  BND (storev 8 w2 x_30 t16_29) fun w3 =>
  BND (loadn 8 w3 x_30) fun t19_31 =>
  CALLV PR turn_p1 [t19_31] w3 fun t20_32 w4 =>
  BND (extractv t20_32 0) fun t21_33 =>
  BND (extractv t20_32 1) fun t22_34 =>
  NEW (newv 86 w4 (Value.agg #[(Value.int .i64 0), (Value.slice none 0 0), (Value.string ByteArray.empty)])) fun y_35 w5 =>
  BND (storev 3 w5 y_35 t21_33) fun w6 =>
  BND (binv .int .neq t22_34 (Value.int .i64 0)) fun t24_36 =>
  COND t24_36
  (R (.tuple #[(Value.slice none 0 0), t22_34]) w6)
  (BND (loadn 3 w6 y_35) fun t27_37 =>
  BND (newslice 86 #[(Value.int .i64 0), (Value.slice none 0 0), (Value.string ByteArray.empty)] 3 1 [(0, 3, t27_37)] w6) fun p_ => NEW p_ fun t28_38 w7 =>
  APPEND 86 3 48 (Value.agg #[(Value.int .i64 0), (Value.slice none 0 0), (Value.string ByteArray.empty)]) out_5 t28_38 w7 fun t29_39 w8 =>
  BND (binv .int .add t13_9 (Value.int .i64 1)) fun t30_40 =>
  (J_2 t29_39 t30_40 w8 ∧ m_2 t29_39 t30_40 w8 < m_2 out_5 t13_9 w1)))
  (R (.tuple #[out_5, (Value.int .i64 0)]) w1))
def ann_events_turned_Record : List (Nat × List Nat) := [(1000003, [6, 13])]
theorem E_events_turned_Record (l_p0 turn_p1 : Value) (w : World) (R : Value → World → Prop) : M_events_turned_Record l_p0 turn_p1 w R = den PR ann_events_turned_Record (bodyOf Tryz.f43) (retQ PR Tryz.f43.results.toList R) (env0 [l_p0, turn_p1]) w := by kernel_rfl
theorem C_events_turned_Record {l_p0 turn_p1 : Value} {w : World} {R : Value → World → Prop} (h : M_events_turned_Record l_p0 turn_p1 w R) : CALL PR F_events_turned_Record [l_p0, turn_p1] w R :=
  call_of_den2 ann_events_turned_Record Tryz.func43 (by kernel_rfl) (by kernel_rfl) (by kernel_rfl) ((E_events_turned_Record l_p0 turn_p1 w R) ▸ h)


-- 44 tumbrel.op.Record
def M_op_Record (o_p0 : Value) (w : World) (R : Value → World → Prop) : Prop :=
  NEW (newv 68 w o_p0) fun o_1 w1 =>
  NEW (newv 86 w1 (Value.agg #[(Value.int .i64 0), (Value.slice none 0 0), (Value.string ByteArray.empty)])) fun t2_2 w2 =>
  BND (loadn 8 w2 o_1) fun t5_3 =>
  CALL PR F_op_Right [t5_3] w2 fun t6_4 w3 =>
  BND (unv .not t6_4) fun t7_5 =>
  COND t7_5
  (BND (buildv #[(Value.int .i64 0), (Value.slice none 0 0), (Value.string ByteArray.empty)] []) fun t8_6 =>
  BND (storev 3 w3 t2_2 t8_6) fun w4 =>
  BND (loadn 3 w4 t2_2) fun r_7 =>
  R (.tuple #[r_7, (Value.int .i64 1)]) w4)
  (BND (faddr 0 o_1) fun t9_8 =>
  BND (load1 w3 t9_8) fun t10_9 =>
  BND (faddr 4 o_1) fun t11_10 =>
  BND (load1 w3 t11_10) fun t12_11 =>
  BND (buildv #[(Value.int .i64 0), (Value.slice none 0 0), (Value.string ByteArray.empty)] [(0, 1, t10_9), (2, 1, t12_11)]) fun t13_12 =>
  NEW (newv 86 w3 (Value.agg #[(Value.int .i64 0), (Value.slice none 0 0), (Value.string ByteArray.empty)])) fun r_13 w5 =>
  BND (storev 3 w5 r_13 t13_12) fun w6 =>
  BND (faddr 0 o_1) fun t14_14 =>
  BND (load1 w6 t14_14) fun t15_15 =>
  BND (binv .int .eql t15_15 (Value.int .i64 2)) fun t17_16 =>
  JOIN (α := World → Prop) (fun k_70 => COND t17_16
  (BND (faddr 1 o_1) fun t18_71 =>
  BND (load1 w6 t18_71) fun t19_72 =>
  BND (convi .u64 t19_72) fun t20_73 =>
  BND (faddr 3 o_1) fun t21_74 =>
  BND (load1 w6 t21_74) fun t22_75 =>
  BND (faddr 5 o_1) fun t23_76 =>
  BND (faddr 0 t23_76) fun t24_77 =>
  BND (load1 w6 t24_77) fun t25_78 =>
  BND (faddr 5 o_1) fun t26_79 =>
  BND (faddr 1 t26_79) fun t27_80 =>
  BND (load1 w6 t27_80) fun t28_81 =>
  BND (faddr 5 o_1) fun t29_82 =>
  BND (faddr 2 t29_82) fun t30_83 =>
  BND (load1 w6 t30_83) fun t31_84 =>
  BND (convi .u64 t31_84) fun t32_85 =>
  BND (newslice 32 #[(Value.int .u64 0)] 1 5 [(0, 1, t20_73), (1, 1, t22_75), (2, 1, t25_78), (3, 1, t28_81), (4, 1, t32_85)] w6) fun p_ => NEW p_ fun t33_86 w9 =>
  BND (faddr 1 r_13) fun t34_87 =>
  BND (storev 1 w9 t34_87 t33_86) fun w10 =>
  k_70 w10)
  (BND (binv .int .eql t15_15 (Value.int .i64 3)) fun t36_88 =>
  JOIN (α := World → Prop) (fun k_121 => COND t36_88
  (BND (faddr 1 o_1) fun t37_122 =>
  BND (load1 w6 t37_122) fun t38_123 =>
  BND (binv .int .add t38_123 (Value.int .i64 1)) fun t39_124 =>
  BND (convi .u64 t39_124) fun t40_125 =>
  BND (faddr 3 o_1) fun t41_126 =>
  BND (load1 w6 t41_126) fun t42_127 =>
  BND (newslice 32 #[(Value.int .u64 0)] 1 2 [(0, 1, t40_125), (1, 1, t42_127)] w6) fun p_ => NEW p_ fun t43_128 w12 =>
  BND (faddr 1 r_13) fun t44_129 =>
  BND (storev 1 w12 t44_129 t43_128) fun w13 =>
  k_121 w13)
  (BND (binv .int .eql t15_15 (Value.int .i64 5)) fun t46_130 =>
  JOIN (α := Value → World → Prop) (fun k_201 => COND t46_130
  (k_201 t46_130 w6)
  (BND (binv .int .eql t15_15 (Value.int .i64 6)) fun t47_202 =>
  k_201 t47_202 w6))
  (fun t45_131 w14 => JOIN (α := World → Prop) (fun k_154 => COND t45_131
  (BND (faddr 2 o_1) fun t48_155 =>
  BND (load1 w14 t48_155) fun t49_156 =>
  BND (faddr 3 o_1) fun t50_157 =>
  BND (load1 w14 t50_157) fun t51_158 =>
  BND (newslice 32 #[(Value.int .u64 0)] 1 2 [(0, 1, t49_156), (1, 1, t51_158)] w14) fun p_ => NEW p_ fun t52_159 w16 =>
  BND (faddr 1 r_13) fun t53_160 =>
  BND (storev 1 w16 t53_160 t52_159) fun w17 =>
  k_154 w17)
  (BND (binv .int .eql t15_15 (Value.int .i64 4)) fun t55_161 =>
  JOIN (α := Value → World → Prop) (fun k_195 => COND t55_161
  (k_195 t55_161 w14)
  (BND (binv .int .eql t15_15 (Value.int .i64 8)) fun t56_196 =>
  JOIN (α := Value → World → Prop) (fun k_199 => COND t56_196
  (k_199 t56_196 w14)
  (BND (binv .int .eql t15_15 (Value.int .i64 9)) fun t57_200 =>
  k_199 t57_200 w14))
  (fun t54_197 w26 => k_195 t54_197 w26)))
  (fun t54_162 w18 => JOIN (α := World → Prop) (fun k_176 => COND t54_162
  (BND (faddr 2 o_1) fun t58_177 =>
  BND (load1 w18 t58_177) fun t59_178 =>
  BND (newslice 32 #[(Value.int .u64 0)] 1 1 [(0, 1, t59_178)] w18) fun p_ => NEW p_ fun t60_179 w20 =>
  BND (faddr 1 r_13) fun t61_180 =>
  BND (storev 1 w20 t61_180 t60_179) fun w21 =>
  k_176 w21)
  (BND (binv .int .eql t15_15 (Value.int .i64 7)) fun t63_181 =>
  JOIN (α := Value → World → Prop) (fun k_193 => COND t63_181
  (k_193 t63_181 w18)
  (BND (binv .int .eql t15_15 (Value.int .i64 10)) fun t64_194 =>
  k_193 t64_194 w18))
  (fun t62_182 w22 => JOIN (α := World → Prop) (fun k_188 => COND t62_182
  (BND (faddr 3 o_1) fun t65_189 =>
  BND (load1 w22 t65_189) fun t66_190 =>
  BND (newslice 32 #[(Value.int .u64 0)] 1 1 [(0, 1, t66_190)] w22) fun p_ => NEW p_ fun t67_191 w24 =>
  BND (faddr 1 r_13) fun t68_192 =>
  BND (storev 1 w24 t68_192 t67_191) fun w25 =>
  k_188 w25)
  (k_188 w22))
  (fun w23 => k_176 w23))))
  (fun w19 => k_154 w19))))
  (fun w15 => k_121 w15))))
  (fun w11 => k_70 w11)))
  (fun w7 => BND (loadn 3 w7 r_13) fun t69_68 =>
  BND (storev 3 w7 t2_2 t69_68) fun w8 =>
  BND (loadn 3 w8 t2_2) fun r_69 =>
  R (.tuple #[r_69, (Value.int .i64 0)]) w8))
def ann_op_Record : List (Nat × List Nat) := []
theorem E_op_Record (o_p0 : Value) (w : World) (R : Value → World → Prop) : M_op_Record o_p0 w R = den PR ann_op_Record (bodyOf Tryz.f44) (retQ PR Tryz.f44.results.toList R) (env0 [o_p0]) w := by kernel_rfl
theorem C_op_Record {o_p0 : Value} {w : World} {R : Value → World → Prop} (h : M_op_Record o_p0 w R) : CALL PR F_op_Record [o_p0] w R :=
  call_of_den2 ann_op_Record Tryz.func44 (by kernel_rfl) (by kernel_rfl) (by kernel_rfl) ((E_op_Record o_p0 w R) ▸ h)


-- 45 tumbrel.record.Bytes
def M_record_Bytes (r_p0 : Value) (w : World) (R : Value → World → Prop) : Prop :=
  NEW (newv 86 w r_p0) fun r_1 w1 =>
  BND (loadn 3 w1 r_1) fun t4_2 =>
  CALL PR F_record_Right [t4_2] w1 fun t5_3 w2 =>
  BND (unv .not t5_3) fun t6_4 =>
  COND t6_4
  (R (.tuple #[(Value.slice none 0 0), (Value.int .i64 1)]) w2)
  (∃ S_5 : Nat → World → Prop,
  S_5 1 w2.drew ∧
  S_5 7 w2.drew ∧
  BND (faddr 0 r_1) fun t7_6 =>
  FLT (S_5 1) (fun w_ => load1 w_ t7_6) fun t8_7 =>
  BND (convi .u8 t8_7) fun t9_8 =>
  BND (faddr 1 r_1) fun t10_9 =>
  BND (faddr 2 r_1) fun t13_10 =>
  FLT (S_5 7) (fun w_ => load1 w_ t13_10) fun t14_11 =>
  BND (load1 w2.drew t10_9) fun t11_12 =>
  CALL PR F_vint_All [t11_12] w2.drew fun t12_13 w3 =>
  S_5 1 w3 ∧
  S_5 7 w3 ∧
  APPEND 5 1 1 (Value.int .u8 0) t12_13 t14_11 w3 fun t15_14 w4 =>
  S_5 1 w4 ∧
  BND (buildv #[(Value.int .u8 0), (Value.slice none 0 0)] [(0, 1, t9_8), (1, 1, t15_14)]) fun t16_15 =>
  CALL PR F_frame_Bytes [t16_15] w4 fun t17_16 w5 =>
  BND (extractv t17_16 0) fun t18_17 =>
  BND (extractv t17_16 1) fun t19_18 =>
  R (.tuple #[t18_17, t19_18]) w5)
def ann_record_Bytes : List (Nat × List Nat) := [(3, [0, 1, 2, 3, 6, 7, 4, 5, 8, 9, 10, 11, 12, 13, 14]), (2000003, [1, 7]), (3003005, [1, 7]), (3003008, [1])]
theorem E_record_Bytes (r_p0 : Value) (w : World) (R : Value → World → Prop) : M_record_Bytes r_p0 w R = den PR ann_record_Bytes (bodyOf Tryz.f45) (retQ PR Tryz.f45.results.toList R) (env0 [r_p0]) w := by kernel_rfl
theorem C_record_Bytes {r_p0 : Value} {w : World} {R : Value → World → Prop} (h : M_record_Bytes r_p0 w R) : CALL PR F_record_Bytes [r_p0] w R :=
  call_of_den2 ann_record_Bytes Tryz.func45 (by kernel_rfl) (by kernel_rfl) (by kernel_rfl) ((E_record_Bytes r_p0 w R) ▸ h)


-- 48 (*tumbrel.disk.Disk).Read
def M_disk_Disk_Read (d_p0 name_p1 : Value) (w : World) (R : Value → World → Prop) : Prop :=
  BND (nilchk d_p0) fun t8_1 =>
  BND (faddr 4 t8_1) fun t9_2 =>
  BND (load1 w t9_2) fun t10_3 =>
  COND t10_3
  (R (.tuple #[(Value.slice none 0 0), (Value.int .i64 7)]) w)
  (CALL PR F_disk_Disk_there [d_p0, name_p1] w fun t13_4 w1 =>
  BND (binv .int .neq t13_4 (Value.int .i64 0)) fun t15_5 =>
  COND t15_5
  (R (.tuple #[(Value.slice none 0 0), t13_4]) w1)
  (CALL PR F_disk_Disk_now [d_p0] w1 fun t18_6 w2 =>
  BND (lookv .string (Value.pointer none) false w2 t18_6 name_p1) fun t20_7 =>
  BND (nilchk t20_7) fun t21_8 =>
  BND (faddr 0 t21_8) fun t22_9 =>
  BND (load1 w2 t22_9) fun t23_10 =>
  CALL PR F_slices_Clone_byte_byte [t23_10] w2 fun t24_11 w3 =>
  R (.tuple #[t24_11, (Value.int .i64 0)]) w3))
def ann_disk_Disk_Read : List (Nat × List Nat) := []
theorem E_disk_Disk_Read (d_p0 name_p1 : Value) (w : World) (R : Value → World → Prop) : M_disk_Disk_Read d_p0 name_p1 w R = den PR ann_disk_Disk_Read (bodyOf Tryz.f48) (retQ PR Tryz.f48.results.toList R) (env0 [d_p0, name_p1]) w := by kernel_rfl
theorem C_disk_Disk_Read {d_p0 name_p1 : Value} {w : World} {R : Value → World → Prop} (h : M_disk_Disk_Read d_p0 name_p1 w R) : CALL PR F_disk_Disk_Read [d_p0, name_p1] w R :=
  call_of_den2 ann_disk_Disk_Read Tryz.func48 (by kernel_rfl) (by kernel_rfl) (by kernel_rfl) ((E_disk_Disk_Read d_p0 name_p1 w R) ▸ h)


-- 49 tumbrel.record.All
def M_record_All (b_p0 : Value) (w : World) (R : Value → World → Prop) : Prop :=
  CALL PR F_frame_All [b_p0] w fun t19_1 w1 =>
  BND (extractv t19_1 0) fun t20_2 =>
  BND (extractv t19_1 1) fun t21_3 =>
  BND (extractv t19_1 2) fun t22_4 =>
  BND (lenl t20_2) fun t24_5 =>
  ∃ (J_6 : Value → Value → Value → Value → World → Prop) (m_6 : Value → Value → Value → Value → World → Nat), J_6 (Value.slice none 0 0) (Value.slice none 0 0) (Value.int .i64 0) (Value.int .i64 0) w1 ∧ ∀ (_d_6 : Env) (out_10 ends_11 at_12 t25_18 : Value) (w2 : World), J_6 out_10 ends_11 at_12 t25_18 w2 →
  (BND (binv .int .lss t25_18 t24_5) fun t26_50 =>
  COND t26_50
  (BND (iaddr 2 t20_2 t25_18) fun t27_51 =>
  BND (loadn 2 w2 t27_51) fun t28_52 =>
  NEW (newv 138 w2 (Value.agg #[(Value.int .u8 0), (Value.slice none 0 0)])) fun x_53 w3 =>
  BND (storev 2 w3 x_53 t28_52) fun w4 =>
  BND (loadn 2 w4 x_53) fun t30_54 =>
  CALL PR F_record_Read [t30_54] w4 fun t31_55 w5 =>
  BND (extractv t31_55 0) fun t32_56 =>
  BND (extractv t31_55 1) fun t33_57 =>
  NEW (newv 86 w5 (Value.agg #[(Value.int .i64 0), (Value.slice none 0 0), (Value.string ByteArray.empty)])) fun r_58 w6 =>
  BND (storev 3 w6 r_58 t32_56) fun w7 =>
  BND (binv .int .neq t33_57 (Value.int .i64 0)) fun t35_59 =>
  COND t35_59
  (R (.tuple #[out_10, ends_11, t33_57]) w7)
  (BND (loadn 2 w7 x_53) fun t40_60 =>
  CALL PR F_frame_Bytes [t40_60] w7 fun t41_61 w8 =>
  BND (extractv t41_61 0) fun t42_62 =>
  BND (extractv t41_61 1) fun t43_63 =>
  BND (lenl t42_62) fun t46_64 =>
  BND (binv .int .add at_12 t46_64) fun t47_65 =>
  BND (loadn 3 w8 r_58) fun t49_66 =>
  BND (newslice 86 #[(Value.int .i64 0), (Value.slice none 0 0), (Value.string ByteArray.empty)] 3 1 [(0, 3, t49_66)] w8) fun p_ => NEW p_ fun t50_67 w9 =>
  APPEND 86 3 48 (Value.agg #[(Value.int .i64 0), (Value.slice none 0 0), (Value.string ByteArray.empty)]) out_10 t50_67 w9 fun t51_68 w10 =>
  BND (newslice 3 #[(Value.int .i64 0)] 1 1 [(0, 1, t47_65)] w10) fun p_ => NEW p_ fun t54_69 w11 =>
  APPEND 3 1 8 (Value.int .i64 0) ends_11 t54_69 w11 fun t55_70 w12 =>
  BND (binv .int .add t25_18 (Value.int .i64 1)) fun t56_71 =>
  (J_6 t51_68 t55_70 t47_65 t56_71 w12 ∧ m_6 t51_68 t55_70 t47_65 t56_71 w12 < m_6 out_10 ends_11 at_12 t25_18 w2)))
  (R (.tuple #[out_10, ends_11, t22_4]) w2))
def ann_record_All : List (Nat × List Nat) := [(1000006, [8, 9, 10, 25])]
theorem E_record_All (b_p0 : Value) (w : World) (R : Value → World → Prop) : M_record_All b_p0 w R = den PR ann_record_All (bodyOf Tryz.f49) (retQ PR Tryz.f49.results.toList R) (env0 [b_p0]) w := by kernel_rfl
theorem C_record_All {b_p0 : Value} {w : World} {R : Value → World → Prop} (h : M_record_All b_p0 w R) : CALL PR F_record_All [b_p0] w R :=
  call_of_den2 ann_record_All Tryz.func49 (by kernel_rfl) (by kernel_rfl) (by kernel_rfl) ((E_record_All b_p0 w R) ▸ h)


-- 50 tumbrel.events.turned[tumbrel.record.Record,tumbrel.op.Op]
def M_events_turned_Op (l_p0 turn_p1 : Value) (w : World) (R : Value → World → Prop) : Prop :=
  BND (lenl l_p0) fun t12_1 =>
  ∃ (J_2 : Value → Value → World → Prop) (m_2 : Value → Value → World → Nat), J_2 (Value.slice none 0 0) (Value.int .i64 0) w ∧ ∀ (_d_2 : Env) (out_5 t13_9 : Value) (w1 : World), J_2 out_5 t13_9 w1 →
  (BND (binv .int .lss t13_9 t12_1) fun t14_27 =>
  COND t14_27
  (BND (iaddr 3 l_p0 t13_9) fun t15_28 =>
  BND (loadn 3 w1 t15_28) fun t16_29 =>
  NEW (newv 86 w1 (Value.agg #[(Value.int .i64 0), (Value.slice none 0 0), (Value.string ByteArray.empty)])) fun x_30 w2 =>
  BND (storev 3 w2 x_30 t16_29) fun w3 =>
  BND (loadn 3 w3 x_30) fun t19_31 =>
  CALLV PR turn_p1 [t19_31] w3 fun t20_32 w4 =>
  BND (extractv t20_32 0) fun t21_33 =>
  BND (extractv t20_32 1) fun t22_34 =>
  NEW (newv 68 w4 (Value.agg #[(Value.int .i64 0), (Value.int .i64 0), (Value.int .u64 0), (Value.int .u64 0), (Value.string ByteArray.empty), (Value.int .u64 0), (Value.int .u64 0), (Value.int .i64 0)])) fun y_35 w5 =>
  BND (storev 8 w5 y_35 t21_33) fun w6 =>
  BND (binv .int .neq t22_34 (Value.int .i64 0)) fun t24_36 =>
  COND t24_36
  (R (.tuple #[(Value.slice none 0 0), t22_34]) w6)
  (BND (loadn 8 w6 y_35) fun t27_37 =>
  BND (newslice 68 #[(Value.int .i64 0), (Value.int .i64 0), (Value.int .u64 0), (Value.int .u64 0), (Value.string ByteArray.empty), (Value.int .u64 0), (Value.int .u64 0), (Value.int .i64 0)] 8 1 [(0, 8, t27_37)] w6) fun p_ => NEW p_ fun t28_38 w7 =>
  APPEND 68 8 72 (Value.agg #[(Value.int .i64 0), (Value.int .i64 0), (Value.int .u64 0), (Value.int .u64 0), (Value.string ByteArray.empty), (Value.int .u64 0), (Value.int .u64 0), (Value.int .i64 0)]) out_5 t28_38 w7 fun t29_39 w8 =>
  BND (binv .int .add t13_9 (Value.int .i64 1)) fun t30_40 =>
  (J_2 t29_39 t30_40 w8 ∧ m_2 t29_39 t30_40 w8 < m_2 out_5 t13_9 w1)))
  (R (.tuple #[out_5, (Value.int .i64 0)]) w1))
def ann_events_turned_Op : List (Nat × List Nat) := [(1000003, [6, 13])]
theorem E_events_turned_Op (l_p0 turn_p1 : Value) (w : World) (R : Value → World → Prop) : M_events_turned_Op l_p0 turn_p1 w R = den PR ann_events_turned_Op (bodyOf Tryz.f50) (retQ PR Tryz.f50.results.toList R) (env0 [l_p0, turn_p1]) w := by kernel_rfl
theorem C_events_turned_Op {l_p0 turn_p1 : Value} {w : World} {R : Value → World → Prop} (h : M_events_turned_Op l_p0 turn_p1 w R) : CALL PR F_events_turned_Op [l_p0, turn_p1] w R :=
  call_of_den2 ann_events_turned_Op Tryz.func50 (by kernel_rfl) (by kernel_rfl) (by kernel_rfl) ((E_events_turned_Op l_p0 turn_p1 w R) ▸ h)


-- 51 tumbrel.op.Of
def M_op_Of (r_p0 : Value) (w : World) (R : Value → World → Prop) : Prop :=
  NEW (newv 86 w r_p0) fun r_1 w1 =>
  NEW (newv 68 w1 (Value.agg #[(Value.int .i64 0), (Value.int .i64 0), (Value.int .u64 0), (Value.int .u64 0), (Value.string ByteArray.empty), (Value.int .u64 0), (Value.int .u64 0), (Value.int .i64 0)])) fun t2_2 w2 =>
  BND (loadn 3 w2 r_1) fun t8_3 =>
  CALL PR F_record_Right [t8_3] w2 fun t9_4 w3 =>
  BND (unv .not t9_4) fun t10_5 =>
  COND t10_5
  (BND (buildv #[(Value.int .i64 0), (Value.int .i64 0), (Value.int .u64 0), (Value.int .u64 0), (Value.string ByteArray.empty), (Value.int .u64 0), (Value.int .u64 0), (Value.int .i64 0)] []) fun t11_6 =>
  BND (storev 8 w3 t2_2 t11_6) fun w4 =>
  BND (loadn 8 w4 t2_2) fun r_7 =>
  R (.tuple #[r_7, (Value.int .i64 2)]) w4)
  (BND (faddr 1 r_1) fun t12_8 =>
  BND (load1 w3 t12_8) fun t13_9 =>
  NEW (newv 84 w3 (Value.slice none 0 0)) fun rest_10 w5 =>
  BND (storev 1 w5 rest_10 t13_9) fun w6 =>
  NEW (newv 150 w6 Value.nilFunc) fun take_11 w7 =>
  BND (storev 1 w7 take_11 (Value.func (.func F_op_Of_1) #[] #[rest_10])) fun w8 =>
  BND (faddr 0 r_1) fun t16_12 =>
  BND (load1 w8 t16_12) fun t17_13 =>
  BND (faddr 2 r_1) fun t18_14 =>
  BND (load1 w8 t18_14) fun t19_15 =>
  BND (buildv #[(Value.int .i64 0), (Value.int .i64 0), (Value.int .u64 0), (Value.int .u64 0), (Value.string ByteArray.empty), (Value.int .u64 0), (Value.int .u64 0), (Value.int .i64 0)] [(0, 1, t17_13), (4, 1, t19_15)]) fun t20_16 =>
  NEW (newv 68 w8 (Value.agg #[(Value.int .i64 0), (Value.int .i64 0), (Value.int .u64 0), (Value.int .u64 0), (Value.string ByteArray.empty), (Value.int .u64 0), (Value.int .u64 0), (Value.int .i64 0)])) fun o_17 w9 =>
  BND (storev 8 w9 o_17 t20_16) fun w10 =>
  BND (faddr 0 r_1) fun t21_18 =>
  BND (load1 w10 t21_18) fun t22_19 =>
  BND (binv .int .eql t22_19 (Value.int .i64 2)) fun t24_20 =>
  JOIN (α := World → Prop) (fun k_75 => COND t24_20
  (∃ S_76 : Nat → World → Prop,
  S_76 2 w10.drew ∧
  FLT (S_76 2) (fun w_ => load1 w_ take_11) fun t27_77 =>
  CALLV PR (Value.func (.func F_op_Of_2) #[] #[take_11]) [] w10.drew fun t26_78 w15 =>
  S_76 2 w15 ∧
  BND (faddr 1 o_17) fun t29_79 =>
  CALLV PR t27_77 [] w15 fun t28_80 w16 =>
  BND (storev 1 w16 t29_79 t26_78) fun w17 =>
  BND (faddr 3 o_17) fun t30_81 =>
  BND (storev 1 w17 t30_81 t28_80) fun w18 =>
  ∃ S_82 : Nat → World → Prop,
  S_82 2 w18.drew ∧
  FLT (S_82 2) (fun w_ => load1 w_ take_11) fun t33_83 =>
  BND (load1 w18.drew take_11) fun t31_84 =>
  CALLV PR t31_84 [] w18.drew fun t32_85 w19 =>
  S_82 2 w19 ∧
  CALLV PR t33_83 [] w19 fun t34_86 w20 =>
  BND (buildv #[(Value.int .u64 0), (Value.int .u64 0), (Value.int .i64 0)] [(0, 1, t32_85), (1, 1, t34_86)]) fun t35_87 =>
  BND (faddr 5 o_17) fun t36_88 =>
  BND (storev 3 w20 t36_88 t35_87) fun w21 =>
  CALLV PR (Value.func (.func F_op_Of_2) #[] #[take_11]) [] w21 fun t38_89 w22 =>
  BND (faddr 5 o_17) fun t39_90 =>
  BND (faddr 2 t39_90) fun t40_91 =>
  BND (storev 1 w22 t40_91 t38_89) fun w23 =>
  k_75 w23)
  (BND (binv .int .eql t22_19 (Value.int .i64 3)) fun t42_92 =>
  JOIN (α := World → Prop) (fun k_122 => COND t42_92
  (∃ S_123 : Nat → World → Prop,
  S_123 3 w10.drew ∧
  FLT (S_123 3) (fun w_ => load1 w_ take_11) fun t46_124 =>
  CALLV PR (Value.func (.func F_op_Of_2) #[] #[take_11]) [] w10.drew fun t44_125 w25 =>
  S_123 3 w25 ∧
  BND (binv .int .sub t44_125 (Value.int .i64 1)) fun t45_126 =>
  BND (faddr 1 o_17) fun t48_127 =>
  CALLV PR t46_124 [] w25 fun t47_128 w26 =>
  BND (storev 1 w26 t48_127 t45_126) fun w27 =>
  BND (faddr 3 o_17) fun t49_129 =>
  BND (storev 1 w27 t49_129 t47_128) fun w28 =>
  k_122 w28)
  (BND (binv .int .eql t22_19 (Value.int .i64 5)) fun t51_130 =>
  JOIN (α := Value → World → Prop) (fun k_195 => COND t51_130
  (k_195 t51_130 w10)
  (BND (binv .int .eql t22_19 (Value.int .i64 6)) fun t52_196 =>
  k_195 t52_196 w10))
  (fun t50_131 w29 => JOIN (α := World → Prop) (fun k_152 => COND t50_131
  (∃ S_153 : Nat → World → Prop,
  S_153 2 w29.drew ∧
  FLT (S_153 2) (fun w_ => load1 w_ take_11) fun t55_154 =>
  BND (load1 w29.drew take_11) fun t53_155 =>
  CALLV PR t53_155 [] w29.drew fun t54_156 w31 =>
  S_153 2 w31 ∧
  BND (faddr 2 o_17) fun t57_157 =>
  CALLV PR t55_154 [] w31 fun t56_158 w32 =>
  BND (storev 1 w32 t57_157 t54_156) fun w33 =>
  BND (faddr 3 o_17) fun t58_159 =>
  BND (storev 1 w33 t58_159 t56_158) fun w34 =>
  k_152 w34)
  (BND (binv .int .eql t22_19 (Value.int .i64 4)) fun t60_160 =>
  JOIN (α := Value → World → Prop) (fun k_189 => COND t60_160
  (k_189 t60_160 w29)
  (BND (binv .int .eql t22_19 (Value.int .i64 8)) fun t61_190 =>
  JOIN (α := Value → World → Prop) (fun k_193 => COND t61_190
  (k_193 t61_190 w29)
  (BND (binv .int .eql t22_19 (Value.int .i64 9)) fun t62_194 =>
  k_193 t62_194 w29))
  (fun t59_191 w43 => k_189 t59_191 w43)))
  (fun t59_161 w35 => JOIN (α := World → Prop) (fun k_173 => COND t59_161
  (BND (load1 w35 take_11) fun t63_174 =>
  CALLV PR t63_174 [] w35 fun t64_175 w37 =>
  BND (faddr 2 o_17) fun t65_176 =>
  BND (storev 1 w37 t65_176 t64_175) fun w38 =>
  k_173 w38)
  (BND (binv .int .eql t22_19 (Value.int .i64 7)) fun t67_177 =>
  JOIN (α := Value → World → Prop) (fun k_187 => COND t67_177
  (k_187 t67_177 w35)
  (BND (binv .int .eql t22_19 (Value.int .i64 10)) fun t68_188 =>
  k_187 t68_188 w35))
  (fun t66_178 w39 => JOIN (α := World → Prop) (fun k_183 => COND t66_178
  (BND (load1 w39 take_11) fun t69_184 =>
  CALLV PR t69_184 [] w39 fun t70_185 w41 =>
  BND (faddr 3 o_17) fun t71_186 =>
  BND (storev 1 w41 t71_186 t70_185) fun w42 =>
  k_183 w42)
  (k_183 w39))
  (fun w40 => k_173 w40))))
  (fun w36 => k_152 w36))))
  (fun w30 => k_122 w30))))
  (fun w24 => k_75 w24)))
  (fun w11 => BND (loadn 8 w11 o_17) fun t72_68 =>
  CALL PR F_op_Right [t72_68] w11 fun t73_69 w12 =>
  BND (unv .not t73_69) fun t74_70 =>
  COND t74_70
  (BND (buildv #[(Value.int .i64 0), (Value.int .i64 0), (Value.int .u64 0), (Value.int .u64 0), (Value.string ByteArray.empty), (Value.int .u64 0), (Value.int .u64 0), (Value.int .i64 0)] []) fun t75_71 =>
  BND (storev 8 w12 t2_2 t75_71) fun w13 =>
  BND (loadn 8 w13 t2_2) fun r_72 =>
  R (.tuple #[r_72, (Value.int .i64 2)]) w13)
  (BND (loadn 8 w12 o_17) fun t76_73 =>
  BND (storev 8 w12 t2_2 t76_73) fun w14 =>
  BND (loadn 8 w14 t2_2) fun r_74 =>
  R (.tuple #[r_74, (Value.int .i64 0)]) w14)))
def ann_op_Of : List (Nat × List Nat) := [(9, [0, 2, 1, 4, 3, 5, 6, 7]), (10, [2, 0, 1, 3, 4, 5, 6]), (13, [0, 3, 1, 2, 5, 4, 6, 7, 8]), (16, [2, 0, 1, 4, 3, 5, 6, 7]), (2000009, [2]), (2000010, [2]), (2000013, [3]), (2000016, [2]), (3009001, [2]), (3010001, [2]), (3013001, [3]), (3016001, [2])]
theorem E_op_Of (r_p0 : Value) (w : World) (R : Value → World → Prop) : M_op_Of r_p0 w R = den PR ann_op_Of (bodyOf Tryz.f51) (retQ PR Tryz.f51.results.toList R) (env0 [r_p0]) w := by kernel_rfl
theorem C_op_Of {r_p0 : Value} {w : World} {R : Value → World → Prop} (h : M_op_Of r_p0 w R) : CALL PR F_op_Of [r_p0] w R :=
  call_of_den2 ann_op_Of Tryz.func51 (by kernel_rfl) (by kernel_rfl) (by kernel_rfl) ((E_op_Of r_p0 w R) ▸ h)


-- 55 (*tumbrel.disk.Disk).Cut
def M_disk_Disk_Cut (d_p0 name_p1 n_p2 : Value) (w : World) (R : Value → World → Prop) : Prop :=
  CALL PR F_disk_Disk_there [d_p0, name_p1] w fun t11_1 w1 =>
  BND (binv .int .eql t11_1 (Value.int .i64 0)) fun t13_2 =>
  BND (grd (isB t13_2 true) (some n_p2)) fun t15_3 =>
  BND (grd (isB t13_2 true) (binv .int .lss t15_3 (Value.int .i64 0))) fun t16_4 =>
  BND (grd (isB t13_2 true) (some t16_4)) fun t17_5 =>
  BND (grd (isB t17_5 false) (some n_p2)) fun t18_6 =>
  BND (grd (isB t17_5 false) (some d_p0)) fun t19_7 =>
  GEF (isB t17_5 false) (fun k_ => CALL PR F_disk_Disk_now [t19_7] w1 k_) w1 fun t20_8 w2 =>
  BND (grd (isB t17_5 false) (some name_p1)) fun t21_9 =>
  BND (grd (isB t17_5 false) (lookv .string (Value.pointer none) false w2 t20_8 t21_9)) fun t22_10 =>
  BND (grd (isB t17_5 false) (nilchk t22_10)) fun t23_11 =>
  BND (grd (isB t17_5 false) (faddr 0 t23_11)) fun t24_12 =>
  BND (grd (isB t17_5 false) (load1 w2 t24_12)) fun t25_13 =>
  BND (grd (isB t17_5 false) (lenl t25_13)) fun t26_14 =>
  BND (grd (isB t17_5 false) (binv .int .gtr t18_6 t26_14)) fun t27_15 =>
  BND (grd (isB t13_2 true) (pickv t17_5 (Value.bool true) t27_15)) fun t28_16 =>
  BND (pickv t13_2 t28_16 (Value.bool false)) fun t29_17 =>
  JOIN (α := Value → World → Prop) (fun k_59 => COND t29_17
  (k_59 (Value.int .i64 1) w2)
  (k_59 t11_1 w2))
  (fun e_18 w3 => CALL PR F_disk_Disk_can [d_p0, e_18] w3 fun t32_19 w4 =>
  BND (binv .int .eql t32_19 (Value.int .i64 0)) fun t34_20 =>
  JOIN (α := World → Prop) (fun k_44 => COND t34_20
  (CALL PR F_disk_Disk_now [d_p0] w4 fun t36_45 w6 =>
  BND (lookv .string (Value.pointer none) false w6 t36_45 name_p1) fun t38_46 =>
  BND (nilchk t38_46) fun t42_47 =>
  BND (faddr 0 t42_47) fun t43_48 =>
  BND (nilchk t38_46) fun t48_49 =>
  BND (faddr 1 t48_49) fun t49_50 =>
  BND (load1 w6.drew t43_48) fun t44_51 =>
  BND (slicev 1 t44_51 none (some n_p2)) fun t46_52 =>
  BND (load1 w6.drew t49_50) fun t50_53 =>
  BND (min2v t50_53 n_p2) fun t52_54 =>
  BND (nilchk t38_46) fun t53_55 =>
  BND (faddr 0 t53_55) fun t54_56 =>
  BND (storev 1 w6.drew t54_56 t46_52) fun w7 =>
  BND (nilchk t38_46) fun t55_57 =>
  BND (faddr 1 t55_57) fun t56_58 =>
  BND (storev 1 w7 t56_58 t52_54) fun w8 =>
  k_44 w8)
  (k_44 w4))
  (fun w5 => R t32_19 w5))
def ann_disk_Disk_Cut : List (Nat × List Nat) := [(7, [0, 1, 2, 3, 4, 6, 8, 9, 10, 12, 5, 7, 11, 13, 14, 15, 16, 17, 18, 19])]
theorem E_disk_Disk_Cut (d_p0 name_p1 n_p2 : Value) (w : World) (R : Value → World → Prop) : M_disk_Disk_Cut d_p0 name_p1 n_p2 w R = den PR ann_disk_Disk_Cut (bodyOf Tryz.f55) (retQ PR Tryz.f55.results.toList R) (env0 [d_p0, name_p1, n_p2]) w := by kernel_rfl
theorem C_disk_Disk_Cut {d_p0 name_p1 n_p2 : Value} {w : World} {R : Value → World → Prop} (h : M_disk_Disk_Cut d_p0 name_p1 n_p2 w R) : CALL PR F_disk_Disk_Cut [d_p0, name_p1, n_p2] w R :=
  call_of_den2 ann_disk_Disk_Cut Tryz.func55 (by kernel_rfl) (by kernel_rfl) (by kernel_rfl) ((E_disk_Disk_Cut d_p0 name_p1 n_p2 w R) ▸ h)


-- 60 (*tumbrel.disk.Disk).there
def M_disk_Disk_there (d_p0 name_p1 : Value) (w : World) (R : Value → World → Prop) : Prop :=
  CALL PR F_disk_Disk_now [d_p0] w fun t6_1 w1 =>
  BND (lookv .string (Value.pointer none) false w1 t6_1 name_p1) fun t8_2 =>
  BND (binv .ptr .eql t8_2 (Value.pointer none)) fun t9_3 =>
  COND t9_3
  (R (Value.int .i64 5) w1)
  (R (Value.int .i64 0) w1)
def ann_disk_Disk_there : List (Nat × List Nat) := []
theorem E_disk_Disk_there (d_p0 name_p1 : Value) (w : World) (R : Value → World → Prop) : M_disk_Disk_there d_p0 name_p1 w R = den PR ann_disk_Disk_there (bodyOf Tryz.f60) (retQ PR Tryz.f60.results.toList R) (env0 [d_p0, name_p1]) w := by kernel_rfl
theorem C_disk_Disk_there {d_p0 name_p1 : Value} {w : World} {R : Value → World → Prop} (h : M_disk_Disk_there d_p0 name_p1 w R) : CALL PR F_disk_Disk_there [d_p0, name_p1] w R :=
  call_of_den2 ann_disk_Disk_there Tryz.func60 (by kernel_rfl) (by kernel_rfl) (by kernel_rfl) ((E_disk_Disk_there d_p0 name_p1 w R) ▸ h)


-- 61 (*tumbrel.disk.Disk).can
def M_disk_Disk_can (d_p0 e_p1 : Value) (w : World) (R : Value → World → Prop) : Prop :=
  BND (nilchk d_p0) fun t7_1 =>
  BND (faddr 4 t7_1) fun t8_2 =>
  BND (load1 w t8_2) fun t9_3 =>
  COND t9_3
  (R (Value.int .i64 7) w)
  (BND (binv .int .neq e_p1 (Value.int .i64 0)) fun t12_4 =>
  COND t12_4
  (R e_p1 w)
  (BND (nilchk d_p0) fun t16_5 =>
  BND (faddr 3 t16_5) fun t17_6 =>
  BND (load1 w t17_6) fun t18_7 =>
  BND (binv .int .eql t18_7 (Value.int .i64 0)) fun t19_8 =>
  COND t19_8
  (BND (nilchk d_p0) fun t21_9 =>
  BND (faddr 4 t21_9) fun t22_10 =>
  BND (storev 1 w t22_10 (Value.bool true)) fun w1 =>
  R (Value.int .i64 7) w1)
  (BND (nilchk d_p0) fun t25_11 =>
  BND (faddr 3 t25_11) fun t26_12 =>
  BND (load1 w t26_12) fun t27_13 =>
  BND (binv .int .gtr t27_13 (Value.int .i64 0)) fun t28_14 =>
  JOIN (α := World → Prop) (fun k_22 => COND t28_14
  (BND (nilchk d_p0) fun t30_23 =>
  BND (faddr 3 t30_23) fun t31_24 =>
  BND (load1 w t31_24) fun t32_25 =>
  BND (binv .int .sub t32_25 (Value.int .i64 1)) fun t33_26 =>
  BND (nilchk d_p0) fun t34_27 =>
  BND (faddr 3 t34_27) fun t35_28 =>
  BND (storev 1 w t35_28 t33_26) fun w3 =>
  k_22 w3)
  (k_22 w))
  (fun w2 => R (Value.int .i64 0) w2))))
def ann_disk_Disk_can : List (Nat × List Nat) := []
theorem E_disk_Disk_can (d_p0 e_p1 : Value) (w : World) (R : Value → World → Prop) : M_disk_Disk_can d_p0 e_p1 w R = den PR ann_disk_Disk_can (bodyOf Tryz.f61) (retQ PR Tryz.f61.results.toList R) (env0 [d_p0, e_p1]) w := by kernel_rfl
theorem C_disk_Disk_can {d_p0 e_p1 : Value} {w : World} {R : Value → World → Prop} (h : M_disk_Disk_can d_p0 e_p1 w R) : CALL PR F_disk_Disk_can [d_p0, e_p1] w R :=
  call_of_den2 ann_disk_Disk_can Tryz.func61 (by kernel_rfl) (by kernel_rfl) (by kernel_rfl) ((E_disk_Disk_can d_p0 e_p1 w R) ▸ h)


-- 62 (*tumbrel.disk.Disk).now
def M_disk_Disk_now (d_p0 : Value) (w : World) (R : Value → World → Prop) : Prop :=
  BND (nilchk d_p0) fun t5_1 =>
  BND (faddr 2 t5_1) fun t6_2 =>
  BND (load1 w t6_2) fun t7_3 =>
  BND (lenl t7_3) fun t8_4 =>
  BND (binv .int .gtr t8_4 (Value.int .i64 0)) fun t10_5 =>
  COND t10_5
  (BND (nilchk d_p0) fun t12_6 =>
  BND (faddr 2 t12_6) fun t13_7 =>
  BND (load1 w t13_7) fun t14_8 =>
  BND (binv .int .sub t8_4 (Value.int .i64 1)) fun t16_9 =>
  BND (iaddr 1 t14_8 t16_9) fun t17_10 =>
  BND (load1 w t17_10) fun t18_11 =>
  R t18_11 w)
  (BND (nilchk d_p0) fun t20_12 =>
  BND (faddr 1 t20_12) fun t21_13 =>
  BND (load1 w t21_13) fun t22_14 =>
  R t22_14 w)
def ann_disk_Disk_now : List (Nat × List Nat) := []
theorem E_disk_Disk_now (d_p0 : Value) (w : World) (R : Value → World → Prop) : M_disk_Disk_now d_p0 w R = den PR ann_disk_Disk_now (bodyOf Tryz.f62) (retQ PR Tryz.f62.results.toList R) (env0 [d_p0]) w := by kernel_rfl
theorem C_disk_Disk_now {d_p0 : Value} {w : World} {R : Value → World → Prop} (h : M_disk_Disk_now d_p0 w R) : CALL PR F_disk_Disk_now [d_p0] w R :=
  call_of_den2 ann_disk_Disk_now Tryz.func62 (by kernel_rfl) (by kernel_rfl) (by kernel_rfl) ((E_disk_Disk_now d_p0 w R) ▸ h)


-- 65 slices.Contains[[]*tumbrel.disk.file,*tumbrel.disk.file]
def M_slices_Contains_disk_file_disk_file (s_p0 v_p1 : Value) (w : World) (R : Value → World → Prop) : Prop :=
  CALL PR F_slices_Index_disk_file_disk_file [s_p0, v_p1] w fun t7_1 w1 =>
  BND (binv .int .geq t7_1 (Value.int .i64 0)) fun t8_2 =>
  R t8_2 w1
def ann_slices_Contains_disk_file_disk_file : List (Nat × List Nat) := []
theorem E_slices_Contains_disk_file_disk_file (s_p0 v_p1 : Value) (w : World) (R : Value → World → Prop) : M_slices_Contains_disk_file_disk_file s_p0 v_p1 w R = den PR ann_slices_Contains_disk_file_disk_file (bodyOf Tryz.f65) (retQ PR Tryz.f65.results.toList R) (env0 [s_p0, v_p1]) w := by kernel_rfl
theorem C_slices_Contains_disk_file_disk_file {s_p0 v_p1 : Value} {w : World} {R : Value → World → Prop} (h : M_slices_Contains_disk_file_disk_file s_p0 v_p1 w R) : CALL PR F_slices_Contains_disk_file_disk_file [s_p0, v_p1] w R :=
  call_of_den2 ann_slices_Contains_disk_file_disk_file Tryz.func65 (by kernel_rfl) (by kernel_rfl) (by kernel_rfl) ((E_slices_Contains_disk_file_disk_file s_p0 v_p1 w R) ▸ h)


-- 66 (tumbrel.op.Op).kept
def M_op_Op_kept (o_p0 : Value) (w : World) (R : Value → World → Prop) : Prop :=
  NEW (newv 68 w o_p0) fun o_1 w1 =>
  NEW (newv 68 w1 (Value.agg #[(Value.int .i64 0), (Value.int .i64 0), (Value.int .u64 0), (Value.int .u64 0), (Value.string ByteArray.empty), (Value.int .u64 0), (Value.int .u64 0), (Value.int .i64 0)])) fun t2_2 w2 =>
  BND (faddr 0 o_1) fun t4_3 =>
  BND (load1 w2 t4_3) fun t5_4 =>
  BND (buildv #[(Value.int .i64 0), (Value.int .i64 0), (Value.int .u64 0), (Value.int .u64 0), (Value.string ByteArray.empty), (Value.int .u64 0), (Value.int .u64 0), (Value.int .i64 0)] [(0, 1, t5_4)]) fun t6_5 =>
  NEW (newv 68 w2 (Value.agg #[(Value.int .i64 0), (Value.int .i64 0), (Value.int .u64 0), (Value.int .u64 0), (Value.string ByteArray.empty), (Value.int .u64 0), (Value.int .u64 0), (Value.int .i64 0)])) fun k_6 w3 =>
  BND (storev 8 w3 k_6 t6_5) fun w4 =>
  BND (faddr 0 o_1) fun t7_7 =>
  BND (load1 w4 t7_7) fun t8_8 =>
  BND (binv .int .eql t8_8 (Value.int .i64 2)) fun t10_9 =>
  COND t10_9
  (∃ S_10 : Nat → World → Prop,
  S_10 3 w4.drew ∧
  S_10 5 w4.drew ∧
  BND (faddr 1 o_1) fun t24_11 =>
  BND (faddr 3 o_1) fun t26_12 =>
  FLT (S_10 3) (fun w_ => load1 w_ t26_12) fun t27_13 =>
  BND (faddr 5 o_1) fun t28_14 =>
  FLT (S_10 5) (fun w_ => loadn 3 w_ t28_14) fun t29_15 =>
  BND (load1 w4.drew t24_11) fun t25_16 =>
  BND (faddr 1 k_6) fun t30_17 =>
  BND (storev 1 w4.drew t30_17 t25_16) fun w5 =>
  S_10 3 w5 ∧
  S_10 5 w5 ∧
  BND (faddr 3 k_6) fun t31_18 =>
  BND (storev 1 w5 t31_18 t27_13) fun w6 =>
  S_10 5 w6 ∧
  BND (faddr 5 k_6) fun t32_19 =>
  BND (storev 3 w6 t32_19 t29_15) fun w7 =>
  BND (loadn 8 w7 k_6) fun t51_20 =>
  BND (storev 8 w7 t2_2 t51_20) fun w8 =>
  BND (loadn 8 w8 t2_2) fun r_21 =>
  R r_21 w8)
  (BND (binv .int .eql t8_8 (Value.int .i64 3)) fun t12_22 =>
  COND t12_22
  (∃ S_23 : Nat → World → Prop,
  S_23 3 w4.drew ∧
  BND (faddr 1 o_1) fun t33_24 =>
  BND (faddr 3 o_1) fun t35_25 =>
  FLT (S_23 3) (fun w_ => load1 w_ t35_25) fun t36_26 =>
  BND (load1 w4.drew t33_24) fun t34_27 =>
  BND (faddr 1 k_6) fun t37_28 =>
  BND (storev 1 w4.drew t37_28 t34_27) fun w9 =>
  S_23 3 w9 ∧
  BND (faddr 3 k_6) fun t38_29 =>
  BND (storev 1 w9 t38_29 t36_26) fun w10 =>
  BND (loadn 8 w10 k_6) fun t51_30 =>
  BND (storev 8 w10 t2_2 t51_30) fun w11 =>
  BND (loadn 8 w11 t2_2) fun r_31 =>
  R r_31 w11)
  (BND (binv .int .eql t8_8 (Value.int .i64 5)) fun t14_32 =>
  JOIN (α := Value → World → Prop) (fun k_75 => COND t14_32
  (k_75 t14_32 w4)
  (BND (binv .int .eql t8_8 (Value.int .i64 6)) fun t15_76 =>
  k_75 t15_76 w4))
  (fun t13_33 w12 => COND t13_33
  (BND (faddr 3 o_1) fun t39_35 =>
  BND (load1 w12 t39_35) fun t40_36 =>
  BND (faddr 3 k_6) fun t41_37 =>
  BND (storev 1 w12 t41_37 t40_36) fun w13 =>
  BND (faddr 2 o_1) fun t42_38 =>
  BND (load1 w13 t42_38) fun t43_39 =>
  BND (faddr 2 k_6) fun t44_40 =>
  BND (storev 1 w13 t44_40 t43_39) fun w14 =>
  BND (loadn 8 w14 k_6) fun t51_41 =>
  BND (storev 8 w14 t2_2 t51_41) fun w15 =>
  BND (loadn 8 w15 t2_2) fun r_42 =>
  R r_42 w15)
  (BND (binv .int .eql t8_8 (Value.int .i64 4)) fun t17_43 =>
  JOIN (α := Value → World → Prop) (fun k_69 => COND t17_43
  (k_69 t17_43 w12)
  (BND (binv .int .eql t8_8 (Value.int .i64 8)) fun t18_70 =>
  JOIN (α := Value → World → Prop) (fun k_73 => COND t18_70
  (k_73 t18_70 w12)
  (BND (binv .int .eql t8_8 (Value.int .i64 9)) fun t19_74 =>
  k_73 t19_74 w12))
  (fun t16_71 w25 => k_69 t16_71 w25)))
  (fun t16_44 w16 => COND t16_44
  (BND (faddr 2 o_1) fun t42_47 =>
  BND (load1 w16 t42_47) fun t43_48 =>
  BND (faddr 2 k_6) fun t44_49 =>
  BND (storev 1 w16 t44_49 t43_48) fun w17 =>
  BND (loadn 8 w17 k_6) fun t51_50 =>
  BND (storev 8 w17 t2_2 t51_50) fun w18 =>
  BND (loadn 8 w18 t2_2) fun r_51 =>
  R r_51 w18)
  (BND (binv .int .eql t8_8 (Value.int .i64 10)) fun t21_52 =>
  COND t21_52
  (BND (faddr 4 o_1) fun t45_53 =>
  BND (load1 w16 t45_53) fun t46_54 =>
  BND (faddr 4 k_6) fun t47_55 =>
  BND (storev 1 w16 t47_55 t46_54) fun w19 =>
  BND (faddr 3 o_1) fun t48_56 =>
  BND (load1 w19 t48_56) fun t49_57 =>
  BND (faddr 3 k_6) fun t50_58 =>
  BND (storev 1 w19 t50_58 t49_57) fun w20 =>
  BND (loadn 8 w20 k_6) fun t51_59 =>
  BND (storev 8 w20 t2_2 t51_59) fun w21 =>
  BND (loadn 8 w21 t2_2) fun r_60 =>
  R r_60 w21)
  (BND (binv .int .eql t8_8 (Value.int .i64 7)) fun t23_61 =>
  COND t23_61
  (BND (faddr 3 o_1) fun t48_62 =>
  BND (load1 w16 t48_62) fun t49_63 =>
  BND (faddr 3 k_6) fun t50_64 =>
  BND (storev 1 w16 t50_64 t49_63) fun w22 =>
  BND (loadn 8 w22 k_6) fun t51_65 =>
  BND (storev 8 w22 t2_2 t51_65) fun w23 =>
  BND (loadn 8 w23 t2_2) fun r_66 =>
  R r_66 w23)
  (BND (loadn 8 w16 k_6) fun t51_67 =>
  BND (storev 8 w16 t2_2 t51_67) fun w24 =>
  BND (loadn 8 w24 t2_2) fun r_68 =>
  R r_68 w24))))))))
def ann_op_Op_kept : List (Nat × List Nat) := [(12, [0, 2, 3, 4, 5, 1, 6, 7, 8, 9, 10, 11]), (13, [0, 2, 3, 1, 4, 5, 6, 7]), (2000012, [3, 5]), (2000013, [3]), (3012007, [3, 5]), (3012009, [5]), (3013005, [3])]
theorem E_op_Op_kept (o_p0 : Value) (w : World) (R : Value → World → Prop) : M_op_Op_kept o_p0 w R = den PR ann_op_Op_kept (bodyOf Tryz.f66) (retQ PR Tryz.f66.results.toList R) (env0 [o_p0]) w := by kernel_rfl
theorem C_op_Op_kept {o_p0 : Value} {w : World} {R : Value → World → Prop} (h : M_op_Op_kept o_p0 w R) : CALL PR F_op_Op_kept [o_p0] w R :=
  call_of_den2 ann_op_Op_kept Tryz.func66 (by kernel_rfl) (by kernel_rfl) (by kernel_rfl) ((E_op_Op_kept o_p0 w R) ▸ h)


-- 67 tumbrel.op.lane
def M_op_lane (n_p0 least_p1 : Value) (w : World) (R : Value → World → Prop) : Prop :=
  BND (binv .int .geq n_p0 least_p1) fun t7_1 =>
  BND (grd (isB t7_1 true) (some n_p0)) fun t9_2 =>
  BND (grd (isB t7_1 true) (binv .int .lss t9_2 (Value.int .i64 8))) fun t10_3 =>
  BND (pickv t7_1 t10_3 (Value.bool false)) fun t11_4 =>
  R t11_4 w
def ann_op_lane : List (Nat × List Nat) := []
theorem E_op_lane (n_p0 least_p1 : Value) (w : World) (R : Value → World → Prop) : M_op_lane n_p0 least_p1 w R = den PR ann_op_lane (bodyOf Tryz.f67) (retQ PR Tryz.f67.results.toList R) (env0 [n_p0, least_p1]) w := by kernel_rfl
theorem C_op_lane {n_p0 least_p1 : Value} {w : World} {R : Value → World → Prop} (h : M_op_lane n_p0 least_p1 w R) : CALL PR F_op_lane [n_p0, least_p1] w R :=
  call_of_den2 ann_op_lane Tryz.func67 (by kernel_rfl) (by kernel_rfl) (by kernel_rfl) ((E_op_lane n_p0 least_p1 w R) ▸ h)


-- 69 strconv.FormatUint
def M_strconv_FormatUint (i_p0 base_p1 : Value) (w : World) (R : Value → World → Prop) : Prop :=
  CALL PR F_internal_strconv_FormatUint [i_p0, base_p1] w fun t7_1 w1 =>
  R t7_1 w1
def ann_strconv_FormatUint : List (Nat × List Nat) := []
theorem E_strconv_FormatUint (i_p0 base_p1 : Value) (w : World) (R : Value → World → Prop) : M_strconv_FormatUint i_p0 base_p1 w R = den PR ann_strconv_FormatUint (bodyOf Tryz.f69) (retQ PR Tryz.f69.results.toList R) (env0 [i_p0, base_p1]) w := by kernel_rfl
theorem C_strconv_FormatUint {i_p0 base_p1 : Value} {w : World} {R : Value → World → Prop} (h : M_strconv_FormatUint i_p0 base_p1 w R) : CALL PR F_strconv_FormatUint [i_p0, base_p1] w R :=
  call_of_den2 ann_strconv_FormatUint Tryz.func69 (by kernel_rfl) (by kernel_rfl) (by kernel_rfl) ((E_strconv_FormatUint i_p0 base_p1 w R) ▸ h)


-- 70 tumbrel.disk.named
def M_disk_named (name_p0 : Value) (w : World) (R : Value → World → Prop) : Prop :=
  BND (lens name_p0) fun t6_1 =>
  BND (binv .int .eql t6_1 (Value.int .i64 0)) fun t7_2 =>
  BND (grd (isB t7_2 false) (some name_p0)) fun t9_3 =>
  BND (grd (isB t7_2 false) (lens t9_3)) fun t10_4 =>
  BND (grd (isB t7_2 false) (binv .int .gtr t10_4 (Value.int .i64 12))) fun t11_5 =>
  BND (pickv t7_2 (Value.bool true) t11_5) fun t12_6 =>
  COND t12_6
  (R (Value.bool false) w)
  (BYTES 5 name_p0 w fun t14_7 w1 =>
  BND (lenl t14_7) fun t15_8 =>
  ∃ (J_9 : Value → World → Prop) (m_9 : Value → World → Nat), J_9 (Value.int .i64 0) w1 ∧ ∀ (_d_9 : Env) (t16_12 : Value) (w2 : World), J_9 t16_12 w2 →
  (BND (binv .int .lss t16_12 t15_8) fun t17_35 =>
  COND t17_35
  (BND (iaddr 1 t14_7 t16_12) fun t18_36 =>
  BND (load1 w2 t18_36) fun t19_37 =>
  BND (binv .int .neq t19_37 (Value.int .u8 46)) fun t21_38 =>
  BND (grd (isB t21_38 true) (some t19_37)) fun t23_39 =>
  BND (grd (isB t21_38 true) (binv .int .lss t23_39 (Value.int .u8 48))) fun t24_40 =>
  BND (grd (isB t21_38 true) (some t24_40)) fun t25_41 =>
  BND (grd (isB t25_41 false) (some t19_37)) fun t26_42 =>
  BND (grd (isB t25_41 false) (binv .int .gtr t26_42 (Value.int .u8 57))) fun t27_43 =>
  BND (grd (isB t21_38 true) (pickv t25_41 (Value.bool true) t27_43)) fun t28_44 =>
  BND (pickv t21_38 t28_44 (Value.bool false)) fun t29_45 =>
  BND (grd (isB t29_45 true) (some t19_37)) fun t31_46 =>
  BND (grd (isB t29_45 true) (binv .int .lss t31_46 (Value.int .u8 97))) fun t32_47 =>
  BND (grd (isB t29_45 true) (some t32_47)) fun t33_48 =>
  BND (grd (isB t33_48 false) (some t19_37)) fun t34_49 =>
  BND (grd (isB t33_48 false) (binv .int .gtr t34_49 (Value.int .u8 122))) fun t35_50 =>
  BND (grd (isB t29_45 true) (pickv t33_48 (Value.bool true) t35_50)) fun t36_51 =>
  BND (pickv t29_45 t36_51 (Value.bool false)) fun t37_52 =>
  COND t37_52
  (R (Value.bool false) w2)
  (BND (binv .int .add t16_12 (Value.int .i64 1)) fun t38_53 =>
  (J_9 t38_53 w2 ∧ m_9 t38_53 w2 < m_9 t16_12 w2)))
  (R (Value.bool true) w2)))
def ann_disk_named : List (Nat × List Nat) := [(1000004, [16])]
theorem E_disk_named (name_p0 : Value) (w : World) (R : Value → World → Prop) : M_disk_named name_p0 w R = den PR ann_disk_named (bodyOf Tryz.f70) (retQ PR Tryz.f70.results.toList R) (env0 [name_p0]) w := by kernel_rfl
theorem C_disk_named {name_p0 : Value} {w : World} {R : Value → World → Prop} (h : M_disk_named name_p0 w R) : CALL PR F_disk_named [name_p0] w R :=
  call_of_den2 ann_disk_named Tryz.func70 (by kernel_rfl) (by kernel_rfl) (by kernel_rfl) ((E_disk_named name_p0 w R) ▸ h)


-- 71 (*tumbrel.disk.Disk).change
def M_disk_Disk_change (d_p0 : Value) (w : World) (R : Value → World → Prop) : Prop :=
  CALL PR F_disk_Disk_now [d_p0] w fun t5_1 w1 =>
  CALL PR F_maps_Clone_file [t5_1] w1 fun t6_2 w2 =>
  BND (nilchk d_p0) fun t9_3 =>
  BND (faddr 2 t9_3) fun t10_4 =>
  BND (load1 w2 t10_4) fun t11_5 =>
  BND (newslice 73 #[(Value.map none)] 1 1 [(0, 1, t6_2)] w2) fun p_ => NEW p_ fun t13_6 w3 =>
  APPEND 73 1 8 (Value.map none) t11_5 t13_6 w3 fun t14_7 w4 =>
  BND (nilchk d_p0) fun t15_8 =>
  BND (faddr 2 t15_8) fun t16_9 =>
  BND (storev 1 w4 t16_9 t14_7) fun w5 =>
  R t6_2 w5
def ann_disk_Disk_change : List (Nat × List Nat) := []
theorem E_disk_Disk_change (d_p0 : Value) (w : World) (R : Value → World → Prop) : M_disk_Disk_change d_p0 w R = den PR ann_disk_Disk_change (bodyOf Tryz.f71) (retQ PR Tryz.f71.results.toList R) (env0 [d_p0]) w := by kernel_rfl
theorem C_disk_Disk_change {d_p0 : Value} {w : World} {R : Value → World → Prop} (h : M_disk_Disk_change d_p0 w R) : CALL PR F_disk_Disk_change [d_p0] w R :=
  call_of_den2 ann_disk_Disk_change Tryz.func71 (by kernel_rfl) (by kernel_rfl) (by kernel_rfl) ((E_disk_Disk_change d_p0 w R) ▸ h)


-- 75 tumbrel.record.Right
def M_record_Right (r_p0 : Value) (w : World) (R : Value → World → Prop) : Prop :=
  NEW (newv 86 w r_p0) fun r_1 w1 =>
  ∃ S_2 : Nat → World → Prop,
  S_2 5 w1.drew ∧
  S_2 9 w1.drew ∧
  BND (faddr 0 r_1) fun t3_3 =>
  BND (load1 w1.drew t3_3) fun t4_4 =>
  CALL PR F_record_known [t4_4] w1.drew fun t5_5 w2 =>
  S_2 5 w2 ∧
  S_2 9 w2 ∧
  BND (grd (isB t5_5 true) (faddr 1 r_1)) fun t7_6 =>
  FLT (S_2 5) (fun w_ => (grd (isB t5_5 true) (load1 w_ t7_6))) fun t8_7 =>
  BND (grd (isB t5_5 true) (lenl t8_7)) fun t9_8 =>
  BND (grd (isB t5_5 true) (faddr 0 r_1)) fun t11_9 =>
  FLT (S_2 9) (fun w_ => (grd (isB t5_5 true) (load1 w_ t11_9))) fun t12_10 =>
  GEF (isB t5_5 true) (fun k_ => CALL PR F_record_numbers [] w2 k_) w2 fun t10_11 w3 =>
  S_2 5 w3 ∧
  S_2 9 w3 ∧
  BND (grd (isB t5_5 true) (indexav false 18 1 t10_11 t12_10)) fun t13_12 =>
  BND (grd (isB t5_5 true) (binv .int .eql t9_8 t13_12)) fun t14_13 =>
  BND (pickv t5_5 t14_13 (Value.bool false)) fun t15_14 =>
  BND (grd (isB t15_14 true) (faddr 0 r_1)) fun t17_15 =>
  BND (grd (isB t15_14 true) (faddr 2 r_1)) fun t19_16 =>
  BND (grd (isB t15_14 true) (load1 w3 t17_15)) fun t18_17 =>
  BND (grd (isB t15_14 true) (load1 w3 t19_16)) fun t20_18 =>
  BND (grd (isB t15_14 true) (lens t20_18)) fun t21_19 =>
  GEF (isB t15_14 true) (fun k_ => CALL PR F_record_fits [t18_17, t21_19] w3 k_) w3 fun t22_20 w4 =>
  BND (pickv t15_14 t22_20 (Value.bool false)) fun t23_21 =>
  R t23_21 w4
def ann_record_Right : List (Nat × List Nat) := [(1, [0, 1, 2, 3, 4, 5, 6, 8, 9, 7, 10, 11, 12, 13, 14, 16, 15, 17, 18, 19, 20, 21]), (2000001, [5, 9]), (3001002, [5, 9]), (3001007, [5, 9])]
theorem E_record_Right (r_p0 : Value) (w : World) (R : Value → World → Prop) : M_record_Right r_p0 w R = den PR ann_record_Right (bodyOf Tryz.f75) (retQ PR Tryz.f75.results.toList R) (env0 [r_p0]) w := by kernel_rfl
theorem C_record_Right {r_p0 : Value} {w : World} {R : Value → World → Prop} (h : M_record_Right r_p0 w R) : CALL PR F_record_Right [r_p0] w R :=
  call_of_den2 ann_record_Right Tryz.func75 (by kernel_rfl) (by kernel_rfl) (by kernel_rfl) ((E_record_Right r_p0 w R) ▸ h)


-- 76 tumbrel.frame.Bytes
def M_frame_Bytes (x_p0 : Value) (w : World) (R : Value → World → Prop) : Prop :=
  NEW (newv 138 w x_p0) fun x_1 w1 =>
  BND (faddr 1 x_1) fun t8_2 =>
  BND (load1 w1 t8_2) fun t9_3 =>
  BND (lenl t9_3) fun t10_4 =>
  BND (binv .int .gtr t10_4 (Value.int .i64 400)) fun t11_5 =>
  COND t11_5
  (R (.tuple #[(Value.slice none 0 0), (Value.int .i64 4)]) w1)
  (BND (faddr 1 x_1) fun t13_6 =>
  BND (load1 w1 t13_6) fun t14_7 =>
  BND (lenl t14_7) fun t15_8 =>
  CALL PR F_frame_low_int [t15_8] w1 fun t16_9 w2 =>
  BND (extractv t16_9 0) fun t17_10 =>
  BND (extractv t16_9 1) fun t18_11 =>
  CALL PR F_frame_low_int [t18_11] w2 fun t21_12 w3 =>
  BND (extractv t21_12 0) fun t22_13 =>
  BND (extractv t21_12 1) fun t23_14 =>
  ∃ S_15 : Nat → World → Prop,
  S_15 7 w3.drew ∧
  BND (faddr 0 x_1) fun t24_16 =>
  BND (faddr 1 x_1) fun t30_17 =>
  FLT (S_15 7) (fun w_ => load1 w_ t30_17) fun t31_18 =>
  BND (load1 w3.drew t24_16) fun t25_19 =>
  BND (newslice 5 #[(Value.int .u8 0)] 1 3 [(0, 1, t25_19), (1, 1, t17_10), (2, 1, t22_13)] w3.drew) fun p_ => NEW p_ fun t28_20 w4 =>
  S_15 7 w4 ∧
  CALL PR F_sum_Put [t28_20] w4 fun t29_21 w5 =>
  S_15 7 w5 ∧
  CALL PR F_sum_Put [t31_18] w5 fun t32_22 w6 =>
  APPEND 5 1 1 (Value.int .u8 0) t29_21 t32_22 w6 fun t33_23 w7 =>
  R (.tuple #[t33_23, (Value.int .i64 0)]) w7)
def ann_frame_Bytes : List (Nat × List Nat) := [(5, [0, 2, 3, 6, 7, 1, 4, 5, 8, 9, 10, 11]), (2000005, [7]), (3005004, [7]), (3005005, [7])]
theorem E_frame_Bytes (x_p0 : Value) (w : World) (R : Value → World → Prop) : M_frame_Bytes x_p0 w R = den PR ann_frame_Bytes (bodyOf Tryz.f76) (retQ PR Tryz.f76.results.toList R) (env0 [x_p0]) w := by kernel_rfl
theorem C_frame_Bytes {x_p0 : Value} {w : World} {R : Value → World → Prop} (h : M_frame_Bytes x_p0 w R) : CALL PR F_frame_Bytes [x_p0] w R :=
  call_of_den2 ann_frame_Bytes Tryz.func76 (by kernel_rfl) (by kernel_rfl) (by kernel_rfl) ((E_frame_Bytes x_p0 w R) ▸ h)


-- 77 tumbrel.vint.All
def M_vint_All (l_p0 : Value) (w : World) (R : Value → World → Prop) : Prop :=
  BND (lenl l_p0) fun t7_1 =>
  ∃ (J_2 : Value → Value → World → Prop) (m_2 : Value → Value → World → Nat), J_2 (Value.slice none 0 0) (Value.int .i64 0) w ∧ ∀ (_d_2 : Env) (b_3 t8_5 : Value) (w1 : World), J_2 b_3 t8_5 w1 →
  (BND (binv .int .lss t8_5 t7_1) fun t9_14 =>
  COND t9_14
  (BND (iaddr 1 l_p0 t8_5) fun t10_15 =>
  BND (load1 w1 t10_15) fun t11_16 =>
  CALL PR F_vint_Put [t11_16] w1 fun t14_17 w2 =>
  APPEND 5 1 1 (Value.int .u8 0) b_3 t14_17 w2 fun t15_18 w3 =>
  BND (binv .int .add t8_5 (Value.int .i64 1)) fun t16_19 =>
  (J_2 t15_18 t16_19 w3 ∧ m_2 t15_18 t16_19 w3 < m_2 b_3 t8_5 w1))
  (R b_3 w1))
def ann_vint_All : List (Nat × List Nat) := [(1000003, [3, 8])]
theorem E_vint_All (l_p0 : Value) (w : World) (R : Value → World → Prop) : M_vint_All l_p0 w R = den PR ann_vint_All (bodyOf Tryz.f77) (retQ PR Tryz.f77.results.toList R) (env0 [l_p0]) w := by kernel_rfl
theorem C_vint_All {l_p0 : Value} {w : World} {R : Value → World → Prop} (h : M_vint_All l_p0 w R) : CALL PR F_vint_All [l_p0] w R :=
  call_of_den2 ann_vint_All Tryz.func77 (by kernel_rfl) (by kernel_rfl) (by kernel_rfl) ((E_vint_All l_p0 w R) ▸ h)


-- 82 slices.Clone[[]byte,byte]
def M_slices_Clone_byte_byte (s_p0 : Value) (w : World) (R : Value → World → Prop) : Prop :=
  BND (binv .slc .eql s_p0 (Value.slice none 0 0)) fun t4_1 =>
  COND t4_1
  (R (Value.slice none 0 0) w)
  (BND (newslice 5 #[(Value.int .u8 0)] 1 0 [] w) fun p_ => NEW p_ fun t5_2 w1 =>
  APPEND 5 1 1 (Value.int .u8 0) t5_2 s_p0 w1 fun t7_3 w2 =>
  R t7_3 w2)
def ann_slices_Clone_byte_byte : List (Nat × List Nat) := []
theorem E_slices_Clone_byte_byte (s_p0 : Value) (w : World) (R : Value → World → Prop) : M_slices_Clone_byte_byte s_p0 w R = den PR ann_slices_Clone_byte_byte (bodyOf Tryz.f82) (retQ PR Tryz.f82.results.toList R) (env0 [s_p0]) w := by kernel_rfl
theorem C_slices_Clone_byte_byte {s_p0 : Value} {w : World} {R : Value → World → Prop} (h : M_slices_Clone_byte_byte s_p0 w R) : CALL PR F_slices_Clone_byte_byte [s_p0] w R :=
  call_of_den2 ann_slices_Clone_byte_byte Tryz.func82 (by kernel_rfl) (by kernel_rfl) (by kernel_rfl) ((E_slices_Clone_byte_byte s_p0 w R) ▸ h)


-- 83 tumbrel.frame.All
def M_frame_All (b_p0 : Value) (w : World) (R : Value → World → Prop) : Prop :=
  ∃ (J_1 : Value → Value → World → Prop) (m_1 : Value → Value → World → Nat), J_1 (Value.slice none 0 0) (Value.int .i64 0) w ∧ ∀ (_d_1 : Env) (l_5 at_6 : Value) (w1 : World), J_1 l_5 at_6 w1 →
  (BND (lenl b_p0) fun t12_34 =>
  BND (binv .int .lss at_6 t12_34) fun t13_35 =>
  COND t13_35
  (BND (slicev 1 b_p0 (some at_6) none) fun t17_36 =>
  CALL PR F_frame_Read [t17_36] w1 fun t18_37 w2 =>
  BND (extractv t18_37 0) fun t19_38 =>
  BND (extractv t18_37 1) fun t20_39 =>
  BND (extractv t18_37 2) fun t21_40 =>
  NEW (newv 138 w2 (Value.agg #[(Value.int .u8 0), (Value.slice none 0 0)])) fun x_41 w3 =>
  BND (storev 2 w3 x_41 t19_38) fun w4 =>
  BND (binv .int .neq t21_40 (Value.int .i64 0)) fun t23_42 =>
  COND t23_42
  (R (.tuple #[l_5, at_6, t21_40]) w4)
  (BND (loadn 2 w4 x_41) fun t28_43 =>
  BND (newslice 138 #[(Value.int .u8 0), (Value.slice none 0 0)] 2 1 [(0, 2, t28_43)] w4) fun p_ => NEW p_ fun t29_44 w5 =>
  APPEND 138 2 32 (Value.agg #[(Value.int .u8 0), (Value.slice none 0 0)]) l_5 t29_44 w5 fun t30_45 w6 =>
  BND (binv .int .add at_6 t20_39) fun t33_46 =>
  (J_1 t30_45 t33_46 w6 ∧ m_1 t30_45 t33_46 w6 < m_1 l_5 at_6 w1)))
  (R (.tuple #[l_5, at_6, (Value.int .i64 0)]) w1))
def ann_frame_All : List (Nat × List Nat) := [(1000003, [5, 6])]
theorem E_frame_All (b_p0 : Value) (w : World) (R : Value → World → Prop) : M_frame_All b_p0 w R = den PR ann_frame_All (bodyOf Tryz.f83) (retQ PR Tryz.f83.results.toList R) (env0 [b_p0]) w := by kernel_rfl
theorem C_frame_All {b_p0 : Value} {w : World} {R : Value → World → Prop} (h : M_frame_All b_p0 w R) : CALL PR F_frame_All [b_p0] w R :=
  call_of_den2 ann_frame_All Tryz.func83 (by kernel_rfl) (by kernel_rfl) (by kernel_rfl) ((E_frame_All b_p0 w R) ▸ h)


-- 84 tumbrel.record.Read
def M_record_Read (x_p0 : Value) (w : World) (R : Value → World → Prop) : Prop :=
  NEW (newv 138 w x_p0) fun x_1 w1 =>
  NEW (newv 86 w1 (Value.agg #[(Value.int .i64 0), (Value.slice none 0 0), (Value.string ByteArray.empty)])) fun t2_2 w2 =>
  BND (faddr 0 x_1) fun t9_3 =>
  BND (load1 w2 t9_3) fun t10_4 =>
  BND (convi .i64 t10_4) fun t11_5 =>
  BND (buildv #[(Value.int .i64 0), (Value.slice none 0 0), (Value.string ByteArray.empty)] [(0, 1, t11_5)]) fun t12_6 =>
  NEW (newv 86 w2 (Value.agg #[(Value.int .i64 0), (Value.slice none 0 0), (Value.string ByteArray.empty)])) fun r_7 w3 =>
  BND (storev 3 w3 r_7 t12_6) fun w4 =>
  BND (faddr 0 r_7) fun t13_8 =>
  BND (load1 w4 t13_8) fun t14_9 =>
  CALL PR F_record_known [t14_9] w4 fun t15_10 w5 =>
  BND (unv .not t15_10) fun t16_11 =>
  COND t16_11
  (BND (buildv #[(Value.int .i64 0), (Value.slice none 0 0), (Value.string ByteArray.empty)] []) fun t17_12 =>
  BND (storev 3 w5 t2_2 t17_12) fun w6 =>
  BND (loadn 3 w6 t2_2) fun r_13 =>
  R (.tuple #[r_13, (Value.int .i64 2)]) w6)
  (BND (faddr 1 x_1) fun t18_14 =>
  BND (load1 w5 t18_14) fun t19_15 =>
  ∃ S_16 : Nat → World → Prop,
  S_16 2 w5.drew ∧
  BND (faddr 0 r_7) fun t21_17 =>
  FLT (S_16 2) (fun w_ => load1 w_ t21_17) fun t22_18 =>
  CALL PR F_record_numbers [] w5.drew fun t20_19 w7 =>
  S_16 2 w7 ∧
  BND (indexav false 18 1 t20_19 t22_18) fun t23_20 =>
  ∃ (J_21 : Value → Value → World → Prop) (m_21 : Value → Value → World → Nat), J_21 t19_15 (Value.int .i64 0) w7 ∧ ∀ (_d_21 : Env) (rest_23 t24_27 : Value) (w8 : World), J_21 rest_23 t24_27 w8 →
  (BND (binv .int .lss t24_27 t23_20) fun t25_49 =>
  COND t25_49
  (CALL PR F_vint_Get [rest_23] w8 fun t28_50 w9 =>
  BND (extractv t28_50 0) fun t29_51 =>
  BND (extractv t28_50 1) fun t30_52 =>
  BND (extractv t28_50 2) fun t31_53 =>
  BND (binv .int .neq t31_53 (Value.int .i64 0)) fun t33_54 =>
  COND t33_54
  (BND (buildv #[(Value.int .i64 0), (Value.slice none 0 0), (Value.string ByteArray.empty)] []) fun t34_55 =>
  BND (storev 3 w9 t2_2 t34_55) fun w10 =>
  BND (loadn 3 w10 t2_2) fun r_56 =>
  R (.tuple #[r_56, t31_53]) w10)
  (∃ S_57 : Nat → World → Prop,
  S_57 1 w9.drew ∧
  BND (faddr 1 r_7) fun t36_58 =>
  FLT (S_57 1) (fun w_ => load1 w_ t36_58) fun t37_59 =>
  BND (slicev 1 rest_23 (some t30_52) none) fun t43_60 =>
  BND (newslice 32 #[(Value.int .u64 0)] 1 1 [(0, 1, t29_51)] w9.drew) fun p_ => NEW p_ fun t39_61 w11 =>
  S_57 1 w11 ∧
  APPEND 32 1 8 (Value.int .u64 0) t37_59 t39_61 w11 fun t40_62 w12 =>
  BND (faddr 1 r_7) fun t44_63 =>
  BND (storev 1 w12 t44_63 t40_62) fun w13 =>
  BND (binv .int .add t24_27 (Value.int .i64 1)) fun t45_64 =>
  (J_21 t43_60 t45_64 w13 ∧ m_21 t43_60 t45_64 w13 < m_21 rest_23 t24_27 w8)))
  (BND (faddr 0 r_7) fun t46_65 =>
  BND (load1 w8 t46_65) fun t47_66 =>
  BND (lenl rest_23) fun t49_67 =>
  CALL PR F_record_fits [t47_66, t49_67] w8 fun t50_68 w14 =>
  BND (unv .not t50_68) fun t51_69 =>
  COND t51_69
  (BND (buildv #[(Value.int .i64 0), (Value.slice none 0 0), (Value.string ByteArray.empty)] []) fun t52_70 =>
  BND (storev 3 w14 t2_2 t52_70) fun w15 =>
  BND (loadn 3 w15 t2_2) fun r_71 =>
  R (.tuple #[r_71, (Value.int .i64 2)]) w15)
  (BND (textv .u8 textOfBytes w14 rest_23) fun t54_72 =>
  BND (faddr 2 r_7) fun t55_73 =>
  BND (storev 1 w14 t55_73 t54_72) fun w16 =>
  BND (loadn 3 w16 r_7) fun t56_74 =>
  BND (storev 3 w16 t2_2 t56_74) fun w17 =>
  BND (loadn 3 w17 t2_2) fun r_75 =>
  R (.tuple #[r_75, (Value.int .i64 0)]) w17))))
def ann_record_Read : List (Nat × List Nat) := [(5, [1, 2, 4, 0, 3]), (10, [0, 1, 2, 5, 6, 7, 3, 4, 8, 9, 10]), (1000006, [5, 24]), (2000005, [2]), (2000010, [1]), (3005000, [2]), (3010003, [1])]
theorem E_record_Read (x_p0 : Value) (w : World) (R : Value → World → Prop) : M_record_Read x_p0 w R = den PR ann_record_Read (bodyOf Tryz.f84) (retQ PR Tryz.f84.results.toList R) (env0 [x_p0]) w := by kernel_rfl
theorem C_record_Read {x_p0 : Value} {w : World} {R : Value → World → Prop} (h : M_record_Read x_p0 w R) : CALL PR F_record_Read [x_p0] w R :=
  call_of_den2 ann_record_Read Tryz.func84 (by kernel_rfl) (by kernel_rfl) (by kernel_rfl) ((E_record_Read x_p0 w R) ▸ h)


-- 85 tumbrel.op.Of$1
def M_op_Of_1 (a_p0 : Value) (w : World) (R : Value → World → Prop) : Prop :=
  BND (load1 w a_p0) fun t3_1 =>
  BND (iaddr 1 t3_1 (Value.int .i64 0)) fun t4_2 =>
  BND (load1 w t4_2) fun t5_3 =>
  BND (load1 w a_p0) fun t6_4 =>
  BND (slicev 1 t6_4 (some (Value.int .i64 1)) none) fun t7_5 =>
  BND (storev 1 w a_p0 t7_5) fun w1 =>
  R t5_3 w1
def ann_op_Of_1 : List (Nat × List Nat) := []
theorem E_op_Of_1 (a_p0 : Value) (w : World) (R : Value → World → Prop) : M_op_Of_1 a_p0 w R = den PR ann_op_Of_1 (bodyOf Tryz.f85) (retQ PR Tryz.f85.results.toList R) (env0 [a_p0]) w := by kernel_rfl
theorem C_op_Of_1 {a_p0 : Value} {w : World} {R : Value → World → Prop} (h : M_op_Of_1 a_p0 w R) : CALL PR F_op_Of_1 [a_p0] w R :=
  call_of_den2 ann_op_Of_1 Tryz.func85 (by kernel_rfl) (by kernel_rfl) (by kernel_rfl) ((E_op_Of_1 a_p0 w R) ▸ h)


-- 86 tumbrel.op.Of$2
def M_op_Of_2 (a_p0 : Value) (w : World) (R : Value → World → Prop) : Prop :=
  BND (load1 w a_p0) fun t2_1 =>
  CALLV PR t2_1 [] w fun t3_2 w1 =>
  BND (min2v t3_2 (Value.int .u64 1048576)) fun t4_3 =>
  BND (convi .i64 t4_3) fun t5_4 =>
  R t5_4 w1
def ann_op_Of_2 : List (Nat × List Nat) := []
theorem E_op_Of_2 (a_p0 : Value) (w : World) (R : Value → World → Prop) : M_op_Of_2 a_p0 w R = den PR ann_op_Of_2 (bodyOf Tryz.f86) (retQ PR Tryz.f86.results.toList R) (env0 [a_p0]) w := by kernel_rfl
theorem C_op_Of_2 {a_p0 : Value} {w : World} {R : Value → World → Prop} (h : M_op_Of_2 a_p0 w R) : CALL PR F_op_Of_2 [a_p0] w R :=
  call_of_den2 ann_op_Of_2 Tryz.func86 (by kernel_rfl) (by kernel_rfl) (by kernel_rfl) ((E_op_Of_2 a_p0 w R) ▸ h)


-- 92 slices.Index[[]*tumbrel.disk.file,*tumbrel.disk.file]
def M_slices_Index_disk_file_disk_file (s_p0 v_p1 : Value) (w : World) (R : Value → World → Prop) : Prop :=
  BND (lenl s_p0) fun t7_1 =>
  ∃ (J_2 : Value → World → Prop) (m_2 : Value → World → Nat), J_2 (Value.int .i64 0) w ∧ ∀ (_d_2 : Env) (t8_5 : Value) (w1 : World), J_2 t8_5 w1 →
  (BND (binv .int .lss t8_5 t7_1) fun t9_16 =>
  COND t9_16
  (BND (iaddr 1 s_p0 t8_5) fun t14_17 =>
  BND (load1 w1 t14_17) fun t15_18 =>
  BND (ptrv w1 .eql v_p1 t15_18) fun t16_19 =>
  COND t16_19
  (R t8_5 w1)
  (BND (binv .int .add t8_5 (Value.int .i64 1)) fun t18_20 =>
  (J_2 t18_20 w1 ∧ m_2 t18_20 w1 < m_2 t8_5 w1)))
  (R (Value.int .i64 (-1)) w1))
def ann_slices_Index_disk_file_disk_file : List (Nat × List Nat) := [(1000002, [8])]
theorem E_slices_Index_disk_file_disk_file (s_p0 v_p1 : Value) (w : World) (R : Value → World → Prop) : M_slices_Index_disk_file_disk_file s_p0 v_p1 w R = den PR ann_slices_Index_disk_file_disk_file (bodyOf Tryz.f92) (retQ PR Tryz.f92.results.toList R) (env0 [s_p0, v_p1]) w := by kernel_rfl
theorem C_slices_Index_disk_file_disk_file {s_p0 v_p1 : Value} {w : World} {R : Value → World → Prop} (h : M_slices_Index_disk_file_disk_file s_p0 v_p1 w R) : CALL PR F_slices_Index_disk_file_disk_file [s_p0, v_p1] w R :=
  call_of_den2 ann_slices_Index_disk_file_disk_file Tryz.func92 (by kernel_rfl) (by kernel_rfl) (by kernel_rfl) ((E_slices_Index_disk_file_disk_file s_p0 v_p1 w R) ▸ h)


-- 94 internal.strconv.FormatUint
def M_internal_strconv_FormatUint (i_p0 base_p1 : Value) (w : World) (R : Value → World → Prop) : Prop :=
  BND (binv .int .eql base_p1 (Value.int .i64 10)) fun t10_1 =>
  COND t10_1
  (BND (binv .int .lss i_p0 (Value.int .u64 100)) fun t12_2 =>
  COND t12_2
  (BND (convi .i64 i_p0) fun t14_3 =>
  CALL PR F_internal_strconv_small [t14_3] w fun t15_4 w1 =>
  R t15_4 w1)
  (NEW (newv 176 w (Value.agg #[(Value.int .u8 0), (Value.int .u8 0), (Value.int .u8 0), (Value.int .u8 0), (Value.int .u8 0), (Value.int .u8 0), (Value.int .u8 0), (Value.int .u8 0), (Value.int .u8 0), (Value.int .u8 0), (Value.int .u8 0), (Value.int .u8 0), (Value.int .u8 0), (Value.int .u8 0), (Value.int .u8 0), (Value.int .u8 0), (Value.int .u8 0), (Value.int .u8 0), (Value.int .u8 0), (Value.int .u8 0), (Value.int .u8 0), (Value.int .u8 0), (Value.int .u8 0), (Value.int .u8 0)])) fun a_5 w2 =>
  CALL PR F_internal_strconv_numDigits [i_p0] w2 fun t17_6 w3 =>
  BND (slicea 24 1 a_5 none (some t17_6) none) fun t19_7 =>
  CALL PR F_internal_strconv_formatBase10 [t19_7, i_p0] w3 fun t21_8 w4 =>
  BND (slicea 24 1 a_5 none (some t17_6) none) fun t23_9 =>
  BND (textv .u8 textOfBytes w4 t23_9) fun t24_10 =>
  R t24_10 w4))
  (CALL PR F_internal_strconv_formatBits [(Value.slice none 0 0), i_p0, base_p1, (Value.bool false), (Value.bool false)] w fun t28_11 w5 =>
  BND (extractv t28_11 0) fun t29_12 =>
  BND (extractv t28_11 1) fun t30_13 =>
  R t30_13 w5)
def ann_internal_strconv_FormatUint : List (Nat × List Nat) := []
theorem E_internal_strconv_FormatUint (i_p0 base_p1 : Value) (w : World) (R : Value → World → Prop) : M_internal_strconv_FormatUint i_p0 base_p1 w R = den PR ann_internal_strconv_FormatUint (bodyOf Tryz.f94) (retQ PR Tryz.f94.results.toList R) (env0 [i_p0, base_p1]) w := by kernel_rfl
theorem C_internal_strconv_FormatUint {i_p0 base_p1 : Value} {w : World} {R : Value → World → Prop} (h : M_internal_strconv_FormatUint i_p0 base_p1 w R) : CALL PR F_internal_strconv_FormatUint [i_p0, base_p1] w R :=
  call_of_den2 ann_internal_strconv_FormatUint Tryz.func94 (by kernel_rfl) (by kernel_rfl) (by kernel_rfl) ((E_internal_strconv_FormatUint i_p0 base_p1 w R) ▸ h)


-- 96 tumbrel.record.known
def M_record_known (kind_p0 : Value) (w : World) (R : Value → World → Prop) : Prop :=
  BND (binv .int .geq kind_p0 (Value.int .i64 1)) fun t4_1 =>
  BND (grd (isB t4_1 true) (some kind_p0)) fun t6_2 =>
  BND (grd (isB t4_1 true) (binv .int .leq t6_2 (Value.int .i64 17))) fun t7_3 =>
  BND (pickv t4_1 t7_3 (Value.bool false)) fun t8_4 =>
  R t8_4 w
def ann_record_known : List (Nat × List Nat) := []
theorem E_record_known (kind_p0 : Value) (w : World) (R : Value → World → Prop) : M_record_known kind_p0 w R = den PR ann_record_known (bodyOf Tryz.f96) (retQ PR Tryz.f96.results.toList R) (env0 [kind_p0]) w := by kernel_rfl
theorem C_record_known {kind_p0 : Value} {w : World} {R : Value → World → Prop} (h : M_record_known kind_p0 w R) : CALL PR F_record_known [kind_p0] w R :=
  call_of_den2 ann_record_known Tryz.func96 (by kernel_rfl) (by kernel_rfl) (by kernel_rfl) ((E_record_known kind_p0 w R) ▸ h)


-- 97 tumbrel.record.numbers
def M_record_numbers (w : World) (R : Value → World → Prop) : Prop :=
  NEW (newv 159 w (Value.agg #[(Value.int .i64 0), (Value.int .i64 0), (Value.int .i64 0), (Value.int .i64 0), (Value.int .i64 0), (Value.int .i64 0), (Value.int .i64 0), (Value.int .i64 0), (Value.int .i64 0), (Value.int .i64 0), (Value.int .i64 0), (Value.int .i64 0), (Value.int .i64 0), (Value.int .i64 0), (Value.int .i64 0), (Value.int .i64 0), (Value.int .i64 0), (Value.int .i64 0)])) fun t0_1 w1 =>
  BND (buildv #[(Value.int .i64 0), (Value.int .i64 0), (Value.int .i64 0), (Value.int .i64 0), (Value.int .i64 0), (Value.int .i64 0), (Value.int .i64 0), (Value.int .i64 0), (Value.int .i64 0), (Value.int .i64 0), (Value.int .i64 0), (Value.int .i64 0), (Value.int .i64 0), (Value.int .i64 0), (Value.int .i64 0), (Value.int .i64 0), (Value.int .i64 0), (Value.int .i64 0)] [(2, 1, (Value.int .i64 5)), (3, 1, (Value.int .i64 2)), (4, 1, (Value.int .i64 1)), (5, 1, (Value.int .i64 2)), (6, 1, (Value.int .i64 2)), (7, 1, (Value.int .i64 1)), (8, 1, (Value.int .i64 1)), (9, 1, (Value.int .i64 1)), (10, 1, (Value.int .i64 1)), (11, 1, (Value.int .i64 1)), (12, 1, (Value.int .i64 5)), (13, 1, (Value.int .i64 7)), (14, 1, (Value.int .i64 10)), (15, 1, (Value.int .i64 2)), (16, 1, (Value.int .i64 1)), (17, 1, (Value.int .i64 1))]) fun t1_2 =>
  BND (storev 18 w1 t0_1 t1_2) fun w2 =>
  BND (loadn 18 w2 t0_1) fun r_3 =>
  R r_3 w2
def ann_record_numbers : List (Nat × List Nat) := []
theorem E_record_numbers (w : World) (R : Value → World → Prop) : M_record_numbers w R = den PR ann_record_numbers (bodyOf Tryz.f97) (retQ PR Tryz.f97.results.toList R) (env0 []) w := by kernel_rfl
theorem C_record_numbers {w : World} {R : Value → World → Prop} (h : M_record_numbers w R) : CALL PR F_record_numbers [] w R :=
  call_of_den2 ann_record_numbers Tryz.func97 (by kernel_rfl) (by kernel_rfl) (by kernel_rfl) ((E_record_numbers w R) ▸ h)


-- 98 tumbrel.record.fits
def M_record_fits (kind_p0 many_p1 : Value) (w : World) (R : Value → World → Prop) : Prop :=
  BND (binv .int .eql many_p1 (Value.int .i64 0)) fun t6_1 =>
  BND (grd (isB t6_1 false) (some kind_p0)) fun t8_2 =>
  GEF (isB t6_1 false) (fun k_ => CALL PR F_record_worded [t8_2] w k_) w fun t9_3 w1 =>
  BND (grd (isB t6_1 false) (some t9_3)) fun t10_4 =>
  BND (grd (isB t10_4 true) (some many_p1)) fun t11_5 =>
  BND (grd (isB t10_4 true) (binv .int .leq t11_5 (Value.int .i64 64))) fun t12_6 =>
  BND (grd (isB t6_1 false) (pickv t10_4 t12_6 (Value.bool false))) fun t13_7 =>
  BND (pickv t6_1 (Value.bool true) t13_7) fun t14_8 =>
  R t14_8 w1
def ann_record_fits : List (Nat × List Nat) := []
theorem E_record_fits (kind_p0 many_p1 : Value) (w : World) (R : Value → World → Prop) : M_record_fits kind_p0 many_p1 w R = den PR ann_record_fits (bodyOf Tryz.f98) (retQ PR Tryz.f98.results.toList R) (env0 [kind_p0, many_p1]) w := by kernel_rfl
theorem C_record_fits {kind_p0 many_p1 : Value} {w : World} {R : Value → World → Prop} (h : M_record_fits kind_p0 many_p1 w R) : CALL PR F_record_fits [kind_p0, many_p1] w R :=
  call_of_den2 ann_record_fits Tryz.func98 (by kernel_rfl) (by kernel_rfl) (by kernel_rfl) ((E_record_fits kind_p0 many_p1 w R) ▸ h)


-- 99 tumbrel.frame.low[int]
def M_frame_low_int (n_p0 : Value) (w : World) (R : Value → World → Prop) : Prop :=
  BND (binv .int .and n_p0 (Value.int .i64 255)) fun t5_1 =>
  BND (convi .u8 t5_1) fun t6_2 =>
  BND (shiftv .shr n_p0 (Value.int .u64 8)) fun t8_3 =>
  R (.tuple #[t6_2, t8_3]) w
def ann_frame_low_int : List (Nat × List Nat) := []
theorem E_frame_low_int (n_p0 : Value) (w : World) (R : Value → World → Prop) : M_frame_low_int n_p0 w R = den PR ann_frame_low_int (bodyOf Tryz.f99) (retQ PR Tryz.f99.results.toList R) (env0 [n_p0]) w := by kernel_rfl
theorem C_frame_low_int {n_p0 : Value} {w : World} {R : Value → World → Prop} (h : M_frame_low_int n_p0 w R) : CALL PR F_frame_low_int [n_p0] w R :=
  call_of_den2 ann_frame_low_int Tryz.func99 (by kernel_rfl) (by kernel_rfl) (by kernel_rfl) ((E_frame_low_int n_p0 w R) ▸ h)


-- 100 tumbrel.sum.Put
def M_sum_Put (b_p0 : Value) (w : World) (R : Value → World → Prop) : Prop :=
  CALL PR F_sum_Of [b_p0] w fun t5_1 w1 =>
  CALL PR F_sum_four [t5_1] w1 fun t6_2 w2 =>
  BND (newslice 35 #[(Value.slice none 0 0)] 1 2 [(0, 1, b_p0), (1, 1, t6_2)] w2) fun p_ => NEW p_ fun t7_3 w3 =>
  CALL PR F_slices_Concat_byte_byte [t7_3] w3 fun t8_4 w4 =>
  R t8_4 w4
def ann_sum_Put : List (Nat × List Nat) := []
theorem E_sum_Put (b_p0 : Value) (w : World) (R : Value → World → Prop) : M_sum_Put b_p0 w R = den PR ann_sum_Put (bodyOf Tryz.f100) (retQ PR Tryz.f100.results.toList R) (env0 [b_p0]) w := by kernel_rfl
theorem C_sum_Put {b_p0 : Value} {w : World} {R : Value → World → Prop} (h : M_sum_Put b_p0 w R) : CALL PR F_sum_Put [b_p0] w R :=
  call_of_den2 ann_sum_Put Tryz.func100 (by kernel_rfl) (by kernel_rfl) (by kernel_rfl) ((E_sum_Put b_p0 w R) ▸ h)


-- 101 tumbrel.vint.Put
def M_vint_Put (n_p0 : Value) (w : World) (R : Value → World → Prop) : Prop :=
  NEW (newv 186 w (Value.agg #[(Value.int .u8 0), (Value.int .u8 0), (Value.int .u8 0), (Value.int .u8 0), (Value.int .u8 0), (Value.int .u8 0), (Value.int .u8 0), (Value.int .u8 0), (Value.int .u8 0), (Value.int .u8 0)])) fun b_1 w1 =>
  CALL PR F_vint_lay [b_1, n_p0] w1 fun t6_2 w2 =>
  BND (slicea 10 1 b_1 none (some t6_2) (some t6_2)) fun t9_3 =>
  R t9_3 w2
def ann_vint_Put : List (Nat × List Nat) := []
theorem E_vint_Put (n_p0 : Value) (w : World) (R : Value → World → Prop) : M_vint_Put n_p0 w R = den PR ann_vint_Put (bodyOf Tryz.f101) (retQ PR Tryz.f101.results.toList R) (env0 [n_p0]) w := by kernel_rfl
theorem C_vint_Put {n_p0 : Value} {w : World} {R : Value → World → Prop} (h : M_vint_Put n_p0 w R) : CALL PR F_vint_Put [n_p0] w R :=
  call_of_den2 ann_vint_Put Tryz.func101 (by kernel_rfl) (by kernel_rfl) (by kernel_rfl) ((E_vint_Put n_p0 w R) ▸ h)


-- 106 tumbrel.frame.Read
def M_frame_Read (b_p0 : Value) (w : World) (R : Value → World → Prop) : Prop :=
  NEW (newv 138 w (Value.agg #[(Value.int .u8 0), (Value.slice none 0 0)])) fun t2_1 w1 =>
  BND (lenl b_p0) fun t11_2 =>
  BND (binv .int .lss t11_2 (Value.int .i64 7)) fun t12_3 =>
  COND t12_3
  (BND (buildv #[(Value.int .u8 0), (Value.slice none 0 0)] []) fun t13_4 =>
  BND (storev 2 w1 t2_1 t13_4) fun w2 =>
  BND (loadn 2 w2 t2_1) fun r_5 =>
  R (.tuple #[r_5, (Value.int .i64 0), (Value.int .i64 3)]) w2)
  (BND (slicev 1 b_p0 none (some (Value.int .i64 7))) fun t16_6 =>
  CALL PR F_sum_Cut [t16_6] w1 fun t17_7 w3 =>
  BND (extractv t17_7 0) fun t18_8 =>
  BND (extractv t17_7 1) fun t19_9 =>
  BND (unv .not t19_9) fun t21_10 =>
  COND t21_10
  (BND (buildv #[(Value.int .u8 0), (Value.slice none 0 0)] []) fun t22_11 =>
  BND (storev 2 w3 t2_1 t22_11) fun w4 =>
  BND (loadn 2 w4 t2_1) fun r_12 =>
  R (.tuple #[r_12, (Value.int .i64 0), (Value.int .i64 8)]) w4)
  (BND (iaddr 1 t18_8 (Value.int .i64 1)) fun t24_13 =>
  BND (iaddr 1 t18_8 (Value.int .i64 2)) fun t28_14 =>
  BND (load1 w3.drew t24_13) fun t25_15 =>
  BND (convi .i64 t25_15) fun t26_16 =>
  BND (load1 w3.drew t28_14) fun t29_17 =>
  BND (convi .i64 t29_17) fun t30_18 =>
  BND (shiftv .shl t30_18 (Value.int .u64 8)) fun t31_19 =>
  BND (binv .int .or t26_16 t31_19) fun t32_20 =>
  BND (binv .int .add (Value.int .i64 7) t32_20) fun t34_21 =>
  BND (binv .int .add t34_21 (Value.int .i64 4)) fun t35_22 =>
  BND (binv .int .gtr t32_20 (Value.int .i64 400)) fun t38_23 =>
  COND t38_23
  (BND (buildv #[(Value.int .u8 0), (Value.slice none 0 0)] []) fun t39_24 =>
  BND (storev 2 w3.drew t2_1 t39_24) fun w5 =>
  BND (loadn 2 w5 t2_1) fun r_25 =>
  R (.tuple #[r_25, (Value.int .i64 0), (Value.int .i64 2)]) w5)
  (BND (lenl b_p0) fun t42_26 =>
  BND (binv .int .lss t42_26 t35_22) fun t44_27 =>
  COND t44_27
  (BND (buildv #[(Value.int .u8 0), (Value.slice none 0 0)] []) fun t45_28 =>
  BND (storev 2 w3.drew t2_1 t45_28) fun w6 =>
  BND (loadn 2 w6 t2_1) fun r_29 =>
  R (.tuple #[r_29, (Value.int .i64 0), (Value.int .i64 3)]) w6)
  (BND (slicev 1 b_p0 (some (Value.int .i64 7)) (some t35_22)) fun t49_30 =>
  CALL PR F_sum_Cut [t49_30] w3.drew fun t50_31 w7 =>
  BND (extractv t50_31 0) fun t51_32 =>
  BND (extractv t50_31 1) fun t52_33 =>
  BND (unv .not t52_33) fun t54_34 =>
  COND t54_34
  (BND (buildv #[(Value.int .u8 0), (Value.slice none 0 0)] []) fun t55_35 =>
  BND (storev 2 w7 t2_1 t55_35) fun w8 =>
  BND (loadn 2 w8 t2_1) fun r_36 =>
  R (.tuple #[r_36, (Value.int .i64 0), (Value.int .i64 8)]) w8)
  (BND (iaddr 1 t18_8 (Value.int .i64 0)) fun t57_37 =>
  BND (load1 w7 t57_37) fun t58_38 =>
  BND (buildv #[(Value.int .u8 0), (Value.slice none 0 0)] [(0, 1, t58_38), (1, 1, t51_32)]) fun t60_39 =>
  BND (storev 2 w7 t2_1 t60_39) fun w9 =>
  BND (loadn 2 w9 t2_1) fun r_40 =>
  R (.tuple #[r_40, t35_22, (Value.int .i64 0)]) w9)))))
def ann_frame_Read : List (Nat × List Nat) := [(6, [0, 1, 4, 5, 2, 3, 6, 7, 8, 9, 10])]
theorem E_frame_Read (b_p0 : Value) (w : World) (R : Value → World → Prop) : M_frame_Read b_p0 w R = den PR ann_frame_Read (bodyOf Tryz.f106) (retQ PR Tryz.f106.results.toList R) (env0 [b_p0]) w := by kernel_rfl
theorem C_frame_Read {b_p0 : Value} {w : World} {R : Value → World → Prop} (h : M_frame_Read b_p0 w R) : CALL PR F_frame_Read [b_p0] w R :=
  call_of_den2 ann_frame_Read Tryz.func106 (by kernel_rfl) (by kernel_rfl) (by kernel_rfl) ((E_frame_Read b_p0 w R) ▸ h)


-- 107 tumbrel.vint.Get
def M_vint_Get (b_p0 : Value) (w : World) (R : Value → World → Prop) : Prop :=
  BND (lenl b_p0) fun t9_1 =>
  ∃ (J_2 : Value → Value → World → Prop) (m_2 : Value → Value → World → Nat), J_2 (Value.int .u64 0) (Value.int .i64 0) w ∧ ∀ (_d_2 : Env) (n_6 t10_9 : Value) (w1 : World), J_2 n_6 t10_9 w1 →
  (BND (binv .int .lss t10_9 t9_1) fun t11_40 =>
  COND t11_40
  (BND (iaddr 1 b_p0 t10_9) fun t13_41 =>
  BND (load1 w1 t13_41) fun t14_42 =>
  BND (binv .int .eql t10_9 (Value.int .i64 9)) fun t16_43 =>
  BND (grd (isB t16_43 true) (some t14_42)) fun t18_44 =>
  BND (grd (isB t16_43 true) (binv .int .gtr t18_44 (Value.int .u8 1))) fun t19_45 =>
  BND (pickv t16_43 t19_45 (Value.bool false)) fun t20_46 =>
  COND t20_46
  (R (.tuple #[(Value.int .u64 0), (Value.int .i64 0), (Value.int .i64 2)]) w1)
  (BND (binv .int .rem t14_42 (Value.int .u8 128)) fun t23_47 =>
  BND (convi .u64 t23_47) fun t24_48 =>
  BND (binv .int .mul (Value.int .i64 7) t10_9) fun t26_49 =>
  BND (shiftv .shl t24_48 t26_49) fun t27_50 =>
  BND (binv .int .or n_6 t27_50) fun t28_51 =>
  BND (binv .int .geq t14_42 (Value.int .u8 128)) fun t30_52 =>
  COND t30_52
  (BND (binv .int .add t10_9 (Value.int .i64 1)) fun t40_53 =>
  (J_2 t28_51 t40_53 w1 ∧ m_2 t28_51 t40_53 w1 < m_2 n_6 t10_9 w1))
  (BND (binv .int .eql t14_42 (Value.int .u8 0)) fun t32_54 =>
  BND (grd (isB t32_54 true) (some t10_9)) fun t34_55 =>
  BND (grd (isB t32_54 true) (binv .int .gtr t34_55 (Value.int .i64 0))) fun t35_56 =>
  BND (pickv t32_54 t35_56 (Value.bool false)) fun t36_57 =>
  COND t36_57
  (R (.tuple #[(Value.int .u64 0), (Value.int .i64 0), (Value.int .i64 2)]) w1)
  (BND (binv .int .add t10_9 (Value.int .i64 1)) fun t39_58 =>
  R (.tuple #[t28_51, t39_58, (Value.int .i64 0)]) w1))))
  (R (.tuple #[(Value.int .u64 0), (Value.int .i64 0), (Value.int .i64 3)]) w1))
def ann_vint_Get : List (Nat × List Nat) := [(1000003, [5, 10])]
theorem E_vint_Get (b_p0 : Value) (w : World) (R : Value → World → Prop) : M_vint_Get b_p0 w R = den PR ann_vint_Get (bodyOf Tryz.f107) (retQ PR Tryz.f107.results.toList R) (env0 [b_p0]) w := by kernel_rfl
theorem C_vint_Get {b_p0 : Value} {w : World} {R : Value → World → Prop} (h : M_vint_Get b_p0 w R) : CALL PR F_vint_Get [b_p0] w R :=
  call_of_den2 ann_vint_Get Tryz.func107 (by kernel_rfl) (by kernel_rfl) (by kernel_rfl) ((E_vint_Get b_p0 w R) ▸ h)


-- 119 tumbrel.record.worded
def M_record_worded (kind_p0 : Value) (w : World) (R : Value → World → Prop) : Prop :=
  BND (binv .int .eql kind_p0 (Value.int .i64 10)) fun t4_1 =>
  BND (grd (isB t4_1 false) (some kind_p0)) fun t6_2 =>
  BND (grd (isB t4_1 false) (binv .int .eql t6_2 (Value.int .i64 11))) fun t7_3 =>
  BND (pickv t4_1 (Value.bool true) t7_3) fun t8_4 =>
  BND (grd (isB t8_4 false) (some kind_p0)) fun t10_5 =>
  BND (grd (isB t8_4 false) (binv .int .eql t10_5 (Value.int .i64 16))) fun t11_6 =>
  BND (pickv t8_4 (Value.bool true) t11_6) fun t12_7 =>
  R t12_7 w
def ann_record_worded : List (Nat × List Nat) := []
theorem E_record_worded (kind_p0 : Value) (w : World) (R : Value → World → Prop) : M_record_worded kind_p0 w R = den PR ann_record_worded (bodyOf Tryz.f119) (retQ PR Tryz.f119.results.toList R) (env0 [kind_p0]) w := by kernel_rfl
theorem C_record_worded {kind_p0 : Value} {w : World} {R : Value → World → Prop} (h : M_record_worded kind_p0 w R) : CALL PR F_record_worded [kind_p0] w R :=
  call_of_den2 ann_record_worded Tryz.func119 (by kernel_rfl) (by kernel_rfl) (by kernel_rfl) ((E_record_worded kind_p0 w R) ▸ h)


-- 120 slices.Concat[[]byte,byte]
def M_slices_Concat_byte_byte (slices_p0 : Value) (w : World) (R : Value → World → Prop) : Prop :=
  BND (lenl slices_p0) fun t10_1 =>
  ∃ (J_2 : Value → Value → World → Prop) (m_2 : Value → Value → World → Nat), J_2 (Value.int .i64 0) (Value.int .i64 0) w ∧ ∀ (_d_2 : Env) (size_3 t11_5 : Value) (w1 : World), J_2 size_3 t11_5 w1 →
  (BND (binv .int .lss t11_5 t10_1) fun t12_17 =>
  COND t12_17
  (BND (iaddr 1 slices_p0 t11_5) fun t13_18 =>
  BND (load1 w1 t13_18) fun t14_19 =>
  BND (lenl t14_19) fun t17_20 =>
  BND (binv .int .add size_3 t17_20) fun t18_21 =>
  BND (binv .int .lss t18_21 (Value.int .i64 0)) fun t20_22 =>
  COND t20_22
  (False)
  (BND (binv .int .add t11_5 (Value.int .i64 1)) fun t22_23 =>
  (J_2 t18_21 t22_23 w1 ∧ m_2 t18_21 t22_23 w1 < m_2 size_3 t11_5 w1)))
  (CALL PR F_slices_Grow_byte_byte [(Value.slice none 0 0), size_3] w1 fun t24_24 w2 =>
  BND (lenl slices_p0) fun t26_25 =>
  ∃ (J_26 : Value → Value → World → Prop) (m_26 : Value → Value → World → Nat), J_26 t24_24 (Value.int .i64 0) w2 ∧ ∀ (_d_26 : Env) (newslice_27 t27_29 : Value) (w3 : World), J_26 newslice_27 t27_29 w3 →
  (BND (binv .int .lss t27_29 t26_25) fun t28_37 =>
  COND t28_37
  (BND (iaddr 1 slices_p0 t27_29) fun t29_38 =>
  BND (load1 w3 t29_38) fun t30_39 =>
  APPEND 5 1 1 (Value.int .u8 0) newslice_27 t30_39 w3 fun t33_40 w4 =>
  BND (binv .int .add t27_29 (Value.int .i64 1)) fun t34_41 =>
  (J_26 t33_40 t34_41 w4 ∧ m_26 t33_40 t34_41 w4 < m_26 newslice_27 t27_29 w3))
  (R newslice_27 w3))))
def ann_slices_Concat_byte_byte : List (Nat × List Nat) := [(1000003, [3, 11]), (1000011, [6, 27])]
theorem E_slices_Concat_byte_byte (slices_p0 : Value) (w : World) (R : Value → World → Prop) : M_slices_Concat_byte_byte slices_p0 w R = den PR ann_slices_Concat_byte_byte (bodyOf Tryz.f120) (retQ PR Tryz.f120.results.toList R) (env0 [slices_p0]) w := by kernel_rfl
theorem C_slices_Concat_byte_byte {slices_p0 : Value} {w : World} {R : Value → World → Prop} (h : M_slices_Concat_byte_byte slices_p0 w R) : CALL PR F_slices_Concat_byte_byte [slices_p0] w R :=
  call_of_den2 ann_slices_Concat_byte_byte Tryz.func120 (by kernel_rfl) (by kernel_rfl) (by kernel_rfl) ((E_slices_Concat_byte_byte slices_p0 w R) ▸ h)


-- 121 tumbrel.sum.four
def M_sum_four (n_p0 : Value) (w : World) (R : Value → World → Prop) : Prop :=
  BND (convi .u8 n_p0) fun t4_1 =>
  BND (shiftv .shr n_p0 (Value.int .u64 8)) fun t6_2 =>
  BND (convi .u8 t6_2) fun t7_3 =>
  BND (shiftv .shr n_p0 (Value.int .u64 16)) fun t9_4 =>
  BND (convi .u8 t9_4) fun t10_5 =>
  BND (shiftv .shr n_p0 (Value.int .u64 24)) fun t12_6 =>
  BND (convi .u8 t12_6) fun t13_7 =>
  BND (newslice 5 #[(Value.int .u8 0)] 1 4 [(0, 1, t4_1), (1, 1, t7_3), (2, 1, t10_5), (3, 1, t13_7)] w) fun p_ => NEW p_ fun t14_8 w1 =>
  R t14_8 w1
def ann_sum_four : List (Nat × List Nat) := []
theorem E_sum_four (n_p0 : Value) (w : World) (R : Value → World → Prop) : M_sum_four n_p0 w R = den PR ann_sum_four (bodyOf Tryz.f121) (retQ PR Tryz.f121.results.toList R) (env0 [n_p0]) w := by kernel_rfl
theorem C_sum_four {n_p0 : Value} {w : World} {R : Value → World → Prop} (h : M_sum_four n_p0 w R) : CALL PR F_sum_four [n_p0] w R :=
  call_of_den2 ann_sum_four Tryz.func121 (by kernel_rfl) (by kernel_rfl) (by kernel_rfl) ((E_sum_four n_p0 w R) ▸ h)


-- 122 tumbrel.sum.Of
def M_sum_Of (b_p0 : Value) (w : World) (R : Value → World → Prop) : Prop :=
  CALL PR F_sum_More [(Value.int .u32 0), b_p0] w fun t4_1 w1 =>
  R t4_1 w1
def ann_sum_Of : List (Nat × List Nat) := []
theorem E_sum_Of (b_p0 : Value) (w : World) (R : Value → World → Prop) : M_sum_Of b_p0 w R = den PR ann_sum_Of (bodyOf Tryz.f122) (retQ PR Tryz.f122.results.toList R) (env0 [b_p0]) w := by kernel_rfl
theorem C_sum_Of {b_p0 : Value} {w : World} {R : Value → World → Prop} (h : M_sum_Of b_p0 w R) : CALL PR F_sum_Of [b_p0] w R :=
  call_of_den2 ann_sum_Of Tryz.func122 (by kernel_rfl) (by kernel_rfl) (by kernel_rfl) ((E_sum_Of b_p0 w R) ▸ h)


-- 123 tumbrel.vint.lay
def M_vint_lay (into_p0 n_p1 : Value) (w : World) (R : Value → World → Prop) : Prop :=
  ∃ (J_1 : Value → Value → World → Prop) (m_1 : Value → Value → World → Nat), J_1 n_p1 (Value.int .i64 0) w ∧ ∀ (_d_1 : Env) (n_2 i_3 : Value) (w1 : World), J_1 n_2 i_3 w1 →
  (BND (binv .int .geq n_2 (Value.int .u64 128)) fun t7_17 =>
  COND t7_17
  (BND (convi .u8 n_2) fun t13_18 =>
  BND (binv .int .or t13_18 (Value.int .u8 128)) fun t14_19 =>
  BND (nilchk into_p0) fun t15_20 =>
  BND (iaddra 10 1 t15_20 i_3) fun t16_21 =>
  BND (storev 1 w1 t16_21 t14_19) fun w2 =>
  BND (binv .int .add i_3 (Value.int .i64 1)) fun t18_22 =>
  BND (shiftv .shr n_2 (Value.int .u64 7)) fun t9_23 =>
  (J_1 t9_23 t18_22 w2 ∧ m_1 t9_23 t18_22 w2 < m_1 n_2 i_3 w1))
  (BND (convi .u8 n_2) fun t22_24 =>
  BND (nilchk into_p0) fun t23_25 =>
  BND (iaddra 10 1 t23_25 i_3) fun t24_26 =>
  BND (storev 1 w1 t24_26 t22_24) fun w3 =>
  BND (binv .int .add i_3 (Value.int .i64 1)) fun t26_27 =>
  R t26_27 w3))
def ann_vint_lay : List (Nat × List Nat) := [(1000002, [1, 5])]
theorem E_vint_lay (into_p0 n_p1 : Value) (w : World) (R : Value → World → Prop) : M_vint_lay into_p0 n_p1 w R = den PR ann_vint_lay (bodyOf Tryz.f123) (retQ PR Tryz.f123.results.toList R) (env0 [into_p0, n_p1]) w := by kernel_rfl
theorem C_vint_lay {into_p0 n_p1 : Value} {w : World} {R : Value → World → Prop} (h : M_vint_lay into_p0 n_p1 w R) : CALL PR F_vint_lay [into_p0, n_p1] w R :=
  call_of_den2 ann_vint_lay Tryz.func123 (by kernel_rfl) (by kernel_rfl) (by kernel_rfl) ((E_vint_lay into_p0 n_p1 w R) ▸ h)


-- 126 tumbrel.sum.Cut
def M_sum_Cut (b_p0 : Value) (w : World) (R : Value → World → Prop) : Prop :=
  BND (lenl b_p0) fun t6_1 =>
  BND (binv .int .sub t6_1 (Value.int .i64 4)) fun t7_2 =>
  BND (binv .int .lss t7_2 (Value.int .i64 0)) fun t9_3 =>
  BND (grd (isB t9_3 false) (some b_p0)) fun t11_4 =>
  BND (grd (isB t9_3 false) (some t7_2)) fun t12_5 =>
  BND (grd (isB t9_3 false) (slicev 1 t11_4 (some t12_5) none)) fun t13_6 =>
  BND (grd (isB t9_3 false) (some b_p0)) fun t14_7 =>
  BND (grd (isB t9_3 false) (some t7_2)) fun t15_8 =>
  BND (grd (isB t9_3 false) (slicev 1 t14_7 none (some t15_8))) fun t16_9 =>
  GEF (isB t9_3 false) (fun k_ => CALL PR F_sum_Of [t16_9] w.drew k_) w.drew fun t17_10 w1 =>
  GEF (isB t9_3 false) (fun k_ => CALL PR F_sum_four [t17_10] w1 k_) w1 fun t18_11 w2 =>
  GEF (isB t9_3 false) (fun k_ => CALL PR F_slices_Equal_byte_byte [t13_6, t18_11] w2 k_) w2 fun t19_12 w3 =>
  BND (grd (isB t9_3 false) (unv .not t19_12)) fun t20_13 =>
  BND (pickv t9_3 (Value.bool true) t20_13) fun t21_14 =>
  COND t21_14
  (R (.tuple #[(Value.slice none 0 0), (Value.bool false)]) w3)
  (BND (slicev 1 b_p0 none (some t7_2)) fun t24_15 =>
  CALL PR F_slices_Clone_byte_byte [t24_15] w3 fun t25_16 w4 =>
  R (.tuple #[t25_16, (Value.bool true)]) w4)
def ann_sum_Cut : List (Nat × List Nat) := [(2, [0, 1, 2, 3, 4, 5, 6, 7, 8, 9, 10, 11, 12, 13])]
theorem E_sum_Cut (b_p0 : Value) (w : World) (R : Value → World → Prop) : M_sum_Cut b_p0 w R = den PR ann_sum_Cut (bodyOf Tryz.f126) (retQ PR Tryz.f126.results.toList R) (env0 [b_p0]) w := by kernel_rfl
theorem C_sum_Cut {b_p0 : Value} {w : World} {R : Value → World → Prop} (h : M_sum_Cut b_p0 w R) : CALL PR F_sum_Cut [b_p0] w R :=
  call_of_den2 ann_sum_Cut Tryz.func126 (by kernel_rfl) (by kernel_rfl) (by kernel_rfl) ((E_sum_Cut b_p0 w R) ▸ h)


-- 144 tumbrel.sum.More
def M_sum_More (sum_p0 b_p1 : Value) (w : World) (R : Value → World → Prop) : Prop :=
  CALL PR F_sum_Table [] w fun t8_1 w1 =>
  NEW (newv 213 w1 (Value.agg (List.replicate 256 (Value.int .u32 0)).toArray)) fun t_2 w2 =>
  BND (storev 256 w2 t_2 t8_1) fun w3 =>
  BND (unv .xor sum_p0) fun t10_3 =>
  BND (lenl b_p1) fun t12_4 =>
  ∃ (J_5 : Value → Value → World → Prop) (m_5 : Value → Value → World → Nat), J_5 t10_3 (Value.int .i64 0) w3 ∧ ∀ (_d_5 : Env) (sum_6 t13_8 : Value) (w4 : World), J_5 sum_6 t13_8 w4 →
  (BND (binv .int .lss t13_8 t12_4) fun t14_22 =>
  COND t14_22
  (BND (iaddr 1 b_p1 t13_8) fun t15_23 =>
  BND (load1 w4 t15_23) fun t16_24 =>
  BND (shiftv .shr sum_6 (Value.int .u64 8)) fun t18_25 =>
  BND (convi .u8 sum_6) fun t20_26 =>
  BND (binv .int .xor t20_26 t16_24) fun t22_27 =>
  BND (iaddra 256 1 t_2 t22_27) fun t23_28 =>
  BND (load1 w4 t23_28) fun t24_29 =>
  BND (binv .int .xor t18_25 t24_29) fun t25_30 =>
  BND (binv .int .add t13_8 (Value.int .i64 1)) fun t26_31 =>
  (J_5 t25_30 t26_31 w4 ∧ m_5 t25_30 t26_31 w4 < m_5 sum_6 t13_8 w4))
  (BND (unv .xor sum_6) fun t28_32 =>
  R t28_32 w4))
def ann_sum_More : List (Nat × List Nat) := [(1000004, [0, 13])]
theorem E_sum_More (sum_p0 b_p1 : Value) (w : World) (R : Value → World → Prop) : M_sum_More sum_p0 b_p1 w R = den PR ann_sum_More (bodyOf Tryz.f144) (retQ PR Tryz.f144.results.toList R) (env0 [sum_p0, b_p1]) w := by kernel_rfl
theorem C_sum_More {sum_p0 b_p1 : Value} {w : World} {R : Value → World → Prop} (h : M_sum_More sum_p0 b_p1 w R) : CALL PR F_sum_More [sum_p0, b_p1] w R :=
  call_of_den2 ann_sum_More Tryz.func144 (by kernel_rfl) (by kernel_rfl) (by kernel_rfl) ((E_sum_More sum_p0 b_p1 w R) ▸ h)


-- 146 slices.Equal[[]byte,byte]
def M_slices_Equal_byte_byte (s1_p0 s2_p1 : Value) (w : World) (R : Value → World → Prop) : Prop :=
  BND (lenl s1_p0) fun t7_1 =>
  BND (lenl s2_p1) fun t9_2 =>
  BND (binv .int .neq t7_1 t9_2) fun t10_3 =>
  COND t10_3
  (R (Value.bool false) w)
  (BND (lenl s1_p0) fun t12_4 =>
  ∃ (J_5 : Value → World → Prop) (m_5 : Value → World → Nat), J_5 (Value.int .i64 0) w ∧ ∀ (_d_5 : Env) (t13_8 : Value) (w1 : World), J_5 t13_8 w1 →
  (BND (binv .int .lss t13_8 t12_4) fun t14_21 =>
  COND t14_21
  (BND (iaddr 1 s1_p0 t13_8) fun t18_22 =>
  BND (iaddr 1 s2_p1 t13_8) fun t22_23 =>
  BND (load1 w1.drew t18_22) fun t19_24 =>
  BND (load1 w1.drew t22_23) fun t23_25 =>
  BND (binv .int .neq t19_24 t23_25) fun t24_26 =>
  COND t24_26
  (R (Value.bool false) w1.drew)
  (BND (binv .int .add t13_8 (Value.int .i64 1)) fun t25_27 =>
  (J_5 t25_27 w1.drew ∧ m_5 t25_27 w1.drew < m_5 t13_8 w1)))
  (R (Value.bool true) w1)))
def ann_slices_Equal_byte_byte : List (Nat × List Nat) := [(6, [0, 1, 2, 4, 5, 6, 3, 7, 8]), (1000004, [13])]
theorem E_slices_Equal_byte_byte (s1_p0 s2_p1 : Value) (w : World) (R : Value → World → Prop) : M_slices_Equal_byte_byte s1_p0 s2_p1 w R = den PR ann_slices_Equal_byte_byte (bodyOf Tryz.f146) (retQ PR Tryz.f146.results.toList R) (env0 [s1_p0, s2_p1]) w := by kernel_rfl
theorem C_slices_Equal_byte_byte {s1_p0 s2_p1 : Value} {w : World} {R : Value → World → Prop} (h : M_slices_Equal_byte_byte s1_p0 s2_p1 w R) : CALL PR F_slices_Equal_byte_byte [s1_p0, s2_p1] w R :=
  call_of_den2 ann_slices_Equal_byte_byte Tryz.func146 (by kernel_rfl) (by kernel_rfl) (by kernel_rfl) ((E_slices_Equal_byte_byte s1_p0 s2_p1 w R) ▸ h)


-- 156 tumbrel.sum.Table
def M_sum_Table (w : World) (R : Value → World → Prop) : Prop :=
  NEW (newv 213 w (Value.agg (List.replicate 256 (Value.int .u32 0)).toArray)) fun t0_1 w1 =>
  NEW (newv 213 w1 (Value.agg (List.replicate 256 (Value.int .u32 0)).toArray)) fun t_2 w2 =>
  ∃ (J_3 : Value → World → Prop) (m_3 : Value → World → Nat), J_3 (Value.int .i64 0) w2 ∧ ∀ (_d_3 : Env) (t3_5 : Value) (w3 : World), J_3 t3_5 w3 →
  (BND (binv .int .lss t3_5 (Value.int .i64 256)) fun t4_14 =>
  COND t4_14
  (BND (convi .u32 t3_5) fun t8_15 =>
  CALL PR F_sum_entry [t8_15] w3 fun t9_16 w4 =>
  BND (iaddra 256 1 t_2 t3_5) fun t10_17 =>
  BND (storev 1 w4 t10_17 t9_16) fun w5 =>
  BND (binv .int .add t3_5 (Value.int .i64 1)) fun t11_18 =>
  (J_3 t11_18 w5 ∧ m_3 t11_18 w5 < m_3 t3_5 w3))
  (BND (loadn 256 w3 t_2) fun t12_19 =>
  BND (storev 256 w3 t0_1 t12_19) fun w6 =>
  BND (loadn 256 w6 t0_1) fun r_20 =>
  R r_20 w6))
def ann_sum_Table : List (Nat × List Nat) := [(1000003, [3])]
theorem E_sum_Table (w : World) (R : Value → World → Prop) : M_sum_Table w R = den PR ann_sum_Table (bodyOf Tryz.f156) (retQ PR Tryz.f156.results.toList R) (env0 []) w := by kernel_rfl
theorem C_sum_Table {w : World} {R : Value → World → Prop} (h : M_sum_Table w R) : CALL PR F_sum_Table [] w R :=
  call_of_den2 ann_sum_Table Tryz.func156 (by kernel_rfl) (by kernel_rfl) (by kernel_rfl) ((E_sum_Table w R) ▸ h)


-- 159 tumbrel.sum.entry
def M_sum_entry (n_p0 : Value) (w : World) (R : Value → World → Prop) : Prop :=
  ∃ (J_1 : Value → Value → World → Prop) (m_1 : Value → Value → World → Nat), J_1 n_p0 (Value.int .i64 0) w ∧ ∀ (_d_1 : Env) (n_2 t4_4 : Value) (w1 : World), J_1 n_2 t4_4 w1 →
  (BND (binv .int .lss t4_4 (Value.int .i64 8)) fun t5_15 =>
  COND t5_15
  (BND (binv .int .and n_2 (Value.int .u32 1)) fun t7_16 =>
  BND (shiftv .shr n_2 (Value.int .u64 1)) fun t9_17 =>
  BND (binv .int .eql t7_16 (Value.int .u32 1)) fun t11_18 =>
  JOIN (α := Value → World → Prop) (fun k_23 => COND t11_18
  (BND (binv .int .xor t9_17 (Value.int .u32 2197175160)) fun t13_24 =>
  k_23 t13_24 w1)
  (k_23 t9_17 w1))
  (fun n_19 w2 => BND (binv .int .add t4_4 (Value.int .i64 1)) fun t14_22 =>
  (J_1 n_19 t14_22 w2 ∧ m_1 n_19 t14_22 w2 < m_1 n_2 t4_4 w1)))
  (R n_2 w1))
def ann_sum_entry : List (Nat × List Nat) := [(1000002, [0, 4])]
theorem E_sum_entry (n_p0 : Value) (w : World) (R : Value → World → Prop) : M_sum_entry n_p0 w R = den PR ann_sum_entry (bodyOf Tryz.f159) (retQ PR Tryz.f159.results.toList R) (env0 [n_p0]) w := by kernel_rfl
theorem C_sum_entry {n_p0 : Value} {w : World} {R : Value → World → Prop} (h : M_sum_entry n_p0 w R) : CALL PR F_sum_entry [n_p0] w R :=
  call_of_den2 ann_sum_entry Tryz.func159 (by kernel_rfl) (by kernel_rfl) (by kernel_rfl) ((E_sum_entry n_p0 w R) ▸ h)

end Go.Proofs.YtmefbneoljpbgaaGreatDoor
