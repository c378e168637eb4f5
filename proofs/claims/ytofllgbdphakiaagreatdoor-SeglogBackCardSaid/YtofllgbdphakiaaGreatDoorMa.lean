/- Printed by denprint.py: the Go function as a predicate, and that it stands for the call. No condition. -/
import Derived.Test.YtofllgbdphakiaaGreatDoorGf
set_option maxRecDepth 100000
set_option linter.unusedVariables false
namespace Go.Proofs.YtofllgbdphakiaaGreatDoor
open Go.Den
-- 3 tumbrel.tumbrellaw15.SeglogSure
def M_tumbrellaw15_SeglogSure (seg_p0 size_p1 l_p2 more_p3 open_p4 tails_p5 : Value) (w : World) (R : Value → World → Prop) : Prop :=
  CALL PR F_tumbrellaw15_awake [] w fun t25_1 w1 =>
  BND (unv .not t25_1) fun t26_2 =>
  COND t26_2
  (R (Value.bool false) w1)
  (CALL PR F_tumbrellaw15_full [seg_p0, size_p1, l_p2] w1 fun t31_3 w2 =>
  BND (extractv t31_3 0) fun t32_4 =>
  BND (extractv t31_3 1) fun t33_5 =>
  BND (extractv t31_3 2) fun t34_6 =>
  BND (extractv t31_3 3) fun t35_7 =>
  BND (unv .not t35_7) fun t37_8 =>
  BND (grd (isB t37_8 false) (some more_p3)) fun t39_9 =>
  BND (grd (isB t37_8 false) (lenl t39_9)) fun t40_10 =>
  BND (grd (isB t37_8 false) (binv .int .gtr t40_10 (Value.int .i64 50))) fun t41_11 =>
  BND (pickv t37_8 (Value.bool true) t41_11) fun t42_12 =>
  BND (grd (isB t42_12 false) (some tails_p5)) fun t44_13 =>
  BND (grd (isB t42_12 false) (lenl t44_13)) fun t45_14 =>
  BND (grd (isB t42_12 false) (binv .int .gtr t45_14 (Value.int .i64 100))) fun t46_15 =>
  BND (pickv t42_12 (Value.bool true) t46_15) fun t47_16 =>
  COND t47_16
  (R (Value.bool true) w2)
  (CALL PR F_seglog_Log_Sync [t33_5] w2 fun t49_17 w3 =>
  BND (binv .int .neq t49_17 (Value.int .i64 0)) fun t50_18 =>
  COND t50_18
  (R (Value.bool false) w3)
  (CALL PR F_seglog_Log_End [t33_5] w3 fun t53_19 w4 =>
  BND (extractv t53_19 0) fun t54_20 =>
  BND (extractv t53_19 1) fun t55_21 =>
  BND (lenl more_p3) fun t57_22 =>
  ∃ (J_23 : Value → World → Prop) (m_23 : Value → World → Nat), J_23 (Value.int .i64 0) w4 ∧ ∀ (_d_23 : Env) (t58_26 : Value) (w5 : World), J_23 t58_26 w5 →
  (BND (binv .int .lss t58_26 t57_22) fun t59_36 =>
  COND t59_36
  (BND (iaddr 3 more_p3 t58_26) fun t60_37 =>
  BND (loadn 3 w5 t60_37) fun t61_38 =>
  NEW (newv 37 w5 (Value.agg #[(Value.int .i64 0), (Value.slice none 0 0), (Value.string ByteArray.empty)])) fun r_39 w6 =>
  BND (storev 3 w6 r_39 t61_38) fun w7 =>
  BND (loadn 3 w7 r_39) fun t62_40 =>
  CALL PR F_tumbrelref05_Large [t62_40] w7 fun t63_41 w8 =>
  COND t63_41
  (R (Value.bool true) w8)
  (BND (loadn 3 w8 r_39) fun t65_42 =>
  CALL PR F_seglog_Log_Append [t33_5, t65_42] w8 fun t66_43 w9 =>
  BND (binv .int .add t58_26 (Value.int .i64 1)) fun t67_44 =>
  (J_23 t67_44 w9 ∧ m_23 t67_44 w9 < m_23 t58_26 w5)))
  (CALL PR F_disk_Disk_Crash [t32_4, open_p4, tails_p5] w5 fun t71_45 w10 =>
  CALL PR F_seglog_Open [t32_4, t54_20, t55_21, size_p1] w10 fun t77_46 w11 =>
  BND (extractv t77_46 0) fun t78_47 =>
  BND (extractv t77_46 1) fun t79_48 =>
  BND (binv .ptr .eql t78_47 (Value.pointer none)) fun t81_49 =>
  BND (grd (isB t81_49 false) (some t79_48)) fun t83_50 =>
  BND (grd (isB t81_49 false) (binv .int .neq t83_50 (Value.int .i64 0))) fun t84_51 =>
  BND (pickv t81_49 (Value.bool true) t84_51) fun t85_52 =>
  COND t85_52
  (R (Value.bool false) w11)
  (CALL PR F_seglog_Log_End [t78_47] w11 fun t88_53 w12 =>
  BND (extractv t88_53 0) fun t89_54 =>
  BND (extractv t88_53 1) fun t90_55 =>
  CALL PR F_tumbrellaw15_there [t78_47, t34_6] w12 fun t93_56 w13 =>
  BND (grd (isB t93_56 true) (some t89_54)) fun t95_57 =>
  BND (grd (isB t93_56 true) (some t54_20)) fun t96_58 =>
  BND (grd (isB t93_56 true) (binv .int .eql t95_57 t96_58)) fun t97_59 =>
  BND (pickv t93_56 t97_59 (Value.bool false)) fun t98_60 =>
  BND (grd (isB t98_60 true) (some t90_55)) fun t100_61 =>
  BND (grd (isB t98_60 true) (some t55_21)) fun t101_62 =>
  BND (grd (isB t98_60 true) (binv .int .eql t100_61 t101_62)) fun t102_63 =>
  BND (pickv t98_60 t102_63 (Value.bool false)) fun t103_64 =>
  R t103_64 w13))))))
def ann_tumbrellaw15_SeglogSure : List (Nat × List Nat) := [(1000010, [58])]
theorem E_tumbrellaw15_SeglogSure (seg_p0 size_p1 l_p2 more_p3 open_p4 tails_p5 : Value) (w : World) (R : Value → World → Prop) : M_tumbrellaw15_SeglogSure seg_p0 size_p1 l_p2 more_p3 open_p4 tails_p5 w R = den PR ann_tumbrellaw15_SeglogSure (bodyOf Tryz.f3) (retQ PR Tryz.f3.results.toList R) (env0 [seg_p0, size_p1, l_p2, more_p3, open_p4, tails_p5]) w := by kernel_rfl
theorem C_tumbrellaw15_SeglogSure {seg_p0 size_p1 l_p2 more_p3 open_p4 tails_p5 : Value} {w : World} {R : Value → World → Prop} (h : M_tumbrellaw15_SeglogSure seg_p0 size_p1 l_p2 more_p3 open_p4 tails_p5 w R) : CALL PR F_tumbrellaw15_SeglogSure [seg_p0, size_p1, l_p2, more_p3, open_p4, tails_p5] w R :=
  call_of_den2 ann_tumbrellaw15_SeglogSure Tryz.func3 (by kernel_rfl) (by kernel_rfl) (by kernel_rfl) ((E_tumbrellaw15_SeglogSure seg_p0 size_p1 l_p2 more_p3 open_p4 tails_p5 w R) ▸ h)
-- 5 tumbrel.tumbrellaw15.SeglogBack
def M_tumbrellaw15_SeglogBack (seg_p0 size_p1 l_p2 : Value) (w : World) (R : Value → World → Prop) : Prop :=
  CALL PR F_tumbrellaw15_awake [] w fun t19_1 w1 =>
  BND (unv .not t19_1) fun t20_2 =>
  COND t20_2
  (R (Value.bool false) w1)
  (CALL PR F_tumbrellaw15_full [seg_p0, size_p1, l_p2] w1 fun t25_3 w2 =>
  BND (extractv t25_3 0) fun t26_4 =>
  BND (extractv t25_3 1) fun t27_5 =>
  BND (extractv t25_3 2) fun t28_6 =>
  BND (extractv t25_3 3) fun t29_7 =>
  BND (unv .not t29_7) fun t31_8 =>
  COND t31_8
  (R (Value.bool true) w2)
  (CALL PR F_tumbrellaw15_there [t27_5, t28_6] w2 fun t34_9 w3 =>
  BND (unv .not t34_9) fun t35_10 =>
  COND t35_10
  (R (Value.bool false) w3)
  (BND (lenl t28_6) fun t38_11 =>
  ∃ (J_12 : Value → Value → Value → World → Prop) (m_12 : Value → Value → Value → World → Nat), J_12 seg_p0 (Value.int .i64 0) (Value.int .i64 0) w3 ∧ ∀ (_d_12 : Env) (last_14 many_15 t39_19 : Value) (w4 : World), J_12 last_14 many_15 t39_19 w4 →
  (BND (binv .int .lss t39_19 t38_11) fun t40_70 =>
  COND t40_70
  (BND (iaddr 5 t28_6 t39_19) fun t41_71 =>
  BND (loadn 5 w4 t41_71) fun t42_72 =>
  NEW (newv 79 w4 (Value.agg #[(Value.int .i64 0), (Value.slice none 0 0), (Value.string ByteArray.empty), (Value.int .u64 0), (Value.int .u64 0)])) fun x_73 w5 =>
  BND (storev 5 w5 x_73 t42_72) fun w6 =>
  BND (faddr 0 x_73) fun t44_74 =>
  BND (loadn 3 w6 t44_74) fun t45_75 =>
  CALL PR F_record_Bytes [t45_75] w6 fun t46_76 w7 =>
  BND (extractv t46_76 0) fun t47_77 =>
  BND (extractv t46_76 1) fun t48_78 =>
  BND (faddr 3 x_73) fun t49_79 =>
  BND (load1 w7 t49_79) fun t50_80 =>
  BND (binv .int .add last_14 (Value.int .u64 1)) fun t52_81 =>
  BND (binv .int .eql t50_80 t52_81) fun t53_82 =>
  BND (grd (isB t53_82 true) (faddr 4 x_73)) fun t55_83 =>
  BND (grd (isB t53_82 true) (load1 w7 t55_83)) fun t56_84 =>
  BND (grd (isB t53_82 true) (binv .int .eql t56_84 (Value.int .u64 0))) fun t57_85 =>
  BND (pickv t53_82 t57_85 (Value.bool false)) fun t58_86 =>
  JOIN (α := Value → Value → World → Prop) (fun k_116 => COND t58_86
  (BND (faddr 3 x_73) fun t59_117 =>
  BND (load1 w7 t59_117) fun t60_118 =>
  k_116 t60_118 (Value.int .i64 0) w7)
  (k_116 last_14 many_15 w7))
  (fun last_87 many_88 w8 => BND (faddr 3 x_73) fun t61_91 =>
  BND (load1 w8 t61_91) fun t62_92 =>
  BND (binv .int .neq t62_92 last_87) fun t64_93 =>
  BND (grd (isB t64_93 false) (some many_88)) fun t66_94 =>
  BND (grd (isB t64_93 false) (binv .int .eql t66_94 (Value.int .i64 0))) fun t67_95 =>
  BND (grd (isB t64_93 false) (faddr 4 x_73)) fun t68_96 =>
  BND (grd (isB t64_93 false) (load1 w8 t68_96)) fun t69_97 =>
  BND (grd (isB t64_93 false) (binv .int .eql t69_97 (Value.int .u64 0))) fun t70_98 =>
  BND (grd (isB t64_93 false) (binv .bool .neq t67_95 t70_98)) fun t71_99 =>
  BND (pickv t64_93 (Value.bool true) t71_99) fun t72_100 =>
  BND (grd (isB t72_100 false) (some many_88)) fun t74_101 =>
  BND (grd (isB t72_100 false) (binv .int .gtr t74_101 (Value.int .i64 0))) fun t75_102 =>
  BND (grd (isB t72_100 false) (some t75_102)) fun t76_103 =>
  BND (grd (isB t76_103 true) (faddr 4 x_73)) fun t77_104 =>
  BND (grd (isB t76_103 true) (load1 w8 t77_104)) fun t78_105 =>
  BND (grd (isB t76_103 true) (convi .i64 t78_105)) fun t79_106 =>
  BND (grd (isB t76_103 true) (some t47_77)) fun t80_107 =>
  BND (grd (isB t76_103 true) (lenl t80_107)) fun t81_108 =>
  BND (grd (isB t76_103 true) (binv .int .add t79_106 t81_108)) fun t82_109 =>
  BND (grd (isB t76_103 true) (some size_p1)) fun t83_110 =>
  BND (grd (isB t76_103 true) (binv .int .gtr t82_109 t83_110)) fun t84_111 =>
  BND (grd (isB t72_100 false) (pickv t76_103 t84_111 (Value.bool false))) fun t85_112 =>
  BND (pickv t72_100 (Value.bool true) t85_112) fun t86_113 =>
  COND t86_113
  (R (Value.bool false) w8)
  (BND (binv .int .add many_88 (Value.int .i64 1)) fun t88_114 =>
  BND (binv .int .add t39_19 (Value.int .i64 1)) fun t89_115 =>
  (J_12 last_87 t88_114 t89_115 w8 ∧ m_12 last_87 t88_114 t89_115 w8 < m_12 last_14 many_15 t39_19 w4))))
  (CALL PR F_seglog_Log_End [t27_5] w4 fun t92_119 w9 =>
  BND (extractv t92_119 0) fun t93_120 =>
  BND (extractv t92_119 1) fun t94_121 =>
  BND (binv .int .eql t93_120 last_14) fun t97_122 =>
  BND (grd (isB t97_122 true) (some t26_4)) fun t99_123 =>
  GEF (isB t97_122 true) (fun k_ => CALL PR F_disk_Disk_Names [t99_123] w9 k_) w9 fun t100_124 w10 =>
  GEF (isB t97_122 true) (fun k_ => CALL PR F_name_Only [t100_124, (Value.int .u8 109)] w10 k_) w10 fun t101_125 w11 =>
  BND (grd (isB t97_122 true) (lenl t101_125)) fun t102_126 =>
  BND (grd (isB t97_122 true) (some last_14)) fun t103_127 =>
  BND (grd (isB t97_122 true) (some seg_p0)) fun t104_128 =>
  BND (grd (isB t97_122 true) (binv .int .sub t103_127 t104_128)) fun t105_129 =>
  BND (grd (isB t97_122 true) (convi .i64 t105_129)) fun t106_130 =>
  BND (grd (isB t97_122 true) (binv .int .add t106_130 (Value.int .i64 1))) fun t107_131 =>
  BND (grd (isB t97_122 true) (binv .int .eql t102_126 t107_131)) fun t108_132 =>
  BND (pickv t97_122 t108_132 (Value.bool false)) fun t109_133 =>
  R t109_133 w11)))))
def ann_tumbrellaw15_SeglogBack : List (Nat × List Nat) := [(1000011, [11, 12, 39])]
theorem E_tumbrellaw15_SeglogBack (seg_p0 size_p1 l_p2 : Value) (w : World) (R : Value → World → Prop) : M_tumbrellaw15_SeglogBack seg_p0 size_p1 l_p2 w R = den PR ann_tumbrellaw15_SeglogBack (bodyOf Tryz.f5) (retQ PR Tryz.f5.results.toList R) (env0 [seg_p0, size_p1, l_p2]) w := by kernel_rfl
theorem C_tumbrellaw15_SeglogBack {seg_p0 size_p1 l_p2 : Value} {w : World} {R : Value → World → Prop} (h : M_tumbrellaw15_SeglogBack seg_p0 size_p1 l_p2 w R) : CALL PR F_tumbrellaw15_SeglogBack [seg_p0, size_p1, l_p2] w R :=
  call_of_den2 ann_tumbrellaw15_SeglogBack Tryz.func5 (by kernel_rfl) (by kernel_rfl) (by kernel_rfl) ((E_tumbrellaw15_SeglogBack seg_p0 size_p1 l_p2 w R) ▸ h)
-- 6 tumbrel.tumbrellaw15.awake
def M_tumbrellaw15_awake (w : World) (R : Value → World → Prop) : Prop :=
  CALL PR F_disk_New [(Value.int .i64 200)] w fun t19_1 w1 =>
  BND (extractv t19_1 0) fun t20_2 =>
  BND (extractv t19_1 1) fun t21_3 =>
  BND (binv .ptr .eql t20_2 (Value.pointer none)) fun t23_4 =>
  COND t23_4
  (R (Value.bool false) w1)
  (CALL PR F_seglog_Begin [t20_2, (Value.int .u64 1), (Value.int .i64 64)] w1 fun t26_5 w2 =>
  BND (extractv t26_5 0) fun t27_6 =>
  BND (extractv t26_5 1) fun t28_7 =>
  BND (binv .ptr .eql t27_6 (Value.pointer none)) fun t30_8 =>
  BND (grd (isB t30_8 false) (some t28_7)) fun t32_9 =>
  BND (grd (isB t30_8 false) (binv .int .neq t32_9 (Value.int .i64 0))) fun t33_10 =>
  BND (pickv t30_8 (Value.bool true) t33_10) fun t34_11 =>
  COND t34_11
  (R (Value.bool false) w2)
  (BND (newslice 22 #[(Value.int .u64 0)] 1 1 [(0, 1, (Value.int .u64 5))] w2) fun p_ => NEW p_ fun t37_12 w3 =>
  BND (buildv #[(Value.int .i64 0), (Value.slice none 0 0), (Value.string ByteArray.empty)] [(0, 1, (Value.int .i64 7)), (1, 1, t37_12)]) fun t38_13 =>
  CALL PR F_seglog_Log_Append [t27_6, t38_13] w3 fun t39_14 w4 =>
  BND (extractv t39_14 0) fun t40_15 =>
  BND (extractv t39_14 1) fun t41_16 =>
  BND (extractv t39_14 2) fun t42_17 =>
  CALL PR F_seglog_Log_Read [t27_6, (Value.int .u64 1), (Value.int .u64 0)] w4 fun t45_18 w5 =>
  BND (extractv t45_18 0) fun t46_19 =>
  BND (extractv t45_18 1) fun t47_20 =>
  BND (extractv t45_18 2) fun t48_21 =>
  NEW (newv 37 w5 (Value.agg #[(Value.int .i64 0), (Value.slice none 0 0), (Value.string ByteArray.empty)])) fun r_22 w6 =>
  BND (storev 3 w6 r_22 t46_19) fun w7 =>
  CALL PR F_seglog_Log_End [t27_6] w7 fun t51_23 w8 =>
  BND (extractv t51_23 0) fun t52_24 =>
  BND (extractv t51_23 1) fun t53_25 =>
  CALL PR F_seglog_Log_Read [t27_6, (Value.int .u64 1), (Value.int .u64 12)] w8 fun t56_26 w9 =>
  BND (extractv t56_26 0) fun t57_27 =>
  BND (extractv t56_26 1) fun t58_28 =>
  BND (extractv t56_26 2) fun t59_29 =>
  NEW (newv 37 w9 (Value.agg #[(Value.int .i64 0), (Value.slice none 0 0), (Value.string ByteArray.empty)])) fun t13_30 w10 =>
  BND (storev 3 w10 t13_30 t57_27) fun w11 =>
  CALL PR F_seglog_Open [t20_2, (Value.int .u64 1), (Value.int .u64 13), (Value.int .i64 64)] w11 fun t62_31 w12 =>
  BND (extractv t62_31 0) fun t63_32 =>
  BND (extractv t62_31 1) fun t64_33 =>
  BND (binv .int .eql t40_15 (Value.int .u64 1)) fun t66_34 =>
  BND (grd (isB t66_34 true) (some t41_16)) fun t68_35 =>
  BND (grd (isB t66_34 true) (binv .int .eql t68_35 (Value.int .u64 0))) fun t69_36 =>
  BND (pickv t66_34 t69_36 (Value.bool false)) fun t70_37 =>
  BND (grd (isB t70_37 true) (some t42_17)) fun t72_38 =>
  BND (grd (isB t70_37 true) (binv .int .eql t72_38 (Value.int .i64 0))) fun t73_39 =>
  BND (pickv t70_37 t73_39 (Value.bool false)) fun t74_40 =>
  BND (grd (isB t74_40 true) (faddr 0 r_22)) fun t76_41 =>
  BND (grd (isB t74_40 true) (load1 w12 t76_41)) fun t77_42 =>
  BND (grd (isB t74_40 true) (binv .int .eql t77_42 (Value.int .i64 7))) fun t78_43 =>
  BND (pickv t74_40 t78_43 (Value.bool false)) fun t79_44 =>
  BND (grd (isB t79_44 true) (some t47_20)) fun t81_45 =>
  BND (grd (isB t79_44 true) (binv .int .eql t81_45 (Value.int .i64 12))) fun t82_46 =>
  BND (pickv t79_44 t82_46 (Value.bool false)) fun t83_47 =>
  BND (grd (isB t83_47 true) (some t48_21)) fun t85_48 =>
  BND (grd (isB t83_47 true) (binv .int .eql t85_48 (Value.int .i64 0))) fun t86_49 =>
  BND (pickv t83_47 t86_49 (Value.bool false)) fun t87_50 =>
  BND (grd (isB t87_50 true) (some t53_25)) fun t89_51 =>
  BND (grd (isB t87_50 true) (binv .int .eql t89_51 (Value.int .u64 12))) fun t90_52 =>
  BND (pickv t87_50 t90_52 (Value.bool false)) fun t91_53 =>
  BND (grd (isB t91_53 true) (some t59_29)) fun t93_54 =>
  BND (grd (isB t91_53 true) (binv .int .eql t93_54 (Value.int .i64 3))) fun t94_55 =>
  BND (pickv t91_53 t94_55 (Value.bool false)) fun t95_56 =>
  BND (grd (isB t95_56 true) (some t27_6)) fun t97_57 =>
  GEF (isB t95_56 true) (fun k_ => CALL PR F_seglog_Log_Sync [t97_57] w12 k_) w12 fun t98_58 w13 =>
  BND (grd (isB t95_56 true) (binv .int .eql t98_58 (Value.int .i64 0))) fun t99_59 =>
  BND (pickv t95_56 t99_59 (Value.bool false)) fun t100_60 =>
  BND (grd (isB t100_60 true) (some t63_32)) fun t102_61 =>
  BND (grd (isB t100_60 true) (binv .ptr .eql t102_61 (Value.pointer none))) fun t103_62 =>
  BND (pickv t100_60 t103_62 (Value.bool false)) fun t104_63 =>
  BND (grd (isB t104_63 true) (some t64_33)) fun t106_64 =>
  BND (grd (isB t104_63 true) (binv .int .eql t106_64 (Value.int .i64 3))) fun t107_65 =>
  BND (pickv t104_63 t107_65 (Value.bool false)) fun t108_66 =>
  R t108_66 w13))
def ann_tumbrellaw15_awake : List (Nat × List Nat) := []
theorem E_tumbrellaw15_awake (w : World) (R : Value → World → Prop) : M_tumbrellaw15_awake w R = den PR ann_tumbrellaw15_awake (bodyOf Tryz.f6) (retQ PR Tryz.f6.results.toList R) (env0 []) w := by kernel_rfl
theorem C_tumbrellaw15_awake {w : World} {R : Value → World → Prop} (h : M_tumbrellaw15_awake w R) : CALL PR F_tumbrellaw15_awake [] w R :=
  call_of_den2 ann_tumbrellaw15_awake Tryz.func6 (by kernel_rfl) (by kernel_rfl) (by kernel_rfl) ((E_tumbrellaw15_awake w R) ▸ h)
-- 7 tumbrel.tumbrellaw15.full
def M_tumbrellaw15_full (seg_p0 size_p1 l_p2 : Value) (w : World) (R : Value → World → Prop) : Prop :=
  CALL PR F_disk_New [(Value.int .i64 131072)] w fun t21_1 w1 =>
  BND (extractv t21_1 0) fun t22_2 =>
  BND (extractv t21_1 1) fun t23_3 =>
  BND (binv .ptr .eql t22_2 (Value.pointer none)) fun t25_4 =>
  BND (grd (isB t25_4 false) (some l_p2)) fun t27_5 =>
  BND (grd (isB t25_4 false) (lenl t27_5)) fun t28_6 =>
  BND (grd (isB t25_4 false) (binv .int .gtr t28_6 (Value.int .i64 50))) fun t29_7 =>
  BND (pickv t25_4 (Value.bool true) t29_7) fun t30_8 =>
  BND (grd (isB t30_8 false) (some seg_p0)) fun t32_9 =>
  BND (grd (isB t30_8 false) (binv .int .gtr t32_9 (Value.int .u64 1000))) fun t33_10 =>
  BND (pickv t30_8 (Value.bool true) t33_10) fun t34_11 =>
  COND t34_11
  (R (.tuple #[(Value.pointer none), (Value.pointer none), (Value.slice none 0 0), (Value.bool false)]) w1)
  (CALL PR F_seglog_Begin [t22_2, seg_p0, size_p1] w1 fun t39_12 w2 =>
  BND (extractv t39_12 0) fun t40_13 =>
  BND (extractv t39_12 1) fun t41_14 =>
  BND (binv .ptr .eql t40_13 (Value.pointer none)) fun t43_15 =>
  BND (grd (isB t43_15 false) (some t41_14)) fun t45_16 =>
  BND (grd (isB t43_15 false) (binv .int .neq t45_16 (Value.int .i64 0))) fun t46_17 =>
  BND (pickv t43_15 (Value.bool true) t46_17) fun t47_18 =>
  COND t47_18
  (R (.tuple #[(Value.pointer none), (Value.pointer none), (Value.slice none 0 0), (Value.bool false)]) w2)
  (BND (lenl l_p2) fun t49_19 =>
  ∃ (J_20 : Value → Value → World → Prop) (m_20 : Value → Value → World → Nat), J_20 (Value.slice none 0 0) (Value.int .i64 0) w2 ∧ ∀ (_d_20 : Env) (out_25 t50_30 : Value) (w3 : World), J_20 out_25 t50_30 w3 →
  (BND (binv .int .lss t50_30 t49_19) fun t51_58 =>
  COND t51_58
  (BND (iaddr 3 l_p2 t50_30) fun t52_59 =>
  BND (loadn 3 w3 t52_59) fun t53_60 =>
  NEW (newv 37 w3 (Value.agg #[(Value.int .i64 0), (Value.slice none 0 0), (Value.string ByteArray.empty)])) fun r_61 w4 =>
  BND (storev 3 w4 r_61 t53_60) fun w5 =>
  BND (loadn 3 w5 r_61) fun t54_62 =>
  CALL PR F_tumbrelref05_Large [t54_62] w5 fun t55_63 w6 =>
  BND (grd (isB t55_63 false) (loadn 3 w6 r_61)) fun t57_64 =>
  GEF (isB t55_63 false) (fun k_ => CALL PR F_record_Right [t57_64] w6 k_) w6 fun t58_65 w7 =>
  BND (grd (isB t55_63 false) (unv .not t58_65)) fun t59_66 =>
  BND (pickv t55_63 (Value.bool true) t59_66) fun t60_67 =>
  COND t60_67
  (R (.tuple #[(Value.pointer none), (Value.pointer none), (Value.slice none 0 0), (Value.bool false)]) w7)
  (BND (loadn 3 w7 r_61) fun t63_68 =>
  CALL PR F_seglog_Log_Append [t40_13, t63_68] w7 fun t64_69 w8 =>
  BND (extractv t64_69 0) fun t65_70 =>
  BND (extractv t64_69 1) fun t66_71 =>
  BND (extractv t64_69 2) fun t67_72 =>
  BND (binv .int .neq t67_72 (Value.int .i64 0)) fun t69_73 =>
  COND t69_73
  (R (.tuple #[(Value.pointer none), (Value.pointer none), (Value.slice none 0 0), (Value.bool false)]) w8)
  (BND (loadn 3 w8 r_61) fun t71_74 =>
  BND (buildv #[(Value.int .i64 0), (Value.slice none 0 0), (Value.string ByteArray.empty), (Value.int .u64 0), (Value.int .u64 0)] [(0, 3, t71_74), (3, 1, t65_70), (4, 1, t66_71)]) fun t74_75 =>
  BND (newslice 79 #[(Value.int .i64 0), (Value.slice none 0 0), (Value.string ByteArray.empty), (Value.int .u64 0), (Value.int .u64 0)] 5 1 [(0, 5, t74_75)] w8) fun p_ => NEW p_ fun t75_76 w9 =>
  APPEND 79 5 64 (Value.agg #[(Value.int .i64 0), (Value.slice none 0 0), (Value.string ByteArray.empty), (Value.int .u64 0), (Value.int .u64 0)]) out_25 t75_76 w9 fun t76_77 w10 =>
  BND (binv .int .add t50_30 (Value.int .i64 1)) fun t77_78 =>
  (J_20 t76_77 t77_78 w10 ∧ m_20 t76_77 t77_78 w10 < m_20 out_25 t50_30 w3))))
  (R (.tuple #[t22_2, t40_13, out_25, (Value.bool true)]) w3))))
def ann_tumbrellaw15_full : List (Nat × List Nat) := [(1000009, [14, 50])]
theorem E_tumbrellaw15_full (seg_p0 size_p1 l_p2 : Value) (w : World) (R : Value → World → Prop) : M_tumbrellaw15_full seg_p0 size_p1 l_p2 w R = den PR ann_tumbrellaw15_full (bodyOf Tryz.f7) (retQ PR Tryz.f7.results.toList R) (env0 [seg_p0, size_p1, l_p2]) w := by kernel_rfl
theorem C_tumbrellaw15_full {seg_p0 size_p1 l_p2 : Value} {w : World} {R : Value → World → Prop} (h : M_tumbrellaw15_full seg_p0 size_p1 l_p2 w R) : CALL PR F_tumbrellaw15_full [seg_p0, size_p1, l_p2] w R :=
  call_of_den2 ann_tumbrellaw15_full Tryz.func7 (by kernel_rfl) (by kernel_rfl) (by kernel_rfl) ((E_tumbrellaw15_full seg_p0 size_p1 l_p2 w R) ▸ h)
-- 8 (*tumbrel.seglog.Log).Sync
def M_seglog_Log_Sync (l_p0 : Value) (w : World) (R : Value → World → Prop) : Prop :=
  BND (nilchk l_p0) fun t9_1 =>
  BND (faddr 1 t9_1) fun t10_2 =>
  BND (nilchk l_p0) fun t14_3 =>
  BND (faddr 4 t14_3) fun t15_4 =>
  BND (nilchk l_p0) fun t18_5 =>
  BND (faddr 1 t18_5) fun t19_6 =>
  BND (load1 w.drew t10_2) fun t11_7 =>
  BND (binv .int .add t11_7 (Value.int .u64 1)) fun t12_8 =>
  BND (load1 w.drew t15_4) fun t16_9 =>
  BND (load1 w.drew t19_6) fun t20_10 =>
  BND (binv .int .add t20_10 (Value.int .u64 1)) fun t21_11 =>
  BND (min2v t16_9 t21_11) fun t22_12 =>
  BND (binv .int .sub t12_8 t22_12) fun t23_13 =>
  ∃ (J_14 : Value → World → Prop) (m_14 : Value → World → Nat), J_14 (Value.int .u64 0) w.drew ∧ ∀ (_d_14 : Env) (t24_20 : Value) (w1 : World), J_14 t24_20 w1 →
  (BND (binv .int .lss t24_20 t23_13) fun t25_43 =>
  COND t25_43
  (BND (nilchk l_p0) fun t29_44 =>
  BND (faddr 4 t29_44) fun t30_45 =>
  BND (load1 w1 t30_45) fun t31_46 =>
  BND (binv .int .add t31_46 t24_20) fun t33_47 =>
  CALL PR F_name_Of [(Value.int .u8 109), t33_47] w1 fun t34_48 w2 =>
  BND (extractv t34_48 0) fun t35_49 =>
  BND (extractv t34_48 1) fun t36_50 =>
  BND (nilchk l_p0) fun t38_51 =>
  BND (faddr 0 t38_51) fun t39_52 =>
  BND (load1 w2 t39_52) fun t40_53 =>
  CALL PR F_disk_Disk_Sync [t40_53, t35_49] w2 fun t42_54 w3 =>
  BND (binv .int .neq t42_54 (Value.int .i64 0)) fun t44_55 =>
  COND t44_55
  (R t42_54 w3)
  (BND (binv .int .add t24_20 (Value.int .u64 1)) fun t46_56 =>
  (J_14 t46_56 w3 ∧ m_14 t46_56 w3 < m_14 t24_20 w1)))
  (BND (nilchk l_p0) fun t48_57 =>
  BND (faddr 5 t48_57) fun t49_58 =>
  BND (load1 w1 t49_58) fun t50_59 =>
  JOIN (α := World → Prop) (fun k_78 => COND t50_59
  (BND (nilchk l_p0) fun t52_79 =>
  BND (faddr 0 t52_79) fun t53_80 =>
  BND (load1 w1 t53_80) fun t54_81 =>
  CALL PR F_disk_Disk_DirSync [t54_81] w1 fun t55_82 w7 =>
  BND (binv .int .neq t55_82 (Value.int .i64 0)) fun t57_83 =>
  COND t57_83
  (R t55_82 w7)
  (k_78 w7))
  (k_78 w1))
  (fun w4 => BND (nilchk l_p0) fun t62_70 =>
  BND (faddr 1 t62_70) fun t63_71 =>
  BND (load1 w4 t63_71) fun t64_72 =>
  BND (binv .int .add t64_72 (Value.int .u64 1)) fun t65_73 =>
  BND (nilchk l_p0) fun t66_74 =>
  BND (faddr 4 t66_74) fun t67_75 =>
  BND (storev 1 w4 t67_75 t65_73) fun w5 =>
  BND (nilchk l_p0) fun t68_76 =>
  BND (faddr 5 t68_76) fun t69_77 =>
  BND (storev 1 w5 t69_77 (Value.bool false)) fun w6 =>
  R (Value.int .i64 0) w6)))
def ann_seglog_Log_Sync : List (Nat × List Nat) := [(1, [0, 1, 2, 5, 6, 7, 9, 10, 11, 16, 3, 4, 8, 12, 13, 14, 15]), (1000002, [24])]
theorem E_seglog_Log_Sync (l_p0 : Value) (w : World) (R : Value → World → Prop) : M_seglog_Log_Sync l_p0 w R = den PR ann_seglog_Log_Sync (bodyOf Tryz.f8) (retQ PR Tryz.f8.results.toList R) (env0 [l_p0]) w := by kernel_rfl
theorem C_seglog_Log_Sync {l_p0 : Value} {w : World} {R : Value → World → Prop} (h : M_seglog_Log_Sync l_p0 w R) : CALL PR F_seglog_Log_Sync [l_p0] w R :=
  call_of_den2 ann_seglog_Log_Sync Tryz.func8 (by kernel_rfl) (by kernel_rfl) (by kernel_rfl) ((E_seglog_Log_Sync l_p0 w R) ▸ h)
-- 9 (*tumbrel.seglog.Log).End
def M_seglog_Log_End (l_p0 : Value) (w : World) (R : Value → World → Prop) : Prop :=
  BND (nilchk l_p0) fun t5_1 =>
  BND (faddr 1 t5_1) fun t6_2 =>
  BND (nilchk l_p0) fun t9_3 =>
  BND (faddr 2 t9_3) fun t10_4 =>
  BND (load1 w.drew t6_2) fun t7_5 =>
  BND (load1 w.drew t10_4) fun t11_6 =>
  R (.tuple #[t7_5, t11_6]) w.drew
def ann_seglog_Log_End : List (Nat × List Nat) := [(1, [0, 1, 2, 4, 5, 6, 3, 8, 7, 9])]
theorem E_seglog_Log_End (l_p0 : Value) (w : World) (R : Value → World → Prop) : M_seglog_Log_End l_p0 w R = den PR ann_seglog_Log_End (bodyOf Tryz.f9) (retQ PR Tryz.f9.results.toList R) (env0 [l_p0]) w := by kernel_rfl
theorem C_seglog_Log_End {l_p0 : Value} {w : World} {R : Value → World → Prop} (h : M_seglog_Log_End l_p0 w R) : CALL PR F_seglog_Log_End [l_p0] w R :=
  call_of_den2 ann_seglog_Log_End Tryz.func9 (by kernel_rfl) (by kernel_rfl) (by kernel_rfl) ((E_seglog_Log_End l_p0 w R) ▸ h)
-- 10 tumbrel.tumbrelref05.Large
def M_tumbrelref05_Large (r_p0 : Value) (w : World) (R : Value → World → Prop) : Prop :=
  NEW (newv 39 w r_p0) fun r_1 w1 =>
  BND (faddr 1 r_1) fun t3_2 =>
  BND (load1 w1 t3_2) fun t4_3 =>
  BND (lenl t4_3) fun t5_4 =>
  BND (binv .int .gtr t5_4 (Value.int .i64 100)) fun t6_5 =>
  BND (grd (isB t6_5 false) (faddr 2 r_1)) fun t8_6 =>
  BND (grd (isB t6_5 false) (load1 w1 t8_6)) fun t9_7 =>
  BND (grd (isB t6_5 false) (lens t9_7)) fun t10_8 =>
  BND (grd (isB t6_5 false) (binv .int .gtr t10_8 (Value.int .i64 300))) fun t11_9 =>
  BND (pickv t6_5 (Value.bool true) t11_9) fun t12_10 =>
  R t12_10 w1
def ann_tumbrelref05_Large : List (Nat × List Nat) := []
theorem E_tumbrelref05_Large (r_p0 : Value) (w : World) (R : Value → World → Prop) : M_tumbrelref05_Large r_p0 w R = den PR ann_tumbrelref05_Large (bodyOf Tryz.f10) (retQ PR Tryz.f10.results.toList R) (env0 [r_p0]) w := by kernel_rfl
theorem C_tumbrelref05_Large {r_p0 : Value} {w : World} {R : Value → World → Prop} (h : M_tumbrelref05_Large r_p0 w R) : CALL PR F_tumbrelref05_Large [r_p0] w R :=
  call_of_den2 ann_tumbrelref05_Large Tryz.func10 (by kernel_rfl) (by kernel_rfl) (by kernel_rfl) ((E_tumbrelref05_Large r_p0 w R) ▸ h)
-- 11 (*tumbrel.seglog.Log).Append
def M_seglog_Log_Append (l_p0 r_p1 : Value) (w : World) (R : Value → World → Prop) : Prop :=
  NEW (newv 37 w r_p1) fun r_1 w1 =>
  BND (loadn 3 w1 r_1) fun t15_2 =>
  CALL PR F_record_Bytes [t15_2] w1 fun t16_3 w2 =>
  BND (extractv t16_3 0) fun t17_4 =>
  BND (extractv t16_3 1) fun t18_5 =>
  BND (binv .int .neq t18_5 (Value.int .i64 0)) fun t20_6 =>
  COND t20_6
  (R (.tuple #[(Value.int .u64 0), (Value.int .u64 0), t18_5]) w2)
  (BND (nilchk l_p0) fun t23_7 =>
  BND (faddr 2 t23_7) fun t24_8 =>
  BND (load1 w2.drew t24_8) fun t25_9 =>
  BND (binv .int .gtr t25_9 (Value.int .u64 0)) fun t26_10 =>
  BND (grd (isB t26_10 true) (some l_p0)) fun t28_11 =>
  BND (grd (isB t26_10 true) (nilchk t28_11)) fun t29_12 =>
  BND (grd (isB t26_10 true) (faddr 2 t29_12)) fun t30_13 =>
  BND (grd (isB t26_10 true) (some t17_4)) fun t32_14 =>
  BND (grd (isB t26_10 true) (lenl t32_14)) fun t33_15 =>
  BND (grd (isB t26_10 true) (convi .u64 t33_15)) fun t34_16 =>
  BND (grd (isB t26_10 true) (some l_p0)) fun t36_17 =>
  BND (grd (isB t26_10 true) (nilchk t36_17)) fun t37_18 =>
  BND (grd (isB t26_10 true) (faddr 3 t37_18)) fun t38_19 =>
  BND (grd (isB t26_10 true) (load1 w2.drew t30_13)) fun t31_20 =>
  BND (grd (isB t26_10 true) (binv .int .add t31_20 t34_16)) fun t35_21 =>
  BND (grd (isB t26_10 true) (load1 w2.drew t38_19)) fun t39_22 =>
  BND (grd (isB t26_10 true) (convi .u64 t39_22)) fun t40_23 =>
  BND (grd (isB t26_10 true) (binv .int .gtr t35_21 t40_23)) fun t41_24 =>
  BND (pickv t26_10 t41_24 (Value.bool false)) fun t42_25 =>
  JOIN (α := World → Prop) (fun k_69 => COND t42_25
  (CALL PR F_seglog_Log_turn [l_p0] w2.drew fun t44_70 w8 =>
  BND (binv .int .neq t44_70 (Value.int .i64 0)) fun t46_71 =>
  COND t46_71
  (R (.tuple #[(Value.int .u64 0), (Value.int .u64 0), t44_70]) w8)
  (k_69 w8))
  (k_69 w2.drew))
  (fun w3 => BND (nilchk l_p0) fun t50_35 =>
  BND (faddr 1 t50_35) fun t51_36 =>
  BND (load1 w3 t51_36) fun t52_37 =>
  CALL PR F_name_Of [(Value.int .u8 109), t52_37] w3 fun t53_38 w4 =>
  BND (extractv t53_38 0) fun t54_39 =>
  BND (extractv t53_38 1) fun t55_40 =>
  BND (nilchk l_p0) fun t57_41 =>
  BND (faddr 0 t57_41) fun t58_42 =>
  BND (load1 w4 t58_42) fun t59_43 =>
  CALL PR F_disk_Disk_Append [t59_43, t54_39, t17_4] w4 fun t62_44 w5 =>
  BND (binv .int .neq t62_44 (Value.int .i64 0)) fun t64_45 =>
  COND t64_45
  (R (.tuple #[(Value.int .u64 0), (Value.int .u64 0), t62_44]) w5)
  (BND (nilchk l_p0) fun t67_46 =>
  BND (faddr 2 t67_46) fun t68_47 =>
  BND (load1 w5 t68_47) fun t69_48 =>
  BND (nilchk l_p0) fun t71_49 =>
  BND (faddr 2 t71_49) fun t72_50 =>
  BND (load1 w5 t72_50) fun t73_51 =>
  BND (lenl t17_4) fun t75_52 =>
  BND (convi .u64 t75_52) fun t76_53 =>
  BND (binv .int .add t73_51 t76_53) fun t77_54 =>
  BND (nilchk l_p0) fun t78_55 =>
  BND (faddr 2 t78_55) fun t79_56 =>
  BND (storev 1 w5 t79_56 t77_54) fun w6 =>
  BND (nilchk l_p0) fun t82_57 =>
  BND (faddr 4 t82_57) fun t83_58 =>
  BND (nilchk l_p0) fun t86_59 =>
  BND (faddr 1 t86_59) fun t87_60 =>
  BND (load1 w6.drew t83_58) fun t84_61 =>
  BND (load1 w6.drew t87_60) fun t88_62 =>
  BND (min2v t84_61 t88_62) fun t89_63 =>
  BND (nilchk l_p0) fun t90_64 =>
  BND (faddr 4 t90_64) fun t91_65 =>
  BND (storev 1 w6.drew t91_65 t89_63) fun w7 =>
  BND (nilchk l_p0) fun t93_66 =>
  BND (faddr 1 t93_66) fun t94_67 =>
  BND (load1 w7 t94_67) fun t95_68 =>
  R (.tuple #[t95_68, t69_48, (Value.int .i64 0)]) w7)))
def ann_seglog_Log_Append : List (Nat × List Nat) := [(4, [0, 1, 2, 3, 4, 5, 6, 7, 8, 10, 11, 12, 14, 15, 16, 9, 13, 17, 18, 19, 20]), (14, [0, 1, 2, 3, 5, 6, 7, 4, 8, 9, 10, 11, 12])]
theorem E_seglog_Log_Append (l_p0 r_p1 : Value) (w : World) (R : Value → World → Prop) : M_seglog_Log_Append l_p0 r_p1 w R = den PR ann_seglog_Log_Append (bodyOf Tryz.f11) (retQ PR Tryz.f11.results.toList R) (env0 [l_p0, r_p1]) w := by kernel_rfl
theorem C_seglog_Log_Append {l_p0 r_p1 : Value} {w : World} {R : Value → World → Prop} (h : M_seglog_Log_Append l_p0 r_p1 w R) : CALL PR F_seglog_Log_Append [l_p0, r_p1] w R :=
  call_of_den2 ann_seglog_Log_Append Tryz.func11 (by kernel_rfl) (by kernel_rfl) (by kernel_rfl) ((E_seglog_Log_Append l_p0 r_p1 w R) ▸ h)
-- 12 (*tumbrel.disk.Disk).Crash
def M_disk_Disk_Crash (d_p0 open_p1 tails_p2 : Value) (w : World) (R : Value → World → Prop) : Prop :=
  BND (nilchk d_p0) fun t12_1 =>
  BND (faddr 2 t12_1) fun t13_2 =>
  BND (load1 w t13_2) fun t14_3 =>
  BND (lenl t14_3) fun t15_4 =>
  BND (min2v open_p1 t15_4) fun t16_5 =>
  BND (binv .int .gtr t16_5 (Value.int .i64 0)) fun t18_6 =>
  JOIN (α := World → Prop) (fun k_145 => COND t18_6
  (BND (nilchk d_p0) fun t21_146 =>
  BND (faddr 2 t21_146) fun t22_147 =>
  BND (load1 w t22_147) fun t23_148 =>
  BND (binv .int .sub t16_5 (Value.int .i64 1)) fun t25_149 =>
  BND (iaddr 1 t23_148 t25_149) fun t26_150 =>
  BND (load1 w t26_150) fun t27_151 =>
  BND (nilchk d_p0) fun t28_152 =>
  BND (faddr 1 t28_152) fun t29_153 =>
  BND (storev 1 w t29_153 t27_151) fun w11 =>
  k_145 w11)
  (k_145 w))
  (fun w1 => BND (nilchk d_p0) fun t33_18 =>
  BND (faddr 2 t33_18) fun t34_19 =>
  BND (storev 1 w1 t34_19 (Value.slice none 0 0)) fun w2 =>
  BND (nilchk d_p0) fun t35_20 =>
  BND (faddr 3 t35_20) fun t36_21 =>
  BND (storev 1 w2 t36_21 (Value.int .i64 (-1))) fun w3 =>
  BND (nilchk d_p0) fun t37_22 =>
  BND (faddr 4 t37_22) fun t38_23 =>
  BND (storev 1 w3 t38_23 (Value.bool false)) fun w4 =>
  BND (nilchk d_p0) fun t40_24 =>
  BND (faddr 1 t40_24) fun t41_25 =>
  BND (load1 w4 t41_25) fun t42_26 =>
  CALL PR F_maps_Keys_file [t42_26] w4 fun t43_27 w5 =>
  CALL PR F_slices_Sorted_string [t43_27] w5 fun t44_28 w6 =>
  BND (lenl t44_28) fun t45_29 =>
  ∃ (J_30 : Value → World → Prop) (m_30 : Value → World → Nat), J_30 (Value.int .i64 0) w6 ∧ ∀ (_d_30 : Env) (t46_35 : Value) (w7 : World), J_30 t46_35 w7 →
  (BND (binv .int .lss t46_35 t45_29) fun t47_89 =>
  COND t47_89
  (BND (iaddr 1 t44_28 t46_35) fun t49_90 =>
  BND (load1 w7 t49_90) fun t50_91 =>
  BND (nilchk d_p0) fun t52_92 =>
  BND (faddr 1 t52_92) fun t53_93 =>
  BND (load1 w7 t53_93) fun t54_94 =>
  BND (lookv .string (Value.pointer none) false w7 t54_94 t50_91) fun t56_95 =>
  BND (lenl tails_p2) fun t59_96 =>
  BND (binv .int .lss t46_35 t59_96) fun t60_97 =>
  JOIN (α := Value → World → Prop) (fun k_132 => COND t60_97
  (BND (iaddr 1 tails_p2 t46_35) fun t63_133 =>
  BND (nilchk t56_95) fun t67_134 =>
  BND (faddr 0 t67_134) fun t68_135 =>
  BND (nilchk t56_95) fun t72_136 =>
  BND (faddr 1 t72_136) fun t73_137 =>
  BND (load1 w7.drew t63_133) fun t64_138 =>
  BND (max2v t64_138 (Value.int .i64 0)) fun t65_139 =>
  BND (load1 w7.drew t68_135) fun t69_140 =>
  BND (lenl t69_140) fun t70_141 =>
  BND (load1 w7.drew t73_137) fun t74_142 =>
  BND (binv .int .sub t70_141 t74_142) fun t75_143 =>
  BND (min2v t65_139 t75_143) fun t76_144 =>
  k_132 t76_144 w7.drew)
  (k_132 (Value.int .i64 0) w7))
  (fun tail_98 w8 => BND (nilchk t56_95) fun t79_115 =>
  BND (faddr 0 t79_115) fun t80_116 =>
  BND (nilchk t56_95) fun t83_117 =>
  BND (faddr 1 t83_117) fun t84_118 =>
  BND (load1 w8.drew t80_116) fun t81_119 =>
  BND (load1 w8.drew t84_118) fun t85_120 =>
  BND (binv .int .add t85_120 tail_98) fun t87_121 =>
  BND (slicev 1 t81_119 none (some t87_121)) fun t88_122 =>
  BND (nilchk t56_95) fun t89_123 =>
  BND (faddr 0 t89_123) fun t90_124 =>
  BND (storev 1 w8.drew t90_124 t88_122) fun w9 =>
  BND (nilchk t56_95) fun t93_125 =>
  BND (faddr 0 t93_125) fun t94_126 =>
  BND (load1 w9 t94_126) fun t95_127 =>
  BND (lenl t95_127) fun t96_128 =>
  BND (nilchk t56_95) fun t97_129 =>
  BND (faddr 1 t97_129) fun t98_130 =>
  BND (storev 1 w9 t98_130 t96_128) fun w10 =>
  BND (binv .int .add t46_35 (Value.int .i64 1)) fun t99_131 =>
  (J_30 t99_131 w10 ∧ m_30 t99_131 w10 < m_30 t46_35 w7)))
  (R (.tuple #[]) w7)))
def ann_disk_Disk_Crash : List (Nat × List Nat) := [(10, [0, 1, 2, 5, 6, 7, 10, 11, 12, 3, 4, 8, 9, 13, 14, 15, 16]), (11, [0, 1, 2, 3, 5, 6, 7, 9, 4, 8, 10, 11, 12, 13, 14]), (1000005, [46])]
theorem E_disk_Disk_Crash (d_p0 open_p1 tails_p2 : Value) (w : World) (R : Value → World → Prop) : M_disk_Disk_Crash d_p0 open_p1 tails_p2 w R = den PR ann_disk_Disk_Crash (bodyOf Tryz.f12) (retQ PR Tryz.f12.results.toList R) (env0 [d_p0, open_p1, tails_p2]) w := by kernel_rfl
theorem C_disk_Disk_Crash {d_p0 open_p1 tails_p2 : Value} {w : World} {R : Value → World → Prop} (h : M_disk_Disk_Crash d_p0 open_p1 tails_p2 w R) : CALL PR F_disk_Disk_Crash [d_p0, open_p1, tails_p2] w R :=
  call_of_den2 ann_disk_Disk_Crash Tryz.func12 (by kernel_rfl) (by kernel_rfl) (by kernel_rfl) ((E_disk_Disk_Crash d_p0 open_p1 tails_p2 w R) ▸ h)
-- 13 tumbrel.seglog.Open
def M_seglog_Open (d_p0 seg_p1 at_p2 most_p3 : Value) (w : World) (R : Value → World → Prop) : Prop :=
  CALL PR F_seglog_made [d_p0, seg_p1, most_p3] w fun t19_1 w1 =>
  BND (extractv t19_1 0) fun t20_2 =>
  BND (extractv t19_1 1) fun t21_3 =>
  BND (extractv t19_1 2) fun t22_4 =>
  BND (binv .int .neq t22_4 (Value.int .i64 0)) fun t24_5 =>
  COND t24_5
  (R (.tuple #[(Value.pointer none), t22_4]) w1)
  (BND (nilchk t20_2) fun t28_6 =>
  BND (faddr 0 t28_6) fun t29_7 =>
  BND (load1 w1 t29_7) fun t30_8 =>
  CALL PR F_disk_Disk_Read [t30_8, t21_3] w1 fun t32_9 w2 =>
  BND (extractv t32_9 0) fun t33_10 =>
  BND (extractv t32_9 1) fun t34_11 =>
  BND (binv .int .neq t34_11 (Value.int .i64 0)) fun t37_12 =>
  COND t37_12
  (R (.tuple #[(Value.pointer none), t34_11]) w2)
  (BND (lenl t33_10) fun t41_13 =>
  BND (convi .u64 t41_13) fun t42_14 =>
  BND (binv .int .lss t42_14 at_p2) fun t44_15 =>
  COND t44_15
  (R (.tuple #[(Value.pointer none), (Value.int .i64 3)]) w2)
  (BND (lenl t33_10) fun t47_16 =>
  BND (convi .u64 t47_16) fun t48_17 =>
  BND (binv .int .gtr t48_17 at_p2) fun t50_18 =>
  JOIN (α := World → Prop) (fun k_38 => COND t50_18
  (BND (nilchk t20_2) fun t52_39 =>
  BND (faddr 0 t52_39) fun t53_40 =>
  BND (load1 w2 t53_40) fun t54_41 =>
  BND (convi .i64 at_p2) fun t57_42 =>
  CALL PR F_disk_Disk_Cut [t54_41, t21_3, t57_42] w2 fun t58_43 w6 =>
  BND (binv .int .neq t58_43 (Value.int .i64 0)) fun t60_44 =>
  COND t60_44
  (R (.tuple #[(Value.pointer none), t58_43]) w6)
  (k_38 w6))
  (k_38 w2))
  (fun w3 => BND (binv .int .add seg_p1 (Value.int .u64 1)) fun t66_33 =>
  BND (nilchk t20_2) fun t67_34 =>
  BND (faddr 2 t67_34) fun t68_35 =>
  BND (storev 1 w3 t68_35 at_p2) fun w4 =>
  BND (nilchk t20_2) fun t69_36 =>
  BND (faddr 4 t69_36) fun t70_37 =>
  BND (storev 1 w4 t70_37 t66_33) fun w5 =>
  R (.tuple #[t20_2, (Value.int .i64 0)]) w5))))
def ann_seglog_Open : List (Nat × List Nat) := []
theorem E_seglog_Open (d_p0 seg_p1 at_p2 most_p3 : Value) (w : World) (R : Value → World → Prop) : M_seglog_Open d_p0 seg_p1 at_p2 most_p3 w R = den PR ann_seglog_Open (bodyOf Tryz.f13) (retQ PR Tryz.f13.results.toList R) (env0 [d_p0, seg_p1, at_p2, most_p3]) w := by kernel_rfl
theorem C_seglog_Open {d_p0 seg_p1 at_p2 most_p3 : Value} {w : World} {R : Value → World → Prop} (h : M_seglog_Open d_p0 seg_p1 at_p2 most_p3 w R) : CALL PR F_seglog_Open [d_p0, seg_p1, at_p2, most_p3] w R :=
  call_of_den2 ann_seglog_Open Tryz.func13 (by kernel_rfl) (by kernel_rfl) (by kernel_rfl) ((E_seglog_Open d_p0 seg_p1 at_p2 most_p3 w R) ▸ h)
-- 14 tumbrel.tumbrellaw15.there
def M_tumbrellaw15_there (l_p0 p_p1 : Value) (w : World) (R : Value → World → Prop) : Prop :=
  BND (lenl p_p1) fun t13_1 =>
  ∃ (J_2 : Value → World → Prop) (m_2 : Value → World → Nat), J_2 (Value.int .i64 0) w ∧ ∀ (_d_2 : Env) (t14_10 : Value) (w1 : World), J_2 t14_10 w1 →
  (BND (binv .int .lss t14_10 t13_1) fun t15_46 =>
  COND t15_46
  (BND (iaddr 5 p_p1 t14_10) fun t16_47 =>
  BND (loadn 5 w1 t16_47) fun t17_48 =>
  NEW (newv 79 w1 (Value.agg #[(Value.int .i64 0), (Value.slice none 0 0), (Value.string ByteArray.empty), (Value.int .u64 0), (Value.int .u64 0)])) fun x_49 w2 =>
  BND (storev 5 w2 x_49 t17_48) fun w3 =>
  BND (faddr 3 x_49) fun t20_50 =>
  BND (load1 w3 t20_50) fun t21_51 =>
  BND (faddr 4 x_49) fun t22_52 =>
  BND (load1 w3 t22_52) fun t23_53 =>
  CALL PR F_seglog_Log_Read [l_p0, t21_51, t23_53] w3 fun t24_54 w4 =>
  BND (extractv t24_54 0) fun t25_55 =>
  BND (extractv t24_54 1) fun t26_56 =>
  BND (extractv t24_54 2) fun t27_57 =>
  NEW (newv 37 w4 (Value.agg #[(Value.int .i64 0), (Value.slice none 0 0), (Value.string ByteArray.empty)])) fun r_58 w5 =>
  BND (storev 3 w5 r_58 t25_55) fun w6 =>
  BND (faddr 0 x_49) fun t29_59 =>
  BND (loadn 3 w6 t29_59) fun t30_60 =>
  CALL PR F_record_Bytes [t30_60] w6 fun t31_61 w7 =>
  BND (extractv t31_61 0) fun t32_62 =>
  BND (extractv t31_61 1) fun t33_63 =>
  BND (binv .int .neq t27_57 (Value.int .i64 0)) fun t35_64 =>
  BND (grd (isB t35_64 false) (some t26_56)) fun t37_65 =>
  BND (grd (isB t35_64 false) (some t32_62)) fun t38_66 =>
  BND (grd (isB t35_64 false) (lenl t38_66)) fun t39_67 =>
  BND (grd (isB t35_64 false) (binv .int .neq t37_65 t39_67)) fun t40_68 =>
  BND (pickv t35_64 (Value.bool true) t40_68) fun t41_69 =>
  BND (grd (isB t41_69 false) (loadn 3 w7 r_58)) fun t43_70 =>
  BND (grd (isB t41_69 false) (faddr 0 x_49)) fun t44_71 =>
  BND (grd (isB t41_69 false) (loadn 3 w7 t44_71)) fun t45_72 =>
  GEF (isB t41_69 false) (fun k_ => CALL PR F_record_Same [t43_70, t45_72] w7 k_) w7 fun t46_73 w8 =>
  BND (grd (isB t41_69 false) (unv .not t46_73)) fun t47_74 =>
  BND (pickv t41_69 (Value.bool true) t47_74) fun t48_75 =>
  COND t48_75
  (R (Value.bool false) w8)
  (BND (binv .int .add t14_10 (Value.int .i64 1)) fun t49_76 =>
  (J_2 t49_76 w8 ∧ m_2 t49_76 w8 < m_2 t14_10 w1)))
  (R (Value.bool true) w1))
def ann_tumbrellaw15_there : List (Nat × List Nat) := [(1000002, [14])]
theorem E_tumbrellaw15_there (l_p0 p_p1 : Value) (w : World) (R : Value → World → Prop) : M_tumbrellaw15_there l_p0 p_p1 w R = den PR ann_tumbrellaw15_there (bodyOf Tryz.f14) (retQ PR Tryz.f14.results.toList R) (env0 [l_p0, p_p1]) w := by kernel_rfl
theorem C_tumbrellaw15_there {l_p0 p_p1 : Value} {w : World} {R : Value → World → Prop} (h : M_tumbrellaw15_there l_p0 p_p1 w R) : CALL PR F_tumbrellaw15_there [l_p0, p_p1] w R :=
  call_of_den2 ann_tumbrellaw15_there Tryz.func14 (by kernel_rfl) (by kernel_rfl) (by kernel_rfl) ((E_tumbrellaw15_there l_p0 p_p1 w R) ▸ h)
-- 15 tumbrel.disk.New
def M_disk_New (room_p0 : Value) (w : World) (R : Value → World → Prop) : Prop :=
  BND (binv .int .lss room_p0 (Value.int .i64 16)) fun t5_1 =>
  BND (grd (isB t5_1 false) (some room_p0)) fun t7_2 =>
  BND (grd (isB t5_1 false) (binv .int .gtr t7_2 (Value.int .i64 1048576))) fun t8_3 =>
  BND (pickv t5_1 (Value.bool true) t8_3) fun t9_4 =>
  COND t9_4
  (R (.tuple #[(Value.pointer none), (Value.int .i64 1)]) w)
  (NEW (newmap w) fun t11_5 w1 =>
  BND (buildv #[(Value.int .i64 0), (Value.map none), (Value.slice none 0 0), (Value.int .i64 0), (Value.bool false)] [(0, 1, room_p0), (1, 1, t11_5), (3, 1, (Value.int .i64 (-1)))]) fun t12_6 =>
  NEW (newv 98 w1 t12_6) fun t13_7 w2 =>
  R (.tuple #[t13_7, (Value.int .i64 0)]) w2)
def ann_disk_New : List (Nat × List Nat) := []
theorem E_disk_New (room_p0 : Value) (w : World) (R : Value → World → Prop) : M_disk_New room_p0 w R = den PR ann_disk_New (bodyOf Tryz.f15) (retQ PR Tryz.f15.results.toList R) (env0 [room_p0]) w := by kernel_rfl
theorem C_disk_New {room_p0 : Value} {w : World} {R : Value → World → Prop} (h : M_disk_New room_p0 w R) : CALL PR F_disk_New [room_p0] w R :=
  call_of_den2 ann_disk_New Tryz.func15 (by kernel_rfl) (by kernel_rfl) (by kernel_rfl) ((E_disk_New room_p0 w R) ▸ h)
-- 18 tumbrel.seglog.Begin
def M_seglog_Begin (d_p0 seg_p1 most_p2 : Value) (w : World) (R : Value → World → Prop) : Prop :=
  CALL PR F_seglog_made [d_p0, seg_p1, most_p2] w fun t16_1 w1 =>
  BND (extractv t16_1 0) fun t17_2 =>
  BND (extractv t16_1 1) fun t18_3 =>
  BND (extractv t16_1 2) fun t19_4 =>
  BND (binv .int .neq t19_4 (Value.int .i64 0)) fun t21_5 =>
  COND t21_5
  (R (.tuple #[(Value.pointer none), t19_4]) w1)
  (BND (nilchk t17_2) fun t24_6 =>
  BND (faddr 0 t24_6) fun t25_7 =>
  BND (load1 w1 t25_7) fun t26_8 =>
  CALL PR F_disk_Disk_Create [t26_8, t18_3] w1 fun t28_9 w2 =>
  BND (binv .int .neq t28_9 (Value.int .i64 0)) fun t30_10 =>
  COND t30_10
  (R (.tuple #[(Value.pointer none), t28_9]) w2)
  (BND (nilchk t17_2) fun t33_11 =>
  BND (faddr 5 t33_11) fun t34_12 =>
  BND (storev 1 w2 t34_12 (Value.bool true)) fun w3 =>
  R (.tuple #[t17_2, (Value.int .i64 0)]) w3))
def ann_seglog_Begin : List (Nat × List Nat) := []
theorem E_seglog_Begin (d_p0 seg_p1 most_p2 : Value) (w : World) (R : Value → World → Prop) : M_seglog_Begin d_p0 seg_p1 most_p2 w R = den PR ann_seglog_Begin (bodyOf Tryz.f18) (retQ PR Tryz.f18.results.toList R) (env0 [d_p0, seg_p1, most_p2]) w := by kernel_rfl
theorem C_seglog_Begin {d_p0 seg_p1 most_p2 : Value} {w : World} {R : Value → World → Prop} (h : M_seglog_Begin d_p0 seg_p1 most_p2 w R) : CALL PR F_seglog_Begin [d_p0, seg_p1, most_p2] w R :=
  call_of_den2 ann_seglog_Begin Tryz.func18 (by kernel_rfl) (by kernel_rfl) (by kernel_rfl) ((E_seglog_Begin d_p0 seg_p1 most_p2 w R) ▸ h)
-- 24 (*tumbrel.disk.Disk).Names
def M_disk_Disk_Names (d_p0 : Value) (w : World) (R : Value → World → Prop) : Prop :=
  CALL PR F_disk_Disk_now [d_p0] w fun t4_1 w1 =>
  CALL PR F_maps_Keys_file [t4_1] w1 fun t5_2 w2 =>
  CALL PR F_slices_Sorted_string [t5_2] w2 fun t6_3 w3 =>
  R t6_3 w3
def ann_disk_Disk_Names : List (Nat × List Nat) := []
theorem E_disk_Disk_Names (d_p0 : Value) (w : World) (R : Value → World → Prop) : M_disk_Disk_Names d_p0 w R = den PR ann_disk_Disk_Names (bodyOf Tryz.f24) (retQ PR Tryz.f24.results.toList R) (env0 [d_p0]) w := by kernel_rfl
theorem C_disk_Disk_Names {d_p0 : Value} {w : World} {R : Value → World → Prop} (h : M_disk_Disk_Names d_p0 w R) : CALL PR F_disk_Disk_Names [d_p0] w R :=
  call_of_den2 ann_disk_Disk_Names Tryz.func24 (by kernel_rfl) (by kernel_rfl) (by kernel_rfl) ((E_disk_Disk_Names d_p0 w R) ▸ h)
-- 26 (*tumbrel.disk.Disk).Held
def M_disk_Disk_Held (d_p0 : Value) (w : World) (R : Value → World → Prop) : Prop :=
  ∃ S_1 : Nat → World → Prop,
  S_1 8 w.drew ∧
  BND (nilchk d_p0) fun t10_2 =>
  BND (faddr 1 t10_2) fun t11_3 =>
  BND (nilchk d_p0) fun t15_4 =>
  BND (faddr 2 t15_4) fun t16_5 =>
  FLT (S_1 8) (fun w_ => load1 w_ t16_5) fun t17_6 =>
  BND (load1 w.drew t11_3) fun t12_7 =>
  BND (newslice 95 #[(Value.map none)] 1 1 [(0, 1, t12_7)] w.drew) fun p_ => NEW p_ fun t13_8 w1 =>
  S_1 8 w1 ∧
  APPEND 95 1 8 (Value.map none) t13_8 t17_6 w1 fun t18_9 w2 =>
  BND (lenl t18_9) fun t19_10 =>
  ∃ (J_11 : Value → Value → Value → World → Prop) (m_11 : Value → Value → Value → World → Nat), J_11 (Value.slice none 0 0) (Value.int .i64 0) (Value.int .i64 0) w2 ∧ ∀ (_d_11 : Env) (seen_12 n_13 t20_16 : Value) (w3 : World), J_11 seen_12 n_13 t20_16 w3 →
  (BND (binv .int .lss t20_16 t19_10) fun t21_42 =>
  COND t21_42
  (BND (iaddr 1 t18_9 t20_16) fun t22_43 =>
  BND (load1 w3 t22_43) fun t23_44 =>
  BND (rangemv w3 t23_44) fun p_ => NEW p_ fun t25_45 w4 =>
  ∃ (J_46 : Value → Value → World → Prop) (m_46 : Value → Value → World → Nat), J_46 seen_12 n_13 w4 ∧ ∀ (_d_46 : Env) (seen_47 n_48 : Value) (w5 : World), J_46 seen_47 n_48 w5 →
  (NEXTM t25_45 w5 fun t26_69 w6 =>
  BND (extractv t26_69 0) fun t27_70 =>
  COND t27_70
  (BND (entryv w6 t25_45) fun t28_71 =>
  BND (extractv t28_71 1) fun t29_72 =>
  CALL PR F_slices_Contains_disk_file_disk_file [seen_47, t29_72] w6 fun t32_73 w7 =>
  BND (unv .not t32_73) fun t33_74 =>
  JOIN (α := Value → Value → World → Prop) (fun k_88 => COND t33_74
  (BND (newslice 103 #[(Value.pointer none)] 1 1 [(0, 1, t29_72)] w7) fun p_ => NEW p_ fun t36_89 w9 =>
  APPEND 103 1 8 (Value.pointer none) seen_47 t36_89 w9 fun t37_90 w10 =>
  BND (nilchk t29_72) fun t40_91 =>
  BND (faddr 0 t40_91) fun t41_92 =>
  BND (load1 w10 t41_92) fun t42_93 =>
  BND (lenl t42_93) fun t43_94 =>
  BND (binv .int .add n_48 t43_94) fun t44_95 =>
  k_88 t37_90 t44_95 w10)
  (k_88 seen_47 n_48 w7))
  (fun seen_75 n_76 w8 => (J_46 seen_75 n_76 w8 ∧ m_46 seen_75 n_76 w8 < m_46 seen_47 n_48 w5)))
  (BND (binv .int .add t20_16 (Value.int .i64 1)) fun t45_96 =>
  (J_11 seen_47 n_48 t45_96 w6 ∧ m_11 seen_47 n_48 t45_96 w6 < m_11 seen_12 n_13 t20_16 w3))))
  (R n_13 w3))
def ann_disk_Disk_Held : List (Nat × List Nat) := [(3, [0, 1, 2, 5, 6, 7, 8, 11, 3, 4, 9, 10]), (1000004, [3, 4, 20]), (1000007, [3, 4]), (2000003, [8]), (3003004, [8])]
theorem E_disk_Disk_Held (d_p0 : Value) (w : World) (R : Value → World → Prop) : M_disk_Disk_Held d_p0 w R = den PR ann_disk_Disk_Held (bodyOf Tryz.f26) (retQ PR Tryz.f26.results.toList R) (env0 [d_p0]) w := by kernel_rfl
theorem C_disk_Disk_Held {d_p0 : Value} {w : World} {R : Value → World → Prop} (h : M_disk_Disk_Held d_p0 w R) : CALL PR F_disk_Disk_Held [d_p0] w R :=
  call_of_den2 ann_disk_Disk_Held Tryz.func26 (by kernel_rfl) (by kernel_rfl) (by kernel_rfl) ((E_disk_Disk_Held d_p0 w R) ▸ h)
-- 29 tumbrel.record.Bytes
def M_record_Bytes (r_p0 : Value) (w : World) (R : Value → World → Prop) : Prop :=
  NEW (newv 37 w r_p0) fun r_1 w1 =>
  BND (loadn 3 w1 r_1) fun t4_2 =>
  CALL PR F_record_Right [t4_2] w1 fun t5_3 w2 =>
  BND (unv .not t5_3) fun t6_4 =>
  COND t6_4
  (R (.tuple #[(Value.slice none 0 0), (Value.int .i64 1)]) w2)
  (∃ S_5 : Nat → World → Prop,
  S_5 1 w2.drew ∧
  S_5 7 w2.drew ∧
  BND (faddr 0 r_1) fun t7_6 =>
  FLT (S_5 1) (fun w_ => load1 w_ t7_6) fun t8_7 =>
  BND (convi .u8 t8_7) fun t9_8 =>
  BND (faddr 1 r_1) fun t10_9 =>
  BND (faddr 2 r_1) fun t13_10 =>
  FLT (S_5 7) (fun w_ => load1 w_ t13_10) fun t14_11 =>
  BND (load1 w2.drew t10_9) fun t11_12 =>
  CALL PR F_vint_All [t11_12] w2.drew fun t12_13 w3 =>
  S_5 1 w3 ∧
  S_5 7 w3 ∧
  APPEND 5 1 1 (Value.int .u8 0) t12_13 t14_11 w3 fun t15_14 w4 =>
  S_5 1 w4 ∧
  BND (buildv #[(Value.int .u8 0), (Value.slice none 0 0)] [(0, 1, t9_8), (1, 1, t15_14)]) fun t16_15 =>
  CALL PR F_frame_Bytes [t16_15] w4 fun t17_16 w5 =>
  BND (extractv t17_16 0) fun t18_17 =>
  BND (extractv t17_16 1) fun t19_18 =>
  R (.tuple #[t18_17, t19_18]) w5)
def ann_record_Bytes : List (Nat × List Nat) := [(3, [0, 1, 2, 3, 6, 7, 4, 5, 8, 9, 10, 11, 12, 13, 14]), (2000003, [1, 7]), (3003005, [1, 7]), (3003008, [1])]
theorem E_record_Bytes (r_p0 : Value) (w : World) (R : Value → World → Prop) : M_record_Bytes r_p0 w R = den PR ann_record_Bytes (bodyOf Tryz.f29) (retQ PR Tryz.f29.results.toList R) (env0 [r_p0]) w := by kernel_rfl
theorem C_record_Bytes {r_p0 : Value} {w : World} {R : Value → World → Prop} (h : M_record_Bytes r_p0 w R) : CALL PR F_record_Bytes [r_p0] w R :=
  call_of_den2 ann_record_Bytes Tryz.func29 (by kernel_rfl) (by kernel_rfl) (by kernel_rfl) ((E_record_Bytes r_p0 w R) ▸ h)
-- 30 tumbrel.name.Only
def M_name_Only (l_p0 kind_p1 : Value) (w : World) (R : Value → World → Prop) : Prop :=
  BND (lenl l_p0) fun t12_1 =>
  ∃ (J_2 : Value → Value → World → Prop) (m_2 : Value → Value → World → Nat), J_2 (Value.slice none 0 0) (Value.int .i64 0) w ∧ ∀ (_d_2 : Env) (out_3 t13_8 : Value) (w1 : World), J_2 out_3 t13_8 w1 →
  (BND (binv .int .lss t13_8 t12_1) fun t14_29 =>
  COND t14_29
  (BND (iaddr 1 l_p0 t13_8) fun t15_30 =>
  BND (load1 w1 t15_30) fun t16_31 =>
  CALL PR F_name_Read [t16_31] w1 fun t19_32 w2 =>
  BND (extractv t19_32 0) fun t20_33 =>
  BND (extractv t19_32 1) fun t21_34 =>
  BND (extractv t19_32 2) fun t22_35 =>
  BND (grd (isB t22_35 true) (some t20_33)) fun t25_36 =>
  BND (grd (isB t22_35 true) (some kind_p1)) fun t26_37 =>
  BND (grd (isB t22_35 true) (binv .int .eql t25_36 t26_37)) fun t27_38 =>
  BND (pickv t22_35 t27_38 (Value.bool false)) fun t28_39 =>
  JOIN (α := Value → World → Prop) (fun k_46 => COND t28_39
  (BND (newslice 22 #[(Value.int .u64 0)] 1 1 [(0, 1, t21_34)] w2) fun p_ => NEW p_ fun t31_47 w4 =>
  APPEND 22 1 8 (Value.int .u64 0) out_3 t31_47 w4 fun t32_48 w5 =>
  k_46 t32_48 w5)
  (k_46 out_3 w2))
  (fun out_40 w3 => BND (binv .int .add t13_8 (Value.int .i64 1)) fun t33_45 =>
  (J_2 out_40 t33_45 w3 ∧ m_2 out_40 t33_45 w3 < m_2 out_3 t13_8 w1)))
  (CALL PR F_slices_Sort_uint64_uint64 [out_3] w1 fun t35_49 w6 =>
  R out_3 w6))
def ann_name_Only : List (Nat × List Nat) := [(1000003, [5, 13])]
theorem E_name_Only (l_p0 kind_p1 : Value) (w : World) (R : Value → World → Prop) : M_name_Only l_p0 kind_p1 w R = den PR ann_name_Only (bodyOf Tryz.f30) (retQ PR Tryz.f30.results.toList R) (env0 [l_p0, kind_p1]) w := by kernel_rfl
theorem C_name_Only {l_p0 kind_p1 : Value} {w : World} {R : Value → World → Prop} (h : M_name_Only l_p0 kind_p1 w R) : CALL PR F_name_Only [l_p0, kind_p1] w R :=
  call_of_den2 ann_name_Only Tryz.func30 (by kernel_rfl) (by kernel_rfl) (by kernel_rfl) ((E_name_Only l_p0 kind_p1 w R) ▸ h)
-- 31 (*tumbrel.seglog.Log).Read
def M_seglog_Log_Read (l_p0 seg_p1 at_p2 : Value) (w : World) (R : Value → World → Prop) : Prop :=
  NEW (newv 37 w (Value.agg #[(Value.int .i64 0), (Value.slice none 0 0), (Value.string ByteArray.empty)])) fun t6_1 w1 =>
  BND (nilchk l_p0) fun t10_2 =>
  BND (faddr 0 t10_2) fun t11_3 =>
  BND (load1 w1 t11_3) fun t12_4 =>
  CALL PR F_seglog_At [t12_4, seg_p1, at_p2] w1 fun t15_5 w2 =>
  BND (extractv t15_5 0) fun t16_6 =>
  BND (extractv t15_5 1) fun t17_7 =>
  BND (extractv t15_5 2) fun t18_8 =>
  BND (storev 3 w2 t6_1 t16_6) fun w3 =>
  BND (loadn 3 w3 t6_1) fun r_9 =>
  R (.tuple #[r_9, t17_7, t18_8]) w3
def ann_seglog_Log_Read : List (Nat × List Nat) := []
theorem E_seglog_Log_Read (l_p0 seg_p1 at_p2 : Value) (w : World) (R : Value → World → Prop) : M_seglog_Log_Read l_p0 seg_p1 at_p2 w R = den PR ann_seglog_Log_Read (bodyOf Tryz.f31) (retQ PR Tryz.f31.results.toList R) (env0 [l_p0, seg_p1, at_p2]) w := by kernel_rfl
theorem C_seglog_Log_Read {l_p0 seg_p1 at_p2 : Value} {w : World} {R : Value → World → Prop} (h : M_seglog_Log_Read l_p0 seg_p1 at_p2 w R) : CALL PR F_seglog_Log_Read [l_p0, seg_p1, at_p2] w R :=
  call_of_den2 ann_seglog_Log_Read Tryz.func31 (by kernel_rfl) (by kernel_rfl) (by kernel_rfl) ((E_seglog_Log_Read l_p0 seg_p1 at_p2 w R) ▸ h)
-- 32 tumbrel.record.Right
def M_record_Right (r_p0 : Value) (w : World) (R : Value → World → Prop) : Prop :=
  NEW (newv 37 w r_p0) fun r_1 w1 =>
  ∃ S_2 : Nat → World → Prop,
  S_2 5 w1.drew ∧
  S_2 9 w1.drew ∧
  BND (faddr 0 r_1) fun t3_3 =>
  BND (load1 w1.drew t3_3) fun t4_4 =>
  CALL PR F_record_known [t4_4] w1.drew fun t5_5 w2 =>
  S_2 5 w2 ∧
  S_2 9 w2 ∧
  BND (grd (isB t5_5 true) (faddr 1 r_1)) fun t7_6 =>
  FLT (S_2 5) (fun w_ => (grd (isB t5_5 true) (load1 w_ t7_6))) fun t8_7 =>
  BND (grd (isB t5_5 true) (lenl t8_7)) fun t9_8 =>
  BND (grd (isB t5_5 true) (faddr 0 r_1)) fun t11_9 =>
  FLT (S_2 9) (fun w_ => (grd (isB t5_5 true) (load1 w_ t11_9))) fun t12_10 =>
  GEF (isB t5_5 true) (fun k_ => CALL PR F_record_numbers [] w2 k_) w2 fun t10_11 w3 =>
  S_2 5 w3 ∧
  S_2 9 w3 ∧
  BND (grd (isB t5_5 true) (indexav false 18 1 t10_11 t12_10)) fun t13_12 =>
  BND (grd (isB t5_5 true) (binv .int .eql t9_8 t13_12)) fun t14_13 =>
  BND (pickv t5_5 t14_13 (Value.bool false)) fun t15_14 =>
  BND (grd (isB t15_14 true) (faddr 0 r_1)) fun t17_15 =>
  BND (grd (isB t15_14 true) (faddr 2 r_1)) fun t19_16 =>
  BND (grd (isB t15_14 true) (load1 w3 t17_15)) fun t18_17 =>
  BND (grd (isB t15_14 true) (load1 w3 t19_16)) fun t20_18 =>
  BND (grd (isB t15_14 true) (lens t20_18)) fun t21_19 =>
  GEF (isB t15_14 true) (fun k_ => CALL PR F_record_fits [t18_17, t21_19] w3 k_) w3 fun t22_20 w4 =>
  BND (pickv t15_14 t22_20 (Value.bool false)) fun t23_21 =>
  R t23_21 w4
def ann_record_Right : List (Nat × List Nat) := [(1, [0, 1, 2, 3, 4, 5, 6, 8, 9, 7, 10, 11, 12, 13, 14, 16, 15, 17, 18, 19, 20, 21]), (2000001, [5, 9]), (3001002, [5, 9]), (3001007, [5, 9])]
theorem E_record_Right (r_p0 : Value) (w : World) (R : Value → World → Prop) : M_record_Right r_p0 w R = den PR ann_record_Right (bodyOf Tryz.f32) (retQ PR Tryz.f32.results.toList R) (env0 [r_p0]) w := by kernel_rfl
theorem C_record_Right {r_p0 : Value} {w : World} {R : Value → World → Prop} (h : M_record_Right r_p0 w R) : CALL PR F_record_Right [r_p0] w R :=
  call_of_den2 ann_record_Right Tryz.func32 (by kernel_rfl) (by kernel_rfl) (by kernel_rfl) ((E_record_Right r_p0 w R) ▸ h)
-- 33 tumbrel.name.Of
def M_name_Of (kind_p0 n_p1 : Value) (w : World) (R : Value → World → Prop) : Prop :=
  CALL PR F_strings_IndexByte [(Value.string { data := #[109, 101, 115] }), kind_p0] w fun t7_1 w1 =>
  BND (binv .int .lss t7_1 (Value.int .i64 0)) fun t8_2 =>
  BND (grd (isB t8_2 false) (some n_p1)) fun t10_3 =>
  BND (grd (isB t8_2 false) (binv .int .geq t10_3 (Value.int .u64 10000000000))) fun t11_4 =>
  BND (pickv t8_2 (Value.bool true) t11_4) fun t12_5 =>
  COND t12_5
  (R (.tuple #[(Value.string { data := #[] }), (Value.int .i64 1)]) w1)
  (BND (convi .i32 kind_p0) fun t14_6 =>
  BND (runev t14_6) fun t15_7 =>
  BND (binv .str .add t15_7 (Value.string { data := #[46] })) fun t16_8 =>
  CALL PR F_strconv_FormatUint [n_p1, (Value.int .i64 10)] w1 fun t18_9 w2 =>
  BND (binv .str .add t16_8 t18_9) fun t19_10 =>
  R (.tuple #[t19_10, (Value.int .i64 0)]) w2)
def ann_name_Of : List (Nat × List Nat) := []
theorem E_name_Of (kind_p0 n_p1 : Value) (w : World) (R : Value → World → Prop) : M_name_Of kind_p0 n_p1 w R = den PR ann_name_Of (bodyOf Tryz.f33) (retQ PR Tryz.f33.results.toList R) (env0 [kind_p0, n_p1]) w := by kernel_rfl
theorem C_name_Of {kind_p0 n_p1 : Value} {w : World} {R : Value → World → Prop} (h : M_name_Of kind_p0 n_p1 w R) : CALL PR F_name_Of [kind_p0, n_p1] w R :=
  call_of_den2 ann_name_Of Tryz.func33 (by kernel_rfl) (by kernel_rfl) (by kernel_rfl) ((E_name_Of kind_p0 n_p1 w R) ▸ h)
-- 34 (*tumbrel.disk.Disk).Sync
def M_disk_Disk_Sync (d_p0 name_p1 : Value) (w : World) (R : Value → World → Prop) : Prop :=
  CALL PR F_disk_Disk_there [d_p0, name_p1] w fun t10_1 w1 =>
  CALL PR F_disk_Disk_can [d_p0, t10_1] w1 fun t11_2 w2 =>
  BND (binv .int .eql t11_2 (Value.int .i64 0)) fun t13_3 =>
  JOIN (α := World → Prop) (fun k_17 => COND t13_3
  (CALL PR F_disk_Disk_now [d_p0] w2 fun t15_18 w4 =>
  BND (lookv .string (Value.pointer none) false w4 t15_18 name_p1) fun t17_19 =>
  BND (nilchk t17_19) fun t20_20 =>
  BND (faddr 0 t20_20) fun t21_21 =>
  BND (load1 w4 t21_21) fun t22_22 =>
  BND (lenl t22_22) fun t23_23 =>
  BND (nilchk t17_19) fun t24_24 =>
  BND (faddr 1 t24_24) fun t25_25 =>
  BND (storev 1 w4 t25_25 t23_23) fun w5 =>
  k_17 w5)
  (k_17 w2))
  (fun w3 => R t11_2 w3)
def ann_disk_Disk_Sync : List (Nat × List Nat) := []
theorem E_disk_Disk_Sync (d_p0 name_p1 : Value) (w : World) (R : Value → World → Prop) : M_disk_Disk_Sync d_p0 name_p1 w R = den PR ann_disk_Disk_Sync (bodyOf Tryz.f34) (retQ PR Tryz.f34.results.toList R) (env0 [d_p0, name_p1]) w := by kernel_rfl
theorem C_disk_Disk_Sync {d_p0 name_p1 : Value} {w : World} {R : Value → World → Prop} (h : M_disk_Disk_Sync d_p0 name_p1 w R) : CALL PR F_disk_Disk_Sync [d_p0, name_p1] w R :=
  call_of_den2 ann_disk_Disk_Sync Tryz.func34 (by kernel_rfl) (by kernel_rfl) (by kernel_rfl) ((E_disk_Disk_Sync d_p0 name_p1 w R) ▸ h)
-- 35 (*tumbrel.disk.Disk).DirSync
def M_disk_Disk_DirSync (d_p0 : Value) (w : World) (R : Value → World → Prop) : Prop :=
  CALL PR F_disk_Disk_can [d_p0, (Value.int .i64 0)] w fun t5_1 w1 =>
  BND (binv .int .eql t5_1 (Value.int .i64 0)) fun t7_2 =>
  JOIN (α := World → Prop) (fun k_11 => COND t7_2
  (CALL PR F_disk_Disk_now [d_p0] w1 fun t11_12 w3 =>
  BND (nilchk d_p0) fun t12_13 =>
  BND (faddr 1 t12_13) fun t13_14 =>
  BND (storev 1 w3 t13_14 t11_12) fun w4 =>
  BND (nilchk d_p0) fun t14_15 =>
  BND (faddr 2 t14_15) fun t15_16 =>
  BND (storev 1 w4 t15_16 (Value.slice none 0 0)) fun w5 =>
  k_11 w5)
  (k_11 w1))
  (fun w2 => R t5_1 w2)
def ann_disk_Disk_DirSync : List (Nat × List Nat) := []
theorem E_disk_Disk_DirSync (d_p0 : Value) (w : World) (R : Value → World → Prop) : M_disk_Disk_DirSync d_p0 w R = den PR ann_disk_Disk_DirSync (bodyOf Tryz.f35) (retQ PR Tryz.f35.results.toList R) (env0 [d_p0]) w := by kernel_rfl
theorem C_disk_Disk_DirSync {d_p0 : Value} {w : World} {R : Value → World → Prop} (h : M_disk_Disk_DirSync d_p0 w R) : CALL PR F_disk_Disk_DirSync [d_p0] w R :=
  call_of_den2 ann_disk_Disk_DirSync Tryz.func35 (by kernel_rfl) (by kernel_rfl) (by kernel_rfl) ((E_disk_Disk_DirSync d_p0 w R) ▸ h)
-- 36 (*tumbrel.seglog.Log).turn
def M_seglog_Log_turn (l_p0 : Value) (w : World) (R : Value → World → Prop) : Prop :=
  BND (nilchk l_p0) fun t8_1 =>
  BND (faddr 1 t8_1) fun t9_2 =>
  BND (load1 w t9_2) fun t10_3 =>
  BND (binv .int .add t10_3 (Value.int .u64 1)) fun t11_4 =>
  CALL PR F_name_Of [(Value.int .u8 109), t11_4] w fun t12_5 w1 =>
  BND (extractv t12_5 0) fun t13_6 =>
  BND (extractv t12_5 1) fun t14_7 =>
  BND (binv .int .neq t14_7 (Value.int .i64 0)) fun t16_8 =>
  COND t16_8
  (R (Value.int .i64 4) w1)
  (BND (nilchk l_p0) fun t18_9 =>
  BND (faddr 0 t18_9) fun t19_10 =>
  BND (load1 w1 t19_10) fun t20_11 =>
  CALL PR F_disk_Disk_Create [t20_11, t13_6] w1 fun t22_12 w2 =>
  BND (binv .int .neq t22_12 (Value.int .i64 0)) fun t24_13 =>
  COND t24_13
  (R t22_12 w2)
  (BND (nilchk l_p0) fun t30_14 =>
  BND (faddr 1 t30_14) fun t31_15 =>
  BND (load1 w2 t31_15) fun t32_16 =>
  BND (binv .int .add t32_16 (Value.int .u64 1)) fun t33_17 =>
  BND (nilchk l_p0) fun t34_18 =>
  BND (faddr 1 t34_18) fun t35_19 =>
  BND (storev 1 w2 t35_19 t33_17) fun w3 =>
  BND (nilchk l_p0) fun t36_20 =>
  BND (faddr 2 t36_20) fun t37_21 =>
  BND (storev 1 w3 t37_21 (Value.int .u64 0)) fun w4 =>
  BND (nilchk l_p0) fun t38_22 =>
  BND (faddr 5 t38_22) fun t39_23 =>
  BND (storev 1 w4 t39_23 (Value.bool true)) fun w5 =>
  R (Value.int .i64 0) w5))
def ann_seglog_Log_turn : List (Nat × List Nat) := []
theorem E_seglog_Log_turn (l_p0 : Value) (w : World) (R : Value → World → Prop) : M_seglog_Log_turn l_p0 w R = den PR ann_seglog_Log_turn (bodyOf Tryz.f36) (retQ PR Tryz.f36.results.toList R) (env0 [l_p0]) w := by kernel_rfl
theorem C_seglog_Log_turn {l_p0 : Value} {w : World} {R : Value → World → Prop} (h : M_seglog_Log_turn l_p0 w R) : CALL PR F_seglog_Log_turn [l_p0] w R :=
  call_of_den2 ann_seglog_Log_turn Tryz.func36 (by kernel_rfl) (by kernel_rfl) (by kernel_rfl) ((E_seglog_Log_turn l_p0 w R) ▸ h)
-- 37 (*tumbrel.disk.Disk).Append
def M_disk_Disk_Append (d_p0 name_p1 b_p2 : Value) (w : World) (R : Value → World → Prop) : Prop :=
  CALL PR F_disk_Disk_there [d_p0, name_p1] w fun t11_1 w1 =>
  ∃ S_2 : Nat → World → Prop,
  S_2 11 w1.drew ∧
  BND (binv .int .eql t11_1 (Value.int .i64 0)) fun t13_3 =>
  BND (grd (isB t13_3 true) (some d_p0)) fun t15_4 =>
  BND (grd (isB t13_3 true) (some b_p2)) fun t17_5 =>
  BND (grd (isB t13_3 true) (lenl t17_5)) fun t18_6 =>
  BND (grd (isB t13_3 true) (some d_p0)) fun t20_7 =>
  BND (grd (isB t13_3 true) (nilchk t20_7)) fun t21_8 =>
  BND (grd (isB t13_3 true) (faddr 0 t21_8)) fun t22_9 =>
  FLT (S_2 11) (fun w_ => (grd (isB t13_3 true) (load1 w_ t22_9))) fun t23_10 =>
  GEF (isB t13_3 true) (fun k_ => CALL PR F_disk_Disk_Held [t15_4] w1.drew k_) w1.drew fun t16_11 w2 =>
  S_2 11 w2 ∧
  BND (grd (isB t13_3 true) (binv .int .add t16_11 t18_6)) fun t19_12 =>
  BND (grd (isB t13_3 true) (binv .int .gtr t19_12 t23_10)) fun t24_13 =>
  BND (pickv t13_3 t24_13 (Value.bool false)) fun t25_14 =>
  JOIN (α := Value → World → Prop) (fun k_41 => COND t25_14
  (k_41 (Value.int .i64 4) w2)
  (k_41 t11_1 w2))
  (fun e_15 w3 => CALL PR F_disk_Disk_can [d_p0, e_15] w3 fun t28_16 w4 =>
  BND (binv .int .eql t28_16 (Value.int .i64 0)) fun t30_17 =>
  JOIN (α := World → Prop) (fun k_32 => COND t30_17
  (CALL PR F_disk_Disk_now [d_p0] w4 fun t32_33 w6 =>
  BND (lookv .string (Value.pointer none) false w6 t32_33 name_p1) fun t34_34 =>
  BND (nilchk t34_34) fun t37_35 =>
  BND (faddr 0 t37_35) fun t38_36 =>
  BND (load1 w6 t38_36) fun t39_37 =>
  APPEND 5 1 1 (Value.int .u8 0) t39_37 b_p2 w6 fun t41_38 w7 =>
  BND (nilchk t34_34) fun t42_39 =>
  BND (faddr 0 t42_39) fun t43_40 =>
  BND (storev 1 w7 t43_40 t41_38) fun w8 =>
  k_32 w8)
  (k_32 w4))
  (fun w5 => R t28_16 w5))
def ann_disk_Disk_Append : List (Nat × List Nat) := [(2, [0, 1, 2, 3, 5, 6, 8, 9, 10, 11, 4, 7, 12, 13]), (2000002, [11]), (3002004, [11])]
theorem E_disk_Disk_Append (d_p0 name_p1 b_p2 : Value) (w : World) (R : Value → World → Prop) : M_disk_Disk_Append d_p0 name_p1 b_p2 w R = den PR ann_disk_Disk_Append (bodyOf Tryz.f37) (retQ PR Tryz.f37.results.toList R) (env0 [d_p0, name_p1, b_p2]) w := by kernel_rfl
theorem C_disk_Disk_Append {d_p0 name_p1 b_p2 : Value} {w : World} {R : Value → World → Prop} (h : M_disk_Disk_Append d_p0 name_p1 b_p2 w R) : CALL PR F_disk_Disk_Append [d_p0, name_p1, b_p2] w R :=
  call_of_den2 ann_disk_Disk_Append Tryz.func37 (by kernel_rfl) (by kernel_rfl) (by kernel_rfl) ((E_disk_Disk_Append d_p0 name_p1 b_p2 w R) ▸ h)
-- 40 tumbrel.seglog.made
def M_seglog_made (d_p0 seg_p1 size_p2 : Value) (w : World) (R : Value → World → Prop) : Prop :=
  CALL PR F_name_Of [(Value.int .u8 109), seg_p1] w fun t13_1 w1 =>
  BND (extractv t13_1 0) fun t14_2 =>
  BND (extractv t13_1 1) fun t15_3 =>
  BND (binv .ptr .eql d_p0 (Value.pointer none)) fun t17_4 =>
  BND (grd (isB t17_4 false) (some size_p2)) fun t19_5 =>
  BND (grd (isB t17_4 false) (binv .int .lss t19_5 (Value.int .i64 64))) fun t20_6 =>
  BND (pickv t17_4 (Value.bool true) t20_6) fun t21_7 =>
  BND (grd (isB t21_7 false) (some size_p2)) fun t23_8 =>
  BND (grd (isB t21_7 false) (binv .int .gtr t23_8 (Value.int .i64 65536))) fun t24_9 =>
  BND (pickv t21_7 (Value.bool true) t24_9) fun t25_10 =>
  BND (grd (isB t25_10 false) (some t15_3)) fun t27_11 =>
  BND (grd (isB t25_10 false) (binv .int .neq t27_11 (Value.int .i64 0))) fun t28_12 =>
  BND (pickv t25_10 (Value.bool true) t28_12) fun t29_13 =>
  COND t29_13
  (R (.tuple #[(Value.pointer none), (Value.string { data := #[] }), (Value.int .i64 1)]) w1)
  (BND (buildv #[(Value.pointer none), (Value.int .u64 0), (Value.int .u64 0), (Value.int .i64 0), (Value.int .u64 0), (Value.bool false)] [(0, 1, d_p0), (1, 1, seg_p1), (3, 1, size_p2), (4, 1, seg_p1)]) fun t34_14 =>
  NEW (newv 89 w1 t34_14) fun t35_15 w2 =>
  R (.tuple #[t35_15, t14_2, (Value.int .i64 0)]) w2)
def ann_seglog_made : List (Nat × List Nat) := []
theorem E_seglog_made (d_p0 seg_p1 size_p2 : Value) (w : World) (R : Value → World → Prop) : M_seglog_made d_p0 seg_p1 size_p2 w R = den PR ann_seglog_made (bodyOf Tryz.f40) (retQ PR Tryz.f40.results.toList R) (env0 [d_p0, seg_p1, size_p2]) w := by kernel_rfl
theorem C_seglog_made {d_p0 seg_p1 size_p2 : Value} {w : World} {R : Value → World → Prop} (h : M_seglog_made d_p0 seg_p1 size_p2 w R) : CALL PR F_seglog_made [d_p0, seg_p1, size_p2] w R :=
  call_of_den2 ann_seglog_made Tryz.func40 (by kernel_rfl) (by kernel_rfl) (by kernel_rfl) ((E_seglog_made d_p0 seg_p1 size_p2 w R) ▸ h)
-- 41 (*tumbrel.disk.Disk).Read
def M_disk_Disk_Read (d_p0 name_p1 : Value) (w : World) (R : Value → World → Prop) : Prop :=
  BND (nilchk d_p0) fun t8_1 =>
  BND (faddr 4 t8_1) fun t9_2 =>
  BND (load1 w t9_2) fun t10_3 =>
  COND t10_3
  (R (.tuple #[(Value.slice none 0 0), (Value.int .i64 7)]) w)
  (CALL PR F_disk_Disk_there [d_p0, name_p1] w fun t13_4 w1 =>
  BND (binv .int .neq t13_4 (Value.int .i64 0)) fun t15_5 =>
  COND t15_5
  (R (.tuple #[(Value.slice none 0 0), t13_4]) w1)
  (CALL PR F_disk_Disk_now [d_p0] w1 fun t18_6 w2 =>
  BND (lookv .string (Value.pointer none) false w2 t18_6 name_p1) fun t20_7 =>
  BND (nilchk t20_7) fun t21_8 =>
  BND (faddr 0 t21_8) fun t22_9 =>
  BND (load1 w2 t22_9) fun t23_10 =>
  CALL PR F_slices_Clone_byte_byte [t23_10] w2 fun t24_11 w3 =>
  R (.tuple #[t24_11, (Value.int .i64 0)]) w3))
def ann_disk_Disk_Read : List (Nat × List Nat) := []
theorem E_disk_Disk_Read (d_p0 name_p1 : Value) (w : World) (R : Value → World → Prop) : M_disk_Disk_Read d_p0 name_p1 w R = den PR ann_disk_Disk_Read (bodyOf Tryz.f41) (retQ PR Tryz.f41.results.toList R) (env0 [d_p0, name_p1]) w := by kernel_rfl
theorem C_disk_Disk_Read {d_p0 name_p1 : Value} {w : World} {R : Value → World → Prop} (h : M_disk_Disk_Read d_p0 name_p1 w R) : CALL PR F_disk_Disk_Read [d_p0, name_p1] w R :=
  call_of_den2 ann_disk_Disk_Read Tryz.func41 (by kernel_rfl) (by kernel_rfl) (by kernel_rfl) ((E_disk_Disk_Read d_p0 name_p1 w R) ▸ h)
-- 42 (*tumbrel.disk.Disk).Cut
def M_disk_Disk_Cut (d_p0 name_p1 n_p2 : Value) (w : World) (R : Value → World → Prop) : Prop :=
  CALL PR F_disk_Disk_there [d_p0, name_p1] w fun t11_1 w1 =>
  BND (binv .int .eql t11_1 (Value.int .i64 0)) fun t13_2 =>
  BND (grd (isB t13_2 true) (some n_p2)) fun t15_3 =>
  BND (grd (isB t13_2 true) (binv .int .lss t15_3 (Value.int .i64 0))) fun t16_4 =>
  BND (grd (isB t13_2 true) (some t16_4)) fun t17_5 =>
  BND (grd (isB t17_5 false) (some n_p2)) fun t18_6 =>
  BND (grd (isB t17_5 false) (some d_p0)) fun t19_7 =>
  GEF (isB t17_5 false) (fun k_ => CALL PR F_disk_Disk_now [t19_7] w1 k_) w1 fun t20_8 w2 =>
  BND (grd (isB t17_5 false) (some name_p1)) fun t21_9 =>
  BND (grd (isB t17_5 false) (lookv .string (Value.pointer none) false w2 t20_8 t21_9)) fun t22_10 =>
  BND (grd (isB t17_5 false) (nilchk t22_10)) fun t23_11 =>
  BND (grd (isB t17_5 false) (faddr 0 t23_11)) fun t24_12 =>
  BND (grd (isB t17_5 false) (load1 w2 t24_12)) fun t25_13 =>
  BND (grd (isB t17_5 false) (lenl t25_13)) fun t26_14 =>
  BND (grd (isB t17_5 false) (binv .int .gtr t18_6 t26_14)) fun t27_15 =>
  BND (grd (isB t13_2 true) (pickv t17_5 (Value.bool true) t27_15)) fun t28_16 =>
  BND (pickv t13_2 t28_16 (Value.bool false)) fun t29_17 =>
  JOIN (α := Value → World → Prop) (fun k_59 => COND t29_17
  (k_59 (Value.int .i64 1) w2)
  (k_59 t11_1 w2))
  (fun e_18 w3 => CALL PR F_disk_Disk_can [d_p0, e_18] w3 fun t32_19 w4 =>
  BND (binv .int .eql t32_19 (Value.int .i64 0)) fun t34_20 =>
  JOIN (α := World → Prop) (fun k_44 => COND t34_20
  (CALL PR F_disk_Disk_now [d_p0] w4 fun t36_45 w6 =>
  BND (lookv .string (Value.pointer none) false w6 t36_45 name_p1) fun t38_46 =>
  BND (nilchk t38_46) fun t42_47 =>
  BND (faddr 0 t42_47) fun t43_48 =>
  BND (nilchk t38_46) fun t48_49 =>
  BND (faddr 1 t48_49) fun t49_50 =>
  BND (load1 w6.drew t43_48) fun t44_51 =>
  BND (slicev 1 t44_51 none (some n_p2)) fun t46_52 =>
  BND (load1 w6.drew t49_50) fun t50_53 =>
  BND (min2v t50_53 n_p2) fun t52_54 =>
  BND (nilchk t38_46) fun t53_55 =>
  BND (faddr 0 t53_55) fun t54_56 =>
  BND (storev 1 w6.drew t54_56 t46_52) fun w7 =>
  BND (nilchk t38_46) fun t55_57 =>
  BND (faddr 1 t55_57) fun t56_58 =>
  BND (storev 1 w7 t56_58 t52_54) fun w8 =>
  k_44 w8)
  (k_44 w4))
  (fun w5 => R t32_19 w5))
def ann_disk_Disk_Cut : List (Nat × List Nat) := [(7, [0, 1, 2, 3, 4, 6, 8, 9, 10, 12, 5, 7, 11, 13, 14, 15, 16, 17, 18, 19])]
theorem E_disk_Disk_Cut (d_p0 name_p1 n_p2 : Value) (w : World) (R : Value → World → Prop) : M_disk_Disk_Cut d_p0 name_p1 n_p2 w R = den PR ann_disk_Disk_Cut (bodyOf Tryz.f42) (retQ PR Tryz.f42.results.toList R) (env0 [d_p0, name_p1, n_p2]) w := by kernel_rfl
theorem C_disk_Disk_Cut {d_p0 name_p1 n_p2 : Value} {w : World} {R : Value → World → Prop} (h : M_disk_Disk_Cut d_p0 name_p1 n_p2 w R) : CALL PR F_disk_Disk_Cut [d_p0, name_p1, n_p2] w R :=
  call_of_den2 ann_disk_Disk_Cut Tryz.func42 (by kernel_rfl) (by kernel_rfl) (by kernel_rfl) ((E_disk_Disk_Cut d_p0 name_p1 n_p2 w R) ▸ h)
-- 43 tumbrel.record.Same
def M_record_Same (a_p0 b_p1 : Value) (w : World) (R : Value → World → Prop) : Prop :=
  NEW (newv 37 w a_p0) fun a_1 w1 =>
  NEW (newv 37 w1 b_p1) fun b_2 w2 =>
  BND (faddr 0 a_1) fun t5_3 =>
  BND (load1 w2 t5_3) fun t6_4 =>
  BND (faddr 0 b_2) fun t7_5 =>
  BND (load1 w2 t7_5) fun t8_6 =>
  BND (binv .int .eql t6_4 t8_6) fun t9_7 =>
  BND (grd (isB t9_7 true) (faddr 1 a_1)) fun t11_8 =>
  BND (grd (isB t9_7 true) (load1 w2 t11_8)) fun t12_9 =>
  BND (grd (isB t9_7 true) (faddr 1 b_2)) fun t13_10 =>
  BND (grd (isB t9_7 true) (load1 w2 t13_10)) fun t14_11 =>
  GEF (isB t9_7 true) (fun k_ => CALL PR F_slices_Equal_uint64_uint64 [t12_9, t14_11] w2 k_) w2 fun t15_12 w3 =>
  BND (pickv t9_7 t15_12 (Value.bool false)) fun t16_13 =>
  BND (grd (isB t16_13 true) (faddr 2 a_1)) fun t18_14 =>
  BND (grd (isB t16_13 true) (load1 w3 t18_14)) fun t19_15 =>
  BND (grd (isB t16_13 true) (faddr 2 b_2)) fun t20_16 =>
  BND (grd (isB t16_13 true) (load1 w3 t20_16)) fun t21_17 =>
  BND (grd (isB t16_13 true) (binv .str .eql t19_15 t21_17)) fun t22_18 =>
  BND (pickv t16_13 t22_18 (Value.bool false)) fun t23_19 =>
  R t23_19 w3
def ann_record_Same : List (Nat × List Nat) := []
theorem E_record_Same (a_p0 b_p1 : Value) (w : World) (R : Value → World → Prop) : M_record_Same a_p0 b_p1 w R = den PR ann_record_Same (bodyOf Tryz.f43) (retQ PR Tryz.f43.results.toList R) (env0 [a_p0, b_p1]) w := by kernel_rfl
theorem C_record_Same {a_p0 b_p1 : Value} {w : World} {R : Value → World → Prop} (h : M_record_Same a_p0 b_p1 w R) : CALL PR F_record_Same [a_p0, b_p1] w R :=
  call_of_den2 ann_record_Same Tryz.func43 (by kernel_rfl) (by kernel_rfl) (by kernel_rfl) ((E_record_Same a_p0 b_p1 w R) ▸ h)
-- 44 (*tumbrel.disk.Disk).Create
def M_disk_Disk_Create (d_p0 name_p1 : Value) (w : World) (R : Value → World → Prop) : Prop :=
  CALL PR F_disk_Disk_now [d_p0] w fun t8_1 w1 =>
  CALL PR F_disk_named [name_p1] w1 fun t11_2 w2 =>
  BND (unv .not t11_2) fun t12_3 =>
  JOIN (α := Value → World → Prop) (fun k_25 => COND t12_3
  (k_25 (Value.int .i64 1) w2)
  (BND (lookv .string (Value.pointer none) false w2 t8_1 name_p1) fun t16_26 =>
  BND (binv .ptr .neq t16_26 (Value.pointer none)) fun t17_27 =>
  JOIN (α := Value → World → Prop) (fun k_33 => COND t17_27
  (k_33 (Value.int .i64 6) w2)
  (BND (mlenv w2 t8_1) fun t20_34 =>
  BND (binv .int .geq t20_34 (Value.int .i64 60)) fun t21_35 =>
  JOIN (α := Value → World → Prop) (fun k_37 => COND t21_35
  (k_37 (Value.int .i64 4) w2)
  (k_37 (Value.int .i64 0) w2))
  (fun e_36 w10 => k_33 e_36 w10)))
  (fun e_28 w9 => k_25 e_28 w9)))
  (fun e_4 w3 => CALL PR F_disk_Disk_can [d_p0, e_4] w3 fun t24_14 w4 =>
  BND (binv .int .eql t24_14 (Value.int .i64 0)) fun t26_15 =>
  JOIN (α := World → Prop) (fun k_21 => COND t26_15
  (CALL PR F_disk_Disk_change [d_p0] w4 fun t28_22 w6 =>
  BND (buildv #[(Value.slice none 0 0), (Value.int .i64 0)] []) fun t30_23 =>
  NEW (newv 105 w6 t30_23) fun t31_24 w7 =>
  BND (mupd .string w7 t28_22 name_p1 t31_24) fun w8 =>
  k_21 w8)
  (k_21 w4))
  (fun w5 => R t24_14 w5))
def ann_disk_Disk_Create : List (Nat × List Nat) := []
theorem E_disk_Disk_Create (d_p0 name_p1 : Value) (w : World) (R : Value → World → Prop) : M_disk_Disk_Create d_p0 name_p1 w R = den PR ann_disk_Disk_Create (bodyOf Tryz.f44) (retQ PR Tryz.f44.results.toList R) (env0 [d_p0, name_p1]) w := by kernel_rfl
theorem C_disk_Disk_Create {d_p0 name_p1 : Value} {w : World} {R : Value → World → Prop} (h : M_disk_Disk_Create d_p0 name_p1 w R) : CALL PR F_disk_Disk_Create [d_p0, name_p1] w R :=
  call_of_den2 ann_disk_Disk_Create Tryz.func44 (by kernel_rfl) (by kernel_rfl) (by kernel_rfl) ((E_disk_Disk_Create d_p0 name_p1 w R) ▸ h)
-- 48 tumbrel.seglog.At
def M_seglog_At (d_p0 seg_p1 at_p2 : Value) (w : World) (R : Value → World → Prop) : Prop :=
  NEW (newv 37 w (Value.agg #[(Value.int .i64 0), (Value.slice none 0 0), (Value.string ByteArray.empty)])) fun t6_1 w1 =>
  CALL PR F_name_Of [(Value.int .u8 109), seg_p1] w1 fun t16_2 w2 =>
  BND (extractv t16_2 0) fun t17_3 =>
  BND (extractv t16_2 1) fun t18_4 =>
  BND (binv .int .neq t18_4 (Value.int .i64 0)) fun t20_5 =>
  COND t20_5
  (BND (buildv #[(Value.int .i64 0), (Value.slice none 0 0), (Value.string ByteArray.empty)] []) fun t21_6 =>
  BND (storev 3 w2 t6_1 t21_6) fun w3 =>
  BND (loadn 3 w3 t6_1) fun r_7 =>
  R (.tuple #[r_7, (Value.int .i64 0), t18_4]) w3)
  (CALL PR F_disk_Disk_Read [d_p0, t17_3] w2 fun t26_8 w4 =>
  BND (extractv t26_8 0) fun t27_9 =>
  BND (extractv t26_8 1) fun t28_10 =>
  BND (binv .int .neq t28_10 (Value.int .i64 0)) fun t31_11 =>
  COND t31_11
  (BND (buildv #[(Value.int .i64 0), (Value.slice none 0 0), (Value.string ByteArray.empty)] []) fun t32_12 =>
  BND (storev 3 w4 t6_1 t32_12) fun w5 =>
  BND (loadn 3 w5 t6_1) fun r_13 =>
  R (.tuple #[r_13, (Value.int .i64 0), t28_10]) w5)
  (BND (lenl t27_9) fun t37_14 =>
  BND (convi .u64 t37_14) fun t38_15 =>
  BND (binv .int .gtr at_p2 t38_15) fun t39_16 =>
  COND t39_16
  (BND (buildv #[(Value.int .i64 0), (Value.slice none 0 0), (Value.string ByteArray.empty)] []) fun t40_17 =>
  BND (storev 3 w4 t6_1 t40_17) fun w6 =>
  BND (loadn 3 w6 t6_1) fun r_18 =>
  R (.tuple #[r_18, (Value.int .i64 0), (Value.int .i64 3)]) w6)
  (BND (slicev 1 t27_9 (some at_p2) none) fun t44_19 =>
  CALL PR F_record_All [t44_19] w4 fun t45_20 w7 =>
  BND (extractv t45_20 0) fun t46_21 =>
  BND (extractv t45_20 1) fun t47_22 =>
  BND (extractv t45_20 2) fun t48_23 =>
  BND (lenl t46_21) fun t51_24 =>
  BND (binv .int .gtr t51_24 (Value.int .i64 0)) fun t52_25 =>
  COND t52_25
  (∃ S_26 : Nat → World → Prop,
  S_26 5 w7.drew ∧
  BND (iaddr 3 t46_21 (Value.int .i64 0)) fun t54_27 =>
  BND (iaddr 1 t47_22 (Value.int .i64 0)) fun t57_28 =>
  FLT (S_26 5) (fun w_ => load1 w_ t57_28) fun t58_29 =>
  BND (loadn 3 w7.drew t54_27) fun t55_30 =>
  BND (storev 3 w7.drew t6_1 t55_30) fun w8 =>
  S_26 5 w8 ∧
  BND (loadn 3 w8 t6_1) fun r_31 =>
  R (.tuple #[r_31, t58_29, (Value.int .i64 0)]) w8)
  (BND (binv .int .eql t48_23 (Value.int .i64 0)) fun t61_32 =>
  COND t61_32
  (BND (buildv #[(Value.int .i64 0), (Value.slice none 0 0), (Value.string ByteArray.empty)] []) fun t62_33 =>
  BND (storev 3 w7 t6_1 t62_33) fun w9 =>
  BND (loadn 3 w9 t6_1) fun r_34 =>
  R (.tuple #[r_34, (Value.int .i64 0), (Value.int .i64 3)]) w9)
  (BND (buildv #[(Value.int .i64 0), (Value.slice none 0 0), (Value.string ByteArray.empty)] []) fun t63_35 =>
  BND (storev 3 w7 t6_1 t63_35) fun w10 =>
  BND (loadn 3 w10 t6_1) fun r_36 =>
  R (.tuple #[r_36, (Value.int .i64 0), t48_23]) w10)))))
def ann_seglog_At : List (Nat × List Nat) := [(11, [0, 1, 3, 4, 5, 2, 6, 7, 8]), (2000011, [5]), (3011006, [5])]
theorem E_seglog_At (d_p0 seg_p1 at_p2 : Value) (w : World) (R : Value → World → Prop) : M_seglog_At d_p0 seg_p1 at_p2 w R = den PR ann_seglog_At (bodyOf Tryz.f48) (retQ PR Tryz.f48.results.toList R) (env0 [d_p0, seg_p1, at_p2]) w := by kernel_rfl
theorem C_seglog_At {d_p0 seg_p1 at_p2 : Value} {w : World} {R : Value → World → Prop} (h : M_seglog_At d_p0 seg_p1 at_p2 w R) : CALL PR F_seglog_At [d_p0, seg_p1, at_p2] w R :=
  call_of_den2 ann_seglog_At Tryz.func48 (by kernel_rfl) (by kernel_rfl) (by kernel_rfl) ((E_seglog_At d_p0 seg_p1 at_p2 w R) ▸ h)
-- 58 (*tumbrel.disk.Disk).now
def M_disk_Disk_now (d_p0 : Value) (w : World) (R : Value → World → Prop) : Prop :=
  BND (nilchk d_p0) fun t5_1 =>
  BND (faddr 2 t5_1) fun t6_2 =>
  BND (load1 w t6_2) fun t7_3 =>
  BND (lenl t7_3) fun t8_4 =>
  BND (binv .int .gtr t8_4 (Value.int .i64 0)) fun t10_5 =>
  COND t10_5
  (BND (nilchk d_p0) fun t12_6 =>
  BND (faddr 2 t12_6) fun t13_7 =>
  BND (load1 w t13_7) fun t14_8 =>
  BND (binv .int .sub t8_4 (Value.int .i64 1)) fun t16_9 =>
  BND (iaddr 1 t14_8 t16_9) fun t17_10 =>
  BND (load1 w t17_10) fun t18_11 =>
  R t18_11 w)
  (BND (nilchk d_p0) fun t20_12 =>
  BND (faddr 1 t20_12) fun t21_13 =>
  BND (load1 w t21_13) fun t22_14 =>
  R t22_14 w)
def ann_disk_Disk_now : List (Nat × List Nat) := []
theorem E_disk_Disk_now (d_p0 : Value) (w : World) (R : Value → World → Prop) : M_disk_Disk_now d_p0 w R = den PR ann_disk_Disk_now (bodyOf Tryz.f58) (retQ PR Tryz.f58.results.toList R) (env0 [d_p0]) w := by kernel_rfl
theorem C_disk_Disk_now {d_p0 : Value} {w : World} {R : Value → World → Prop} (h : M_disk_Disk_now d_p0 w R) : CALL PR F_disk_Disk_now [d_p0] w R :=
  call_of_den2 ann_disk_Disk_now Tryz.func58 (by kernel_rfl) (by kernel_rfl) (by kernel_rfl) ((E_disk_Disk_now d_p0 w R) ▸ h)
-- 60 slices.Contains[[]*tumbrel.disk.file,*tumbrel.disk.file]
def M_slices_Contains_disk_file_disk_file (s_p0 v_p1 : Value) (w : World) (R : Value → World → Prop) : Prop :=
  CALL PR F_slices_Index_disk_file_disk_file [s_p0, v_p1] w fun t7_1 w1 =>
  BND (binv .int .geq t7_1 (Value.int .i64 0)) fun t8_2 =>
  R t8_2 w1
def ann_slices_Contains_disk_file_disk_file : List (Nat × List Nat) := []
theorem E_slices_Contains_disk_file_disk_file (s_p0 v_p1 : Value) (w : World) (R : Value → World → Prop) : M_slices_Contains_disk_file_disk_file s_p0 v_p1 w R = den PR ann_slices_Contains_disk_file_disk_file (bodyOf Tryz.f60) (retQ PR Tryz.f60.results.toList R) (env0 [s_p0, v_p1]) w := by kernel_rfl
theorem C_slices_Contains_disk_file_disk_file {s_p0 v_p1 : Value} {w : World} {R : Value → World → Prop} (h : M_slices_Contains_disk_file_disk_file s_p0 v_p1 w R) : CALL PR F_slices_Contains_disk_file_disk_file [s_p0, v_p1] w R :=
  call_of_den2 ann_slices_Contains_disk_file_disk_file Tryz.func60 (by kernel_rfl) (by kernel_rfl) (by kernel_rfl) ((E_slices_Contains_disk_file_disk_file s_p0 v_p1 w R) ▸ h)
-- 61 tumbrel.frame.Bytes
def M_frame_Bytes (x_p0 : Value) (w : World) (R : Value → World → Prop) : Prop :=
  NEW (newv 133 w x_p0) fun x_1 w1 =>
  BND (faddr 1 x_1) fun t8_2 =>
  BND (load1 w1 t8_2) fun t9_3 =>
  BND (lenl t9_3) fun t10_4 =>
  BND (binv .int .gtr t10_4 (Value.int .i64 400)) fun t11_5 =>
  COND t11_5
  (R (.tuple #[(Value.slice none 0 0), (Value.int .i64 4)]) w1)
  (BND (faddr 1 x_1) fun t13_6 =>
  BND (load1 w1 t13_6) fun t14_7 =>
  BND (lenl t14_7) fun t15_8 =>
  CALL PR F_frame_low_int [t15_8] w1 fun t16_9 w2 =>
  BND (extractv t16_9 0) fun t17_10 =>
  BND (extractv t16_9 1) fun t18_11 =>
  CALL PR F_frame_low_int [t18_11] w2 fun t21_12 w3 =>
  BND (extractv t21_12 0) fun t22_13 =>
  BND (extractv t21_12 1) fun t23_14 =>
  ∃ S_15 : Nat → World → Prop,
  S_15 7 w3.drew ∧
  BND (faddr 0 x_1) fun t24_16 =>
  BND (faddr 1 x_1) fun t30_17 =>
  FLT (S_15 7) (fun w_ => load1 w_ t30_17) fun t31_18 =>
  BND (load1 w3.drew t24_16) fun t25_19 =>
  BND (newslice 5 #[(Value.int .u8 0)] 1 3 [(0, 1, t25_19), (1, 1, t17_10), (2, 1, t22_13)] w3.drew) fun p_ => NEW p_ fun t28_20 w4 =>
  S_15 7 w4 ∧
  CALL PR F_sum_Put [t28_20] w4 fun t29_21 w5 =>
  S_15 7 w5 ∧
  CALL PR F_sum_Put [t31_18] w5 fun t32_22 w6 =>
  APPEND 5 1 1 (Value.int .u8 0) t29_21 t32_22 w6 fun t33_23 w7 =>
  R (.tuple #[t33_23, (Value.int .i64 0)]) w7)
def ann_frame_Bytes : List (Nat × List Nat) := [(5, [0, 2, 3, 6, 7, 1, 4, 5, 8, 9, 10, 11]), (2000005, [7]), (3005004, [7]), (3005005, [7])]
theorem E_frame_Bytes (x_p0 : Value) (w : World) (R : Value → World → Prop) : M_frame_Bytes x_p0 w R = den PR ann_frame_Bytes (bodyOf Tryz.f61) (retQ PR Tryz.f61.results.toList R) (env0 [x_p0]) w := by kernel_rfl
theorem C_frame_Bytes {x_p0 : Value} {w : World} {R : Value → World → Prop} (h : M_frame_Bytes x_p0 w R) : CALL PR F_frame_Bytes [x_p0] w R :=
  call_of_den2 ann_frame_Bytes Tryz.func61 (by kernel_rfl) (by kernel_rfl) (by kernel_rfl) ((E_frame_Bytes x_p0 w R) ▸ h)
-- 62 tumbrel.vint.All
def M_vint_All (l_p0 : Value) (w : World) (R : Value → World → Prop) : Prop :=
  BND (lenl l_p0) fun t7_1 =>
  ∃ (J_2 : Value → Value → World → Prop) (m_2 : Value → Value → World → Nat), J_2 (Value.slice none 0 0) (Value.int .i64 0) w ∧ ∀ (_d_2 : Env) (b_3 t8_5 : Value) (w1 : World), J_2 b_3 t8_5 w1 →
  (BND (binv .int .lss t8_5 t7_1) fun t9_14 =>
  COND t9_14
  (BND (iaddr 1 l_p0 t8_5) fun t10_15 =>
  BND (load1 w1 t10_15) fun t11_16 =>
  CALL PR F_vint_Put [t11_16] w1 fun t14_17 w2 =>
  APPEND 5 1 1 (Value.int .u8 0) b_3 t14_17 w2 fun t15_18 w3 =>
  BND (binv .int .add t8_5 (Value.int .i64 1)) fun t16_19 =>
  (J_2 t15_18 t16_19 w3 ∧ m_2 t15_18 t16_19 w3 < m_2 b_3 t8_5 w1))
  (R b_3 w1))
def ann_vint_All : List (Nat × List Nat) := [(1000003, [3, 8])]
theorem E_vint_All (l_p0 : Value) (w : World) (R : Value → World → Prop) : M_vint_All l_p0 w R = den PR ann_vint_All (bodyOf Tryz.f62) (retQ PR Tryz.f62.results.toList R) (env0 [l_p0]) w := by kernel_rfl
theorem C_vint_All {l_p0 : Value} {w : World} {R : Value → World → Prop} (h : M_vint_All l_p0 w R) : CALL PR F_vint_All [l_p0] w R :=
  call_of_den2 ann_vint_All Tryz.func62 (by kernel_rfl) (by kernel_rfl) (by kernel_rfl) ((E_vint_All l_p0 w R) ▸ h)
-- 63 tumbrel.name.Read
def M_name_Read (s_p0 : Value) (w : World) (R : Value → World → Prop) : Prop :=
  BND (lens s_p0) fun t9_1 =>
  BND (binv .int .lss t9_1 (Value.int .i64 3)) fun t10_2 =>
  COND t10_2
  (R (.tuple #[(Value.int .u8 0), (Value.int .u64 0), (Value.bool false)]) w)
  (BND (slices s_p0 (some (Value.int .i64 2)) none) fun t13_3 =>
  CALL PR F_strconv_ParseUint [t13_3, (Value.int .i64 10), (Value.int .i64 64)] w fun t14_4 w1 =>
  BND (extractv t14_4 0) fun t15_5 =>
  BND (extractv t14_4 1) fun t16_6 =>
  BND (ifnilv .neq t16_6 Value.nilIface) fun t18_7 =>
  COND t18_7
  (R (.tuple #[(Value.int .u8 0), (Value.int .u64 0), (Value.bool false)]) w1)
  (BND (indexs s_p0 (Value.int .i64 0)) fun t21_8 =>
  CALL PR F_name_Of [t21_8, t15_5] w1 fun t23_9 w2 =>
  BND (extractv t23_9 0) fun t24_10 =>
  BND (extractv t23_9 1) fun t25_11 =>
  BND (binv .str .eql t24_10 s_p0) fun t28_12 =>
  COND t28_12
  (BND (indexs s_p0 (Value.int .i64 0)) fun t30_13 =>
  R (.tuple #[t30_13, t15_5, (Value.bool true)]) w2)
  (R (.tuple #[(Value.int .u8 0), (Value.int .u64 0), (Value.bool false)]) w2)))
def ann_name_Read : List (Nat × List Nat) := []
theorem E_name_Read (s_p0 : Value) (w : World) (R : Value → World → Prop) : M_name_Read s_p0 w R = den PR ann_name_Read (bodyOf Tryz.f63) (retQ PR Tryz.f63.results.toList R) (env0 [s_p0]) w := by kernel_rfl
theorem C_name_Read {s_p0 : Value} {w : World} {R : Value → World → Prop} (h : M_name_Read s_p0 w R) : CALL PR F_name_Read [s_p0] w R :=
  call_of_den2 ann_name_Read Tryz.func63 (by kernel_rfl) (by kernel_rfl) (by kernel_rfl) ((E_name_Read s_p0 w R) ▸ h)
-- 64 slices.Sort[[]uint64,uint64]
def M_slices_Sort_uint64_uint64 (x_p0 : Value) (w : World) (R : Value → World → Prop) : Prop :=
  BND (lenl x_p0) fun t4_1 =>
  BND (convi .u64 t4_1) fun t8_2 =>
  CALL PR F_math_bits_Len [t8_2] w fun t9_3 w1 =>
  CALL PR F_slices_pdqsortOrdered_uint64 [x_p0, (Value.int .i64 0), t4_1, t9_3] w1 fun t10_4 w2 =>
  R (.tuple #[]) w2
def ann_slices_Sort_uint64_uint64 : List (Nat × List Nat) := []
theorem E_slices_Sort_uint64_uint64 (x_p0 : Value) (w : World) (R : Value → World → Prop) : M_slices_Sort_uint64_uint64 x_p0 w R = den PR ann_slices_Sort_uint64_uint64 (bodyOf Tryz.f64) (retQ PR Tryz.f64.results.toList R) (env0 [x_p0]) w := by kernel_rfl
theorem C_slices_Sort_uint64_uint64 {x_p0 : Value} {w : World} {R : Value → World → Prop} (h : M_slices_Sort_uint64_uint64 x_p0 w R) : CALL PR F_slices_Sort_uint64_uint64 [x_p0] w R :=
  call_of_den2 ann_slices_Sort_uint64_uint64 Tryz.func64 (by kernel_rfl) (by kernel_rfl) (by kernel_rfl) ((E_slices_Sort_uint64_uint64 x_p0 w R) ▸ h)
-- 65 tumbrel.record.known
def M_record_known (kind_p0 : Value) (w : World) (R : Value → World → Prop) : Prop :=
  BND (binv .int .geq kind_p0 (Value.int .i64 1)) fun t4_1 =>
  BND (grd (isB t4_1 true) (some kind_p0)) fun t6_2 =>
  BND (grd (isB t4_1 true) (binv .int .leq t6_2 (Value.int .i64 17))) fun t7_3 =>
  BND (pickv t4_1 t7_3 (Value.bool false)) fun t8_4 =>
  R t8_4 w
def ann_record_known : List (Nat × List Nat) := []
theorem E_record_known (kind_p0 : Value) (w : World) (R : Value → World → Prop) : M_record_known kind_p0 w R = den PR ann_record_known (bodyOf Tryz.f65) (retQ PR Tryz.f65.results.toList R) (env0 [kind_p0]) w := by kernel_rfl
theorem C_record_known {kind_p0 : Value} {w : World} {R : Value → World → Prop} (h : M_record_known kind_p0 w R) : CALL PR F_record_known [kind_p0] w R :=
  call_of_den2 ann_record_known Tryz.func65 (by kernel_rfl) (by kernel_rfl) (by kernel_rfl) ((E_record_known kind_p0 w R) ▸ h)
-- 66 tumbrel.record.numbers
def M_record_numbers (w : World) (R : Value → World → Prop) : Prop :=
  NEW (newv 138 w (Value.agg #[(Value.int .i64 0), (Value.int .i64 0), (Value.int .i64 0), (Value.int .i64 0), (Value.int .i64 0), (Value.int .i64 0), (Value.int .i64 0), (Value.int .i64 0), (Value.int .i64 0), (Value.int .i64 0), (Value.int .i64 0), (Value.int .i64 0), (Value.int .i64 0), (Value.int .i64 0), (Value.int .i64 0), (Value.int .i64 0), (Value.int .i64 0), (Value.int .i64 0)])) fun t0_1 w1 =>
  BND (buildv #[(Value.int .i64 0), (Value.int .i64 0), (Value.int .i64 0), (Value.int .i64 0), (Value.int .i64 0), (Value.int .i64 0), (Value.int .i64 0), (Value.int .i64 0), (Value.int .i64 0), (Value.int .i64 0), (Value.int .i64 0), (Value.int .i64 0), (Value.int .i64 0), (Value.int .i64 0), (Value.int .i64 0), (Value.int .i64 0), (Value.int .i64 0), (Value.int .i64 0)] [(2, 1, (Value.int .i64 5)), (3, 1, (Value.int .i64 2)), (4, 1, (Value.int .i64 1)), (5, 1, (Value.int .i64 2)), (6, 1, (Value.int .i64 2)), (7, 1, (Value.int .i64 1)), (8, 1, (Value.int .i64 1)), (9, 1, (Value.int .i64 1)), (10, 1, (Value.int .i64 1)), (11, 1, (Value.int .i64 1)), (12, 1, (Value.int .i64 5)), (13, 1, (Value.int .i64 7)), (14, 1, (Value.int .i64 10)), (15, 1, (Value.int .i64 2)), (16, 1, (Value.int .i64 1)), (17, 1, (Value.int .i64 1))]) fun t1_2 =>
  BND (storev 18 w1 t0_1 t1_2) fun w2 =>
  BND (loadn 18 w2 t0_1) fun r_3 =>
  R r_3 w2
def ann_record_numbers : List (Nat × List Nat) := []
theorem E_record_numbers (w : World) (R : Value → World → Prop) : M_record_numbers w R = den PR ann_record_numbers (bodyOf Tryz.f66) (retQ PR Tryz.f66.results.toList R) (env0 []) w := by kernel_rfl
theorem C_record_numbers {w : World} {R : Value → World → Prop} (h : M_record_numbers w R) : CALL PR F_record_numbers [] w R :=
  call_of_den2 ann_record_numbers Tryz.func66 (by kernel_rfl) (by kernel_rfl) (by kernel_rfl) ((E_record_numbers w R) ▸ h)
-- 67 tumbrel.record.fits
def M_record_fits (kind_p0 many_p1 : Value) (w : World) (R : Value → World → Prop) : Prop :=
  BND (binv .int .eql many_p1 (Value.int .i64 0)) fun t6_1 =>
  BND (grd (isB t6_1 false) (some kind_p0)) fun t8_2 =>
  GEF (isB t6_1 false) (fun k_ => CALL PR F_record_worded [t8_2] w k_) w fun t9_3 w1 =>
  BND (grd (isB t6_1 false) (some t9_3)) fun t10_4 =>
  BND (grd (isB t10_4 true) (some many_p1)) fun t11_5 =>
  BND (grd (isB t10_4 true) (binv .int .leq t11_5 (Value.int .i64 64))) fun t12_6 =>
  BND (grd (isB t6_1 false) (pickv t10_4 t12_6 (Value.bool false))) fun t13_7 =>
  BND (pickv t6_1 (Value.bool true) t13_7) fun t14_8 =>
  R t14_8 w1
def ann_record_fits : List (Nat × List Nat) := []
theorem E_record_fits (kind_p0 many_p1 : Value) (w : World) (R : Value → World → Prop) : M_record_fits kind_p0 many_p1 w R = den PR ann_record_fits (bodyOf Tryz.f67) (retQ PR Tryz.f67.results.toList R) (env0 [kind_p0, many_p1]) w := by kernel_rfl
theorem C_record_fits {kind_p0 many_p1 : Value} {w : World} {R : Value → World → Prop} (h : M_record_fits kind_p0 many_p1 w R) : CALL PR F_record_fits [kind_p0, many_p1] w R :=
  call_of_den2 ann_record_fits Tryz.func67 (by kernel_rfl) (by kernel_rfl) (by kernel_rfl) ((E_record_fits kind_p0 many_p1 w R) ▸ h)
-- 69 strconv.FormatUint
def M_strconv_FormatUint (i_p0 base_p1 : Value) (w : World) (R : Value → World → Prop) : Prop :=
  CALL PR F_internal_strconv_FormatUint [i_p0, base_p1] w fun t7_1 w1 =>
  R t7_1 w1
def ann_strconv_FormatUint : List (Nat × List Nat) := []
theorem E_strconv_FormatUint (i_p0 base_p1 : Value) (w : World) (R : Value → World → Prop) : M_strconv_FormatUint i_p0 base_p1 w R = den PR ann_strconv_FormatUint (bodyOf Tryz.f69) (retQ PR Tryz.f69.results.toList R) (env0 [i_p0, base_p1]) w := by kernel_rfl
theorem C_strconv_FormatUint {i_p0 base_p1 : Value} {w : World} {R : Value → World → Prop} (h : M_strconv_FormatUint i_p0 base_p1 w R) : CALL PR F_strconv_FormatUint [i_p0, base_p1] w R :=
  call_of_den2 ann_strconv_FormatUint Tryz.func69 (by kernel_rfl) (by kernel_rfl) (by kernel_rfl) ((E_strconv_FormatUint i_p0 base_p1 w R) ▸ h)
-- 70 (*tumbrel.disk.Disk).can
def M_disk_Disk_can (d_p0 e_p1 : Value) (w : World) (R : Value → World → Prop) : Prop :=
  BND (nilchk d_p0) fun t7_1 =>
  BND (faddr 4 t7_1) fun t8_2 =>
  BND (load1 w t8_2) fun t9_3 =>
  COND t9_3
  (R (Value.int .i64 7) w)
  (BND (binv .int .neq e_p1 (Value.int .i64 0)) fun t12_4 =>
  COND t12_4
  (R e_p1 w)
  (BND (nilchk d_p0) fun t16_5 =>
  BND (faddr 3 t16_5) fun t17_6 =>
  BND (load1 w t17_6) fun t18_7 =>
  BND (binv .int .eql t18_7 (Value.int .i64 0)) fun t19_8 =>
  COND t19_8
  (BND (nilchk d_p0) fun t21_9 =>
  BND (faddr 4 t21_9) fun t22_10 =>
  BND (storev 1 w t22_10 (Value.bool true)) fun w1 =>
  R (Value.int .i64 7) w1)
  (BND (nilchk d_p0) fun t25_11 =>
  BND (faddr 3 t25_11) fun t26_12 =>
  BND (load1 w t26_12) fun t27_13 =>
  BND (binv .int .gtr t27_13 (Value.int .i64 0)) fun t28_14 =>
  JOIN (α := World → Prop) (fun k_22 => COND t28_14
  (BND (nilchk d_p0) fun t30_23 =>
  BND (faddr 3 t30_23) fun t31_24 =>
  BND (load1 w t31_24) fun t32_25 =>
  BND (binv .int .sub t32_25 (Value.int .i64 1)) fun t33_26 =>
  BND (nilchk d_p0) fun t34_27 =>
  BND (faddr 3 t34_27) fun t35_28 =>
  BND (storev 1 w t35_28 t33_26) fun w3 =>
  k_22 w3)
  (k_22 w))
  (fun w2 => R (Value.int .i64 0) w2))))
def ann_disk_Disk_can : List (Nat × List Nat) := []
theorem E_disk_Disk_can (d_p0 e_p1 : Value) (w : World) (R : Value → World → Prop) : M_disk_Disk_can d_p0 e_p1 w R = den PR ann_disk_Disk_can (bodyOf Tryz.f70) (retQ PR Tryz.f70.results.toList R) (env0 [d_p0, e_p1]) w := by kernel_rfl
theorem C_disk_Disk_can {d_p0 e_p1 : Value} {w : World} {R : Value → World → Prop} (h : M_disk_Disk_can d_p0 e_p1 w R) : CALL PR F_disk_Disk_can [d_p0, e_p1] w R :=
  call_of_den2 ann_disk_Disk_can Tryz.func70 (by kernel_rfl) (by kernel_rfl) (by kernel_rfl) ((E_disk_Disk_can d_p0 e_p1 w R) ▸ h)
-- 71 (*tumbrel.disk.Disk).there
def M_disk_Disk_there (d_p0 name_p1 : Value) (w : World) (R : Value → World → Prop) : Prop :=
  CALL PR F_disk_Disk_now [d_p0] w fun t6_1 w1 =>
  BND (lookv .string (Value.pointer none) false w1 t6_1 name_p1) fun t8_2 =>
  BND (binv .ptr .eql t8_2 (Value.pointer none)) fun t9_3 =>
  COND t9_3
  (R (Value.int .i64 5) w1)
  (R (Value.int .i64 0) w1)
def ann_disk_Disk_there : List (Nat × List Nat) := []
theorem E_disk_Disk_there (d_p0 name_p1 : Value) (w : World) (R : Value → World → Prop) : M_disk_Disk_there d_p0 name_p1 w R = den PR ann_disk_Disk_there (bodyOf Tryz.f71) (retQ PR Tryz.f71.results.toList R) (env0 [d_p0, name_p1]) w := by kernel_rfl
theorem C_disk_Disk_there {d_p0 name_p1 : Value} {w : World} {R : Value → World → Prop} (h : M_disk_Disk_there d_p0 name_p1 w R) : CALL PR F_disk_Disk_there [d_p0, name_p1] w R :=
  call_of_den2 ann_disk_Disk_there Tryz.func71 (by kernel_rfl) (by kernel_rfl) (by kernel_rfl) ((E_disk_Disk_there d_p0 name_p1 w R) ▸ h)
-- 75 slices.Clone[[]byte,byte]
def M_slices_Clone_byte_byte (s_p0 : Value) (w : World) (R : Value → World → Prop) : Prop :=
  BND (binv .slc .eql s_p0 (Value.slice none 0 0)) fun t4_1 =>
  COND t4_1
  (R (Value.slice none 0 0) w)
  (BND (newslice 5 #[(Value.int .u8 0)] 1 0 [] w) fun p_ => NEW p_ fun t5_2 w1 =>
  APPEND 5 1 1 (Value.int .u8 0) t5_2 s_p0 w1 fun t7_3 w2 =>
  R t7_3 w2)
def ann_slices_Clone_byte_byte : List (Nat × List Nat) := []
theorem E_slices_Clone_byte_byte (s_p0 : Value) (w : World) (R : Value → World → Prop) : M_slices_Clone_byte_byte s_p0 w R = den PR ann_slices_Clone_byte_byte (bodyOf Tryz.f75) (retQ PR Tryz.f75.results.toList R) (env0 [s_p0]) w := by kernel_rfl
theorem C_slices_Clone_byte_byte {s_p0 : Value} {w : World} {R : Value → World → Prop} (h : M_slices_Clone_byte_byte s_p0 w R) : CALL PR F_slices_Clone_byte_byte [s_p0] w R :=
  call_of_den2 ann_slices_Clone_byte_byte Tryz.func75 (by kernel_rfl) (by kernel_rfl) (by kernel_rfl) ((E_slices_Clone_byte_byte s_p0 w R) ▸ h)
-- 76 slices.Equal[[]uint64,uint64]
def M_slices_Equal_uint64_uint64 (s1_p0 s2_p1 : Value) (w : World) (R : Value → World → Prop) : Prop :=
  BND (lenl s1_p0) fun t7_1 =>
  BND (lenl s2_p1) fun t9_2 =>
  BND (binv .int .neq t7_1 t9_2) fun t10_3 =>
  COND t10_3
  (R (Value.bool false) w)
  (BND (lenl s1_p0) fun t12_4 =>
  ∃ (J_5 : Value → World → Prop) (m_5 : Value → World → Nat), J_5 (Value.int .i64 0) w ∧ ∀ (_d_5 : Env) (t13_8 : Value) (w1 : World), J_5 t13_8 w1 →
  (BND (binv .int .lss t13_8 t12_4) fun t14_21 =>
  COND t14_21
  (BND (iaddr 1 s1_p0 t13_8) fun t18_22 =>
  BND (iaddr 1 s2_p1 t13_8) fun t22_23 =>
  BND (load1 w1.drew t18_22) fun t19_24 =>
  BND (load1 w1.drew t22_23) fun t23_25 =>
  BND (binv .int .neq t19_24 t23_25) fun t24_26 =>
  COND t24_26
  (R (Value.bool false) w1.drew)
  (BND (binv .int .add t13_8 (Value.int .i64 1)) fun t25_27 =>
  (J_5 t25_27 w1.drew ∧ m_5 t25_27 w1.drew < m_5 t13_8 w1)))
  (R (Value.bool true) w1)))
def ann_slices_Equal_uint64_uint64 : List (Nat × List Nat) := [(6, [0, 1, 2, 4, 5, 6, 3, 7, 8]), (1000004, [13])]
theorem E_slices_Equal_uint64_uint64 (s1_p0 s2_p1 : Value) (w : World) (R : Value → World → Prop) : M_slices_Equal_uint64_uint64 s1_p0 s2_p1 w R = den PR ann_slices_Equal_uint64_uint64 (bodyOf Tryz.f76) (retQ PR Tryz.f76.results.toList R) (env0 [s1_p0, s2_p1]) w := by kernel_rfl
theorem C_slices_Equal_uint64_uint64 {s1_p0 s2_p1 : Value} {w : World} {R : Value → World → Prop} (h : M_slices_Equal_uint64_uint64 s1_p0 s2_p1 w R) : CALL PR F_slices_Equal_uint64_uint64 [s1_p0, s2_p1] w R :=
  call_of_den2 ann_slices_Equal_uint64_uint64 Tryz.func76 (by kernel_rfl) (by kernel_rfl) (by kernel_rfl) ((E_slices_Equal_uint64_uint64 s1_p0 s2_p1 w R) ▸ h)
-- 77 tumbrel.disk.named
def M_disk_named (name_p0 : Value) (w : World) (R : Value → World → Prop) : Prop :=
  BND (lens name_p0) fun t6_1 =>
  BND (binv .int .eql t6_1 (Value.int .i64 0)) fun t7_2 =>
  BND (grd (isB t7_2 false) (some name_p0)) fun t9_3 =>
  BND (grd (isB t7_2 false) (lens t9_3)) fun t10_4 =>
  BND (grd (isB t7_2 false) (binv .int .gtr t10_4 (Value.int .i64 12))) fun t11_5 =>
  BND (pickv t7_2 (Value.bool true) t11_5) fun t12_6 =>
  COND t12_6
  (R (Value.bool false) w)
  (BYTES 5 name_p0 w fun t14_7 w1 =>
  BND (lenl t14_7) fun t15_8 =>
  ∃ (J_9 : Value → World → Prop) (m_9 : Value → World → Nat), J_9 (Value.int .i64 0) w1 ∧ ∀ (_d_9 : Env) (t16_12 : Value) (w2 : World), J_9 t16_12 w2 →
  (BND (binv .int .lss t16_12 t15_8) fun t17_35 =>
  COND t17_35
  (BND (iaddr 1 t14_7 t16_12) fun t18_36 =>
  BND (load1 w2 t18_36) fun t19_37 =>
  BND (binv .int .neq t19_37 (Value.int .u8 46)) fun t21_38 =>
  BND (grd (isB t21_38 true) (some t19_37)) fun t23_39 =>
  BND (grd (isB t21_38 true) (binv .int .lss t23_39 (Value.int .u8 48))) fun t24_40 =>
  BND (grd (isB t21_38 true) (some t24_40)) fun t25_41 =>
  BND (grd (isB t25_41 false) (some t19_37)) fun t26_42 =>
  BND (grd (isB t25_41 false) (binv .int .gtr t26_42 (Value.int .u8 57))) fun t27_43 =>
  BND (grd (isB t21_38 true) (pickv t25_41 (Value.bool true) t27_43)) fun t28_44 =>
  BND (pickv t21_38 t28_44 (Value.bool false)) fun t29_45 =>
  BND (grd (isB t29_45 true) (some t19_37)) fun t31_46 =>
  BND (grd (isB t29_45 true) (binv .int .lss t31_46 (Value.int .u8 97))) fun t32_47 =>
  BND (grd (isB t29_45 true) (some t32_47)) fun t33_48 =>
  BND (grd (isB t33_48 false) (some t19_37)) fun t34_49 =>
  BND (grd (isB t33_48 false) (binv .int .gtr t34_49 (Value.int .u8 122))) fun t35_50 =>
  BND (grd (isB t29_45 true) (pickv t33_48 (Value.bool true) t35_50)) fun t36_51 =>
  BND (pickv t29_45 t36_51 (Value.bool false)) fun t37_52 =>
  COND t37_52
  (R (Value.bool false) w2)
  (BND (binv .int .add t16_12 (Value.int .i64 1)) fun t38_53 =>
  (J_9 t38_53 w2 ∧ m_9 t38_53 w2 < m_9 t16_12 w2)))
  (R (Value.bool true) w2)))
def ann_disk_named : List (Nat × List Nat) := [(1000004, [16])]
theorem E_disk_named (name_p0 : Value) (w : World) (R : Value → World → Prop) : M_disk_named name_p0 w R = den PR ann_disk_named (bodyOf Tryz.f77) (retQ PR Tryz.f77.results.toList R) (env0 [name_p0]) w := by kernel_rfl
theorem C_disk_named {name_p0 : Value} {w : World} {R : Value → World → Prop} (h : M_disk_named name_p0 w R) : CALL PR F_disk_named [name_p0] w R :=
  call_of_den2 ann_disk_named Tryz.func77 (by kernel_rfl) (by kernel_rfl) (by kernel_rfl) ((E_disk_named name_p0 w R) ▸ h)
-- 78 (*tumbrel.disk.Disk).change
def M_disk_Disk_change (d_p0 : Value) (w : World) (R : Value → World → Prop) : Prop :=
  CALL PR F_disk_Disk_now [d_p0] w fun t5_1 w1 =>
  CALL PR F_maps_Clone_file [t5_1] w1 fun t6_2 w2 =>
  BND (nilchk d_p0) fun t9_3 =>
  BND (faddr 2 t9_3) fun t10_4 =>
  BND (load1 w2 t10_4) fun t11_5 =>
  BND (newslice 95 #[(Value.map none)] 1 1 [(0, 1, t6_2)] w2) fun p_ => NEW p_ fun t13_6 w3 =>
  APPEND 95 1 8 (Value.map none) t11_5 t13_6 w3 fun t14_7 w4 =>
  BND (nilchk d_p0) fun t15_8 =>
  BND (faddr 2 t15_8) fun t16_9 =>
  BND (storev 1 w4 t16_9 t14_7) fun w5 =>
  R t6_2 w5
def ann_disk_Disk_change : List (Nat × List Nat) := []
theorem E_disk_Disk_change (d_p0 : Value) (w : World) (R : Value → World → Prop) : M_disk_Disk_change d_p0 w R = den PR ann_disk_Disk_change (bodyOf Tryz.f78) (retQ PR Tryz.f78.results.toList R) (env0 [d_p0]) w := by kernel_rfl
theorem C_disk_Disk_change {d_p0 : Value} {w : World} {R : Value → World → Prop} (h : M_disk_Disk_change d_p0 w R) : CALL PR F_disk_Disk_change [d_p0] w R :=
  call_of_den2 ann_disk_Disk_change Tryz.func78 (by kernel_rfl) (by kernel_rfl) (by kernel_rfl) ((E_disk_Disk_change d_p0 w R) ▸ h)
-- 83 tumbrel.tumbrelref14.Of
def M_tumbrelref14_Of (kind_p0 n_p1 : Value) (w : World) (R : Value → World → Prop) : Prop :=
  BND (binv .int .neq kind_p0 (Value.int .u8 109)) fun t7_1 =>
  BND (grd (isB t7_1 true) (some kind_p0)) fun t9_2 =>
  BND (grd (isB t7_1 true) (binv .int .neq t9_2 (Value.int .u8 101))) fun t10_3 =>
  BND (pickv t7_1 t10_3 (Value.bool false)) fun t11_4 =>
  BND (grd (isB t11_4 true) (some kind_p0)) fun t13_5 =>
  BND (grd (isB t11_4 true) (binv .int .neq t13_5 (Value.int .u8 115))) fun t14_6 =>
  BND (pickv t11_4 t14_6 (Value.bool false)) fun t15_7 =>
  BND (grd (isB t15_7 false) (some n_p1)) fun t17_8 =>
  BND (grd (isB t15_7 false) (binv .int .gtr t17_8 (Value.int .u64 9999999999))) fun t18_9 =>
  BND (pickv t15_7 (Value.bool true) t18_9) fun t19_10 =>
  COND t19_10
  (R (.tuple #[(Value.string { data := #[] }), (Value.int .i64 1)]) w)
  (∃ S_11 : Nat → World → Prop,
  JOIN (α := Value → Value → World → Prop) (fun k_18 => (BND (newslice 5 #[(Value.int .u8 0)] 1 2 [(0, 1, kind_p0), (1, 1, (Value.int .u8 46))] w.drew) fun p_ => NEW p_ fun t21_19 w2 =>
  BND (textv .u8 textOfBytes w2 t21_19) fun t22_20 =>
  CALL PR F_tumbrelref14_digits [n_p1] w2 fun t24_21 w3 =>
  BND (binv .str .add t22_20 t24_21) fun t25_22 =>
  k_18 t25_22 (Value.int .i64 0) w3) ∧
  (BND (newslice 5 #[(Value.int .u8 0)] 1 2 [(0, 1, kind_p0), (1, 1, (Value.int .u8 46))] w.drew) fun p_ => NEW p_ fun t21_23 w4 =>
  CALL PR F_tumbrelref14_digits [n_p1] w4 fun t24_24 w5 =>
  BND (textv .u8 textOfBytes w5 t21_23) fun t22_25 =>
  BND (binv .str .add t22_25 t24_24) fun t25_26 =>
  k_18 t25_26 (Value.int .i64 0) w5) ∧
  (CALL PR F_tumbrelref14_digits [n_p1] w.drew fun t24_27 w6 =>
  BND (newslice 5 #[(Value.int .u8 0)] 1 2 [(0, 1, kind_p0), (1, 1, (Value.int .u8 46))] w6) fun p_ => NEW p_ fun t21_28 w7 =>
  BND (textv .u8 textOfBytes w7 t21_28) fun t22_29 =>
  BND (binv .str .add t22_29 t24_27) fun t25_30 =>
  k_18 t25_30 (Value.int .i64 0) w7))
  (fun t4_12 t5_13 w1 => R (.tuple #[t4_12, t5_13]) w1))
def ann_tumbrelref14_Of : List (Nat × List Nat) := [(3, [0, 3]), (4000003, [1, 2, 4]), (5000003, [1, 2, 4, 5, 6, 7, 9999, 1, 4, 2, 5, 6, 7, 9999, 4, 1, 2, 5, 6, 7])]
theorem E_tumbrelref14_Of (kind_p0 n_p1 : Value) (w : World) (R : Value → World → Prop) : M_tumbrelref14_Of kind_p0 n_p1 w R = den PR ann_tumbrelref14_Of (bodyOf Tryz.f83) (retQ PR Tryz.f83.results.toList R) (env0 [kind_p0, n_p1]) w := by kernel_rfl
theorem C_tumbrelref14_Of {kind_p0 n_p1 : Value} {w : World} {R : Value → World → Prop} (h : M_tumbrelref14_Of kind_p0 n_p1 w R) : CALL PR F_tumbrelref14_Of [kind_p0, n_p1] w R :=
  call_of_den2 ann_tumbrelref14_Of Tryz.func83 (by kernel_rfl) (by kernel_rfl) (by kernel_rfl) ((E_tumbrelref14_Of kind_p0 n_p1 w R) ▸ h)
-- 84 tumbrel.record.All
def M_record_All (b_p0 : Value) (w : World) (R : Value → World → Prop) : Prop :=
  CALL PR F_frame_All [b_p0] w fun t19_1 w1 =>
  BND (extractv t19_1 0) fun t20_2 =>
  BND (extractv t19_1 1) fun t21_3 =>
  BND (extractv t19_1 2) fun t22_4 =>
  BND (lenl t20_2) fun t24_5 =>
  ∃ (J_6 : Value → Value → Value → Value → World → Prop) (m_6 : Value → Value → Value → Value → World → Nat), J_6 (Value.slice none 0 0) (Value.slice none 0 0) (Value.int .i64 0) (Value.int .i64 0) w1 ∧ ∀ (_d_6 : Env) (out_10 ends_11 at_12 t25_18 : Value) (w2 : World), J_6 out_10 ends_11 at_12 t25_18 w2 →
  (BND (binv .int .lss t25_18 t24_5) fun t26_50 =>
  COND t26_50
  (BND (iaddr 2 t20_2 t25_18) fun t27_51 =>
  BND (loadn 2 w2 t27_51) fun t28_52 =>
  NEW (newv 133 w2 (Value.agg #[(Value.int .u8 0), (Value.slice none 0 0)])) fun x_53 w3 =>
  BND (storev 2 w3 x_53 t28_52) fun w4 =>
  BND (loadn 2 w4 x_53) fun t30_54 =>
  CALL PR F_record_Read [t30_54] w4 fun t31_55 w5 =>
  BND (extractv t31_55 0) fun t32_56 =>
  BND (extractv t31_55 1) fun t33_57 =>
  NEW (newv 37 w5 (Value.agg #[(Value.int .i64 0), (Value.slice none 0 0), (Value.string ByteArray.empty)])) fun r_58 w6 =>
  BND (storev 3 w6 r_58 t32_56) fun w7 =>
  BND (binv .int .neq t33_57 (Value.int .i64 0)) fun t35_59 =>
  COND t35_59
  (R (.tuple #[out_10, ends_11, t33_57]) w7)
  (BND (loadn 2 w7 x_53) fun t40_60 =>
  CALL PR F_frame_Bytes [t40_60] w7 fun t41_61 w8 =>
  BND (extractv t41_61 0) fun t42_62 =>
  BND (extractv t41_61 1) fun t43_63 =>
  BND (lenl t42_62) fun t46_64 =>
  BND (binv .int .add at_12 t46_64) fun t47_65 =>
  BND (loadn 3 w8 r_58) fun t49_66 =>
  BND (newslice 37 #[(Value.int .i64 0), (Value.slice none 0 0), (Value.string ByteArray.empty)] 3 1 [(0, 3, t49_66)] w8) fun p_ => NEW p_ fun t50_67 w9 =>
  APPEND 37 3 48 (Value.agg #[(Value.int .i64 0), (Value.slice none 0 0), (Value.string ByteArray.empty)]) out_10 t50_67 w9 fun t51_68 w10 =>
  BND (newslice 3 #[(Value.int .i64 0)] 1 1 [(0, 1, t47_65)] w10) fun p_ => NEW p_ fun t54_69 w11 =>
  APPEND 3 1 8 (Value.int .i64 0) ends_11 t54_69 w11 fun t55_70 w12 =>
  BND (binv .int .add t25_18 (Value.int .i64 1)) fun t56_71 =>
  (J_6 t51_68 t55_70 t47_65 t56_71 w12 ∧ m_6 t51_68 t55_70 t47_65 t56_71 w12 < m_6 out_10 ends_11 at_12 t25_18 w2)))
  (R (.tuple #[out_10, ends_11, t22_4]) w2))
def ann_record_All : List (Nat × List Nat) := [(1000006, [8, 9, 10, 25])]
theorem E_record_All (b_p0 : Value) (w : World) (R : Value → World → Prop) : M_record_All b_p0 w R = den PR ann_record_All (bodyOf Tryz.f84) (retQ PR Tryz.f84.results.toList R) (env0 [b_p0]) w := by kernel_rfl
theorem C_record_All {b_p0 : Value} {w : World} {R : Value → World → Prop} (h : M_record_All b_p0 w R) : CALL PR F_record_All [b_p0] w R :=
  call_of_den2 ann_record_All Tryz.func84 (by kernel_rfl) (by kernel_rfl) (by kernel_rfl) ((E_record_All b_p0 w R) ▸ h)
-- 91 tumbrel.tumbrelref02.Same
def M_tumbrelref02_Same (a_p0 b_p1 : Value) (w : World) (R : Value → World → Prop) : Prop :=
  BND (lenl a_p0) fun t7_1 =>
  BND (lenl b_p1) fun t9_2 =>
  BND (binv .int .neq t7_1 t9_2) fun t10_3 =>
  COND t10_3
  (R (Value.bool false) w)
  (∃ (J_4 : Value → World → Prop) (m_4 : Value → World → Nat), J_4 (Value.int .i64 0) w ∧ ∀ (_d_4 : Env) (i_6 : Value) (w1 : World), J_4 i_6 w1 →
  (BND (lenl a_p0) fun t13_22 =>
  BND (binv .int .lss i_6 t13_22) fun t14_23 =>
  COND t14_23
  (BND (iaddr 1 a_p0 i_6) fun t19_24 =>
  BND (iaddr 1 b_p1 i_6) fun t23_25 =>
  BND (load1 w1.drew t19_24) fun t20_26 =>
  BND (load1 w1.drew t23_25) fun t24_27 =>
  BND (binv .int .neq t20_26 t24_27) fun t25_28 =>
  COND t25_28
  (R (Value.bool false) w1.drew)
  (BND (binv .int .add i_6 (Value.int .i64 1)) fun t16_29 =>
  (J_4 t16_29 w1.drew ∧ m_4 t16_29 w1.drew < m_4 i_6 w1)))
  (R (Value.bool true) w1)))
def ann_tumbrelref02_Same : List (Nat × List Nat) := [(6, [0, 1, 2, 4, 5, 6, 3, 7, 8]), (1000004, [5])]
theorem E_tumbrelref02_Same (a_p0 b_p1 : Value) (w : World) (R : Value → World → Prop) : M_tumbrelref02_Same a_p0 b_p1 w R = den PR ann_tumbrelref02_Same (bodyOf Tryz.f91) (retQ PR Tryz.f91.results.toList R) (env0 [a_p0, b_p1]) w := by kernel_rfl
theorem C_tumbrelref02_Same {a_p0 b_p1 : Value} {w : World} {R : Value → World → Prop} (h : M_tumbrelref02_Same a_p0 b_p1 w R) : CALL PR F_tumbrelref02_Same [a_p0, b_p1] w R :=
  call_of_den2 ann_tumbrelref02_Same Tryz.func91 (by kernel_rfl) (by kernel_rfl) (by kernel_rfl) ((E_tumbrelref02_Same a_p0 b_p1 w R) ▸ h)
-- 92 slices.Index[[]*tumbrel.disk.file,*tumbrel.disk.file]
def M_slices_Index_disk_file_disk_file (s_p0 v_p1 : Value) (w : World) (R : Value → World → Prop) : Prop :=
  BND (lenl s_p0) fun t7_1 =>
  ∃ (J_2 : Value → World → Prop) (m_2 : Value → World → Nat), J_2 (Value.int .i64 0) w ∧ ∀ (_d_2 : Env) (t8_5 : Value) (w1 : World), J_2 t8_5 w1 →
  (BND (binv .int .lss t8_5 t7_1) fun t9_16 =>
  COND t9_16
  (BND (iaddr 1 s_p0 t8_5) fun t14_17 =>
  BND (load1 w1 t14_17) fun t15_18 =>
  BND (ptrv w1 .eql v_p1 t15_18) fun t16_19 =>
  COND t16_19
  (R t8_5 w1)
  (BND (binv .int .add t8_5 (Value.int .i64 1)) fun t18_20 =>
  (J_2 t18_20 w1 ∧ m_2 t18_20 w1 < m_2 t8_5 w1)))
  (R (Value.int .i64 (-1)) w1))
def ann_slices_Index_disk_file_disk_file : List (Nat × List Nat) := [(1000002, [8])]
theorem E_slices_Index_disk_file_disk_file (s_p0 v_p1 : Value) (w : World) (R : Value → World → Prop) : M_slices_Index_disk_file_disk_file s_p0 v_p1 w R = den PR ann_slices_Index_disk_file_disk_file (bodyOf Tryz.f92) (retQ PR Tryz.f92.results.toList R) (env0 [s_p0, v_p1]) w := by kernel_rfl
theorem C_slices_Index_disk_file_disk_file {s_p0 v_p1 : Value} {w : World} {R : Value → World → Prop} (h : M_slices_Index_disk_file_disk_file s_p0 v_p1 w R) : CALL PR F_slices_Index_disk_file_disk_file [s_p0, v_p1] w R :=
  call_of_den2 ann_slices_Index_disk_file_disk_file Tryz.func92 (by kernel_rfl) (by kernel_rfl) (by kernel_rfl) ((E_slices_Index_disk_file_disk_file s_p0 v_p1 w R) ▸ h)
-- 93 tumbrel.frame.low[int]
def M_frame_low_int (n_p0 : Value) (w : World) (R : Value → World → Prop) : Prop :=
  BND (binv .int .and n_p0 (Value.int .i64 255)) fun t5_1 =>
  BND (convi .u8 t5_1) fun t6_2 =>
  BND (shiftv .shr n_p0 (Value.int .u64 8)) fun t8_3 =>
  R (.tuple #[t6_2, t8_3]) w
def ann_frame_low_int : List (Nat × List Nat) := []
theorem E_frame_low_int (n_p0 : Value) (w : World) (R : Value → World → Prop) : M_frame_low_int n_p0 w R = den PR ann_frame_low_int (bodyOf Tryz.f93) (retQ PR Tryz.f93.results.toList R) (env0 [n_p0]) w := by kernel_rfl
theorem C_frame_low_int {n_p0 : Value} {w : World} {R : Value → World → Prop} (h : M_frame_low_int n_p0 w R) : CALL PR F_frame_low_int [n_p0] w R :=
  call_of_den2 ann_frame_low_int Tryz.func93 (by kernel_rfl) (by kernel_rfl) (by kernel_rfl) ((E_frame_low_int n_p0 w R) ▸ h)
-- 94 tumbrel.sum.Put
def M_sum_Put (b_p0 : Value) (w : World) (R : Value → World → Prop) : Prop :=
  CALL PR F_sum_Of [b_p0] w fun t5_1 w1 =>
  CALL PR F_sum_four [t5_1] w1 fun t6_2 w2 =>
  BND (newslice 80 #[(Value.slice none 0 0)] 1 2 [(0, 1, b_p0), (1, 1, t6_2)] w2) fun p_ => NEW p_ fun t7_3 w3 =>
  CALL PR F_slices_Concat_byte_byte [t7_3] w3 fun t8_4 w4 =>
  R t8_4 w4
def ann_sum_Put : List (Nat × List Nat) := []
theorem E_sum_Put (b_p0 : Value) (w : World) (R : Value → World → Prop) : M_sum_Put b_p0 w R = den PR ann_sum_Put (bodyOf Tryz.f94) (retQ PR Tryz.f94.results.toList R) (env0 [b_p0]) w := by kernel_rfl
theorem C_sum_Put {b_p0 : Value} {w : World} {R : Value → World → Prop} (h : M_sum_Put b_p0 w R) : CALL PR F_sum_Put [b_p0] w R :=
  call_of_den2 ann_sum_Put Tryz.func94 (by kernel_rfl) (by kernel_rfl) (by kernel_rfl) ((E_sum_Put b_p0 w R) ▸ h)
-- 95 tumbrel.vint.Put
def M_vint_Put (n_p0 : Value) (w : World) (R : Value → World → Prop) : Prop :=
  NEW (newv 186 w (Value.agg #[(Value.int .u8 0), (Value.int .u8 0), (Value.int .u8 0), (Value.int .u8 0), (Value.int .u8 0), (Value.int .u8 0), (Value.int .u8 0), (Value.int .u8 0), (Value.int .u8 0), (Value.int .u8 0)])) fun b_1 w1 =>
  CALL PR F_vint_lay [b_1, n_p0] w1 fun t6_2 w2 =>
  BND (slicea 10 1 b_1 none (some t6_2) (some t6_2)) fun t9_3 =>
  R t9_3 w2
def ann_vint_Put : List (Nat × List Nat) := []
theorem E_vint_Put (n_p0 : Value) (w : World) (R : Value → World → Prop) : M_vint_Put n_p0 w R = den PR ann_vint_Put (bodyOf Tryz.f95) (retQ PR Tryz.f95.results.toList R) (env0 [n_p0]) w := by kernel_rfl
theorem C_vint_Put {n_p0 : Value} {w : World} {R : Value → World → Prop} (h : M_vint_Put n_p0 w R) : CALL PR F_vint_Put [n_p0] w R :=
  call_of_den2 ann_vint_Put Tryz.func95 (by kernel_rfl) (by kernel_rfl) (by kernel_rfl) ((E_vint_Put n_p0 w R) ▸ h)
-- 97 slices.pdqsortOrdered[uint64]
def M_slices_pdqsortOrdered_uint64 (data_p0 a_p1 b_p2 limit_p3 : Value) (w : World) (R : Value → World → Prop) : Prop :=
  ∃ (J_1 : Value → Value → Value → Value → Value → World → Prop) (m_1 : Value → Value → Value → Value → Value → World → Nat), J_1 a_p1 b_p2 limit_p3 (Value.bool true) (Value.bool true) w ∧ ∀ (_d_1 : Env) (a_2 b_3 limit_4 wasBalanced_5 wasPartitioned_6 : Value) (w1 : World), J_1 a_2 b_3 limit_4 wasBalanced_5 wasPartitioned_6 w1 →
  (BND (binv .int .sub b_3 a_2) fun t21_131 =>
  BND (binv .int .leq t21_131 (Value.int .i64 12)) fun t23_132 =>
  COND t23_132
  (CALL PR F_slices_insertionSortOrdered_uint64 [data_p0, a_2, b_3] w1 fun t27_133 w2 =>
  R (.tuple #[]) w2)
  (BND (binv .int .eql limit_4 (Value.int .i64 0)) fun t29_134 =>
  COND t29_134
  (CALL PR F_slices_heapSortOrdered_uint64 [data_p0, a_2, b_3] w1 fun t33_135 w3 =>
  R (.tuple #[]) w3)
  (BND (unv .not wasBalanced_5) fun t35_136 =>
  JOIN (α := Value → World → Prop) (fun k_227 => COND t35_136
  (CALL PR F_slices_breakPatternsOrdered_uint64 [data_p0, a_2, b_3] w1 fun t39_228 w16 =>
  BND (binv .int .sub limit_4 (Value.int .i64 1)) fun t41_229 =>
  k_227 t41_229 w16)
  (k_227 limit_4 w1))
  (fun limit_137 w4 => CALL PR F_slices_choosePivotOrdered_uint64 [data_p0, a_2, b_3] w4 fun t46_144 w5 =>
  BND (extractv t46_144 0) fun t47_145 =>
  BND (extractv t46_144 1) fun t48_146 =>
  BND (binv .int .eql t48_146 (Value.int .i64 2)) fun t50_147 =>
  JOIN (α := Value → Value → World → Prop) (fun k_222 => COND t50_147
  (CALL PR F_slices_reverseRangeOrdered_uint64 [data_p0, a_2, b_3] w5 fun t54_223 w15 =>
  BND (binv .int .sub b_3 (Value.int .i64 1)) fun t56_224 =>
  BND (binv .int .sub t47_145 a_2) fun t59_225 =>
  BND (binv .int .sub t56_224 t59_225) fun t60_226 =>
  k_222 t60_226 (Value.int .i64 1) w15)
  (k_222 t47_145 t48_146 w5))
  (fun pivot_148 hint_149 w6 => BND (grd (isB wasBalanced_5 true) (some wasPartitioned_6)) fun t63_160 =>
  BND (pickv wasBalanced_5 t63_160 (Value.bool false)) fun t64_161 =>
  BND (grd (isB t64_161 true) (some hint_149)) fun t66_162 =>
  BND (grd (isB t64_161 true) (binv .int .eql t66_162 (Value.int .i64 1))) fun t67_163 =>
  BND (pickv t64_161 t67_163 (Value.bool false)) fun t68_164 =>
  JOIN (α := World → Prop) (fun k_220 => COND t68_164
  (CALL PR F_slices_partialInsertionSortOrdered_uint64 [data_p0, a_2, b_3] w6 fun t72_221 w14 =>
  COND t72_221
  (R (.tuple #[]) w14)
  (k_220 w14))
  (k_220 w6))
  (fun w7 => BND (binv .int .gtr a_2 (Value.int .i64 0)) fun t74_169 =>
  BND (grd (isB t74_169 true) (some data_p0)) fun t76_170 =>
  BND (grd (isB t74_169 true) (some a_2)) fun t77_171 =>
  BND (grd (isB t74_169 true) (binv .int .sub t77_171 (Value.int .i64 1))) fun t78_172 =>
  BND (grd (isB t74_169 true) (iaddr 1 t76_170 t78_172)) fun t79_173 =>
  BND (grd (isB t74_169 true) (some data_p0)) fun t81_174 =>
  BND (grd (isB t74_169 true) (some pivot_148)) fun t82_175 =>
  BND (grd (isB t74_169 true) (iaddr 1 t81_174 t82_175)) fun t83_176 =>
  BND (grd (isB t74_169 true) (load1 w7.drew t79_173)) fun t80_177 =>
  BND (grd (isB t74_169 true) (load1 w7.drew t83_176)) fun t84_178 =>
  GEF (isB t74_169 true) (fun k_ => CALL PR F_cmp_Less_uint64 [t80_177, t84_178] w7.drew k_) w7.drew fun t85_179 w8 =>
  BND (grd (isB t74_169 true) (unv .not t85_179)) fun t86_180 =>
  BND (pickv t74_169 t86_180 (Value.bool false)) fun t87_181 =>
  COND t87_181
  (CALL PR F_slices_partitionEqualOrdered_uint64 [data_p0, a_2, b_3, pivot_148] w8 fun t92_182 w9 =>
  (J_1 t92_182 b_3 limit_137 wasBalanced_5 wasPartitioned_6 w9 ∧ m_1 t92_182 b_3 limit_137 wasBalanced_5 wasPartitioned_6 w9 < m_1 a_2 b_3 limit_4 wasBalanced_5 wasPartitioned_6 w1))
  (CALL PR F_slices_partitionOrdered_uint64 [data_p0, a_2, b_3, pivot_148] w8 fun t99_183 w10 =>
  BND (extractv t99_183 0) fun t100_184 =>
  BND (extractv t99_183 1) fun t101_185 =>
  BND (binv .int .sub t100_184 a_2) fun t105_186 =>
  BND (binv .int .sub b_3 t100_184) fun t108_187 =>
  BND (binv .int .quo t21_131 (Value.int .i64 8)) fun t110_188 =>
  BND (binv .int .lss t105_186 t108_187) fun t113_189 =>
  JOIN (α := Value → Value → Value → World → Prop) (fun k_213 => COND t113_189
  (BND (binv .int .geq t105_186 t110_188) fun t116_214 =>
  CALL PR F_slices_pdqsortOrdered_uint64 [data_p0, a_2, t100_184, limit_137] w10 fun t121_215 w12 =>
  BND (binv .int .add t100_184 (Value.int .i64 1)) fun t123_216 =>
  k_213 t123_216 b_3 t116_214 w12)
  (BND (binv .int .geq t108_187 t110_188) fun t126_217 =>
  BND (binv .int .add t100_184 (Value.int .i64 1)) fun t129_218 =>
  CALL PR F_slices_pdqsortOrdered_uint64 [data_p0, t129_218, b_3, limit_137] w10 fun t132_219 w13 =>
  k_213 a_2 t100_184 t126_217 w13))
  (fun a_190 b_191 wasBalanced_192 w11 => (J_1 a_190 b_191 limit_137 wasBalanced_192 t101_185 w11 ∧ m_1 a_190 b_191 limit_137 wasBalanced_192 t101_185 w11 < m_1 a_2 b_3 limit_4 wasBalanced_5 wasPartitioned_6 w1)))))))))
def ann_slices_pdqsortOrdered_uint64 : List (Nat × List Nat) := [(17, [0, 1, 2, 3, 4, 5, 6, 8, 9, 10, 7, 11, 12, 13, 14]), (1000002, [1, 2, 3, 8, 9])]
theorem E_slices_pdqsortOrdered_uint64 (data_p0 a_p1 b_p2 limit_p3 : Value) (w : World) (R : Value → World → Prop) : M_slices_pdqsortOrdered_uint64 data_p0 a_p1 b_p2 limit_p3 w R = den PR ann_slices_pdqsortOrdered_uint64 (bodyOf Tryz.f97) (retQ PR Tryz.f97.results.toList R) (env0 [data_p0, a_p1, b_p2, limit_p3]) w := by kernel_rfl
theorem C_slices_pdqsortOrdered_uint64 {data_p0 a_p1 b_p2 limit_p3 : Value} {w : World} {R : Value → World → Prop} (h : M_slices_pdqsortOrdered_uint64 data_p0 a_p1 b_p2 limit_p3 w R) : CALL PR F_slices_pdqsortOrdered_uint64 [data_p0, a_p1, b_p2, limit_p3] w R :=
  call_of_den2 ann_slices_pdqsortOrdered_uint64 Tryz.func97 (by kernel_rfl) (by kernel_rfl) (by kernel_rfl) ((E_slices_pdqsortOrdered_uint64 data_p0 a_p1 b_p2 limit_p3 w R) ▸ h)
-- 98 math.bits.Len
def M_math_bits_Len (x_p0 : Value) (w : World) (R : Value → World → Prop) : Prop :=
  COND (Value.bool false)
  (BND (convi .u32 x_p0) fun t4_1 =>
  CALL PR F_math_bits_Len32 [t4_1] w fun t5_2 w1 =>
  R t5_2 w1)
  (CALL PR F_math_bits_Len64 [x_p0] w fun t7_3 w2 =>
  R t7_3 w2)
def ann_math_bits_Len : List (Nat × List Nat) := []
theorem E_math_bits_Len (x_p0 : Value) (w : World) (R : Value → World → Prop) : M_math_bits_Len x_p0 w R = den PR ann_math_bits_Len (bodyOf Tryz.f98) (retQ PR Tryz.f98.results.toList R) (env0 [x_p0]) w := by kernel_rfl
theorem C_math_bits_Len {x_p0 : Value} {w : World} {R : Value → World → Prop} (h : M_math_bits_Len x_p0 w R) : CALL PR F_math_bits_Len [x_p0] w R :=
  call_of_den2 ann_math_bits_Len Tryz.func98 (by kernel_rfl) (by kernel_rfl) (by kernel_rfl) ((E_math_bits_Len x_p0 w R) ▸ h)
-- 99 tumbrel.record.worded
def M_record_worded (kind_p0 : Value) (w : World) (R : Value → World → Prop) : Prop :=
  BND (binv .int .eql kind_p0 (Value.int .i64 10)) fun t4_1 =>
  BND (grd (isB t4_1 false) (some kind_p0)) fun t6_2 =>
  BND (grd (isB t4_1 false) (binv .int .eql t6_2 (Value.int .i64 11))) fun t7_3 =>
  BND (pickv t4_1 (Value.bool true) t7_3) fun t8_4 =>
  BND (grd (isB t8_4 false) (some kind_p0)) fun t10_5 =>
  BND (grd (isB t8_4 false) (binv .int .eql t10_5 (Value.int .i64 16))) fun t11_6 =>
  BND (pickv t8_4 (Value.bool true) t11_6) fun t12_7 =>
  R t12_7 w
def ann_record_worded : List (Nat × List Nat) := []
theorem E_record_worded (kind_p0 : Value) (w : World) (R : Value → World → Prop) : M_record_worded kind_p0 w R = den PR ann_record_worded (bodyOf Tryz.f99) (retQ PR Tryz.f99.results.toList R) (env0 [kind_p0]) w := by kernel_rfl
theorem C_record_worded {kind_p0 : Value} {w : World} {R : Value → World → Prop} (h : M_record_worded kind_p0 w R) : CALL PR F_record_worded [kind_p0] w R :=
  call_of_den2 ann_record_worded Tryz.func99 (by kernel_rfl) (by kernel_rfl) (by kernel_rfl) ((E_record_worded kind_p0 w R) ▸ h)
-- 101 internal.strconv.FormatUint
def M_internal_strconv_FormatUint (i_p0 base_p1 : Value) (w : World) (R : Value → World → Prop) : Prop :=
  BND (binv .int .eql base_p1 (Value.int .i64 10)) fun t10_1 =>
  COND t10_1
  (BND (binv .int .lss i_p0 (Value.int .u64 100)) fun t12_2 =>
  COND t12_2
  (BND (convi .i64 i_p0) fun t14_3 =>
  CALL PR F_internal_strconv_small [t14_3] w fun t15_4 w1 =>
  R t15_4 w1)
  (NEW (newv 202 w (Value.agg #[(Value.int .u8 0), (Value.int .u8 0), (Value.int .u8 0), (Value.int .u8 0), (Value.int .u8 0), (Value.int .u8 0), (Value.int .u8 0), (Value.int .u8 0), (Value.int .u8 0), (Value.int .u8 0), (Value.int .u8 0), (Value.int .u8 0), (Value.int .u8 0), (Value.int .u8 0), (Value.int .u8 0), (Value.int .u8 0), (Value.int .u8 0), (Value.int .u8 0), (Value.int .u8 0), (Value.int .u8 0), (Value.int .u8 0), (Value.int .u8 0), (Value.int .u8 0), (Value.int .u8 0)])) fun a_5 w2 =>
  CALL PR F_internal_strconv_numDigits [i_p0] w2 fun t17_6 w3 =>
  BND (slicea 24 1 a_5 none (some t17_6) none) fun t19_7 =>
  CALL PR F_internal_strconv_formatBase10 [t19_7, i_p0] w3 fun t21_8 w4 =>
  BND (slicea 24 1 a_5 none (some t17_6) none) fun t23_9 =>
  BND (textv .u8 textOfBytes w4 t23_9) fun t24_10 =>
  R t24_10 w4))
  (CALL PR F_internal_strconv_formatBits [(Value.slice none 0 0), i_p0, base_p1, (Value.bool false), (Value.bool false)] w fun t28_11 w5 =>
  BND (extractv t28_11 0) fun t29_12 =>
  BND (extractv t28_11 1) fun t30_13 =>
  R t30_13 w5)
def ann_internal_strconv_FormatUint : List (Nat × List Nat) := []
theorem E_internal_strconv_FormatUint (i_p0 base_p1 : Value) (w : World) (R : Value → World → Prop) : M_internal_strconv_FormatUint i_p0 base_p1 w R = den PR ann_internal_strconv_FormatUint (bodyOf Tryz.f101) (retQ PR Tryz.f101.results.toList R) (env0 [i_p0, base_p1]) w := by kernel_rfl
theorem C_internal_strconv_FormatUint {i_p0 base_p1 : Value} {w : World} {R : Value → World → Prop} (h : M_internal_strconv_FormatUint i_p0 base_p1 w R) : CALL PR F_internal_strconv_FormatUint [i_p0, base_p1] w R :=
  call_of_den2 ann_internal_strconv_FormatUint Tryz.func101 (by kernel_rfl) (by kernel_rfl) (by kernel_rfl) ((E_internal_strconv_FormatUint i_p0 base_p1 w R) ▸ h)
-- 105 tumbrel.tumbrelref14.digits
def M_tumbrelref14_digits (n_p0 : Value) (w : World) (R : Value → World → Prop) : Prop :=
  BND (binv .int .rem n_p0 (Value.int .u64 10)) fun t5_1 =>
  BND (binv .int .add (Value.int .u64 48) t5_1) fun t6_2 =>
  BND (convi .u8 t6_2) fun t7_3 =>
  BND (newslice 5 #[(Value.int .u8 0)] 1 1 [(0, 1, t7_3)] w) fun p_ => NEW p_ fun t8_4 w1 =>
  BND (textv .u8 textOfBytes w1 t8_4) fun t9_5 =>
  BND (binv .int .lss n_p0 (Value.int .u64 10)) fun t11_6 =>
  COND t11_6
  (R t9_5 w1)
  (BND (binv .int .quo n_p0 (Value.int .u64 10)) fun t14_7 =>
  CALL PR F_tumbrelref14_digits [t14_7] w1 fun t15_8 w2 =>
  BND (binv .str .add t15_8 t9_5) fun t17_9 =>
  R t17_9 w2)
def ann_tumbrelref14_digits : List (Nat × List Nat) := []
theorem E_tumbrelref14_digits (n_p0 : Value) (w : World) (R : Value → World → Prop) : M_tumbrelref14_digits n_p0 w R = den PR ann_tumbrelref14_digits (bodyOf Tryz.f105) (retQ PR Tryz.f105.results.toList R) (env0 [n_p0]) w := by kernel_rfl
theorem C_tumbrelref14_digits {n_p0 : Value} {w : World} {R : Value → World → Prop} (h : M_tumbrelref14_digits n_p0 w R) : CALL PR F_tumbrelref14_digits [n_p0] w R :=
  call_of_den2 ann_tumbrelref14_digits Tryz.func105 (by kernel_rfl) (by kernel_rfl) (by kernel_rfl) ((E_tumbrelref14_digits n_p0 w R) ▸ h)
-- 106 tumbrel.frame.All
def M_frame_All (b_p0 : Value) (w : World) (R : Value → World → Prop) : Prop :=
  ∃ (J_1 : Value → Value → World → Prop) (m_1 : Value → Value → World → Nat), J_1 (Value.slice none 0 0) (Value.int .i64 0) w ∧ ∀ (_d_1 : Env) (l_5 at_6 : Value) (w1 : World), J_1 l_5 at_6 w1 →
  (BND (lenl b_p0) fun t12_34 =>
  BND (binv .int .lss at_6 t12_34) fun t13_35 =>
  COND t13_35
  (BND (slicev 1 b_p0 (some at_6) none) fun t17_36 =>
  CALL PR F_frame_Read [t17_36] w1 fun t18_37 w2 =>
  BND (extractv t18_37 0) fun t19_38 =>
  BND (extractv t18_37 1) fun t20_39 =>
  BND (extractv t18_37 2) fun t21_40 =>
  NEW (newv 133 w2 (Value.agg #[(Value.int .u8 0), (Value.slice none 0 0)])) fun x_41 w3 =>
  BND (storev 2 w3 x_41 t19_38) fun w4 =>
  BND (binv .int .neq t21_40 (Value.int .i64 0)) fun t23_42 =>
  COND t23_42
  (R (.tuple #[l_5, at_6, t21_40]) w4)
  (BND (loadn 2 w4 x_41) fun t28_43 =>
  BND (newslice 133 #[(Value.int .u8 0), (Value.slice none 0 0)] 2 1 [(0, 2, t28_43)] w4) fun p_ => NEW p_ fun t29_44 w5 =>
  APPEND 133 2 32 (Value.agg #[(Value.int .u8 0), (Value.slice none 0 0)]) l_5 t29_44 w5 fun t30_45 w6 =>
  BND (binv .int .add at_6 t20_39) fun t33_46 =>
  (J_1 t30_45 t33_46 w6 ∧ m_1 t30_45 t33_46 w6 < m_1 l_5 at_6 w1)))
  (R (.tuple #[l_5, at_6, (Value.int .i64 0)]) w1))
def ann_frame_All : List (Nat × List Nat) := [(1000003, [5, 6])]
theorem E_frame_All (b_p0 : Value) (w : World) (R : Value → World → Prop) : M_frame_All b_p0 w R = den PR ann_frame_All (bodyOf Tryz.f106) (retQ PR Tryz.f106.results.toList R) (env0 [b_p0]) w := by kernel_rfl
theorem C_frame_All {b_p0 : Value} {w : World} {R : Value → World → Prop} (h : M_frame_All b_p0 w R) : CALL PR F_frame_All [b_p0] w R :=
  call_of_den2 ann_frame_All Tryz.func106 (by kernel_rfl) (by kernel_rfl) (by kernel_rfl) ((E_frame_All b_p0 w R) ▸ h)
-- 107 tumbrel.record.Read
def M_record_Read (x_p0 : Value) (w : World) (R : Value → World → Prop) : Prop :=
  NEW (newv 133 w x_p0) fun x_1 w1 =>
  NEW (newv 37 w1 (Value.agg #[(Value.int .i64 0), (Value.slice none 0 0), (Value.string ByteArray.empty)])) fun t2_2 w2 =>
  BND (faddr 0 x_1) fun t9_3 =>
  BND (load1 w2 t9_3) fun t10_4 =>
  BND (convi .i64 t10_4) fun t11_5 =>
  BND (buildv #[(Value.int .i64 0), (Value.slice none 0 0), (Value.string ByteArray.empty)] [(0, 1, t11_5)]) fun t12_6 =>
  NEW (newv 37 w2 (Value.agg #[(Value.int .i64 0), (Value.slice none 0 0), (Value.string ByteArray.empty)])) fun r_7 w3 =>
  BND (storev 3 w3 r_7 t12_6) fun w4 =>
  BND (faddr 0 r_7) fun t13_8 =>
  BND (load1 w4 t13_8) fun t14_9 =>
  CALL PR F_record_known [t14_9] w4 fun t15_10 w5 =>
  BND (unv .not t15_10) fun t16_11 =>
  COND t16_11
  (BND (buildv #[(Value.int .i64 0), (Value.slice none 0 0), (Value.string ByteArray.empty)] []) fun t17_12 =>
  BND (storev 3 w5 t2_2 t17_12) fun w6 =>
  BND (loadn 3 w6 t2_2) fun r_13 =>
  R (.tuple #[r_13, (Value.int .i64 2)]) w6)
  (BND (faddr 1 x_1) fun t18_14 =>
  BND (load1 w5 t18_14) fun t19_15 =>
  ∃ S_16 : Nat → World → Prop,
  S_16 2 w5.drew ∧
  BND (faddr 0 r_7) fun t21_17 =>
  FLT (S_16 2) (fun w_ => load1 w_ t21_17) fun t22_18 =>
  CALL PR F_record_numbers [] w5.drew fun t20_19 w7 =>
  S_16 2 w7 ∧
  BND (indexav false 18 1 t20_19 t22_18) fun t23_20 =>
  ∃ (J_21 : Value → Value → World → Prop) (m_21 : Value → Value → World → Nat), J_21 t19_15 (Value.int .i64 0) w7 ∧ ∀ (_d_21 : Env) (rest_23 t24_27 : Value) (w8 : World), J_21 rest_23 t24_27 w8 →
  (BND (binv .int .lss t24_27 t23_20) fun t25_49 =>
  COND t25_49
  (CALL PR F_vint_Get [rest_23] w8 fun t28_50 w9 =>
  BND (extractv t28_50 0) fun t29_51 =>
  BND (extractv t28_50 1) fun t30_52 =>
  BND (extractv t28_50 2) fun t31_53 =>
  BND (binv .int .neq t31_53 (Value.int .i64 0)) fun t33_54 =>
  COND t33_54
  (BND (buildv #[(Value.int .i64 0), (Value.slice none 0 0), (Value.string ByteArray.empty)] []) fun t34_55 =>
  BND (storev 3 w9 t2_2 t34_55) fun w10 =>
  BND (loadn 3 w10 t2_2) fun r_56 =>
  R (.tuple #[r_56, t31_53]) w10)
  (∃ S_57 : Nat → World → Prop,
  S_57 1 w9.drew ∧
  BND (faddr 1 r_7) fun t36_58 =>
  FLT (S_57 1) (fun w_ => load1 w_ t36_58) fun t37_59 =>
  BND (slicev 1 rest_23 (some t30_52) none) fun t43_60 =>
  BND (newslice 22 #[(Value.int .u64 0)] 1 1 [(0, 1, t29_51)] w9.drew) fun p_ => NEW p_ fun t39_61 w11 =>
  S_57 1 w11 ∧
  APPEND 22 1 8 (Value.int .u64 0) t37_59 t39_61 w11 fun t40_62 w12 =>
  BND (faddr 1 r_7) fun t44_63 =>
  BND (storev 1 w12 t44_63 t40_62) fun w13 =>
  BND (binv .int .add t24_27 (Value.int .i64 1)) fun t45_64 =>
  (J_21 t43_60 t45_64 w13 ∧ m_21 t43_60 t45_64 w13 < m_21 rest_23 t24_27 w8)))
  (BND (faddr 0 r_7) fun t46_65 =>
  BND (load1 w8 t46_65) fun t47_66 =>
  BND (lenl rest_23) fun t49_67 =>
  CALL PR F_record_fits [t47_66, t49_67] w8 fun t50_68 w14 =>
  BND (unv .not t50_68) fun t51_69 =>
  COND t51_69
  (BND (buildv #[(Value.int .i64 0), (Value.slice none 0 0), (Value.string ByteArray.empty)] []) fun t52_70 =>
  BND (storev 3 w14 t2_2 t52_70) fun w15 =>
  BND (loadn 3 w15 t2_2) fun r_71 =>
  R (.tuple #[r_71, (Value.int .i64 2)]) w15)
  (BND (textv .u8 textOfBytes w14 rest_23) fun t54_72 =>
  BND (faddr 2 r_7) fun t55_73 =>
  BND (storev 1 w14 t55_73 t54_72) fun w16 =>
  BND (loadn 3 w16 r_7) fun t56_74 =>
  BND (storev 3 w16 t2_2 t56_74) fun w17 =>
  BND (loadn 3 w17 t2_2) fun r_75 =>
  R (.tuple #[r_75, (Value.int .i64 0)]) w17))))
def ann_record_Read : List (Nat × List Nat) := [(5, [1, 2, 4, 0, 3]), (10, [0, 1, 2, 5, 6, 7, 3, 4, 8, 9, 10]), (1000006, [5, 24]), (2000005, [2]), (2000010, [1]), (3005000, [2]), (3010003, [1])]
theorem E_record_Read (x_p0 : Value) (w : World) (R : Value → World → Prop) : M_record_Read x_p0 w R = den PR ann_record_Read (bodyOf Tryz.f107) (retQ PR Tryz.f107.results.toList R) (env0 [x_p0]) w := by kernel_rfl
theorem C_record_Read {x_p0 : Value} {w : World} {R : Value → World → Prop} (h : M_record_Read x_p0 w R) : CALL PR F_record_Read [x_p0] w R :=
  call_of_den2 ann_record_Read Tryz.func107 (by kernel_rfl) (by kernel_rfl) (by kernel_rfl) ((E_record_Read x_p0 w R) ▸ h)
-- 110 tumbrel.tumbrelref02.All
def M_tumbrelref02_All (l_p0 : Value) (w : World) (R : Value → World → Prop) : Prop :=
  BND (newslice 5 #[(Value.int .u8 0)] 1 0 [] w) fun p_ => NEW p_ fun t5_1 w1 =>
  ∃ (J_2 : Value → Value → World → Prop) (m_2 : Value → Value → World → Nat), J_2 t5_1 (Value.int .i64 0) w1 ∧ ∀ (_d_2 : Env) (out_3 i_4 : Value) (w2 : World), J_2 out_3 i_4 w2 →
  (BND (lenl l_p0) fun t8_18 =>
  BND (binv .int .lss i_4 t8_18) fun t9_19 =>
  COND t9_19
  (BND (iaddr 1 l_p0 i_4) fun t15_20 =>
  BND (load1 w2 t15_20) fun t16_21 =>
  CALL PR F_tumbrelref02_Put [t16_21] w2 fun t17_22 w3 =>
  APPEND 5 1 1 (Value.int .u8 0) out_3 t17_22 w3 fun t18_23 w4 =>
  BND (binv .int .add i_4 (Value.int .i64 1)) fun t11_24 =>
  (J_2 t18_23 t11_24 w4 ∧ m_2 t18_23 t11_24 w4 < m_2 out_3 i_4 w2))
  (R out_3 w2))
def ann_tumbrelref02_All : List (Nat × List Nat) := [(1000003, [3, 4])]
theorem E_tumbrelref02_All (l_p0 : Value) (w : World) (R : Value → World → Prop) : M_tumbrelref02_All l_p0 w R = den PR ann_tumbrelref02_All (bodyOf Tryz.f110) (retQ PR Tryz.f110.results.toList R) (env0 [l_p0]) w := by kernel_rfl
theorem C_tumbrelref02_All {l_p0 : Value} {w : World} {R : Value → World → Prop} (h : M_tumbrelref02_All l_p0 w R) : CALL PR F_tumbrelref02_All [l_p0] w R :=
  call_of_den2 ann_tumbrelref02_All Tryz.func110 (by kernel_rfl) (by kernel_rfl) (by kernel_rfl) ((E_tumbrelref02_All l_p0 w R) ▸ h)
-- 113 slices.Concat[[]byte,byte]
def M_slices_Concat_byte_byte (slices_p0 : Value) (w : World) (R : Value → World → Prop) : Prop :=
  BND (lenl slices_p0) fun t10_1 =>
  ∃ (J_2 : Value → Value → World → Prop) (m_2 : Value → Value → World → Nat), J_2 (Value.int .i64 0) (Value.int .i64 0) w ∧ ∀ (_d_2 : Env) (size_3 t11_5 : Value) (w1 : World), J_2 size_3 t11_5 w1 →
  (BND (binv .int .lss t11_5 t10_1) fun t12_17 =>
  COND t12_17
  (BND (iaddr 1 slices_p0 t11_5) fun t13_18 =>
  BND (load1 w1 t13_18) fun t14_19 =>
  BND (lenl t14_19) fun t17_20 =>
  BND (binv .int .add size_3 t17_20) fun t18_21 =>
  BND (binv .int .lss t18_21 (Value.int .i64 0)) fun t20_22 =>
  COND t20_22
  (False)
  (BND (binv .int .add t11_5 (Value.int .i64 1)) fun t22_23 =>
  (J_2 t18_21 t22_23 w1 ∧ m_2 t18_21 t22_23 w1 < m_2 size_3 t11_5 w1)))
  (CALL PR F_slices_Grow_byte_byte [(Value.slice none 0 0), size_3] w1 fun t24_24 w2 =>
  BND (lenl slices_p0) fun t26_25 =>
  ∃ (J_26 : Value → Value → World → Prop) (m_26 : Value → Value → World → Nat), J_26 t24_24 (Value.int .i64 0) w2 ∧ ∀ (_d_26 : Env) (newslice_27 t27_29 : Value) (w3 : World), J_26 newslice_27 t27_29 w3 →
  (BND (binv .int .lss t27_29 t26_25) fun t28_37 =>
  COND t28_37
  (BND (iaddr 1 slices_p0 t27_29) fun t29_38 =>
  BND (load1 w3 t29_38) fun t30_39 =>
  APPEND 5 1 1 (Value.int .u8 0) newslice_27 t30_39 w3 fun t33_40 w4 =>
  BND (binv .int .add t27_29 (Value.int .i64 1)) fun t34_41 =>
  (J_26 t33_40 t34_41 w4 ∧ m_26 t33_40 t34_41 w4 < m_26 newslice_27 t27_29 w3))
  (R newslice_27 w3))))
def ann_slices_Concat_byte_byte : List (Nat × List Nat) := [(1000003, [3, 11]), (1000011, [6, 27])]
theorem E_slices_Concat_byte_byte (slices_p0 : Value) (w : World) (R : Value → World → Prop) : M_slices_Concat_byte_byte slices_p0 w R = den PR ann_slices_Concat_byte_byte (bodyOf Tryz.f113) (retQ PR Tryz.f113.results.toList R) (env0 [slices_p0]) w := by kernel_rfl
theorem C_slices_Concat_byte_byte {slices_p0 : Value} {w : World} {R : Value → World → Prop} (h : M_slices_Concat_byte_byte slices_p0 w R) : CALL PR F_slices_Concat_byte_byte [slices_p0] w R :=
  call_of_den2 ann_slices_Concat_byte_byte Tryz.func113 (by kernel_rfl) (by kernel_rfl) (by kernel_rfl) ((E_slices_Concat_byte_byte slices_p0 w R) ▸ h)
-- 114 tumbrel.sum.four
def M_sum_four (n_p0 : Value) (w : World) (R : Value → World → Prop) : Prop :=
  BND (convi .u8 n_p0) fun t4_1 =>
  BND (shiftv .shr n_p0 (Value.int .u64 8)) fun t6_2 =>
  BND (convi .u8 t6_2) fun t7_3 =>
  BND (shiftv .shr n_p0 (Value.int .u64 16)) fun t9_4 =>
  BND (convi .u8 t9_4) fun t10_5 =>
  BND (shiftv .shr n_p0 (Value.int .u64 24)) fun t12_6 =>
  BND (convi .u8 t12_6) fun t13_7 =>
  BND (newslice 5 #[(Value.int .u8 0)] 1 4 [(0, 1, t4_1), (1, 1, t7_3), (2, 1, t10_5), (3, 1, t13_7)] w) fun p_ => NEW p_ fun t14_8 w1 =>
  R t14_8 w1
def ann_sum_four : List (Nat × List Nat) := []
theorem E_sum_four (n_p0 : Value) (w : World) (R : Value → World → Prop) : M_sum_four n_p0 w R = den PR ann_sum_four (bodyOf Tryz.f114) (retQ PR Tryz.f114.results.toList R) (env0 [n_p0]) w := by kernel_rfl
theorem C_sum_four {n_p0 : Value} {w : World} {R : Value → World → Prop} (h : M_sum_four n_p0 w R) : CALL PR F_sum_four [n_p0] w R :=
  call_of_den2 ann_sum_four Tryz.func114 (by kernel_rfl) (by kernel_rfl) (by kernel_rfl) ((E_sum_four n_p0 w R) ▸ h)
-- 115 tumbrel.sum.Of
def M_sum_Of (b_p0 : Value) (w : World) (R : Value → World → Prop) : Prop :=
  CALL PR F_sum_More [(Value.int .u32 0), b_p0] w fun t4_1 w1 =>
  R t4_1 w1
def ann_sum_Of : List (Nat × List Nat) := []
theorem E_sum_Of (b_p0 : Value) (w : World) (R : Value → World → Prop) : M_sum_Of b_p0 w R = den PR ann_sum_Of (bodyOf Tryz.f115) (retQ PR Tryz.f115.results.toList R) (env0 [b_p0]) w := by kernel_rfl
theorem C_sum_Of {b_p0 : Value} {w : World} {R : Value → World → Prop} (h : M_sum_Of b_p0 w R) : CALL PR F_sum_Of [b_p0] w R :=
  call_of_den2 ann_sum_Of Tryz.func115 (by kernel_rfl) (by kernel_rfl) (by kernel_rfl) ((E_sum_Of b_p0 w R) ▸ h)
-- 116 tumbrel.vint.lay
def M_vint_lay (into_p0 n_p1 : Value) (w : World) (R : Value → World → Prop) : Prop :=
  ∃ (J_1 : Value → Value → World → Prop) (m_1 : Value → Value → World → Nat), J_1 n_p1 (Value.int .i64 0) w ∧ ∀ (_d_1 : Env) (n_2 i_3 : Value) (w1 : World), J_1 n_2 i_3 w1 →
  (BND (binv .int .geq n_2 (Value.int .u64 128)) fun t7_17 =>
  COND t7_17
  (BND (convi .u8 n_2) fun t13_18 =>
  BND (binv .int .or t13_18 (Value.int .u8 128)) fun t14_19 =>
  BND (nilchk into_p0) fun t15_20 =>
  BND (iaddra 10 1 t15_20 i_3) fun t16_21 =>
  BND (storev 1 w1 t16_21 t14_19) fun w2 =>
  BND (binv .int .add i_3 (Value.int .i64 1)) fun t18_22 =>
  BND (shiftv .shr n_2 (Value.int .u64 7)) fun t9_23 =>
  (J_1 t9_23 t18_22 w2 ∧ m_1 t9_23 t18_22 w2 < m_1 n_2 i_3 w1))
  (BND (convi .u8 n_2) fun t22_24 =>
  BND (nilchk into_p0) fun t23_25 =>
  BND (iaddra 10 1 t23_25 i_3) fun t24_26 =>
  BND (storev 1 w1 t24_26 t22_24) fun w3 =>
  BND (binv .int .add i_3 (Value.int .i64 1)) fun t26_27 =>
  R t26_27 w3))
def ann_vint_lay : List (Nat × List Nat) := [(1000002, [1, 5])]
theorem E_vint_lay (into_p0 n_p1 : Value) (w : World) (R : Value → World → Prop) : M_vint_lay into_p0 n_p1 w R = den PR ann_vint_lay (bodyOf Tryz.f116) (retQ PR Tryz.f116.results.toList R) (env0 [into_p0, n_p1]) w := by kernel_rfl
theorem C_vint_lay {into_p0 n_p1 : Value} {w : World} {R : Value → World → Prop} (h : M_vint_lay into_p0 n_p1 w R) : CALL PR F_vint_lay [into_p0, n_p1] w R :=
  call_of_den2 ann_vint_lay Tryz.func116 (by kernel_rfl) (by kernel_rfl) (by kernel_rfl) ((E_vint_lay into_p0 n_p1 w R) ▸ h)
-- 119 slices.insertionSortOrdered[uint64]
def M_slices_insertionSortOrdered_uint64 (data_p0 a_p1 b_p2 : Value) (w : World) (R : Value → World → Prop) : Prop :=
  BND (binv .int .add a_p1 (Value.int .i64 1)) fun t9_1 =>
  ∃ (J_2 : Value → World → Prop) (m_2 : Value → World → Nat), J_2 t9_1 w ∧ ∀ (_d_2 : Env) (i_3 : Value) (w1 : World), J_2 i_3 w1 →
  (BND (binv .int .lss i_3 b_p2) fun t12_44 =>
  COND t12_44
  (∃ (J_45 : Value → World → Prop) (m_45 : Value → World → Nat), J_45 i_3 w1 ∧ ∀ (_d_45 : Env) (j_46 : Value) (w2 : World), J_45 j_46 w2 →
  (BND (binv .int .gtr j_46 a_p1) fun t18_80 =>
  BND (grd (isB t18_80 true) (some data_p0)) fun t20_81 =>
  BND (grd (isB t18_80 true) (some j_46)) fun t21_82 =>
  BND (grd (isB t18_80 true) (iaddr 1 t20_81 t21_82)) fun t22_83 =>
  BND (grd (isB t18_80 true) (some data_p0)) fun t24_84 =>
  BND (grd (isB t18_80 true) (some j_46)) fun t25_85 =>
  BND (grd (isB t18_80 true) (binv .int .sub t25_85 (Value.int .i64 1))) fun t26_86 =>
  BND (grd (isB t18_80 true) (iaddr 1 t24_84 t26_86)) fun t27_87 =>
  BND (grd (isB t18_80 true) (load1 w2.drew t22_83)) fun t23_88 =>
  BND (grd (isB t18_80 true) (load1 w2.drew t27_87)) fun t28_89 =>
  GEF (isB t18_80 true) (fun k_ => CALL PR F_cmp_Less_uint64 [t23_88, t28_89] w2.drew k_) w2.drew fun t29_90 w3 =>
  BND (pickv t18_80 t29_90 (Value.bool false)) fun t30_91 =>
  COND t30_91
  (BND (binv .int .sub j_46 (Value.int .i64 1)) fun t37_92 =>
  BND (binv .int .sub j_46 (Value.int .i64 1)) fun t40_93 =>
  BND (iaddr 1 data_p0 t40_93) fun t41_94 =>
  BND (iaddr 1 data_p0 j_46) fun t45_95 =>
  BND (load1 w3.drew t41_94) fun t42_96 =>
  BND (load1 w3.drew t45_95) fun t46_97 =>
  BND (iaddr 1 data_p0 j_46) fun t47_98 =>
  BND (storev 1 w3.drew t47_98 t42_96) fun w4 =>
  BND (iaddr 1 data_p0 t37_92) fun t48_99 =>
  BND (storev 1 w4 t48_99 t46_97) fun w5 =>
  BND (binv .int .sub j_46 (Value.int .i64 1)) fun t32_100 =>
  (J_45 t32_100 w5 ∧ m_45 t32_100 w5 < m_45 j_46 w2))
  (BND (binv .int .add i_3 (Value.int .i64 1)) fun t14_101 =>
  (J_2 t14_101 w3 ∧ m_2 t14_101 w3 < m_2 i_3 w1))))
  (R (.tuple #[]) w1))
def ann_slices_insertionSortOrdered_uint64 : List (Nat × List Nat) := [(4, [0, 1, 2, 3, 4, 5, 6, 8, 9, 10, 11, 7, 12, 13, 14]), (6, [0, 1, 2, 3, 4, 5, 6, 7, 8, 10, 11, 12, 9, 13, 14, 15, 16, 17]), (1000001, [6]), (1000004, [7])]
theorem E_slices_insertionSortOrdered_uint64 (data_p0 a_p1 b_p2 : Value) (w : World) (R : Value → World → Prop) : M_slices_insertionSortOrdered_uint64 data_p0 a_p1 b_p2 w R = den PR ann_slices_insertionSortOrdered_uint64 (bodyOf Tryz.f119) (retQ PR Tryz.f119.results.toList R) (env0 [data_p0, a_p1, b_p2]) w := by kernel_rfl
theorem C_slices_insertionSortOrdered_uint64 {data_p0 a_p1 b_p2 : Value} {w : World} {R : Value → World → Prop} (h : M_slices_insertionSortOrdered_uint64 data_p0 a_p1 b_p2 w R) : CALL PR F_slices_insertionSortOrdered_uint64 [data_p0, a_p1, b_p2] w R :=
  call_of_den2 ann_slices_insertionSortOrdered_uint64 Tryz.func119 (by kernel_rfl) (by kernel_rfl) (by kernel_rfl) ((E_slices_insertionSortOrdered_uint64 data_p0 a_p1 b_p2 w R) ▸ h)
-- 120 slices.heapSortOrdered[uint64]
def M_slices_heapSortOrdered_uint64 (data_p0 a_p1 b_p2 : Value) (w : World) (R : Value → World → Prop) : Prop :=
  BND (binv .int .sub b_p2 a_p1) fun t14_1 =>
  BND (binv .int .sub t14_1 (Value.int .i64 1)) fun t16_2 =>
  BND (binv .int .quo t16_2 (Value.int .i64 2)) fun t17_3 =>
  ∃ (J_4 : Value → World → Prop) (m_4 : Value → World → Nat), J_4 t17_3 w ∧ ∀ (_d_4 : Env) (i_5 : Value) (w1 : World), J_4 i_5 w1 →
  (BND (binv .int .geq i_5 (Value.int .i64 0)) fun t19_15 =>
  COND t19_15
  (CALL PR F_slices_siftDownOrdered_uint64 [data_p0, i_5, t14_1, a_p1] w1 fun t26_16 w2 =>
  BND (binv .int .sub i_5 (Value.int .i64 1)) fun t21_17 =>
  (J_4 t21_17 w2 ∧ m_4 t21_17 w2 < m_4 i_5 w1))
  (BND (binv .int .sub t14_1 (Value.int .i64 1)) fun t28_18 =>
  ∃ (J_19 : Value → World → Prop) (m_19 : Value → World → Nat), J_19 t28_18 w1 ∧ ∀ (_d_19 : Env) (i_20 : Value) (w3 : World), J_19 i_20 w3 →
  (BND (binv .int .geq i_20 (Value.int .i64 0)) fun t30_48 =>
  COND t30_48
  (BND (binv .int .add a_p1 i_20) fun t38_49 =>
  BND (binv .int .add a_p1 i_20) fun t42_50 =>
  BND (iaddr 1 data_p0 t42_50) fun t43_51 =>
  BND (iaddr 1 data_p0 a_p1) fun t47_52 =>
  BND (load1 w3.drew t43_51) fun t44_53 =>
  BND (load1 w3.drew t47_52) fun t48_54 =>
  BND (iaddr 1 data_p0 a_p1) fun t49_55 =>
  BND (storev 1 w3.drew t49_55 t44_53) fun w4 =>
  BND (iaddr 1 data_p0 t38_49) fun t50_56 =>
  BND (storev 1 w4 t50_56 t48_54) fun w5 =>
  CALL PR F_slices_siftDownOrdered_uint64 [data_p0, (Value.int .i64 0), i_20, a_p1] w5 fun t55_57 w6 =>
  BND (binv .int .sub i_20 (Value.int .i64 1)) fun t32_58 =>
  (J_19 t32_58 w6 ∧ m_19 t32_58 w6 < m_19 i_20 w3))
  (R (.tuple #[]) w3))))
def ann_slices_heapSortOrdered_uint64 : List (Nat × List Nat) := [(10, [0, 1, 2, 3, 4, 5, 6, 7, 8, 9, 10, 12, 13, 14, 11, 15, 16, 17, 18, 19]), (1000004, [9]), (1000008, [10])]
theorem E_slices_heapSortOrdered_uint64 (data_p0 a_p1 b_p2 : Value) (w : World) (R : Value → World → Prop) : M_slices_heapSortOrdered_uint64 data_p0 a_p1 b_p2 w R = den PR ann_slices_heapSortOrdered_uint64 (bodyOf Tryz.f120) (retQ PR Tryz.f120.results.toList R) (env0 [data_p0, a_p1, b_p2]) w := by kernel_rfl
theorem C_slices_heapSortOrdered_uint64 {data_p0 a_p1 b_p2 : Value} {w : World} {R : Value → World → Prop} (h : M_slices_heapSortOrdered_uint64 data_p0 a_p1 b_p2 w R) : CALL PR F_slices_heapSortOrdered_uint64 [data_p0, a_p1, b_p2] w R :=
  call_of_den2 ann_slices_heapSortOrdered_uint64 Tryz.func120 (by kernel_rfl) (by kernel_rfl) (by kernel_rfl) ((E_slices_heapSortOrdered_uint64 data_p0 a_p1 b_p2 w R) ▸ h)
-- 121 slices.breakPatternsOrdered[uint64]
def M_slices_breakPatternsOrdered_uint64 (data_p0 a_p1 b_p2 : Value) (w : World) (R : Value → World → Prop) : Prop :=
  BND (binv .int .sub b_p2 a_p1) fun t13_1 =>
  BND (binv .int .geq t13_1 (Value.int .i64 8)) fun t15_2 =>
  JOIN (α := World → Prop) (fun k_56 => COND t15_2
  (BND (convi .u64 t13_1) fun t17_57 =>
  NEW (newv 228 w (Value.int .u64 0)) fun random_58 w2 =>
  BND (storev 1 w2 random_58 t17_57) fun w3 =>
  CALL PR F_slices_nextPowerOfTwo [t13_1] w3 fun t19_59 w4 =>
  BND (binv .int .quo t13_1 (Value.int .i64 4)) fun t22_60 =>
  BND (binv .int .mul t22_60 (Value.int .i64 2)) fun t23_61 =>
  BND (binv .int .add a_p1 t23_61) fun t24_62 =>
  BND (binv .int .sub t24_62 (Value.int .i64 1)) fun t25_63 =>
  ∃ (J_64 : Value → World → Prop) (m_64 : Value → World → Nat), J_64 t25_63 w4 ∧ ∀ (_d_64 : Env) (idx_65 : Value) (w5 : World), J_64 idx_65 w5 →
  (BND (binv .int .quo t13_1 (Value.int .i64 4)) fun t29_106 =>
  BND (binv .int .mul t29_106 (Value.int .i64 2)) fun t30_107 =>
  BND (binv .int .add a_p1 t30_107) fun t31_108 =>
  BND (binv .int .add t31_108 (Value.int .i64 1)) fun t32_109 =>
  BND (binv .int .leq idx_65 t32_109) fun t33_110 =>
  COND t33_110
  (CALL PR F_slices_xorshift_Next [random_58] w5 fun t36_111 w6 =>
  BND (binv .int .sub t19_59 (Value.int .u64 1)) fun t38_112 =>
  BND (binv .int .and t36_111 t38_112) fun t39_113 =>
  BND (convi .i64 t39_113) fun t40_114 =>
  BND (binv .int .geq t40_114 t13_1) fun t43_115 =>
  JOIN (α := Value → World → Prop) (fun k_129 => COND t43_115
  (BND (binv .int .sub t40_114 t13_1) fun t46_130 =>
  k_129 t46_130 w6)
  (k_129 t40_114 w6))
  (fun other_116 w7 => BND (binv .int .add a_p1 other_116) fun t52_120 =>
  BND (binv .int .add a_p1 other_116) fun t56_121 =>
  BND (iaddr 1 data_p0 t56_121) fun t57_122 =>
  BND (iaddr 1 data_p0 idx_65) fun t61_123 =>
  BND (load1 w7.drew t57_122) fun t58_124 =>
  BND (load1 w7.drew t61_123) fun t62_125 =>
  BND (iaddr 1 data_p0 idx_65) fun t63_126 =>
  BND (storev 1 w7.drew t63_126 t58_124) fun w8 =>
  BND (iaddr 1 data_p0 t52_120) fun t64_127 =>
  BND (storev 1 w8 t64_127 t62_125) fun w9 =>
  BND (binv .int .add idx_65 (Value.int .i64 1)) fun t35_128 =>
  (J_64 t35_128 w9 ∧ m_64 t35_128 w9 < m_64 idx_65 w5)))
  (k_56 w5)))
  (k_56 w))
  (fun w1 => R (.tuple #[]) w1)
def ann_slices_breakPatternsOrdered_uint64 : List (Nat × List Nat) := [(10, [0, 1, 2, 3, 4, 5, 6, 7, 8, 9, 10, 12, 13, 14, 11, 15, 16, 17, 18, 19]), (1000005, [9])]
theorem E_slices_breakPatternsOrdered_uint64 (data_p0 a_p1 b_p2 : Value) (w : World) (R : Value → World → Prop) : M_slices_breakPatternsOrdered_uint64 data_p0 a_p1 b_p2 w R = den PR ann_slices_breakPatternsOrdered_uint64 (bodyOf Tryz.f121) (retQ PR Tryz.f121.results.toList R) (env0 [data_p0, a_p1, b_p2]) w := by kernel_rfl
theorem C_slices_breakPatternsOrdered_uint64 {data_p0 a_p1 b_p2 : Value} {w : World} {R : Value → World → Prop} (h : M_slices_breakPatternsOrdered_uint64 data_p0 a_p1 b_p2 w R) : CALL PR F_slices_breakPatternsOrdered_uint64 [data_p0, a_p1, b_p2] w R :=
  call_of_den2 ann_slices_breakPatternsOrdered_uint64 Tryz.func121 (by kernel_rfl) (by kernel_rfl) (by kernel_rfl) ((E_slices_breakPatternsOrdered_uint64 data_p0 a_p1 b_p2 w R) ▸ h)
-- 122 slices.choosePivotOrdered[uint64]
def M_slices_choosePivotOrdered_uint64 (data_p0 a_p1 b_p2 : Value) (w : World) (R : Value → World → Prop) : Prop :=
  BND (binv .int .sub b_p2 a_p1) fun t15_1 =>
  NEW (newv 3 w (Value.int .i64 0)) fun swaps_2 w1 =>
  BND (binv .int .quo t15_1 (Value.int .i64 4)) fun t18_3 =>
  BND (binv .int .mul t18_3 (Value.int .i64 1)) fun t19_4 =>
  BND (binv .int .add a_p1 t19_4) fun t20_5 =>
  BND (binv .int .quo t15_1 (Value.int .i64 4)) fun t23_6 =>
  BND (binv .int .mul t23_6 (Value.int .i64 2)) fun t24_7 =>
  BND (binv .int .add a_p1 t24_7) fun t25_8 =>
  BND (binv .int .quo t15_1 (Value.int .i64 4)) fun t28_9 =>
  BND (binv .int .mul t28_9 (Value.int .i64 3)) fun t29_10 =>
  BND (binv .int .add a_p1 t29_10) fun t30_11 =>
  BND (binv .int .geq t15_1 (Value.int .i64 8)) fun t32_12 =>
  JOIN (α := Value → World → Prop) (fun k_35 => COND t32_12
  (BND (binv .int .geq t15_1 (Value.int .i64 50)) fun t34_36 =>
  JOIN (α := Value → Value → Value → World → Prop) (fun k_50 => COND t34_36
  (CALL PR F_slices_medianAdjacentOrdered_uint64 [data_p0, t20_5, swaps_2] w1 fun t37_51 w5 =>
  CALL PR F_slices_medianAdjacentOrdered_uint64 [data_p0, t25_8, swaps_2] w5 fun t40_52 w6 =>
  CALL PR F_slices_medianAdjacentOrdered_uint64 [data_p0, t30_11, swaps_2] w6 fun t43_53 w7 =>
  k_50 t37_51 t40_52 t43_53 w7)
  (k_50 t20_5 t25_8 t30_11 w1))
  (fun i_37 j_38 k_39 w3 => CALL PR F_slices_medianOrdered_uint64 [data_p0, i_37, j_38, k_39, swaps_2] w3 fun t48_49 w4 =>
  k_35 t48_49 w4))
  (k_35 t25_8 w1))
  (fun j_14 w2 => BND (load1 w2 swaps_2) fun t49_32 =>
  BND (binv .int .eql t49_32 (Value.int .i64 0)) fun t52_33 =>
  COND t52_33
  (R (.tuple #[j_14, (Value.int .i64 1)]) w2)
  (BND (binv .int .eql t49_32 (Value.int .i64 12)) fun t55_34 =>
  COND t55_34
  (R (.tuple #[j_14, (Value.int .i64 2)]) w2)
  (R (.tuple #[j_14, (Value.int .i64 0)]) w2)))
def ann_slices_choosePivotOrdered_uint64 : List (Nat × List Nat) := []
theorem E_slices_choosePivotOrdered_uint64 (data_p0 a_p1 b_p2 : Value) (w : World) (R : Value → World → Prop) : M_slices_choosePivotOrdered_uint64 data_p0 a_p1 b_p2 w R = den PR ann_slices_choosePivotOrdered_uint64 (bodyOf Tryz.f122) (retQ PR Tryz.f122.results.toList R) (env0 [data_p0, a_p1, b_p2]) w := by kernel_rfl
theorem C_slices_choosePivotOrdered_uint64 {data_p0 a_p1 b_p2 : Value} {w : World} {R : Value → World → Prop} (h : M_slices_choosePivotOrdered_uint64 data_p0 a_p1 b_p2 w R) : CALL PR F_slices_choosePivotOrdered_uint64 [data_p0, a_p1, b_p2] w R :=
  call_of_den2 ann_slices_choosePivotOrdered_uint64 Tryz.func122 (by kernel_rfl) (by kernel_rfl) (by kernel_rfl) ((E_slices_choosePivotOrdered_uint64 data_p0 a_p1 b_p2 w R) ▸ h)
-- 123 slices.reverseRangeOrdered[uint64]
def M_slices_reverseRangeOrdered_uint64 (data_p0 a_p1 b_p2 : Value) (w : World) (R : Value → World → Prop) : Prop :=
  BND (binv .int .sub b_p2 (Value.int .i64 1)) fun t10_1 =>
  ∃ (J_2 : Value → Value → World → Prop) (m_2 : Value → Value → World → Nat), J_2 a_p1 t10_1 w ∧ ∀ (_d_2 : Env) (i_3 j_4 : Value) (w1 : World), J_2 i_3 j_4 w1 →
  (BND (binv .int .lss i_3 j_4) fun t13_26 =>
  COND t13_26
  (BND (iaddr 1 data_p0 j_4) fun t20_27 =>
  BND (iaddr 1 data_p0 i_3) fun t24_28 =>
  BND (load1 w1.drew t20_27) fun t21_29 =>
  BND (load1 w1.drew t24_28) fun t25_30 =>
  BND (iaddr 1 data_p0 i_3) fun t26_31 =>
  BND (storev 1 w1.drew t26_31 t21_29) fun w2 =>
  BND (iaddr 1 data_p0 j_4) fun t27_32 =>
  BND (storev 1 w2 t27_32 t25_30) fun w3 =>
  BND (binv .int .add i_3 (Value.int .i64 1)) fun t29_33 =>
  BND (binv .int .sub j_4 (Value.int .i64 1)) fun t31_34 =>
  (J_2 t29_33 t31_34 w3 ∧ m_2 t29_33 t31_34 w3 < m_2 i_3 j_4 w1))
  (R (.tuple #[]) w1))
def ann_slices_reverseRangeOrdered_uint64 : List (Nat × List Nat) := [(3, [0, 1, 2, 3, 4, 5, 6, 8, 9, 10, 7, 11, 12, 13, 14, 15]), (1000002, [6, 7])]
theorem E_slices_reverseRangeOrdered_uint64 (data_p0 a_p1 b_p2 : Value) (w : World) (R : Value → World → Prop) : M_slices_reverseRangeOrdered_uint64 data_p0 a_p1 b_p2 w R = den PR ann_slices_reverseRangeOrdered_uint64 (bodyOf Tryz.f123) (retQ PR Tryz.f123.results.toList R) (env0 [data_p0, a_p1, b_p2]) w := by kernel_rfl
theorem C_slices_reverseRangeOrdered_uint64 {data_p0 a_p1 b_p2 : Value} {w : World} {R : Value → World → Prop} (h : M_slices_reverseRangeOrdered_uint64 data_p0 a_p1 b_p2 w R) : CALL PR F_slices_reverseRangeOrdered_uint64 [data_p0, a_p1, b_p2] w R :=
  call_of_den2 ann_slices_reverseRangeOrdered_uint64 Tryz.func123 (by kernel_rfl) (by kernel_rfl) (by kernel_rfl) ((E_slices_reverseRangeOrdered_uint64 data_p0 a_p1 b_p2 w R) ▸ h)
-- 124 slices.partialInsertionSortOrdered[uint64]
def M_slices_partialInsertionSortOrdered_uint64 (data_p0 a_p1 b_p2 : Value) (w : World) (R : Value → World → Prop) : Prop :=
  BND (binv .int .add a_p1 (Value.int .i64 1)) fun t12_1 =>
  ∃ (J_2 : Value → Value → World → Prop) (m_2 : Value → Value → World → Nat), J_2 t12_1 (Value.int .i64 0) w ∧ ∀ (_d_2 : Env) (i_4 j_5 : Value) (w1 : World), J_2 i_4 j_5 w1 →
  (BND (binv .int .lss j_5 (Value.int .i64 5)) fun t14_128 =>
  COND t14_128
  (∃ (J_129 : Value → World → Prop) (m_129 : Value → World → Nat), J_129 i_4 w1 ∧ ∀ (_d_129 : Env) (i_130 : Value) (w2 : World), J_129 i_130 w2 →
  (BND (binv .int .lss i_130 b_p2) fun t19_149 =>
  BND (grd (isB t19_149 true) (some data_p0)) fun t21_150 =>
  BND (grd (isB t19_149 true) (some i_130)) fun t22_151 =>
  BND (grd (isB t19_149 true) (iaddr 1 t21_150 t22_151)) fun t23_152 =>
  BND (grd (isB t19_149 true) (some data_p0)) fun t25_153 =>
  BND (grd (isB t19_149 true) (some i_130)) fun t26_154 =>
  BND (grd (isB t19_149 true) (binv .int .sub t26_154 (Value.int .i64 1))) fun t27_155 =>
  BND (grd (isB t19_149 true) (iaddr 1 t25_153 t27_155)) fun t28_156 =>
  BND (grd (isB t19_149 true) (load1 w2.drew t23_152)) fun t24_157 =>
  BND (grd (isB t19_149 true) (load1 w2.drew t28_156)) fun t29_158 =>
  GEF (isB t19_149 true) (fun k_ => CALL PR F_cmp_Less_uint64 [t24_157, t29_158] w2.drew k_) w2.drew fun t30_159 w3 =>
  BND (grd (isB t19_149 true) (unv .not t30_159)) fun t31_160 =>
  BND (pickv t19_149 t31_160 (Value.bool false)) fun t32_161 =>
  COND t32_161
  (BND (binv .int .add i_130 (Value.int .i64 1)) fun t34_162 =>
  (J_129 t34_162 w3 ∧ m_129 t34_162 w3 < m_129 i_130 w2))
  (BND (binv .int .eql i_130 b_p2) fun t37_163 =>
  COND t37_163
  (R (Value.bool true) w3)
  (BND (binv .int .sub b_p2 a_p1) fun t40_164 =>
  BND (binv .int .lss t40_164 (Value.int .i64 50)) fun t41_165 =>
  COND t41_165
  (R (Value.bool false) w3)
  (BND (binv .int .sub i_130 (Value.int .i64 1)) fun t46_166 =>
  BND (binv .int .sub i_130 (Value.int .i64 1)) fun t49_167 =>
  BND (iaddr 1 data_p0 t49_167) fun t50_168 =>
  BND (iaddr 1 data_p0 i_130) fun t54_169 =>
  BND (load1 w3.drew t50_168) fun t51_170 =>
  BND (load1 w3.drew t54_169) fun t55_171 =>
  BND (iaddr 1 data_p0 i_130) fun t56_172 =>
  BND (storev 1 w3.drew t56_172 t51_170) fun w4 =>
  BND (iaddr 1 data_p0 t46_166) fun t57_173 =>
  BND (storev 1 w4 t57_173 t55_171) fun w5 =>
  BND (binv .int .sub i_130 a_p1) fun t60_174 =>
  BND (binv .int .geq t60_174 (Value.int .i64 2)) fun t61_175 =>
  JOIN (α := World → Prop) (fun k_301 => COND t61_175
  (BND (binv .int .sub i_130 (Value.int .i64 1)) fun t63_302 =>
  ∃ (J_303 : Value → World → Prop) (m_303 : Value → World → Nat), J_303 t63_302 w5 ∧ ∀ (_d_303 : Env) (j_304 : Value) (w12 : World), J_303 j_304 w12 →
  (BND (binv .int .geq j_304 (Value.int .i64 1)) fun t65_336 =>
  COND t65_336
  (BND (iaddr 1 data_p0 j_304) fun t70_337 =>
  BND (binv .int .sub j_304 (Value.int .i64 1)) fun t74_338 =>
  BND (iaddr 1 data_p0 t74_338) fun t75_339 =>
  BND (load1 w12.drew t70_337) fun t71_340 =>
  BND (load1 w12.drew t75_339) fun t76_341 =>
  CALL PR F_cmp_Less_uint64 [t71_340, t76_341] w12.drew fun t77_342 w13 =>
  BND (unv .not t77_342) fun t78_343 =>
  COND t78_343
  (k_301 w13)
  (BND (binv .int .sub j_304 (Value.int .i64 1)) fun t83_344 =>
  BND (binv .int .sub j_304 (Value.int .i64 1)) fun t86_345 =>
  BND (iaddr 1 data_p0 t86_345) fun t87_346 =>
  BND (iaddr 1 data_p0 j_304) fun t91_347 =>
  BND (load1 w13.drew t87_346) fun t88_348 =>
  BND (load1 w13.drew t91_347) fun t92_349 =>
  BND (iaddr 1 data_p0 j_304) fun t93_350 =>
  BND (storev 1 w13.drew t93_350 t88_348) fun w14 =>
  BND (iaddr 1 data_p0 t83_344) fun t94_351 =>
  BND (storev 1 w14 t94_351 t92_349) fun w15 =>
  BND (binv .int .sub j_304 (Value.int .i64 1)) fun t67_352 =>
  (J_303 t67_352 w15 ∧ m_303 t67_352 w15 < m_303 j_304 w12)))
  (k_301 w12)))
  (k_301 w5))
  (fun w6 => BND (binv .int .sub b_p2 i_130) fun t97_210 =>
  BND (binv .int .geq t97_210 (Value.int .i64 2)) fun t98_211 =>
  JOIN (α := World → Prop) (fun k_248 => COND t98_211
  (BND (binv .int .add i_130 (Value.int .i64 1)) fun t100_249 =>
  ∃ (J_250 : Value → World → Prop) (m_250 : Value → World → Nat), J_250 t100_249 w6 ∧ ∀ (_d_250 : Env) (j_251 : Value) (w8 : World), J_250 j_251 w8 →
  (BND (binv .int .lss j_251 b_p2) fun t103_284 =>
  COND t103_284
  (BND (iaddr 1 data_p0 j_251) fun t108_285 =>
  BND (binv .int .sub j_251 (Value.int .i64 1)) fun t112_286 =>
  BND (iaddr 1 data_p0 t112_286) fun t113_287 =>
  BND (load1 w8.drew t108_285) fun t109_288 =>
  BND (load1 w8.drew t113_287) fun t114_289 =>
  CALL PR F_cmp_Less_uint64 [t109_288, t114_289] w8.drew fun t115_290 w9 =>
  BND (unv .not t115_290) fun t116_291 =>
  COND t116_291
  (k_248 w9)
  (BND (binv .int .sub j_251 (Value.int .i64 1)) fun t121_292 =>
  BND (binv .int .sub j_251 (Value.int .i64 1)) fun t124_293 =>
  BND (iaddr 1 data_p0 t124_293) fun t125_294 =>
  BND (iaddr 1 data_p0 j_251) fun t129_295 =>
  BND (load1 w9.drew t125_294) fun t126_296 =>
  BND (load1 w9.drew t129_295) fun t130_297 =>
  BND (iaddr 1 data_p0 j_251) fun t131_298 =>
  BND (storev 1 w9.drew t131_298 t126_296) fun w10 =>
  BND (iaddr 1 data_p0 t121_292) fun t132_299 =>
  BND (storev 1 w10 t132_299 t130_297) fun w11 =>
  BND (binv .int .add j_251 (Value.int .i64 1)) fun t105_300 =>
  (J_250 t105_300 w11 ∧ m_250 t105_300 w11 < m_250 j_251 w8)))
  (k_248 w8)))
  (k_248 w6))
  (fun w7 => BND (binv .int .add j_5 (Value.int .i64 1)) fun t16_247 =>
  (J_2 i_130 t16_247 w7 ∧ m_2 i_130 t16_247 w7 < m_2 i_4 j_5 w1))))))))
  (R (Value.bool false) w1))
def ann_slices_partialInsertionSortOrdered_uint64 : List (Nat × List Nat) := [(5, [0, 1, 2, 3, 4, 5, 6, 8, 9, 10, 11, 7, 12, 13, 14, 15]), (11, [0, 1, 2, 3, 4, 5, 6, 7, 8, 10, 11, 12, 9, 13, 14, 15, 16, 17]), (16, [0, 1, 2, 4, 5, 6, 7, 3, 8, 9, 10]), (17, [0, 1, 2, 3, 4, 5, 6, 7, 8, 10, 11, 12, 9, 13, 14, 15, 16, 17]), (22, [0, 1, 2, 4, 5, 6, 7, 3, 8, 9, 10]), (23, [0, 1, 2, 3, 4, 5, 6, 7, 8, 10, 11, 12, 9, 13, 14, 15, 16, 17]), (1000003, [7, 8]), (1000005, [7]), (1000014, [9]), (1000020, [10])]
theorem E_slices_partialInsertionSortOrdered_uint64 (data_p0 a_p1 b_p2 : Value) (w : World) (R : Value → World → Prop) : M_slices_partialInsertionSortOrdered_uint64 data_p0 a_p1 b_p2 w R = den PR ann_slices_partialInsertionSortOrdered_uint64 (bodyOf Tryz.f124) (retQ PR Tryz.f124.results.toList R) (env0 [data_p0, a_p1, b_p2]) w := by kernel_rfl
theorem C_slices_partialInsertionSortOrdered_uint64 {data_p0 a_p1 b_p2 : Value} {w : World} {R : Value → World → Prop} (h : M_slices_partialInsertionSortOrdered_uint64 data_p0 a_p1 b_p2 w R) : CALL PR F_slices_partialInsertionSortOrdered_uint64 [data_p0, a_p1, b_p2] w R :=
  call_of_den2 ann_slices_partialInsertionSortOrdered_uint64 Tryz.func124 (by kernel_rfl) (by kernel_rfl) (by kernel_rfl) ((E_slices_partialInsertionSortOrdered_uint64 data_p0 a_p1 b_p2 w R) ▸ h)
-- 125 cmp.Less[uint64]
def M_cmp_Less_uint64 (x_p0 y_p1 : Value) (w : World) (R : Value → World → Prop) : Prop :=
  CALL PR F_cmp_isNaN_uint64 [x_p0] w fun t6_1 w1 =>
  BND (grd (isB t6_1 true) (some y_p1)) fun t8_2 =>
  GEF (isB t6_1 true) (fun k_ => CALL PR F_cmp_isNaN_uint64 [t8_2] w1 k_) w1 fun t9_3 w2 =>
  BND (grd (isB t6_1 true) (unv .not t9_3)) fun t10_4 =>
  BND (pickv t6_1 t10_4 (Value.bool false)) fun t11_5 =>
  BND (grd (isB t11_5 false) (some x_p0)) fun t13_6 =>
  BND (grd (isB t11_5 false) (some y_p1)) fun t14_7 =>
  BND (grd (isB t11_5 false) (binv .int .lss t13_6 t14_7)) fun t15_8 =>
  BND (pickv t11_5 (Value.bool true) t15_8) fun t16_9 =>
  R t16_9 w2
def ann_cmp_Less_uint64 : List (Nat × List Nat) := []
theorem E_cmp_Less_uint64 (x_p0 y_p1 : Value) (w : World) (R : Value → World → Prop) : M_cmp_Less_uint64 x_p0 y_p1 w R = den PR ann_cmp_Less_uint64 (bodyOf Tryz.f125) (retQ PR Tryz.f125.results.toList R) (env0 [x_p0, y_p1]) w := by kernel_rfl
theorem C_cmp_Less_uint64 {x_p0 y_p1 : Value} {w : World} {R : Value → World → Prop} (h : M_cmp_Less_uint64 x_p0 y_p1 w R) : CALL PR F_cmp_Less_uint64 [x_p0, y_p1] w R :=
  call_of_den2 ann_cmp_Less_uint64 Tryz.func125 (by kernel_rfl) (by kernel_rfl) (by kernel_rfl) ((E_cmp_Less_uint64 x_p0 y_p1 w R) ▸ h)
-- 126 slices.partitionEqualOrdered[uint64]
def M_slices_partitionEqualOrdered_uint64 (data_p0 a_p1 b_p2 pivot_p3 : Value) (w : World) (R : Value → World → Prop) : Prop :=
  BND (iaddr 1 data_p0 pivot_p3) fun t17_1 =>
  BND (iaddr 1 data_p0 a_p1) fun t21_2 =>
  BND (load1 w.drew t17_1) fun t18_3 =>
  BND (load1 w.drew t21_2) fun t22_4 =>
  BND (iaddr 1 data_p0 a_p1) fun t23_5 =>
  BND (storev 1 w.drew t23_5 t18_3) fun w1 =>
  BND (iaddr 1 data_p0 pivot_p3) fun t24_6 =>
  BND (storev 1 w1 t24_6 t22_4) fun w2 =>
  BND (binv .int .add a_p1 (Value.int .i64 1)) fun t26_7 =>
  BND (binv .int .sub b_p2 (Value.int .i64 1)) fun t28_8 =>
  ∃ (J_9 : Value → Value → World → Prop) (m_9 : Value → Value → World → Nat), J_9 t26_7 t28_8 w2 ∧ ∀ (_d_9 : Env) (i_10 j_11 : Value) (w3 : World), J_9 i_10 j_11 w3 →
  (∃ (J_66 : Value → World → Prop) (m_66 : Value → World → Nat), J_66 i_10 w3 ∧ ∀ (_d_66 : Env) (i_67 : Value) (w4 : World), J_66 i_67 w4 →
  (BND (binv .int .leq i_67 j_11) fun t31_85 =>
  BND (grd (isB t31_85 true) (some data_p0)) fun t33_86 =>
  BND (grd (isB t31_85 true) (some a_p1)) fun t34_87 =>
  BND (grd (isB t31_85 true) (iaddr 1 t33_86 t34_87)) fun t35_88 =>
  BND (grd (isB t31_85 true) (some data_p0)) fun t37_89 =>
  BND (grd (isB t31_85 true) (some i_67)) fun t38_90 =>
  BND (grd (isB t31_85 true) (iaddr 1 t37_89 t38_90)) fun t39_91 =>
  BND (grd (isB t31_85 true) (load1 w4.drew t35_88)) fun t36_92 =>
  BND (grd (isB t31_85 true) (load1 w4.drew t39_91)) fun t40_93 =>
  GEF (isB t31_85 true) (fun k_ => CALL PR F_cmp_Less_uint64 [t36_92, t40_93] w4.drew k_) w4.drew fun t41_94 w5 =>
  BND (grd (isB t31_85 true) (unv .not t41_94)) fun t42_95 =>
  BND (pickv t31_85 t42_95 (Value.bool false)) fun t43_96 =>
  COND t43_96
  (BND (binv .int .add i_67 (Value.int .i64 1)) fun t45_97 =>
  (J_66 t45_97 w5 ∧ m_66 t45_97 w5 < m_66 i_67 w4))
  (∃ (J_98 : Value → World → Prop) (m_98 : Value → World → Nat), J_98 j_11 w5 ∧ ∀ (_d_98 : Env) (j_99 : Value) (w6 : World), J_98 j_99 w6 →
  (BND (binv .int .leq i_67 j_99) fun t48_116 =>
  BND (grd (isB t48_116 true) (some data_p0)) fun t50_117 =>
  BND (grd (isB t48_116 true) (some a_p1)) fun t51_118 =>
  BND (grd (isB t48_116 true) (iaddr 1 t50_117 t51_118)) fun t52_119 =>
  BND (grd (isB t48_116 true) (some data_p0)) fun t54_120 =>
  BND (grd (isB t48_116 true) (some j_99)) fun t55_121 =>
  BND (grd (isB t48_116 true) (iaddr 1 t54_120 t55_121)) fun t56_122 =>
  BND (grd (isB t48_116 true) (load1 w6.drew t52_119)) fun t53_123 =>
  BND (grd (isB t48_116 true) (load1 w6.drew t56_122)) fun t57_124 =>
  GEF (isB t48_116 true) (fun k_ => CALL PR F_cmp_Less_uint64 [t53_123, t57_124] w6.drew k_) w6.drew fun t58_125 w7 =>
  BND (pickv t48_116 t58_125 (Value.bool false)) fun t59_126 =>
  COND t59_126
  (BND (binv .int .sub j_99 (Value.int .i64 1)) fun t61_127 =>
  (J_98 t61_127 w7 ∧ m_98 t61_127 w7 < m_98 j_99 w6))
  (BND (binv .int .gtr i_67 j_99) fun t64_128 =>
  COND t64_128
  (R i_67 w7)
  (BND (iaddr 1 data_p0 j_99) fun t71_129 =>
  BND (iaddr 1 data_p0 i_67) fun t75_130 =>
  BND (load1 w7.drew t71_129) fun t72_131 =>
  BND (load1 w7.drew t75_130) fun t76_132 =>
  BND (iaddr 1 data_p0 i_67) fun t77_133 =>
  BND (storev 1 w7.drew t77_133 t72_131) fun w8 =>
  BND (iaddr 1 data_p0 j_99) fun t78_134 =>
  BND (storev 1 w8 t78_134 t76_132) fun w9 =>
  BND (binv .int .add i_67 (Value.int .i64 1)) fun t80_135 =>
  BND (binv .int .sub j_99 (Value.int .i64 1)) fun t82_136 =>
  (J_9 t80_135 t82_136 w9 ∧ m_9 t80_135 t82_136 w9 < m_9 i_10 j_11 w3)))))))
def ann_slices_partitionEqualOrdered_uint64 : List (Nat × List Nat) := [(1, [0, 1, 2, 3, 4, 5, 6, 8, 9, 10, 7, 11, 12, 13, 14, 15]), (3, [0, 1, 2, 3, 4, 5, 6, 8, 9, 10, 7, 11, 12, 13, 14]), (5, [0, 1, 2, 3, 4, 5, 6, 8, 9, 10, 7, 11, 12, 13]), (8, [0, 1, 2, 3, 4, 5, 6, 8, 9, 10, 7, 11, 12, 13, 14, 15]), (1000003, [9]), (1000005, [10]), (1100003, [9, 10])]
theorem E_slices_partitionEqualOrdered_uint64 (data_p0 a_p1 b_p2 pivot_p3 : Value) (w : World) (R : Value → World → Prop) : M_slices_partitionEqualOrdered_uint64 data_p0 a_p1 b_p2 pivot_p3 w R = den PR ann_slices_partitionEqualOrdered_uint64 (bodyOf Tryz.f126) (retQ PR Tryz.f126.results.toList R) (env0 [data_p0, a_p1, b_p2, pivot_p3]) w := by kernel_rfl
theorem C_slices_partitionEqualOrdered_uint64 {data_p0 a_p1 b_p2 pivot_p3 : Value} {w : World} {R : Value → World → Prop} (h : M_slices_partitionEqualOrdered_uint64 data_p0 a_p1 b_p2 pivot_p3 w R) : CALL PR F_slices_partitionEqualOrdered_uint64 [data_p0, a_p1, b_p2, pivot_p3] w R :=
  call_of_den2 ann_slices_partitionEqualOrdered_uint64 Tryz.func126 (by kernel_rfl) (by kernel_rfl) (by kernel_rfl) ((E_slices_partitionEqualOrdered_uint64 data_p0 a_p1 b_p2 pivot_p3 w R) ▸ h)
-- 127 slices.partitionOrdered[uint64]
def M_slices_partitionOrdered_uint64 (data_p0 a_p1 b_p2 pivot_p3 : Value) (w : World) (R : Value → World → Prop) : Prop :=
  BND (iaddr 1 data_p0 pivot_p3) fun t18_1 =>
  BND (iaddr 1 data_p0 a_p1) fun t22_2 =>
  BND (load1 w.drew t18_1) fun t19_3 =>
  BND (load1 w.drew t22_2) fun t23_4 =>
  BND (iaddr 1 data_p0 a_p1) fun t24_5 =>
  BND (storev 1 w.drew t24_5 t19_3) fun w1 =>
  BND (iaddr 1 data_p0 pivot_p3) fun t25_6 =>
  BND (storev 1 w1 t25_6 t23_4) fun w2 =>
  BND (binv .int .add a_p1 (Value.int .i64 1)) fun t27_7 =>
  BND (binv .int .sub b_p2 (Value.int .i64 1)) fun t29_8 =>
  ∃ (J_9 : Value → World → Prop) (m_9 : Value → World → Nat), J_9 t27_7 w2 ∧ ∀ (_d_9 : Env) (i_10 : Value) (w3 : World), J_9 i_10 w3 →
  (BND (binv .int .leq i_10 t29_8) fun t32_27 =>
  BND (grd (isB t32_27 true) (some data_p0)) fun t34_28 =>
  BND (grd (isB t32_27 true) (some i_10)) fun t35_29 =>
  BND (grd (isB t32_27 true) (iaddr 1 t34_28 t35_29)) fun t36_30 =>
  BND (grd (isB t32_27 true) (some data_p0)) fun t38_31 =>
  BND (grd (isB t32_27 true) (some a_p1)) fun t39_32 =>
  BND (grd (isB t32_27 true) (iaddr 1 t38_31 t39_32)) fun t40_33 =>
  BND (grd (isB t32_27 true) (load1 w3.drew t36_30)) fun t37_34 =>
  BND (grd (isB t32_27 true) (load1 w3.drew t40_33)) fun t41_35 =>
  GEF (isB t32_27 true) (fun k_ => CALL PR F_cmp_Less_uint64 [t37_34, t41_35] w3.drew k_) w3.drew fun t42_36 w4 =>
  BND (pickv t32_27 t42_36 (Value.bool false)) fun t43_37 =>
  COND t43_37
  (BND (binv .int .add i_10 (Value.int .i64 1)) fun t45_38 =>
  (J_9 t45_38 w4 ∧ m_9 t45_38 w4 < m_9 i_10 w3))
  (∃ (J_39 : Value → World → Prop) (m_39 : Value → World → Nat), J_39 t29_8 w4 ∧ ∀ (_d_39 : Env) (j_40 : Value) (w5 : World), J_39 j_40 w5 →
  (BND (binv .int .leq i_10 j_40) fun t48_58 =>
  BND (grd (isB t48_58 true) (some data_p0)) fun t50_59 =>
  BND (grd (isB t48_58 true) (some j_40)) fun t51_60 =>
  BND (grd (isB t48_58 true) (iaddr 1 t50_59 t51_60)) fun t52_61 =>
  BND (grd (isB t48_58 true) (some data_p0)) fun t54_62 =>
  BND (grd (isB t48_58 true) (some a_p1)) fun t55_63 =>
  BND (grd (isB t48_58 true) (iaddr 1 t54_62 t55_63)) fun t56_64 =>
  BND (grd (isB t48_58 true) (load1 w5.drew t52_61)) fun t53_65 =>
  BND (grd (isB t48_58 true) (load1 w5.drew t56_64)) fun t57_66 =>
  GEF (isB t48_58 true) (fun k_ => CALL PR F_cmp_Less_uint64 [t53_65, t57_66] w5.drew k_) w5.drew fun t58_67 w6 =>
  BND (grd (isB t48_58 true) (unv .not t58_67)) fun t59_68 =>
  BND (pickv t48_58 t59_68 (Value.bool false)) fun t60_69 =>
  COND t60_69
  (BND (binv .int .sub j_40 (Value.int .i64 1)) fun t62_70 =>
  (J_39 t62_70 w6 ∧ m_39 t62_70 w6 < m_39 j_40 w5))
  (BND (binv .int .gtr i_10 j_40) fun t65_71 =>
  COND t65_71
  (BND (iaddr 1 data_p0 a_p1) fun t72_72 =>
  BND (iaddr 1 data_p0 j_40) fun t76_73 =>
  BND (load1 w6.drew t72_72) fun t73_74 =>
  BND (load1 w6.drew t76_73) fun t77_75 =>
  BND (iaddr 1 data_p0 j_40) fun t78_76 =>
  BND (storev 1 w6.drew t78_76 t73_74) fun w7 =>
  BND (iaddr 1 data_p0 a_p1) fun t79_77 =>
  BND (storev 1 w7 t79_77 t77_75) fun w8 =>
  R (.tuple #[j_40, (Value.bool true)]) w8)
  (BND (iaddr 1 data_p0 j_40) fun t87_78 =>
  BND (iaddr 1 data_p0 i_10) fun t91_79 =>
  BND (load1 w6.drew t87_78) fun t88_80 =>
  BND (load1 w6.drew t91_79) fun t92_81 =>
  BND (iaddr 1 data_p0 i_10) fun t93_82 =>
  BND (storev 1 w6.drew t93_82 t88_80) fun w9 =>
  BND (iaddr 1 data_p0 j_40) fun t94_83 =>
  BND (storev 1 w9 t94_83 t92_81) fun w10 =>
  BND (binv .int .add i_10 (Value.int .i64 1)) fun t96_84 =>
  BND (binv .int .sub j_40 (Value.int .i64 1)) fun t98_85 =>
  ∃ (J_86 : Value → Value → World → Prop) (m_86 : Value → Value → World → Nat), J_86 t96_84 t98_85 w10 ∧ ∀ (_d_86 : Env) (i_87 j_88 : Value) (w11 : World), J_86 i_87 j_88 w11 →
  (∃ (J_143 : Value → World → Prop) (m_143 : Value → World → Nat), J_143 i_87 w11 ∧ ∀ (_d_143 : Env) (i_144 : Value) (w12 : World), J_143 i_144 w12 →
  (BND (binv .int .leq i_144 j_88) fun t101_161 =>
  BND (grd (isB t101_161 true) (some data_p0)) fun t103_162 =>
  BND (grd (isB t101_161 true) (some i_144)) fun t104_163 =>
  BND (grd (isB t101_161 true) (iaddr 1 t103_162 t104_163)) fun t105_164 =>
  BND (grd (isB t101_161 true) (some data_p0)) fun t107_165 =>
  BND (grd (isB t101_161 true) (some a_p1)) fun t108_166 =>
  BND (grd (isB t101_161 true) (iaddr 1 t107_165 t108_166)) fun t109_167 =>
  BND (grd (isB t101_161 true) (load1 w12.drew t105_164)) fun t106_168 =>
  BND (grd (isB t101_161 true) (load1 w12.drew t109_167)) fun t110_169 =>
  GEF (isB t101_161 true) (fun k_ => CALL PR F_cmp_Less_uint64 [t106_168, t110_169] w12.drew k_) w12.drew fun t111_170 w13 =>
  BND (pickv t101_161 t111_170 (Value.bool false)) fun t112_171 =>
  COND t112_171
  (BND (binv .int .add i_144 (Value.int .i64 1)) fun t114_172 =>
  (J_143 t114_172 w13 ∧ m_143 t114_172 w13 < m_143 i_144 w12))
  (∃ (J_173 : Value → World → Prop) (m_173 : Value → World → Nat), J_173 j_88 w13 ∧ ∀ (_d_173 : Env) (j_174 : Value) (w14 : World), J_173 j_174 w14 →
  (BND (binv .int .leq i_144 j_174) fun t117_192 =>
  BND (grd (isB t117_192 true) (some data_p0)) fun t119_193 =>
  BND (grd (isB t117_192 true) (some j_174)) fun t120_194 =>
  BND (grd (isB t117_192 true) (iaddr 1 t119_193 t120_194)) fun t121_195 =>
  BND (grd (isB t117_192 true) (some data_p0)) fun t123_196 =>
  BND (grd (isB t117_192 true) (some a_p1)) fun t124_197 =>
  BND (grd (isB t117_192 true) (iaddr 1 t123_196 t124_197)) fun t125_198 =>
  BND (grd (isB t117_192 true) (load1 w14.drew t121_195)) fun t122_199 =>
  BND (grd (isB t117_192 true) (load1 w14.drew t125_198)) fun t126_200 =>
  GEF (isB t117_192 true) (fun k_ => CALL PR F_cmp_Less_uint64 [t122_199, t126_200] w14.drew k_) w14.drew fun t127_201 w15 =>
  BND (grd (isB t117_192 true) (unv .not t127_201)) fun t128_202 =>
  BND (pickv t117_192 t128_202 (Value.bool false)) fun t129_203 =>
  COND t129_203
  (BND (binv .int .sub j_174 (Value.int .i64 1)) fun t131_204 =>
  (J_173 t131_204 w15 ∧ m_173 t131_204 w15 < m_173 j_174 w14))
  (BND (binv .int .gtr i_144 j_174) fun t134_205 =>
  COND t134_205
  (BND (iaddr 1 data_p0 a_p1) fun t159_206 =>
  BND (iaddr 1 data_p0 j_174) fun t163_207 =>
  BND (load1 w15.drew t159_206) fun t160_208 =>
  BND (load1 w15.drew t163_207) fun t164_209 =>
  BND (iaddr 1 data_p0 j_174) fun t165_210 =>
  BND (storev 1 w15.drew t165_210 t160_208) fun w16 =>
  BND (iaddr 1 data_p0 a_p1) fun t166_211 =>
  BND (storev 1 w16 t166_211 t164_209) fun w17 =>
  R (.tuple #[j_174, (Value.bool false)]) w17)
  (BND (iaddr 1 data_p0 j_174) fun t141_212 =>
  BND (iaddr 1 data_p0 i_144) fun t145_213 =>
  BND (load1 w15.drew t141_212) fun t142_214 =>
  BND (load1 w15.drew t145_213) fun t146_215 =>
  BND (iaddr 1 data_p0 i_144) fun t147_216 =>
  BND (storev 1 w15.drew t147_216 t142_214) fun w18 =>
  BND (iaddr 1 data_p0 j_174) fun t148_217 =>
  BND (storev 1 w18 t148_217 t146_215) fun w19 =>
  BND (binv .int .add i_144 (Value.int .i64 1)) fun t150_218 =>
  BND (binv .int .sub j_174 (Value.int .i64 1)) fun t152_219 =>
  (J_86 t150_218 t152_219 w19 ∧ m_86 t150_218 t152_219 w19 < m_86 i_87 j_88 w11))))))))))))
def ann_slices_partitionOrdered_uint64 : List (Nat × List Nat) := [(1, [0, 1, 2, 3, 4, 5, 6, 8, 9, 10, 7, 11, 12, 13, 14, 15]), (3, [0, 1, 2, 3, 4, 5, 6, 8, 9, 10, 7, 11, 12, 13]), (5, [0, 1, 2, 3, 4, 5, 6, 8, 9, 10, 7, 11, 12, 13, 14]), (8, [0, 1, 2, 3, 4, 5, 6, 8, 9, 10, 7, 11, 12, 13, 14, 15]), (10, [0, 1, 2, 3, 4, 5, 6, 8, 9, 10, 7, 11, 12, 13, 14, 15]), (13, [0, 1, 2, 3, 4, 5, 6, 8, 9, 10, 7, 11, 12, 13]), (15, [0, 1, 2, 3, 4, 5, 6, 8, 9, 10, 7, 11, 12, 13, 14]), (18, [0, 1, 2, 3, 4, 5, 6, 8, 9, 10, 7, 11, 12, 13, 14, 15]), (21, [0, 1, 2, 3, 4, 5, 6, 8, 9, 10, 7, 11, 12, 13, 14, 15]), (1000003, [10]), (1000005, [11]), (1000013, [10]), (1000015, [11]), (1100013, [10, 11])]
theorem E_slices_partitionOrdered_uint64 (data_p0 a_p1 b_p2 pivot_p3 : Value) (w : World) (R : Value → World → Prop) : M_slices_partitionOrdered_uint64 data_p0 a_p1 b_p2 pivot_p3 w R = den PR ann_slices_partitionOrdered_uint64 (bodyOf Tryz.f127) (retQ PR Tryz.f127.results.toList R) (env0 [data_p0, a_p1, b_p2, pivot_p3]) w := by kernel_rfl
theorem C_slices_partitionOrdered_uint64 {data_p0 a_p1 b_p2 pivot_p3 : Value} {w : World} {R : Value → World → Prop} (h : M_slices_partitionOrdered_uint64 data_p0 a_p1 b_p2 pivot_p3 w R) : CALL PR F_slices_partitionOrdered_uint64 [data_p0, a_p1, b_p2, pivot_p3] w R :=
  call_of_den2 ann_slices_partitionOrdered_uint64 Tryz.func127 (by kernel_rfl) (by kernel_rfl) (by kernel_rfl) ((E_slices_partitionOrdered_uint64 data_p0 a_p1 b_p2 pivot_p3 w R) ▸ h)
-- 129 math.bits.Len64
def M_math_bits_Len64 (x_p0 : Value) (w : World) (R : Value → World → Prop) : Prop :=
  BND (binv .int .geq x_p0 (Value.int .u64 4294967296)) fun t4_1 =>
  JOIN (α := Value → Value → World → Prop) (fun k_30 => COND t4_1
  (BND (shiftv .shr x_p0 (Value.int .u64 32)) fun t6_31 =>
  k_30 t6_31 (Value.int .i64 32) w)
  (k_30 x_p0 (Value.int .i64 0) w))
  (fun x_2 n_3 w1 => BND (binv .int .geq x_2 (Value.int .u64 65536)) fun t8_6 =>
  JOIN (α := Value → Value → World → Prop) (fun k_27 => COND t8_6
  (BND (shiftv .shr x_2 (Value.int .u64 16)) fun t10_28 =>
  BND (binv .int .add n_3 (Value.int .i64 16)) fun t12_29 =>
  k_27 t10_28 t12_29 w1)
  (k_27 x_2 n_3 w1))
  (fun x_7 n_8 w2 => BND (binv .int .geq x_7 (Value.int .u64 256)) fun t14_13 =>
  JOIN (α := Value → Value → World → Prop) (fun k_24 => COND t14_13
  (BND (shiftv .shr x_7 (Value.int .u64 8)) fun t16_25 =>
  BND (binv .int .add n_8 (Value.int .i64 8)) fun t18_26 =>
  k_24 t16_25 t18_26 w2)
  (k_24 x_7 n_8 w2))
  (fun x_14 n_15 w3 => BND (convi .u8 x_14) fun t21_20 =>
  BND (indexs (Value.string { data := #[0, 1, 2, 2, 3, 3, 3, 3, 4, 4, 4, 4, 4, 4, 4, 4, 5, 5, 5, 5, 5, 5, 5, 5, 5, 5, 5, 5, 5, 5, 5, 5, 6, 6, 6, 6, 6, 6, 6, 6, 6, 6, 6, 6, 6, 6, 6, 6, 6, 6, 6, 6, 6, 6, 6, 6, 6, 6, 6, 6, 6, 6, 6, 6, 7, 7, 7, 7, 7, 7, 7, 7, 7, 7, 7, 7, 7, 7, 7, 7, 7, 7, 7, 7, 7, 7, 7, 7, 7, 7, 7, 7, 7, 7, 7, 7, 7, 7, 7, 7, 7, 7, 7, 7, 7, 7, 7, 7, 7, 7, 7, 7, 7, 7, 7, 7, 7, 7, 7, 7, 7, 7, 7, 7, 7, 7, 7, 7, 8, 8, 8, 8, 8, 8, 8, 8, 8, 8, 8, 8, 8, 8, 8, 8, 8, 8, 8, 8, 8, 8, 8, 8, 8, 8, 8, 8, 8, 8, 8, 8, 8, 8, 8, 8, 8, 8, 8, 8, 8, 8, 8, 8, 8, 8, 8, 8, 8, 8, 8, 8, 8, 8, 8, 8, 8, 8, 8, 8, 8, 8, 8, 8, 8, 8, 8, 8, 8, 8, 8, 8, 8, 8, 8, 8, 8, 8, 8, 8, 8, 8, 8, 8, 8, 8, 8, 8, 8, 8, 8, 8, 8, 8, 8, 8, 8, 8, 8, 8, 8, 8, 8, 8, 8, 8, 8, 8, 8, 8, 8, 8, 8, 8, 8, 8, 8, 8, 8, 8, 8, 8, 8, 8, 8, 8, 8, 8] }) t21_20) fun t22_21 =>
  BND (convi .i64 t22_21) fun t23_22 =>
  BND (binv .int .add n_15 t23_22) fun t24_23 =>
  R t24_23 w3)))
def ann_math_bits_Len64 : List (Nat × List Nat) := []
theorem E_math_bits_Len64 (x_p0 : Value) (w : World) (R : Value → World → Prop) : M_math_bits_Len64 x_p0 w R = den PR ann_math_bits_Len64 (bodyOf Tryz.f129) (retQ PR Tryz.f129.results.toList R) (env0 [x_p0]) w := by kernel_rfl
theorem C_math_bits_Len64 {x_p0 : Value} {w : World} {R : Value → World → Prop} (h : M_math_bits_Len64 x_p0 w R) : CALL PR F_math_bits_Len64 [x_p0] w R :=
  call_of_den2 ann_math_bits_Len64 Tryz.func129 (by kernel_rfl) (by kernel_rfl) (by kernel_rfl) ((E_math_bits_Len64 x_p0 w R) ▸ h)
-- 145 tumbrel.frame.Read
def M_frame_Read (b_p0 : Value) (w : World) (R : Value → World → Prop) : Prop :=
  NEW (newv 133 w (Value.agg #[(Value.int .u8 0), (Value.slice none 0 0)])) fun t2_1 w1 =>
  BND (lenl b_p0) fun t11_2 =>
  BND (binv .int .lss t11_2 (Value.int .i64 7)) fun t12_3 =>
  COND t12_3
  (BND (buildv #[(Value.int .u8 0), (Value.slice none 0 0)] []) fun t13_4 =>
  BND (storev 2 w1 t2_1 t13_4) fun w2 =>
  BND (loadn 2 w2 t2_1) fun r_5 =>
  R (.tuple #[r_5, (Value.int .i64 0), (Value.int .i64 3)]) w2)
  (BND (slicev 1 b_p0 none (some (Value.int .i64 7))) fun t16_6 =>
  CALL PR F_sum_Cut [t16_6] w1 fun t17_7 w3 =>
  BND (extractv t17_7 0) fun t18_8 =>
  BND (extractv t17_7 1) fun t19_9 =>
  BND (unv .not t19_9) fun t21_10 =>
  COND t21_10
  (BND (buildv #[(Value.int .u8 0), (Value.slice none 0 0)] []) fun t22_11 =>
  BND (storev 2 w3 t2_1 t22_11) fun w4 =>
  BND (loadn 2 w4 t2_1) fun r_12 =>
  R (.tuple #[r_12, (Value.int .i64 0), (Value.int .i64 8)]) w4)
  (BND (iaddr 1 t18_8 (Value.int .i64 1)) fun t24_13 =>
  BND (iaddr 1 t18_8 (Value.int .i64 2)) fun t28_14 =>
  BND (load1 w3.drew t24_13) fun t25_15 =>
  BND (convi .i64 t25_15) fun t26_16 =>
  BND (load1 w3.drew t28_14) fun t29_17 =>
  BND (convi .i64 t29_17) fun t30_18 =>
  BND (shiftv .shl t30_18 (Value.int .u64 8)) fun t31_19 =>
  BND (binv .int .or t26_16 t31_19) fun t32_20 =>
  BND (binv .int .add (Value.int .i64 7) t32_20) fun t34_21 =>
  BND (binv .int .add t34_21 (Value.int .i64 4)) fun t35_22 =>
  BND (binv .int .gtr t32_20 (Value.int .i64 400)) fun t38_23 =>
  COND t38_23
  (BND (buildv #[(Value.int .u8 0), (Value.slice none 0 0)] []) fun t39_24 =>
  BND (storev 2 w3.drew t2_1 t39_24) fun w5 =>
  BND (loadn 2 w5 t2_1) fun r_25 =>
  R (.tuple #[r_25, (Value.int .i64 0), (Value.int .i64 2)]) w5)
  (BND (lenl b_p0) fun t42_26 =>
  BND (binv .int .lss t42_26 t35_22) fun t44_27 =>
  COND t44_27
  (BND (buildv #[(Value.int .u8 0), (Value.slice none 0 0)] []) fun t45_28 =>
  BND (storev 2 w3.drew t2_1 t45_28) fun w6 =>
  BND (loadn 2 w6 t2_1) fun r_29 =>
  R (.tuple #[r_29, (Value.int .i64 0), (Value.int .i64 3)]) w6)
  (BND (slicev 1 b_p0 (some (Value.int .i64 7)) (some t35_22)) fun t49_30 =>
  CALL PR F_sum_Cut [t49_30] w3.drew fun t50_31 w7 =>
  BND (extractv t50_31 0) fun t51_32 =>
  BND (extractv t50_31 1) fun t52_33 =>
  BND (unv .not t52_33) fun t54_34 =>
  COND t54_34
  (BND (buildv #[(Value.int .u8 0), (Value.slice none 0 0)] []) fun t55_35 =>
  BND (storev 2 w7 t2_1 t55_35) fun w8 =>
  BND (loadn 2 w8 t2_1) fun r_36 =>
  R (.tuple #[r_36, (Value.int .i64 0), (Value.int .i64 8)]) w8)
  (BND (iaddr 1 t18_8 (Value.int .i64 0)) fun t57_37 =>
  BND (load1 w7 t57_37) fun t58_38 =>
  BND (buildv #[(Value.int .u8 0), (Value.slice none 0 0)] [(0, 1, t58_38), (1, 1, t51_32)]) fun t60_39 =>
  BND (storev 2 w7 t2_1 t60_39) fun w9 =>
  BND (loadn 2 w9 t2_1) fun r_40 =>
  R (.tuple #[r_40, t35_22, (Value.int .i64 0)]) w9)))))
def ann_frame_Read : List (Nat × List Nat) := [(6, [0, 1, 4, 5, 2, 3, 6, 7, 8, 9, 10])]
theorem E_frame_Read (b_p0 : Value) (w : World) (R : Value → World → Prop) : M_frame_Read b_p0 w R = den PR ann_frame_Read (bodyOf Tryz.f145) (retQ PR Tryz.f145.results.toList R) (env0 [b_p0]) w := by kernel_rfl
theorem C_frame_Read {b_p0 : Value} {w : World} {R : Value → World → Prop} (h : M_frame_Read b_p0 w R) : CALL PR F_frame_Read [b_p0] w R :=
  call_of_den2 ann_frame_Read Tryz.func145 (by kernel_rfl) (by kernel_rfl) (by kernel_rfl) ((E_frame_Read b_p0 w R) ▸ h)
-- 146 tumbrel.vint.Get
def M_vint_Get (b_p0 : Value) (w : World) (R : Value → World → Prop) : Prop :=
  BND (lenl b_p0) fun t9_1 =>
  ∃ (J_2 : Value → Value → World → Prop) (m_2 : Value → Value → World → Nat), J_2 (Value.int .u64 0) (Value.int .i64 0) w ∧ ∀ (_d_2 : Env) (n_6 t10_9 : Value) (w1 : World), J_2 n_6 t10_9 w1 →
  (BND (binv .int .lss t10_9 t9_1) fun t11_40 =>
  COND t11_40
  (BND (iaddr 1 b_p0 t10_9) fun t13_41 =>
  BND (load1 w1 t13_41) fun t14_42 =>
  BND (binv .int .eql t10_9 (Value.int .i64 9)) fun t16_43 =>
  BND (grd (isB t16_43 true) (some t14_42)) fun t18_44 =>
  BND (grd (isB t16_43 true) (binv .int .gtr t18_44 (Value.int .u8 1))) fun t19_45 =>
  BND (pickv t16_43 t19_45 (Value.bool false)) fun t20_46 =>
  COND t20_46
  (R (.tuple #[(Value.int .u64 0), (Value.int .i64 0), (Value.int .i64 2)]) w1)
  (BND (binv .int .rem t14_42 (Value.int .u8 128)) fun t23_47 =>
  BND (convi .u64 t23_47) fun t24_48 =>
  BND (binv .int .mul (Value.int .i64 7) t10_9) fun t26_49 =>
  BND (shiftv .shl t24_48 t26_49) fun t27_50 =>
  BND (binv .int .or n_6 t27_50) fun t28_51 =>
  BND (binv .int .geq t14_42 (Value.int .u8 128)) fun t30_52 =>
  COND t30_52
  (BND (binv .int .add t10_9 (Value.int .i64 1)) fun t40_53 =>
  (J_2 t28_51 t40_53 w1 ∧ m_2 t28_51 t40_53 w1 < m_2 n_6 t10_9 w1))
  (BND (binv .int .eql t14_42 (Value.int .u8 0)) fun t32_54 =>
  BND (grd (isB t32_54 true) (some t10_9)) fun t34_55 =>
  BND (grd (isB t32_54 true) (binv .int .gtr t34_55 (Value.int .i64 0))) fun t35_56 =>
  BND (pickv t32_54 t35_56 (Value.bool false)) fun t36_57 =>
  COND t36_57
  (R (.tuple #[(Value.int .u64 0), (Value.int .i64 0), (Value.int .i64 2)]) w1)
  (BND (binv .int .add t10_9 (Value.int .i64 1)) fun t39_58 =>
  R (.tuple #[t28_51, t39_58, (Value.int .i64 0)]) w1))))
  (R (.tuple #[(Value.int .u64 0), (Value.int .i64 0), (Value.int .i64 3)]) w1))
def ann_vint_Get : List (Nat × List Nat) := [(1000003, [5, 10])]
theorem E_vint_Get (b_p0 : Value) (w : World) (R : Value → World → Prop) : M_vint_Get b_p0 w R = den PR ann_vint_Get (bodyOf Tryz.f146) (retQ PR Tryz.f146.results.toList R) (env0 [b_p0]) w := by kernel_rfl
theorem C_vint_Get {b_p0 : Value} {w : World} {R : Value → World → Prop} (h : M_vint_Get b_p0 w R) : CALL PR F_vint_Get [b_p0] w R :=
  call_of_den2 ann_vint_Get Tryz.func146 (by kernel_rfl) (by kernel_rfl) (by kernel_rfl) ((E_vint_Get b_p0 w R) ▸ h)
-- 150 tumbrel.tumbrelref02.Put
def M_tumbrelref02_Put (n_p0 : Value) (w : World) (R : Value → World → Prop) : Prop :=
  BND (binv .int .lss n_p0 (Value.int .u64 128)) fun t4_1 =>
  COND t4_1
  (BND (convi .u8 n_p0) fun t6_2 =>
  BND (newslice 5 #[(Value.int .u8 0)] 1 1 [(0, 1, t6_2)] w) fun p_ => NEW p_ fun t7_3 w1 =>
  R t7_3 w1)
  (BND (binv .int .rem n_p0 (Value.int .u64 128)) fun t9_4 =>
  BND (binv .int .add (Value.int .u64 128) t9_4) fun t10_5 =>
  BND (convi .u8 t10_5) fun t11_6 =>
  BND (newslice 5 #[(Value.int .u8 0)] 1 1 [(0, 1, t11_6)] w) fun p_ => NEW p_ fun t12_7 w2 =>
  BND (binv .int .quo n_p0 (Value.int .u64 128)) fun t14_8 =>
  CALL PR F_tumbrelref02_Put [t14_8] w2 fun t15_9 w3 =>
  APPEND 5 1 1 (Value.int .u8 0) t12_7 t15_9 w3 fun t16_10 w4 =>
  R t16_10 w4)
def ann_tumbrelref02_Put : List (Nat × List Nat) := []
theorem E_tumbrelref02_Put (n_p0 : Value) (w : World) (R : Value → World → Prop) : M_tumbrelref02_Put n_p0 w R = den PR ann_tumbrelref02_Put (bodyOf Tryz.f150) (retQ PR Tryz.f150.results.toList R) (env0 [n_p0]) w := by kernel_rfl
theorem C_tumbrelref02_Put {n_p0 : Value} {w : World} {R : Value → World → Prop} (h : M_tumbrelref02_Put n_p0 w R) : CALL PR F_tumbrelref02_Put [n_p0] w R :=
  call_of_den2 ann_tumbrelref02_Put Tryz.func150 (by kernel_rfl) (by kernel_rfl) (by kernel_rfl) ((E_tumbrelref02_Put n_p0 w R) ▸ h)
-- 152 tumbrel.tumbrelref02.Get
def M_tumbrelref02_Get (b_p0 : Value) (w : World) (R : Value → World → Prop) : Prop :=
  ∃ (J_1 : Value → World → Prop) (m_1 : Value → World → Nat), J_1 (Value.int .i64 0) w ∧ ∀ (_d_1 : Env) (many_2 : Value) (w1 : World), J_1 many_2 w1 →
  (BND (lenl b_p0) fun t10_20 =>
  BND (binv .int .lss many_2 t10_20) fun t11_21 =>
  BND (grd (isB t11_21 true) (some many_2)) fun t13_22 =>
  BND (grd (isB t11_21 true) (binv .int .lss t13_22 (Value.int .i64 9))) fun t14_23 =>
  BND (pickv t11_21 t14_23 (Value.bool false)) fun t15_24 =>
  BND (grd (isB t15_24 true) (some b_p0)) fun t17_25 =>
  BND (grd (isB t15_24 true) (some many_2)) fun t18_26 =>
  BND (grd (isB t15_24 true) (iaddr 1 t17_25 t18_26)) fun t19_27 =>
  BND (grd (isB t15_24 true) (load1 w1 t19_27)) fun t20_28 =>
  BND (grd (isB t15_24 true) (binv .int .geq t20_28 (Value.int .u8 128))) fun t21_29 =>
  BND (pickv t15_24 t21_29 (Value.bool false)) fun t22_30 =>
  COND t22_30
  (BND (binv .int .add many_2 (Value.int .i64 1)) fun t24_31 =>
  (J_1 t24_31 w1 ∧ m_1 t24_31 w1 < m_1 many_2 w1))
  (BND (lenl b_p0) fun t27_32 =>
  BND (binv .int .eql many_2 t27_32) fun t28_33 =>
  COND t28_33
  (R (.tuple #[(Value.int .u64 0), (Value.int .i64 0), (Value.int .i64 3)]) w1)
  (BND (binv .int .eql many_2 (Value.int .i64 9)) fun t30_34 =>
  BND (grd (isB t30_34 true) (some b_p0)) fun t32_35 =>
  BND (grd (isB t30_34 true) (iaddr 1 t32_35 (Value.int .i64 9))) fun t33_36 =>
  BND (grd (isB t30_34 true) (load1 w1 t33_36)) fun t34_37 =>
  BND (grd (isB t30_34 true) (binv .int .gtr t34_37 (Value.int .u8 1))) fun t35_38 =>
  BND (pickv t30_34 t35_38 (Value.bool false)) fun t36_39 =>
  BND (grd (isB t36_39 false) (some many_2)) fun t38_40 =>
  BND (grd (isB t36_39 false) (binv .int .gtr t38_40 (Value.int .i64 0))) fun t39_41 =>
  BND (grd (isB t36_39 false) (some t39_41)) fun t40_42 =>
  BND (grd (isB t40_42 true) (some b_p0)) fun t41_43 =>
  BND (grd (isB t40_42 true) (some many_2)) fun t42_44 =>
  BND (grd (isB t40_42 true) (iaddr 1 t41_43 t42_44)) fun t43_45 =>
  BND (grd (isB t40_42 true) (load1 w1 t43_45)) fun t44_46 =>
  BND (grd (isB t40_42 true) (binv .int .eql t44_46 (Value.int .u8 0))) fun t45_47 =>
  BND (grd (isB t36_39 false) (pickv t40_42 t45_47 (Value.bool false))) fun t46_48 =>
  BND (pickv t36_39 (Value.bool true) t46_48) fun t47_49 =>
  COND t47_49
  (R (.tuple #[(Value.int .u64 0), (Value.int .i64 0), (Value.int .i64 2)]) w1)
  (∃ (J_50 : Value → Value → World → Prop) (m_50 : Value → Value → World → Nat), J_50 (Value.int .u64 0) many_2 w1 ∧ ∀ (_d_50 : Env) (n_51 i_52 : Value) (w2 : World), J_50 n_51 i_52 w2 →
  (BND (binv .int .geq i_52 (Value.int .i64 0)) fun t50_66 =>
  COND t50_66
  (BND (binv .int .mul (Value.int .u64 128) n_51) fun t54_67 =>
  BND (iaddr 1 b_p0 i_52) fun t57_68 =>
  BND (load1 w2 t57_68) fun t58_69 =>
  BND (binv .int .rem t58_69 (Value.int .u8 128)) fun t59_70 =>
  BND (convi .u64 t59_70) fun t60_71 =>
  BND (binv .int .add t54_67 t60_71) fun t61_72 =>
  BND (binv .int .sub i_52 (Value.int .i64 1)) fun t52_73 =>
  (J_50 t61_72 t52_73 w2 ∧ m_50 t61_72 t52_73 w2 < m_50 n_51 i_52 w2))
  (BND (binv .int .add many_2 (Value.int .i64 1)) fun t64_74 =>
  R (.tuple #[n_51, t64_74, (Value.int .i64 0)]) w2))))))
def ann_tumbrelref02_Get : List (Nat × List Nat) := [(1000002, [5]), (1000010, [6, 7])]
theorem E_tumbrelref02_Get (b_p0 : Value) (w : World) (R : Value → World → Prop) : M_tumbrelref02_Get b_p0 w R = den PR ann_tumbrelref02_Get (bodyOf Tryz.f152) (retQ PR Tryz.f152.results.toList R) (env0 [b_p0]) w := by kernel_rfl
theorem C_tumbrelref02_Get {b_p0 : Value} {w : World} {R : Value → World → Prop} (h : M_tumbrelref02_Get b_p0 w R) : CALL PR F_tumbrelref02_Get [b_p0] w R :=
  call_of_den2 ann_tumbrelref02_Get Tryz.func152 (by kernel_rfl) (by kernel_rfl) (by kernel_rfl) ((E_tumbrelref02_Get b_p0 w R) ▸ h)
-- 154 tumbrel.sum.More
def M_sum_More (sum_p0 b_p1 : Value) (w : World) (R : Value → World → Prop) : Prop :=
  CALL PR F_sum_Table [] w fun t8_1 w1 =>
  NEW (newv 242 w1 (Value.agg (List.replicate 256 (Value.int .u32 0)).toArray)) fun t_2 w2 =>
  BND (storev 256 w2 t_2 t8_1) fun w3 =>
  BND (unv .xor sum_p0) fun t10_3 =>
  BND (lenl b_p1) fun t12_4 =>
  ∃ (J_5 : Value → Value → World → Prop) (m_5 : Value → Value → World → Nat), J_5 t10_3 (Value.int .i64 0) w3 ∧ ∀ (_d_5 : Env) (sum_6 t13_8 : Value) (w4 : World), J_5 sum_6 t13_8 w4 →
  (BND (binv .int .lss t13_8 t12_4) fun t14_22 =>
  COND t14_22
  (BND (iaddr 1 b_p1 t13_8) fun t15_23 =>
  BND (load1 w4 t15_23) fun t16_24 =>
  BND (shiftv .shr sum_6 (Value.int .u64 8)) fun t18_25 =>
  BND (convi .u8 sum_6) fun t20_26 =>
  BND (binv .int .xor t20_26 t16_24) fun t22_27 =>
  BND (iaddra 256 1 t_2 t22_27) fun t23_28 =>
  BND (load1 w4 t23_28) fun t24_29 =>
  BND (binv .int .xor t18_25 t24_29) fun t25_30 =>
  BND (binv .int .add t13_8 (Value.int .i64 1)) fun t26_31 =>
  (J_5 t25_30 t26_31 w4 ∧ m_5 t25_30 t26_31 w4 < m_5 sum_6 t13_8 w4))
  (BND (unv .xor sum_6) fun t28_32 =>
  R t28_32 w4))
def ann_sum_More : List (Nat × List Nat) := [(1000004, [0, 13])]
theorem E_sum_More (sum_p0 b_p1 : Value) (w : World) (R : Value → World → Prop) : M_sum_More sum_p0 b_p1 w R = den PR ann_sum_More (bodyOf Tryz.f154) (retQ PR Tryz.f154.results.toList R) (env0 [sum_p0, b_p1]) w := by kernel_rfl
theorem C_sum_More {sum_p0 b_p1 : Value} {w : World} {R : Value → World → Prop} (h : M_sum_More sum_p0 b_p1 w R) : CALL PR F_sum_More [sum_p0, b_p1] w R :=
  call_of_den2 ann_sum_More Tryz.func154 (by kernel_rfl) (by kernel_rfl) (by kernel_rfl) ((E_sum_More sum_p0 b_p1 w R) ▸ h)
-- 161 slices.siftDownOrdered[uint64]
def M_slices_siftDownOrdered_uint64 (data_p0 lo_p1 hi_p2 first_p3 : Value) (w : World) (R : Value → World → Prop) : Prop :=
  ∃ (J_1 : Value → World → Prop) (m_1 : Value → World → Nat), J_1 lo_p1 w ∧ ∀ (_d_1 : Env) (root_2 : Value) (w1 : World), J_1 root_2 w1 →
  (BND (binv .int .mul (Value.int .i64 2) root_2) fun t12_69 =>
  BND (binv .int .add t12_69 (Value.int .i64 1)) fun t13_70 =>
  BND (binv .int .geq t13_70 hi_p2) fun t16_71 =>
  COND t16_71
  (R (.tuple #[]) w1)
  (BND (binv .int .add t13_70 (Value.int .i64 1)) fun t18_72 =>
  BND (binv .int .lss t18_72 hi_p2) fun t20_73 =>
  BND (grd (isB t20_73 true) (some data_p0)) fun t22_74 =>
  BND (grd (isB t20_73 true) (some first_p3)) fun t23_75 =>
  BND (grd (isB t20_73 true) (some t13_70)) fun t24_76 =>
  BND (grd (isB t20_73 true) (binv .int .add t23_75 t24_76)) fun t25_77 =>
  BND (grd (isB t20_73 true) (iaddr 1 t22_74 t25_77)) fun t26_78 =>
  BND (grd (isB t20_73 true) (some data_p0)) fun t28_79 =>
  BND (grd (isB t20_73 true) (some first_p3)) fun t29_80 =>
  BND (grd (isB t20_73 true) (some t13_70)) fun t30_81 =>
  BND (grd (isB t20_73 true) (binv .int .add t29_80 t30_81)) fun t31_82 =>
  BND (grd (isB t20_73 true) (binv .int .add t31_82 (Value.int .i64 1))) fun t32_83 =>
  BND (grd (isB t20_73 true) (iaddr 1 t28_79 t32_83)) fun t33_84 =>
  BND (grd (isB t20_73 true) (load1 w1.drew t26_78)) fun t27_85 =>
  BND (grd (isB t20_73 true) (load1 w1.drew t33_84)) fun t34_86 =>
  GEF (isB t20_73 true) (fun k_ => CALL PR F_cmp_Less_uint64 [t27_85, t34_86] w1.drew k_) w1.drew fun t35_87 w2 =>
  BND (pickv t20_73 t35_87 (Value.bool false)) fun t36_88 =>
  JOIN (α := Value → World → Prop) (fun k_110 => COND t36_88
  (BND (binv .int .add t13_70 (Value.int .i64 1)) fun t38_111 =>
  k_110 t38_111 w2)
  (k_110 t13_70 w2))
  (fun child_89 w3 => BND (binv .int .add first_p3 root_2) fun t42_92 =>
  BND (iaddr 1 data_p0 t42_92) fun t43_93 =>
  BND (binv .int .add first_p3 child_89) fun t48_94 =>
  BND (iaddr 1 data_p0 t48_94) fun t49_95 =>
  BND (load1 w3.drew t43_93) fun t44_96 =>
  BND (load1 w3.drew t49_95) fun t50_97 =>
  CALL PR F_cmp_Less_uint64 [t44_96, t50_97] w3.drew fun t51_98 w4 =>
  BND (unv .not t51_98) fun t52_99 =>
  COND t52_99
  (R (.tuple #[]) w4)
  (BND (binv .int .add first_p3 root_2) fun t56_100 =>
  BND (binv .int .add first_p3 child_89) fun t60_101 =>
  BND (binv .int .add first_p3 child_89) fun t64_102 =>
  BND (iaddr 1 data_p0 t64_102) fun t65_103 =>
  BND (binv .int .add first_p3 root_2) fun t70_104 =>
  BND (iaddr 1 data_p0 t70_104) fun t71_105 =>
  BND (load1 w4.drew t65_103) fun t66_106 =>
  BND (load1 w4.drew t71_105) fun t72_107 =>
  BND (iaddr 1 data_p0 t56_100) fun t73_108 =>
  BND (storev 1 w4.drew t73_108 t66_106) fun w5 =>
  BND (iaddr 1 data_p0 t60_101) fun t74_109 =>
  BND (storev 1 w5 t74_109 t72_107) fun w6 =>
  (J_1 child_89 w6 ∧ m_1 child_89 w6 < m_1 root_2 w1)))))
def ann_slices_siftDownOrdered_uint64 : List (Nat × List Nat) := [(3, [0, 1, 2, 3, 4, 5, 6, 7, 8, 9, 11, 12, 13, 14, 15, 16, 10, 17, 18, 19]), (5, [0, 1, 2, 3, 4, 6, 7, 8, 9, 10, 5, 11, 12, 13]), (6, [0, 1, 2, 3, 4, 5, 6, 7, 8, 9, 10, 11, 12, 14, 15, 16, 17, 18, 13, 19, 20, 21, 22, 23]), (1000001, [8])]
theorem E_slices_siftDownOrdered_uint64 (data_p0 lo_p1 hi_p2 first_p3 : Value) (w : World) (R : Value → World → Prop) : M_slices_siftDownOrdered_uint64 data_p0 lo_p1 hi_p2 first_p3 w R = den PR ann_slices_siftDownOrdered_uint64 (bodyOf Tryz.f161) (retQ PR Tryz.f161.results.toList R) (env0 [data_p0, lo_p1, hi_p2, first_p3]) w := by kernel_rfl
theorem C_slices_siftDownOrdered_uint64 {data_p0 lo_p1 hi_p2 first_p3 : Value} {w : World} {R : Value → World → Prop} (h : M_slices_siftDownOrdered_uint64 data_p0 lo_p1 hi_p2 first_p3 w R) : CALL PR F_slices_siftDownOrdered_uint64 [data_p0, lo_p1, hi_p2, first_p3] w R :=
  call_of_den2 ann_slices_siftDownOrdered_uint64 Tryz.func161 (by kernel_rfl) (by kernel_rfl) (by kernel_rfl) ((E_slices_siftDownOrdered_uint64 data_p0 lo_p1 hi_p2 first_p3 w R) ▸ h)
-- 162 slices.nextPowerOfTwo
def M_slices_nextPowerOfTwo (length_p0 : Value) (w : World) (R : Value → World → Prop) : Prop :=
  BND (convi .u64 length_p0) fun t4_1 =>
  CALL PR F_math_bits_Len [t4_1] w fun t5_2 w1 =>
  BND (shiftv .shl (Value.int .u64 1) t5_2) fun t6_3 =>
  R t6_3 w1
def ann_slices_nextPowerOfTwo : List (Nat × List Nat) := []
theorem E_slices_nextPowerOfTwo (length_p0 : Value) (w : World) (R : Value → World → Prop) : M_slices_nextPowerOfTwo length_p0 w R = den PR ann_slices_nextPowerOfTwo (bodyOf Tryz.f162) (retQ PR Tryz.f162.results.toList R) (env0 [length_p0]) w := by kernel_rfl
theorem C_slices_nextPowerOfTwo {length_p0 : Value} {w : World} {R : Value → World → Prop} (h : M_slices_nextPowerOfTwo length_p0 w R) : CALL PR F_slices_nextPowerOfTwo [length_p0] w R :=
  call_of_den2 ann_slices_nextPowerOfTwo Tryz.func162 (by kernel_rfl) (by kernel_rfl) (by kernel_rfl) ((E_slices_nextPowerOfTwo length_p0 w R) ▸ h)
-- 163 (*slices.xorshift).Next
def M_slices_xorshift_Next (r_p0 : Value) (w : World) (R : Value → World → Prop) : Prop :=
  BND (nilchk r_p0) fun t4_1 =>
  BND (nilchk r_p0) fun t7_2 =>
  BND (load1 w.drew t4_1) fun t5_3 =>
  BND (load1 w.drew t7_2) fun t8_4 =>
  BND (shiftv .shl t8_4 (Value.int .u64 13)) fun t9_5 =>
  BND (binv .int .xor t5_3 t9_5) fun t10_6 =>
  BND (nilchk r_p0) fun t11_7 =>
  BND (storev 1 w.drew t11_7 t10_6) fun w1 =>
  BND (nilchk r_p0) fun t13_8 =>
  BND (nilchk r_p0) fun t16_9 =>
  BND (load1 w1.drew t13_8) fun t14_10 =>
  BND (load1 w1.drew t16_9) fun t17_11 =>
  BND (shiftv .shr t17_11 (Value.int .u64 7)) fun t18_12 =>
  BND (binv .int .xor t14_10 t18_12) fun t19_13 =>
  BND (nilchk r_p0) fun t20_14 =>
  BND (storev 1 w1.drew t20_14 t19_13) fun w2 =>
  BND (nilchk r_p0) fun t22_15 =>
  BND (nilchk r_p0) fun t25_16 =>
  BND (load1 w2.drew t22_15) fun t23_17 =>
  BND (load1 w2.drew t25_16) fun t26_18 =>
  BND (shiftv .shl t26_18 (Value.int .u64 17)) fun t27_19 =>
  BND (binv .int .xor t23_17 t27_19) fun t28_20 =>
  BND (nilchk r_p0) fun t29_21 =>
  BND (storev 1 w2.drew t29_21 t28_20) fun w3 =>
  BND (nilchk r_p0) fun t31_22 =>
  BND (load1 w3 t31_22) fun t32_23 =>
  R t32_23 w3
def ann_slices_xorshift_Next : List (Nat × List Nat) := [(1, [0, 1, 3, 4, 2, 5, 6, 7, 8, 9]), (2, [0, 1, 3, 4, 2, 5, 6, 7, 8, 9]), (3, [0, 1, 3, 4, 2, 5, 6, 7, 8, 9])]
theorem E_slices_xorshift_Next (r_p0 : Value) (w : World) (R : Value → World → Prop) : M_slices_xorshift_Next r_p0 w R = den PR ann_slices_xorshift_Next (bodyOf Tryz.f163) (retQ PR Tryz.f163.results.toList R) (env0 [r_p0]) w := by kernel_rfl
theorem C_slices_xorshift_Next {r_p0 : Value} {w : World} {R : Value → World → Prop} (h : M_slices_xorshift_Next r_p0 w R) : CALL PR F_slices_xorshift_Next [r_p0] w R :=
  call_of_den2 ann_slices_xorshift_Next Tryz.func163 (by kernel_rfl) (by kernel_rfl) (by kernel_rfl) ((E_slices_xorshift_Next r_p0 w R) ▸ h)
-- 164 slices.medianAdjacentOrdered[uint64]
def M_slices_medianAdjacentOrdered_uint64 (data_p0 a_p1 swaps_p2 : Value) (w : World) (R : Value → World → Prop) : Prop :=
  BND (binv .int .sub a_p1 (Value.int .i64 1)) fun t9_1 =>
  BND (binv .int .add a_p1 (Value.int .i64 1)) fun t12_2 =>
  CALL PR F_slices_medianOrdered_uint64 [data_p0, t9_1, a_p1, t12_2, swaps_p2] w fun t14_3 w1 =>
  R t14_3 w1
def ann_slices_medianAdjacentOrdered_uint64 : List (Nat × List Nat) := []
theorem E_slices_medianAdjacentOrdered_uint64 (data_p0 a_p1 swaps_p2 : Value) (w : World) (R : Value → World → Prop) : M_slices_medianAdjacentOrdered_uint64 data_p0 a_p1 swaps_p2 w R = den PR ann_slices_medianAdjacentOrdered_uint64 (bodyOf Tryz.f164) (retQ PR Tryz.f164.results.toList R) (env0 [data_p0, a_p1, swaps_p2]) w := by kernel_rfl
theorem C_slices_medianAdjacentOrdered_uint64 {data_p0 a_p1 swaps_p2 : Value} {w : World} {R : Value → World → Prop} (h : M_slices_medianAdjacentOrdered_uint64 data_p0 a_p1 swaps_p2 w R) : CALL PR F_slices_medianAdjacentOrdered_uint64 [data_p0, a_p1, swaps_p2] w R :=
  call_of_den2 ann_slices_medianAdjacentOrdered_uint64 Tryz.func164 (by kernel_rfl) (by kernel_rfl) (by kernel_rfl) ((E_slices_medianAdjacentOrdered_uint64 data_p0 a_p1 swaps_p2 w R) ▸ h)
-- 165 slices.medianOrdered[uint64]
def M_slices_medianOrdered_uint64 (data_p0 a_p1 b_p2 c_p3 swaps_p4 : Value) (w : World) (R : Value → World → Prop) : Prop :=
  CALL PR F_slices_order2Ordered_uint64 [data_p0, a_p1, b_p2, swaps_p4] w fun t16_1 w1 =>
  BND (extractv t16_1 0) fun t17_2 =>
  BND (extractv t16_1 1) fun t18_3 =>
  CALL PR F_slices_order2Ordered_uint64 [data_p0, t18_3, c_p3, swaps_p4] w1 fun t24_4 w2 =>
  BND (extractv t24_4 0) fun t25_5 =>
  BND (extractv t24_4 1) fun t26_6 =>
  CALL PR F_slices_order2Ordered_uint64 [data_p0, t17_2, t25_5, swaps_p4] w2 fun t32_7 w3 =>
  BND (extractv t32_7 0) fun t33_8 =>
  BND (extractv t32_7 1) fun t34_9 =>
  R t34_9 w3
def ann_slices_medianOrdered_uint64 : List (Nat × List Nat) := []
theorem E_slices_medianOrdered_uint64 (data_p0 a_p1 b_p2 c_p3 swaps_p4 : Value) (w : World) (R : Value → World → Prop) : M_slices_medianOrdered_uint64 data_p0 a_p1 b_p2 c_p3 swaps_p4 w R = den PR ann_slices_medianOrdered_uint64 (bodyOf Tryz.f165) (retQ PR Tryz.f165.results.toList R) (env0 [data_p0, a_p1, b_p2, c_p3, swaps_p4]) w := by kernel_rfl
theorem C_slices_medianOrdered_uint64 {data_p0 a_p1 b_p2 c_p3 swaps_p4 : Value} {w : World} {R : Value → World → Prop} (h : M_slices_medianOrdered_uint64 data_p0 a_p1 b_p2 c_p3 swaps_p4 w R) : CALL PR F_slices_medianOrdered_uint64 [data_p0, a_p1, b_p2, c_p3, swaps_p4] w R :=
  call_of_den2 ann_slices_medianOrdered_uint64 Tryz.func165 (by kernel_rfl) (by kernel_rfl) (by kernel_rfl) ((E_slices_medianOrdered_uint64 data_p0 a_p1 b_p2 c_p3 swaps_p4 w R) ▸ h)
-- 166 cmp.isNaN[uint64]
def M_cmp_isNaN_uint64 (x_p0 : Value) (w : World) (R : Value → World → Prop) : Prop :=
  BND (binv .int .neq x_p0 x_p0) fun t5_1 =>
  R t5_1 w
def ann_cmp_isNaN_uint64 : List (Nat × List Nat) := []
theorem E_cmp_isNaN_uint64 (x_p0 : Value) (w : World) (R : Value → World → Prop) : M_cmp_isNaN_uint64 x_p0 w R = den PR ann_cmp_isNaN_uint64 (bodyOf Tryz.f166) (retQ PR Tryz.f166.results.toList R) (env0 [x_p0]) w := by kernel_rfl
theorem C_cmp_isNaN_uint64 {x_p0 : Value} {w : World} {R : Value → World → Prop} (h : M_cmp_isNaN_uint64 x_p0 w R) : CALL PR F_cmp_isNaN_uint64 [x_p0] w R :=
  call_of_den2 ann_cmp_isNaN_uint64 Tryz.func166 (by kernel_rfl) (by kernel_rfl) (by kernel_rfl) ((E_cmp_isNaN_uint64 x_p0 w R) ▸ h)
-- 175 tumbrel.sum.Cut
def M_sum_Cut (b_p0 : Value) (w : World) (R : Value → World → Prop) : Prop :=
  BND (lenl b_p0) fun t6_1 =>
  BND (binv .int .sub t6_1 (Value.int .i64 4)) fun t7_2 =>
  BND (binv .int .lss t7_2 (Value.int .i64 0)) fun t9_3 =>
  BND (grd (isB t9_3 false) (some b_p0)) fun t11_4 =>
  BND (grd (isB t9_3 false) (some t7_2)) fun t12_5 =>
  BND (grd (isB t9_3 false) (slicev 1 t11_4 (some t12_5) none)) fun t13_6 =>
  BND (grd (isB t9_3 false) (some b_p0)) fun t14_7 =>
  BND (grd (isB t9_3 false) (some t7_2)) fun t15_8 =>
  BND (grd (isB t9_3 false) (slicev 1 t14_7 none (some t15_8))) fun t16_9 =>
  GEF (isB t9_3 false) (fun k_ => CALL PR F_sum_Of [t16_9] w.drew k_) w.drew fun t17_10 w1 =>
  GEF (isB t9_3 false) (fun k_ => CALL PR F_sum_four [t17_10] w1 k_) w1 fun t18_11 w2 =>
  GEF (isB t9_3 false) (fun k_ => CALL PR F_slices_Equal_byte_byte [t13_6, t18_11] w2 k_) w2 fun t19_12 w3 =>
  BND (grd (isB t9_3 false) (unv .not t19_12)) fun t20_13 =>
  BND (pickv t9_3 (Value.bool true) t20_13) fun t21_14 =>
  COND t21_14
  (R (.tuple #[(Value.slice none 0 0), (Value.bool false)]) w3)
  (BND (slicev 1 b_p0 none (some t7_2)) fun t24_15 =>
  CALL PR F_slices_Clone_byte_byte [t24_15] w3 fun t25_16 w4 =>
  R (.tuple #[t25_16, (Value.bool true)]) w4)
def ann_sum_Cut : List (Nat × List Nat) := [(2, [0, 1, 2, 3, 4, 5, 6, 7, 8, 9, 10, 11, 12, 13])]
theorem E_sum_Cut (b_p0 : Value) (w : World) (R : Value → World → Prop) : M_sum_Cut b_p0 w R = den PR ann_sum_Cut (bodyOf Tryz.f175) (retQ PR Tryz.f175.results.toList R) (env0 [b_p0]) w := by kernel_rfl
theorem C_sum_Cut {b_p0 : Value} {w : World} {R : Value → World → Prop} (h : M_sum_Cut b_p0 w R) : CALL PR F_sum_Cut [b_p0] w R :=
  call_of_den2 ann_sum_Cut Tryz.func175 (by kernel_rfl) (by kernel_rfl) (by kernel_rfl) ((E_sum_Cut b_p0 w R) ▸ h)
-- 179 tumbrel.sum.Table
def M_sum_Table (w : World) (R : Value → World → Prop) : Prop :=
  NEW (newv 242 w (Value.agg (List.replicate 256 (Value.int .u32 0)).toArray)) fun t0_1 w1 =>
  NEW (newv 242 w1 (Value.agg (List.replicate 256 (Value.int .u32 0)).toArray)) fun t_2 w2 =>
  ∃ (J_3 : Value → World → Prop) (m_3 : Value → World → Nat), J_3 (Value.int .i64 0) w2 ∧ ∀ (_d_3 : Env) (t3_5 : Value) (w3 : World), J_3 t3_5 w3 →
  (BND (binv .int .lss t3_5 (Value.int .i64 256)) fun t4_14 =>
  COND t4_14
  (BND (convi .u32 t3_5) fun t8_15 =>
  CALL PR F_sum_entry [t8_15] w3 fun t9_16 w4 =>
  BND (iaddra 256 1 t_2 t3_5) fun t10_17 =>
  BND (storev 1 w4 t10_17 t9_16) fun w5 =>
  BND (binv .int .add t3_5 (Value.int .i64 1)) fun t11_18 =>
  (J_3 t11_18 w5 ∧ m_3 t11_18 w5 < m_3 t3_5 w3))
  (BND (loadn 256 w3 t_2) fun t12_19 =>
  BND (storev 256 w3 t0_1 t12_19) fun w6 =>
  BND (loadn 256 w6 t0_1) fun r_20 =>
  R r_20 w6))
def ann_sum_Table : List (Nat × List Nat) := [(1000003, [3])]
theorem E_sum_Table (w : World) (R : Value → World → Prop) : M_sum_Table w R = den PR ann_sum_Table (bodyOf Tryz.f179) (retQ PR Tryz.f179.results.toList R) (env0 []) w := by kernel_rfl
theorem C_sum_Table {w : World} {R : Value → World → Prop} (h : M_sum_Table w R) : CALL PR F_sum_Table [] w R :=
  call_of_den2 ann_sum_Table Tryz.func179 (by kernel_rfl) (by kernel_rfl) (by kernel_rfl) ((E_sum_Table w R) ▸ h)
-- 183 slices.order2Ordered[uint64]
def M_slices_order2Ordered_uint64 (data_p0 a_p1 b_p2 swaps_p3 : Value) (w : World) (R : Value → World → Prop) : Prop :=
  BND (iaddr 1 data_p0 b_p2) fun t12_1 =>
  BND (iaddr 1 data_p0 a_p1) fun t16_2 =>
  BND (load1 w.drew t12_1) fun t13_3 =>
  BND (load1 w.drew t16_2) fun t17_4 =>
  CALL PR F_cmp_Less_uint64 [t13_3, t17_4] w.drew fun t18_5 w1 =>
  COND t18_5
  (BND (nilchk swaps_p3) fun t20_6 =>
  BND (load1 w1 t20_6) fun t21_7 =>
  BND (binv .int .add t21_7 (Value.int .i64 1)) fun t22_8 =>
  BND (nilchk swaps_p3) fun t23_9 =>
  BND (storev 1 w1 t23_9 t22_8) fun w2 =>
  R (.tuple #[b_p2, a_p1]) w2)
  (R (.tuple #[a_p1, b_p2]) w1)
def ann_slices_order2Ordered_uint64 : List (Nat × List Nat) := [(1, [0, 1, 2, 4, 5, 6, 3, 7, 8])]
theorem E_slices_order2Ordered_uint64 (data_p0 a_p1 b_p2 swaps_p3 : Value) (w : World) (R : Value → World → Prop) : M_slices_order2Ordered_uint64 data_p0 a_p1 b_p2 swaps_p3 w R = den PR ann_slices_order2Ordered_uint64 (bodyOf Tryz.f183) (retQ PR Tryz.f183.results.toList R) (env0 [data_p0, a_p1, b_p2, swaps_p3]) w := by kernel_rfl
theorem C_slices_order2Ordered_uint64 {data_p0 a_p1 b_p2 swaps_p3 : Value} {w : World} {R : Value → World → Prop} (h : M_slices_order2Ordered_uint64 data_p0 a_p1 b_p2 swaps_p3 w R) : CALL PR F_slices_order2Ordered_uint64 [data_p0, a_p1, b_p2, swaps_p3] w R :=
  call_of_den2 ann_slices_order2Ordered_uint64 Tryz.func183 (by kernel_rfl) (by kernel_rfl) (by kernel_rfl) ((E_slices_order2Ordered_uint64 data_p0 a_p1 b_p2 swaps_p3 w R) ▸ h)
-- 187 slices.Equal[[]byte,byte]
def M_slices_Equal_byte_byte (s1_p0 s2_p1 : Value) (w : World) (R : Value → World → Prop) : Prop :=
  BND (lenl s1_p0) fun t7_1 =>
  BND (lenl s2_p1) fun t9_2 =>
  BND (binv .int .neq t7_1 t9_2) fun t10_3 =>
  COND t10_3
  (R (Value.bool false) w)
  (BND (lenl s1_p0) fun t12_4 =>
  ∃ (J_5 : Value → World → Prop) (m_5 : Value → World → Nat), J_5 (Value.int .i64 0) w ∧ ∀ (_d_5 : Env) (t13_8 : Value) (w1 : World), J_5 t13_8 w1 →
  (BND (binv .int .lss t13_8 t12_4) fun t14_21 =>
  COND t14_21
  (BND (iaddr 1 s1_p0 t13_8) fun t18_22 =>
  BND (iaddr 1 s2_p1 t13_8) fun t22_23 =>
  BND (load1 w1.drew t18_22) fun t19_24 =>
  BND (load1 w1.drew t22_23) fun t23_25 =>
  BND (binv .int .neq t19_24 t23_25) fun t24_26 =>
  COND t24_26
  (R (Value.bool false) w1.drew)
  (BND (binv .int .add t13_8 (Value.int .i64 1)) fun t25_27 =>
  (J_5 t25_27 w1.drew ∧ m_5 t25_27 w1.drew < m_5 t13_8 w1)))
  (R (Value.bool true) w1)))
def ann_slices_Equal_byte_byte : List (Nat × List Nat) := [(6, [0, 1, 2, 4, 5, 6, 3, 7, 8]), (1000004, [13])]
theorem E_slices_Equal_byte_byte (s1_p0 s2_p1 : Value) (w : World) (R : Value → World → Prop) : M_slices_Equal_byte_byte s1_p0 s2_p1 w R = den PR ann_slices_Equal_byte_byte (bodyOf Tryz.f187) (retQ PR Tryz.f187.results.toList R) (env0 [s1_p0, s2_p1]) w := by kernel_rfl
theorem C_slices_Equal_byte_byte {s1_p0 s2_p1 : Value} {w : World} {R : Value → World → Prop} (h : M_slices_Equal_byte_byte s1_p0 s2_p1 w R) : CALL PR F_slices_Equal_byte_byte [s1_p0, s2_p1] w R :=
  call_of_den2 ann_slices_Equal_byte_byte Tryz.func187 (by kernel_rfl) (by kernel_rfl) (by kernel_rfl) ((E_slices_Equal_byte_byte s1_p0 s2_p1 w R) ▸ h)
-- 190 tumbrel.sum.entry
def M_sum_entry (n_p0 : Value) (w : World) (R : Value → World → Prop) : Prop :=
  ∃ (J_1 : Value → Value → World → Prop) (m_1 : Value → Value → World → Nat), J_1 n_p0 (Value.int .i64 0) w ∧ ∀ (_d_1 : Env) (n_2 t4_4 : Value) (w1 : World), J_1 n_2 t4_4 w1 →
  (BND (binv .int .lss t4_4 (Value.int .i64 8)) fun t5_15 =>
  COND t5_15
  (BND (binv .int .and n_2 (Value.int .u32 1)) fun t7_16 =>
  BND (shiftv .shr n_2 (Value.int .u64 1)) fun t9_17 =>
  BND (binv .int .eql t7_16 (Value.int .u32 1)) fun t11_18 =>
  JOIN (α := Value → World → Prop) (fun k_23 => COND t11_18
  (BND (binv .int .xor t9_17 (Value.int .u32 2197175160)) fun t13_24 =>
  k_23 t13_24 w1)
  (k_23 t9_17 w1))
  (fun n_19 w2 => BND (binv .int .add t4_4 (Value.int .i64 1)) fun t14_22 =>
  (J_1 n_19 t14_22 w2 ∧ m_1 n_19 t14_22 w2 < m_1 n_2 t4_4 w1)))
  (R n_2 w1))
def ann_sum_entry : List (Nat × List Nat) := [(1000002, [0, 4])]
theorem E_sum_entry (n_p0 : Value) (w : World) (R : Value → World → Prop) : M_sum_entry n_p0 w R = den PR ann_sum_entry (bodyOf Tryz.f190) (retQ PR Tryz.f190.results.toList R) (env0 [n_p0]) w := by kernel_rfl
theorem C_sum_entry {n_p0 : Value} {w : World} {R : Value → World → Prop} (h : M_sum_entry n_p0 w R) : CALL PR F_sum_entry [n_p0] w R :=
  call_of_den2 ann_sum_entry Tryz.func190 (by kernel_rfl) (by kernel_rfl) (by kernel_rfl) ((E_sum_entry n_p0 w R) ▸ h)
end Go.Proofs.YtofllgbdphakiaaGreatDoor
