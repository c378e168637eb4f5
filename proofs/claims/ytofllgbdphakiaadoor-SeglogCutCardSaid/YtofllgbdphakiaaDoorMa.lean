/- Printed by denprint.py: the Go function as a predicate, and that it stands for the call. No condition. -/
import Derived.Test.YtofllgbdphakiaaDoorGf
set_option maxRecDepth 100000
set_option linter.unusedVariables false
namespace Go.Proofs.YtofllgbdphakiaaDoor
open Go.Den
-- 3 tumbrel.tumbrellaw15.SeglogCut
def M_tumbrellaw15_SeglogCut (seg_p0 size_p1 l_p2 cut_p3 r_p4 : Value) (w : World) (R : Value → World → Prop) : Prop :=
  NEW (newv 26 w r_p4) fun r_1 w1 =>
  CALL PR F_tumbrellaw15_awake [] w1 fun t26_2 w2 =>
  BND (unv .not t26_2) fun t27_3 =>
  COND t27_3
  (R (Value.bool false) w2)
  (CALL PR F_tumbrellaw15_full [seg_p0, size_p1, l_p2] w2 fun t32_4 w3 =>
  BND (extractv t32_4 0) fun t33_5 =>
  BND (extractv t32_4 1) fun t34_6 =>
  BND (extractv t32_4 2) fun t35_7 =>
  BND (extractv t32_4 3) fun t36_8 =>
  BND (unv .not t36_8) fun t38_9 =>
  BND (grd (isB t38_9 false) (some cut_p3)) fun t40_10 =>
  BND (grd (isB t38_9 false) (binv .int .lss t40_10 (Value.int .i64 0))) fun t41_11 =>
  BND (pickv t38_9 (Value.bool true) t41_11) fun t42_12 =>
  BND (grd (isB t42_12 false) (some cut_p3)) fun t44_13 =>
  BND (grd (isB t42_12 false) (some t35_7)) fun t45_14 =>
  BND (grd (isB t42_12 false) (lenl t45_14)) fun t46_15 =>
  BND (grd (isB t42_12 false) (binv .int .geq t44_13 t46_15)) fun t47_16 =>
  BND (pickv t42_12 (Value.bool true) t47_16) fun t48_17 =>
  BND (grd (isB t48_17 false) (loadn 3 w3 r_1)) fun t50_18 =>
  GEF (isB t48_17 false) (fun k_ => CALL PR F_tumbrelref05_Large [t50_18] w3 k_) w3 fun t51_19 w4 =>
  BND (pickv t48_17 (Value.bool true) t51_19) fun t52_20 =>
  BND (grd (isB t52_20 false) (loadn 3 w4 r_1)) fun t54_21 =>
  GEF (isB t52_20 false) (fun k_ => CALL PR F_record_Right [t54_21] w4 k_) w4 fun t55_22 w5 =>
  BND (grd (isB t52_20 false) (unv .not t55_22)) fun t56_23 =>
  BND (pickv t52_20 (Value.bool true) t56_23) fun t57_24 =>
  COND t57_24
  (R (Value.bool true) w5)
  (BND (iaddr 5 t35_7 cut_p3) fun t60_25 =>
  BND (loadn 5 w5 t60_25) fun t61_26 =>
  NEW (newv 37 w5 (Value.agg #[(Value.int .i64 0), (Value.slice none 0 0), (Value.string ByteArray.empty), (Value.int .u64 0), (Value.int .u64 0)])) fun x_27 w6 =>
  BND (storev 5 w6 x_27 t61_26) fun w7 =>
  BND (slicev 5 t35_7 (some cut_p3) none) fun t64_28 =>
  BND (lenl t64_28) fun t65_29 =>
  ∃ (J_30 : Value → World → Prop) (m_30 : Value → World → Nat), J_30 (Value.int .i64 0) w7 ∧ ∀ (_d_30 : Env) (t66_33 : Value) (w8 : World), J_30 t66_33 w8 →
  (BND (binv .int .lss t66_33 t65_29) fun t67_43 =>
  COND t67_43
  (BND (iaddr 5 t64_28 t66_33) fun t68_44 =>
  BND (loadn 5 w8 t68_44) fun t69_45 =>
  NEW (newv 37 w8 (Value.agg #[(Value.int .i64 0), (Value.slice none 0 0), (Value.string ByteArray.empty), (Value.int .u64 0), (Value.int .u64 0)])) fun y_46 w9 =>
  BND (storev 5 w9 y_46 t69_45) fun w10 =>
  BND (faddr 3 y_46) fun t70_47 =>
  BND (load1 w10 t70_47) fun t71_48 =>
  BND (faddr 3 x_27) fun t72_49 =>
  BND (load1 w10 t72_49) fun t73_50 =>
  BND (binv .int .neq t71_48 t73_50) fun t74_51 =>
  COND t74_51
  (R (Value.bool true) w10)
  (BND (binv .int .add t66_33 (Value.int .i64 1)) fun t75_52 =>
  (J_30 t75_52 w10 ∧ m_30 t75_52 w10 < m_30 t66_33 w8)))
  (BND (faddr 3 x_27) fun t78_53 =>
  BND (load1 w8 t78_53) fun t79_54 =>
  BND (faddr 4 x_27) fun t80_55 =>
  BND (load1 w8 t80_55) fun t81_56 =>
  CALL PR F_seglog_Open [t33_5, t79_54, t81_56, size_p1] w8 fun t83_57 w11 =>
  BND (extractv t83_57 0) fun t84_58 =>
  BND (extractv t83_57 1) fun t85_59 =>
  BND (binv .ptr .eql t84_58 (Value.pointer none)) fun t87_60 =>
  BND (grd (isB t87_60 false) (some t85_59)) fun t89_61 =>
  BND (grd (isB t87_60 false) (binv .int .neq t89_61 (Value.int .i64 0))) fun t90_62 =>
  BND (pickv t87_60 (Value.bool true) t90_62) fun t91_63 =>
  BND (grd (isB t91_63 false) (some t84_58)) fun t93_64 =>
  BND (grd (isB t91_63 false) (some t35_7)) fun t94_65 =>
  BND (grd (isB t91_63 false) (some cut_p3)) fun t95_66 =>
  BND (grd (isB t91_63 false) (slicev 5 t94_65 none (some t95_66))) fun t96_67 =>
  GEF (isB t91_63 false) (fun k_ => CALL PR F_tumbrellaw15_there [t93_64, t96_67] w11 k_) w11 fun t97_68 w12 =>
  BND (grd (isB t91_63 false) (unv .not t97_68)) fun t98_69 =>
  BND (pickv t91_63 (Value.bool true) t98_69) fun t99_70 =>
  COND t99_70
  (R (Value.bool false) w12)
  (BND (faddr 3 x_27) fun t102_71 =>
  BND (load1 w12 t102_71) fun t103_72 =>
  BND (faddr 4 x_27) fun t104_73 =>
  BND (load1 w12 t104_73) fun t105_74 =>
  CALL PR F_seglog_Log_Read [t84_58, t103_72, t105_74] w12 fun t106_75 w13 =>
  BND (extractv t106_75 0) fun t107_76 =>
  BND (extractv t106_75 1) fun t108_77 =>
  BND (extractv t106_75 2) fun t109_78 =>
  NEW (newv 26 w13 (Value.agg #[(Value.int .i64 0), (Value.slice none 0 0), (Value.string ByteArray.empty)])) fun t20_79 w14 =>
  BND (storev 3 w14 t20_79 t107_76) fun w15 =>
  BND (binv .int .neq t109_78 (Value.int .i64 3)) fun t111_80 =>
  COND t111_80
  (R (Value.bool false) w15)
  (BND (loadn 3 w15 r_1) fun t114_81 =>
  CALL PR F_seglog_Log_Append [t84_58, t114_81] w15 fun t115_82 w16 =>
  BND (extractv t115_82 0) fun t116_83 =>
  BND (extractv t115_82 1) fun t117_84 =>
  BND (extractv t115_82 2) fun t118_85 =>
  BND (binv .int .eql t118_85 (Value.int .i64 0)) fun t120_86 =>
  BND (grd (isB t120_86 true) (some t84_58)) fun t122_87 =>
  BND (grd (isB t120_86 true) (some t35_7)) fun t123_88 =>
  BND (grd (isB t120_86 true) (some cut_p3)) fun t124_89 =>
  BND (grd (isB t120_86 true) (some cut_p3)) fun t125_90 =>
  BND (grd (isB t120_86 true) (slicev3 5 t123_88 none t124_89 t125_90)) fun t126_91 =>
  BND (grd (isB t120_86 true) (some t116_83)) fun t128_92 =>
  BND (grd (isB t120_86 true) (some t117_84)) fun t129_93 =>
  BND (grd (isB t120_86 true) (loadn 3 w16.drew r_1)) fun t127_94 =>
  BND (grd (isB t120_86 true) (buildv #[(Value.int .i64 0), (Value.slice none 0 0), (Value.string ByteArray.empty), (Value.int .u64 0), (Value.int .u64 0)] [(0, 3, t127_94), (3, 1, t128_92), (4, 1, t129_93)])) fun t130_95 =>
  GEF (isB t120_86 true) (fun k_ => BND (newslice 37 #[(Value.int .i64 0), (Value.slice none 0 0), (Value.string ByteArray.empty), (Value.int .u64 0), (Value.int .u64 0)] 5 1 [(0, 5, t130_95)] w16.drew) fun p_ => NEW p_ k_) w16.drew fun t131_96 w17 =>
  GEF (isB t120_86 true) (fun k_ => APPEND 37 5 64 (Value.agg #[(Value.int .i64 0), (Value.slice none 0 0), (Value.string ByteArray.empty), (Value.int .u64 0), (Value.int .u64 0)]) t126_91 t131_96 w17 k_) w17 fun t132_97 w18 =>
  GEF (isB t120_86 true) (fun k_ => CALL PR F_tumbrellaw15_there [t122_87, t132_97] w18 k_) w18 fun t133_98 w19 =>
  BND (pickv t120_86 t133_98 (Value.bool false)) fun t134_99 =>
  BND (grd (isB t134_99 true) (some t116_83)) fun t136_100 =>
  BND (grd (isB t134_99 true) (faddr 3 x_27)) fun t137_101 =>
  BND (grd (isB t134_99 true) (load1 w19 t137_101)) fun t138_102 =>
  BND (grd (isB t134_99 true) (binv .int .eql t136_100 t138_102)) fun t139_103 =>
  BND (grd (isB t134_99 true) (some t139_103)) fun t140_104 =>
  BND (grd (isB t140_104 true) (some t117_84)) fun t141_105 =>
  BND (grd (isB t140_104 true) (faddr 4 x_27)) fun t142_106 =>
  BND (grd (isB t140_104 true) (load1 w19 t142_106)) fun t143_107 =>
  BND (grd (isB t140_104 true) (binv .int .eql t141_105 t143_107)) fun t144_108 =>
  BND (grd (isB t134_99 true) (pickv t140_104 t144_108 (Value.bool false))) fun t145_109 =>
  BND (grd (isB t134_99 true) (some t145_109)) fun t146_110 =>
  BND (grd (isB t146_110 false) (some t116_83)) fun t147_111 =>
  BND (grd (isB t146_110 false) (faddr 3 x_27)) fun t148_112 =>
  BND (grd (isB t146_110 false) (load1 w19 t148_112)) fun t149_113 =>
  BND (grd (isB t146_110 false) (binv .int .add t149_113 (Value.int .u64 1))) fun t150_114 =>
  BND (grd (isB t146_110 false) (binv .int .eql t147_111 t150_114)) fun t151_115 =>
  BND (grd (isB t146_110 false) (some t151_115)) fun t152_116 =>
  BND (grd (isB t152_116 true) (some t117_84)) fun t153_117 =>
  BND (grd (isB t152_116 true) (binv .int .eql t153_117 (Value.int .u64 0))) fun t154_118 =>
  BND (grd (isB t146_110 false) (pickv t152_116 t154_118 (Value.bool false))) fun t155_119 =>
  BND (grd (isB t134_99 true) (pickv t146_110 (Value.bool true) t155_119)) fun t156_120 =>
  BND (pickv t134_99 t156_120 (Value.bool false)) fun t157_121 =>
  R t157_121 w19))))))
def ann_tumbrellaw15_SeglogCut : List (Nat × List Nat) := [(20, [0, 1, 2, 3, 4, 5, 6, 7, 9, 10, 8, 11, 12, 13, 14, 15, 16, 17, 18, 19, 20, 21, 22, 23, 24, 25, 26, 27, 28, 29, 30, 31, 32, 33, 34, 35, 36, 37, 38, 39]), (1000008, [66])]
theorem E_tumbrellaw15_SeglogCut (seg_p0 size_p1 l_p2 cut_p3 r_p4 : Value) (w : World) (R : Value → World → Prop) : M_tumbrellaw15_SeglogCut seg_p0 size_p1 l_p2 cut_p3 r_p4 w R = den PR ann_tumbrellaw15_SeglogCut (bodyOf Tryd.f3) (retQ PR Tryd.f3.results.toList R) (env0 [seg_p0, size_p1, l_p2, cut_p3, r_p4]) w := by kernel_rfl
theorem C_tumbrellaw15_SeglogCut {seg_p0 size_p1 l_p2 cut_p3 r_p4 : Value} {w : World} {R : Value → World → Prop} (h : M_tumbrellaw15_SeglogCut seg_p0 size_p1 l_p2 cut_p3 r_p4 w R) : CALL PR F_tumbrellaw15_SeglogCut [seg_p0, size_p1, l_p2, cut_p3, r_p4] w R :=
  call_of_den2 ann_tumbrellaw15_SeglogCut Tryd.func3 (by kernel_rfl) (by kernel_rfl) (by kernel_rfl) ((E_tumbrellaw15_SeglogCut seg_p0 size_p1 l_p2 cut_p3 r_p4 w R) ▸ h)
-- 4 tumbrel.tumbrellaw15.awake
def M_tumbrellaw15_awake (w : World) (R : Value → World → Prop) : Prop :=
  CALL PR F_disk_New [(Value.int .i64 200)] w fun t19_1 w1 =>
  BND (extractv t19_1 0) fun t20_2 =>
  BND (extractv t19_1 1) fun t21_3 =>
  BND (binv .ptr .eql t20_2 (Value.pointer none)) fun t23_4 =>
  COND t23_4
  (R (Value.bool false) w1)
  (CALL PR F_seglog_Begin [t20_2, (Value.int .u64 1), (Value.int .i64 64)] w1 fun t26_5 w2 =>
  BND (extractv t26_5 0) fun t27_6 =>
  BND (extractv t26_5 1) fun t28_7 =>
  BND (binv .ptr .eql t27_6 (Value.pointer none)) fun t30_8 =>
  BND (grd (isB t30_8 false) (some t28_7)) fun t32_9 =>
  BND (grd (isB t30_8 false) (binv .int .neq t32_9 (Value.int .i64 0))) fun t33_10 =>
  BND (pickv t30_8 (Value.bool true) t33_10) fun t34_11 =>
  COND t34_11
  (R (Value.bool false) w2)
  (BND (newslice 22 #[(Value.int .u64 0)] 1 1 [(0, 1, (Value.int .u64 5))] w2) fun p_ => NEW p_ fun t37_12 w3 =>
  BND (buildv #[(Value.int .i64 0), (Value.slice none 0 0), (Value.string ByteArray.empty)] [(0, 1, (Value.int .i64 7)), (1, 1, t37_12)]) fun t38_13 =>
  CALL PR F_seglog_Log_Append [t27_6, t38_13] w3 fun t39_14 w4 =>
  BND (extractv t39_14 0) fun t40_15 =>
  BND (extractv t39_14 1) fun t41_16 =>
  BND (extractv t39_14 2) fun t42_17 =>
  CALL PR F_seglog_Log_Read [t27_6, (Value.int .u64 1), (Value.int .u64 0)] w4 fun t45_18 w5 =>
  BND (extractv t45_18 0) fun t46_19 =>
  BND (extractv t45_18 1) fun t47_20 =>
  BND (extractv t45_18 2) fun t48_21 =>
  NEW (newv 26 w5 (Value.agg #[(Value.int .i64 0), (Value.slice none 0 0), (Value.string ByteArray.empty)])) fun r_22 w6 =>
  BND (storev 3 w6 r_22 t46_19) fun w7 =>
  CALL PR F_seglog_Log_End [t27_6] w7 fun t51_23 w8 =>
  BND (extractv t51_23 0) fun t52_24 =>
  BND (extractv t51_23 1) fun t53_25 =>
  CALL PR F_seglog_Log_Read [t27_6, (Value.int .u64 1), (Value.int .u64 12)] w8 fun t56_26 w9 =>
  BND (extractv t56_26 0) fun t57_27 =>
  BND (extractv t56_26 1) fun t58_28 =>
  BND (extractv t56_26 2) fun t59_29 =>
  NEW (newv 26 w9 (Value.agg #[(Value.int .i64 0), (Value.slice none 0 0), (Value.string ByteArray.empty)])) fun t13_30 w10 =>
  BND (storev 3 w10 t13_30 t57_27) fun w11 =>
  CALL PR F_seglog_Open [t20_2, (Value.int .u64 1), (Value.int .u64 13), (Value.int .i64 64)] w11 fun t62_31 w12 =>
  BND (extractv t62_31 0) fun t63_32 =>
  BND (extractv t62_31 1) fun t64_33 =>
  BND (binv .int .eql t40_15 (Value.int .u64 1)) fun t66_34 =>
  BND (grd (isB t66_34 true) (some t41_16)) fun t68_35 =>
  BND (grd (isB t66_34 true) (binv .int .eql t68_35 (Value.int .u64 0))) fun t69_36 =>
  BND (pickv t66_34 t69_36 (Value.bool false)) fun t70_37 =>
  BND (grd (isB t70_37 true) (some t42_17)) fun t72_38 =>
  BND (grd (isB t70_37 true) (binv .int .eql t72_38 (Value.int .i64 0))) fun t73_39 =>
  BND (pickv t70_37 t73_39 (Value.bool false)) fun t74_40 =>
  BND (grd (isB t74_40 true) (faddr 0 r_22)) fun t76_41 =>
  BND (grd (isB t74_40 true) (load1 w12 t76_41)) fun t77_42 =>
  BND (grd (isB t74_40 true) (binv .int .eql t77_42 (Value.int .i64 7))) fun t78_43 =>
  BND (pickv t74_40 t78_43 (Value.bool false)) fun t79_44 =>
  BND (grd (isB t79_44 true) (some t47_20)) fun t81_45 =>
  BND (grd (isB t79_44 true) (binv .int .eql t81_45 (Value.int .i64 12))) fun t82_46 =>
  BND (pickv t79_44 t82_46 (Value.bool false)) fun t83_47 =>
  BND (grd (isB t83_47 true) (some t48_21)) fun t85_48 =>
  BND (grd (isB t83_47 true) (binv .int .eql t85_48 (Value.int .i64 0))) fun t86_49 =>
  BND (pickv t83_47 t86_49 (Value.bool false)) fun t87_50 =>
  BND (grd (isB t87_50 true) (some t53_25)) fun t89_51 =>
  BND (grd (isB t87_50 true) (binv .int .eql t89_51 (Value.int .u64 12))) fun t90_52 =>
  BND (pickv t87_50 t90_52 (Value.bool false)) fun t91_53 =>
  BND (grd (isB t91_53 true) (some t59_29)) fun t93_54 =>
  BND (grd (isB t91_53 true) (binv .int .eql t93_54 (Value.int .i64 3))) fun t94_55 =>
  BND (pickv t91_53 t94_55 (Value.bool false)) fun t95_56 =>
  BND (grd (isB t95_56 true) (some t27_6)) fun t97_57 =>
  GEF (isB t95_56 true) (fun k_ => CALL PR F_seglog_Log_Sync [t97_57] w12 k_) w12 fun t98_58 w13 =>
  BND (grd (isB t95_56 true) (binv .int .eql t98_58 (Value.int .i64 0))) fun t99_59 =>
  BND (pickv t95_56 t99_59 (Value.bool false)) fun t100_60 =>
  BND (grd (isB t100_60 true) (some t63_32)) fun t102_61 =>
  BND (grd (isB t100_60 true) (binv .ptr .eql t102_61 (Value.pointer none))) fun t103_62 =>
  BND (pickv t100_60 t103_62 (Value.bool false)) fun t104_63 =>
  BND (grd (isB t104_63 true) (some t64_33)) fun t106_64 =>
  BND (grd (isB t104_63 true) (binv .int .eql t106_64 (Value.int .i64 3))) fun t107_65 =>
  BND (pickv t104_63 t107_65 (Value.bool false)) fun t108_66 =>
  R t108_66 w13))
def ann_tumbrellaw15_awake : List (Nat × List Nat) := []
theorem E_tumbrellaw15_awake (w : World) (R : Value → World → Prop) : M_tumbrellaw15_awake w R = den PR ann_tumbrellaw15_awake (bodyOf Tryd.f4) (retQ PR Tryd.f4.results.toList R) (env0 []) w := by kernel_rfl
theorem C_tumbrellaw15_awake {w : World} {R : Value → World → Prop} (h : M_tumbrellaw15_awake w R) : CALL PR F_tumbrellaw15_awake [] w R :=
  call_of_den2 ann_tumbrellaw15_awake Tryd.func4 (by kernel_rfl) (by kernel_rfl) (by kernel_rfl) ((E_tumbrellaw15_awake w R) ▸ h)
-- 5 tumbrel.tumbrellaw15.full
def M_tumbrellaw15_full (seg_p0 size_p1 l_p2 : Value) (w : World) (R : Value → World → Prop) : Prop :=
  CALL PR F_disk_New [(Value.int .i64 131072)] w fun t21_1 w1 =>
  BND (extractv t21_1 0) fun t22_2 =>
  BND (extractv t21_1 1) fun t23_3 =>
  BND (binv .ptr .eql t22_2 (Value.pointer none)) fun t25_4 =>
  BND (grd (isB t25_4 false) (some l_p2)) fun t27_5 =>
  BND (grd (isB t25_4 false) (lenl t27_5)) fun t28_6 =>
  BND (grd (isB t25_4 false) (binv .int .gtr t28_6 (Value.int .i64 50))) fun t29_7 =>
  BND (pickv t25_4 (Value.bool true) t29_7) fun t30_8 =>
  BND (grd (isB t30_8 false) (some seg_p0)) fun t32_9 =>
  BND (grd (isB t30_8 false) (binv .int .gtr t32_9 (Value.int .u64 1000))) fun t33_10 =>
  BND (pickv t30_8 (Value.bool true) t33_10) fun t34_11 =>
  COND t34_11
  (R (.tuple #[(Value.pointer none), (Value.pointer none), (Value.slice none 0 0), (Value.bool false)]) w1)
  (CALL PR F_seglog_Begin [t22_2, seg_p0, size_p1] w1 fun t39_12 w2 =>
  BND (extractv t39_12 0) fun t40_13 =>
  BND (extractv t39_12 1) fun t41_14 =>
  BND (binv .ptr .eql t40_13 (Value.pointer none)) fun t43_15 =>
  BND (grd (isB t43_15 false) (some t41_14)) fun t45_16 =>
  BND (grd (isB t43_15 false) (binv .int .neq t45_16 (Value.int .i64 0))) fun t46_17 =>
  BND (pickv t43_15 (Value.bool true) t46_17) fun t47_18 =>
  COND t47_18
  (R (.tuple #[(Value.pointer none), (Value.pointer none), (Value.slice none 0 0), (Value.bool false)]) w2)
  (BND (lenl l_p2) fun t49_19 =>
  ∃ (J_20 : Value → Value → World → Prop) (m_20 : Value → Value → World → Nat), J_20 (Value.slice none 0 0) (Value.int .i64 0) w2 ∧ ∀ (_d_20 : Env) (out_25 t50_30 : Value) (w3 : World), J_20 out_25 t50_30 w3 →
  (BND (binv .int .lss t50_30 t49_19) fun t51_58 =>
  COND t51_58
  (BND (iaddr 3 l_p2 t50_30) fun t52_59 =>
  BND (loadn 3 w3 t52_59) fun t53_60 =>
  NEW (newv 26 w3 (Value.agg #[(Value.int .i64 0), (Value.slice none 0 0), (Value.string ByteArray.empty)])) fun r_61 w4 =>
  BND (storev 3 w4 r_61 t53_60) fun w5 =>
  BND (loadn 3 w5 r_61) fun t54_62 =>
  CALL PR F_tumbrelref05_Large [t54_62] w5 fun t55_63 w6 =>
  BND (grd (isB t55_63 false) (loadn 3 w6 r_61)) fun t57_64 =>
  GEF (isB t55_63 false) (fun k_ => CALL PR F_record_Right [t57_64] w6 k_) w6 fun t58_65 w7 =>
  BND (grd (isB t55_63 false) (unv .not t58_65)) fun t59_66 =>
  BND (pickv t55_63 (Value.bool true) t59_66) fun t60_67 =>
  COND t60_67
  (R (.tuple #[(Value.pointer none), (Value.pointer none), (Value.slice none 0 0), (Value.bool false)]) w7)
  (BND (loadn 3 w7 r_61) fun t63_68 =>
  CALL PR F_seglog_Log_Append [t40_13, t63_68] w7 fun t64_69 w8 =>
  BND (extractv t64_69 0) fun t65_70 =>
  BND (extractv t64_69 1) fun t66_71 =>
  BND (extractv t64_69 2) fun t67_72 =>
  BND (binv .int .neq t67_72 (Value.int .i64 0)) fun t69_73 =>
  COND t69_73
  (R (.tuple #[(Value.pointer none), (Value.pointer none), (Value.slice none 0 0), (Value.bool false)]) w8)
  (BND (loadn 3 w8 r_61) fun t71_74 =>
  BND (buildv #[(Value.int .i64 0), (Value.slice none 0 0), (Value.string ByteArray.empty), (Value.int .u64 0), (Value.int .u64 0)] [(0, 3, t71_74), (3, 1, t65_70), (4, 1, t66_71)]) fun t74_75 =>
  BND (newslice 37 #[(Value.int .i64 0), (Value.slice none 0 0), (Value.string ByteArray.empty), (Value.int .u64 0), (Value.int .u64 0)] 5 1 [(0, 5, t74_75)] w8) fun p_ => NEW p_ fun t75_76 w9 =>
  APPEND 37 5 64 (Value.agg #[(Value.int .i64 0), (Value.slice none 0 0), (Value.string ByteArray.empty), (Value.int .u64 0), (Value.int .u64 0)]) out_25 t75_76 w9 fun t76_77 w10 =>
  BND (binv .int .add t50_30 (Value.int .i64 1)) fun t77_78 =>
  (J_20 t76_77 t77_78 w10 ∧ m_20 t76_77 t77_78 w10 < m_20 out_25 t50_30 w3))))
  (R (.tuple #[t22_2, t40_13, out_25, (Value.bool true)]) w3))))
def ann_tumbrellaw15_full : List (Nat × List Nat) := [(1000009, [14, 50])]
theorem E_tumbrellaw15_full (seg_p0 size_p1 l_p2 : Value) (w : World) (R : Value → World → Prop) : M_tumbrellaw15_full seg_p0 size_p1 l_p2 w R = den PR ann_tumbrellaw15_full (bodyOf Tryd.f5) (retQ PR Tryd.f5.results.toList R) (env0 [seg_p0, size_p1, l_p2]) w := by kernel_rfl
theorem C_tumbrellaw15_full {seg_p0 size_p1 l_p2 : Value} {w : World} {R : Value → World → Prop} (h : M_tumbrellaw15_full seg_p0 size_p1 l_p2 w R) : CALL PR F_tumbrellaw15_full [seg_p0, size_p1, l_p2] w R :=
  call_of_den2 ann_tumbrellaw15_full Tryd.func5 (by kernel_rfl) (by kernel_rfl) (by kernel_rfl) ((E_tumbrellaw15_full seg_p0 size_p1 l_p2 w R) ▸ h)
-- 6 tumbrel.tumbrelref05.Large
def M_tumbrelref05_Large (r_p0 : Value) (w : World) (R : Value → World → Prop) : Prop :=
  NEW (newv 34 w r_p0) fun r_1 w1 =>
  BND (faddr 1 r_1) fun t3_2 =>
  BND (load1 w1 t3_2) fun t4_3 =>
  BND (lenl t4_3) fun t5_4 =>
  BND (binv .int .gtr t5_4 (Value.int .i64 100)) fun t6_5 =>
  BND (grd (isB t6_5 false) (faddr 2 r_1)) fun t8_6 =>
  BND (grd (isB t6_5 false) (load1 w1 t8_6)) fun t9_7 =>
  BND (grd (isB t6_5 false) (lens t9_7)) fun t10_8 =>
  BND (grd (isB t6_5 false) (binv .int .gtr t10_8 (Value.int .i64 300))) fun t11_9 =>
  BND (pickv t6_5 (Value.bool true) t11_9) fun t12_10 =>
  R t12_10 w1
def ann_tumbrelref05_Large : List (Nat × List Nat) := []
theorem E_tumbrelref05_Large (r_p0 : Value) (w : World) (R : Value → World → Prop) : M_tumbrelref05_Large r_p0 w R = den PR ann_tumbrelref05_Large (bodyOf Tryd.f6) (retQ PR Tryd.f6.results.toList R) (env0 [r_p0]) w := by kernel_rfl
theorem C_tumbrelref05_Large {r_p0 : Value} {w : World} {R : Value → World → Prop} (h : M_tumbrelref05_Large r_p0 w R) : CALL PR F_tumbrelref05_Large [r_p0] w R :=
  call_of_den2 ann_tumbrelref05_Large Tryd.func6 (by kernel_rfl) (by kernel_rfl) (by kernel_rfl) ((E_tumbrelref05_Large r_p0 w R) ▸ h)
-- 7 tumbrel.record.Right
def M_record_Right (r_p0 : Value) (w : World) (R : Value → World → Prop) : Prop :=
  NEW (newv 26 w r_p0) fun r_1 w1 =>
  ∃ S_2 : Nat → World → Prop,
  S_2 5 w1.drew ∧
  S_2 9 w1.drew ∧
  BND (faddr 0 r_1) fun t3_3 =>
  BND (load1 w1.drew t3_3) fun t4_4 =>
  CALL PR F_record_known [t4_4] w1.drew fun t5_5 w2 =>
  S_2 5 w2 ∧
  S_2 9 w2 ∧
  BND (grd (isB t5_5 true) (faddr 1 r_1)) fun t7_6 =>
  FLT (S_2 5) (fun w_ => (grd (isB t5_5 true) (load1 w_ t7_6))) fun t8_7 =>
  BND (grd (isB t5_5 true) (lenl t8_7)) fun t9_8 =>
  BND (grd (isB t5_5 true) (faddr 0 r_1)) fun t11_9 =>
  FLT (S_2 9) (fun w_ => (grd (isB t5_5 true) (load1 w_ t11_9))) fun t12_10 =>
  GEF (isB t5_5 true) (fun k_ => CALL PR F_record_numbers [] w2 k_) w2 fun t10_11 w3 =>
  S_2 5 w3 ∧
  S_2 9 w3 ∧
  BND (grd (isB t5_5 true) (indexav false 18 1 t10_11 t12_10)) fun t13_12 =>
  BND (grd (isB t5_5 true) (binv .int .eql t9_8 t13_12)) fun t14_13 =>
  BND (pickv t5_5 t14_13 (Value.bool false)) fun t15_14 =>
  BND (grd (isB t15_14 true) (faddr 0 r_1)) fun t17_15 =>
  BND (grd (isB t15_14 true) (faddr 2 r_1)) fun t19_16 =>
  BND (grd (isB t15_14 true) (load1 w3 t17_15)) fun t18_17 =>
  BND (grd (isB t15_14 true) (load1 w3 t19_16)) fun t20_18 =>
  BND (grd (isB t15_14 true) (lens t20_18)) fun t21_19 =>
  GEF (isB t15_14 true) (fun k_ => CALL PR F_record_fits [t18_17, t21_19] w3 k_) w3 fun t22_20 w4 =>
  BND (pickv t15_14 t22_20 (Value.bool false)) fun t23_21 =>
  R t23_21 w4
def ann_record_Right : List (Nat × List Nat) := [(1, [0, 1, 2, 3, 4, 5, 6, 8, 9, 7, 10, 11, 12, 13, 14, 16, 15, 17, 18, 19, 20, 21]), (2000001, [5, 9]), (3001002, [5, 9]), (3001007, [5, 9])]
theorem E_record_Right (r_p0 : Value) (w : World) (R : Value → World → Prop) : M_record_Right r_p0 w R = den PR ann_record_Right (bodyOf Tryd.f7) (retQ PR Tryd.f7.results.toList R) (env0 [r_p0]) w := by kernel_rfl
theorem C_record_Right {r_p0 : Value} {w : World} {R : Value → World → Prop} (h : M_record_Right r_p0 w R) : CALL PR F_record_Right [r_p0] w R :=
  call_of_den2 ann_record_Right Tryd.func7 (by kernel_rfl) (by kernel_rfl) (by kernel_rfl) ((E_record_Right r_p0 w R) ▸ h)
-- 8 tumbrel.seglog.Open
def M_seglog_Open (d_p0 seg_p1 at_p2 most_p3 : Value) (w : World) (R : Value → World → Prop) : Prop :=
  CALL PR F_seglog_made [d_p0, seg_p1, most_p3] w fun t19_1 w1 =>
  BND (extractv t19_1 0) fun t20_2 =>
  BND (extractv t19_1 1) fun t21_3 =>
  BND (extractv t19_1 2) fun t22_4 =>
  BND (binv .int .neq t22_4 (Value.int .i64 0)) fun t24_5 =>
  COND t24_5
  (R (.tuple #[(Value.pointer none), t22_4]) w1)
  (BND (nilchk t20_2) fun t28_6 =>
  BND (faddr 0 t28_6) fun t29_7 =>
  BND (load1 w1 t29_7) fun t30_8 =>
  CALL PR F_disk_Disk_Read [t30_8, t21_3] w1 fun t32_9 w2 =>
  BND (extractv t32_9 0) fun t33_10 =>
  BND (extractv t32_9 1) fun t34_11 =>
  BND (binv .int .neq t34_11 (Value.int .i64 0)) fun t37_12 =>
  COND t37_12
  (R (.tuple #[(Value.pointer none), t34_11]) w2)
  (BND (lenl t33_10) fun t41_13 =>
  BND (convi .u64 t41_13) fun t42_14 =>
  BND (binv .int .lss t42_14 at_p2) fun t44_15 =>
  COND t44_15
  (R (.tuple #[(Value.pointer none), (Value.int .i64 3)]) w2)
  (BND (lenl t33_10) fun t47_16 =>
  BND (convi .u64 t47_16) fun t48_17 =>
  BND (binv .int .gtr t48_17 at_p2) fun t50_18 =>
  JOIN (α := World → Prop) (fun k_38 => COND t50_18
  (BND (nilchk t20_2) fun t52_39 =>
  BND (faddr 0 t52_39) fun t53_40 =>
  BND (load1 w2 t53_40) fun t54_41 =>
  BND (convi .i64 at_p2) fun t57_42 =>
  CALL PR F_disk_Disk_Cut [t54_41, t21_3, t57_42] w2 fun t58_43 w6 =>
  BND (binv .int .neq t58_43 (Value.int .i64 0)) fun t60_44 =>
  COND t60_44
  (R (.tuple #[(Value.pointer none), t58_43]) w6)
  (k_38 w6))
  (k_38 w2))
  (fun w3 => BND (binv .int .add seg_p1 (Value.int .u64 1)) fun t66_33 =>
  BND (nilchk t20_2) fun t67_34 =>
  BND (faddr 2 t67_34) fun t68_35 =>
  BND (storev 1 w3 t68_35 at_p2) fun w4 =>
  BND (nilchk t20_2) fun t69_36 =>
  BND (faddr 4 t69_36) fun t70_37 =>
  BND (storev 1 w4 t70_37 t66_33) fun w5 =>
  R (.tuple #[t20_2, (Value.int .i64 0)]) w5))))
def ann_seglog_Open : List (Nat × List Nat) := []
theorem E_seglog_Open (d_p0 seg_p1 at_p2 most_p3 : Value) (w : World) (R : Value → World → Prop) : M_seglog_Open d_p0 seg_p1 at_p2 most_p3 w R = den PR ann_seglog_Open (bodyOf Tryd.f8) (retQ PR Tryd.f8.results.toList R) (env0 [d_p0, seg_p1, at_p2, most_p3]) w := by kernel_rfl
theorem C_seglog_Open {d_p0 seg_p1 at_p2 most_p3 : Value} {w : World} {R : Value → World → Prop} (h : M_seglog_Open d_p0 seg_p1 at_p2 most_p3 w R) : CALL PR F_seglog_Open [d_p0, seg_p1, at_p2, most_p3] w R :=
  call_of_den2 ann_seglog_Open Tryd.func8 (by kernel_rfl) (by kernel_rfl) (by kernel_rfl) ((E_seglog_Open d_p0 seg_p1 at_p2 most_p3 w R) ▸ h)
-- 9 tumbrel.tumbrellaw15.there
def M_tumbrellaw15_there (l_p0 p_p1 : Value) (w : World) (R : Value → World → Prop) : Prop :=
  BND (lenl p_p1) fun t13_1 =>
  ∃ (J_2 : Value → World → Prop) (m_2 : Value → World → Nat), J_2 (Value.int .i64 0) w ∧ ∀ (_d_2 : Env) (t14_10 : Value) (w1 : World), J_2 t14_10 w1 →
  (BND (binv .int .lss t14_10 t13_1) fun t15_46 =>
  COND t15_46
  (BND (iaddr 5 p_p1 t14_10) fun t16_47 =>
  BND (loadn 5 w1 t16_47) fun t17_48 =>
  NEW (newv 37 w1 (Value.agg #[(Value.int .i64 0), (Value.slice none 0 0), (Value.string ByteArray.empty), (Value.int .u64 0), (Value.int .u64 0)])) fun x_49 w2 =>
  BND (storev 5 w2 x_49 t17_48) fun w3 =>
  BND (faddr 3 x_49) fun t20_50 =>
  BND (load1 w3 t20_50) fun t21_51 =>
  BND (faddr 4 x_49) fun t22_52 =>
  BND (load1 w3 t22_52) fun t23_53 =>
  CALL PR F_seglog_Log_Read [l_p0, t21_51, t23_53] w3 fun t24_54 w4 =>
  BND (extractv t24_54 0) fun t25_55 =>
  BND (extractv t24_54 1) fun t26_56 =>
  BND (extractv t24_54 2) fun t27_57 =>
  NEW (newv 26 w4 (Value.agg #[(Value.int .i64 0), (Value.slice none 0 0), (Value.string ByteArray.empty)])) fun r_58 w5 =>
  BND (storev 3 w5 r_58 t25_55) fun w6 =>
  BND (faddr 0 x_49) fun t29_59 =>
  BND (loadn 3 w6 t29_59) fun t30_60 =>
  CALL PR F_record_Bytes [t30_60] w6 fun t31_61 w7 =>
  BND (extractv t31_61 0) fun t32_62 =>
  BND (extractv t31_61 1) fun t33_63 =>
  BND (binv .int .neq t27_57 (Value.int .i64 0)) fun t35_64 =>
  BND (grd (isB t35_64 false) (some t26_56)) fun t37_65 =>
  BND (grd (isB t35_64 false) (some t32_62)) fun t38_66 =>
  BND (grd (isB t35_64 false) (lenl t38_66)) fun t39_67 =>
  BND (grd (isB t35_64 false) (binv .int .neq t37_65 t39_67)) fun t40_68 =>
  BND (pickv t35_64 (Value.bool true) t40_68) fun t41_69 =>
  BND (grd (isB t41_69 false) (loadn 3 w7 r_58)) fun t43_70 =>
  BND (grd (isB t41_69 false) (faddr 0 x_49)) fun t44_71 =>
  BND (grd (isB t41_69 false) (loadn 3 w7 t44_71)) fun t45_72 =>
  GEF (isB t41_69 false) (fun k_ => CALL PR F_record_Same [t43_70, t45_72] w7 k_) w7 fun t46_73 w8 =>
  BND (grd (isB t41_69 false) (unv .not t46_73)) fun t47_74 =>
  BND (pickv t41_69 (Value.bool true) t47_74) fun t48_75 =>
  COND t48_75
  (R (Value.bool false) w8)
  (BND (binv .int .add t14_10 (Value.int .i64 1)) fun t49_76 =>
  (J_2 t49_76 w8 ∧ m_2 t49_76 w8 < m_2 t14_10 w1)))
  (R (Value.bool true) w1))
def ann_tumbrellaw15_there : List (Nat × List Nat) := [(1000002, [14])]
theorem E_tumbrellaw15_there (l_p0 p_p1 : Value) (w : World) (R : Value → World → Prop) : M_tumbrellaw15_there l_p0 p_p1 w R = den PR ann_tumbrellaw15_there (bodyOf Tryd.f9) (retQ PR Tryd.f9.results.toList R) (env0 [l_p0, p_p1]) w := by kernel_rfl
theorem C_tumbrellaw15_there {l_p0 p_p1 : Value} {w : World} {R : Value → World → Prop} (h : M_tumbrellaw15_there l_p0 p_p1 w R) : CALL PR F_tumbrellaw15_there [l_p0, p_p1] w R :=
  call_of_den2 ann_tumbrellaw15_there Tryd.func9 (by kernel_rfl) (by kernel_rfl) (by kernel_rfl) ((E_tumbrellaw15_there l_p0 p_p1 w R) ▸ h)
-- 10 (*tumbrel.seglog.Log).Read
def M_seglog_Log_Read (l_p0 seg_p1 at_p2 : Value) (w : World) (R : Value → World → Prop) : Prop :=
  NEW (newv 26 w (Value.agg #[(Value.int .i64 0), (Value.slice none 0 0), (Value.string ByteArray.empty)])) fun t6_1 w1 =>
  BND (nilchk l_p0) fun t10_2 =>
  BND (faddr 0 t10_2) fun t11_3 =>
  BND (load1 w1 t11_3) fun t12_4 =>
  CALL PR F_seglog_At [t12_4, seg_p1, at_p2] w1 fun t15_5 w2 =>
  BND (extractv t15_5 0) fun t16_6 =>
  BND (extractv t15_5 1) fun t17_7 =>
  BND (extractv t15_5 2) fun t18_8 =>
  BND (storev 3 w2 t6_1 t16_6) fun w3 =>
  BND (loadn 3 w3 t6_1) fun r_9 =>
  R (.tuple #[r_9, t17_7, t18_8]) w3
def ann_seglog_Log_Read : List (Nat × List Nat) := []
theorem E_seglog_Log_Read (l_p0 seg_p1 at_p2 : Value) (w : World) (R : Value → World → Prop) : M_seglog_Log_Read l_p0 seg_p1 at_p2 w R = den PR ann_seglog_Log_Read (bodyOf Tryd.f10) (retQ PR Tryd.f10.results.toList R) (env0 [l_p0, seg_p1, at_p2]) w := by kernel_rfl
theorem C_seglog_Log_Read {l_p0 seg_p1 at_p2 : Value} {w : World} {R : Value → World → Prop} (h : M_seglog_Log_Read l_p0 seg_p1 at_p2 w R) : CALL PR F_seglog_Log_Read [l_p0, seg_p1, at_p2] w R :=
  call_of_den2 ann_seglog_Log_Read Tryd.func10 (by kernel_rfl) (by kernel_rfl) (by kernel_rfl) ((E_seglog_Log_Read l_p0 seg_p1 at_p2 w R) ▸ h)
-- 11 (*tumbrel.seglog.Log).Append
def M_seglog_Log_Append (l_p0 r_p1 : Value) (w : World) (R : Value → World → Prop) : Prop :=
  NEW (newv 26 w r_p1) fun r_1 w1 =>
  BND (loadn 3 w1 r_1) fun t15_2 =>
  CALL PR F_record_Bytes [t15_2] w1 fun t16_3 w2 =>
  BND (extractv t16_3 0) fun t17_4 =>
  BND (extractv t16_3 1) fun t18_5 =>
  BND (binv .int .neq t18_5 (Value.int .i64 0)) fun t20_6 =>
  COND t20_6
  (R (.tuple #[(Value.int .u64 0), (Value.int .u64 0), t18_5]) w2)
  (BND (nilchk l_p0) fun t23_7 =>
  BND (faddr 2 t23_7) fun t24_8 =>
  BND (load1 w2.drew t24_8) fun t25_9 =>
  BND (binv .int .gtr t25_9 (Value.int .u64 0)) fun t26_10 =>
  BND (grd (isB t26_10 true) (some l_p0)) fun t28_11 =>
  BND (grd (isB t26_10 true) (nilchk t28_11)) fun t29_12 =>
  BND (grd (isB t26_10 true) (faddr 2 t29_12)) fun t30_13 =>
  BND (grd (isB t26_10 true) (some t17_4)) fun t32_14 =>
  BND (grd (isB t26_10 true) (lenl t32_14)) fun t33_15 =>
  BND (grd (isB t26_10 true) (convi .u64 t33_15)) fun t34_16 =>
  BND (grd (isB t26_10 true) (some l_p0)) fun t36_17 =>
  BND (grd (isB t26_10 true) (nilchk t36_17)) fun t37_18 =>
  BND (grd (isB t26_10 true) (faddr 3 t37_18)) fun t38_19 =>
  BND (grd (isB t26_10 true) (load1 w2.drew t30_13)) fun t31_20 =>
  BND (grd (isB t26_10 true) (binv .int .add t31_20 t34_16)) fun t35_21 =>
  BND (grd (isB t26_10 true) (load1 w2.drew t38_19)) fun t39_22 =>
  BND (grd (isB t26_10 true) (convi .u64 t39_22)) fun t40_23 =>
  BND (grd (isB t26_10 true) (binv .int .gtr t35_21 t40_23)) fun t41_24 =>
  BND (pickv t26_10 t41_24 (Value.bool false)) fun t42_25 =>
  JOIN (α := World → Prop) (fun k_69 => COND t42_25
  (CALL PR F_seglog_Log_turn [l_p0] w2.drew fun t44_70 w8 =>
  BND (binv .int .neq t44_70 (Value.int .i64 0)) fun t46_71 =>
  COND t46_71
  (R (.tuple #[(Value.int .u64 0), (Value.int .u64 0), t44_70]) w8)
  (k_69 w8))
  (k_69 w2.drew))
  (fun w3 => BND (nilchk l_p0) fun t50_35 =>
  BND (faddr 1 t50_35) fun t51_36 =>
  BND (load1 w3 t51_36) fun t52_37 =>
  CALL PR F_name_Of [(Value.int .u8 109), t52_37] w3 fun t53_38 w4 =>
  BND (extractv t53_38 0) fun t54_39 =>
  BND (extractv t53_38 1) fun t55_40 =>
  BND (nilchk l_p0) fun t57_41 =>
  BND (faddr 0 t57_41) fun t58_42 =>
  BND (load1 w4 t58_42) fun t59_43 =>
  CALL PR F_disk_Disk_Append [t59_43, t54_39, t17_4] w4 fun t62_44 w5 =>
  BND (binv .int .neq t62_44 (Value.int .i64 0)) fun t64_45 =>
  COND t64_45
  (R (.tuple #[(Value.int .u64 0), (Value.int .u64 0), t62_44]) w5)
  (BND (nilchk l_p0) fun t67_46 =>
  BND (faddr 2 t67_46) fun t68_47 =>
  BND (load1 w5 t68_47) fun t69_48 =>
  BND (nilchk l_p0) fun t71_49 =>
  BND (faddr 2 t71_49) fun t72_50 =>
  BND (load1 w5 t72_50) fun t73_51 =>
  BND (lenl t17_4) fun t75_52 =>
  BND (convi .u64 t75_52) fun t76_53 =>
  BND (binv .int .add t73_51 t76_53) fun t77_54 =>
  BND (nilchk l_p0) fun t78_55 =>
  BND (faddr 2 t78_55) fun t79_56 =>
  BND (storev 1 w5 t79_56 t77_54) fun w6 =>
  BND (nilchk l_p0) fun t82_57 =>
  BND (faddr 4 t82_57) fun t83_58 =>
  BND (nilchk l_p0) fun t86_59 =>
  BND (faddr 1 t86_59) fun t87_60 =>
  BND (load1 w6.drew t83_58) fun t84_61 =>
  BND (load1 w6.drew t87_60) fun t88_62 =>
  BND (min2v t84_61 t88_62) fun t89_63 =>
  BND (nilchk l_p0) fun t90_64 =>
  BND (faddr 4 t90_64) fun t91_65 =>
  BND (storev 1 w6.drew t91_65 t89_63) fun w7 =>
  BND (nilchk l_p0) fun t93_66 =>
  BND (faddr 1 t93_66) fun t94_67 =>
  BND (load1 w7 t94_67) fun t95_68 =>
  R (.tuple #[t95_68, t69_48, (Value.int .i64 0)]) w7)))
def ann_seglog_Log_Append : List (Nat × List Nat) := [(4, [0, 1, 2, 3, 4, 5, 6, 7, 8, 10, 11, 12, 14, 15, 16, 9, 13, 17, 18, 19, 20]), (14, [0, 1, 2, 3, 5, 6, 7, 4, 8, 9, 10, 11, 12])]
theorem E_seglog_Log_Append (l_p0 r_p1 : Value) (w : World) (R : Value → World → Prop) : M_seglog_Log_Append l_p0 r_p1 w R = den PR ann_seglog_Log_Append (bodyOf Tryd.f11) (retQ PR Tryd.f11.results.toList R) (env0 [l_p0, r_p1]) w := by kernel_rfl
theorem C_seglog_Log_Append {l_p0 r_p1 : Value} {w : World} {R : Value → World → Prop} (h : M_seglog_Log_Append l_p0 r_p1 w R) : CALL PR F_seglog_Log_Append [l_p0, r_p1] w R :=
  call_of_den2 ann_seglog_Log_Append Tryd.func11 (by kernel_rfl) (by kernel_rfl) (by kernel_rfl) ((E_seglog_Log_Append l_p0 r_p1 w R) ▸ h)
-- 12 tumbrel.disk.New
def M_disk_New (room_p0 : Value) (w : World) (R : Value → World → Prop) : Prop :=
  BND (binv .int .lss room_p0 (Value.int .i64 16)) fun t5_1 =>
  BND (grd (isB t5_1 false) (some room_p0)) fun t7_2 =>
  BND (grd (isB t5_1 false) (binv .int .gtr t7_2 (Value.int .i64 1048576))) fun t8_3 =>
  BND (pickv t5_1 (Value.bool true) t8_3) fun t9_4 =>
  COND t9_4
  (R (.tuple #[(Value.pointer none), (Value.int .i64 1)]) w)
  (NEW (newmap w) fun t11_5 w1 =>
  BND (buildv #[(Value.int .i64 0), (Value.map none), (Value.slice none 0 0), (Value.int .i64 0), (Value.bool false)] [(0, 1, room_p0), (1, 1, t11_5), (3, 1, (Value.int .i64 (-1)))]) fun t12_6 =>
  NEW (newv 75 w1 t12_6) fun t13_7 w2 =>
  R (.tuple #[t13_7, (Value.int .i64 0)]) w2)
def ann_disk_New : List (Nat × List Nat) := []
theorem E_disk_New (room_p0 : Value) (w : World) (R : Value → World → Prop) : M_disk_New room_p0 w R = den PR ann_disk_New (bodyOf Tryd.f12) (retQ PR Tryd.f12.results.toList R) (env0 [room_p0]) w := by kernel_rfl
theorem C_disk_New {room_p0 : Value} {w : World} {R : Value → World → Prop} (h : M_disk_New room_p0 w R) : CALL PR F_disk_New [room_p0] w R :=
  call_of_den2 ann_disk_New Tryd.func12 (by kernel_rfl) (by kernel_rfl) (by kernel_rfl) ((E_disk_New room_p0 w R) ▸ h)
-- 13 tumbrel.seglog.Begin
def M_seglog_Begin (d_p0 seg_p1 most_p2 : Value) (w : World) (R : Value → World → Prop) : Prop :=
  CALL PR F_seglog_made [d_p0, seg_p1, most_p2] w fun t16_1 w1 =>
  BND (extractv t16_1 0) fun t17_2 =>
  BND (extractv t16_1 1) fun t18_3 =>
  BND (extractv t16_1 2) fun t19_4 =>
  BND (binv .int .neq t19_4 (Value.int .i64 0)) fun t21_5 =>
  COND t21_5
  (R (.tuple #[(Value.pointer none), t19_4]) w1)
  (BND (nilchk t17_2) fun t24_6 =>
  BND (faddr 0 t24_6) fun t25_7 =>
  BND (load1 w1 t25_7) fun t26_8 =>
  CALL PR F_disk_Disk_Create [t26_8, t18_3] w1 fun t28_9 w2 =>
  BND (binv .int .neq t28_9 (Value.int .i64 0)) fun t30_10 =>
  COND t30_10
  (R (.tuple #[(Value.pointer none), t28_9]) w2)
  (BND (nilchk t17_2) fun t33_11 =>
  BND (faddr 5 t33_11) fun t34_12 =>
  BND (storev 1 w2 t34_12 (Value.bool true)) fun w3 =>
  R (.tuple #[t17_2, (Value.int .i64 0)]) w3))
def ann_seglog_Begin : List (Nat × List Nat) := []
theorem E_seglog_Begin (d_p0 seg_p1 most_p2 : Value) (w : World) (R : Value → World → Prop) : M_seglog_Begin d_p0 seg_p1 most_p2 w R = den PR ann_seglog_Begin (bodyOf Tryd.f13) (retQ PR Tryd.f13.results.toList R) (env0 [d_p0, seg_p1, most_p2]) w := by kernel_rfl
theorem C_seglog_Begin {d_p0 seg_p1 most_p2 : Value} {w : World} {R : Value → World → Prop} (h : M_seglog_Begin d_p0 seg_p1 most_p2 w R) : CALL PR F_seglog_Begin [d_p0, seg_p1, most_p2] w R :=
  call_of_den2 ann_seglog_Begin Tryd.func13 (by kernel_rfl) (by kernel_rfl) (by kernel_rfl) ((E_seglog_Begin d_p0 seg_p1 most_p2 w R) ▸ h)
-- 14 (*tumbrel.seglog.Log).End
def M_seglog_Log_End (l_p0 : Value) (w : World) (R : Value → World → Prop) : Prop :=
  BND (nilchk l_p0) fun t5_1 =>
  BND (faddr 1 t5_1) fun t6_2 =>
  BND (nilchk l_p0) fun t9_3 =>
  BND (faddr 2 t9_3) fun t10_4 =>
  BND (load1 w.drew t6_2) fun t7_5 =>
  BND (load1 w.drew t10_4) fun t11_6 =>
  R (.tuple #[t7_5, t11_6]) w.drew
def ann_seglog_Log_End : List (Nat × List Nat) := [(1, [0, 1, 2, 4, 5, 6, 3, 8, 7, 9])]
theorem E_seglog_Log_End (l_p0 : Value) (w : World) (R : Value → World → Prop) : M_seglog_Log_End l_p0 w R = den PR ann_seglog_Log_End (bodyOf Tryd.f14) (retQ PR Tryd.f14.results.toList R) (env0 [l_p0]) w := by kernel_rfl
theorem C_seglog_Log_End {l_p0 : Value} {w : World} {R : Value → World → Prop} (h : M_seglog_Log_End l_p0 w R) : CALL PR F_seglog_Log_End [l_p0] w R :=
  call_of_den2 ann_seglog_Log_End Tryd.func14 (by kernel_rfl) (by kernel_rfl) (by kernel_rfl) ((E_seglog_Log_End l_p0 w R) ▸ h)
-- 15 (*tumbrel.seglog.Log).Sync
def M_seglog_Log_Sync (l_p0 : Value) (w : World) (R : Value → World → Prop) : Prop :=
  BND (nilchk l_p0) fun t9_1 =>
  BND (faddr 1 t9_1) fun t10_2 =>
  BND (nilchk l_p0) fun t14_3 =>
  BND (faddr 4 t14_3) fun t15_4 =>
  BND (nilchk l_p0) fun t18_5 =>
  BND (faddr 1 t18_5) fun t19_6 =>
  BND (load1 w.drew t10_2) fun t11_7 =>
  BND (binv .int .add t11_7 (Value.int .u64 1)) fun t12_8 =>
  BND (load1 w.drew t15_4) fun t16_9 =>
  BND (load1 w.drew t19_6) fun t20_10 =>
  BND (binv .int .add t20_10 (Value.int .u64 1)) fun t21_11 =>
  BND (min2v t16_9 t21_11) fun t22_12 =>
  BND (binv .int .sub t12_8 t22_12) fun t23_13 =>
  ∃ (J_14 : Value → World → Prop) (m_14 : Value → World → Nat), J_14 (Value.int .u64 0) w.drew ∧ ∀ (_d_14 : Env) (t24_20 : Value) (w1 : World), J_14 t24_20 w1 →
  (BND (binv .int .lss t24_20 t23_13) fun t25_43 =>
  COND t25_43
  (BND (nilchk l_p0) fun t29_44 =>
  BND (faddr 4 t29_44) fun t30_45 =>
  BND (load1 w1 t30_45) fun t31_46 =>
  BND (binv .int .add t31_46 t24_20) fun t33_47 =>
  CALL PR F_name_Of [(Value.int .u8 109), t33_47] w1 fun t34_48 w2 =>
  BND (extractv t34_48 0) fun t35_49 =>
  BND (extractv t34_48 1) fun t36_50 =>
  BND (nilchk l_p0) fun t38_51 =>
  BND (faddr 0 t38_51) fun t39_52 =>
  BND (load1 w2 t39_52) fun t40_53 =>
  CALL PR F_disk_Disk_Sync [t40_53, t35_49] w2 fun t42_54 w3 =>
  BND (binv .int .neq t42_54 (Value.int .i64 0)) fun t44_55 =>
  COND t44_55
  (R t42_54 w3)
  (BND (binv .int .add t24_20 (Value.int .u64 1)) fun t46_56 =>
  (J_14 t46_56 w3 ∧ m_14 t46_56 w3 < m_14 t24_20 w1)))
  (BND (nilchk l_p0) fun t48_57 =>
  BND (faddr 5 t48_57) fun t49_58 =>
  BND (load1 w1 t49_58) fun t50_59 =>
  JOIN (α := World → Prop) (fun k_78 => COND t50_59
  (BND (nilchk l_p0) fun t52_79 =>
  BND (faddr 0 t52_79) fun t53_80 =>
  BND (load1 w1 t53_80) fun t54_81 =>
  CALL PR F_disk_Disk_DirSync [t54_81] w1 fun t55_82 w7 =>
  BND (binv .int .neq t55_82 (Value.int .i64 0)) fun t57_83 =>
  COND t57_83
  (R t55_82 w7)
  (k_78 w7))
  (k_78 w1))
  (fun w4 => BND (nilchk l_p0) fun t62_70 =>
  BND (faddr 1 t62_70) fun t63_71 =>
  BND (load1 w4 t63_71) fun t64_72 =>
  BND (binv .int .add t64_72 (Value.int .u64 1)) fun t65_73 =>
  BND (nilchk l_p0) fun t66_74 =>
  BND (faddr 4 t66_74) fun t67_75 =>
  BND (storev 1 w4 t67_75 t65_73) fun w5 =>
  BND (nilchk l_p0) fun t68_76 =>
  BND (faddr 5 t68_76) fun t69_77 =>
  BND (storev 1 w5 t69_77 (Value.bool false)) fun w6 =>
  R (Value.int .i64 0) w6)))
def ann_seglog_Log_Sync : List (Nat × List Nat) := [(1, [0, 1, 2, 5, 6, 7, 9, 10, 11, 16, 3, 4, 8, 12, 13, 14, 15]), (1000002, [24])]
theorem E_seglog_Log_Sync (l_p0 : Value) (w : World) (R : Value → World → Prop) : M_seglog_Log_Sync l_p0 w R = den PR ann_seglog_Log_Sync (bodyOf Tryd.f15) (retQ PR Tryd.f15.results.toList R) (env0 [l_p0]) w := by kernel_rfl
theorem C_seglog_Log_Sync {l_p0 : Value} {w : World} {R : Value → World → Prop} (h : M_seglog_Log_Sync l_p0 w R) : CALL PR F_seglog_Log_Sync [l_p0] w R :=
  call_of_den2 ann_seglog_Log_Sync Tryd.func15 (by kernel_rfl) (by kernel_rfl) (by kernel_rfl) ((E_seglog_Log_Sync l_p0 w R) ▸ h)
-- 16 tumbrel.record.known
def M_record_known (kind_p0 : Value) (w : World) (R : Value → World → Prop) : Prop :=
  BND (binv .int .geq kind_p0 (Value.int .i64 1)) fun t4_1 =>
  BND (grd (isB t4_1 true) (some kind_p0)) fun t6_2 =>
  BND (grd (isB t4_1 true) (binv .int .leq t6_2 (Value.int .i64 17))) fun t7_3 =>
  BND (pickv t4_1 t7_3 (Value.bool false)) fun t8_4 =>
  R t8_4 w
def ann_record_known : List (Nat × List Nat) := []
theorem E_record_known (kind_p0 : Value) (w : World) (R : Value → World → Prop) : M_record_known kind_p0 w R = den PR ann_record_known (bodyOf Tryd.f16) (retQ PR Tryd.f16.results.toList R) (env0 [kind_p0]) w := by kernel_rfl
theorem C_record_known {kind_p0 : Value} {w : World} {R : Value → World → Prop} (h : M_record_known kind_p0 w R) : CALL PR F_record_known [kind_p0] w R :=
  call_of_den2 ann_record_known Tryd.func16 (by kernel_rfl) (by kernel_rfl) (by kernel_rfl) ((E_record_known kind_p0 w R) ▸ h)
-- 17 tumbrel.record.numbers
def M_record_numbers (w : World) (R : Value → World → Prop) : Prop :=
  NEW (newv 54 w (Value.agg #[(Value.int .i64 0), (Value.int .i64 0), (Value.int .i64 0), (Value.int .i64 0), (Value.int .i64 0), (Value.int .i64 0), (Value.int .i64 0), (Value.int .i64 0), (Value.int .i64 0), (Value.int .i64 0), (Value.int .i64 0), (Value.int .i64 0), (Value.int .i64 0), (Value.int .i64 0), (Value.int .i64 0), (Value.int .i64 0), (Value.int .i64 0), (Value.int .i64 0)])) fun t0_1 w1 =>
  BND (buildv #[(Value.int .i64 0), (Value.int .i64 0), (Value.int .i64 0), (Value.int .i64 0), (Value.int .i64 0), (Value.int .i64 0), (Value.int .i64 0), (Value.int .i64 0), (Value.int .i64 0), (Value.int .i64 0), (Value.int .i64 0), (Value.int .i64 0), (Value.int .i64 0), (Value.int .i64 0), (Value.int .i64 0), (Value.int .i64 0), (Value.int .i64 0), (Value.int .i64 0)] [(2, 1, (Value.int .i64 5)), (3, 1, (Value.int .i64 2)), (4, 1, (Value.int .i64 1)), (5, 1, (Value.int .i64 2)), (6, 1, (Value.int .i64 2)), (7, 1, (Value.int .i64 1)), (8, 1, (Value.int .i64 1)), (9, 1, (Value.int .i64 1)), (10, 1, (Value.int .i64 1)), (11, 1, (Value.int .i64 1)), (12, 1, (Value.int .i64 5)), (13, 1, (Value.int .i64 7)), (14, 1, (Value.int .i64 10)), (15, 1, (Value.int .i64 2)), (16, 1, (Value.int .i64 1)), (17, 1, (Value.int .i64 1))]) fun t1_2 =>
  BND (storev 18 w1 t0_1 t1_2) fun w2 =>
  BND (loadn 18 w2 t0_1) fun r_3 =>
  R r_3 w2
def ann_record_numbers : List (Nat × List Nat) := []
theorem E_record_numbers (w : World) (R : Value → World → Prop) : M_record_numbers w R = den PR ann_record_numbers (bodyOf Tryd.f17) (retQ PR Tryd.f17.results.toList R) (env0 []) w := by kernel_rfl
theorem C_record_numbers {w : World} {R : Value → World → Prop} (h : M_record_numbers w R) : CALL PR F_record_numbers [] w R :=
  call_of_den2 ann_record_numbers Tryd.func17 (by kernel_rfl) (by kernel_rfl) (by kernel_rfl) ((E_record_numbers w R) ▸ h)
-- 18 tumbrel.record.fits
def M_record_fits (kind_p0 many_p1 : Value) (w : World) (R : Value → World → Prop) : Prop :=
  BND (binv .int .eql many_p1 (Value.int .i64 0)) fun t6_1 =>
  BND (grd (isB t6_1 false) (some kind_p0)) fun t8_2 =>
  GEF (isB t6_1 false) (fun k_ => CALL PR F_record_worded [t8_2] w k_) w fun t9_3 w1 =>
  BND (grd (isB t6_1 false) (some t9_3)) fun t10_4 =>
  BND (grd (isB t10_4 true) (some many_p1)) fun t11_5 =>
  BND (grd (isB t10_4 true) (binv .int .leq t11_5 (Value.int .i64 64))) fun t12_6 =>
  BND (grd (isB t6_1 false) (pickv t10_4 t12_6 (Value.bool false))) fun t13_7 =>
  BND (pickv t6_1 (Value.bool true) t13_7) fun t14_8 =>
  R t14_8 w1
def ann_record_fits : List (Nat × List Nat) := []
theorem E_record_fits (kind_p0 many_p1 : Value) (w : World) (R : Value → World → Prop) : M_record_fits kind_p0 many_p1 w R = den PR ann_record_fits (bodyOf Tryd.f18) (retQ PR Tryd.f18.results.toList R) (env0 [kind_p0, many_p1]) w := by kernel_rfl
theorem C_record_fits {kind_p0 many_p1 : Value} {w : World} {R : Value → World → Prop} (h : M_record_fits kind_p0 many_p1 w R) : CALL PR F_record_fits [kind_p0, many_p1] w R :=
  call_of_den2 ann_record_fits Tryd.func18 (by kernel_rfl) (by kernel_rfl) (by kernel_rfl) ((E_record_fits kind_p0 many_p1 w R) ▸ h)
-- 19 tumbrel.seglog.made
def M_seglog_made (d_p0 seg_p1 size_p2 : Value) (w : World) (R : Value → World → Prop) : Prop :=
  CALL PR F_name_Of [(Value.int .u8 109), seg_p1] w fun t13_1 w1 =>
  BND (extractv t13_1 0) fun t14_2 =>
  BND (extractv t13_1 1) fun t15_3 =>
  BND (binv .ptr .eql d_p0 (Value.pointer none)) fun t17_4 =>
  BND (grd (isB t17_4 false) (some size_p2)) fun t19_5 =>
  BND (grd (isB t17_4 false) (binv .int .lss t19_5 (Value.int .i64 64))) fun t20_6 =>
  BND (pickv t17_4 (Value.bool true) t20_6) fun t21_7 =>
  BND (grd (isB t21_7 false) (some size_p2)) fun t23_8 =>
  BND (grd (isB t21_7 false) (binv .int .gtr t23_8 (Value.int .i64 65536))) fun t24_9 =>
  BND (pickv t21_7 (Value.bool true) t24_9) fun t25_10 =>
  BND (grd (isB t25_10 false) (some t15_3)) fun t27_11 =>
  BND (grd (isB t25_10 false) (binv .int .neq t27_11 (Value.int .i64 0))) fun t28_12 =>
  BND (pickv t25_10 (Value.bool true) t28_12) fun t29_13 =>
  COND t29_13
  (R (.tuple #[(Value.pointer none), (Value.string { data := #[] }), (Value.int .i64 1)]) w1)
  (BND (buildv #[(Value.pointer none), (Value.int .u64 0), (Value.int .u64 0), (Value.int .i64 0), (Value.int .u64 0), (Value.bool false)] [(0, 1, d_p0), (1, 1, seg_p1), (3, 1, size_p2), (4, 1, seg_p1)]) fun t34_14 =>
  NEW (newv 62 w1 t34_14) fun t35_15 w2 =>
  R (.tuple #[t35_15, t14_2, (Value.int .i64 0)]) w2)
def ann_seglog_made : List (Nat × List Nat) := []
theorem E_seglog_made (d_p0 seg_p1 size_p2 : Value) (w : World) (R : Value → World → Prop) : M_seglog_made d_p0 seg_p1 size_p2 w R = den PR ann_seglog_made (bodyOf Tryd.f19) (retQ PR Tryd.f19.results.toList R) (env0 [d_p0, seg_p1, size_p2]) w := by kernel_rfl
theorem C_seglog_made {d_p0 seg_p1 size_p2 : Value} {w : World} {R : Value → World → Prop} (h : M_seglog_made d_p0 seg_p1 size_p2 w R) : CALL PR F_seglog_made [d_p0, seg_p1, size_p2] w R :=
  call_of_den2 ann_seglog_made Tryd.func19 (by kernel_rfl) (by kernel_rfl) (by kernel_rfl) ((E_seglog_made d_p0 seg_p1 size_p2 w R) ▸ h)
-- 20 (*tumbrel.disk.Disk).Read
def M_disk_Disk_Read (d_p0 name_p1 : Value) (w : World) (R : Value → World → Prop) : Prop :=
  BND (nilchk d_p0) fun t8_1 =>
  BND (faddr 4 t8_1) fun t9_2 =>
  BND (load1 w t9_2) fun t10_3 =>
  COND t10_3
  (R (.tuple #[(Value.slice none 0 0), (Value.int .i64 7)]) w)
  (CALL PR F_disk_Disk_there [d_p0, name_p1] w fun t13_4 w1 =>
  BND (binv .int .neq t13_4 (Value.int .i64 0)) fun t15_5 =>
  COND t15_5
  (R (.tuple #[(Value.slice none 0 0), t13_4]) w1)
  (CALL PR F_disk_Disk_now [d_p0] w1 fun t18_6 w2 =>
  BND (lookv .string (Value.pointer none) false w2 t18_6 name_p1) fun t20_7 =>
  BND (nilchk t20_7) fun t21_8 =>
  BND (faddr 0 t21_8) fun t22_9 =>
  BND (load1 w2 t22_9) fun t23_10 =>
  CALL PR F_slices_Clone_byte_byte [t23_10] w2 fun t24_11 w3 =>
  R (.tuple #[t24_11, (Value.int .i64 0)]) w3))
def ann_disk_Disk_Read : List (Nat × List Nat) := []
theorem E_disk_Disk_Read (d_p0 name_p1 : Value) (w : World) (R : Value → World → Prop) : M_disk_Disk_Read d_p0 name_p1 w R = den PR ann_disk_Disk_Read (bodyOf Tryd.f20) (retQ PR Tryd.f20.results.toList R) (env0 [d_p0, name_p1]) w := by kernel_rfl
theorem C_disk_Disk_Read {d_p0 name_p1 : Value} {w : World} {R : Value → World → Prop} (h : M_disk_Disk_Read d_p0 name_p1 w R) : CALL PR F_disk_Disk_Read [d_p0, name_p1] w R :=
  call_of_den2 ann_disk_Disk_Read Tryd.func20 (by kernel_rfl) (by kernel_rfl) (by kernel_rfl) ((E_disk_Disk_Read d_p0 name_p1 w R) ▸ h)
-- 21 (*tumbrel.disk.Disk).Cut
def M_disk_Disk_Cut (d_p0 name_p1 n_p2 : Value) (w : World) (R : Value → World → Prop) : Prop :=
  CALL PR F_disk_Disk_there [d_p0, name_p1] w fun t11_1 w1 =>
  BND (binv .int .eql t11_1 (Value.int .i64 0)) fun t13_2 =>
  BND (grd (isB t13_2 true) (some n_p2)) fun t15_3 =>
  BND (grd (isB t13_2 true) (binv .int .lss t15_3 (Value.int .i64 0))) fun t16_4 =>
  BND (grd (isB t13_2 true) (some t16_4)) fun t17_5 =>
  BND (grd (isB t17_5 false) (some n_p2)) fun t18_6 =>
  BND (grd (isB t17_5 false) (some d_p0)) fun t19_7 =>
  GEF (isB t17_5 false) (fun k_ => CALL PR F_disk_Disk_now [t19_7] w1 k_) w1 fun t20_8 w2 =>
  BND (grd (isB t17_5 false) (some name_p1)) fun t21_9 =>
  BND (grd (isB t17_5 false) (lookv .string (Value.pointer none) false w2 t20_8 t21_9)) fun t22_10 =>
  BND (grd (isB t17_5 false) (nilchk t22_10)) fun t23_11 =>
  BND (grd (isB t17_5 false) (faddr 0 t23_11)) fun t24_12 =>
  BND (grd (isB t17_5 false) (load1 w2 t24_12)) fun t25_13 =>
  BND (grd (isB t17_5 false) (lenl t25_13)) fun t26_14 =>
  BND (grd (isB t17_5 false) (binv .int .gtr t18_6 t26_14)) fun t27_15 =>
  BND (grd (isB t13_2 true) (pickv t17_5 (Value.bool true) t27_15)) fun t28_16 =>
  BND (pickv t13_2 t28_16 (Value.bool false)) fun t29_17 =>
  JOIN (α := Value → World → Prop) (fun k_59 => COND t29_17
  (k_59 (Value.int .i64 1) w2)
  (k_59 t11_1 w2))
  (fun e_18 w3 => CALL PR F_disk_Disk_can [d_p0, e_18] w3 fun t32_19 w4 =>
  BND (binv .int .eql t32_19 (Value.int .i64 0)) fun t34_20 =>
  JOIN (α := World → Prop) (fun k_44 => COND t34_20
  (CALL PR F_disk_Disk_now [d_p0] w4 fun t36_45 w6 =>
  BND (lookv .string (Value.pointer none) false w6 t36_45 name_p1) fun t38_46 =>
  BND (nilchk t38_46) fun t42_47 =>
  BND (faddr 0 t42_47) fun t43_48 =>
  BND (nilchk t38_46) fun t48_49 =>
  BND (faddr 1 t48_49) fun t49_50 =>
  BND (load1 w6.drew t43_48) fun t44_51 =>
  BND (slicev 1 t44_51 none (some n_p2)) fun t46_52 =>
  BND (load1 w6.drew t49_50) fun t50_53 =>
  BND (min2v t50_53 n_p2) fun t52_54 =>
  BND (nilchk t38_46) fun t53_55 =>
  BND (faddr 0 t53_55) fun t54_56 =>
  BND (storev 1 w6.drew t54_56 t46_52) fun w7 =>
  BND (nilchk t38_46) fun t55_57 =>
  BND (faddr 1 t55_57) fun t56_58 =>
  BND (storev 1 w7 t56_58 t52_54) fun w8 =>
  k_44 w8)
  (k_44 w4))
  (fun w5 => R t32_19 w5))
def ann_disk_Disk_Cut : List (Nat × List Nat) := [(7, [0, 1, 2, 3, 4, 6, 8, 9, 10, 12, 5, 7, 11, 13, 14, 15, 16, 17, 18, 19])]
theorem E_disk_Disk_Cut (d_p0 name_p1 n_p2 : Value) (w : World) (R : Value → World → Prop) : M_disk_Disk_Cut d_p0 name_p1 n_p2 w R = den PR ann_disk_Disk_Cut (bodyOf Tryd.f21) (retQ PR Tryd.f21.results.toList R) (env0 [d_p0, name_p1, n_p2]) w := by kernel_rfl
theorem C_disk_Disk_Cut {d_p0 name_p1 n_p2 : Value} {w : World} {R : Value → World → Prop} (h : M_disk_Disk_Cut d_p0 name_p1 n_p2 w R) : CALL PR F_disk_Disk_Cut [d_p0, name_p1, n_p2] w R :=
  call_of_den2 ann_disk_Disk_Cut Tryd.func21 (by kernel_rfl) (by kernel_rfl) (by kernel_rfl) ((E_disk_Disk_Cut d_p0 name_p1 n_p2 w R) ▸ h)
-- 22 tumbrel.record.Bytes
def M_record_Bytes (r_p0 : Value) (w : World) (R : Value → World → Prop) : Prop :=
  NEW (newv 26 w r_p0) fun r_1 w1 =>
  BND (loadn 3 w1 r_1) fun t4_2 =>
  CALL PR F_record_Right [t4_2] w1 fun t5_3 w2 =>
  BND (unv .not t5_3) fun t6_4 =>
  COND t6_4
  (R (.tuple #[(Value.slice none 0 0), (Value.int .i64 1)]) w2)
  (∃ S_5 : Nat → World → Prop,
  S_5 1 w2.drew ∧
  S_5 7 w2.drew ∧
  BND (faddr 0 r_1) fun t7_6 =>
  FLT (S_5 1) (fun w_ => load1 w_ t7_6) fun t8_7 =>
  BND (convi .u8 t8_7) fun t9_8 =>
  BND (faddr 1 r_1) fun t10_9 =>
  BND (faddr 2 r_1) fun t13_10 =>
  FLT (S_5 7) (fun w_ => load1 w_ t13_10) fun t14_11 =>
  BND (load1 w2.drew t10_9) fun t11_12 =>
  CALL PR F_vint_All [t11_12] w2.drew fun t12_13 w3 =>
  S_5 1 w3 ∧
  S_5 7 w3 ∧
  APPEND 5 1 1 (Value.int .u8 0) t12_13 t14_11 w3 fun t15_14 w4 =>
  S_5 1 w4 ∧
  BND (buildv #[(Value.int .u8 0), (Value.slice none 0 0)] [(0, 1, t9_8), (1, 1, t15_14)]) fun t16_15 =>
  CALL PR F_frame_Bytes [t16_15] w4 fun t17_16 w5 =>
  BND (extractv t17_16 0) fun t18_17 =>
  BND (extractv t17_16 1) fun t19_18 =>
  R (.tuple #[t18_17, t19_18]) w5)
def ann_record_Bytes : List (Nat × List Nat) := [(3, [0, 1, 2, 3, 6, 7, 4, 5, 8, 9, 10, 11, 12, 13, 14]), (2000003, [1, 7]), (3003005, [1, 7]), (3003008, [1])]
theorem E_record_Bytes (r_p0 : Value) (w : World) (R : Value → World → Prop) : M_record_Bytes r_p0 w R = den PR ann_record_Bytes (bodyOf Tryd.f22) (retQ PR Tryd.f22.results.toList R) (env0 [r_p0]) w := by kernel_rfl
theorem C_record_Bytes {r_p0 : Value} {w : World} {R : Value → World → Prop} (h : M_record_Bytes r_p0 w R) : CALL PR F_record_Bytes [r_p0] w R :=
  call_of_den2 ann_record_Bytes Tryd.func22 (by kernel_rfl) (by kernel_rfl) (by kernel_rfl) ((E_record_Bytes r_p0 w R) ▸ h)
-- 23 tumbrel.record.Same
def M_record_Same (a_p0 b_p1 : Value) (w : World) (R : Value → World → Prop) : Prop :=
  NEW (newv 26 w a_p0) fun a_1 w1 =>
  NEW (newv 26 w1 b_p1) fun b_2 w2 =>
  BND (faddr 0 a_1) fun t5_3 =>
  BND (load1 w2 t5_3) fun t6_4 =>
  BND (faddr 0 b_2) fun t7_5 =>
  BND (load1 w2 t7_5) fun t8_6 =>
  BND (binv .int .eql t6_4 t8_6) fun t9_7 =>
  BND (grd (isB t9_7 true) (faddr 1 a_1)) fun t11_8 =>
  BND (grd (isB t9_7 true) (load1 w2 t11_8)) fun t12_9 =>
  BND (grd (isB t9_7 true) (faddr 1 b_2)) fun t13_10 =>
  BND (grd (isB t9_7 true) (load1 w2 t13_10)) fun t14_11 =>
  GEF (isB t9_7 true) (fun k_ => CALL PR F_slices_Equal_uint64_uint64 [t12_9, t14_11] w2 k_) w2 fun t15_12 w3 =>
  BND (pickv t9_7 t15_12 (Value.bool false)) fun t16_13 =>
  BND (grd (isB t16_13 true) (faddr 2 a_1)) fun t18_14 =>
  BND (grd (isB t16_13 true) (load1 w3 t18_14)) fun t19_15 =>
  BND (grd (isB t16_13 true) (faddr 2 b_2)) fun t20_16 =>
  BND (grd (isB t16_13 true) (load1 w3 t20_16)) fun t21_17 =>
  BND (grd (isB t16_13 true) (binv .str .eql t19_15 t21_17)) fun t22_18 =>
  BND (pickv t16_13 t22_18 (Value.bool false)) fun t23_19 =>
  R t23_19 w3
def ann_record_Same : List (Nat × List Nat) := []
theorem E_record_Same (a_p0 b_p1 : Value) (w : World) (R : Value → World → Prop) : M_record_Same a_p0 b_p1 w R = den PR ann_record_Same (bodyOf Tryd.f23) (retQ PR Tryd.f23.results.toList R) (env0 [a_p0, b_p1]) w := by kernel_rfl
theorem C_record_Same {a_p0 b_p1 : Value} {w : World} {R : Value → World → Prop} (h : M_record_Same a_p0 b_p1 w R) : CALL PR F_record_Same [a_p0, b_p1] w R :=
  call_of_den2 ann_record_Same Tryd.func23 (by kernel_rfl) (by kernel_rfl) (by kernel_rfl) ((E_record_Same a_p0 b_p1 w R) ▸ h)
-- 24 tumbrel.seglog.At
def M_seglog_At (d_p0 seg_p1 at_p2 : Value) (w : World) (R : Value → World → Prop) : Prop :=
  NEW (newv 26 w (Value.agg #[(Value.int .i64 0), (Value.slice none 0 0), (Value.string ByteArray.empty)])) fun t6_1 w1 =>
  CALL PR F_name_Of [(Value.int .u8 109), seg_p1] w1 fun t16_2 w2 =>
  BND (extractv t16_2 0) fun t17_3 =>
  BND (extractv t16_2 1) fun t18_4 =>
  BND (binv .int .neq t18_4 (Value.int .i64 0)) fun t20_5 =>
  COND t20_5
  (BND (buildv #[(Value.int .i64 0), (Value.slice none 0 0), (Value.string ByteArray.empty)] []) fun t21_6 =>
  BND (storev 3 w2 t6_1 t21_6) fun w3 =>
  BND (loadn 3 w3 t6_1) fun r_7 =>
  R (.tuple #[r_7, (Value.int .i64 0), t18_4]) w3)
  (CALL PR F_disk_Disk_Read [d_p0, t17_3] w2 fun t26_8 w4 =>
  BND (extractv t26_8 0) fun t27_9 =>
  BND (extractv t26_8 1) fun t28_10 =>
  BND (binv .int .neq t28_10 (Value.int .i64 0)) fun t31_11 =>
  COND t31_11
  (BND (buildv #[(Value.int .i64 0), (Value.slice none 0 0), (Value.string ByteArray.empty)] []) fun t32_12 =>
  BND (storev 3 w4 t6_1 t32_12) fun w5 =>
  BND (loadn 3 w5 t6_1) fun r_13 =>
  R (.tuple #[r_13, (Value.int .i64 0), t28_10]) w5)
  (BND (lenl t27_9) fun t37_14 =>
  BND (convi .u64 t37_14) fun t38_15 =>
  BND (binv .int .gtr at_p2 t38_15) fun t39_16 =>
  COND t39_16
  (BND (buildv #[(Value.int .i64 0), (Value.slice none 0 0), (Value.string ByteArray.empty)] []) fun t40_17 =>
  BND (storev 3 w4 t6_1 t40_17) fun w6 =>
  BND (loadn 3 w6 t6_1) fun r_18 =>
  R (.tuple #[r_18, (Value.int .i64 0), (Value.int .i64 3)]) w6)
  (BND (slicev 1 t27_9 (some at_p2) none) fun t44_19 =>
  CALL PR F_record_All [t44_19] w4 fun t45_20 w7 =>
  BND (extractv t45_20 0) fun t46_21 =>
  BND (extractv t45_20 1) fun t47_22 =>
  BND (extractv t45_20 2) fun t48_23 =>
  BND (lenl t46_21) fun t51_24 =>
  BND (binv .int .gtr t51_24 (Value.int .i64 0)) fun t52_25 =>
  COND t52_25
  (∃ S_26 : Nat → World → Prop,
  S_26 5 w7.drew ∧
  BND (iaddr 3 t46_21 (Value.int .i64 0)) fun t54_27 =>
  BND (iaddr 1 t47_22 (Value.int .i64 0)) fun t57_28 =>
  FLT (S_26 5) (fun w_ => load1 w_ t57_28) fun t58_29 =>
  BND (loadn 3 w7.drew t54_27) fun t55_30 =>
  BND (storev 3 w7.drew t6_1 t55_30) fun w8 =>
  S_26 5 w8 ∧
  BND (loadn 3 w8 t6_1) fun r_31 =>
  R (.tuple #[r_31, t58_29, (Value.int .i64 0)]) w8)
  (BND (binv .int .eql t48_23 (Value.int .i64 0)) fun t61_32 =>
  COND t61_32
  (BND (buildv #[(Value.int .i64 0), (Value.slice none 0 0), (Value.string ByteArray.empty)] []) fun t62_33 =>
  BND (storev 3 w7 t6_1 t62_33) fun w9 =>
  BND (loadn 3 w9 t6_1) fun r_34 =>
  R (.tuple #[r_34, (Value.int .i64 0), (Value.int .i64 3)]) w9)
  (BND (buildv #[(Value.int .i64 0), (Value.slice none 0 0), (Value.string ByteArray.empty)] []) fun t63_35 =>
  BND (storev 3 w7 t6_1 t63_35) fun w10 =>
  BND (loadn 3 w10 t6_1) fun r_36 =>
  R (.tuple #[r_36, (Value.int .i64 0), t48_23]) w10)))))
def ann_seglog_At : List (Nat × List Nat) := [(11, [0, 1, 3, 4, 5, 2, 6, 7, 8]), (2000011, [5]), (3011006, [5])]
theorem E_seglog_At (d_p0 seg_p1 at_p2 : Value) (w : World) (R : Value → World → Prop) : M_seglog_At d_p0 seg_p1 at_p2 w R = den PR ann_seglog_At (bodyOf Tryd.f24) (retQ PR Tryd.f24.results.toList R) (env0 [d_p0, seg_p1, at_p2]) w := by kernel_rfl
theorem C_seglog_At {d_p0 seg_p1 at_p2 : Value} {w : World} {R : Value → World → Prop} (h : M_seglog_At d_p0 seg_p1 at_p2 w R) : CALL PR F_seglog_At [d_p0, seg_p1, at_p2] w R :=
  call_of_den2 ann_seglog_At Tryd.func24 (by kernel_rfl) (by kernel_rfl) (by kernel_rfl) ((E_seglog_At d_p0 seg_p1 at_p2 w R) ▸ h)
-- 25 (*tumbrel.seglog.Log).turn
def M_seglog_Log_turn (l_p0 : Value) (w : World) (R : Value → World → Prop) : Prop :=
  BND (nilchk l_p0) fun t8_1 =>
  BND (faddr 1 t8_1) fun t9_2 =>
  BND (load1 w t9_2) fun t10_3 =>
  BND (binv .int .add t10_3 (Value.int .u64 1)) fun t11_4 =>
  CALL PR F_name_Of [(Value.int .u8 109), t11_4] w fun t12_5 w1 =>
  BND (extractv t12_5 0) fun t13_6 =>
  BND (extractv t12_5 1) fun t14_7 =>
  BND (binv .int .neq t14_7 (Value.int .i64 0)) fun t16_8 =>
  COND t16_8
  (R (Value.int .i64 4) w1)
  (BND (nilchk l_p0) fun t18_9 =>
  BND (faddr 0 t18_9) fun t19_10 =>
  BND (load1 w1 t19_10) fun t20_11 =>
  CALL PR F_disk_Disk_Create [t20_11, t13_6] w1 fun t22_12 w2 =>
  BND (binv .int .neq t22_12 (Value.int .i64 0)) fun t24_13 =>
  COND t24_13
  (R t22_12 w2)
  (BND (nilchk l_p0) fun t30_14 =>
  BND (faddr 1 t30_14) fun t31_15 =>
  BND (load1 w2 t31_15) fun t32_16 =>
  BND (binv .int .add t32_16 (Value.int .u64 1)) fun t33_17 =>
  BND (nilchk l_p0) fun t34_18 =>
  BND (faddr 1 t34_18) fun t35_19 =>
  BND (storev 1 w2 t35_19 t33_17) fun w3 =>
  BND (nilchk l_p0) fun t36_20 =>
  BND (faddr 2 t36_20) fun t37_21 =>
  BND (storev 1 w3 t37_21 (Value.int .u64 0)) fun w4 =>
  BND (nilchk l_p0) fun t38_22 =>
  BND (faddr 5 t38_22) fun t39_23 =>
  BND (storev 1 w4 t39_23 (Value.bool true)) fun w5 =>
  R (Value.int .i64 0) w5))
def ann_seglog_Log_turn : List (Nat × List Nat) := []
theorem E_seglog_Log_turn (l_p0 : Value) (w : World) (R : Value → World → Prop) : M_seglog_Log_turn l_p0 w R = den PR ann_seglog_Log_turn (bodyOf Tryd.f25) (retQ PR Tryd.f25.results.toList R) (env0 [l_p0]) w := by kernel_rfl
theorem C_seglog_Log_turn {l_p0 : Value} {w : World} {R : Value → World → Prop} (h : M_seglog_Log_turn l_p0 w R) : CALL PR F_seglog_Log_turn [l_p0] w R :=
  call_of_den2 ann_seglog_Log_turn Tryd.func25 (by kernel_rfl) (by kernel_rfl) (by kernel_rfl) ((E_seglog_Log_turn l_p0 w R) ▸ h)
-- 26 tumbrel.name.Of
def M_name_Of (kind_p0 n_p1 : Value) (w : World) (R : Value → World → Prop) : Prop :=
  CALL PR F_strings_IndexByte [(Value.string { data := #[109, 101, 115] }), kind_p0] w fun t7_1 w1 =>
  BND (binv .int .lss t7_1 (Value.int .i64 0)) fun t8_2 =>
  BND (grd (isB t8_2 false) (some n_p1)) fun t10_3 =>
  BND (grd (isB t8_2 false) (binv .int .geq t10_3 (Value.int .u64 10000000000))) fun t11_4 =>
  BND (pickv t8_2 (Value.bool true) t11_4) fun t12_5 =>
  COND t12_5
  (R (.tuple #[(Value.string { data := #[] }), (Value.int .i64 1)]) w1)
  (BND (convi .i32 kind_p0) fun t14_6 =>
  BND (runev t14_6) fun t15_7 =>
  BND (binv .str .add t15_7 (Value.string { data := #[46] })) fun t16_8 =>
  CALL PR F_strconv_FormatUint [n_p1, (Value.int .i64 10)] w1 fun t18_9 w2 =>
  BND (binv .str .add t16_8 t18_9) fun t19_10 =>
  R (.tuple #[t19_10, (Value.int .i64 0)]) w2)
def ann_name_Of : List (Nat × List Nat) := []
theorem E_name_Of (kind_p0 n_p1 : Value) (w : World) (R : Value → World → Prop) : M_name_Of kind_p0 n_p1 w R = den PR ann_name_Of (bodyOf Tryd.f26) (retQ PR Tryd.f26.results.toList R) (env0 [kind_p0, n_p1]) w := by kernel_rfl
theorem C_name_Of {kind_p0 n_p1 : Value} {w : World} {R : Value → World → Prop} (h : M_name_Of kind_p0 n_p1 w R) : CALL PR F_name_Of [kind_p0, n_p1] w R :=
  call_of_den2 ann_name_Of Tryd.func26 (by kernel_rfl) (by kernel_rfl) (by kernel_rfl) ((E_name_Of kind_p0 n_p1 w R) ▸ h)
-- 27 (*tumbrel.disk.Disk).Append
def M_disk_Disk_Append (d_p0 name_p1 b_p2 : Value) (w : World) (R : Value → World → Prop) : Prop :=
  CALL PR F_disk_Disk_there [d_p0, name_p1] w fun t11_1 w1 =>
  ∃ S_2 : Nat → World → Prop,
  S_2 11 w1.drew ∧
  BND (binv .int .eql t11_1 (Value.int .i64 0)) fun t13_3 =>
  BND (grd (isB t13_3 true) (some d_p0)) fun t15_4 =>
  BND (grd (isB t13_3 true) (some b_p2)) fun t17_5 =>
  BND (grd (isB t13_3 true) (lenl t17_5)) fun t18_6 =>
  BND (grd (isB t13_3 true) (some d_p0)) fun t20_7 =>
  BND (grd (isB t13_3 true) (nilchk t20_7)) fun t21_8 =>
  BND (grd (isB t13_3 true) (faddr 0 t21_8)) fun t22_9 =>
  FLT (S_2 11) (fun w_ => (grd (isB t13_3 true) (load1 w_ t22_9))) fun t23_10 =>
  GEF (isB t13_3 true) (fun k_ => CALL PR F_disk_Disk_Held [t15_4] w1.drew k_) w1.drew fun t16_11 w2 =>
  S_2 11 w2 ∧
  BND (grd (isB t13_3 true) (binv .int .add t16_11 t18_6)) fun t19_12 =>
  BND (grd (isB t13_3 true) (binv .int .gtr t19_12 t23_10)) fun t24_13 =>
  BND (pickv t13_3 t24_13 (Value.bool false)) fun t25_14 =>
  JOIN (α := Value → World → Prop) (fun k_41 => COND t25_14
  (k_41 (Value.int .i64 4) w2)
  (k_41 t11_1 w2))
  (fun e_15 w3 => CALL PR F_disk_Disk_can [d_p0, e_15] w3 fun t28_16 w4 =>
  BND (binv .int .eql t28_16 (Value.int .i64 0)) fun t30_17 =>
  JOIN (α := World → Prop) (fun k_32 => COND t30_17
  (CALL PR F_disk_Disk_now [d_p0] w4 fun t32_33 w6 =>
  BND (lookv .string (Value.pointer none) false w6 t32_33 name_p1) fun t34_34 =>
  BND (nilchk t34_34) fun t37_35 =>
  BND (faddr 0 t37_35) fun t38_36 =>
  BND (load1 w6 t38_36) fun t39_37 =>
  APPEND 5 1 1 (Value.int .u8 0) t39_37 b_p2 w6 fun t41_38 w7 =>
  BND (nilchk t34_34) fun t42_39 =>
  BND (faddr 0 t42_39) fun t43_40 =>
  BND (storev 1 w7 t43_40 t41_38) fun w8 =>
  k_32 w8)
  (k_32 w4))
  (fun w5 => R t28_16 w5))
def ann_disk_Disk_Append : List (Nat × List Nat) := [(2, [0, 1, 2, 3, 5, 6, 8, 9, 10, 11, 4, 7, 12, 13]), (2000002, [11]), (3002004, [11])]
theorem E_disk_Disk_Append (d_p0 name_p1 b_p2 : Value) (w : World) (R : Value → World → Prop) : M_disk_Disk_Append d_p0 name_p1 b_p2 w R = den PR ann_disk_Disk_Append (bodyOf Tryd.f27) (retQ PR Tryd.f27.results.toList R) (env0 [d_p0, name_p1, b_p2]) w := by kernel_rfl
theorem C_disk_Disk_Append {d_p0 name_p1 b_p2 : Value} {w : World} {R : Value → World → Prop} (h : M_disk_Disk_Append d_p0 name_p1 b_p2 w R) : CALL PR F_disk_Disk_Append [d_p0, name_p1, b_p2] w R :=
  call_of_den2 ann_disk_Disk_Append Tryd.func27 (by kernel_rfl) (by kernel_rfl) (by kernel_rfl) ((E_disk_Disk_Append d_p0 name_p1 b_p2 w R) ▸ h)
-- 28 (*tumbrel.disk.Disk).Create
def M_disk_Disk_Create (d_p0 name_p1 : Value) (w : World) (R : Value → World → Prop) : Prop :=
  CALL PR F_disk_Disk_now [d_p0] w fun t8_1 w1 =>
  CALL PR F_disk_named [name_p1] w1 fun t11_2 w2 =>
  BND (unv .not t11_2) fun t12_3 =>
  JOIN (α := Value → World → Prop) (fun k_25 => COND t12_3
  (k_25 (Value.int .i64 1) w2)
  (BND (lookv .string (Value.pointer none) false w2 t8_1 name_p1) fun t16_26 =>
  BND (binv .ptr .neq t16_26 (Value.pointer none)) fun t17_27 =>
  JOIN (α := Value → World → Prop) (fun k_33 => COND t17_27
  (k_33 (Value.int .i64 6) w2)
  (BND (mlenv w2 t8_1) fun t20_34 =>
  BND (binv .int .geq t20_34 (Value.int .i64 60)) fun t21_35 =>
  JOIN (α := Value → World → Prop) (fun k_37 => COND t21_35
  (k_37 (Value.int .i64 4) w2)
  (k_37 (Value.int .i64 0) w2))
  (fun e_36 w10 => k_33 e_36 w10)))
  (fun e_28 w9 => k_25 e_28 w9)))
  (fun e_4 w3 => CALL PR F_disk_Disk_can [d_p0, e_4] w3 fun t24_14 w4 =>
  BND (binv .int .eql t24_14 (Value.int .i64 0)) fun t26_15 =>
  JOIN (α := World → Prop) (fun k_21 => COND t26_15
  (CALL PR F_disk_Disk_change [d_p0] w4 fun t28_22 w6 =>
  BND (buildv #[(Value.slice none 0 0), (Value.int .i64 0)] []) fun t30_23 =>
  NEW (newv 79 w6 t30_23) fun t31_24 w7 =>
  BND (mupd .string w7 t28_22 name_p1 t31_24) fun w8 =>
  k_21 w8)
  (k_21 w4))
  (fun w5 => R t24_14 w5))
def ann_disk_Disk_Create : List (Nat × List Nat) := []
theorem E_disk_Disk_Create (d_p0 name_p1 : Value) (w : World) (R : Value → World → Prop) : M_disk_Disk_Create d_p0 name_p1 w R = den PR ann_disk_Disk_Create (bodyOf Tryd.f28) (retQ PR Tryd.f28.results.toList R) (env0 [d_p0, name_p1]) w := by kernel_rfl
theorem C_disk_Disk_Create {d_p0 name_p1 : Value} {w : World} {R : Value → World → Prop} (h : M_disk_Disk_Create d_p0 name_p1 w R) : CALL PR F_disk_Disk_Create [d_p0, name_p1] w R :=
  call_of_den2 ann_disk_Disk_Create Tryd.func28 (by kernel_rfl) (by kernel_rfl) (by kernel_rfl) ((E_disk_Disk_Create d_p0 name_p1 w R) ▸ h)
-- 29 (*tumbrel.disk.Disk).Sync
def M_disk_Disk_Sync (d_p0 name_p1 : Value) (w : World) (R : Value → World → Prop) : Prop :=
  CALL PR F_disk_Disk_there [d_p0, name_p1] w fun t10_1 w1 =>
  CALL PR F_disk_Disk_can [d_p0, t10_1] w1 fun t11_2 w2 =>
  BND (binv .int .eql t11_2 (Value.int .i64 0)) fun t13_3 =>
  JOIN (α := World → Prop) (fun k_17 => COND t13_3
  (CALL PR F_disk_Disk_now [d_p0] w2 fun t15_18 w4 =>
  BND (lookv .string (Value.pointer none) false w4 t15_18 name_p1) fun t17_19 =>
  BND (nilchk t17_19) fun t20_20 =>
  BND (faddr 0 t20_20) fun t21_21 =>
  BND (load1 w4 t21_21) fun t22_22 =>
  BND (lenl t22_22) fun t23_23 =>
  BND (nilchk t17_19) fun t24_24 =>
  BND (faddr 1 t24_24) fun t25_25 =>
  BND (storev 1 w4 t25_25 t23_23) fun w5 =>
  k_17 w5)
  (k_17 w2))
  (fun w3 => R t11_2 w3)
def ann_disk_Disk_Sync : List (Nat × List Nat) := []
theorem E_disk_Disk_Sync (d_p0 name_p1 : Value) (w : World) (R : Value → World → Prop) : M_disk_Disk_Sync d_p0 name_p1 w R = den PR ann_disk_Disk_Sync (bodyOf Tryd.f29) (retQ PR Tryd.f29.results.toList R) (env0 [d_p0, name_p1]) w := by kernel_rfl
theorem C_disk_Disk_Sync {d_p0 name_p1 : Value} {w : World} {R : Value → World → Prop} (h : M_disk_Disk_Sync d_p0 name_p1 w R) : CALL PR F_disk_Disk_Sync [d_p0, name_p1] w R :=
  call_of_den2 ann_disk_Disk_Sync Tryd.func29 (by kernel_rfl) (by kernel_rfl) (by kernel_rfl) ((E_disk_Disk_Sync d_p0 name_p1 w R) ▸ h)
-- 30 (*tumbrel.disk.Disk).DirSync
def M_disk_Disk_DirSync (d_p0 : Value) (w : World) (R : Value → World → Prop) : Prop :=
  CALL PR F_disk_Disk_can [d_p0, (Value.int .i64 0)] w fun t5_1 w1 =>
  BND (binv .int .eql t5_1 (Value.int .i64 0)) fun t7_2 =>
  JOIN (α := World → Prop) (fun k_11 => COND t7_2
  (CALL PR F_disk_Disk_now [d_p0] w1 fun t11_12 w3 =>
  BND (nilchk d_p0) fun t12_13 =>
  BND (faddr 1 t12_13) fun t13_14 =>
  BND (storev 1 w3 t13_14 t11_12) fun w4 =>
  BND (nilchk d_p0) fun t14_15 =>
  BND (faddr 2 t14_15) fun t15_16 =>
  BND (storev 1 w4 t15_16 (Value.slice none 0 0)) fun w5 =>
  k_11 w5)
  (k_11 w1))
  (fun w2 => R t5_1 w2)
def ann_disk_Disk_DirSync : List (Nat × List Nat) := []
theorem E_disk_Disk_DirSync (d_p0 : Value) (w : World) (R : Value → World → Prop) : M_disk_Disk_DirSync d_p0 w R = den PR ann_disk_Disk_DirSync (bodyOf Tryd.f30) (retQ PR Tryd.f30.results.toList R) (env0 [d_p0]) w := by kernel_rfl
theorem C_disk_Disk_DirSync {d_p0 : Value} {w : World} {R : Value → World → Prop} (h : M_disk_Disk_DirSync d_p0 w R) : CALL PR F_disk_Disk_DirSync [d_p0] w R :=
  call_of_den2 ann_disk_Disk_DirSync Tryd.func30 (by kernel_rfl) (by kernel_rfl) (by kernel_rfl) ((E_disk_Disk_DirSync d_p0 w R) ▸ h)
-- 31 tumbrel.record.worded
def M_record_worded (kind_p0 : Value) (w : World) (R : Value → World → Prop) : Prop :=
  BND (binv .int .eql kind_p0 (Value.int .i64 10)) fun t4_1 =>
  BND (grd (isB t4_1 false) (some kind_p0)) fun t6_2 =>
  BND (grd (isB t4_1 false) (binv .int .eql t6_2 (Value.int .i64 11))) fun t7_3 =>
  BND (pickv t4_1 (Value.bool true) t7_3) fun t8_4 =>
  BND (grd (isB t8_4 false) (some kind_p0)) fun t10_5 =>
  BND (grd (isB t8_4 false) (binv .int .eql t10_5 (Value.int .i64 16))) fun t11_6 =>
  BND (pickv t8_4 (Value.bool true) t11_6) fun t12_7 =>
  R t12_7 w
def ann_record_worded : List (Nat × List Nat) := []
theorem E_record_worded (kind_p0 : Value) (w : World) (R : Value → World → Prop) : M_record_worded kind_p0 w R = den PR ann_record_worded (bodyOf Tryd.f31) (retQ PR Tryd.f31.results.toList R) (env0 [kind_p0]) w := by kernel_rfl
theorem C_record_worded {kind_p0 : Value} {w : World} {R : Value → World → Prop} (h : M_record_worded kind_p0 w R) : CALL PR F_record_worded [kind_p0] w R :=
  call_of_den2 ann_record_worded Tryd.func31 (by kernel_rfl) (by kernel_rfl) (by kernel_rfl) ((E_record_worded kind_p0 w R) ▸ h)
-- 32 (*tumbrel.disk.Disk).there
def M_disk_Disk_there (d_p0 name_p1 : Value) (w : World) (R : Value → World → Prop) : Prop :=
  CALL PR F_disk_Disk_now [d_p0] w fun t6_1 w1 =>
  BND (lookv .string (Value.pointer none) false w1 t6_1 name_p1) fun t8_2 =>
  BND (binv .ptr .eql t8_2 (Value.pointer none)) fun t9_3 =>
  COND t9_3
  (R (Value.int .i64 5) w1)
  (R (Value.int .i64 0) w1)
def ann_disk_Disk_there : List (Nat × List Nat) := []
theorem E_disk_Disk_there (d_p0 name_p1 : Value) (w : World) (R : Value → World → Prop) : M_disk_Disk_there d_p0 name_p1 w R = den PR ann_disk_Disk_there (bodyOf Tryd.f32) (retQ PR Tryd.f32.results.toList R) (env0 [d_p0, name_p1]) w := by kernel_rfl
theorem C_disk_Disk_there {d_p0 name_p1 : Value} {w : World} {R : Value → World → Prop} (h : M_disk_Disk_there d_p0 name_p1 w R) : CALL PR F_disk_Disk_there [d_p0, name_p1] w R :=
  call_of_den2 ann_disk_Disk_there Tryd.func32 (by kernel_rfl) (by kernel_rfl) (by kernel_rfl) ((E_disk_Disk_there d_p0 name_p1 w R) ▸ h)
-- 33 slices.Clone[[]byte,byte]
def M_slices_Clone_byte_byte (s_p0 : Value) (w : World) (R : Value → World → Prop) : Prop :=
  BND (binv .slc .eql s_p0 (Value.slice none 0 0)) fun t4_1 =>
  COND t4_1
  (R (Value.slice none 0 0) w)
  (BND (newslice 5 #[(Value.int .u8 0)] 1 0 [] w) fun p_ => NEW p_ fun t5_2 w1 =>
  APPEND 5 1 1 (Value.int .u8 0) t5_2 s_p0 w1 fun t7_3 w2 =>
  R t7_3 w2)
def ann_slices_Clone_byte_byte : List (Nat × List Nat) := []
theorem E_slices_Clone_byte_byte (s_p0 : Value) (w : World) (R : Value → World → Prop) : M_slices_Clone_byte_byte s_p0 w R = den PR ann_slices_Clone_byte_byte (bodyOf Tryd.f33) (retQ PR Tryd.f33.results.toList R) (env0 [s_p0]) w := by kernel_rfl
theorem C_slices_Clone_byte_byte {s_p0 : Value} {w : World} {R : Value → World → Prop} (h : M_slices_Clone_byte_byte s_p0 w R) : CALL PR F_slices_Clone_byte_byte [s_p0] w R :=
  call_of_den2 ann_slices_Clone_byte_byte Tryd.func33 (by kernel_rfl) (by kernel_rfl) (by kernel_rfl) ((E_slices_Clone_byte_byte s_p0 w R) ▸ h)
-- 34 (*tumbrel.disk.Disk).now
def M_disk_Disk_now (d_p0 : Value) (w : World) (R : Value → World → Prop) : Prop :=
  BND (nilchk d_p0) fun t5_1 =>
  BND (faddr 2 t5_1) fun t6_2 =>
  BND (load1 w t6_2) fun t7_3 =>
  BND (lenl t7_3) fun t8_4 =>
  BND (binv .int .gtr t8_4 (Value.int .i64 0)) fun t10_5 =>
  COND t10_5
  (BND (nilchk d_p0) fun t12_6 =>
  BND (faddr 2 t12_6) fun t13_7 =>
  BND (load1 w t13_7) fun t14_8 =>
  BND (binv .int .sub t8_4 (Value.int .i64 1)) fun t16_9 =>
  BND (iaddr 1 t14_8 t16_9) fun t17_10 =>
  BND (load1 w t17_10) fun t18_11 =>
  R t18_11 w)
  (BND (nilchk d_p0) fun t20_12 =>
  BND (faddr 1 t20_12) fun t21_13 =>
  BND (load1 w t21_13) fun t22_14 =>
  R t22_14 w)
def ann_disk_Disk_now : List (Nat × List Nat) := []
theorem E_disk_Disk_now (d_p0 : Value) (w : World) (R : Value → World → Prop) : M_disk_Disk_now d_p0 w R = den PR ann_disk_Disk_now (bodyOf Tryd.f34) (retQ PR Tryd.f34.results.toList R) (env0 [d_p0]) w := by kernel_rfl
theorem C_disk_Disk_now {d_p0 : Value} {w : World} {R : Value → World → Prop} (h : M_disk_Disk_now d_p0 w R) : CALL PR F_disk_Disk_now [d_p0] w R :=
  call_of_den2 ann_disk_Disk_now Tryd.func34 (by kernel_rfl) (by kernel_rfl) (by kernel_rfl) ((E_disk_Disk_now d_p0 w R) ▸ h)
-- 35 (*tumbrel.disk.Disk).can
def M_disk_Disk_can (d_p0 e_p1 : Value) (w : World) (R : Value → World → Prop) : Prop :=
  BND (nilchk d_p0) fun t7_1 =>
  BND (faddr 4 t7_1) fun t8_2 =>
  BND (load1 w t8_2) fun t9_3 =>
  COND t9_3
  (R (Value.int .i64 7) w)
  (BND (binv .int .neq e_p1 (Value.int .i64 0)) fun t12_4 =>
  COND t12_4
  (R e_p1 w)
  (BND (nilchk d_p0) fun t16_5 =>
  BND (faddr 3 t16_5) fun t17_6 =>
  BND (load1 w t17_6) fun t18_7 =>
  BND (binv .int .eql t18_7 (Value.int .i64 0)) fun t19_8 =>
  COND t19_8
  (BND (nilchk d_p0) fun t21_9 =>
  BND (faddr 4 t21_9) fun t22_10 =>
  BND (storev 1 w t22_10 (Value.bool true)) fun w1 =>
  R (Value.int .i64 7) w1)
  (BND (nilchk d_p0) fun t25_11 =>
  BND (faddr 3 t25_11) fun t26_12 =>
  BND (load1 w t26_12) fun t27_13 =>
  BND (binv .int .gtr t27_13 (Value.int .i64 0)) fun t28_14 =>
  JOIN (α := World → Prop) (fun k_22 => COND t28_14
  (BND (nilchk d_p0) fun t30_23 =>
  BND (faddr 3 t30_23) fun t31_24 =>
  BND (load1 w t31_24) fun t32_25 =>
  BND (binv .int .sub t32_25 (Value.int .i64 1)) fun t33_26 =>
  BND (nilchk d_p0) fun t34_27 =>
  BND (faddr 3 t34_27) fun t35_28 =>
  BND (storev 1 w t35_28 t33_26) fun w3 =>
  k_22 w3)
  (k_22 w))
  (fun w2 => R (Value.int .i64 0) w2))))
def ann_disk_Disk_can : List (Nat × List Nat) := []
theorem E_disk_Disk_can (d_p0 e_p1 : Value) (w : World) (R : Value → World → Prop) : M_disk_Disk_can d_p0 e_p1 w R = den PR ann_disk_Disk_can (bodyOf Tryd.f35) (retQ PR Tryd.f35.results.toList R) (env0 [d_p0, e_p1]) w := by kernel_rfl
theorem C_disk_Disk_can {d_p0 e_p1 : Value} {w : World} {R : Value → World → Prop} (h : M_disk_Disk_can d_p0 e_p1 w R) : CALL PR F_disk_Disk_can [d_p0, e_p1] w R :=
  call_of_den2 ann_disk_Disk_can Tryd.func35 (by kernel_rfl) (by kernel_rfl) (by kernel_rfl) ((E_disk_Disk_can d_p0 e_p1 w R) ▸ h)
-- 36 tumbrel.frame.Bytes
def M_frame_Bytes (x_p0 : Value) (w : World) (R : Value → World → Prop) : Prop :=
  NEW (newv 86 w x_p0) fun x_1 w1 =>
  BND (faddr 1 x_1) fun t8_2 =>
  BND (load1 w1 t8_2) fun t9_3 =>
  BND (lenl t9_3) fun t10_4 =>
  BND (binv .int .gtr t10_4 (Value.int .i64 400)) fun t11_5 =>
  COND t11_5
  (R (.tuple #[(Value.slice none 0 0), (Value.int .i64 4)]) w1)
  (BND (faddr 1 x_1) fun t13_6 =>
  BND (load1 w1 t13_6) fun t14_7 =>
  BND (lenl t14_7) fun t15_8 =>
  CALL PR F_frame_low_int [t15_8] w1 fun t16_9 w2 =>
  BND (extractv t16_9 0) fun t17_10 =>
  BND (extractv t16_9 1) fun t18_11 =>
  CALL PR F_frame_low_int [t18_11] w2 fun t21_12 w3 =>
  BND (extractv t21_12 0) fun t22_13 =>
  BND (extractv t21_12 1) fun t23_14 =>
  ∃ S_15 : Nat → World → Prop,
  S_15 7 w3.drew ∧
  BND (faddr 0 x_1) fun t24_16 =>
  BND (faddr 1 x_1) fun t30_17 =>
  FLT (S_15 7) (fun w_ => load1 w_ t30_17) fun t31_18 =>
  BND (load1 w3.drew t24_16) fun t25_19 =>
  BND (newslice 5 #[(Value.int .u8 0)] 1 3 [(0, 1, t25_19), (1, 1, t17_10), (2, 1, t22_13)] w3.drew) fun p_ => NEW p_ fun t28_20 w4 =>
  S_15 7 w4 ∧
  CALL PR F_sum_Put [t28_20] w4 fun t29_21 w5 =>
  S_15 7 w5 ∧
  CALL PR F_sum_Put [t31_18] w5 fun t32_22 w6 =>
  APPEND 5 1 1 (Value.int .u8 0) t29_21 t32_22 w6 fun t33_23 w7 =>
  R (.tuple #[t33_23, (Value.int .i64 0)]) w7)
def ann_frame_Bytes : List (Nat × List Nat) := [(5, [0, 2, 3, 6, 7, 1, 4, 5, 8, 9, 10, 11]), (2000005, [7]), (3005004, [7]), (3005005, [7])]
theorem E_frame_Bytes (x_p0 : Value) (w : World) (R : Value → World → Prop) : M_frame_Bytes x_p0 w R = den PR ann_frame_Bytes (bodyOf Tryd.f36) (retQ PR Tryd.f36.results.toList R) (env0 [x_p0]) w := by kernel_rfl
theorem C_frame_Bytes {x_p0 : Value} {w : World} {R : Value → World → Prop} (h : M_frame_Bytes x_p0 w R) : CALL PR F_frame_Bytes [x_p0] w R :=
  call_of_den2 ann_frame_Bytes Tryd.func36 (by kernel_rfl) (by kernel_rfl) (by kernel_rfl) ((E_frame_Bytes x_p0 w R) ▸ h)
-- 37 tumbrel.vint.All
def M_vint_All (l_p0 : Value) (w : World) (R : Value → World → Prop) : Prop :=
  BND (lenl l_p0) fun t7_1 =>
  ∃ (J_2 : Value → Value → World → Prop) (m_2 : Value → Value → World → Nat), J_2 (Value.slice none 0 0) (Value.int .i64 0) w ∧ ∀ (_d_2 : Env) (b_3 t8_5 : Value) (w1 : World), J_2 b_3 t8_5 w1 →
  (BND (binv .int .lss t8_5 t7_1) fun t9_14 =>
  COND t9_14
  (BND (iaddr 1 l_p0 t8_5) fun t10_15 =>
  BND (load1 w1 t10_15) fun t11_16 =>
  CALL PR F_vint_Put [t11_16] w1 fun t14_17 w2 =>
  APPEND 5 1 1 (Value.int .u8 0) b_3 t14_17 w2 fun t15_18 w3 =>
  BND (binv .int .add t8_5 (Value.int .i64 1)) fun t16_19 =>
  (J_2 t15_18 t16_19 w3 ∧ m_2 t15_18 t16_19 w3 < m_2 b_3 t8_5 w1))
  (R b_3 w1))
def ann_vint_All : List (Nat × List Nat) := [(1000003, [3, 8])]
theorem E_vint_All (l_p0 : Value) (w : World) (R : Value → World → Prop) : M_vint_All l_p0 w R = den PR ann_vint_All (bodyOf Tryd.f37) (retQ PR Tryd.f37.results.toList R) (env0 [l_p0]) w := by kernel_rfl
theorem C_vint_All {l_p0 : Value} {w : World} {R : Value → World → Prop} (h : M_vint_All l_p0 w R) : CALL PR F_vint_All [l_p0] w R :=
  call_of_den2 ann_vint_All Tryd.func37 (by kernel_rfl) (by kernel_rfl) (by kernel_rfl) ((E_vint_All l_p0 w R) ▸ h)
-- 38 slices.Equal[[]uint64,uint64]
def M_slices_Equal_uint64_uint64 (s1_p0 s2_p1 : Value) (w : World) (R : Value → World → Prop) : Prop :=
  BND (lenl s1_p0) fun t7_1 =>
  BND (lenl s2_p1) fun t9_2 =>
  BND (binv .int .neq t7_1 t9_2) fun t10_3 =>
  COND t10_3
  (R (Value.bool false) w)
  (BND (lenl s1_p0) fun t12_4 =>
  ∃ (J_5 : Value → World → Prop) (m_5 : Value → World → Nat), J_5 (Value.int .i64 0) w ∧ ∀ (_d_5 : Env) (t13_8 : Value) (w1 : World), J_5 t13_8 w1 →
  (BND (binv .int .lss t13_8 t12_4) fun t14_21 =>
  COND t14_21
  (BND (iaddr 1 s1_p0 t13_8) fun t18_22 =>
  BND (iaddr 1 s2_p1 t13_8) fun t22_23 =>
  BND (load1 w1.drew t18_22) fun t19_24 =>
  BND (load1 w1.drew t22_23) fun t23_25 =>
  BND (binv .int .neq t19_24 t23_25) fun t24_26 =>
  COND t24_26
  (R (Value.bool false) w1.drew)
  (BND (binv .int .add t13_8 (Value.int .i64 1)) fun t25_27 =>
  (J_5 t25_27 w1.drew ∧ m_5 t25_27 w1.drew < m_5 t13_8 w1)))
  (R (Value.bool true) w1)))
def ann_slices_Equal_uint64_uint64 : List (Nat × List Nat) := [(6, [0, 1, 2, 4, 5, 6, 3, 7, 8]), (1000004, [13])]
theorem E_slices_Equal_uint64_uint64 (s1_p0 s2_p1 : Value) (w : World) (R : Value → World → Prop) : M_slices_Equal_uint64_uint64 s1_p0 s2_p1 w R = den PR ann_slices_Equal_uint64_uint64 (bodyOf Tryd.f38) (retQ PR Tryd.f38.results.toList R) (env0 [s1_p0, s2_p1]) w := by kernel_rfl
theorem C_slices_Equal_uint64_uint64 {s1_p0 s2_p1 : Value} {w : World} {R : Value → World → Prop} (h : M_slices_Equal_uint64_uint64 s1_p0 s2_p1 w R) : CALL PR F_slices_Equal_uint64_uint64 [s1_p0, s2_p1] w R :=
  call_of_den2 ann_slices_Equal_uint64_uint64 Tryd.func38 (by kernel_rfl) (by kernel_rfl) (by kernel_rfl) ((E_slices_Equal_uint64_uint64 s1_p0 s2_p1 w R) ▸ h)
-- 39 tumbrel.record.All
def M_record_All (b_p0 : Value) (w : World) (R : Value → World → Prop) : Prop :=
  CALL PR F_frame_All [b_p0] w fun t19_1 w1 =>
  BND (extractv t19_1 0) fun t20_2 =>
  BND (extractv t19_1 1) fun t21_3 =>
  BND (extractv t19_1 2) fun t22_4 =>
  BND (lenl t20_2) fun t24_5 =>
  ∃ (J_6 : Value → Value → Value → Value → World → Prop) (m_6 : Value → Value → Value → Value → World → Nat), J_6 (Value.slice none 0 0) (Value.slice none 0 0) (Value.int .i64 0) (Value.int .i64 0) w1 ∧ ∀ (_d_6 : Env) (out_10 ends_11 at_12 t25_18 : Value) (w2 : World), J_6 out_10 ends_11 at_12 t25_18 w2 →
  (BND (binv .int .lss t25_18 t24_5) fun t26_50 =>
  COND t26_50
  (BND (iaddr 2 t20_2 t25_18) fun t27_51 =>
  BND (loadn 2 w2 t27_51) fun t28_52 =>
  NEW (newv 86 w2 (Value.agg #[(Value.int .u8 0), (Value.slice none 0 0)])) fun x_53 w3 =>
  BND (storev 2 w3 x_53 t28_52) fun w4 =>
  BND (loadn 2 w4 x_53) fun t30_54 =>
  CALL PR F_record_Read [t30_54] w4 fun t31_55 w5 =>
  BND (extractv t31_55 0) fun t32_56 =>
  BND (extractv t31_55 1) fun t33_57 =>
  NEW (newv 26 w5 (Value.agg #[(Value.int .i64 0), (Value.slice none 0 0), (Value.string ByteArray.empty)])) fun r_58 w6 =>
  BND (storev 3 w6 r_58 t32_56) fun w7 =>
  BND (binv .int .neq t33_57 (Value.int .i64 0)) fun t35_59 =>
  COND t35_59
  (R (.tuple #[out_10, ends_11, t33_57]) w7)
  (BND (loadn 2 w7 x_53) fun t40_60 =>
  CALL PR F_frame_Bytes [t40_60] w7 fun t41_61 w8 =>
  BND (extractv t41_61 0) fun t42_62 =>
  BND (extractv t41_61 1) fun t43_63 =>
  BND (lenl t42_62) fun t46_64 =>
  BND (binv .int .add at_12 t46_64) fun t47_65 =>
  BND (loadn 3 w8 r_58) fun t49_66 =>
  BND (newslice 26 #[(Value.int .i64 0), (Value.slice none 0 0), (Value.string ByteArray.empty)] 3 1 [(0, 3, t49_66)] w8) fun p_ => NEW p_ fun t50_67 w9 =>
  APPEND 26 3 48 (Value.agg #[(Value.int .i64 0), (Value.slice none 0 0), (Value.string ByteArray.empty)]) out_10 t50_67 w9 fun t51_68 w10 =>
  BND (newslice 3 #[(Value.int .i64 0)] 1 1 [(0, 1, t47_65)] w10) fun p_ => NEW p_ fun t54_69 w11 =>
  APPEND 3 1 8 (Value.int .i64 0) ends_11 t54_69 w11 fun t55_70 w12 =>
  BND (binv .int .add t25_18 (Value.int .i64 1)) fun t56_71 =>
  (J_6 t51_68 t55_70 t47_65 t56_71 w12 ∧ m_6 t51_68 t55_70 t47_65 t56_71 w12 < m_6 out_10 ends_11 at_12 t25_18 w2)))
  (R (.tuple #[out_10, ends_11, t22_4]) w2))
def ann_record_All : List (Nat × List Nat) := [(1000006, [8, 9, 10, 25])]
theorem E_record_All (b_p0 : Value) (w : World) (R : Value → World → Prop) : M_record_All b_p0 w R = den PR ann_record_All (bodyOf Tryd.f39) (retQ PR Tryd.f39.results.toList R) (env0 [b_p0]) w := by kernel_rfl
theorem C_record_All {b_p0 : Value} {w : World} {R : Value → World → Prop} (h : M_record_All b_p0 w R) : CALL PR F_record_All [b_p0] w R :=
  call_of_den2 ann_record_All Tryd.func39 (by kernel_rfl) (by kernel_rfl) (by kernel_rfl) ((E_record_All b_p0 w R) ▸ h)
-- 41 strconv.FormatUint
def M_strconv_FormatUint (i_p0 base_p1 : Value) (w : World) (R : Value → World → Prop) : Prop :=
  CALL PR F_internal_strconv_FormatUint [i_p0, base_p1] w fun t7_1 w1 =>
  R t7_1 w1
def ann_strconv_FormatUint : List (Nat × List Nat) := []
theorem E_strconv_FormatUint (i_p0 base_p1 : Value) (w : World) (R : Value → World → Prop) : M_strconv_FormatUint i_p0 base_p1 w R = den PR ann_strconv_FormatUint (bodyOf Tryd.f41) (retQ PR Tryd.f41.results.toList R) (env0 [i_p0, base_p1]) w := by kernel_rfl
theorem C_strconv_FormatUint {i_p0 base_p1 : Value} {w : World} {R : Value → World → Prop} (h : M_strconv_FormatUint i_p0 base_p1 w R) : CALL PR F_strconv_FormatUint [i_p0, base_p1] w R :=
  call_of_den2 ann_strconv_FormatUint Tryd.func41 (by kernel_rfl) (by kernel_rfl) (by kernel_rfl) ((E_strconv_FormatUint i_p0 base_p1 w R) ▸ h)
-- 42 (*tumbrel.disk.Disk).Held
def M_disk_Disk_Held (d_p0 : Value) (w : World) (R : Value → World → Prop) : Prop :=
  ∃ S_1 : Nat → World → Prop,
  S_1 8 w.drew ∧
  BND (nilchk d_p0) fun t10_2 =>
  BND (faddr 1 t10_2) fun t11_3 =>
  BND (nilchk d_p0) fun t15_4 =>
  BND (faddr 2 t15_4) fun t16_5 =>
  FLT (S_1 8) (fun w_ => load1 w_ t16_5) fun t17_6 =>
  BND (load1 w.drew t11_3) fun t12_7 =>
  BND (newslice 72 #[(Value.map none)] 1 1 [(0, 1, t12_7)] w.drew) fun p_ => NEW p_ fun t13_8 w1 =>
  S_1 8 w1 ∧
  APPEND 72 1 8 (Value.map none) t13_8 t17_6 w1 fun t18_9 w2 =>
  BND (lenl t18_9) fun t19_10 =>
  ∃ (J_11 : Value → Value → Value → World → Prop) (m_11 : Value → Value → Value → World → Nat), J_11 (Value.slice none 0 0) (Value.int .i64 0) (Value.int .i64 0) w2 ∧ ∀ (_d_11 : Env) (seen_12 n_13 t20_16 : Value) (w3 : World), J_11 seen_12 n_13 t20_16 w3 →
  (BND (binv .int .lss t20_16 t19_10) fun t21_42 =>
  COND t21_42
  (BND (iaddr 1 t18_9 t20_16) fun t22_43 =>
  BND (load1 w3 t22_43) fun t23_44 =>
  BND (rangemv w3 t23_44) fun p_ => NEW p_ fun t25_45 w4 =>
  ∃ (J_46 : Value → Value → World → Prop) (m_46 : Value → Value → World → Nat), J_46 seen_12 n_13 w4 ∧ ∀ (_d_46 : Env) (seen_47 n_48 : Value) (w5 : World), J_46 seen_47 n_48 w5 →
  (NEXTM t25_45 w5 fun t26_69 w6 =>
  BND (extractv t26_69 0) fun t27_70 =>
  COND t27_70
  (BND (entryv w6 t25_45) fun t28_71 =>
  BND (extractv t28_71 1) fun t29_72 =>
  CALL PR F_slices_Contains_disk_file_disk_file [seen_47, t29_72] w6 fun t32_73 w7 =>
  BND (unv .not t32_73) fun t33_74 =>
  JOIN (α := Value → Value → World → Prop) (fun k_88 => COND t33_74
  (BND (newslice 80 #[(Value.pointer none)] 1 1 [(0, 1, t29_72)] w7) fun p_ => NEW p_ fun t36_89 w9 =>
  APPEND 80 1 8 (Value.pointer none) seen_47 t36_89 w9 fun t37_90 w10 =>
  BND (nilchk t29_72) fun t40_91 =>
  BND (faddr 0 t40_91) fun t41_92 =>
  BND (load1 w10 t41_92) fun t42_93 =>
  BND (lenl t42_93) fun t43_94 =>
  BND (binv .int .add n_48 t43_94) fun t44_95 =>
  k_88 t37_90 t44_95 w10)
  (k_88 seen_47 n_48 w7))
  (fun seen_75 n_76 w8 => (J_46 seen_75 n_76 w8 ∧ m_46 seen_75 n_76 w8 < m_46 seen_47 n_48 w5)))
  (BND (binv .int .add t20_16 (Value.int .i64 1)) fun t45_96 =>
  (J_11 seen_47 n_48 t45_96 w6 ∧ m_11 seen_47 n_48 t45_96 w6 < m_11 seen_12 n_13 t20_16 w3))))
  (R n_13 w3))
def ann_disk_Disk_Held : List (Nat × List Nat) := [(3, [0, 1, 2, 5, 6, 7, 8, 11, 3, 4, 9, 10]), (1000004, [3, 4, 20]), (1000007, [3, 4]), (2000003, [8]), (3003004, [8])]
theorem E_disk_Disk_Held (d_p0 : Value) (w : World) (R : Value → World → Prop) : M_disk_Disk_Held d_p0 w R = den PR ann_disk_Disk_Held (bodyOf Tryd.f42) (retQ PR Tryd.f42.results.toList R) (env0 [d_p0]) w := by kernel_rfl
theorem C_disk_Disk_Held {d_p0 : Value} {w : World} {R : Value → World → Prop} (h : M_disk_Disk_Held d_p0 w R) : CALL PR F_disk_Disk_Held [d_p0] w R :=
  call_of_den2 ann_disk_Disk_Held Tryd.func42 (by kernel_rfl) (by kernel_rfl) (by kernel_rfl) ((E_disk_Disk_Held d_p0 w R) ▸ h)
-- 43 tumbrel.disk.named
def M_disk_named (name_p0 : Value) (w : World) (R : Value → World → Prop) : Prop :=
  BND (lens name_p0) fun t6_1 =>
  BND (binv .int .eql t6_1 (Value.int .i64 0)) fun t7_2 =>
  BND (grd (isB t7_2 false) (some name_p0)) fun t9_3 =>
  BND (grd (isB t7_2 false) (lens t9_3)) fun t10_4 =>
  BND (grd (isB t7_2 false) (binv .int .gtr t10_4 (Value.int .i64 12))) fun t11_5 =>
  BND (pickv t7_2 (Value.bool true) t11_5) fun t12_6 =>
  COND t12_6
  (R (Value.bool false) w)
  (BYTES 5 name_p0 w fun t14_7 w1 =>
  BND (lenl t14_7) fun t15_8 =>
  ∃ (J_9 : Value → World → Prop) (m_9 : Value → World → Nat), J_9 (Value.int .i64 0) w1 ∧ ∀ (_d_9 : Env) (t16_12 : Value) (w2 : World), J_9 t16_12 w2 →
  (BND (binv .int .lss t16_12 t15_8) fun t17_35 =>
  COND t17_35
  (BND (iaddr 1 t14_7 t16_12) fun t18_36 =>
  BND (load1 w2 t18_36) fun t19_37 =>
  BND (binv .int .neq t19_37 (Value.int .u8 46)) fun t21_38 =>
  BND (grd (isB t21_38 true) (some t19_37)) fun t23_39 =>
  BND (grd (isB t21_38 true) (binv .int .lss t23_39 (Value.int .u8 48))) fun t24_40 =>
  BND (grd (isB t21_38 true) (some t24_40)) fun t25_41 =>
  BND (grd (isB t25_41 false) (some t19_37)) fun t26_42 =>
  BND (grd (isB t25_41 false) (binv .int .gtr t26_42 (Value.int .u8 57))) fun t27_43 =>
  BND (grd (isB t21_38 true) (pickv t25_41 (Value.bool true) t27_43)) fun t28_44 =>
  BND (pickv t21_38 t28_44 (Value.bool false)) fun t29_45 =>
  BND (grd (isB t29_45 true) (some t19_37)) fun t31_46 =>
  BND (grd (isB t29_45 true) (binv .int .lss t31_46 (Value.int .u8 97))) fun t32_47 =>
  BND (grd (isB t29_45 true) (some t32_47)) fun t33_48 =>
  BND (grd (isB t33_48 false) (some t19_37)) fun t34_49 =>
  BND (grd (isB t33_48 false) (binv .int .gtr t34_49 (Value.int .u8 122))) fun t35_50 =>
  BND (grd (isB t29_45 true) (pickv t33_48 (Value.bool true) t35_50)) fun t36_51 =>
  BND (pickv t29_45 t36_51 (Value.bool false)) fun t37_52 =>
  COND t37_52
  (R (Value.bool false) w2)
  (BND (binv .int .add t16_12 (Value.int .i64 1)) fun t38_53 =>
  (J_9 t38_53 w2 ∧ m_9 t38_53 w2 < m_9 t16_12 w2)))
  (R (Value.bool true) w2)))
def ann_disk_named : List (Nat × List Nat) := [(1000004, [16])]
theorem E_disk_named (name_p0 : Value) (w : World) (R : Value → World → Prop) : M_disk_named name_p0 w R = den PR ann_disk_named (bodyOf Tryd.f43) (retQ PR Tryd.f43.results.toList R) (env0 [name_p0]) w := by kernel_rfl
theorem C_disk_named {name_p0 : Value} {w : World} {R : Value → World → Prop} (h : M_disk_named name_p0 w R) : CALL PR F_disk_named [name_p0] w R :=
  call_of_den2 ann_disk_named Tryd.func43 (by kernel_rfl) (by kernel_rfl) (by kernel_rfl) ((E_disk_named name_p0 w R) ▸ h)
-- 44 (*tumbrel.disk.Disk).change
def M_disk_Disk_change (d_p0 : Value) (w : World) (R : Value → World → Prop) : Prop :=
  CALL PR F_disk_Disk_now [d_p0] w fun t5_1 w1 =>
  CALL PR F_maps_Clone_file [t5_1] w1 fun t6_2 w2 =>
  BND (nilchk d_p0) fun t9_3 =>
  BND (faddr 2 t9_3) fun t10_4 =>
  BND (load1 w2 t10_4) fun t11_5 =>
  BND (newslice 72 #[(Value.map none)] 1 1 [(0, 1, t6_2)] w2) fun p_ => NEW p_ fun t13_6 w3 =>
  APPEND 72 1 8 (Value.map none) t11_5 t13_6 w3 fun t14_7 w4 =>
  BND (nilchk d_p0) fun t15_8 =>
  BND (faddr 2 t15_8) fun t16_9 =>
  BND (storev 1 w4 t16_9 t14_7) fun w5 =>
  R t6_2 w5
def ann_disk_Disk_change : List (Nat × List Nat) := []
theorem E_disk_Disk_change (d_p0 : Value) (w : World) (R : Value → World → Prop) : M_disk_Disk_change d_p0 w R = den PR ann_disk_Disk_change (bodyOf Tryd.f44) (retQ PR Tryd.f44.results.toList R) (env0 [d_p0]) w := by kernel_rfl
theorem C_disk_Disk_change {d_p0 : Value} {w : World} {R : Value → World → Prop} (h : M_disk_Disk_change d_p0 w R) : CALL PR F_disk_Disk_change [d_p0] w R :=
  call_of_den2 ann_disk_Disk_change Tryd.func44 (by kernel_rfl) (by kernel_rfl) (by kernel_rfl) ((E_disk_Disk_change d_p0 w R) ▸ h)
-- 45 tumbrel.frame.low[int]
def M_frame_low_int (n_p0 : Value) (w : World) (R : Value → World → Prop) : Prop :=
  BND (binv .int .and n_p0 (Value.int .i64 255)) fun t5_1 =>
  BND (convi .u8 t5_1) fun t6_2 =>
  BND (shiftv .shr n_p0 (Value.int .u64 8)) fun t8_3 =>
  R (.tuple #[t6_2, t8_3]) w
def ann_frame_low_int : List (Nat × List Nat) := []
theorem E_frame_low_int (n_p0 : Value) (w : World) (R : Value → World → Prop) : M_frame_low_int n_p0 w R = den PR ann_frame_low_int (bodyOf Tryd.f45) (retQ PR Tryd.f45.results.toList R) (env0 [n_p0]) w := by kernel_rfl
theorem C_frame_low_int {n_p0 : Value} {w : World} {R : Value → World → Prop} (h : M_frame_low_int n_p0 w R) : CALL PR F_frame_low_int [n_p0] w R :=
  call_of_den2 ann_frame_low_int Tryd.func45 (by kernel_rfl) (by kernel_rfl) (by kernel_rfl) ((E_frame_low_int n_p0 w R) ▸ h)
-- 46 tumbrel.sum.Put
def M_sum_Put (b_p0 : Value) (w : World) (R : Value → World → Prop) : Prop :=
  CALL PR F_sum_Of [b_p0] w fun t5_1 w1 =>
  CALL PR F_sum_four [t5_1] w1 fun t6_2 w2 =>
  BND (newslice 59 #[(Value.slice none 0 0)] 1 2 [(0, 1, b_p0), (1, 1, t6_2)] w2) fun p_ => NEW p_ fun t7_3 w3 =>
  CALL PR F_slices_Concat_byte_byte [t7_3] w3 fun t8_4 w4 =>
  R t8_4 w4
def ann_sum_Put : List (Nat × List Nat) := []
theorem E_sum_Put (b_p0 : Value) (w : World) (R : Value → World → Prop) : M_sum_Put b_p0 w R = den PR ann_sum_Put (bodyOf Tryd.f46) (retQ PR Tryd.f46.results.toList R) (env0 [b_p0]) w := by kernel_rfl
theorem C_sum_Put {b_p0 : Value} {w : World} {R : Value → World → Prop} (h : M_sum_Put b_p0 w R) : CALL PR F_sum_Put [b_p0] w R :=
  call_of_den2 ann_sum_Put Tryd.func46 (by kernel_rfl) (by kernel_rfl) (by kernel_rfl) ((E_sum_Put b_p0 w R) ▸ h)
-- 47 tumbrel.vint.Put
def M_vint_Put (n_p0 : Value) (w : World) (R : Value → World → Prop) : Prop :=
  NEW (newv 111 w (Value.agg #[(Value.int .u8 0), (Value.int .u8 0), (Value.int .u8 0), (Value.int .u8 0), (Value.int .u8 0), (Value.int .u8 0), (Value.int .u8 0), (Value.int .u8 0), (Value.int .u8 0), (Value.int .u8 0)])) fun b_1 w1 =>
  CALL PR F_vint_lay [b_1, n_p0] w1 fun t6_2 w2 =>
  BND (slicea 10 1 b_1 none (some t6_2) (some t6_2)) fun t9_3 =>
  R t9_3 w2
def ann_vint_Put : List (Nat × List Nat) := []
theorem E_vint_Put (n_p0 : Value) (w : World) (R : Value → World → Prop) : M_vint_Put n_p0 w R = den PR ann_vint_Put (bodyOf Tryd.f47) (retQ PR Tryd.f47.results.toList R) (env0 [n_p0]) w := by kernel_rfl
theorem C_vint_Put {n_p0 : Value} {w : World} {R : Value → World → Prop} (h : M_vint_Put n_p0 w R) : CALL PR F_vint_Put [n_p0] w R :=
  call_of_den2 ann_vint_Put Tryd.func47 (by kernel_rfl) (by kernel_rfl) (by kernel_rfl) ((E_vint_Put n_p0 w R) ▸ h)
-- 48 tumbrel.frame.All
def M_frame_All (b_p0 : Value) (w : World) (R : Value → World → Prop) : Prop :=
  ∃ (J_1 : Value → Value → World → Prop) (m_1 : Value → Value → World → Nat), J_1 (Value.slice none 0 0) (Value.int .i64 0) w ∧ ∀ (_d_1 : Env) (l_5 at_6 : Value) (w1 : World), J_1 l_5 at_6 w1 →
  (BND (lenl b_p0) fun t12_34 =>
  BND (binv .int .lss at_6 t12_34) fun t13_35 =>
  COND t13_35
  (BND (slicev 1 b_p0 (some at_6) none) fun t17_36 =>
  CALL PR F_frame_Read [t17_36] w1 fun t18_37 w2 =>
  BND (extractv t18_37 0) fun t19_38 =>
  BND (extractv t18_37 1) fun t20_39 =>
  BND (extractv t18_37 2) fun t21_40 =>
  NEW (newv 86 w2 (Value.agg #[(Value.int .u8 0), (Value.slice none 0 0)])) fun x_41 w3 =>
  BND (storev 2 w3 x_41 t19_38) fun w4 =>
  BND (binv .int .neq t21_40 (Value.int .i64 0)) fun t23_42 =>
  COND t23_42
  (R (.tuple #[l_5, at_6, t21_40]) w4)
  (BND (loadn 2 w4 x_41) fun t28_43 =>
  BND (newslice 86 #[(Value.int .u8 0), (Value.slice none 0 0)] 2 1 [(0, 2, t28_43)] w4) fun p_ => NEW p_ fun t29_44 w5 =>
  APPEND 86 2 32 (Value.agg #[(Value.int .u8 0), (Value.slice none 0 0)]) l_5 t29_44 w5 fun t30_45 w6 =>
  BND (binv .int .add at_6 t20_39) fun t33_46 =>
  (J_1 t30_45 t33_46 w6 ∧ m_1 t30_45 t33_46 w6 < m_1 l_5 at_6 w1)))
  (R (.tuple #[l_5, at_6, (Value.int .i64 0)]) w1))
def ann_frame_All : List (Nat × List Nat) := [(1000003, [5, 6])]
theorem E_frame_All (b_p0 : Value) (w : World) (R : Value → World → Prop) : M_frame_All b_p0 w R = den PR ann_frame_All (bodyOf Tryd.f48) (retQ PR Tryd.f48.results.toList R) (env0 [b_p0]) w := by kernel_rfl
theorem C_frame_All {b_p0 : Value} {w : World} {R : Value → World → Prop} (h : M_frame_All b_p0 w R) : CALL PR F_frame_All [b_p0] w R :=
  call_of_den2 ann_frame_All Tryd.func48 (by kernel_rfl) (by kernel_rfl) (by kernel_rfl) ((E_frame_All b_p0 w R) ▸ h)
-- 49 tumbrel.record.Read
def M_record_Read (x_p0 : Value) (w : World) (R : Value → World → Prop) : Prop :=
  NEW (newv 86 w x_p0) fun x_1 w1 =>
  NEW (newv 26 w1 (Value.agg #[(Value.int .i64 0), (Value.slice none 0 0), (Value.string ByteArray.empty)])) fun t2_2 w2 =>
  BND (faddr 0 x_1) fun t9_3 =>
  BND (load1 w2 t9_3) fun t10_4 =>
  BND (convi .i64 t10_4) fun t11_5 =>
  BND (buildv #[(Value.int .i64 0), (Value.slice none 0 0), (Value.string ByteArray.empty)] [(0, 1, t11_5)]) fun t12_6 =>
  NEW (newv 26 w2 (Value.agg #[(Value.int .i64 0), (Value.slice none 0 0), (Value.string ByteArray.empty)])) fun r_7 w3 =>
  BND (storev 3 w3 r_7 t12_6) fun w4 =>
  BND (faddr 0 r_7) fun t13_8 =>
  BND (load1 w4 t13_8) fun t14_9 =>
  CALL PR F_record_known [t14_9] w4 fun t15_10 w5 =>
  BND (unv .not t15_10) fun t16_11 =>
  COND t16_11
  (BND (buildv #[(Value.int .i64 0), (Value.slice none 0 0), (Value.string ByteArray.empty)] []) fun t17_12 =>
  BND (storev 3 w5 t2_2 t17_12) fun w6 =>
  BND (loadn 3 w6 t2_2) fun r_13 =>
  R (.tuple #[r_13, (Value.int .i64 2)]) w6)
  (BND (faddr 1 x_1) fun t18_14 =>
  BND (load1 w5 t18_14) fun t19_15 =>
  ∃ S_16 : Nat → World → Prop,
  S_16 2 w5.drew ∧
  BND (faddr 0 r_7) fun t21_17 =>
  FLT (S_16 2) (fun w_ => load1 w_ t21_17) fun t22_18 =>
  CALL PR F_record_numbers [] w5.drew fun t20_19 w7 =>
  S_16 2 w7 ∧
  BND (indexav false 18 1 t20_19 t22_18) fun t23_20 =>
  ∃ (J_21 : Value → Value → World → Prop) (m_21 : Value → Value → World → Nat), J_21 t19_15 (Value.int .i64 0) w7 ∧ ∀ (_d_21 : Env) (rest_23 t24_27 : Value) (w8 : World), J_21 rest_23 t24_27 w8 →
  (BND (binv .int .lss t24_27 t23_20) fun t25_49 =>
  COND t25_49
  (CALL PR F_vint_Get [rest_23] w8 fun t28_50 w9 =>
  BND (extractv t28_50 0) fun t29_51 =>
  BND (extractv t28_50 1) fun t30_52 =>
  BND (extractv t28_50 2) fun t31_53 =>
  BND (binv .int .neq t31_53 (Value.int .i64 0)) fun t33_54 =>
  COND t33_54
  (BND (buildv #[(Value.int .i64 0), (Value.slice none 0 0), (Value.string ByteArray.empty)] []) fun t34_55 =>
  BND (storev 3 w9 t2_2 t34_55) fun w10 =>
  BND (loadn 3 w10 t2_2) fun r_56 =>
  R (.tuple #[r_56, t31_53]) w10)
  (∃ S_57 : Nat → World → Prop,
  S_57 1 w9.drew ∧
  BND (faddr 1 r_7) fun t36_58 =>
  FLT (S_57 1) (fun w_ => load1 w_ t36_58) fun t37_59 =>
  BND (slicev 1 rest_23 (some t30_52) none) fun t43_60 =>
  BND (newslice 22 #[(Value.int .u64 0)] 1 1 [(0, 1, t29_51)] w9.drew) fun p_ => NEW p_ fun t39_61 w11 =>
  S_57 1 w11 ∧
  APPEND 22 1 8 (Value.int .u64 0) t37_59 t39_61 w11 fun t40_62 w12 =>
  BND (faddr 1 r_7) fun t44_63 =>
  BND (storev 1 w12 t44_63 t40_62) fun w13 =>
  BND (binv .int .add t24_27 (Value.int .i64 1)) fun t45_64 =>
  (J_21 t43_60 t45_64 w13 ∧ m_21 t43_60 t45_64 w13 < m_21 rest_23 t24_27 w8)))
  (BND (faddr 0 r_7) fun t46_65 =>
  BND (load1 w8 t46_65) fun t47_66 =>
  BND (lenl rest_23) fun t49_67 =>
  CALL PR F_record_fits [t47_66, t49_67] w8 fun t50_68 w14 =>
  BND (unv .not t50_68) fun t51_69 =>
  COND t51_69
  (BND (buildv #[(Value.int .i64 0), (Value.slice none 0 0), (Value.string ByteArray.empty)] []) fun t52_70 =>
  BND (storev 3 w14 t2_2 t52_70) fun w15 =>
  BND (loadn 3 w15 t2_2) fun r_71 =>
  R (.tuple #[r_71, (Value.int .i64 2)]) w15)
  (BND (textv .u8 textOfBytes w14 rest_23) fun t54_72 =>
  BND (faddr 2 r_7) fun t55_73 =>
  BND (storev 1 w14 t55_73 t54_72) fun w16 =>
  BND (loadn 3 w16 r_7) fun t56_74 =>
  BND (storev 3 w16 t2_2 t56_74) fun w17 =>
  BND (loadn 3 w17 t2_2) fun r_75 =>
  R (.tuple #[r_75, (Value.int .i64 0)]) w17))))
def ann_record_Read : List (Nat × List Nat) := [(5, [1, 2, 4, 0, 3]), (10, [0, 1, 2, 5, 6, 7, 3, 4, 8, 9, 10]), (1000006, [5, 24]), (2000005, [2]), (2000010, [1]), (3005000, [2]), (3010003, [1])]
theorem E_record_Read (x_p0 : Value) (w : World) (R : Value → World → Prop) : M_record_Read x_p0 w R = den PR ann_record_Read (bodyOf Tryd.f49) (retQ PR Tryd.f49.results.toList R) (env0 [x_p0]) w := by kernel_rfl
theorem C_record_Read {x_p0 : Value} {w : World} {R : Value → World → Prop} (h : M_record_Read x_p0 w R) : CALL PR F_record_Read [x_p0] w R :=
  call_of_den2 ann_record_Read Tryd.func49 (by kernel_rfl) (by kernel_rfl) (by kernel_rfl) ((E_record_Read x_p0 w R) ▸ h)
-- 51 internal.strconv.FormatUint
def M_internal_strconv_FormatUint (i_p0 base_p1 : Value) (w : World) (R : Value → World → Prop) : Prop :=
  BND (binv .int .eql base_p1 (Value.int .i64 10)) fun t10_1 =>
  COND t10_1
  (BND (binv .int .lss i_p0 (Value.int .u64 100)) fun t12_2 =>
  COND t12_2
  (BND (convi .i64 i_p0) fun t14_3 =>
  CALL PR F_internal_strconv_small [t14_3] w fun t15_4 w1 =>
  R t15_4 w1)
  (NEW (newv 119 w (Value.agg #[(Value.int .u8 0), (Value.int .u8 0), (Value.int .u8 0), (Value.int .u8 0), (Value.int .u8 0), (Value.int .u8 0), (Value.int .u8 0), (Value.int .u8 0), (Value.int .u8 0), (Value.int .u8 0), (Value.int .u8 0), (Value.int .u8 0), (Value.int .u8 0), (Value.int .u8 0), (Value.int .u8 0), (Value.int .u8 0), (Value.int .u8 0), (Value.int .u8 0), (Value.int .u8 0), (Value.int .u8 0), (Value.int .u8 0), (Value.int .u8 0), (Value.int .u8 0), (Value.int .u8 0)])) fun a_5 w2 =>
  CALL PR F_internal_strconv_numDigits [i_p0] w2 fun t17_6 w3 =>
  BND (slicea 24 1 a_5 none (some t17_6) none) fun t19_7 =>
  CALL PR F_internal_strconv_formatBase10 [t19_7, i_p0] w3 fun t21_8 w4 =>
  BND (slicea 24 1 a_5 none (some t17_6) none) fun t23_9 =>
  BND (textv .u8 textOfBytes w4 t23_9) fun t24_10 =>
  R t24_10 w4))
  (CALL PR F_internal_strconv_formatBits [(Value.slice none 0 0), i_p0, base_p1, (Value.bool false), (Value.bool false)] w fun t28_11 w5 =>
  BND (extractv t28_11 0) fun t29_12 =>
  BND (extractv t28_11 1) fun t30_13 =>
  R t30_13 w5)
def ann_internal_strconv_FormatUint : List (Nat × List Nat) := []
theorem E_internal_strconv_FormatUint (i_p0 base_p1 : Value) (w : World) (R : Value → World → Prop) : M_internal_strconv_FormatUint i_p0 base_p1 w R = den PR ann_internal_strconv_FormatUint (bodyOf Tryd.f51) (retQ PR Tryd.f51.results.toList R) (env0 [i_p0, base_p1]) w := by kernel_rfl
theorem C_internal_strconv_FormatUint {i_p0 base_p1 : Value} {w : World} {R : Value → World → Prop} (h : M_internal_strconv_FormatUint i_p0 base_p1 w R) : CALL PR F_internal_strconv_FormatUint [i_p0, base_p1] w R :=
  call_of_den2 ann_internal_strconv_FormatUint Tryd.func51 (by kernel_rfl) (by kernel_rfl) (by kernel_rfl) ((E_internal_strconv_FormatUint i_p0 base_p1 w R) ▸ h)
-- 52 slices.Contains[[]*tumbrel.disk.file,*tumbrel.disk.file]
def M_slices_Contains_disk_file_disk_file (s_p0 v_p1 : Value) (w : World) (R : Value → World → Prop) : Prop :=
  CALL PR F_slices_Index_disk_file_disk_file [s_p0, v_p1] w fun t7_1 w1 =>
  BND (binv .int .geq t7_1 (Value.int .i64 0)) fun t8_2 =>
  R t8_2 w1
def ann_slices_Contains_disk_file_disk_file : List (Nat × List Nat) := []
theorem E_slices_Contains_disk_file_disk_file (s_p0 v_p1 : Value) (w : World) (R : Value → World → Prop) : M_slices_Contains_disk_file_disk_file s_p0 v_p1 w R = den PR ann_slices_Contains_disk_file_disk_file (bodyOf Tryd.f52) (retQ PR Tryd.f52.results.toList R) (env0 [s_p0, v_p1]) w := by kernel_rfl
theorem C_slices_Contains_disk_file_disk_file {s_p0 v_p1 : Value} {w : World} {R : Value → World → Prop} (h : M_slices_Contains_disk_file_disk_file s_p0 v_p1 w R) : CALL PR F_slices_Contains_disk_file_disk_file [s_p0, v_p1] w R :=
  call_of_den2 ann_slices_Contains_disk_file_disk_file Tryd.func52 (by kernel_rfl) (by kernel_rfl) (by kernel_rfl) ((E_slices_Contains_disk_file_disk_file s_p0 v_p1 w R) ▸ h)
-- 54 slices.Concat[[]byte,byte]
def M_slices_Concat_byte_byte (slices_p0 : Value) (w : World) (R : Value → World → Prop) : Prop :=
  BND (lenl slices_p0) fun t10_1 =>
  ∃ (J_2 : Value → Value → World → Prop) (m_2 : Value → Value → World → Nat), J_2 (Value.int .i64 0) (Value.int .i64 0) w ∧ ∀ (_d_2 : Env) (size_3 t11_5 : Value) (w1 : World), J_2 size_3 t11_5 w1 →
  (BND (binv .int .lss t11_5 t10_1) fun t12_17 =>
  COND t12_17
  (BND (iaddr 1 slices_p0 t11_5) fun t13_18 =>
  BND (load1 w1 t13_18) fun t14_19 =>
  BND (lenl t14_19) fun t17_20 =>
  BND (binv .int .add size_3 t17_20) fun t18_21 =>
  BND (binv .int .lss t18_21 (Value.int .i64 0)) fun t20_22 =>
  COND t20_22
  (False)
  (BND (binv .int .add t11_5 (Value.int .i64 1)) fun t22_23 =>
  (J_2 t18_21 t22_23 w1 ∧ m_2 t18_21 t22_23 w1 < m_2 size_3 t11_5 w1)))
  (CALL PR F_slices_Grow_byte_byte [(Value.slice none 0 0), size_3] w1 fun t24_24 w2 =>
  BND (lenl slices_p0) fun t26_25 =>
  ∃ (J_26 : Value → Value → World → Prop) (m_26 : Value → Value → World → Nat), J_26 t24_24 (Value.int .i64 0) w2 ∧ ∀ (_d_26 : Env) (newslice_27 t27_29 : Value) (w3 : World), J_26 newslice_27 t27_29 w3 →
  (BND (binv .int .lss t27_29 t26_25) fun t28_37 =>
  COND t28_37
  (BND (iaddr 1 slices_p0 t27_29) fun t29_38 =>
  BND (load1 w3 t29_38) fun t30_39 =>
  APPEND 5 1 1 (Value.int .u8 0) newslice_27 t30_39 w3 fun t33_40 w4 =>
  BND (binv .int .add t27_29 (Value.int .i64 1)) fun t34_41 =>
  (J_26 t33_40 t34_41 w4 ∧ m_26 t33_40 t34_41 w4 < m_26 newslice_27 t27_29 w3))
  (R newslice_27 w3))))
def ann_slices_Concat_byte_byte : List (Nat × List Nat) := [(1000003, [3, 11]), (1000011, [6, 27])]
theorem E_slices_Concat_byte_byte (slices_p0 : Value) (w : World) (R : Value → World → Prop) : M_slices_Concat_byte_byte slices_p0 w R = den PR ann_slices_Concat_byte_byte (bodyOf Tryd.f54) (retQ PR Tryd.f54.results.toList R) (env0 [slices_p0]) w := by kernel_rfl
theorem C_slices_Concat_byte_byte {slices_p0 : Value} {w : World} {R : Value → World → Prop} (h : M_slices_Concat_byte_byte slices_p0 w R) : CALL PR F_slices_Concat_byte_byte [slices_p0] w R :=
  call_of_den2 ann_slices_Concat_byte_byte Tryd.func54 (by kernel_rfl) (by kernel_rfl) (by kernel_rfl) ((E_slices_Concat_byte_byte slices_p0 w R) ▸ h)
-- 55 tumbrel.sum.four
def M_sum_four (n_p0 : Value) (w : World) (R : Value → World → Prop) : Prop :=
  BND (convi .u8 n_p0) fun t4_1 =>
  BND (shiftv .shr n_p0 (Value.int .u64 8)) fun t6_2 =>
  BND (convi .u8 t6_2) fun t7_3 =>
  BND (shiftv .shr n_p0 (Value.int .u64 16)) fun t9_4 =>
  BND (convi .u8 t9_4) fun t10_5 =>
  BND (shiftv .shr n_p0 (Value.int .u64 24)) fun t12_6 =>
  BND (convi .u8 t12_6) fun t13_7 =>
  BND (newslice 5 #[(Value.int .u8 0)] 1 4 [(0, 1, t4_1), (1, 1, t7_3), (2, 1, t10_5), (3, 1, t13_7)] w) fun p_ => NEW p_ fun t14_8 w1 =>
  R t14_8 w1
def ann_sum_four : List (Nat × List Nat) := []
theorem E_sum_four (n_p0 : Value) (w : World) (R : Value → World → Prop) : M_sum_four n_p0 w R = den PR ann_sum_four (bodyOf Tryd.f55) (retQ PR Tryd.f55.results.toList R) (env0 [n_p0]) w := by kernel_rfl
theorem C_sum_four {n_p0 : Value} {w : World} {R : Value → World → Prop} (h : M_sum_four n_p0 w R) : CALL PR F_sum_four [n_p0] w R :=
  call_of_den2 ann_sum_four Tryd.func55 (by kernel_rfl) (by kernel_rfl) (by kernel_rfl) ((E_sum_four n_p0 w R) ▸ h)
-- 56 tumbrel.sum.Of
def M_sum_Of (b_p0 : Value) (w : World) (R : Value → World → Prop) : Prop :=
  CALL PR F_sum_More [(Value.int .u32 0), b_p0] w fun t4_1 w1 =>
  R t4_1 w1
def ann_sum_Of : List (Nat × List Nat) := []
theorem E_sum_Of (b_p0 : Value) (w : World) (R : Value → World → Prop) : M_sum_Of b_p0 w R = den PR ann_sum_Of (bodyOf Tryd.f56) (retQ PR Tryd.f56.results.toList R) (env0 [b_p0]) w := by kernel_rfl
theorem C_sum_Of {b_p0 : Value} {w : World} {R : Value → World → Prop} (h : M_sum_Of b_p0 w R) : CALL PR F_sum_Of [b_p0] w R :=
  call_of_den2 ann_sum_Of Tryd.func56 (by kernel_rfl) (by kernel_rfl) (by kernel_rfl) ((E_sum_Of b_p0 w R) ▸ h)
-- 57 tumbrel.vint.lay
def M_vint_lay (into_p0 n_p1 : Value) (w : World) (R : Value → World → Prop) : Prop :=
  ∃ (J_1 : Value → Value → World → Prop) (m_1 : Value → Value → World → Nat), J_1 n_p1 (Value.int .i64 0) w ∧ ∀ (_d_1 : Env) (n_2 i_3 : Value) (w1 : World), J_1 n_2 i_3 w1 →
  (BND (binv .int .geq n_2 (Value.int .u64 128)) fun t7_17 =>
  COND t7_17
  (BND (convi .u8 n_2) fun t13_18 =>
  BND (binv .int .or t13_18 (Value.int .u8 128)) fun t14_19 =>
  BND (nilchk into_p0) fun t15_20 =>
  BND (iaddra 10 1 t15_20 i_3) fun t16_21 =>
  BND (storev 1 w1 t16_21 t14_19) fun w2 =>
  BND (binv .int .add i_3 (Value.int .i64 1)) fun t18_22 =>
  BND (shiftv .shr n_2 (Value.int .u64 7)) fun t9_23 =>
  (J_1 t9_23 t18_22 w2 ∧ m_1 t9_23 t18_22 w2 < m_1 n_2 i_3 w1))
  (BND (convi .u8 n_2) fun t22_24 =>
  BND (nilchk into_p0) fun t23_25 =>
  BND (iaddra 10 1 t23_25 i_3) fun t24_26 =>
  BND (storev 1 w1 t24_26 t22_24) fun w3 =>
  BND (binv .int .add i_3 (Value.int .i64 1)) fun t26_27 =>
  R t26_27 w3))
def ann_vint_lay : List (Nat × List Nat) := [(1000002, [1, 5])]
theorem E_vint_lay (into_p0 n_p1 : Value) (w : World) (R : Value → World → Prop) : M_vint_lay into_p0 n_p1 w R = den PR ann_vint_lay (bodyOf Tryd.f57) (retQ PR Tryd.f57.results.toList R) (env0 [into_p0, n_p1]) w := by kernel_rfl
theorem C_vint_lay {into_p0 n_p1 : Value} {w : World} {R : Value → World → Prop} (h : M_vint_lay into_p0 n_p1 w R) : CALL PR F_vint_lay [into_p0, n_p1] w R :=
  call_of_den2 ann_vint_lay Tryd.func57 (by kernel_rfl) (by kernel_rfl) (by kernel_rfl) ((E_vint_lay into_p0 n_p1 w R) ▸ h)
-- 58 tumbrel.frame.Read
def M_frame_Read (b_p0 : Value) (w : World) (R : Value → World → Prop) : Prop :=
  NEW (newv 86 w (Value.agg #[(Value.int .u8 0), (Value.slice none 0 0)])) fun t2_1 w1 =>
  BND (lenl b_p0) fun t11_2 =>
  BND (binv .int .lss t11_2 (Value.int .i64 7)) fun t12_3 =>
  COND t12_3
  (BND (buildv #[(Value.int .u8 0), (Value.slice none 0 0)] []) fun t13_4 =>
  BND (storev 2 w1 t2_1 t13_4) fun w2 =>
  BND (loadn 2 w2 t2_1) fun r_5 =>
  R (.tuple #[r_5, (Value.int .i64 0), (Value.int .i64 3)]) w2)
  (BND (slicev 1 b_p0 none (some (Value.int .i64 7))) fun t16_6 =>
  CALL PR F_sum_Cut [t16_6] w1 fun t17_7 w3 =>
  BND (extractv t17_7 0) fun t18_8 =>
  BND (extractv t17_7 1) fun t19_9 =>
  BND (unv .not t19_9) fun t21_10 =>
  COND t21_10
  (BND (buildv #[(Value.int .u8 0), (Value.slice none 0 0)] []) fun t22_11 =>
  BND (storev 2 w3 t2_1 t22_11) fun w4 =>
  BND (loadn 2 w4 t2_1) fun r_12 =>
  R (.tuple #[r_12, (Value.int .i64 0), (Value.int .i64 8)]) w4)
  (BND (iaddr 1 t18_8 (Value.int .i64 1)) fun t24_13 =>
  BND (iaddr 1 t18_8 (Value.int .i64 2)) fun t28_14 =>
  BND (load1 w3.drew t24_13) fun t25_15 =>
  BND (convi .i64 t25_15) fun t26_16 =>
  BND (load1 w3.drew t28_14) fun t29_17 =>
  BND (convi .i64 t29_17) fun t30_18 =>
  BND (shiftv .shl t30_18 (Value.int .u64 8)) fun t31_19 =>
  BND (binv .int .or t26_16 t31_19) fun t32_20 =>
  BND (binv .int .add (Value.int .i64 7) t32_20) fun t34_21 =>
  BND (binv .int .add t34_21 (Value.int .i64 4)) fun t35_22 =>
  BND (binv .int .gtr t32_20 (Value.int .i64 400)) fun t38_23 =>
  COND t38_23
  (BND (buildv #[(Value.int .u8 0), (Value.slice none 0 0)] []) fun t39_24 =>
  BND (storev 2 w3.drew t2_1 t39_24) fun w5 =>
  BND (loadn 2 w5 t2_1) fun r_25 =>
  R (.tuple #[r_25, (Value.int .i64 0), (Value.int .i64 2)]) w5)
  (BND (lenl b_p0) fun t42_26 =>
  BND (binv .int .lss t42_26 t35_22) fun t44_27 =>
  COND t44_27
  (BND (buildv #[(Value.int .u8 0), (Value.slice none 0 0)] []) fun t45_28 =>
  BND (storev 2 w3.drew t2_1 t45_28) fun w6 =>
  BND (loadn 2 w6 t2_1) fun r_29 =>
  R (.tuple #[r_29, (Value.int .i64 0), (Value.int .i64 3)]) w6)
  (BND (slicev 1 b_p0 (some (Value.int .i64 7)) (some t35_22)) fun t49_30 =>
  CALL PR F_sum_Cut [t49_30] w3.drew fun t50_31 w7 =>
  BND (extractv t50_31 0) fun t51_32 =>
  BND (extractv t50_31 1) fun t52_33 =>
  BND (unv .not t52_33) fun t54_34 =>
  COND t54_34
  (BND (buildv #[(Value.int .u8 0), (Value.slice none 0 0)] []) fun t55_35 =>
  BND (storev 2 w7 t2_1 t55_35) fun w8 =>
  BND (loadn 2 w8 t2_1) fun r_36 =>
  R (.tuple #[r_36, (Value.int .i64 0), (Value.int .i64 8)]) w8)
  (BND (iaddr 1 t18_8 (Value.int .i64 0)) fun t57_37 =>
  BND (load1 w7 t57_37) fun t58_38 =>
  BND (buildv #[(Value.int .u8 0), (Value.slice none 0 0)] [(0, 1, t58_38), (1, 1, t51_32)]) fun t60_39 =>
  BND (storev 2 w7 t2_1 t60_39) fun w9 =>
  BND (loadn 2 w9 t2_1) fun r_40 =>
  R (.tuple #[r_40, t35_22, (Value.int .i64 0)]) w9)))))
def ann_frame_Read : List (Nat × List Nat) := [(6, [0, 1, 4, 5, 2, 3, 6, 7, 8, 9, 10])]
theorem E_frame_Read (b_p0 : Value) (w : World) (R : Value → World → Prop) : M_frame_Read b_p0 w R = den PR ann_frame_Read (bodyOf Tryd.f58) (retQ PR Tryd.f58.results.toList R) (env0 [b_p0]) w := by kernel_rfl
theorem C_frame_Read {b_p0 : Value} {w : World} {R : Value → World → Prop} (h : M_frame_Read b_p0 w R) : CALL PR F_frame_Read [b_p0] w R :=
  call_of_den2 ann_frame_Read Tryd.func58 (by kernel_rfl) (by kernel_rfl) (by kernel_rfl) ((E_frame_Read b_p0 w R) ▸ h)
-- 59 tumbrel.vint.Get
def M_vint_Get (b_p0 : Value) (w : World) (R : Value → World → Prop) : Prop :=
  BND (lenl b_p0) fun t9_1 =>
  ∃ (J_2 : Value → Value → World → Prop) (m_2 : Value → Value → World → Nat), J_2 (Value.int .u64 0) (Value.int .i64 0) w ∧ ∀ (_d_2 : Env) (n_6 t10_9 : Value) (w1 : World), J_2 n_6 t10_9 w1 →
  (BND (binv .int .lss t10_9 t9_1) fun t11_40 =>
  COND t11_40
  (BND (iaddr 1 b_p0 t10_9) fun t13_41 =>
  BND (load1 w1 t13_41) fun t14_42 =>
  BND (binv .int .eql t10_9 (Value.int .i64 9)) fun t16_43 =>
  BND (grd (isB t16_43 true) (some t14_42)) fun t18_44 =>
  BND (grd (isB t16_43 true) (binv .int .gtr t18_44 (Value.int .u8 1))) fun t19_45 =>
  BND (pickv t16_43 t19_45 (Value.bool false)) fun t20_46 =>
  COND t20_46
  (R (.tuple #[(Value.int .u64 0), (Value.int .i64 0), (Value.int .i64 2)]) w1)
  (BND (binv .int .rem t14_42 (Value.int .u8 128)) fun t23_47 =>
  BND (convi .u64 t23_47) fun t24_48 =>
  BND (binv .int .mul (Value.int .i64 7) t10_9) fun t26_49 =>
  BND (shiftv .shl t24_48 t26_49) fun t27_50 =>
  BND (binv .int .or n_6 t27_50) fun t28_51 =>
  BND (binv .int .geq t14_42 (Value.int .u8 128)) fun t30_52 =>
  COND t30_52
  (BND (binv .int .add t10_9 (Value.int .i64 1)) fun t40_53 =>
  (J_2 t28_51 t40_53 w1 ∧ m_2 t28_51 t40_53 w1 < m_2 n_6 t10_9 w1))
  (BND (binv .int .eql t14_42 (Value.int .u8 0)) fun t32_54 =>
  BND (grd (isB t32_54 true) (some t10_9)) fun t34_55 =>
  BND (grd (isB t32_54 true) (binv .int .gtr t34_55 (Value.int .i64 0))) fun t35_56 =>
  BND (pickv t32_54 t35_56 (Value.bool false)) fun t36_57 =>
  COND t36_57
  (R (.tuple #[(Value.int .u64 0), (Value.int .i64 0), (Value.int .i64 2)]) w1)
  (BND (binv .int .add t10_9 (Value.int .i64 1)) fun t39_58 =>
  R (.tuple #[t28_51, t39_58, (Value.int .i64 0)]) w1))))
  (R (.tuple #[(Value.int .u64 0), (Value.int .i64 0), (Value.int .i64 3)]) w1))
def ann_vint_Get : List (Nat × List Nat) := [(1000003, [5, 10])]
theorem E_vint_Get (b_p0 : Value) (w : World) (R : Value → World → Prop) : M_vint_Get b_p0 w R = den PR ann_vint_Get (bodyOf Tryd.f59) (retQ PR Tryd.f59.results.toList R) (env0 [b_p0]) w := by kernel_rfl
theorem C_vint_Get {b_p0 : Value} {w : World} {R : Value → World → Prop} (h : M_vint_Get b_p0 w R) : CALL PR F_vint_Get [b_p0] w R :=
  call_of_den2 ann_vint_Get Tryd.func59 (by kernel_rfl) (by kernel_rfl) (by kernel_rfl) ((E_vint_Get b_p0 w R) ▸ h)
-- 65 slices.Index[[]*tumbrel.disk.file,*tumbrel.disk.file]
def M_slices_Index_disk_file_disk_file (s_p0 v_p1 : Value) (w : World) (R : Value → World → Prop) : Prop :=
  BND (lenl s_p0) fun t7_1 =>
  ∃ (J_2 : Value → World → Prop) (m_2 : Value → World → Nat), J_2 (Value.int .i64 0) w ∧ ∀ (_d_2 : Env) (t8_5 : Value) (w1 : World), J_2 t8_5 w1 →
  (BND (binv .int .lss t8_5 t7_1) fun t9_16 =>
  COND t9_16
  (BND (iaddr 1 s_p0 t8_5) fun t14_17 =>
  BND (load1 w1 t14_17) fun t15_18 =>
  BND (ptrv w1 .eql v_p1 t15_18) fun t16_19 =>
  COND t16_19
  (R t8_5 w1)
  (BND (binv .int .add t8_5 (Value.int .i64 1)) fun t18_20 =>
  (J_2 t18_20 w1 ∧ m_2 t18_20 w1 < m_2 t8_5 w1)))
  (R (Value.int .i64 (-1)) w1))
def ann_slices_Index_disk_file_disk_file : List (Nat × List Nat) := [(1000002, [8])]
theorem E_slices_Index_disk_file_disk_file (s_p0 v_p1 : Value) (w : World) (R : Value → World → Prop) : M_slices_Index_disk_file_disk_file s_p0 v_p1 w R = den PR ann_slices_Index_disk_file_disk_file (bodyOf Tryd.f65) (retQ PR Tryd.f65.results.toList R) (env0 [s_p0, v_p1]) w := by kernel_rfl
theorem C_slices_Index_disk_file_disk_file {s_p0 v_p1 : Value} {w : World} {R : Value → World → Prop} (h : M_slices_Index_disk_file_disk_file s_p0 v_p1 w R) : CALL PR F_slices_Index_disk_file_disk_file [s_p0, v_p1] w R :=
  call_of_den2 ann_slices_Index_disk_file_disk_file Tryd.func65 (by kernel_rfl) (by kernel_rfl) (by kernel_rfl) ((E_slices_Index_disk_file_disk_file s_p0 v_p1 w R) ▸ h)
-- 68 tumbrel.sum.More
def M_sum_More (sum_p0 b_p1 : Value) (w : World) (R : Value → World → Prop) : Prop :=
  CALL PR F_sum_Table [] w fun t8_1 w1 =>
  NEW (newv 136 w1 (Value.agg (List.replicate 256 (Value.int .u32 0)).toArray)) fun t_2 w2 =>
  BND (storev 256 w2 t_2 t8_1) fun w3 =>
  BND (unv .xor sum_p0) fun t10_3 =>
  BND (lenl b_p1) fun t12_4 =>
  ∃ (J_5 : Value → Value → World → Prop) (m_5 : Value → Value → World → Nat), J_5 t10_3 (Value.int .i64 0) w3 ∧ ∀ (_d_5 : Env) (sum_6 t13_8 : Value) (w4 : World), J_5 sum_6 t13_8 w4 →
  (BND (binv .int .lss t13_8 t12_4) fun t14_22 =>
  COND t14_22
  (BND (iaddr 1 b_p1 t13_8) fun t15_23 =>
  BND (load1 w4 t15_23) fun t16_24 =>
  BND (shiftv .shr sum_6 (Value.int .u64 8)) fun t18_25 =>
  BND (convi .u8 sum_6) fun t20_26 =>
  BND (binv .int .xor t20_26 t16_24) fun t22_27 =>
  BND (iaddra 256 1 t_2 t22_27) fun t23_28 =>
  BND (load1 w4 t23_28) fun t24_29 =>
  BND (binv .int .xor t18_25 t24_29) fun t25_30 =>
  BND (binv .int .add t13_8 (Value.int .i64 1)) fun t26_31 =>
  (J_5 t25_30 t26_31 w4 ∧ m_5 t25_30 t26_31 w4 < m_5 sum_6 t13_8 w4))
  (BND (unv .xor sum_6) fun t28_32 =>
  R t28_32 w4))
def ann_sum_More : List (Nat × List Nat) := [(1000004, [0, 13])]
theorem E_sum_More (sum_p0 b_p1 : Value) (w : World) (R : Value → World → Prop) : M_sum_More sum_p0 b_p1 w R = den PR ann_sum_More (bodyOf Tryd.f68) (retQ PR Tryd.f68.results.toList R) (env0 [sum_p0, b_p1]) w := by kernel_rfl
theorem C_sum_More {sum_p0 b_p1 : Value} {w : World} {R : Value → World → Prop} (h : M_sum_More sum_p0 b_p1 w R) : CALL PR F_sum_More [sum_p0, b_p1] w R :=
  call_of_den2 ann_sum_More Tryd.func68 (by kernel_rfl) (by kernel_rfl) (by kernel_rfl) ((E_sum_More sum_p0 b_p1 w R) ▸ h)
-- 69 tumbrel.sum.Cut
def M_sum_Cut (b_p0 : Value) (w : World) (R : Value → World → Prop) : Prop :=
  BND (lenl b_p0) fun t6_1 =>
  BND (binv .int .sub t6_1 (Value.int .i64 4)) fun t7_2 =>
  BND (binv .int .lss t7_2 (Value.int .i64 0)) fun t9_3 =>
  BND (grd (isB t9_3 false) (some b_p0)) fun t11_4 =>
  BND (grd (isB t9_3 false) (some t7_2)) fun t12_5 =>
  BND (grd (isB t9_3 false) (slicev 1 t11_4 (some t12_5) none)) fun t13_6 =>
  BND (grd (isB t9_3 false) (some b_p0)) fun t14_7 =>
  BND (grd (isB t9_3 false) (some t7_2)) fun t15_8 =>
  BND (grd (isB t9_3 false) (slicev 1 t14_7 none (some t15_8))) fun t16_9 =>
  GEF (isB t9_3 false) (fun k_ => CALL PR F_sum_Of [t16_9] w.drew k_) w.drew fun t17_10 w1 =>
  GEF (isB t9_3 false) (fun k_ => CALL PR F_sum_four [t17_10] w1 k_) w1 fun t18_11 w2 =>
  GEF (isB t9_3 false) (fun k_ => CALL PR F_slices_Equal_byte_byte [t13_6, t18_11] w2 k_) w2 fun t19_12 w3 =>
  BND (grd (isB t9_3 false) (unv .not t19_12)) fun t20_13 =>
  BND (pickv t9_3 (Value.bool true) t20_13) fun t21_14 =>
  COND t21_14
  (R (.tuple #[(Value.slice none 0 0), (Value.bool false)]) w3)
  (BND (slicev 1 b_p0 none (some t7_2)) fun t24_15 =>
  CALL PR F_slices_Clone_byte_byte [t24_15] w3 fun t25_16 w4 =>
  R (.tuple #[t25_16, (Value.bool true)]) w4)
def ann_sum_Cut : List (Nat × List Nat) := [(2, [0, 1, 2, 3, 4, 5, 6, 7, 8, 9, 10, 11, 12, 13])]
theorem E_sum_Cut (b_p0 : Value) (w : World) (R : Value → World → Prop) : M_sum_Cut b_p0 w R = den PR ann_sum_Cut (bodyOf Tryd.f69) (retQ PR Tryd.f69.results.toList R) (env0 [b_p0]) w := by kernel_rfl
theorem C_sum_Cut {b_p0 : Value} {w : World} {R : Value → World → Prop} (h : M_sum_Cut b_p0 w R) : CALL PR F_sum_Cut [b_p0] w R :=
  call_of_den2 ann_sum_Cut Tryd.func69 (by kernel_rfl) (by kernel_rfl) (by kernel_rfl) ((E_sum_Cut b_p0 w R) ▸ h)
-- 75 tumbrel.sum.Table
def M_sum_Table (w : World) (R : Value → World → Prop) : Prop :=
  NEW (newv 136 w (Value.agg (List.replicate 256 (Value.int .u32 0)).toArray)) fun t0_1 w1 =>
  NEW (newv 136 w1 (Value.agg (List.replicate 256 (Value.int .u32 0)).toArray)) fun t_2 w2 =>
  ∃ (J_3 : Value → World → Prop) (m_3 : Value → World → Nat), J_3 (Value.int .i64 0) w2 ∧ ∀ (_d_3 : Env) (t3_5 : Value) (w3 : World), J_3 t3_5 w3 →
  (BND (binv .int .lss t3_5 (Value.int .i64 256)) fun t4_14 =>
  COND t4_14
  (BND (convi .u32 t3_5) fun t8_15 =>
  CALL PR F_sum_entry [t8_15] w3 fun t9_16 w4 =>
  BND (iaddra 256 1 t_2 t3_5) fun t10_17 =>
  BND (storev 1 w4 t10_17 t9_16) fun w5 =>
  BND (binv .int .add t3_5 (Value.int .i64 1)) fun t11_18 =>
  (J_3 t11_18 w5 ∧ m_3 t11_18 w5 < m_3 t3_5 w3))
  (BND (loadn 256 w3 t_2) fun t12_19 =>
  BND (storev 256 w3 t0_1 t12_19) fun w6 =>
  BND (loadn 256 w6 t0_1) fun r_20 =>
  R r_20 w6))
def ann_sum_Table : List (Nat × List Nat) := [(1000003, [3])]
theorem E_sum_Table (w : World) (R : Value → World → Prop) : M_sum_Table w R = den PR ann_sum_Table (bodyOf Tryd.f75) (retQ PR Tryd.f75.results.toList R) (env0 []) w := by kernel_rfl
theorem C_sum_Table {w : World} {R : Value → World → Prop} (h : M_sum_Table w R) : CALL PR F_sum_Table [] w R :=
  call_of_den2 ann_sum_Table Tryd.func75 (by kernel_rfl) (by kernel_rfl) (by kernel_rfl) ((E_sum_Table w R) ▸ h)
-- 76 slices.Equal[[]byte,byte]
def M_slices_Equal_byte_byte (s1_p0 s2_p1 : Value) (w : World) (R : Value → World → Prop) : Prop :=
  BND (lenl s1_p0) fun t7_1 =>
  BND (lenl s2_p1) fun t9_2 =>
  BND (binv .int .neq t7_1 t9_2) fun t10_3 =>
  COND t10_3
  (R (Value.bool false) w)
  (BND (lenl s1_p0) fun t12_4 =>
  ∃ (J_5 : Value → World → Prop) (m_5 : Value → World → Nat), J_5 (Value.int .i64 0) w ∧ ∀ (_d_5 : Env) (t13_8 : Value) (w1 : World), J_5 t13_8 w1 →
  (BND (binv .int .lss t13_8 t12_4) fun t14_21 =>
  COND t14_21
  (BND (iaddr 1 s1_p0 t13_8) fun t18_22 =>
  BND (iaddr 1 s2_p1 t13_8) fun t22_23 =>
  BND (load1 w1.drew t18_22) fun t19_24 =>
  BND (load1 w1.drew t22_23) fun t23_25 =>
  BND (binv .int .neq t19_24 t23_25) fun t24_26 =>
  COND t24_26
  (R (Value.bool false) w1.drew)
  (BND (binv .int .add t13_8 (Value.int .i64 1)) fun t25_27 =>
  (J_5 t25_27 w1.drew ∧ m_5 t25_27 w1.drew < m_5 t13_8 w1)))
  (R (Value.bool true) w1)))
def ann_slices_Equal_byte_byte : List (Nat × List Nat) := [(6, [0, 1, 2, 4, 5, 6, 3, 7, 8]), (1000004, [13])]
theorem E_slices_Equal_byte_byte (s1_p0 s2_p1 : Value) (w : World) (R : Value → World → Prop) : M_slices_Equal_byte_byte s1_p0 s2_p1 w R = den PR ann_slices_Equal_byte_byte (bodyOf Tryd.f76) (retQ PR Tryd.f76.results.toList R) (env0 [s1_p0, s2_p1]) w := by kernel_rfl
theorem C_slices_Equal_byte_byte {s1_p0 s2_p1 : Value} {w : World} {R : Value → World → Prop} (h : M_slices_Equal_byte_byte s1_p0 s2_p1 w R) : CALL PR F_slices_Equal_byte_byte [s1_p0, s2_p1] w R :=
  call_of_den2 ann_slices_Equal_byte_byte Tryd.func76 (by kernel_rfl) (by kernel_rfl) (by kernel_rfl) ((E_slices_Equal_byte_byte s1_p0 s2_p1 w R) ▸ h)
-- 79 tumbrel.sum.entry
def M_sum_entry (n_p0 : Value) (w : World) (R : Value → World → Prop) : Prop :=
  ∃ (J_1 : Value → Value → World → Prop) (m_1 : Value → Value → World → Nat), J_1 n_p0 (Value.int .i64 0) w ∧ ∀ (_d_1 : Env) (n_2 t4_4 : Value) (w1 : World), J_1 n_2 t4_4 w1 →
  (BND (binv .int .lss t4_4 (Value.int .i64 8)) fun t5_15 =>
  COND t5_15
  (BND (binv .int .and n_2 (Value.int .u32 1)) fun t7_16 =>
  BND (shiftv .shr n_2 (Value.int .u64 1)) fun t9_17 =>
  BND (binv .int .eql t7_16 (Value.int .u32 1)) fun t11_18 =>
  JOIN (α := Value → World → Prop) (fun k_23 => COND t11_18
  (BND (binv .int .xor t9_17 (Value.int .u32 2197175160)) fun t13_24 =>
  k_23 t13_24 w1)
  (k_23 t9_17 w1))
  (fun n_19 w2 => BND (binv .int .add t4_4 (Value.int .i64 1)) fun t14_22 =>
  (J_1 n_19 t14_22 w2 ∧ m_1 n_19 t14_22 w2 < m_1 n_2 t4_4 w1)))
  (R n_2 w1))
def ann_sum_entry : List (Nat × List Nat) := [(1000002, [0, 4])]
theorem E_sum_entry (n_p0 : Value) (w : World) (R : Value → World → Prop) : M_sum_entry n_p0 w R = den PR ann_sum_entry (bodyOf Tryd.f79) (retQ PR Tryd.f79.results.toList R) (env0 [n_p0]) w := by kernel_rfl
theorem C_sum_entry {n_p0 : Value} {w : World} {R : Value → World → Prop} (h : M_sum_entry n_p0 w R) : CALL PR F_sum_entry [n_p0] w R :=
  call_of_den2 ann_sum_entry Tryd.func79 (by kernel_rfl) (by kernel_rfl) (by kernel_rfl) ((E_sum_entry n_p0 w R) ▸ h)
end Go.Proofs.YtofllgbdphakiaaDoor
