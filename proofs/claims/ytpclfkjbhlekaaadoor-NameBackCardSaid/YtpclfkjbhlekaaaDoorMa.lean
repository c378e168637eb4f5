/- Printed by denprint.py: the Go function as a predicate, and that it stands for the call. No condition. -/
import Derived.Test.YtpclfkjbhlekaaaDoorGf
set_option maxRecDepth 100000
set_option linter.unusedVariables false
namespace Go.Proofs.YtpclfkjbhlekaaaDoor
open Go.Den
-- 3 tumbrel.tumbrellaw14.NameTells
def M_tumbrellaw14_NameTells (kind_p0 n_p1 s_p2 l_p3 : Value) (w : World) (R : Value → World → Prop) : Prop :=
  CALL PR F_tumbrellaw14_awake [] w fun t19_1 w1 =>
  BND (unv .not t19_1) fun t20_2 =>
  COND t20_2
  (R (Value.bool false) w1)
  (BND (newslice 9 #[(Value.string ByteArray.empty)] 1 1 [(0, 1, s_p2)] w1) fun p_ => NEW p_ fun t22_3 w2 =>
  CALL PR F_tumbrelref14_Large [t22_3] w2 fun t23_4 w3 =>
  BND (grd (isB t23_4 false) (some l_p3)) fun t25_5 =>
  GEF (isB t23_4 false) (fun k_ => CALL PR F_tumbrelref14_Large [t25_5] w3 k_) w3 fun t26_6 w4 =>
  BND (pickv t23_4 (Value.bool true) t26_6) fun t27_7 =>
  COND t27_7
  (R (Value.bool true) w4)
  (CALL PR F_name_Of [kind_p0, n_p1] w4 fun t31_8 w5 =>
  BND (extractv t31_8 0) fun t32_9 =>
  BND (extractv t31_8 1) fun t33_10 =>
  CALL PR F_tumbrelref14_Of [kind_p0, n_p1] w5 fun t37_11 w6 =>
  BND (extractv t37_11 0) fun t38_12 =>
  BND (extractv t37_11 1) fun t39_13 =>
  CALL PR F_name_Read [s_p2] w6 fun t42_14 w7 =>
  BND (extractv t42_14 0) fun t43_15 =>
  BND (extractv t42_14 1) fun t44_16 =>
  BND (extractv t42_14 2) fun t45_17 =>
  CALL PR F_tumbrelref14_Read [s_p2] w7 fun t48_18 w8 =>
  BND (extractv t48_18 0) fun t49_19 =>
  BND (extractv t48_18 1) fun t50_20 =>
  BND (extractv t48_18 2) fun t51_21 =>
  BND (binv .str .eql t32_9 t38_12) fun t54_22 =>
  BND (grd (isB t54_22 true) (some t33_10)) fun t56_23 =>
  BND (grd (isB t54_22 true) (some t39_13)) fun t57_24 =>
  BND (grd (isB t54_22 true) (binv .int .eql t56_23 t57_24)) fun t58_25 =>
  BND (pickv t54_22 t58_25 (Value.bool false)) fun t59_26 =>
  BND (grd (isB t59_26 true) (some t43_15)) fun t61_27 =>
  BND (grd (isB t59_26 true) (some t49_19)) fun t62_28 =>
  BND (grd (isB t59_26 true) (binv .int .eql t61_27 t62_28)) fun t63_29 =>
  BND (pickv t59_26 t63_29 (Value.bool false)) fun t64_30 =>
  BND (grd (isB t64_30 true) (some t44_16)) fun t66_31 =>
  BND (grd (isB t64_30 true) (some t50_20)) fun t67_32 =>
  BND (grd (isB t64_30 true) (binv .int .eql t66_31 t67_32)) fun t68_33 =>
  BND (pickv t64_30 t68_33 (Value.bool false)) fun t69_34 =>
  BND (grd (isB t69_34 true) (some t45_17)) fun t71_35 =>
  BND (grd (isB t69_34 true) (some t51_21)) fun t72_36 =>
  BND (grd (isB t69_34 true) (binv .bool .eql t71_35 t72_36)) fun t73_37 =>
  BND (pickv t69_34 t73_37 (Value.bool false)) fun t74_38 =>
  BND (grd (isB t74_38 true) (some l_p3)) fun t76_39 =>
  BND (grd (isB t74_38 true) (some kind_p0)) fun t77_40 =>
  GEF (isB t74_38 true) (fun k_ => CALL PR F_name_Only [t76_39, t77_40] w8 k_) w8 fun t78_41 w9 =>
  BND (grd (isB t74_38 true) (some l_p3)) fun t79_42 =>
  BND (grd (isB t74_38 true) (some kind_p0)) fun t80_43 =>
  GEF (isB t74_38 true) (fun k_ => CALL PR F_tumbrelref14_Only [t79_42, t80_43] w9 k_) w9 fun t81_44 w10 =>
  GEF (isB t74_38 true) (fun k_ => CALL PR F_tumbrelref02_Same [t78_41, t81_44] w10 k_) w10 fun t82_45 w11 =>
  BND (pickv t74_38 t82_45 (Value.bool false)) fun t83_46 =>
  R t83_46 w11))
def ann_tumbrellaw14_NameTells : List (Nat × List Nat) := []
theorem E_tumbrellaw14_NameTells (kind_p0 n_p1 s_p2 l_p3 : Value) (w : World) (R : Value → World → Prop) : M_tumbrellaw14_NameTells kind_p0 n_p1 s_p2 l_p3 w R = den PR ann_tumbrellaw14_NameTells (bodyOf Tryd.f3) (retQ PR Tryd.f3.results.toList R) (env0 [kind_p0, n_p1, s_p2, l_p3]) w := by kernel_rfl
theorem C_tumbrellaw14_NameTells {kind_p0 n_p1 s_p2 l_p3 : Value} {w : World} {R : Value → World → Prop} (h : M_tumbrellaw14_NameTells kind_p0 n_p1 s_p2 l_p3 w R) : CALL PR F_tumbrellaw14_NameTells [kind_p0, n_p1, s_p2, l_p3] w R :=
  call_of_den2 ann_tumbrellaw14_NameTells Tryd.func3 (by kernel_rfl) (by kernel_rfl) (by kernel_rfl) ((E_tumbrellaw14_NameTells kind_p0 n_p1 s_p2 l_p3 w R) ▸ h)
-- 4 tumbrel.tumbrellaw14.NameUnlike
def M_tumbrellaw14_NameUnlike (kinds_p0 n_p1 l_p2 : Value) (w : World) (R : Value → World → Prop) : Prop :=
  NEW (newv 35 w kinds_p0) fun kinds_1 w1 =>
  NEW (newv 36 w1 n_p1) fun n_2 w2 =>
  CALL PR F_tumbrellaw14_awake [] w2 fun t20_3 w3 =>
  BND (unv .not t20_3) fun t21_4 =>
  COND t21_4
  (R (Value.bool false) w3)
  (CALL PR F_tumbrelref14_Large [l_p2] w3 fun t23_5 w4 =>
  COND t23_5
  (R (Value.bool true) w4)
  (BND (iaddra 2 1 kinds_1 (Value.int .i64 0)) fun t25_6 =>
  BND (load1 w4 t25_6) fun t26_7 =>
  BND (iaddra 2 1 n_2 (Value.int .i64 0)) fun t27_8 =>
  BND (load1 w4 t27_8) fun t28_9 =>
  CALL PR F_name_Of [t26_7, t28_9] w4 fun t29_10 w5 =>
  BND (extractv t29_10 0) fun t30_11 =>
  BND (extractv t29_10 1) fun t31_12 =>
  BND (iaddra 2 1 kinds_1 (Value.int .i64 1)) fun t33_13 =>
  BND (load1 w5 t33_13) fun t34_14 =>
  BND (iaddra 2 1 n_2 (Value.int .i64 1)) fun t35_15 =>
  BND (load1 w5 t35_15) fun t36_16 =>
  CALL PR F_name_Of [t34_14, t36_16] w5 fun t37_17 w6 =>
  BND (extractv t37_17 0) fun t38_18 =>
  BND (extractv t37_17 1) fun t39_19 =>
  BND (binv .int .eql t31_12 (Value.int .i64 0)) fun t41_20 =>
  BND (grd (isB t41_20 true) (some t39_19)) fun t43_21 =>
  BND (grd (isB t41_20 true) (binv .int .eql t43_21 (Value.int .i64 0))) fun t44_22 =>
  BND (pickv t41_20 t44_22 (Value.bool false)) fun t45_23 =>
  BND (grd (isB t45_23 true) (some t30_11)) fun t47_24 =>
  BND (grd (isB t45_23 true) (some t38_18)) fun t48_25 =>
  BND (grd (isB t45_23 true) (binv .str .eql t47_24 t48_25)) fun t49_26 =>
  BND (grd (isB t45_23 true) (iaddra 2 1 kinds_1 (Value.int .i64 0))) fun t50_27 =>
  BND (grd (isB t45_23 true) (load1 w6 t50_27)) fun t51_28 =>
  BND (grd (isB t45_23 true) (iaddra 2 1 kinds_1 (Value.int .i64 1))) fun t52_29 =>
  BND (grd (isB t45_23 true) (load1 w6 t52_29)) fun t53_30 =>
  BND (grd (isB t45_23 true) (binv .int .eql t51_28 t53_30)) fun t54_31 =>
  BND (grd (isB t45_23 true) (some t54_31)) fun t55_32 =>
  BND (grd (isB t55_32 true) (iaddra 2 1 n_2 (Value.int .i64 0))) fun t56_33 =>
  BND (grd (isB t55_32 true) (load1 w6 t56_33)) fun t57_34 =>
  BND (grd (isB t55_32 true) (iaddra 2 1 n_2 (Value.int .i64 1))) fun t58_35 =>
  BND (grd (isB t55_32 true) (load1 w6 t58_35)) fun t59_36 =>
  BND (grd (isB t55_32 true) (binv .int .eql t57_34 t59_36)) fun t60_37 =>
  BND (grd (isB t45_23 true) (pickv t55_32 t60_37 (Value.bool false))) fun t61_38 =>
  BND (grd (isB t45_23 true) (binv .bool .neq t49_26 t61_38)) fun t62_39 =>
  BND (pickv t45_23 t62_39 (Value.bool false)) fun t63_40 =>
  COND t63_40
  (R (Value.bool false) w6)
  (BND (iaddra 2 1 kinds_1 (Value.int .i64 0)) fun t65_41 =>
  BND (load1 w6 t65_41) fun t66_42 =>
  CALL PR F_name_Only [l_p2, t66_42] w6 fun t67_43 w7 =>
  BND (lenl l_p2) fun t69_44 =>
  ∃ (J_45 : Value → Value → World → Prop) (m_45 : Value → Value → World → Nat), J_45 (Value.int .i64 0) (Value.int .i64 0) w7 ∧ ∀ (_d_45 : Env) (many_46 t70_51 : Value) (w8 : World), J_45 many_46 t70_51 w8 →
  (BND (binv .int .lss t70_51 t69_44) fun t71_71 =>
  COND t71_71
  (BND (iaddr 1 l_p2 t70_51) fun t72_72 =>
  BND (load1 w8 t72_72) fun t73_73 =>
  CALL PR F_name_Read [t73_73] w8 fun t76_74 w9 =>
  BND (extractv t76_74 0) fun t77_75 =>
  BND (extractv t76_74 1) fun t78_76 =>
  BND (extractv t76_74 2) fun t79_77 =>
  BND (grd (isB t79_77 true) (some t77_75)) fun t82_78 =>
  BND (grd (isB t79_77 true) (iaddra 2 1 kinds_1 (Value.int .i64 0))) fun t83_79 =>
  BND (grd (isB t79_77 true) (load1 w9 t83_79)) fun t84_80 =>
  BND (grd (isB t79_77 true) (binv .int .eql t82_78 t84_80)) fun t85_81 =>
  BND (pickv t79_77 t85_81 (Value.bool false)) fun t86_82 =>
  JOIN (α := Value → World → Prop) (fun k_87 => COND t86_82
  (BND (binv .int .add many_46 (Value.int .i64 1)) fun t88_88 =>
  k_87 t88_88 w9)
  (k_87 many_46 w9))
  (fun many_83 w10 => BND (binv .int .add t70_51 (Value.int .i64 1)) fun t89_86 =>
  (J_45 many_83 t89_86 w10 ∧ m_45 many_83 t89_86 w10 < m_45 many_46 t70_51 w8)))
  (BND (lenl t67_43) fun t91_89 =>
  ∃ (J_90 : Value → World → Prop) (m_90 : Value → World → Nat), J_90 (Value.int .i64 0) w8 ∧ ∀ (_d_90 : Env) (t92_94 : Value) (w11 : World), J_90 t92_94 w11 →
  (BND (binv .int .lss t92_94 t91_89) fun t93_111 =>
  COND t93_111
  (BND (iaddr 1 t67_43 t92_94) fun t95_112 =>
  BND (load1 w11 t95_112) fun t96_113 =>
  BND (binv .int .gtr t92_94 (Value.int .i64 0)) fun t98_114 =>
  BND (grd (isB t98_114 true) (some t96_113)) fun t100_115 =>
  BND (grd (isB t98_114 true) (some t67_43)) fun t101_116 =>
  BND (grd (isB t98_114 true) (some t92_94)) fun t102_117 =>
  BND (grd (isB t98_114 true) (binv .int .sub t102_117 (Value.int .i64 1))) fun t103_118 =>
  BND (grd (isB t98_114 true) (iaddr 1 t101_116 t103_118)) fun t104_119 =>
  BND (grd (isB t98_114 true) (load1 w11 t104_119)) fun t105_120 =>
  BND (grd (isB t98_114 true) (binv .int .lss t100_115 t105_120)) fun t106_121 =>
  BND (pickv t98_114 t106_121 (Value.bool false)) fun t107_122 =>
  COND t107_122
  (R (Value.bool false) w11)
  (BND (binv .int .add t92_94 (Value.int .i64 1)) fun t108_123 =>
  (J_90 t108_123 w11 ∧ m_90 t108_123 w11 < m_90 t92_94 w11)))
  (BND (lenl t67_43) fun t111_124 =>
  BND (binv .int .eql many_46 t111_124) fun t112_125 =>
  R t112_125 w11)))))))
def ann_tumbrellaw14_NameUnlike : List (Nat × List Nat) := [(1000012, [12, 70]), (1000019, [92])]
theorem E_tumbrellaw14_NameUnlike (kinds_p0 n_p1 l_p2 : Value) (w : World) (R : Value → World → Prop) : M_tumbrellaw14_NameUnlike kinds_p0 n_p1 l_p2 w R = den PR ann_tumbrellaw14_NameUnlike (bodyOf Tryd.f4) (retQ PR Tryd.f4.results.toList R) (env0 [kinds_p0, n_p1, l_p2]) w := by kernel_rfl
theorem C_tumbrellaw14_NameUnlike {kinds_p0 n_p1 l_p2 : Value} {w : World} {R : Value → World → Prop} (h : M_tumbrellaw14_NameUnlike kinds_p0 n_p1 l_p2 w R) : CALL PR F_tumbrellaw14_NameUnlike [kinds_p0, n_p1, l_p2] w R :=
  call_of_den2 ann_tumbrellaw14_NameUnlike Tryd.func4 (by kernel_rfl) (by kernel_rfl) (by kernel_rfl) ((E_tumbrellaw14_NameUnlike kinds_p0 n_p1 l_p2 w R) ▸ h)
-- 5 tumbrel.tumbrellaw14.NameBack
def M_tumbrellaw14_NameBack (kind_p0 n_p1 s_p2 : Value) (w : World) (R : Value → World → Prop) : Prop :=
  CALL PR F_tumbrellaw14_awake [] w fun t19_1 w1 =>
  BND (unv .not t19_1) fun t20_2 =>
  COND t20_2
  (R (Value.bool false) w1)
  (BND (newslice 9 #[(Value.string ByteArray.empty)] 1 1 [(0, 1, s_p2)] w1) fun p_ => NEW p_ fun t22_3 w2 =>
  CALL PR F_tumbrelref14_Large [t22_3] w2 fun t23_4 w3 =>
  COND t23_4
  (R (Value.bool true) w3)
  (CALL PR F_name_Of [kind_p0, n_p1] w3 fun t27_5 w4 =>
  BND (extractv t27_5 0) fun t28_6 =>
  BND (extractv t27_5 1) fun t29_7 =>
  BND (binv .int .eql t29_7 (Value.int .i64 0)) fun t31_8 =>
  JOIN (α := World → Prop) (fun k_64 => COND t31_8
  (CALL PR F_name_Read [t28_6] w4 fun t34_65 w8 =>
  BND (extractv t34_65 0) fun t35_66 =>
  BND (extractv t34_65 1) fun t36_67 =>
  BND (extractv t34_65 2) fun t37_68 =>
  CALL PR F_disk_New [(Value.int .i64 100)] w8 fun t39_69 w9 =>
  BND (extractv t39_69 0) fun t40_70 =>
  BND (extractv t39_69 1) fun t41_71 =>
  BND (binv .int .neq t35_66 kind_p0) fun t44_72 =>
  BND (grd (isB t44_72 false) (some t36_67)) fun t46_73 =>
  BND (grd (isB t44_72 false) (some n_p1)) fun t47_74 =>
  BND (grd (isB t44_72 false) (binv .int .neq t46_73 t47_74)) fun t48_75 =>
  BND (pickv t44_72 (Value.bool true) t48_75) fun t49_76 =>
  BND (grd (isB t49_76 false) (some t37_68)) fun t51_77 =>
  BND (grd (isB t49_76 false) (unv .not t51_77)) fun t52_78 =>
  BND (pickv t49_76 (Value.bool true) t52_78) fun t53_79 =>
  BND (grd (isB t53_79 false) (some t40_70)) fun t55_80 =>
  BND (grd (isB t53_79 false) (binv .ptr .eql t55_80 (Value.pointer none))) fun t56_81 =>
  BND (pickv t53_79 (Value.bool true) t56_81) fun t57_82 =>
  BND (grd (isB t57_82 false) (some t40_70)) fun t59_83 =>
  BND (grd (isB t57_82 false) (some t28_6)) fun t60_84 =>
  GEF (isB t57_82 false) (fun k_ => CALL PR F_disk_Disk_Create [t59_83, t60_84] w9 k_) w9 fun t61_85 w10 =>
  BND (grd (isB t57_82 false) (binv .int .neq t61_85 (Value.int .i64 0))) fun t62_86 =>
  BND (pickv t57_82 (Value.bool true) t62_86) fun t63_87 =>
  COND t63_87
  (R (Value.bool false) w10)
  (k_64 w10))
  (k_64 w4))
  (fun w5 => CALL PR F_name_Read [s_p2] w5 fun t66_47 w6 =>
  BND (extractv t66_47 0) fun t67_48 =>
  BND (extractv t66_47 1) fun t68_49 =>
  BND (extractv t66_47 2) fun t69_50 =>
  BND (unv .not t69_50) fun t71_51 =>
  COND t71_51
  (BND (binv .int .eql t67_48 (Value.int .u8 0)) fun t73_52 =>
  BND (grd (isB t73_52 true) (some t68_49)) fun t75_53 =>
  BND (grd (isB t73_52 true) (binv .int .eql t75_53 (Value.int .u64 0))) fun t76_54 =>
  BND (pickv t73_52 t76_54 (Value.bool false)) fun t77_55 =>
  R t77_55 w6)
  (CALL PR F_name_Of [t67_48, t68_49] w6 fun t81_56 w7 =>
  BND (extractv t81_56 0) fun t82_57 =>
  BND (extractv t81_56 1) fun t83_58 =>
  BND (binv .int .eql t83_58 (Value.int .i64 0)) fun t85_59 =>
  BND (grd (isB t85_59 true) (some t82_57)) fun t87_60 =>
  BND (grd (isB t85_59 true) (some s_p2)) fun t88_61 =>
  BND (grd (isB t85_59 true) (binv .str .eql t87_60 t88_61)) fun t89_62 =>
  BND (pickv t85_59 t89_62 (Value.bool false)) fun t90_63 =>
  R t90_63 w7))))
def ann_tumbrellaw14_NameBack : List (Nat × List Nat) := []
theorem E_tumbrellaw14_NameBack (kind_p0 n_p1 s_p2 : Value) (w : World) (R : Value → World → Prop) : M_tumbrellaw14_NameBack kind_p0 n_p1 s_p2 w R = den PR ann_tumbrellaw14_NameBack (bodyOf Tryd.f5) (retQ PR Tryd.f5.results.toList R) (env0 [kind_p0, n_p1, s_p2]) w := by kernel_rfl
theorem C_tumbrellaw14_NameBack {kind_p0 n_p1 s_p2 : Value} {w : World} {R : Value → World → Prop} (h : M_tumbrellaw14_NameBack kind_p0 n_p1 s_p2 w R) : CALL PR F_tumbrellaw14_NameBack [kind_p0, n_p1, s_p2] w R :=
  call_of_den2 ann_tumbrellaw14_NameBack Tryd.func5 (by kernel_rfl) (by kernel_rfl) (by kernel_rfl) ((E_tumbrellaw14_NameBack kind_p0 n_p1 s_p2 w R) ▸ h)
-- 6 tumbrel.tumbrellaw14.awake
def M_tumbrellaw14_awake (w : World) (R : Value → World → Prop) : Prop :=
  CALL PR F_name_Of [(Value.int .u8 109), (Value.int .u64 12)] w fun t12_1 w1 =>
  BND (extractv t12_1 0) fun t13_2 =>
  BND (extractv t12_1 1) fun t14_3 =>
  CALL PR F_name_Read [(Value.string { data := #[101, 46, 48] })] w1 fun t16_4 w2 =>
  BND (extractv t16_4 0) fun t17_5 =>
  BND (extractv t16_4 1) fun t18_6 =>
  BND (extractv t16_4 2) fun t19_7 =>
  CALL PR F_name_Read [(Value.string { data := #[101, 46, 48, 48] })] w2 fun t21_8 w3 =>
  BND (extractv t21_8 0) fun t22_9 =>
  BND (extractv t21_8 1) fun t23_10 =>
  BND (extractv t21_8 2) fun t24_11 =>
  CALL PR F_name_Of [(Value.int .u8 120), (Value.int .u64 1)] w3 fun t26_12 w4 =>
  BND (extractv t26_12 0) fun t27_13 =>
  BND (extractv t26_12 1) fun t28_14 =>
  BND (binv .str .eql t13_2 (Value.string { data := #[109, 46, 49, 50] })) fun t30_15 =>
  BND (grd (isB t30_15 true) (some t14_3)) fun t32_16 =>
  BND (grd (isB t30_15 true) (binv .int .eql t32_16 (Value.int .i64 0))) fun t33_17 =>
  BND (pickv t30_15 t33_17 (Value.bool false)) fun t34_18 =>
  BND (grd (isB t34_18 true) (some t17_5)) fun t36_19 =>
  BND (grd (isB t34_18 true) (binv .int .eql t36_19 (Value.int .u8 101))) fun t37_20 =>
  BND (pickv t34_18 t37_20 (Value.bool false)) fun t38_21 =>
  BND (grd (isB t38_21 true) (some t18_6)) fun t40_22 =>
  BND (grd (isB t38_21 true) (binv .int .eql t40_22 (Value.int .u64 0))) fun t41_23 =>
  BND (pickv t38_21 t41_23 (Value.bool false)) fun t42_24 =>
  BND (grd (isB t42_24 true) (some t19_7)) fun t44_25 =>
  BND (pickv t42_24 t44_25 (Value.bool false)) fun t45_26 =>
  BND (grd (isB t45_26 true) (some t24_11)) fun t47_27 =>
  BND (grd (isB t45_26 true) (unv .not t47_27)) fun t48_28 =>
  BND (pickv t45_26 t48_28 (Value.bool false)) fun t49_29 =>
  BND (grd (isB t49_29 true) (some t28_14)) fun t51_30 =>
  BND (grd (isB t49_29 true) (binv .int .eql t51_30 (Value.int .i64 1))) fun t52_31 =>
  BND (pickv t49_29 t52_31 (Value.bool false)) fun t53_32 =>
  GEF (isB t53_32 true) (fun k_ => BND (newslice 9 #[(Value.string ByteArray.empty)] 1 3 [(0, 1, (Value.string { data := #[109, 46, 50] })), (1, 1, (Value.string { data := #[101, 46, 51] })), (2, 1, (Value.string { data := #[109, 46, 49] }))] w4) fun p_ => NEW p_ k_) w4 fun t55_33 w5 =>
  GEF (isB t53_32 true) (fun k_ => CALL PR F_name_Only [t55_33, (Value.int .u8 109)] w5 k_) w5 fun t56_34 w6 =>
  GEF (isB t53_32 true) (fun k_ => BND (newslice 22 #[(Value.int .u64 0)] 1 2 [(0, 1, (Value.int .u64 1)), (1, 1, (Value.int .u64 2))] w6) fun p_ => NEW p_ k_) w6 fun t57_35 w7 =>
  GEF (isB t53_32 true) (fun k_ => CALL PR F_tumbrelref02_Same [t56_34, t57_35] w7 k_) w7 fun t58_36 w8 =>
  BND (pickv t53_32 t58_36 (Value.bool false)) fun t59_37 =>
  R t59_37 w8
def ann_tumbrellaw14_awake : List (Nat × List Nat) := []
theorem E_tumbrellaw14_awake (w : World) (R : Value → World → Prop) : M_tumbrellaw14_awake w R = den PR ann_tumbrellaw14_awake (bodyOf Tryd.f6) (retQ PR Tryd.f6.results.toList R) (env0 []) w := by kernel_rfl
theorem C_tumbrellaw14_awake {w : World} {R : Value → World → Prop} (h : M_tumbrellaw14_awake w R) : CALL PR F_tumbrellaw14_awake [] w R :=
  call_of_den2 ann_tumbrellaw14_awake Tryd.func6 (by kernel_rfl) (by kernel_rfl) (by kernel_rfl) ((E_tumbrellaw14_awake w R) ▸ h)
-- 7 tumbrel.tumbrelref14.Large
def M_tumbrelref14_Large (l_p0 : Value) (w : World) (R : Value → World → Prop) : Prop :=
  BND (lenl l_p0) fun t5_1 =>
  BND (binv .int .gtr t5_1 (Value.int .i64 200)) fun t6_2 =>
  COND t6_2
  (R (Value.bool true) w)
  (∃ (J_3 : Value → World → Prop) (m_3 : Value → World → Nat), J_3 (Value.int .i64 0) w ∧ ∀ (_d_3 : Env) (i_5 : Value) (w1 : World), J_3 i_5 w1 →
  (BND (lenl l_p0) fun t9_18 =>
  BND (binv .int .lss i_5 t9_18) fun t10_19 =>
  COND t10_19
  (BND (iaddr 1 l_p0 i_5) fun t15_20 =>
  BND (load1 w1 t15_20) fun t16_21 =>
  BND (lens t16_21) fun t17_22 =>
  BND (binv .int .gtr t17_22 (Value.int .i64 300)) fun t18_23 =>
  COND t18_23
  (R (Value.bool true) w1)
  (BND (binv .int .add i_5 (Value.int .i64 1)) fun t12_24 =>
  (J_3 t12_24 w1 ∧ m_3 t12_24 w1 < m_3 i_5 w1)))
  (R (Value.bool false) w1)))
def ann_tumbrelref14_Large : List (Nat × List Nat) := [(1000004, [3])]
theorem E_tumbrelref14_Large (l_p0 : Value) (w : World) (R : Value → World → Prop) : M_tumbrelref14_Large l_p0 w R = den PR ann_tumbrelref14_Large (bodyOf Tryd.f7) (retQ PR Tryd.f7.results.toList R) (env0 [l_p0]) w := by kernel_rfl
theorem C_tumbrelref14_Large {l_p0 : Value} {w : World} {R : Value → World → Prop} (h : M_tumbrelref14_Large l_p0 w R) : CALL PR F_tumbrelref14_Large [l_p0] w R :=
  call_of_den2 ann_tumbrelref14_Large Tryd.func7 (by kernel_rfl) (by kernel_rfl) (by kernel_rfl) ((E_tumbrelref14_Large l_p0 w R) ▸ h)
-- 8 tumbrel.name.Of
def M_name_Of (kind_p0 n_p1 : Value) (w : World) (R : Value → World → Prop) : Prop :=
  CALL PR F_strings_IndexByte [(Value.string { data := #[109, 101, 115] }), kind_p0] w fun t7_1 w1 =>
  BND (binv .int .lss t7_1 (Value.int .i64 0)) fun t8_2 =>
  BND (grd (isB t8_2 false) (some n_p1)) fun t10_3 =>
  BND (grd (isB t8_2 false) (binv .int .geq t10_3 (Value.int .u64 10000000000))) fun t11_4 =>
  BND (pickv t8_2 (Value.bool true) t11_4) fun t12_5 =>
  COND t12_5
  (R (.tuple #[(Value.string { data := #[] }), (Value.int .i64 1)]) w1)
  (BND (convi .i32 kind_p0) fun t14_6 =>
  BND (runev t14_6) fun t15_7 =>
  BND (binv .str .add t15_7 (Value.string { data := #[46] })) fun t16_8 =>
  CALL PR F_strconv_FormatUint [n_p1, (Value.int .i64 10)] w1 fun t18_9 w2 =>
  BND (binv .str .add t16_8 t18_9) fun t19_10 =>
  R (.tuple #[t19_10, (Value.int .i64 0)]) w2)
def ann_name_Of : List (Nat × List Nat) := []
theorem E_name_Of (kind_p0 n_p1 : Value) (w : World) (R : Value → World → Prop) : M_name_Of kind_p0 n_p1 w R = den PR ann_name_Of (bodyOf Tryd.f8) (retQ PR Tryd.f8.results.toList R) (env0 [kind_p0, n_p1]) w := by kernel_rfl
theorem C_name_Of {kind_p0 n_p1 : Value} {w : World} {R : Value → World → Prop} (h : M_name_Of kind_p0 n_p1 w R) : CALL PR F_name_Of [kind_p0, n_p1] w R :=
  call_of_den2 ann_name_Of Tryd.func8 (by kernel_rfl) (by kernel_rfl) (by kernel_rfl) ((E_name_Of kind_p0 n_p1 w R) ▸ h)
-- 9 tumbrel.tumbrelref14.Of
def M_tumbrelref14_Of (kind_p0 n_p1 : Value) (w : World) (R : Value → World → Prop) : Prop :=
  BND (binv .int .neq kind_p0 (Value.int .u8 109)) fun t7_1 =>
  BND (grd (isB t7_1 true) (some kind_p0)) fun t9_2 =>
  BND (grd (isB t7_1 true) (binv .int .neq t9_2 (Value.int .u8 101))) fun t10_3 =>
  BND (pickv t7_1 t10_3 (Value.bool false)) fun t11_4 =>
  BND (grd (isB t11_4 true) (some kind_p0)) fun t13_5 =>
  BND (grd (isB t11_4 true) (binv .int .neq t13_5 (Value.int .u8 115))) fun t14_6 =>
  BND (pickv t11_4 t14_6 (Value.bool false)) fun t15_7 =>
  BND (grd (isB t15_7 false) (some n_p1)) fun t17_8 =>
  BND (grd (isB t15_7 false) (binv .int .gtr t17_8 (Value.int .u64 9999999999))) fun t18_9 =>
  BND (pickv t15_7 (Value.bool true) t18_9) fun t19_10 =>
  COND t19_10
  (R (.tuple #[(Value.string { data := #[] }), (Value.int .i64 1)]) w)
  (∃ S_11 : Nat → World → Prop,
  JOIN (α := Value → Value → World → Prop) (fun k_18 => (BND (newslice 5 #[(Value.int .u8 0)] 1 2 [(0, 1, kind_p0), (1, 1, (Value.int .u8 46))] w.drew) fun p_ => NEW p_ fun t21_19 w2 =>
  BND (textv .u8 textOfBytes w2 t21_19) fun t22_20 =>
  CALL PR F_tumbrelref14_digits [n_p1] w2 fun t24_21 w3 =>
  BND (binv .str .add t22_20 t24_21) fun t25_22 =>
  k_18 t25_22 (Value.int .i64 0) w3) ∧
  (BND (newslice 5 #[(Value.int .u8 0)] 1 2 [(0, 1, kind_p0), (1, 1, (Value.int .u8 46))] w.drew) fun p_ => NEW p_ fun t21_23 w4 =>
  CALL PR F_tumbrelref14_digits [n_p1] w4 fun t24_24 w5 =>
  BND (textv .u8 textOfBytes w5 t21_23) fun t22_25 =>
  BND (binv .str .add t22_25 t24_24) fun t25_26 =>
  k_18 t25_26 (Value.int .i64 0) w5) ∧
  (CALL PR F_tumbrelref14_digits [n_p1] w.drew fun t24_27 w6 =>
  BND (newslice 5 #[(Value.int .u8 0)] 1 2 [(0, 1, kind_p0), (1, 1, (Value.int .u8 46))] w6) fun p_ => NEW p_ fun t21_28 w7 =>
  BND (textv .u8 textOfBytes w7 t21_28) fun t22_29 =>
  BND (binv .str .add t22_29 t24_27) fun t25_30 =>
  k_18 t25_30 (Value.int .i64 0) w7))
  (fun t4_12 t5_13 w1 => R (.tuple #[t4_12, t5_13]) w1))
def ann_tumbrelref14_Of : List (Nat × List Nat) := [(3, [0, 3]), (4000003, [1, 2, 4]), (5000003, [1, 2, 4, 5, 6, 7, 9999, 1, 4, 2, 5, 6, 7, 9999, 4, 1, 2, 5, 6, 7])]
theorem E_tumbrelref14_Of (kind_p0 n_p1 : Value) (w : World) (R : Value → World → Prop) : M_tumbrelref14_Of kind_p0 n_p1 w R = den PR ann_tumbrelref14_Of (bodyOf Tryd.f9) (retQ PR Tryd.f9.results.toList R) (env0 [kind_p0, n_p1]) w := by kernel_rfl
theorem C_tumbrelref14_Of {kind_p0 n_p1 : Value} {w : World} {R : Value → World → Prop} (h : M_tumbrelref14_Of kind_p0 n_p1 w R) : CALL PR F_tumbrelref14_Of [kind_p0, n_p1] w R :=
  call_of_den2 ann_tumbrelref14_Of Tryd.func9 (by kernel_rfl) (by kernel_rfl) (by kernel_rfl) ((E_tumbrelref14_Of kind_p0 n_p1 w R) ▸ h)
-- 10 tumbrel.name.Read
def M_name_Read (s_p0 : Value) (w : World) (R : Value → World → Prop) : Prop :=
  BND (lens s_p0) fun t9_1 =>
  BND (binv .int .lss t9_1 (Value.int .i64 3)) fun t10_2 =>
  COND t10_2
  (R (.tuple #[(Value.int .u8 0), (Value.int .u64 0), (Value.bool false)]) w)
  (BND (slices s_p0 (some (Value.int .i64 2)) none) fun t13_3 =>
  CALL PR F_strconv_ParseUint [t13_3, (Value.int .i64 10), (Value.int .i64 64)] w fun t14_4 w1 =>
  BND (extractv t14_4 0) fun t15_5 =>
  BND (extractv t14_4 1) fun t16_6 =>
  BND (ifnilv .neq t16_6 Value.nilIface) fun t18_7 =>
  COND t18_7
  (R (.tuple #[(Value.int .u8 0), (Value.int .u64 0), (Value.bool false)]) w1)
  (BND (indexs s_p0 (Value.int .i64 0)) fun t21_8 =>
  CALL PR F_name_Of [t21_8, t15_5] w1 fun t23_9 w2 =>
  BND (extractv t23_9 0) fun t24_10 =>
  BND (extractv t23_9 1) fun t25_11 =>
  BND (binv .str .eql t24_10 s_p0) fun t28_12 =>
  COND t28_12
  (BND (indexs s_p0 (Value.int .i64 0)) fun t30_13 =>
  R (.tuple #[t30_13, t15_5, (Value.bool true)]) w2)
  (R (.tuple #[(Value.int .u8 0), (Value.int .u64 0), (Value.bool false)]) w2)))
def ann_name_Read : List (Nat × List Nat) := []
theorem E_name_Read (s_p0 : Value) (w : World) (R : Value → World → Prop) : M_name_Read s_p0 w R = den PR ann_name_Read (bodyOf Tryd.f10) (retQ PR Tryd.f10.results.toList R) (env0 [s_p0]) w := by kernel_rfl
theorem C_name_Read {s_p0 : Value} {w : World} {R : Value → World → Prop} (h : M_name_Read s_p0 w R) : CALL PR F_name_Read [s_p0] w R :=
  call_of_den2 ann_name_Read Tryd.func10 (by kernel_rfl) (by kernel_rfl) (by kernel_rfl) ((E_name_Read s_p0 w R) ▸ h)
-- 11 tumbrel.tumbrelref14.Read
def M_tumbrelref14_Read (s_p0 : Value) (w : World) (R : Value → World → Prop) : Prop :=
  BND (lens s_p0) fun t10_1 =>
  BND (binv .int .lss t10_1 (Value.int .i64 3)) fun t11_2 =>
  BND (grd (isB t11_2 false) (some s_p0)) fun t13_3 =>
  BND (grd (isB t11_2 false) (lens t13_3)) fun t14_4 =>
  BND (grd (isB t11_2 false) (binv .int .gtr t14_4 (Value.int .i64 12))) fun t15_5 =>
  BND (pickv t11_2 (Value.bool true) t15_5) fun t16_6 =>
  BND (grd (isB t16_6 false) (some s_p0)) fun t18_7 =>
  BND (grd (isB t16_6 false) (indexs t18_7 (Value.int .i64 1))) fun t19_8 =>
  BND (grd (isB t16_6 false) (binv .int .neq t19_8 (Value.int .u8 46))) fun t20_9 =>
  BND (pickv t16_6 (Value.bool true) t20_9) fun t21_10 =>
  COND t21_10
  (R (.tuple #[(Value.int .u8 0), (Value.int .u64 0), (Value.bool false)]) w)
  (∃ (J_11 : Value → Value → World → Prop) (m_11 : Value → Value → World → Nat), J_11 (Value.int .u64 0) (Value.int .i64 2) w ∧ ∀ (_d_11 : Env) (n_15 i_16 : Value) (w1 : World), J_11 n_15 i_16 w1 →
  (BND (lens s_p0) fun t24_41 =>
  BND (binv .int .lss i_16 t24_41) fun t25_42 =>
  COND t25_42
  (BND (indexs s_p0 i_16) fun t30_43 =>
  BND (binv .int .lss t30_43 (Value.int .u8 48)) fun t31_44 =>
  BND (grd (isB t31_44 false) (some s_p0)) fun t33_45 =>
  BND (grd (isB t31_44 false) (some i_16)) fun t34_46 =>
  BND (grd (isB t31_44 false) (indexs t33_45 t34_46)) fun t35_47 =>
  BND (grd (isB t31_44 false) (binv .int .gtr t35_47 (Value.int .u8 57))) fun t36_48 =>
  BND (pickv t31_44 (Value.bool true) t36_48) fun t37_49 =>
  COND t37_49
  (R (.tuple #[(Value.int .u8 0), (Value.int .u64 0), (Value.bool false)]) w1)
  (BND (binv .int .mul (Value.int .u64 10) n_15) fun t39_50 =>
  BND (indexs s_p0 i_16) fun t42_51 =>
  BND (binv .int .sub t42_51 (Value.int .u8 48)) fun t43_52 =>
  BND (convi .u64 t43_52) fun t44_53 =>
  BND (binv .int .add t39_50 t44_53) fun t45_54 =>
  BND (binv .int .add i_16 (Value.int .i64 1)) fun t27_55 =>
  (J_11 t45_54 t27_55 w1 ∧ m_11 t45_54 t27_55 w1 < m_11 n_15 i_16 w1)))
  (BND (indexs s_p0 (Value.int .i64 0)) fun t48_56 =>
  CALL PR F_tumbrelref14_Of [t48_56, n_15] w1 fun t50_57 w2 =>
  BND (extractv t50_57 0) fun t51_58 =>
  BND (extractv t50_57 1) fun t52_59 =>
  BND (binv .int .neq t52_59 (Value.int .i64 0)) fun t54_60 =>
  BND (grd (isB t54_60 false) (some t51_58)) fun t56_61 =>
  BND (grd (isB t54_60 false) (some s_p0)) fun t57_62 =>
  BND (grd (isB t54_60 false) (binv .str .neq t56_61 t57_62)) fun t58_63 =>
  BND (pickv t54_60 (Value.bool true) t58_63) fun t59_64 =>
  COND t59_64
  (R (.tuple #[(Value.int .u8 0), (Value.int .u64 0), (Value.bool false)]) w2)
  (BND (indexs s_p0 (Value.int .i64 0)) fun t61_65 =>
  R (.tuple #[t61_65, n_15, (Value.bool true)]) w2))))
def ann_tumbrelref14_Read : List (Nat × List Nat) := [(1000005, [5, 6])]
theorem E_tumbrelref14_Read (s_p0 : Value) (w : World) (R : Value → World → Prop) : M_tumbrelref14_Read s_p0 w R = den PR ann_tumbrelref14_Read (bodyOf Tryd.f11) (retQ PR Tryd.f11.results.toList R) (env0 [s_p0]) w := by kernel_rfl
theorem C_tumbrelref14_Read {s_p0 : Value} {w : World} {R : Value → World → Prop} (h : M_tumbrelref14_Read s_p0 w R) : CALL PR F_tumbrelref14_Read [s_p0] w R :=
  call_of_den2 ann_tumbrelref14_Read Tryd.func11 (by kernel_rfl) (by kernel_rfl) (by kernel_rfl) ((E_tumbrelref14_Read s_p0 w R) ▸ h)
-- 12 tumbrel.tumbrelref02.Same
def M_tumbrelref02_Same (a_p0 b_p1 : Value) (w : World) (R : Value → World → Prop) : Prop :=
  BND (lenl a_p0) fun t7_1 =>
  BND (lenl b_p1) fun t9_2 =>
  BND (binv .int .neq t7_1 t9_2) fun t10_3 =>
  COND t10_3
  (R (Value.bool false) w)
  (∃ (J_4 : Value → World → Prop) (m_4 : Value → World → Nat), J_4 (Value.int .i64 0) w ∧ ∀ (_d_4 : Env) (i_6 : Value) (w1 : World), J_4 i_6 w1 →
  (BND (lenl a_p0) fun t13_22 =>
  BND (binv .int .lss i_6 t13_22) fun t14_23 =>
  COND t14_23
  (BND (iaddr 1 a_p0 i_6) fun t19_24 =>
  BND (iaddr 1 b_p1 i_6) fun t23_25 =>
  BND (load1 w1.drew t19_24) fun t20_26 =>
  BND (load1 w1.drew t23_25) fun t24_27 =>
  BND (binv .int .neq t20_26 t24_27) fun t25_28 =>
  COND t25_28
  (R (Value.bool false) w1.drew)
  (BND (binv .int .add i_6 (Value.int .i64 1)) fun t16_29 =>
  (J_4 t16_29 w1.drew ∧ m_4 t16_29 w1.drew < m_4 i_6 w1)))
  (R (Value.bool true) w1)))
def ann_tumbrelref02_Same : List (Nat × List Nat) := [(6, [0, 1, 2, 4, 5, 6, 3, 7, 8]), (1000004, [5])]
theorem E_tumbrelref02_Same (a_p0 b_p1 : Value) (w : World) (R : Value → World → Prop) : M_tumbrelref02_Same a_p0 b_p1 w R = den PR ann_tumbrelref02_Same (bodyOf Tryd.f12) (retQ PR Tryd.f12.results.toList R) (env0 [a_p0, b_p1]) w := by kernel_rfl
theorem C_tumbrelref02_Same {a_p0 b_p1 : Value} {w : World} {R : Value → World → Prop} (h : M_tumbrelref02_Same a_p0 b_p1 w R) : CALL PR F_tumbrelref02_Same [a_p0, b_p1] w R :=
  call_of_den2 ann_tumbrelref02_Same Tryd.func12 (by kernel_rfl) (by kernel_rfl) (by kernel_rfl) ((E_tumbrelref02_Same a_p0 b_p1 w R) ▸ h)
-- 13 tumbrel.name.Only
def M_name_Only (l_p0 kind_p1 : Value) (w : World) (R : Value → World → Prop) : Prop :=
  BND (lenl l_p0) fun t12_1 =>
  ∃ (J_2 : Value → Value → World → Prop) (m_2 : Value → Value → World → Nat), J_2 (Value.slice none 0 0) (Value.int .i64 0) w ∧ ∀ (_d_2 : Env) (out_3 t13_8 : Value) (w1 : World), J_2 out_3 t13_8 w1 →
  (BND (binv .int .lss t13_8 t12_1) fun t14_29 =>
  COND t14_29
  (BND (iaddr 1 l_p0 t13_8) fun t15_30 =>
  BND (load1 w1 t15_30) fun t16_31 =>
  CALL PR F_name_Read [t16_31] w1 fun t19_32 w2 =>
  BND (extractv t19_32 0) fun t20_33 =>
  BND (extractv t19_32 1) fun t21_34 =>
  BND (extractv t19_32 2) fun t22_35 =>
  BND (grd (isB t22_35 true) (some t20_33)) fun t25_36 =>
  BND (grd (isB t22_35 true) (some kind_p1)) fun t26_37 =>
  BND (grd (isB t22_35 true) (binv .int .eql t25_36 t26_37)) fun t27_38 =>
  BND (pickv t22_35 t27_38 (Value.bool false)) fun t28_39 =>
  JOIN (α := Value → World → Prop) (fun k_46 => COND t28_39
  (BND (newslice 22 #[(Value.int .u64 0)] 1 1 [(0, 1, t21_34)] w2) fun p_ => NEW p_ fun t31_47 w4 =>
  APPEND 22 1 8 (Value.int .u64 0) out_3 t31_47 w4 fun t32_48 w5 =>
  k_46 t32_48 w5)
  (k_46 out_3 w2))
  (fun out_40 w3 => BND (binv .int .add t13_8 (Value.int .i64 1)) fun t33_45 =>
  (J_2 out_40 t33_45 w3 ∧ m_2 out_40 t33_45 w3 < m_2 out_3 t13_8 w1)))
  (CALL PR F_slices_Sort_uint64_uint64 [out_3] w1 fun t35_49 w6 =>
  R out_3 w6))
def ann_name_Only : List (Nat × List Nat) := [(1000003, [5, 13])]
theorem E_name_Only (l_p0 kind_p1 : Value) (w : World) (R : Value → World → Prop) : M_name_Only l_p0 kind_p1 w R = den PR ann_name_Only (bodyOf Tryd.f13) (retQ PR Tryd.f13.results.toList R) (env0 [l_p0, kind_p1]) w := by kernel_rfl
theorem C_name_Only {l_p0 kind_p1 : Value} {w : World} {R : Value → World → Prop} (h : M_name_Only l_p0 kind_p1 w R) : CALL PR F_name_Only [l_p0, kind_p1] w R :=
  call_of_den2 ann_name_Only Tryd.func13 (by kernel_rfl) (by kernel_rfl) (by kernel_rfl) ((E_name_Only l_p0 kind_p1 w R) ▸ h)
-- 14 tumbrel.tumbrelref14.Only
def M_tumbrelref14_Only (l_p0 kind_p1 : Value) (w : World) (R : Value → World → Prop) : Prop :=
  BND (newslice 22 #[(Value.int .u64 0)] 1 0 [] w) fun p_ => NEW p_ fun t11_1 w1 =>
  ∃ (J_2 : Value → Value → World → Prop) (m_2 : Value → Value → World → Nat), J_2 t11_1 (Value.int .i64 0) w1 ∧ ∀ (_d_2 : Env) (out_3 i_4 : Value) (w2 : World), J_2 out_3 i_4 w2 →
  (BND (lenl l_p0) fun t14_56 =>
  BND (binv .int .lss i_4 t14_56) fun t15_57 =>
  COND t15_57
  (BND (iaddr 1 l_p0 i_4) fun t21_58 =>
  BND (load1 w2 t21_58) fun t22_59 =>
  CALL PR F_tumbrelref14_Read [t22_59] w2 fun t23_60 w3 =>
  BND (extractv t23_60 0) fun t24_61 =>
  BND (extractv t23_60 1) fun t25_62 =>
  BND (extractv t23_60 2) fun t26_63 =>
  BND (grd (isB t26_63 true) (some t24_61)) fun t29_64 =>
  BND (grd (isB t26_63 true) (some kind_p1)) fun t30_65 =>
  BND (grd (isB t26_63 true) (binv .int .eql t29_64 t30_65)) fun t31_66 =>
  BND (pickv t26_63 t31_66 (Value.bool false)) fun t32_67 =>
  JOIN (α := Value → World → Prop) (fun k_97 => COND t32_67
  (∃ (J_98 : Value → World → Prop) (m_98 : Value → World → Nat), J_98 (Value.int .i64 0) w3 ∧ ∀ (_d_98 : Env) (at_99 : Value) (w5 : World), J_98 at_99 w5 →
  (BND (lenl out_3) fun t35_114 =>
  BND (binv .int .lss at_99 t35_114) fun t36_115 =>
  BND (grd (isB t36_115 true) (some out_3)) fun t38_116 =>
  BND (grd (isB t36_115 true) (some at_99)) fun t39_117 =>
  BND (grd (isB t36_115 true) (iaddr 1 t38_116 t39_117)) fun t40_118 =>
  BND (grd (isB t36_115 true) (load1 w5 t40_118)) fun t41_119 =>
  BND (grd (isB t36_115 true) (some t25_62)) fun t42_120 =>
  BND (grd (isB t36_115 true) (binv .int .leq t41_119 t42_120)) fun t43_121 =>
  BND (pickv t36_115 t43_121 (Value.bool false)) fun t44_122 =>
  COND t44_122
  (BND (binv .int .add at_99 (Value.int .i64 1)) fun t46_123 =>
  (J_98 t46_123 w5 ∧ m_98 t46_123 w5 < m_98 at_99 w5))
  (∃ S_124 : Nat → World → Prop,
  BND (slicev 1 out_3 none (some at_99)) fun t50_125 =>
  BND (slicev 1 out_3 (some at_99) none) fun t57_126 =>
  JOIN (α := Value → World → Prop) (fun k_133 => (BND (newslice 22 #[(Value.int .u64 0)] 1 0 [] w5.drew) fun p_ => NEW p_ fun t47_134 w7 =>
  APPEND 22 1 8 (Value.int .u64 0) t47_134 t50_125 w7 fun t51_135 w8 =>
  BND (newslice 22 #[(Value.int .u64 0)] 1 1 [(0, 1, t25_62)] w8) fun p_ => NEW p_ fun t53_136 w9 =>
  APPEND 22 1 8 (Value.int .u64 0) t51_135 t53_136 w9 fun t54_137 w10 =>
  APPEND 22 1 8 (Value.int .u64 0) t54_137 t57_126 w10 fun t58_138 w11 =>
  k_133 t58_138 w11) ∧
  (BND (newslice 22 #[(Value.int .u64 0)] 1 0 [] w5.drew) fun p_ => NEW p_ fun t47_139 w12 =>
  BND (newslice 22 #[(Value.int .u64 0)] 1 1 [(0, 1, t25_62)] w12) fun p_ => NEW p_ fun t53_140 w13 =>
  APPEND 22 1 8 (Value.int .u64 0) t47_139 t50_125 w13 fun t51_141 w14 =>
  APPEND 22 1 8 (Value.int .u64 0) t51_141 t53_140 w14 fun t54_142 w15 =>
  APPEND 22 1 8 (Value.int .u64 0) t54_142 t57_126 w15 fun t58_143 w16 =>
  k_133 t58_143 w16) ∧
  (BND (newslice 22 #[(Value.int .u64 0)] 1 1 [(0, 1, t25_62)] w5.drew) fun p_ => NEW p_ fun t53_144 w17 =>
  BND (newslice 22 #[(Value.int .u64 0)] 1 0 [] w17) fun p_ => NEW p_ fun t47_145 w18 =>
  APPEND 22 1 8 (Value.int .u64 0) t47_145 t50_125 w18 fun t51_146 w19 =>
  APPEND 22 1 8 (Value.int .u64 0) t51_146 t53_144 w19 fun t54_147 w20 =>
  APPEND 22 1 8 (Value.int .u64 0) t54_147 t57_126 w20 fun t58_148 w21 =>
  k_133 t58_148 w21))
  (fun out_127 w6 => k_97 out_127 w6))))
  (k_97 out_3 w3))
  (fun out_68 w4 => BND (binv .int .add i_4 (Value.int .i64 1)) fun t17_96 =>
  (J_2 out_68 t17_96 w4 ∧ m_2 out_68 t17_96 w4 < m_2 out_3 i_4 w2)))
  (R out_3 w2))
def ann_tumbrelref14_Only : List (Nat × List Nat) := [(10, [1, 2, 3, 5, 8, 9, 10]), (1000003, [5, 6]), (1000008, [10]), (4000010, [0, 4, 6]), (5000010, [0, 4, 6, 7, 11, 12, 9999, 0, 6, 4, 7, 11, 12, 9999, 6, 0, 4, 7, 11, 12])]
theorem E_tumbrelref14_Only (l_p0 kind_p1 : Value) (w : World) (R : Value → World → Prop) : M_tumbrelref14_Only l_p0 kind_p1 w R = den PR ann_tumbrelref14_Only (bodyOf Tryd.f14) (retQ PR Tryd.f14.results.toList R) (env0 [l_p0, kind_p1]) w := by kernel_rfl
theorem C_tumbrelref14_Only {l_p0 kind_p1 : Value} {w : World} {R : Value → World → Prop} (h : M_tumbrelref14_Only l_p0 kind_p1 w R) : CALL PR F_tumbrelref14_Only [l_p0, kind_p1] w R :=
  call_of_den2 ann_tumbrelref14_Only Tryd.func14 (by kernel_rfl) (by kernel_rfl) (by kernel_rfl) ((E_tumbrelref14_Only l_p0 kind_p1 w R) ▸ h)
-- 15 tumbrel.disk.New
def M_disk_New (room_p0 : Value) (w : World) (R : Value → World → Prop) : Prop :=
  BND (binv .int .lss room_p0 (Value.int .i64 16)) fun t5_1 =>
  BND (grd (isB t5_1 false) (some room_p0)) fun t7_2 =>
  BND (grd (isB t5_1 false) (binv .int .gtr t7_2 (Value.int .i64 1048576))) fun t8_3 =>
  BND (pickv t5_1 (Value.bool true) t8_3) fun t9_4 =>
  COND t9_4
  (R (.tuple #[(Value.pointer none), (Value.int .i64 1)]) w)
  (NEW (newmap w) fun t11_5 w1 =>
  BND (buildv #[(Value.int .i64 0), (Value.map none), (Value.slice none 0 0), (Value.int .i64 0), (Value.bool false)] [(0, 1, room_p0), (1, 1, t11_5), (3, 1, (Value.int .i64 (-1)))]) fun t12_6 =>
  NEW (newv 56 w1 t12_6) fun t13_7 w2 =>
  R (.tuple #[t13_7, (Value.int .i64 0)]) w2)
def ann_disk_New : List (Nat × List Nat) := []
theorem E_disk_New (room_p0 : Value) (w : World) (R : Value → World → Prop) : M_disk_New room_p0 w R = den PR ann_disk_New (bodyOf Tryd.f15) (retQ PR Tryd.f15.results.toList R) (env0 [room_p0]) w := by kernel_rfl
theorem C_disk_New {room_p0 : Value} {w : World} {R : Value → World → Prop} (h : M_disk_New room_p0 w R) : CALL PR F_disk_New [room_p0] w R :=
  call_of_den2 ann_disk_New Tryd.func15 (by kernel_rfl) (by kernel_rfl) (by kernel_rfl) ((E_disk_New room_p0 w R) ▸ h)
-- 16 (*tumbrel.disk.Disk).Create
def M_disk_Disk_Create (d_p0 name_p1 : Value) (w : World) (R : Value → World → Prop) : Prop :=
  CALL PR F_disk_Disk_now [d_p0] w fun t8_1 w1 =>
  CALL PR F_disk_named [name_p1] w1 fun t11_2 w2 =>
  BND (unv .not t11_2) fun t12_3 =>
  JOIN (α := Value → World → Prop) (fun k_25 => COND t12_3
  (k_25 (Value.int .i64 1) w2)
  (BND (lookv .string (Value.pointer none) false w2 t8_1 name_p1) fun t16_26 =>
  BND (binv .ptr .neq t16_26 (Value.pointer none)) fun t17_27 =>
  JOIN (α := Value → World → Prop) (fun k_33 => COND t17_27
  (k_33 (Value.int .i64 6) w2)
  (BND (mlenv w2 t8_1) fun t20_34 =>
  BND (binv .int .geq t20_34 (Value.int .i64 60)) fun t21_35 =>
  JOIN (α := Value → World → Prop) (fun k_37 => COND t21_35
  (k_37 (Value.int .i64 4) w2)
  (k_37 (Value.int .i64 0) w2))
  (fun e_36 w10 => k_33 e_36 w10)))
  (fun e_28 w9 => k_25 e_28 w9)))
  (fun e_4 w3 => CALL PR F_disk_Disk_can [d_p0, e_4] w3 fun t24_14 w4 =>
  BND (binv .int .eql t24_14 (Value.int .i64 0)) fun t26_15 =>
  JOIN (α := World → Prop) (fun k_21 => COND t26_15
  (CALL PR F_disk_Disk_change [d_p0] w4 fun t28_22 w6 =>
  BND (buildv #[(Value.slice none 0 0), (Value.int .i64 0)] []) fun t30_23 =>
  NEW (newv 62 w6 t30_23) fun t31_24 w7 =>
  BND (mupd .string w7 t28_22 name_p1 t31_24) fun w8 =>
  k_21 w8)
  (k_21 w4))
  (fun w5 => R t24_14 w5))
def ann_disk_Disk_Create : List (Nat × List Nat) := []
theorem E_disk_Disk_Create (d_p0 name_p1 : Value) (w : World) (R : Value → World → Prop) : M_disk_Disk_Create d_p0 name_p1 w R = den PR ann_disk_Disk_Create (bodyOf Tryd.f16) (retQ PR Tryd.f16.results.toList R) (env0 [d_p0, name_p1]) w := by kernel_rfl
theorem C_disk_Disk_Create {d_p0 name_p1 : Value} {w : World} {R : Value → World → Prop} (h : M_disk_Disk_Create d_p0 name_p1 w R) : CALL PR F_disk_Disk_Create [d_p0, name_p1] w R :=
  call_of_den2 ann_disk_Disk_Create Tryd.func16 (by kernel_rfl) (by kernel_rfl) (by kernel_rfl) ((E_disk_Disk_Create d_p0 name_p1 w R) ▸ h)
-- 18 strconv.FormatUint
def M_strconv_FormatUint (i_p0 base_p1 : Value) (w : World) (R : Value → World → Prop) : Prop :=
  CALL PR F_internal_strconv_FormatUint [i_p0, base_p1] w fun t7_1 w1 =>
  R t7_1 w1
def ann_strconv_FormatUint : List (Nat × List Nat) := []
theorem E_strconv_FormatUint (i_p0 base_p1 : Value) (w : World) (R : Value → World → Prop) : M_strconv_FormatUint i_p0 base_p1 w R = den PR ann_strconv_FormatUint (bodyOf Tryd.f18) (retQ PR Tryd.f18.results.toList R) (env0 [i_p0, base_p1]) w := by kernel_rfl
theorem C_strconv_FormatUint {i_p0 base_p1 : Value} {w : World} {R : Value → World → Prop} (h : M_strconv_FormatUint i_p0 base_p1 w R) : CALL PR F_strconv_FormatUint [i_p0, base_p1] w R :=
  call_of_den2 ann_strconv_FormatUint Tryd.func18 (by kernel_rfl) (by kernel_rfl) (by kernel_rfl) ((E_strconv_FormatUint i_p0 base_p1 w R) ▸ h)
-- 19 tumbrel.tumbrelref14.digits
def M_tumbrelref14_digits (n_p0 : Value) (w : World) (R : Value → World → Prop) : Prop :=
  BND (binv .int .rem n_p0 (Value.int .u64 10)) fun t5_1 =>
  BND (binv .int .add (Value.int .u64 48) t5_1) fun t6_2 =>
  BND (convi .u8 t6_2) fun t7_3 =>
  BND (newslice 5 #[(Value.int .u8 0)] 1 1 [(0, 1, t7_3)] w) fun p_ => NEW p_ fun t8_4 w1 =>
  BND (textv .u8 textOfBytes w1 t8_4) fun t9_5 =>
  BND (binv .int .lss n_p0 (Value.int .u64 10)) fun t11_6 =>
  COND t11_6
  (R t9_5 w1)
  (BND (binv .int .quo n_p0 (Value.int .u64 10)) fun t14_7 =>
  CALL PR F_tumbrelref14_digits [t14_7] w1 fun t15_8 w2 =>
  BND (binv .str .add t15_8 t9_5) fun t17_9 =>
  R t17_9 w2)
def ann_tumbrelref14_digits : List (Nat × List Nat) := []
theorem E_tumbrelref14_digits (n_p0 : Value) (w : World) (R : Value → World → Prop) : M_tumbrelref14_digits n_p0 w R = den PR ann_tumbrelref14_digits (bodyOf Tryd.f19) (retQ PR Tryd.f19.results.toList R) (env0 [n_p0]) w := by kernel_rfl
theorem C_tumbrelref14_digits {n_p0 : Value} {w : World} {R : Value → World → Prop} (h : M_tumbrelref14_digits n_p0 w R) : CALL PR F_tumbrelref14_digits [n_p0] w R :=
  call_of_den2 ann_tumbrelref14_digits Tryd.func19 (by kernel_rfl) (by kernel_rfl) (by kernel_rfl) ((E_tumbrelref14_digits n_p0 w R) ▸ h)
-- 21 slices.Sort[[]uint64,uint64]
def M_slices_Sort_uint64_uint64 (x_p0 : Value) (w : World) (R : Value → World → Prop) : Prop :=
  BND (lenl x_p0) fun t4_1 =>
  BND (convi .u64 t4_1) fun t8_2 =>
  CALL PR F_math_bits_Len [t8_2] w fun t9_3 w1 =>
  CALL PR F_slices_pdqsortOrdered_uint64 [x_p0, (Value.int .i64 0), t4_1, t9_3] w1 fun t10_4 w2 =>
  R (.tuple #[]) w2
def ann_slices_Sort_uint64_uint64 : List (Nat × List Nat) := []
theorem E_slices_Sort_uint64_uint64 (x_p0 : Value) (w : World) (R : Value → World → Prop) : M_slices_Sort_uint64_uint64 x_p0 w R = den PR ann_slices_Sort_uint64_uint64 (bodyOf Tryd.f21) (retQ PR Tryd.f21.results.toList R) (env0 [x_p0]) w := by kernel_rfl
theorem C_slices_Sort_uint64_uint64 {x_p0 : Value} {w : World} {R : Value → World → Prop} (h : M_slices_Sort_uint64_uint64 x_p0 w R) : CALL PR F_slices_Sort_uint64_uint64 [x_p0] w R :=
  call_of_den2 ann_slices_Sort_uint64_uint64 Tryd.func21 (by kernel_rfl) (by kernel_rfl) (by kernel_rfl) ((E_slices_Sort_uint64_uint64 x_p0 w R) ▸ h)
-- 22 (*tumbrel.disk.Disk).now
def M_disk_Disk_now (d_p0 : Value) (w : World) (R : Value → World → Prop) : Prop :=
  BND (nilchk d_p0) fun t5_1 =>
  BND (faddr 2 t5_1) fun t6_2 =>
  BND (load1 w t6_2) fun t7_3 =>
  BND (lenl t7_3) fun t8_4 =>
  BND (binv .int .gtr t8_4 (Value.int .i64 0)) fun t10_5 =>
  COND t10_5
  (BND (nilchk d_p0) fun t12_6 =>
  BND (faddr 2 t12_6) fun t13_7 =>
  BND (load1 w t13_7) fun t14_8 =>
  BND (binv .int .sub t8_4 (Value.int .i64 1)) fun t16_9 =>
  BND (iaddr 1 t14_8 t16_9) fun t17_10 =>
  BND (load1 w t17_10) fun t18_11 =>
  R t18_11 w)
  (BND (nilchk d_p0) fun t20_12 =>
  BND (faddr 1 t20_12) fun t21_13 =>
  BND (load1 w t21_13) fun t22_14 =>
  R t22_14 w)
def ann_disk_Disk_now : List (Nat × List Nat) := []
theorem E_disk_Disk_now (d_p0 : Value) (w : World) (R : Value → World → Prop) : M_disk_Disk_now d_p0 w R = den PR ann_disk_Disk_now (bodyOf Tryd.f22) (retQ PR Tryd.f22.results.toList R) (env0 [d_p0]) w := by kernel_rfl
theorem C_disk_Disk_now {d_p0 : Value} {w : World} {R : Value → World → Prop} (h : M_disk_Disk_now d_p0 w R) : CALL PR F_disk_Disk_now [d_p0] w R :=
  call_of_den2 ann_disk_Disk_now Tryd.func22 (by kernel_rfl) (by kernel_rfl) (by kernel_rfl) ((E_disk_Disk_now d_p0 w R) ▸ h)
-- 23 tumbrel.disk.named
def M_disk_named (name_p0 : Value) (w : World) (R : Value → World → Prop) : Prop :=
  BND (lens name_p0) fun t6_1 =>
  BND (binv .int .eql t6_1 (Value.int .i64 0)) fun t7_2 =>
  BND (grd (isB t7_2 false) (some name_p0)) fun t9_3 =>
  BND (grd (isB t7_2 false) (lens t9_3)) fun t10_4 =>
  BND (grd (isB t7_2 false) (binv .int .gtr t10_4 (Value.int .i64 12))) fun t11_5 =>
  BND (pickv t7_2 (Value.bool true) t11_5) fun t12_6 =>
  COND t12_6
  (R (Value.bool false) w)
  (BYTES 5 name_p0 w fun t14_7 w1 =>
  BND (lenl t14_7) fun t15_8 =>
  ∃ (J_9 : Value → World → Prop) (m_9 : Value → World → Nat), J_9 (Value.int .i64 0) w1 ∧ ∀ (_d_9 : Env) (t16_12 : Value) (w2 : World), J_9 t16_12 w2 →
  (BND (binv .int .lss t16_12 t15_8) fun t17_35 =>
  COND t17_35
  (BND (iaddr 1 t14_7 t16_12) fun t18_36 =>
  BND (load1 w2 t18_36) fun t19_37 =>
  BND (binv .int .neq t19_37 (Value.int .u8 46)) fun t21_38 =>
  BND (grd (isB t21_38 true) (some t19_37)) fun t23_39 =>
  BND (grd (isB t21_38 true) (binv .int .lss t23_39 (Value.int .u8 48))) fun t24_40 =>
  BND (grd (isB t21_38 true) (some t24_40)) fun t25_41 =>
  BND (grd (isB t25_41 false) (some t19_37)) fun t26_42 =>
  BND (grd (isB t25_41 false) (binv .int .gtr t26_42 (Value.int .u8 57))) fun t27_43 =>
  BND (grd (isB t21_38 true) (pickv t25_41 (Value.bool true) t27_43)) fun t28_44 =>
  BND (pickv t21_38 t28_44 (Value.bool false)) fun t29_45 =>
  BND (grd (isB t29_45 true) (some t19_37)) fun t31_46 =>
  BND (grd (isB t29_45 true) (binv .int .lss t31_46 (Value.int .u8 97))) fun t32_47 =>
  BND (grd (isB t29_45 true) (some t32_47)) fun t33_48 =>
  BND (grd (isB t33_48 false) (some t19_37)) fun t34_49 =>
  BND (grd (isB t33_48 false) (binv .int .gtr t34_49 (Value.int .u8 122))) fun t35_50 =>
  BND (grd (isB t29_45 true) (pickv t33_48 (Value.bool true) t35_50)) fun t36_51 =>
  BND (pickv t29_45 t36_51 (Value.bool false)) fun t37_52 =>
  COND t37_52
  (R (Value.bool false) w2)
  (BND (binv .int .add t16_12 (Value.int .i64 1)) fun t38_53 =>
  (J_9 t38_53 w2 ∧ m_9 t38_53 w2 < m_9 t16_12 w2)))
  (R (Value.bool true) w2)))
def ann_disk_named : List (Nat × List Nat) := [(1000004, [16])]
theorem E_disk_named (name_p0 : Value) (w : World) (R : Value → World → Prop) : M_disk_named name_p0 w R = den PR ann_disk_named (bodyOf Tryd.f23) (retQ PR Tryd.f23.results.toList R) (env0 [name_p0]) w := by kernel_rfl
theorem C_disk_named {name_p0 : Value} {w : World} {R : Value → World → Prop} (h : M_disk_named name_p0 w R) : CALL PR F_disk_named [name_p0] w R :=
  call_of_den2 ann_disk_named Tryd.func23 (by kernel_rfl) (by kernel_rfl) (by kernel_rfl) ((E_disk_named name_p0 w R) ▸ h)
-- 24 (*tumbrel.disk.Disk).can
def M_disk_Disk_can (d_p0 e_p1 : Value) (w : World) (R : Value → World → Prop) : Prop :=
  BND (nilchk d_p0) fun t7_1 =>
  BND (faddr 4 t7_1) fun t8_2 =>
  BND (load1 w t8_2) fun t9_3 =>
  COND t9_3
  (R (Value.int .i64 7) w)
  (BND (binv .int .neq e_p1 (Value.int .i64 0)) fun t12_4 =>
  COND t12_4
  (R e_p1 w)
  (BND (nilchk d_p0) fun t16_5 =>
  BND (faddr 3 t16_5) fun t17_6 =>
  BND (load1 w t17_6) fun t18_7 =>
  BND (binv .int .eql t18_7 (Value.int .i64 0)) fun t19_8 =>
  COND t19_8
  (BND (nilchk d_p0) fun t21_9 =>
  BND (faddr 4 t21_9) fun t22_10 =>
  BND (storev 1 w t22_10 (Value.bool true)) fun w1 =>
  R (Value.int .i64 7) w1)
  (BND (nilchk d_p0) fun t25_11 =>
  BND (faddr 3 t25_11) fun t26_12 =>
  BND (load1 w t26_12) fun t27_13 =>
  BND (binv .int .gtr t27_13 (Value.int .i64 0)) fun t28_14 =>
  JOIN (α := World → Prop) (fun k_22 => COND t28_14
  (BND (nilchk d_p0) fun t30_23 =>
  BND (faddr 3 t30_23) fun t31_24 =>
  BND (load1 w t31_24) fun t32_25 =>
  BND (binv .int .sub t32_25 (Value.int .i64 1)) fun t33_26 =>
  BND (nilchk d_p0) fun t34_27 =>
  BND (faddr 3 t34_27) fun t35_28 =>
  BND (storev 1 w t35_28 t33_26) fun w3 =>
  k_22 w3)
  (k_22 w))
  (fun w2 => R (Value.int .i64 0) w2))))
def ann_disk_Disk_can : List (Nat × List Nat) := []
theorem E_disk_Disk_can (d_p0 e_p1 : Value) (w : World) (R : Value → World → Prop) : M_disk_Disk_can d_p0 e_p1 w R = den PR ann_disk_Disk_can (bodyOf Tryd.f24) (retQ PR Tryd.f24.results.toList R) (env0 [d_p0, e_p1]) w := by kernel_rfl
theorem C_disk_Disk_can {d_p0 e_p1 : Value} {w : World} {R : Value → World → Prop} (h : M_disk_Disk_can d_p0 e_p1 w R) : CALL PR F_disk_Disk_can [d_p0, e_p1] w R :=
  call_of_den2 ann_disk_Disk_can Tryd.func24 (by kernel_rfl) (by kernel_rfl) (by kernel_rfl) ((E_disk_Disk_can d_p0 e_p1 w R) ▸ h)
-- 25 (*tumbrel.disk.Disk).change
def M_disk_Disk_change (d_p0 : Value) (w : World) (R : Value → World → Prop) : Prop :=
  CALL PR F_disk_Disk_now [d_p0] w fun t5_1 w1 =>
  CALL PR F_maps_Clone_file [t5_1] w1 fun t6_2 w2 =>
  BND (nilchk d_p0) fun t9_3 =>
  BND (faddr 2 t9_3) fun t10_4 =>
  BND (load1 w2 t10_4) fun t11_5 =>
  BND (newslice 53 #[(Value.map none)] 1 1 [(0, 1, t6_2)] w2) fun p_ => NEW p_ fun t13_6 w3 =>
  APPEND 53 1 8 (Value.map none) t11_5 t13_6 w3 fun t14_7 w4 =>
  BND (nilchk d_p0) fun t15_8 =>
  BND (faddr 2 t15_8) fun t16_9 =>
  BND (storev 1 w4 t16_9 t14_7) fun w5 =>
  R t6_2 w5
def ann_disk_Disk_change : List (Nat × List Nat) := []
theorem E_disk_Disk_change (d_p0 : Value) (w : World) (R : Value → World → Prop) : M_disk_Disk_change d_p0 w R = den PR ann_disk_Disk_change (bodyOf Tryd.f25) (retQ PR Tryd.f25.results.toList R) (env0 [d_p0]) w := by kernel_rfl
theorem C_disk_Disk_change {d_p0 : Value} {w : World} {R : Value → World → Prop} (h : M_disk_Disk_change d_p0 w R) : CALL PR F_disk_Disk_change [d_p0] w R :=
  call_of_den2 ann_disk_Disk_change Tryd.func25 (by kernel_rfl) (by kernel_rfl) (by kernel_rfl) ((E_disk_Disk_change d_p0 w R) ▸ h)
-- 27 internal.strconv.FormatUint
def M_internal_strconv_FormatUint (i_p0 base_p1 : Value) (w : World) (R : Value → World → Prop) : Prop :=
  BND (binv .int .eql base_p1 (Value.int .i64 10)) fun t10_1 =>
  COND t10_1
  (BND (binv .int .lss i_p0 (Value.int .u64 100)) fun t12_2 =>
  COND t12_2
  (BND (convi .i64 i_p0) fun t14_3 =>
  CALL PR F_internal_strconv_small [t14_3] w fun t15_4 w1 =>
  R t15_4 w1)
  (NEW (newv 69 w (Value.agg #[(Value.int .u8 0), (Value.int .u8 0), (Value.int .u8 0), (Value.int .u8 0), (Value.int .u8 0), (Value.int .u8 0), (Value.int .u8 0), (Value.int .u8 0), (Value.int .u8 0), (Value.int .u8 0), (Value.int .u8 0), (Value.int .u8 0), (Value.int .u8 0), (Value.int .u8 0), (Value.int .u8 0), (Value.int .u8 0), (Value.int .u8 0), (Value.int .u8 0), (Value.int .u8 0), (Value.int .u8 0), (Value.int .u8 0), (Value.int .u8 0), (Value.int .u8 0), (Value.int .u8 0)])) fun a_5 w2 =>
  CALL PR F_internal_strconv_numDigits [i_p0] w2 fun t17_6 w3 =>
  BND (slicea 24 1 a_5 none (some t17_6) none) fun t19_7 =>
  CALL PR F_internal_strconv_formatBase10 [t19_7, i_p0] w3 fun t21_8 w4 =>
  BND (slicea 24 1 a_5 none (some t17_6) none) fun t23_9 =>
  BND (textv .u8 textOfBytes w4 t23_9) fun t24_10 =>
  R t24_10 w4))
  (CALL PR F_internal_strconv_formatBits [(Value.slice none 0 0), i_p0, base_p1, (Value.bool false), (Value.bool false)] w fun t28_11 w5 =>
  BND (extractv t28_11 0) fun t29_12 =>
  BND (extractv t28_11 1) fun t30_13 =>
  R t30_13 w5)
def ann_internal_strconv_FormatUint : List (Nat × List Nat) := []
theorem E_internal_strconv_FormatUint (i_p0 base_p1 : Value) (w : World) (R : Value → World → Prop) : M_internal_strconv_FormatUint i_p0 base_p1 w R = den PR ann_internal_strconv_FormatUint (bodyOf Tryd.f27) (retQ PR Tryd.f27.results.toList R) (env0 [i_p0, base_p1]) w := by kernel_rfl
theorem C_internal_strconv_FormatUint {i_p0 base_p1 : Value} {w : World} {R : Value → World → Prop} (h : M_internal_strconv_FormatUint i_p0 base_p1 w R) : CALL PR F_internal_strconv_FormatUint [i_p0, base_p1] w R :=
  call_of_den2 ann_internal_strconv_FormatUint Tryd.func27 (by kernel_rfl) (by kernel_rfl) (by kernel_rfl) ((E_internal_strconv_FormatUint i_p0 base_p1 w R) ▸ h)
-- 30 slices.pdqsortOrdered[uint64]
def M_slices_pdqsortOrdered_uint64 (data_p0 a_p1 b_p2 limit_p3 : Value) (w : World) (R : Value → World → Prop) : Prop :=
  ∃ (J_1 : Value → Value → Value → Value → Value → World → Prop) (m_1 : Value → Value → Value → Value → Value → World → Nat), J_1 a_p1 b_p2 limit_p3 (Value.bool true) (Value.bool true) w ∧ ∀ (_d_1 : Env) (a_2 b_3 limit_4 wasBalanced_5 wasPartitioned_6 : Value) (w1 : World), J_1 a_2 b_3 limit_4 wasBalanced_5 wasPartitioned_6 w1 →
  (BND (binv .int .sub b_3 a_2) fun t21_131 =>
  BND (binv .int .leq t21_131 (Value.int .i64 12)) fun t23_132 =>
  COND t23_132
  (CALL PR F_slices_insertionSortOrdered_uint64 [data_p0, a_2, b_3] w1 fun t27_133 w2 =>
  R (.tuple #[]) w2)
  (BND (binv .int .eql limit_4 (Value.int .i64 0)) fun t29_134 =>
  COND t29_134
  (CALL PR F_slices_heapSortOrdered_uint64 [data_p0, a_2, b_3] w1 fun t33_135 w3 =>
  R (.tuple #[]) w3)
  (BND (unv .not wasBalanced_5) fun t35_136 =>
  JOIN (α := Value → World → Prop) (fun k_227 => COND t35_136
  (CALL PR F_slices_breakPatternsOrdered_uint64 [data_p0, a_2, b_3] w1 fun t39_228 w16 =>
  BND (binv .int .sub limit_4 (Value.int .i64 1)) fun t41_229 =>
  k_227 t41_229 w16)
  (k_227 limit_4 w1))
  (fun limit_137 w4 => CALL PR F_slices_choosePivotOrdered_uint64 [data_p0, a_2, b_3] w4 fun t46_144 w5 =>
  BND (extractv t46_144 0) fun t47_145 =>
  BND (extractv t46_144 1) fun t48_146 =>
  BND (binv .int .eql t48_146 (Value.int .i64 2)) fun t50_147 =>
  JOIN (α := Value → Value → World → Prop) (fun k_222 => COND t50_147
  (CALL PR F_slices_reverseRangeOrdered_uint64 [data_p0, a_2, b_3] w5 fun t54_223 w15 =>
  BND (binv .int .sub b_3 (Value.int .i64 1)) fun t56_224 =>
  BND (binv .int .sub t47_145 a_2) fun t59_225 =>
  BND (binv .int .sub t56_224 t59_225) fun t60_226 =>
  k_222 t60_226 (Value.int .i64 1) w15)
  (k_222 t47_145 t48_146 w5))
  (fun pivot_148 hint_149 w6 => BND (grd (isB wasBalanced_5 true) (some wasPartitioned_6)) fun t63_160 =>
  BND (pickv wasBalanced_5 t63_160 (Value.bool false)) fun t64_161 =>
  BND (grd (isB t64_161 true) (some hint_149)) fun t66_162 =>
  BND (grd (isB t64_161 true) (binv .int .eql t66_162 (Value.int .i64 1))) fun t67_163 =>
  BND (pickv t64_161 t67_163 (Value.bool false)) fun t68_164 =>
  JOIN (α := World → Prop) (fun k_220 => COND t68_164
  (CALL PR F_slices_partialInsertionSortOrdered_uint64 [data_p0, a_2, b_3] w6 fun t72_221 w14 =>
  COND t72_221
  (R (.tuple #[]) w14)
  (k_220 w14))
  (k_220 w6))
  (fun w7 => BND (binv .int .gtr a_2 (Value.int .i64 0)) fun t74_169 =>
  BND (grd (isB t74_169 true) (some data_p0)) fun t76_170 =>
  BND (grd (isB t74_169 true) (some a_2)) fun t77_171 =>
  BND (grd (isB t74_169 true) (binv .int .sub t77_171 (Value.int .i64 1))) fun t78_172 =>
  BND (grd (isB t74_169 true) (iaddr 1 t76_170 t78_172)) fun t79_173 =>
  BND (grd (isB t74_169 true) (some data_p0)) fun t81_174 =>
  BND (grd (isB t74_169 true) (some pivot_148)) fun t82_175 =>
  BND (grd (isB t74_169 true) (iaddr 1 t81_174 t82_175)) fun t83_176 =>
  BND (grd (isB t74_169 true) (load1 w7.drew t79_173)) fun t80_177 =>
  BND (grd (isB t74_169 true) (load1 w7.drew t83_176)) fun t84_178 =>
  GEF (isB t74_169 true) (fun k_ => CALL PR F_cmp_Less_uint64 [t80_177, t84_178] w7.drew k_) w7.drew fun t85_179 w8 =>
  BND (grd (isB t74_169 true) (unv .not t85_179)) fun t86_180 =>
  BND (pickv t74_169 t86_180 (Value.bool false)) fun t87_181 =>
  COND t87_181
  (CALL PR F_slices_partitionEqualOrdered_uint64 [data_p0, a_2, b_3, pivot_148] w8 fun t92_182 w9 =>
  (J_1 t92_182 b_3 limit_137 wasBalanced_5 wasPartitioned_6 w9 ∧ m_1 t92_182 b_3 limit_137 wasBalanced_5 wasPartitioned_6 w9 < m_1 a_2 b_3 limit_4 wasBalanced_5 wasPartitioned_6 w1))
  (CALL PR F_slices_partitionOrdered_uint64 [data_p0, a_2, b_3, pivot_148] w8 fun t99_183 w10 =>
  BND (extractv t99_183 0) fun t100_184 =>
  BND (extractv t99_183 1) fun t101_185 =>
  BND (binv .int .sub t100_184 a_2) fun t105_186 =>
  BND (binv .int .sub b_3 t100_184) fun t108_187 =>
  BND (binv .int .quo t21_131 (Value.int .i64 8)) fun t110_188 =>
  BND (binv .int .lss t105_186 t108_187) fun t113_189 =>
  JOIN (α := Value → Value → Value → World → Prop) (fun k_213 => COND t113_189
  (BND (binv .int .geq t105_186 t110_188) fun t116_214 =>
  CALL PR F_slices_pdqsortOrdered_uint64 [data_p0, a_2, t100_184, limit_137] w10 fun t121_215 w12 =>
  BND (binv .int .add t100_184 (Value.int .i64 1)) fun t123_216 =>
  k_213 t123_216 b_3 t116_214 w12)
  (BND (binv .int .geq t108_187 t110_188) fun t126_217 =>
  BND (binv .int .add t100_184 (Value.int .i64 1)) fun t129_218 =>
  CALL PR F_slices_pdqsortOrdered_uint64 [data_p0, t129_218, b_3, limit_137] w10 fun t132_219 w13 =>
  k_213 a_2 t100_184 t126_217 w13))
  (fun a_190 b_191 wasBalanced_192 w11 => (J_1 a_190 b_191 limit_137 wasBalanced_192 t101_185 w11 ∧ m_1 a_190 b_191 limit_137 wasBalanced_192 t101_185 w11 < m_1 a_2 b_3 limit_4 wasBalanced_5 wasPartitioned_6 w1)))))))))
def ann_slices_pdqsortOrdered_uint64 : List (Nat × List Nat) := [(17, [0, 1, 2, 3, 4, 5, 6, 8, 9, 10, 7, 11, 12, 13, 14]), (1000002, [1, 2, 3, 8, 9])]
theorem E_slices_pdqsortOrdered_uint64 (data_p0 a_p1 b_p2 limit_p3 : Value) (w : World) (R : Value → World → Prop) : M_slices_pdqsortOrdered_uint64 data_p0 a_p1 b_p2 limit_p3 w R = den PR ann_slices_pdqsortOrdered_uint64 (bodyOf Tryd.f30) (retQ PR Tryd.f30.results.toList R) (env0 [data_p0, a_p1, b_p2, limit_p3]) w := by kernel_rfl
theorem C_slices_pdqsortOrdered_uint64 {data_p0 a_p1 b_p2 limit_p3 : Value} {w : World} {R : Value → World → Prop} (h : M_slices_pdqsortOrdered_uint64 data_p0 a_p1 b_p2 limit_p3 w R) : CALL PR F_slices_pdqsortOrdered_uint64 [data_p0, a_p1, b_p2, limit_p3] w R :=
  call_of_den2 ann_slices_pdqsortOrdered_uint64 Tryd.func30 (by kernel_rfl) (by kernel_rfl) (by kernel_rfl) ((E_slices_pdqsortOrdered_uint64 data_p0 a_p1 b_p2 limit_p3 w R) ▸ h)
-- 31 math.bits.Len
def M_math_bits_Len (x_p0 : Value) (w : World) (R : Value → World → Prop) : Prop :=
  COND (Value.bool false)
  (BND (convi .u32 x_p0) fun t4_1 =>
  CALL PR F_math_bits_Len32 [t4_1] w fun t5_2 w1 =>
  R t5_2 w1)
  (CALL PR F_math_bits_Len64 [x_p0] w fun t7_3 w2 =>
  R t7_3 w2)
def ann_math_bits_Len : List (Nat × List Nat) := []
theorem E_math_bits_Len (x_p0 : Value) (w : World) (R : Value → World → Prop) : M_math_bits_Len x_p0 w R = den PR ann_math_bits_Len (bodyOf Tryd.f31) (retQ PR Tryd.f31.results.toList R) (env0 [x_p0]) w := by kernel_rfl
theorem C_math_bits_Len {x_p0 : Value} {w : World} {R : Value → World → Prop} (h : M_math_bits_Len x_p0 w R) : CALL PR F_math_bits_Len [x_p0] w R :=
  call_of_den2 ann_math_bits_Len Tryd.func31 (by kernel_rfl) (by kernel_rfl) (by kernel_rfl) ((E_math_bits_Len x_p0 w R) ▸ h)
-- 44 slices.insertionSortOrdered[uint64]
def M_slices_insertionSortOrdered_uint64 (data_p0 a_p1 b_p2 : Value) (w : World) (R : Value → World → Prop) : Prop :=
  BND (binv .int .add a_p1 (Value.int .i64 1)) fun t9_1 =>
  ∃ (J_2 : Value → World → Prop) (m_2 : Value → World → Nat), J_2 t9_1 w ∧ ∀ (_d_2 : Env) (i_3 : Value) (w1 : World), J_2 i_3 w1 →
  (BND (binv .int .lss i_3 b_p2) fun t12_44 =>
  COND t12_44
  (∃ (J_45 : Value → World → Prop) (m_45 : Value → World → Nat), J_45 i_3 w1 ∧ ∀ (_d_45 : Env) (j_46 : Value) (w2 : World), J_45 j_46 w2 →
  (BND (binv .int .gtr j_46 a_p1) fun t18_80 =>
  BND (grd (isB t18_80 true) (some data_p0)) fun t20_81 =>
  BND (grd (isB t18_80 true) (some j_46)) fun t21_82 =>
  BND (grd (isB t18_80 true) (iaddr 1 t20_81 t21_82)) fun t22_83 =>
  BND (grd (isB t18_80 true) (some data_p0)) fun t24_84 =>
  BND (grd (isB t18_80 true) (some j_46)) fun t25_85 =>
  BND (grd (isB t18_80 true) (binv .int .sub t25_85 (Value.int .i64 1))) fun t26_86 =>
  BND (grd (isB t18_80 true) (iaddr 1 t24_84 t26_86)) fun t27_87 =>
  BND (grd (isB t18_80 true) (load1 w2.drew t22_83)) fun t23_88 =>
  BND (grd (isB t18_80 true) (load1 w2.drew t27_87)) fun t28_89 =>
  GEF (isB t18_80 true) (fun k_ => CALL PR F_cmp_Less_uint64 [t23_88, t28_89] w2.drew k_) w2.drew fun t29_90 w3 =>
  BND (pickv t18_80 t29_90 (Value.bool false)) fun t30_91 =>
  COND t30_91
  (BND (binv .int .sub j_46 (Value.int .i64 1)) fun t37_92 =>
  BND (binv .int .sub j_46 (Value.int .i64 1)) fun t40_93 =>
  BND (iaddr 1 data_p0 t40_93) fun t41_94 =>
  BND (iaddr 1 data_p0 j_46) fun t45_95 =>
  BND (load1 w3.drew t41_94) fun t42_96 =>
  BND (load1 w3.drew t45_95) fun t46_97 =>
  BND (iaddr 1 data_p0 j_46) fun t47_98 =>
  BND (storev 1 w3.drew t47_98 t42_96) fun w4 =>
  BND (iaddr 1 data_p0 t37_92) fun t48_99 =>
  BND (storev 1 w4 t48_99 t46_97) fun w5 =>
  BND (binv .int .sub j_46 (Value.int .i64 1)) fun t32_100 =>
  (J_45 t32_100 w5 ∧ m_45 t32_100 w5 < m_45 j_46 w2))
  (BND (binv .int .add i_3 (Value.int .i64 1)) fun t14_101 =>
  (J_2 t14_101 w3 ∧ m_2 t14_101 w3 < m_2 i_3 w1))))
  (R (.tuple #[]) w1))
def ann_slices_insertionSortOrdered_uint64 : List (Nat × List Nat) := [(4, [0, 1, 2, 3, 4, 5, 6, 8, 9, 10, 11, 7, 12, 13, 14]), (6, [0, 1, 2, 3, 4, 5, 6, 7, 8, 10, 11, 12, 9, 13, 14, 15, 16, 17]), (1000001, [6]), (1000004, [7])]
theorem E_slices_insertionSortOrdered_uint64 (data_p0 a_p1 b_p2 : Value) (w : World) (R : Value → World → Prop) : M_slices_insertionSortOrdered_uint64 data_p0 a_p1 b_p2 w R = den PR ann_slices_insertionSortOrdered_uint64 (bodyOf Tryd.f44) (retQ PR Tryd.f44.results.toList R) (env0 [data_p0, a_p1, b_p2]) w := by kernel_rfl
theorem C_slices_insertionSortOrdered_uint64 {data_p0 a_p1 b_p2 : Value} {w : World} {R : Value → World → Prop} (h : M_slices_insertionSortOrdered_uint64 data_p0 a_p1 b_p2 w R) : CALL PR F_slices_insertionSortOrdered_uint64 [data_p0, a_p1, b_p2] w R :=
  call_of_den2 ann_slices_insertionSortOrdered_uint64 Tryd.func44 (by kernel_rfl) (by kernel_rfl) (by kernel_rfl) ((E_slices_insertionSortOrdered_uint64 data_p0 a_p1 b_p2 w R) ▸ h)
-- 45 slices.heapSortOrdered[uint64]
def M_slices_heapSortOrdered_uint64 (data_p0 a_p1 b_p2 : Value) (w : World) (R : Value → World → Prop) : Prop :=
  BND (binv .int .sub b_p2 a_p1) fun t14_1 =>
  BND (binv .int .sub t14_1 (Value.int .i64 1)) fun t16_2 =>
  BND (binv .int .quo t16_2 (Value.int .i64 2)) fun t17_3 =>
  ∃ (J_4 : Value → World → Prop) (m_4 : Value → World → Nat), J_4 t17_3 w ∧ ∀ (_d_4 : Env) (i_5 : Value) (w1 : World), J_4 i_5 w1 →
  (BND (binv .int .geq i_5 (Value.int .i64 0)) fun t19_15 =>
  COND t19_15
  (CALL PR F_slices_siftDownOrdered_uint64 [data_p0, i_5, t14_1, a_p1] w1 fun t26_16 w2 =>
  BND (binv .int .sub i_5 (Value.int .i64 1)) fun t21_17 =>
  (J_4 t21_17 w2 ∧ m_4 t21_17 w2 < m_4 i_5 w1))
  (BND (binv .int .sub t14_1 (Value.int .i64 1)) fun t28_18 =>
  ∃ (J_19 : Value → World → Prop) (m_19 : Value → World → Nat), J_19 t28_18 w1 ∧ ∀ (_d_19 : Env) (i_20 : Value) (w3 : World), J_19 i_20 w3 →
  (BND (binv .int .geq i_20 (Value.int .i64 0)) fun t30_48 =>
  COND t30_48
  (BND (binv .int .add a_p1 i_20) fun t38_49 =>
  BND (binv .int .add a_p1 i_20) fun t42_50 =>
  BND (iaddr 1 data_p0 t42_50) fun t43_51 =>
  BND (iaddr 1 data_p0 a_p1) fun t47_52 =>
  BND (load1 w3.drew t43_51) fun t44_53 =>
  BND (load1 w3.drew t47_52) fun t48_54 =>
  BND (iaddr 1 data_p0 a_p1) fun t49_55 =>
  BND (storev 1 w3.drew t49_55 t44_53) fun w4 =>
  BND (iaddr 1 data_p0 t38_49) fun t50_56 =>
  BND (storev 1 w4 t50_56 t48_54) fun w5 =>
  CALL PR F_slices_siftDownOrdered_uint64 [data_p0, (Value.int .i64 0), i_20, a_p1] w5 fun t55_57 w6 =>
  BND (binv .int .sub i_20 (Value.int .i64 1)) fun t32_58 =>
  (J_19 t32_58 w6 ∧ m_19 t32_58 w6 < m_19 i_20 w3))
  (R (.tuple #[]) w3))))
def ann_slices_heapSortOrdered_uint64 : List (Nat × List Nat) := [(10, [0, 1, 2, 3, 4, 5, 6, 7, 8, 9, 10, 12, 13, 14, 11, 15, 16, 17, 18, 19]), (1000004, [9]), (1000008, [10])]
theorem E_slices_heapSortOrdered_uint64 (data_p0 a_p1 b_p2 : Value) (w : World) (R : Value → World → Prop) : M_slices_heapSortOrdered_uint64 data_p0 a_p1 b_p2 w R = den PR ann_slices_heapSortOrdered_uint64 (bodyOf Tryd.f45) (retQ PR Tryd.f45.results.toList R) (env0 [data_p0, a_p1, b_p2]) w := by kernel_rfl
theorem C_slices_heapSortOrdered_uint64 {data_p0 a_p1 b_p2 : Value} {w : World} {R : Value → World → Prop} (h : M_slices_heapSortOrdered_uint64 data_p0 a_p1 b_p2 w R) : CALL PR F_slices_heapSortOrdered_uint64 [data_p0, a_p1, b_p2] w R :=
  call_of_den2 ann_slices_heapSortOrdered_uint64 Tryd.func45 (by kernel_rfl) (by kernel_rfl) (by kernel_rfl) ((E_slices_heapSortOrdered_uint64 data_p0 a_p1 b_p2 w R) ▸ h)
-- 46 slices.breakPatternsOrdered[uint64]
def M_slices_breakPatternsOrdered_uint64 (data_p0 a_p1 b_p2 : Value) (w : World) (R : Value → World → Prop) : Prop :=
  BND (binv .int .sub b_p2 a_p1) fun t13_1 =>
  BND (binv .int .geq t13_1 (Value.int .i64 8)) fun t15_2 =>
  JOIN (α := World → Prop) (fun k_56 => COND t15_2
  (BND (convi .u64 t13_1) fun t17_57 =>
  NEW (newv 100 w (Value.int .u64 0)) fun random_58 w2 =>
  BND (storev 1 w2 random_58 t17_57) fun w3 =>
  CALL PR F_slices_nextPowerOfTwo [t13_1] w3 fun t19_59 w4 =>
  BND (binv .int .quo t13_1 (Value.int .i64 4)) fun t22_60 =>
  BND (binv .int .mul t22_60 (Value.int .i64 2)) fun t23_61 =>
  BND (binv .int .add a_p1 t23_61) fun t24_62 =>
  BND (binv .int .sub t24_62 (Value.int .i64 1)) fun t25_63 =>
  ∃ (J_64 : Value → World → Prop) (m_64 : Value → World → Nat), J_64 t25_63 w4 ∧ ∀ (_d_64 : Env) (idx_65 : Value) (w5 : World), J_64 idx_65 w5 →
  (BND (binv .int .quo t13_1 (Value.int .i64 4)) fun t29_106 =>
  BND (binv .int .mul t29_106 (Value.int .i64 2)) fun t30_107 =>
  BND (binv .int .add a_p1 t30_107) fun t31_108 =>
  BND (binv .int .add t31_108 (Value.int .i64 1)) fun t32_109 =>
  BND (binv .int .leq idx_65 t32_109) fun t33_110 =>
  COND t33_110
  (CALL PR F_slices_xorshift_Next [random_58] w5 fun t36_111 w6 =>
  BND (binv .int .sub t19_59 (Value.int .u64 1)) fun t38_112 =>
  BND (binv .int .and t36_111 t38_112) fun t39_113 =>
  BND (convi .i64 t39_113) fun t40_114 =>
  BND (binv .int .geq t40_114 t13_1) fun t43_115 =>
  JOIN (α := Value → World → Prop) (fun k_129 => COND t43_115
  (BND (binv .int .sub t40_114 t13_1) fun t46_130 =>
  k_129 t46_130 w6)
  (k_129 t40_114 w6))
  (fun other_116 w7 => BND (binv .int .add a_p1 other_116) fun t52_120 =>
  BND (binv .int .add a_p1 other_116) fun t56_121 =>
  BND (iaddr 1 data_p0 t56_121) fun t57_122 =>
  BND (iaddr 1 data_p0 idx_65) fun t61_123 =>
  BND (load1 w7.drew t57_122) fun t58_124 =>
  BND (load1 w7.drew t61_123) fun t62_125 =>
  BND (iaddr 1 data_p0 idx_65) fun t63_126 =>
  BND (storev 1 w7.drew t63_126 t58_124) fun w8 =>
  BND (iaddr 1 data_p0 t52_120) fun t64_127 =>
  BND (storev 1 w8 t64_127 t62_125) fun w9 =>
  BND (binv .int .add idx_65 (Value.int .i64 1)) fun t35_128 =>
  (J_64 t35_128 w9 ∧ m_64 t35_128 w9 < m_64 idx_65 w5)))
  (k_56 w5)))
  (k_56 w))
  (fun w1 => R (.tuple #[]) w1)
def ann_slices_breakPatternsOrdered_uint64 : List (Nat × List Nat) := [(10, [0, 1, 2, 3, 4, 5, 6, 7, 8, 9, 10, 12, 13, 14, 11, 15, 16, 17, 18, 19]), (1000005, [9])]
theorem E_slices_breakPatternsOrdered_uint64 (data_p0 a_p1 b_p2 : Value) (w : World) (R : Value → World → Prop) : M_slices_breakPatternsOrdered_uint64 data_p0 a_p1 b_p2 w R = den PR ann_slices_breakPatternsOrdered_uint64 (bodyOf Tryd.f46) (retQ PR Tryd.f46.results.toList R) (env0 [data_p0, a_p1, b_p2]) w := by kernel_rfl
theorem C_slices_breakPatternsOrdered_uint64 {data_p0 a_p1 b_p2 : Value} {w : World} {R : Value → World → Prop} (h : M_slices_breakPatternsOrdered_uint64 data_p0 a_p1 b_p2 w R) : CALL PR F_slices_breakPatternsOrdered_uint64 [data_p0, a_p1, b_p2] w R :=
  call_of_den2 ann_slices_breakPatternsOrdered_uint64 Tryd.func46 (by kernel_rfl) (by kernel_rfl) (by kernel_rfl) ((E_slices_breakPatternsOrdered_uint64 data_p0 a_p1 b_p2 w R) ▸ h)
-- 47 slices.choosePivotOrdered[uint64]
def M_slices_choosePivotOrdered_uint64 (data_p0 a_p1 b_p2 : Value) (w : World) (R : Value → World → Prop) : Prop :=
  BND (binv .int .sub b_p2 a_p1) fun t15_1 =>
  NEW (newv 3 w (Value.int .i64 0)) fun swaps_2 w1 =>
  BND (binv .int .quo t15_1 (Value.int .i64 4)) fun t18_3 =>
  BND (binv .int .mul t18_3 (Value.int .i64 1)) fun t19_4 =>
  BND (binv .int .add a_p1 t19_4) fun t20_5 =>
  BND (binv .int .quo t15_1 (Value.int .i64 4)) fun t23_6 =>
  BND (binv .int .mul t23_6 (Value.int .i64 2)) fun t24_7 =>
  BND (binv .int .add a_p1 t24_7) fun t25_8 =>
  BND (binv .int .quo t15_1 (Value.int .i64 4)) fun t28_9 =>
  BND (binv .int .mul t28_9 (Value.int .i64 3)) fun t29_10 =>
  BND (binv .int .add a_p1 t29_10) fun t30_11 =>
  BND (binv .int .geq t15_1 (Value.int .i64 8)) fun t32_12 =>
  JOIN (α := Value → World → Prop) (fun k_35 => COND t32_12
  (BND (binv .int .geq t15_1 (Value.int .i64 50)) fun t34_36 =>
  JOIN (α := Value → Value → Value → World → Prop) (fun k_50 => COND t34_36
  (CALL PR F_slices_medianAdjacentOrdered_uint64 [data_p0, t20_5, swaps_2] w1 fun t37_51 w5 =>
  CALL PR F_slices_medianAdjacentOrdered_uint64 [data_p0, t25_8, swaps_2] w5 fun t40_52 w6 =>
  CALL PR F_slices_medianAdjacentOrdered_uint64 [data_p0, t30_11, swaps_2] w6 fun t43_53 w7 =>
  k_50 t37_51 t40_52 t43_53 w7)
  (k_50 t20_5 t25_8 t30_11 w1))
  (fun i_37 j_38 k_39 w3 => CALL PR F_slices_medianOrdered_uint64 [data_p0, i_37, j_38, k_39, swaps_2] w3 fun t48_49 w4 =>
  k_35 t48_49 w4))
  (k_35 t25_8 w1))
  (fun j_14 w2 => BND (load1 w2 swaps_2) fun t49_32 =>
  BND (binv .int .eql t49_32 (Value.int .i64 0)) fun t52_33 =>
  COND t52_33
  (R (.tuple #[j_14, (Value.int .i64 1)]) w2)
  (BND (binv .int .eql t49_32 (Value.int .i64 12)) fun t55_34 =>
  COND t55_34
  (R (.tuple #[j_14, (Value.int .i64 2)]) w2)
  (R (.tuple #[j_14, (Value.int .i64 0)]) w2)))
def ann_slices_choosePivotOrdered_uint64 : List (Nat × List Nat) := []
theorem E_slices_choosePivotOrdered_uint64 (data_p0 a_p1 b_p2 : Value) (w : World) (R : Value → World → Prop) : M_slices_choosePivotOrdered_uint64 data_p0 a_p1 b_p2 w R = den PR ann_slices_choosePivotOrdered_uint64 (bodyOf Tryd.f47) (retQ PR Tryd.f47.results.toList R) (env0 [data_p0, a_p1, b_p2]) w := by kernel_rfl
theorem C_slices_choosePivotOrdered_uint64 {data_p0 a_p1 b_p2 : Value} {w : World} {R : Value → World → Prop} (h : M_slices_choosePivotOrdered_uint64 data_p0 a_p1 b_p2 w R) : CALL PR F_slices_choosePivotOrdered_uint64 [data_p0, a_p1, b_p2] w R :=
  call_of_den2 ann_slices_choosePivotOrdered_uint64 Tryd.func47 (by kernel_rfl) (by kernel_rfl) (by kernel_rfl) ((E_slices_choosePivotOrdered_uint64 data_p0 a_p1 b_p2 w R) ▸ h)
-- 48 slices.reverseRangeOrdered[uint64]
def M_slices_reverseRangeOrdered_uint64 (data_p0 a_p1 b_p2 : Value) (w : World) (R : Value → World → Prop) : Prop :=
  BND (binv .int .sub b_p2 (Value.int .i64 1)) fun t10_1 =>
  ∃ (J_2 : Value → Value → World → Prop) (m_2 : Value → Value → World → Nat), J_2 a_p1 t10_1 w ∧ ∀ (_d_2 : Env) (i_3 j_4 : Value) (w1 : World), J_2 i_3 j_4 w1 →
  (BND (binv .int .lss i_3 j_4) fun t13_26 =>
  COND t13_26
  (BND (iaddr 1 data_p0 j_4) fun t20_27 =>
  BND (iaddr 1 data_p0 i_3) fun t24_28 =>
  BND (load1 w1.drew t20_27) fun t21_29 =>
  BND (load1 w1.drew t24_28) fun t25_30 =>
  BND (iaddr 1 data_p0 i_3) fun t26_31 =>
  BND (storev 1 w1.drew t26_31 t21_29) fun w2 =>
  BND (iaddr 1 data_p0 j_4) fun t27_32 =>
  BND (storev 1 w2 t27_32 t25_30) fun w3 =>
  BND (binv .int .add i_3 (Value.int .i64 1)) fun t29_33 =>
  BND (binv .int .sub j_4 (Value.int .i64 1)) fun t31_34 =>
  (J_2 t29_33 t31_34 w3 ∧ m_2 t29_33 t31_34 w3 < m_2 i_3 j_4 w1))
  (R (.tuple #[]) w1))
def ann_slices_reverseRangeOrdered_uint64 : List (Nat × List Nat) := [(3, [0, 1, 2, 3, 4, 5, 6, 8, 9, 10, 7, 11, 12, 13, 14, 15]), (1000002, [6, 7])]
theorem E_slices_reverseRangeOrdered_uint64 (data_p0 a_p1 b_p2 : Value) (w : World) (R : Value → World → Prop) : M_slices_reverseRangeOrdered_uint64 data_p0 a_p1 b_p2 w R = den PR ann_slices_reverseRangeOrdered_uint64 (bodyOf Tryd.f48) (retQ PR Tryd.f48.results.toList R) (env0 [data_p0, a_p1, b_p2]) w := by kernel_rfl
theorem C_slices_reverseRangeOrdered_uint64 {data_p0 a_p1 b_p2 : Value} {w : World} {R : Value → World → Prop} (h : M_slices_reverseRangeOrdered_uint64 data_p0 a_p1 b_p2 w R) : CALL PR F_slices_reverseRangeOrdered_uint64 [data_p0, a_p1, b_p2] w R :=
  call_of_den2 ann_slices_reverseRangeOrdered_uint64 Tryd.func48 (by kernel_rfl) (by kernel_rfl) (by kernel_rfl) ((E_slices_reverseRangeOrdered_uint64 data_p0 a_p1 b_p2 w R) ▸ h)
-- 49 slices.partialInsertionSortOrdered[uint64]
def M_slices_partialInsertionSortOrdered_uint64 (data_p0 a_p1 b_p2 : Value) (w : World) (R : Value → World → Prop) : Prop :=
  BND (binv .int .add a_p1 (Value.int .i64 1)) fun t12_1 =>
  ∃ (J_2 : Value → Value → World → Prop) (m_2 : Value → Value → World → Nat), J_2 t12_1 (Value.int .i64 0) w ∧ ∀ (_d_2 : Env) (i_4 j_5 : Value) (w1 : World), J_2 i_4 j_5 w1 →
  (BND (binv .int .lss j_5 (Value.int .i64 5)) fun t14_128 =>
  COND t14_128
  (∃ (J_129 : Value → World → Prop) (m_129 : Value → World → Nat), J_129 i_4 w1 ∧ ∀ (_d_129 : Env) (i_130 : Value) (w2 : World), J_129 i_130 w2 →
  (BND (binv .int .lss i_130 b_p2) fun t19_149 =>
  BND (grd (isB t19_149 true) (some data_p0)) fun t21_150 =>
  BND (grd (isB t19_149 true) (some i_130)) fun t22_151 =>
  BND (grd (isB t19_149 true) (iaddr 1 t21_150 t22_151)) fun t23_152 =>
  BND (grd (isB t19_149 true) (some data_p0)) fun t25_153 =>
  BND (grd (isB t19_149 true) (some i_130)) fun t26_154 =>
  BND (grd (isB t19_149 true) (binv .int .sub t26_154 (Value.int .i64 1))) fun t27_155 =>
  BND (grd (isB t19_149 true) (iaddr 1 t25_153 t27_155)) fun t28_156 =>
  BND (grd (isB t19_149 true) (load1 w2.drew t23_152)) fun t24_157 =>
  BND (grd (isB t19_149 true) (load1 w2.drew t28_156)) fun t29_158 =>
  GEF (isB t19_149 true) (fun k_ => CALL PR F_cmp_Less_uint64 [t24_157, t29_158] w2.drew k_) w2.drew fun t30_159 w3 =>
  BND (grd (isB t19_149 true) (unv .not t30_159)) fun t31_160 =>
  BND (pickv t19_149 t31_160 (Value.bool false)) fun t32_161 =>
  COND t32_161
  (BND (binv .int .add i_130 (Value.int .i64 1)) fun t34_162 =>
  (J_129 t34_162 w3 ∧ m_129 t34_162 w3 < m_129 i_130 w2))
  (BND (binv .int .eql i_130 b_p2) fun t37_163 =>
  COND t37_163
  (R (Value.bool true) w3)
  (BND (binv .int .sub b_p2 a_p1) fun t40_164 =>
  BND (binv .int .lss t40_164 (Value.int .i64 50)) fun t41_165 =>
  COND t41_165
  (R (Value.bool false) w3)
  (BND (binv .int .sub i_130 (Value.int .i64 1)) fun t46_166 =>
  BND (binv .int .sub i_130 (Value.int .i64 1)) fun t49_167 =>
  BND (iaddr 1 data_p0 t49_167) fun t50_168 =>
  BND (iaddr 1 data_p0 i_130) fun t54_169 =>
  BND (load1 w3.drew t50_168) fun t51_170 =>
  BND (load1 w3.drew t54_169) fun t55_171 =>
  BND (iaddr 1 data_p0 i_130) fun t56_172 =>
  BND (storev 1 w3.drew t56_172 t51_170) fun w4 =>
  BND (iaddr 1 data_p0 t46_166) fun t57_173 =>
  BND (storev 1 w4 t57_173 t55_171) fun w5 =>
  BND (binv .int .sub i_130 a_p1) fun t60_174 =>
  BND (binv .int .geq t60_174 (Value.int .i64 2)) fun t61_175 =>
  JOIN (α := World → Prop) (fun k_301 => COND t61_175
  (BND (binv .int .sub i_130 (Value.int .i64 1)) fun t63_302 =>
  ∃ (J_303 : Value → World → Prop) (m_303 : Value → World → Nat), J_303 t63_302 w5 ∧ ∀ (_d_303 : Env) (j_304 : Value) (w12 : World), J_303 j_304 w12 →
  (BND (binv .int .geq j_304 (Value.int .i64 1)) fun t65_336 =>
  COND t65_336
  (BND (iaddr 1 data_p0 j_304) fun t70_337 =>
  BND (binv .int .sub j_304 (Value.int .i64 1)) fun t74_338 =>
  BND (iaddr 1 data_p0 t74_338) fun t75_339 =>
  BND (load1 w12.drew t70_337) fun t71_340 =>
  BND (load1 w12.drew t75_339) fun t76_341 =>
  CALL PR F_cmp_Less_uint64 [t71_340, t76_341] w12.drew fun t77_342 w13 =>
  BND (unv .not t77_342) fun t78_343 =>
  COND t78_343
  (k_301 w13)
  (BND (binv .int .sub j_304 (Value.int .i64 1)) fun t83_344 =>
  BND (binv .int .sub j_304 (Value.int .i64 1)) fun t86_345 =>
  BND (iaddr 1 data_p0 t86_345) fun t87_346 =>
  BND (iaddr 1 data_p0 j_304) fun t91_347 =>
  BND (load1 w13.drew t87_346) fun t88_348 =>
  BND (load1 w13.drew t91_347) fun t92_349 =>
  BND (iaddr 1 data_p0 j_304) fun t93_350 =>
  BND (storev 1 w13.drew t93_350 t88_348) fun w14 =>
  BND (iaddr 1 data_p0 t83_344) fun t94_351 =>
  BND (storev 1 w14 t94_351 t92_349) fun w15 =>
  BND (binv .int .sub j_304 (Value.int .i64 1)) fun t67_352 =>
  (J_303 t67_352 w15 ∧ m_303 t67_352 w15 < m_303 j_304 w12)))
  (k_301 w12)))
  (k_301 w5))
  (fun w6 => BND (binv .int .sub b_p2 i_130) fun t97_210 =>
  BND (binv .int .geq t97_210 (Value.int .i64 2)) fun t98_211 =>
  JOIN (α := World → Prop) (fun k_248 => COND t98_211
  (BND (binv .int .add i_130 (Value.int .i64 1)) fun t100_249 =>
  ∃ (J_250 : Value → World → Prop) (m_250 : Value → World → Nat), J_250 t100_249 w6 ∧ ∀ (_d_250 : Env) (j_251 : Value) (w8 : World), J_250 j_251 w8 →
  (BND (binv .int .lss j_251 b_p2) fun t103_284 =>
  COND t103_284
  (BND (iaddr 1 data_p0 j_251) fun t108_285 =>
  BND (binv .int .sub j_251 (Value.int .i64 1)) fun t112_286 =>
  BND (iaddr 1 data_p0 t112_286) fun t113_287 =>
  BND (load1 w8.drew t108_285) fun t109_288 =>
  BND (load1 w8.drew t113_287) fun t114_289 =>
  CALL PR F_cmp_Less_uint64 [t109_288, t114_289] w8.drew fun t115_290 w9 =>
  BND (unv .not t115_290) fun t116_291 =>
  COND t116_291
  (k_248 w9)
  (BND (binv .int .sub j_251 (Value.int .i64 1)) fun t121_292 =>
  BND (binv .int .sub j_251 (Value.int .i64 1)) fun t124_293 =>
  BND (iaddr 1 data_p0 t124_293) fun t125_294 =>
  BND (iaddr 1 data_p0 j_251) fun t129_295 =>
  BND (load1 w9.drew t125_294) fun t126_296 =>
  BND (load1 w9.drew t129_295) fun t130_297 =>
  BND (iaddr 1 data_p0 j_251) fun t131_298 =>
  BND (storev 1 w9.drew t131_298 t126_296) fun w10 =>
  BND (iaddr 1 data_p0 t121_292) fun t132_299 =>
  BND (storev 1 w10 t132_299 t130_297) fun w11 =>
  BND (binv .int .add j_251 (Value.int .i64 1)) fun t105_300 =>
  (J_250 t105_300 w11 ∧ m_250 t105_300 w11 < m_250 j_251 w8)))
  (k_248 w8)))
  (k_248 w6))
  (fun w7 => BND (binv .int .add j_5 (Value.int .i64 1)) fun t16_247 =>
  (J_2 i_130 t16_247 w7 ∧ m_2 i_130 t16_247 w7 < m_2 i_4 j_5 w1))))))))
  (R (Value.bool false) w1))
def ann_slices_partialInsertionSortOrdered_uint64 : List (Nat × List Nat) := [(5, [0, 1, 2, 3, 4, 5, 6, 8, 9, 10, 11, 7, 12, 13, 14, 15]), (11, [0, 1, 2, 3, 4, 5, 6, 7, 8, 10, 11, 12, 9, 13, 14, 15, 16, 17]), (16, [0, 1, 2, 4, 5, 6, 7, 3, 8, 9, 10]), (17, [0, 1, 2, 3, 4, 5, 6, 7, 8, 10, 11, 12, 9, 13, 14, 15, 16, 17]), (22, [0, 1, 2, 4, 5, 6, 7, 3, 8, 9, 10]), (23, [0, 1, 2, 3, 4, 5, 6, 7, 8, 10, 11, 12, 9, 13, 14, 15, 16, 17]), (1000003, [7, 8]), (1000005, [7]), (1000014, [9]), (1000020, [10])]
theorem E_slices_partialInsertionSortOrdered_uint64 (data_p0 a_p1 b_p2 : Value) (w : World) (R : Value → World → Prop) : M_slices_partialInsertionSortOrdered_uint64 data_p0 a_p1 b_p2 w R = den PR ann_slices_partialInsertionSortOrdered_uint64 (bodyOf Tryd.f49) (retQ PR Tryd.f49.results.toList R) (env0 [data_p0, a_p1, b_p2]) w := by kernel_rfl
theorem C_slices_partialInsertionSortOrdered_uint64 {data_p0 a_p1 b_p2 : Value} {w : World} {R : Value → World → Prop} (h : M_slices_partialInsertionSortOrdered_uint64 data_p0 a_p1 b_p2 w R) : CALL PR F_slices_partialInsertionSortOrdered_uint64 [data_p0, a_p1, b_p2] w R :=
  call_of_den2 ann_slices_partialInsertionSortOrdered_uint64 Tryd.func49 (by kernel_rfl) (by kernel_rfl) (by kernel_rfl) ((E_slices_partialInsertionSortOrdered_uint64 data_p0 a_p1 b_p2 w R) ▸ h)
-- 50 cmp.Less[uint64]
def M_cmp_Less_uint64 (x_p0 y_p1 : Value) (w : World) (R : Value → World → Prop) : Prop :=
  CALL PR F_cmp_isNaN_uint64 [x_p0] w fun t6_1 w1 =>
  BND (grd (isB t6_1 true) (some y_p1)) fun t8_2 =>
  GEF (isB t6_1 true) (fun k_ => CALL PR F_cmp_isNaN_uint64 [t8_2] w1 k_) w1 fun t9_3 w2 =>
  BND (grd (isB t6_1 true) (unv .not t9_3)) fun t10_4 =>
  BND (pickv t6_1 t10_4 (Value.bool false)) fun t11_5 =>
  BND (grd (isB t11_5 false) (some x_p0)) fun t13_6 =>
  BND (grd (isB t11_5 false) (some y_p1)) fun t14_7 =>
  BND (grd (isB t11_5 false) (binv .int .lss t13_6 t14_7)) fun t15_8 =>
  BND (pickv t11_5 (Value.bool true) t15_8) fun t16_9 =>
  R t16_9 w2
def ann_cmp_Less_uint64 : List (Nat × List Nat) := []
theorem E_cmp_Less_uint64 (x_p0 y_p1 : Value) (w : World) (R : Value → World → Prop) : M_cmp_Less_uint64 x_p0 y_p1 w R = den PR ann_cmp_Less_uint64 (bodyOf Tryd.f50) (retQ PR Tryd.f50.results.toList R) (env0 [x_p0, y_p1]) w := by kernel_rfl
theorem C_cmp_Less_uint64 {x_p0 y_p1 : Value} {w : World} {R : Value → World → Prop} (h : M_cmp_Less_uint64 x_p0 y_p1 w R) : CALL PR F_cmp_Less_uint64 [x_p0, y_p1] w R :=
  call_of_den2 ann_cmp_Less_uint64 Tryd.func50 (by kernel_rfl) (by kernel_rfl) (by kernel_rfl) ((E_cmp_Less_uint64 x_p0 y_p1 w R) ▸ h)
-- 51 slices.partitionEqualOrdered[uint64]
def M_slices_partitionEqualOrdered_uint64 (data_p0 a_p1 b_p2 pivot_p3 : Value) (w : World) (R : Value → World → Prop) : Prop :=
  BND (iaddr 1 data_p0 pivot_p3) fun t17_1 =>
  BND (iaddr 1 data_p0 a_p1) fun t21_2 =>
  BND (load1 w.drew t17_1) fun t18_3 =>
  BND (load1 w.drew t21_2) fun t22_4 =>
  BND (iaddr 1 data_p0 a_p1) fun t23_5 =>
  BND (storev 1 w.drew t23_5 t18_3) fun w1 =>
  BND (iaddr 1 data_p0 pivot_p3) fun t24_6 =>
  BND (storev 1 w1 t24_6 t22_4) fun w2 =>
  BND (binv .int .add a_p1 (Value.int .i64 1)) fun t26_7 =>
  BND (binv .int .sub b_p2 (Value.int .i64 1)) fun t28_8 =>
  ∃ (J_9 : Value → Value → World → Prop) (m_9 : Value → Value → World → Nat), J_9 t26_7 t28_8 w2 ∧ ∀ (_d_9 : Env) (i_10 j_11 : Value) (w3 : World), J_9 i_10 j_11 w3 →
  (∃ (J_66 : Value → World → Prop) (m_66 : Value → World → Nat), J_66 i_10 w3 ∧ ∀ (_d_66 : Env) (i_67 : Value) (w4 : World), J_66 i_67 w4 →
  (BND (binv .int .leq i_67 j_11) fun t31_85 =>
  BND (grd (isB t31_85 true) (some data_p0)) fun t33_86 =>
  BND (grd (isB t31_85 true) (some a_p1)) fun t34_87 =>
  BND (grd (isB t31_85 true) (iaddr 1 t33_86 t34_87)) fun t35_88 =>
  BND (grd (isB t31_85 true) (some data_p0)) fun t37_89 =>
  BND (grd (isB t31_85 true) (some i_67)) fun t38_90 =>
  BND (grd (isB t31_85 true) (iaddr 1 t37_89 t38_90)) fun t39_91 =>
  BND (grd (isB t31_85 true) (load1 w4.drew t35_88)) fun t36_92 =>
  BND (grd (isB t31_85 true) (load1 w4.drew t39_91)) fun t40_93 =>
  GEF (isB t31_85 true) (fun k_ => CALL PR F_cmp_Less_uint64 [t36_92, t40_93] w4.drew k_) w4.drew fun t41_94 w5 =>
  BND (grd (isB t31_85 true) (unv .not t41_94)) fun t42_95 =>
  BND (pickv t31_85 t42_95 (Value.bool false)) fun t43_96 =>
  COND t43_96
  (BND (binv .int .add i_67 (Value.int .i64 1)) fun t45_97 =>
  (J_66 t45_97 w5 ∧ m_66 t45_97 w5 < m_66 i_67 w4))
  (∃ (J_98 : Value → World → Prop) (m_98 : Value → World → Nat), J_98 j_11 w5 ∧ ∀ (_d_98 : Env) (j_99 : Value) (w6 : World), J_98 j_99 w6 →
  (BND (binv .int .leq i_67 j_99) fun t48_116 =>
  BND (grd (isB t48_116 true) (some data_p0)) fun t50_117 =>
  BND (grd (isB t48_116 true) (some a_p1)) fun t51_118 =>
  BND (grd (isB t48_116 true) (iaddr 1 t50_117 t51_118)) fun t52_119 =>
  BND (grd (isB t48_116 true) (some data_p0)) fun t54_120 =>
  BND (grd (isB t48_116 true) (some j_99)) fun t55_121 =>
  BND (grd (isB t48_116 true) (iaddr 1 t54_120 t55_121)) fun t56_122 =>
  BND (grd (isB t48_116 true) (load1 w6.drew t52_119)) fun t53_123 =>
  BND (grd (isB t48_116 true) (load1 w6.drew t56_122)) fun t57_124 =>
  GEF (isB t48_116 true) (fun k_ => CALL PR F_cmp_Less_uint64 [t53_123, t57_124] w6.drew k_) w6.drew fun t58_125 w7 =>
  BND (pickv t48_116 t58_125 (Value.bool false)) fun t59_126 =>
  COND t59_126
  (BND (binv .int .sub j_99 (Value.int .i64 1)) fun t61_127 =>
  (J_98 t61_127 w7 ∧ m_98 t61_127 w7 < m_98 j_99 w6))
  (BND (binv .int .gtr i_67 j_99) fun t64_128 =>
  COND t64_128
  (R i_67 w7)
  (BND (iaddr 1 data_p0 j_99) fun t71_129 =>
  BND (iaddr 1 data_p0 i_67) fun t75_130 =>
  BND (load1 w7.drew t71_129) fun t72_131 =>
  BND (load1 w7.drew t75_130) fun t76_132 =>
  BND (iaddr 1 data_p0 i_67) fun t77_133 =>
  BND (storev 1 w7.drew t77_133 t72_131) fun w8 =>
  BND (iaddr 1 data_p0 j_99) fun t78_134 =>
  BND (storev 1 w8 t78_134 t76_132) fun w9 =>
  BND (binv .int .add i_67 (Value.int .i64 1)) fun t80_135 =>
  BND (binv .int .sub j_99 (Value.int .i64 1)) fun t82_136 =>
  (J_9 t80_135 t82_136 w9 ∧ m_9 t80_135 t82_136 w9 < m_9 i_10 j_11 w3)))))))
def ann_slices_partitionEqualOrdered_uint64 : List (Nat × List Nat) := [(1, [0, 1, 2, 3, 4, 5, 6, 8, 9, 10, 7, 11, 12, 13, 14, 15]), (3, [0, 1, 2, 3, 4, 5, 6, 8, 9, 10, 7, 11, 12, 13, 14]), (5, [0, 1, 2, 3, 4, 5, 6, 8, 9, 10, 7, 11, 12, 13]), (8, [0, 1, 2, 3, 4, 5, 6, 8, 9, 10, 7, 11, 12, 13, 14, 15]), (1000003, [9]), (1000005, [10]), (1100003, [9, 10])]
theorem E_slices_partitionEqualOrdered_uint64 (data_p0 a_p1 b_p2 pivot_p3 : Value) (w : World) (R : Value → World → Prop) : M_slices_partitionEqualOrdered_uint64 data_p0 a_p1 b_p2 pivot_p3 w R = den PR ann_slices_partitionEqualOrdered_uint64 (bodyOf Tryd.f51) (retQ PR Tryd.f51.results.toList R) (env0 [data_p0, a_p1, b_p2, pivot_p3]) w := by kernel_rfl
theorem C_slices_partitionEqualOrdered_uint64 {data_p0 a_p1 b_p2 pivot_p3 : Value} {w : World} {R : Value → World → Prop} (h : M_slices_partitionEqualOrdered_uint64 data_p0 a_p1 b_p2 pivot_p3 w R) : CALL PR F_slices_partitionEqualOrdered_uint64 [data_p0, a_p1, b_p2, pivot_p3] w R :=
  call_of_den2 ann_slices_partitionEqualOrdered_uint64 Tryd.func51 (by kernel_rfl) (by kernel_rfl) (by kernel_rfl) ((E_slices_partitionEqualOrdered_uint64 data_p0 a_p1 b_p2 pivot_p3 w R) ▸ h)
-- 52 slices.partitionOrdered[uint64]
def M_slices_partitionOrdered_uint64 (data_p0 a_p1 b_p2 pivot_p3 : Value) (w : World) (R : Value → World → Prop) : Prop :=
  BND (iaddr 1 data_p0 pivot_p3) fun t18_1 =>
  BND (iaddr 1 data_p0 a_p1) fun t22_2 =>
  BND (load1 w.drew t18_1) fun t19_3 =>
  BND (load1 w.drew t22_2) fun t23_4 =>
  BND (iaddr 1 data_p0 a_p1) fun t24_5 =>
  BND (storev 1 w.drew t24_5 t19_3) fun w1 =>
  BND (iaddr 1 data_p0 pivot_p3) fun t25_6 =>
  BND (storev 1 w1 t25_6 t23_4) fun w2 =>
  BND (binv .int .add a_p1 (Value.int .i64 1)) fun t27_7 =>
  BND (binv .int .sub b_p2 (Value.int .i64 1)) fun t29_8 =>
  ∃ (J_9 : Value → World → Prop) (m_9 : Value → World → Nat), J_9 t27_7 w2 ∧ ∀ (_d_9 : Env) (i_10 : Value) (w3 : World), J_9 i_10 w3 →
  (BND (binv .int .leq i_10 t29_8) fun t32_27 =>
  BND (grd (isB t32_27 true) (some data_p0)) fun t34_28 =>
  BND (grd (isB t32_27 true) (some i_10)) fun t35_29 =>
  BND (grd (isB t32_27 true) (iaddr 1 t34_28 t35_29)) fun t36_30 =>
  BND (grd (isB t32_27 true) (some data_p0)) fun t38_31 =>
  BND (grd (isB t32_27 true) (some a_p1)) fun t39_32 =>
  BND (grd (isB t32_27 true) (iaddr 1 t38_31 t39_32)) fun t40_33 =>
  BND (grd (isB t32_27 true) (load1 w3.drew t36_30)) fun t37_34 =>
  BND (grd (isB t32_27 true) (load1 w3.drew t40_33)) fun t41_35 =>
  GEF (isB t32_27 true) (fun k_ => CALL PR F_cmp_Less_uint64 [t37_34, t41_35] w3.drew k_) w3.drew fun t42_36 w4 =>
  BND (pickv t32_27 t42_36 (Value.bool false)) fun t43_37 =>
  COND t43_37
  (BND (binv .int .add i_10 (Value.int .i64 1)) fun t45_38 =>
  (J_9 t45_38 w4 ∧ m_9 t45_38 w4 < m_9 i_10 w3))
  (∃ (J_39 : Value → World → Prop) (m_39 : Value → World → Nat), J_39 t29_8 w4 ∧ ∀ (_d_39 : Env) (j_40 : Value) (w5 : World), J_39 j_40 w5 →
  (BND (binv .int .leq i_10 j_40) fun t48_58 =>
  BND (grd (isB t48_58 true) (some data_p0)) fun t50_59 =>
  BND (grd (isB t48_58 true) (some j_40)) fun t51_60 =>
  BND (grd (isB t48_58 true) (iaddr 1 t50_59 t51_60)) fun t52_61 =>
  BND (grd (isB t48_58 true) (some data_p0)) fun t54_62 =>
  BND (grd (isB t48_58 true) (some a_p1)) fun t55_63 =>
  BND (grd (isB t48_58 true) (iaddr 1 t54_62 t55_63)) fun t56_64 =>
  BND (grd (isB t48_58 true) (load1 w5.drew t52_61)) fun t53_65 =>
  BND (grd (isB t48_58 true) (load1 w5.drew t56_64)) fun t57_66 =>
  GEF (isB t48_58 true) (fun k_ => CALL PR F_cmp_Less_uint64 [t53_65, t57_66] w5.drew k_) w5.drew fun t58_67 w6 =>
  BND (grd (isB t48_58 true) (unv .not t58_67)) fun t59_68 =>
  BND (pickv t48_58 t59_68 (Value.bool false)) fun t60_69 =>
  COND t60_69
  (BND (binv .int .sub j_40 (Value.int .i64 1)) fun t62_70 =>
  (J_39 t62_70 w6 ∧ m_39 t62_70 w6 < m_39 j_40 w5))
  (BND (binv .int .gtr i_10 j_40) fun t65_71 =>
  COND t65_71
  (BND (iaddr 1 data_p0 a_p1) fun t72_72 =>
  BND (iaddr 1 data_p0 j_40) fun t76_73 =>
  BND (load1 w6.drew t72_72) fun t73_74 =>
  BND (load1 w6.drew t76_73) fun t77_75 =>
  BND (iaddr 1 data_p0 j_40) fun t78_76 =>
  BND (storev 1 w6.drew t78_76 t73_74) fun w7 =>
  BND (iaddr 1 data_p0 a_p1) fun t79_77 =>
  BND (storev 1 w7 t79_77 t77_75) fun w8 =>
  R (.tuple #[j_40, (Value.bool true)]) w8)
  (BND (iaddr 1 data_p0 j_40) fun t87_78 =>
  BND (iaddr 1 data_p0 i_10) fun t91_79 =>
  BND (load1 w6.drew t87_78) fun t88_80 =>
  BND (load1 w6.drew t91_79) fun t92_81 =>
  BND (iaddr 1 data_p0 i_10) fun t93_82 =>
  BND (storev 1 w6.drew t93_82 t88_80) fun w9 =>
  BND (iaddr 1 data_p0 j_40) fun t94_83 =>
  BND (storev 1 w9 t94_83 t92_81) fun w10 =>
  BND (binv .int .add i_10 (Value.int .i64 1)) fun t96_84 =>
  BND (binv .int .sub j_40 (Value.int .i64 1)) fun t98_85 =>
  ∃ (J_86 : Value → Value → World → Prop) (m_86 : Value → Value → World → Nat), J_86 t96_84 t98_85 w10 ∧ ∀ (_d_86 : Env) (i_87 j_88 : Value) (w11 : World), J_86 i_87 j_88 w11 →
  (∃ (J_143 : Value → World → Prop) (m_143 : Value → World → Nat), J_143 i_87 w11 ∧ ∀ (_d_143 : Env) (i_144 : Value) (w12 : World), J_143 i_144 w12 →
  (BND (binv .int .leq i_144 j_88) fun t101_161 =>
  BND (grd (isB t101_161 true) (some data_p0)) fun t103_162 =>
  BND (grd (isB t101_161 true) (some i_144)) fun t104_163 =>
  BND (grd (isB t101_161 true) (iaddr 1 t103_162 t104_163)) fun t105_164 =>
  BND (grd (isB t101_161 true) (some data_p0)) fun t107_165 =>
  BND (grd (isB t101_161 true) (some a_p1)) fun t108_166 =>
  BND (grd (isB t101_161 true) (iaddr 1 t107_165 t108_166)) fun t109_167 =>
  BND (grd (isB t101_161 true) (load1 w12.drew t105_164)) fun t106_168 =>
  BND (grd (isB t101_161 true) (load1 w12.drew t109_167)) fun t110_169 =>
  GEF (isB t101_161 true) (fun k_ => CALL PR F_cmp_Less_uint64 [t106_168, t110_169] w12.drew k_) w12.drew fun t111_170 w13 =>
  BND (pickv t101_161 t111_170 (Value.bool false)) fun t112_171 =>
  COND t112_171
  (BND (binv .int .add i_144 (Value.int .i64 1)) fun t114_172 =>
  (J_143 t114_172 w13 ∧ m_143 t114_172 w13 < m_143 i_144 w12))
  (∃ (J_173 : Value → World → Prop) (m_173 : Value → World → Nat), J_173 j_88 w13 ∧ ∀ (_d_173 : Env) (j_174 : Value) (w14 : World), J_173 j_174 w14 →
  (BND (binv .int .leq i_144 j_174) fun t117_192 =>
  BND (grd (isB t117_192 true) (some data_p0)) fun t119_193 =>
  BND (grd (isB t117_192 true) (some j_174)) fun t120_194 =>
  BND (grd (isB t117_192 true) (iaddr 1 t119_193 t120_194)) fun t121_195 =>
  BND (grd (isB t117_192 true) (some data_p0)) fun t123_196 =>
  BND (grd (isB t117_192 true) (some a_p1)) fun t124_197 =>
  BND (grd (isB t117_192 true) (iaddr 1 t123_196 t124_197)) fun t125_198 =>
  BND (grd (isB t117_192 true) (load1 w14.drew t121_195)) fun t122_199 =>
  BND (grd (isB t117_192 true) (load1 w14.drew t125_198)) fun t126_200 =>
  GEF (isB t117_192 true) (fun k_ => CALL PR F_cmp_Less_uint64 [t122_199, t126_200] w14.drew k_) w14.drew fun t127_201 w15 =>
  BND (grd (isB t117_192 true) (unv .not t127_201)) fun t128_202 =>
  BND (pickv t117_192 t128_202 (Value.bool false)) fun t129_203 =>
  COND t129_203
  (BND (binv .int .sub j_174 (Value.int .i64 1)) fun t131_204 =>
  (J_173 t131_204 w15 ∧ m_173 t131_204 w15 < m_173 j_174 w14))
  (BND (binv .int .gtr i_144 j_174) fun t134_205 =>
  COND t134_205
  (BND (iaddr 1 data_p0 a_p1) fun t159_206 =>
  BND (iaddr 1 data_p0 j_174) fun t163_207 =>
  BND (load1 w15.drew t159_206) fun t160_208 =>
  BND (load1 w15.drew t163_207) fun t164_209 =>
  BND (iaddr 1 data_p0 j_174) fun t165_210 =>
  BND (storev 1 w15.drew t165_210 t160_208) fun w16 =>
  BND (iaddr 1 data_p0 a_p1) fun t166_211 =>
  BND (storev 1 w16 t166_211 t164_209) fun w17 =>
  R (.tuple #[j_174, (Value.bool false)]) w17)
  (BND (iaddr 1 data_p0 j_174) fun t141_212 =>
  BND (iaddr 1 data_p0 i_144) fun t145_213 =>
  BND (load1 w15.drew t141_212) fun t142_214 =>
  BND (load1 w15.drew t145_213) fun t146_215 =>
  BND (iaddr 1 data_p0 i_144) fun t147_216 =>
  BND (storev 1 w15.drew t147_216 t142_214) fun w18 =>
  BND (iaddr 1 data_p0 j_174) fun t148_217 =>
  BND (storev 1 w18 t148_217 t146_215) fun w19 =>
  BND (binv .int .add i_144 (Value.int .i64 1)) fun t150_218 =>
  BND (binv .int .sub j_174 (Value.int .i64 1)) fun t152_219 =>
  (J_86 t150_218 t152_219 w19 ∧ m_86 t150_218 t152_219 w19 < m_86 i_87 j_88 w11))))))))))))
def ann_slices_partitionOrdered_uint64 : List (Nat × List Nat) := [(1, [0, 1, 2, 3, 4, 5, 6, 8, 9, 10, 7, 11, 12, 13, 14, 15]), (3, [0, 1, 2, 3, 4, 5, 6, 8, 9, 10, 7, 11, 12, 13]), (5, [0, 1, 2, 3, 4, 5, 6, 8, 9, 10, 7, 11, 12, 13, 14]), (8, [0, 1, 2, 3, 4, 5, 6, 8, 9, 10, 7, 11, 12, 13, 14, 15]), (10, [0, 1, 2, 3, 4, 5, 6, 8, 9, 10, 7, 11, 12, 13, 14, 15]), (13, [0, 1, 2, 3, 4, 5, 6, 8, 9, 10, 7, 11, 12, 13]), (15, [0, 1, 2, 3, 4, 5, 6, 8, 9, 10, 7, 11, 12, 13, 14]), (18, [0, 1, 2, 3, 4, 5, 6, 8, 9, 10, 7, 11, 12, 13, 14, 15]), (21, [0, 1, 2, 3, 4, 5, 6, 8, 9, 10, 7, 11, 12, 13, 14, 15]), (1000003, [10]), (1000005, [11]), (1000013, [10]), (1000015, [11]), (1100013, [10, 11])]
theorem E_slices_partitionOrdered_uint64 (data_p0 a_p1 b_p2 pivot_p3 : Value) (w : World) (R : Value → World → Prop) : M_slices_partitionOrdered_uint64 data_p0 a_p1 b_p2 pivot_p3 w R = den PR ann_slices_partitionOrdered_uint64 (bodyOf Tryd.f52) (retQ PR Tryd.f52.results.toList R) (env0 [data_p0, a_p1, b_p2, pivot_p3]) w := by kernel_rfl
theorem C_slices_partitionOrdered_uint64 {data_p0 a_p1 b_p2 pivot_p3 : Value} {w : World} {R : Value → World → Prop} (h : M_slices_partitionOrdered_uint64 data_p0 a_p1 b_p2 pivot_p3 w R) : CALL PR F_slices_partitionOrdered_uint64 [data_p0, a_p1, b_p2, pivot_p3] w R :=
  call_of_den2 ann_slices_partitionOrdered_uint64 Tryd.func52 (by kernel_rfl) (by kernel_rfl) (by kernel_rfl) ((E_slices_partitionOrdered_uint64 data_p0 a_p1 b_p2 pivot_p3 w R) ▸ h)
-- 54 math.bits.Len64
def M_math_bits_Len64 (x_p0 : Value) (w : World) (R : Value → World → Prop) : Prop :=
  BND (binv .int .geq x_p0 (Value.int .u64 4294967296)) fun t4_1 =>
  JOIN (α := Value → Value → World → Prop) (fun k_30 => COND t4_1
  (BND (shiftv .shr x_p0 (Value.int .u64 32)) fun t6_31 =>
  k_30 t6_31 (Value.int .i64 32) w)
  (k_30 x_p0 (Value.int .i64 0) w))
  (fun x_2 n_3 w1 => BND (binv .int .geq x_2 (Value.int .u64 65536)) fun t8_6 =>
  JOIN (α := Value → Value → World → Prop) (fun k_27 => COND t8_6
  (BND (shiftv .shr x_2 (Value.int .u64 16)) fun t10_28 =>
  BND (binv .int .add n_3 (Value.int .i64 16)) fun t12_29 =>
  k_27 t10_28 t12_29 w1)
  (k_27 x_2 n_3 w1))
  (fun x_7 n_8 w2 => BND (binv .int .geq x_7 (Value.int .u64 256)) fun t14_13 =>
  JOIN (α := Value → Value → World → Prop) (fun k_24 => COND t14_13
  (BND (shiftv .shr x_7 (Value.int .u64 8)) fun t16_25 =>
  BND (binv .int .add n_8 (Value.int .i64 8)) fun t18_26 =>
  k_24 t16_25 t18_26 w2)
  (k_24 x_7 n_8 w2))
  (fun x_14 n_15 w3 => BND (convi .u8 x_14) fun t21_20 =>
  BND (indexs (Value.string { data := #[0, 1, 2, 2, 3, 3, 3, 3, 4, 4, 4, 4, 4, 4, 4, 4, 5, 5, 5, 5, 5, 5, 5, 5, 5, 5, 5, 5, 5, 5, 5, 5, 6, 6, 6, 6, 6, 6, 6, 6, 6, 6, 6, 6, 6, 6, 6, 6, 6, 6, 6, 6, 6, 6, 6, 6, 6, 6, 6, 6, 6, 6, 6, 6, 7, 7, 7, 7, 7, 7, 7, 7, 7, 7, 7, 7, 7, 7, 7, 7, 7, 7, 7, 7, 7, 7, 7, 7, 7, 7, 7, 7, 7, 7, 7, 7, 7, 7, 7, 7, 7, 7, 7, 7, 7, 7, 7, 7, 7, 7, 7, 7, 7, 7, 7, 7, 7, 7, 7, 7, 7, 7, 7, 7, 7, 7, 7, 7, 8, 8, 8, 8, 8, 8, 8, 8, 8, 8, 8, 8, 8, 8, 8, 8, 8, 8, 8, 8, 8, 8, 8, 8, 8, 8, 8, 8, 8, 8, 8, 8, 8, 8, 8, 8, 8, 8, 8, 8, 8, 8, 8, 8, 8, 8, 8, 8, 8, 8, 8, 8, 8, 8, 8, 8, 8, 8, 8, 8, 8, 8, 8, 8, 8, 8, 8, 8, 8, 8, 8, 8, 8, 8, 8, 8, 8, 8, 8, 8, 8, 8, 8, 8, 8, 8, 8, 8, 8, 8, 8, 8, 8, 8, 8, 8, 8, 8, 8, 8, 8, 8, 8, 8, 8, 8, 8, 8, 8, 8, 8, 8, 8, 8, 8, 8, 8, 8, 8, 8, 8, 8, 8, 8, 8, 8, 8, 8] }) t21_20) fun t22_21 =>
  BND (convi .i64 t22_21) fun t23_22 =>
  BND (binv .int .add n_15 t23_22) fun t24_23 =>
  R t24_23 w3)))
def ann_math_bits_Len64 : List (Nat × List Nat) := []
theorem E_math_bits_Len64 (x_p0 : Value) (w : World) (R : Value → World → Prop) : M_math_bits_Len64 x_p0 w R = den PR ann_math_bits_Len64 (bodyOf Tryd.f54) (retQ PR Tryd.f54.results.toList R) (env0 [x_p0]) w := by kernel_rfl
theorem C_math_bits_Len64 {x_p0 : Value} {w : World} {R : Value → World → Prop} (h : M_math_bits_Len64 x_p0 w R) : CALL PR F_math_bits_Len64 [x_p0] w R :=
  call_of_den2 ann_math_bits_Len64 Tryd.func54 (by kernel_rfl) (by kernel_rfl) (by kernel_rfl) ((E_math_bits_Len64 x_p0 w R) ▸ h)
-- 63 slices.siftDownOrdered[uint64]
def M_slices_siftDownOrdered_uint64 (data_p0 lo_p1 hi_p2 first_p3 : Value) (w : World) (R : Value → World → Prop) : Prop :=
  ∃ (J_1 : Value → World → Prop) (m_1 : Value → World → Nat), J_1 lo_p1 w ∧ ∀ (_d_1 : Env) (root_2 : Value) (w1 : World), J_1 root_2 w1 →
  (BND (binv .int .mul (Value.int .i64 2) root_2) fun t12_69 =>
  BND (binv .int .add t12_69 (Value.int .i64 1)) fun t13_70 =>
  BND (binv .int .geq t13_70 hi_p2) fun t16_71 =>
  COND t16_71
  (R (.tuple #[]) w1)
  (BND (binv .int .add t13_70 (Value.int .i64 1)) fun t18_72 =>
  BND (binv .int .lss t18_72 hi_p2) fun t20_73 =>
  BND (grd (isB t20_73 true) (some data_p0)) fun t22_74 =>
  BND (grd (isB t20_73 true) (some first_p3)) fun t23_75 =>
  BND (grd (isB t20_73 true) (some t13_70)) fun t24_76 =>
  BND (grd (isB t20_73 true) (binv .int .add t23_75 t24_76)) fun t25_77 =>
  BND (grd (isB t20_73 true) (iaddr 1 t22_74 t25_77)) fun t26_78 =>
  BND (grd (isB t20_73 true) (some data_p0)) fun t28_79 =>
  BND (grd (isB t20_73 true) (some first_p3)) fun t29_80 =>
  BND (grd (isB t20_73 true) (some t13_70)) fun t30_81 =>
  BND (grd (isB t20_73 true) (binv .int .add t29_80 t30_81)) fun t31_82 =>
  BND (grd (isB t20_73 true) (binv .int .add t31_82 (Value.int .i64 1))) fun t32_83 =>
  BND (grd (isB t20_73 true) (iaddr 1 t28_79 t32_83)) fun t33_84 =>
  BND (grd (isB t20_73 true) (load1 w1.drew t26_78)) fun t27_85 =>
  BND (grd (isB t20_73 true) (load1 w1.drew t33_84)) fun t34_86 =>
  GEF (isB t20_73 true) (fun k_ => CALL PR F_cmp_Less_uint64 [t27_85, t34_86] w1.drew k_) w1.drew fun t35_87 w2 =>
  BND (pickv t20_73 t35_87 (Value.bool false)) fun t36_88 =>
  JOIN (α := Value → World → Prop) (fun k_110 => COND t36_88
  (BND (binv .int .add t13_70 (Value.int .i64 1)) fun t38_111 =>
  k_110 t38_111 w2)
  (k_110 t13_70 w2))
  (fun child_89 w3 => BND (binv .int .add first_p3 root_2) fun t42_92 =>
  BND (iaddr 1 data_p0 t42_92) fun t43_93 =>
  BND (binv .int .add first_p3 child_89) fun t48_94 =>
  BND (iaddr 1 data_p0 t48_94) fun t49_95 =>
  BND (load1 w3.drew t43_93) fun t44_96 =>
  BND (load1 w3.drew t49_95) fun t50_97 =>
  CALL PR F_cmp_Less_uint64 [t44_96, t50_97] w3.drew fun t51_98 w4 =>
  BND (unv .not t51_98) fun t52_99 =>
  COND t52_99
  (R (.tuple #[]) w4)
  (BND (binv .int .add first_p3 root_2) fun t56_100 =>
  BND (binv .int .add first_p3 child_89) fun t60_101 =>
  BND (binv .int .add first_p3 child_89) fun t64_102 =>
  BND (iaddr 1 data_p0 t64_102) fun t65_103 =>
  BND (binv .int .add first_p3 root_2) fun t70_104 =>
  BND (iaddr 1 data_p0 t70_104) fun t71_105 =>
  BND (load1 w4.drew t65_103) fun t66_106 =>
  BND (load1 w4.drew t71_105) fun t72_107 =>
  BND (iaddr 1 data_p0 t56_100) fun t73_108 =>
  BND (storev 1 w4.drew t73_108 t66_106) fun w5 =>
  BND (iaddr 1 data_p0 t60_101) fun t74_109 =>
  BND (storev 1 w5 t74_109 t72_107) fun w6 =>
  (J_1 child_89 w6 ∧ m_1 child_89 w6 < m_1 root_2 w1)))))
def ann_slices_siftDownOrdered_uint64 : List (Nat × List Nat) := [(3, [0, 1, 2, 3, 4, 5, 6, 7, 8, 9, 11, 12, 13, 14, 15, 16, 10, 17, 18, 19]), (5, [0, 1, 2, 3, 4, 6, 7, 8, 9, 10, 5, 11, 12, 13]), (6, [0, 1, 2, 3, 4, 5, 6, 7, 8, 9, 10, 11, 12, 14, 15, 16, 17, 18, 13, 19, 20, 21, 22, 23]), (1000001, [8])]
theorem E_slices_siftDownOrdered_uint64 (data_p0 lo_p1 hi_p2 first_p3 : Value) (w : World) (R : Value → World → Prop) : M_slices_siftDownOrdered_uint64 data_p0 lo_p1 hi_p2 first_p3 w R = den PR ann_slices_siftDownOrdered_uint64 (bodyOf Tryd.f63) (retQ PR Tryd.f63.results.toList R) (env0 [data_p0, lo_p1, hi_p2, first_p3]) w := by kernel_rfl
theorem C_slices_siftDownOrdered_uint64 {data_p0 lo_p1 hi_p2 first_p3 : Value} {w : World} {R : Value → World → Prop} (h : M_slices_siftDownOrdered_uint64 data_p0 lo_p1 hi_p2 first_p3 w R) : CALL PR F_slices_siftDownOrdered_uint64 [data_p0, lo_p1, hi_p2, first_p3] w R :=
  call_of_den2 ann_slices_siftDownOrdered_uint64 Tryd.func63 (by kernel_rfl) (by kernel_rfl) (by kernel_rfl) ((E_slices_siftDownOrdered_uint64 data_p0 lo_p1 hi_p2 first_p3 w R) ▸ h)
-- 64 slices.nextPowerOfTwo
def M_slices_nextPowerOfTwo (length_p0 : Value) (w : World) (R : Value → World → Prop) : Prop :=
  BND (convi .u64 length_p0) fun t4_1 =>
  CALL PR F_math_bits_Len [t4_1] w fun t5_2 w1 =>
  BND (shiftv .shl (Value.int .u64 1) t5_2) fun t6_3 =>
  R t6_3 w1
def ann_slices_nextPowerOfTwo : List (Nat × List Nat) := []
theorem E_slices_nextPowerOfTwo (length_p0 : Value) (w : World) (R : Value → World → Prop) : M_slices_nextPowerOfTwo length_p0 w R = den PR ann_slices_nextPowerOfTwo (bodyOf Tryd.f64) (retQ PR Tryd.f64.results.toList R) (env0 [length_p0]) w := by kernel_rfl
theorem C_slices_nextPowerOfTwo {length_p0 : Value} {w : World} {R : Value → World → Prop} (h : M_slices_nextPowerOfTwo length_p0 w R) : CALL PR F_slices_nextPowerOfTwo [length_p0] w R :=
  call_of_den2 ann_slices_nextPowerOfTwo Tryd.func64 (by kernel_rfl) (by kernel_rfl) (by kernel_rfl) ((E_slices_nextPowerOfTwo length_p0 w R) ▸ h)
-- 65 (*slices.xorshift).Next
def M_slices_xorshift_Next (r_p0 : Value) (w : World) (R : Value → World → Prop) : Prop :=
  BND (nilchk r_p0) fun t4_1 =>
  BND (nilchk r_p0) fun t7_2 =>
  BND (load1 w.drew t4_1) fun t5_3 =>
  BND (load1 w.drew t7_2) fun t8_4 =>
  BND (shiftv .shl t8_4 (Value.int .u64 13)) fun t9_5 =>
  BND (binv .int .xor t5_3 t9_5) fun t10_6 =>
  BND (nilchk r_p0) fun t11_7 =>
  BND (storev 1 w.drew t11_7 t10_6) fun w1 =>
  BND (nilchk r_p0) fun t13_8 =>
  BND (nilchk r_p0) fun t16_9 =>
  BND (load1 w1.drew t13_8) fun t14_10 =>
  BND (load1 w1.drew t16_9) fun t17_11 =>
  BND (shiftv .shr t17_11 (Value.int .u64 7)) fun t18_12 =>
  BND (binv .int .xor t14_10 t18_12) fun t19_13 =>
  BND (nilchk r_p0) fun t20_14 =>
  BND (storev 1 w1.drew t20_14 t19_13) fun w2 =>
  BND (nilchk r_p0) fun t22_15 =>
  BND (nilchk r_p0) fun t25_16 =>
  BND (load1 w2.drew t22_15) fun t23_17 =>
  BND (load1 w2.drew t25_16) fun t26_18 =>
  BND (shiftv .shl t26_18 (Value.int .u64 17)) fun t27_19 =>
  BND (binv .int .xor t23_17 t27_19) fun t28_20 =>
  BND (nilchk r_p0) fun t29_21 =>
  BND (storev 1 w2.drew t29_21 t28_20) fun w3 =>
  BND (nilchk r_p0) fun t31_22 =>
  BND (load1 w3 t31_22) fun t32_23 =>
  R t32_23 w3
def ann_slices_xorshift_Next : List (Nat × List Nat) := [(1, [0, 1, 3, 4, 2, 5, 6, 7, 8, 9]), (2, [0, 1, 3, 4, 2, 5, 6, 7, 8, 9]), (3, [0, 1, 3, 4, 2, 5, 6, 7, 8, 9])]
theorem E_slices_xorshift_Next (r_p0 : Value) (w : World) (R : Value → World → Prop) : M_slices_xorshift_Next r_p0 w R = den PR ann_slices_xorshift_Next (bodyOf Tryd.f65) (retQ PR Tryd.f65.results.toList R) (env0 [r_p0]) w := by kernel_rfl
theorem C_slices_xorshift_Next {r_p0 : Value} {w : World} {R : Value → World → Prop} (h : M_slices_xorshift_Next r_p0 w R) : CALL PR F_slices_xorshift_Next [r_p0] w R :=
  call_of_den2 ann_slices_xorshift_Next Tryd.func65 (by kernel_rfl) (by kernel_rfl) (by kernel_rfl) ((E_slices_xorshift_Next r_p0 w R) ▸ h)
-- 66 slices.medianAdjacentOrdered[uint64]
def M_slices_medianAdjacentOrdered_uint64 (data_p0 a_p1 swaps_p2 : Value) (w : World) (R : Value → World → Prop) : Prop :=
  BND (binv .int .sub a_p1 (Value.int .i64 1)) fun t9_1 =>
  BND (binv .int .add a_p1 (Value.int .i64 1)) fun t12_2 =>
  CALL PR F_slices_medianOrdered_uint64 [data_p0, t9_1, a_p1, t12_2, swaps_p2] w fun t14_3 w1 =>
  R t14_3 w1
def ann_slices_medianAdjacentOrdered_uint64 : List (Nat × List Nat) := []
theorem E_slices_medianAdjacentOrdered_uint64 (data_p0 a_p1 swaps_p2 : Value) (w : World) (R : Value → World → Prop) : M_slices_medianAdjacentOrdered_uint64 data_p0 a_p1 swaps_p2 w R = den PR ann_slices_medianAdjacentOrdered_uint64 (bodyOf Tryd.f66) (retQ PR Tryd.f66.results.toList R) (env0 [data_p0, a_p1, swaps_p2]) w := by kernel_rfl
theorem C_slices_medianAdjacentOrdered_uint64 {data_p0 a_p1 swaps_p2 : Value} {w : World} {R : Value → World → Prop} (h : M_slices_medianAdjacentOrdered_uint64 data_p0 a_p1 swaps_p2 w R) : CALL PR F_slices_medianAdjacentOrdered_uint64 [data_p0, a_p1, swaps_p2] w R :=
  call_of_den2 ann_slices_medianAdjacentOrdered_uint64 Tryd.func66 (by kernel_rfl) (by kernel_rfl) (by kernel_rfl) ((E_slices_medianAdjacentOrdered_uint64 data_p0 a_p1 swaps_p2 w R) ▸ h)
-- 67 slices.medianOrdered[uint64]
def M_slices_medianOrdered_uint64 (data_p0 a_p1 b_p2 c_p3 swaps_p4 : Value) (w : World) (R : Value → World → Prop) : Prop :=
  CALL PR F_slices_order2Ordered_uint64 [data_p0, a_p1, b_p2, swaps_p4] w fun t16_1 w1 =>
  BND (extractv t16_1 0) fun t17_2 =>
  BND (extractv t16_1 1) fun t18_3 =>
  CALL PR F_slices_order2Ordered_uint64 [data_p0, t18_3, c_p3, swaps_p4] w1 fun t24_4 w2 =>
  BND (extractv t24_4 0) fun t25_5 =>
  BND (extractv t24_4 1) fun t26_6 =>
  CALL PR F_slices_order2Ordered_uint64 [data_p0, t17_2, t25_5, swaps_p4] w2 fun t32_7 w3 =>
  BND (extractv t32_7 0) fun t33_8 =>
  BND (extractv t32_7 1) fun t34_9 =>
  R t34_9 w3
def ann_slices_medianOrdered_uint64 : List (Nat × List Nat) := []
theorem E_slices_medianOrdered_uint64 (data_p0 a_p1 b_p2 c_p3 swaps_p4 : Value) (w : World) (R : Value → World → Prop) : M_slices_medianOrdered_uint64 data_p0 a_p1 b_p2 c_p3 swaps_p4 w R = den PR ann_slices_medianOrdered_uint64 (bodyOf Tryd.f67) (retQ PR Tryd.f67.results.toList R) (env0 [data_p0, a_p1, b_p2, c_p3, swaps_p4]) w := by kernel_rfl
theorem C_slices_medianOrdered_uint64 {data_p0 a_p1 b_p2 c_p3 swaps_p4 : Value} {w : World} {R : Value → World → Prop} (h : M_slices_medianOrdered_uint64 data_p0 a_p1 b_p2 c_p3 swaps_p4 w R) : CALL PR F_slices_medianOrdered_uint64 [data_p0, a_p1, b_p2, c_p3, swaps_p4] w R :=
  call_of_den2 ann_slices_medianOrdered_uint64 Tryd.func67 (by kernel_rfl) (by kernel_rfl) (by kernel_rfl) ((E_slices_medianOrdered_uint64 data_p0 a_p1 b_p2 c_p3 swaps_p4 w R) ▸ h)
-- 68 cmp.isNaN[uint64]
def M_cmp_isNaN_uint64 (x_p0 : Value) (w : World) (R : Value → World → Prop) : Prop :=
  BND (binv .int .neq x_p0 x_p0) fun t5_1 =>
  R t5_1 w
def ann_cmp_isNaN_uint64 : List (Nat × List Nat) := []
theorem E_cmp_isNaN_uint64 (x_p0 : Value) (w : World) (R : Value → World → Prop) : M_cmp_isNaN_uint64 x_p0 w R = den PR ann_cmp_isNaN_uint64 (bodyOf Tryd.f68) (retQ PR Tryd.f68.results.toList R) (env0 [x_p0]) w := by kernel_rfl
theorem C_cmp_isNaN_uint64 {x_p0 : Value} {w : World} {R : Value → World → Prop} (h : M_cmp_isNaN_uint64 x_p0 w R) : CALL PR F_cmp_isNaN_uint64 [x_p0] w R :=
  call_of_den2 ann_cmp_isNaN_uint64 Tryd.func68 (by kernel_rfl) (by kernel_rfl) (by kernel_rfl) ((E_cmp_isNaN_uint64 x_p0 w R) ▸ h)
-- 72 slices.order2Ordered[uint64]
def M_slices_order2Ordered_uint64 (data_p0 a_p1 b_p2 swaps_p3 : Value) (w : World) (R : Value → World → Prop) : Prop :=
  BND (iaddr 1 data_p0 b_p2) fun t12_1 =>
  BND (iaddr 1 data_p0 a_p1) fun t16_2 =>
  BND (load1 w.drew t12_1) fun t13_3 =>
  BND (load1 w.drew t16_2) fun t17_4 =>
  CALL PR F_cmp_Less_uint64 [t13_3, t17_4] w.drew fun t18_5 w1 =>
  COND t18_5
  (BND (nilchk swaps_p3) fun t20_6 =>
  BND (load1 w1 t20_6) fun t21_7 =>
  BND (binv .int .add t21_7 (Value.int .i64 1)) fun t22_8 =>
  BND (nilchk swaps_p3) fun t23_9 =>
  BND (storev 1 w1 t23_9 t22_8) fun w2 =>
  R (.tuple #[b_p2, a_p1]) w2)
  (R (.tuple #[a_p1, b_p2]) w1)
def ann_slices_order2Ordered_uint64 : List (Nat × List Nat) := [(1, [0, 1, 2, 4, 5, 6, 3, 7, 8])]
theorem E_slices_order2Ordered_uint64 (data_p0 a_p1 b_p2 swaps_p3 : Value) (w : World) (R : Value → World → Prop) : M_slices_order2Ordered_uint64 data_p0 a_p1 b_p2 swaps_p3 w R = den PR ann_slices_order2Ordered_uint64 (bodyOf Tryd.f72) (retQ PR Tryd.f72.results.toList R) (env0 [data_p0, a_p1, b_p2, swaps_p3]) w := by kernel_rfl
theorem C_slices_order2Ordered_uint64 {data_p0 a_p1 b_p2 swaps_p3 : Value} {w : World} {R : Value → World → Prop} (h : M_slices_order2Ordered_uint64 data_p0 a_p1 b_p2 swaps_p3 w R) : CALL PR F_slices_order2Ordered_uint64 [data_p0, a_p1, b_p2, swaps_p3] w R :=
  call_of_den2 ann_slices_order2Ordered_uint64 Tryd.func72 (by kernel_rfl) (by kernel_rfl) (by kernel_rfl) ((E_slices_order2Ordered_uint64 data_p0 a_p1 b_p2 swaps_p3 w R) ▸ h)
end Go.Proofs.YtpclfkjbhlekaaaDoor
