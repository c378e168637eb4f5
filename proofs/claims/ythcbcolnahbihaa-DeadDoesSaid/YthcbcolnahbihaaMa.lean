/- Printed by denprint.py: the Go function as a predicate, and that it stands for the call. No condition. -/
import Derived.Test.YthcbcolnahbihaaFns
set_option maxRecDepth 100000
set_option linter.unusedVariables false
namespace Go.Proofs.Ythcbcolnahbihaa
open Go.Den

-- 3 tumbrel.tumbrellaw10.DeadDoes
def M_tumbrellaw10_DeadDoes (L_p0 : Value) (w : World) (R : Value → World → Prop) : Prop :=
  CALL PR F_tumbrellaw10_awake [] w fun t13_1 w1 =>
  BND (unv .not t13_1) fun t14_2 =>
  COND t14_2
  (R (Value.bool false) w1)
  (CALL PR F_tumbrellaw10_large [L_p0] w1 fun t16_3 w2 =>
  COND t16_3
  (R (Value.bool true) w2)
  (CALL PR F_dead_New [] w2 fun t17_4 w3 =>
  BND (buildv #[(Value.slice none 0 0), (Value.int .u64 0), (Value.slice none 0 0)] []) fun t18_5 =>
  NEW (newv 32 w3 t18_5) fun t19_6 w4 =>
  BND (lenl L_p0) fun t21_7 =>
  ∃ (J_8 : Value → World → Prop) (m_8 : Value → World → Nat), J_8 (Value.int .i64 0) w4 ∧ ∀ (_d_8 : Env) (t22_17 : Value) (w5 : World), J_8 t22_17 w5 →
  (BND (binv .int .lss t22_17 t21_7) fun t23_79 =>
  COND t23_79
  (BND (iaddr 4 L_p0 t22_17) fun t24_80 =>
  BND (loadn 4 w5 t24_80) fun t25_81 =>
  NEW (newv 34 w5 (Value.agg #[(Value.int .i64 0), (Value.int .u64 0), (Value.string ByteArray.empty), (Value.int .i64 0)])) fun o_82 w6 =>
  BND (storev 4 w6 o_82 t25_81) fun w7 =>
  BND (loadn 4 w7 o_82) fun t28_83 =>
  CALL PR F_tumbrellaw10_do [t17_4, t28_83] w7 fun t29_84 w8 =>
  BND (extractv t29_84 0) fun t30_85 =>
  BND (extractv t29_84 1) fun t31_86 =>
  BND (extractv t29_84 2) fun t32_87 =>
  BND (faddr 0 o_82) fun t33_88 =>
  BND (load1 w8 t33_88) fun t34_89 =>
  BND (binv .int .eql t34_89 (Value.int .i64 0)) fun t40_90 =>
  JOIN (α := Value → Value → Value → World → Prop) (fun k_136 => COND t40_90
  (BND (faddr 1 o_82) fun t42_137 =>
  BND (load1 w8 t42_137) fun t43_138 =>
  CALL PR F_tumbrelref10_Dead_Add [t19_6, t43_138] w8 fun t44_139 w13 =>
  k_136 (Value.slice none 0 0) (Value.int .i64 0) t44_139 w13)
  (BND (binv .int .eql t34_89 (Value.int .i64 1)) fun t46_140 =>
  JOIN (α := Value → Value → Value → World → Prop) (fun k_163 => COND t46_140
  (BND (faddr 1 o_82) fun t48_164 =>
  BND (load1 w8 t48_164) fun t49_165 =>
  CALL PR F_tumbrelref10_Dead_Drop [t19_6, t49_165] w8 fun t50_166 w15 =>
  k_163 (Value.slice none 0 0) (Value.int .i64 0) t50_166 w15)
  (BND (binv .int .eql t34_89 (Value.int .i64 2)) fun t52_167 =>
  JOIN (α := Value → Value → Value → World → Prop) (fun k_184 => COND t52_167
  (BND (faddr 2 o_82) fun t55_185 =>
  BND (load1 w8 t55_185) fun t56_186 =>
  BND (faddr 3 o_82) fun t57_187 =>
  BND (load1 w8 t57_187) fun t58_188 =>
  CALL PR F_tumbrelref10_Dead_Next [t19_6, t56_186, t58_188] w8 fun t59_189 w17 =>
  BND (extractv t59_189 0) fun t60_190 =>
  BND (extractv t59_189 1) fun t61_191 =>
  k_184 t60_190 t61_191 (Value.bool false) w17)
  (BND (faddr 1 o_82) fun t36_192 =>
  BND (load1 w8 t36_192) fun t37_193 =>
  CALL PR F_tumbrelref10_Dead_Has [t19_6, t37_193] w8 fun t38_194 w18 =>
  k_184 (Value.slice none 0 0) (Value.int .i64 0) t38_194 w18))
  (fun a_168 y_169 t12_170 w16 => k_163 a_168 y_169 t12_170 w16)))
  (fun a_141 y_142 t12_143 w14 => k_136 a_141 y_142 t12_143 w14)))
  (fun a_91 y_92 t12_93 w9 => CALL PR F_tumbrelref02_Same [t30_85, a_91] w9 fun t64_119 w10 =>
  BND (unv .not t64_119) fun t65_120 =>
  BND (grd (isB t65_120 false) (some t31_86)) fun t67_121 =>
  BND (grd (isB t65_120 false) (some y_92)) fun t68_122 =>
  BND (grd (isB t65_120 false) (binv .int .neq t67_121 t68_122)) fun t69_123 =>
  BND (pickv t65_120 (Value.bool true) t69_123) fun t70_124 =>
  BND (grd (isB t70_124 false) (some t32_87)) fun t72_125 =>
  BND (grd (isB t70_124 false) (some t12_93)) fun t73_126 =>
  BND (grd (isB t70_124 false) (binv .bool .neq t72_125 t73_126)) fun t74_127 =>
  BND (pickv t70_124 (Value.bool true) t74_127) fun t75_128 =>
  BND (grd (isB t75_128 false) (some t17_4)) fun t77_129 =>
  GEF (isB t75_128 false) (fun k_ => CALL PR F_tumbrellaw10_own [t77_129] w10 k_) w10 fun t78_130 w11 =>
  BND (grd (isB t75_128 false) (some t19_6)) fun t79_131 =>
  GEF (isB t75_128 false) (fun k_ => CALL PR F_tumbrellaw10_same [t78_130, t79_131] w11 k_) w11 fun t80_132 w12 =>
  BND (grd (isB t75_128 false) (unv .not t80_132)) fun t81_133 =>
  BND (pickv t75_128 (Value.bool true) t81_133) fun t82_134 =>
  COND t82_134
  (R (Value.bool false) w12)
  (BND (binv .int .add t22_17 (Value.int .i64 1)) fun t83_135 =>
  (J_8 t83_135 w12 ∧ m_8 t83_135 w12 < m_8 t22_17 w5))))
  (R (Value.bool true) w5))))
def ann_tumbrellaw10_DeadDoes : List (Nat × List Nat) := [(1000007, [22])]
theorem E_tumbrellaw10_DeadDoes (L_p0 : Value) (w : World) (R : Value → World → Prop) : M_tumbrellaw10_DeadDoes L_p0 w R = den PR ann_tumbrellaw10_DeadDoes (bodyOf Try.f3) (retQ PR Try.f3.results.toList R) (env0 [L_p0]) w := by kernel_rfl
theorem C_tumbrellaw10_DeadDoes {L_p0 : Value} {w : World} {R : Value → World → Prop} (h : M_tumbrellaw10_DeadDoes L_p0 w R) : CALL PR F_tumbrellaw10_DeadDoes [L_p0] w R :=
  call_of_den2 ann_tumbrellaw10_DeadDoes Try.func3 (by kernel_rfl) (by kernel_rfl) (by kernel_rfl) ((E_tumbrellaw10_DeadDoes L_p0 w R) ▸ h)


-- 4 tumbrel.tumbrellaw10.DeadMade
def M_tumbrellaw10_DeadMade (L_p0 i_p1 s_p2 : Value) (w : World) (R : Value → World → Prop) : Prop :=
  CALL PR F_tumbrellaw10_awake [] w fun t17_1 w1 =>
  BND (unv .not t17_1) fun t18_2 =>
  COND t18_2
  (R (Value.bool false) w1)
  (BND (lenl i_p1) fun t20_3 =>
  BND (binv .int .gtr t20_3 (Value.int .i64 200)) fun t21_4 =>
  BND (grd (isB t21_4 false) (some s_p2)) fun t23_5 =>
  BND (grd (isB t21_4 false) (lenl t23_5)) fun t24_6 =>
  BND (grd (isB t21_4 false) (binv .int .gtr t24_6 (Value.int .i64 200))) fun t25_7 =>
  BND (pickv t21_4 (Value.bool true) t25_7) fun t26_8 =>
  COND t26_8
  (R (Value.bool true) w1)
  (BND (newslice 49 #[(Value.int .u64 0), (Value.int .u64 0)] 2 0 [] w1) fun p_ => NEW p_ fun t27_9 w2 =>
  BND (newslice 52 #[(Value.string ByteArray.empty), (Value.int .u64 0)] 2 0 [] w2) fun p_ => NEW p_ fun t28_10 w3 =>
  BND (lenl i_p1) fun t30_11 =>
  ∃ (J_12 : Value → Value → World → Prop) (m_12 : Value → Value → World → Nat), J_12 t27_9 (Value.int .i64 0) w3 ∧ ∀ (_d_12 : Env) (A_13 t31_15 : Value) (w4 : World), J_12 A_13 t31_15 w4 →
  (BND (binv .int .lss t31_15 t30_11) fun t32_24 =>
  COND t32_24
  (BND (iaddr 2 i_p1 t31_15) fun t33_25 =>
  BND (loadn 2 w4 t33_25) fun t34_26 =>
  NEW (newv 48 w4 (Value.agg #[(Value.int .u64 0), (Value.int .u64 0)])) fun a_27 w5 =>
  BND (storev 2 w5 a_27 t34_26) fun w6 =>
  BND (loadn 2 w6 a_27) fun t36_28 =>
  BND (newslice 49 #[(Value.int .u64 0), (Value.int .u64 0)] 2 1 [(0, 2, t36_28)] w6) fun p_ => NEW p_ fun t37_29 w7 =>
  APPEND 49 2 16 (Value.agg #[(Value.int .u64 0), (Value.int .u64 0)]) A_13 t37_29 w7 fun t38_30 w8 =>
  BND (binv .int .add t31_15 (Value.int .i64 1)) fun t39_31 =>
  (J_12 t38_30 t39_31 w8 ∧ m_12 t38_30 t39_31 w8 < m_12 A_13 t31_15 w4))
  (BND (lenl s_p2) fun t41_32 =>
  ∃ (J_33 : Value → Value → World → Prop) (m_33 : Value → Value → World → Nat), J_33 t28_10 (Value.int .i64 0) w4 ∧ ∀ (_d_33 : Env) (r_35 t42_37 : Value) (w9 : World), J_33 r_35 t42_37 w9 →
  (BND (binv .int .lss t42_37 t41_32) fun t43_50 =>
  COND t43_50
  (BND (iaddr 2 s_p2 t42_37) fun t44_51 =>
  BND (loadn 2 w9 t44_51) fun t45_52 =>
  NEW (newv 51 w9 (Value.agg #[(Value.string ByteArray.empty), (Value.int .u64 0)])) fun t12_53 w10 =>
  BND (storev 2 w10 t12_53 t45_52) fun w11 =>
  BND (faddr 0 t12_53) fun t46_54 =>
  BND (load1 w11 t46_54) fun t47_55 =>
  BND (lens t47_55) fun t48_56 =>
  BND (binv .int .gtr t48_56 (Value.int .i64 100)) fun t49_57 =>
  COND t49_57
  (R (Value.bool true) w11)
  (BND (loadn 2 w11 t12_53) fun t51_58 =>
  BND (newslice 52 #[(Value.string ByteArray.empty), (Value.int .u64 0)] 2 1 [(0, 2, t51_58)] w11) fun p_ => NEW p_ fun t52_59 w12 =>
  APPEND 52 2 24 (Value.agg #[(Value.string ByteArray.empty), (Value.int .u64 0)]) r_35 t52_59 w12 fun t53_60 w13 =>
  BND (binv .int .add t42_37 (Value.int .i64 1)) fun t54_61 =>
  (J_33 t53_60 t54_61 w13 ∧ m_33 t53_60 t54_61 w13 < m_33 r_35 t42_37 w9)))
  (CALL PR F_dead_From [L_p0, i_p1, s_p2] w9 fun t59_62 w14 =>
  BND (extractv t59_62 0) fun t60_63 =>
  BND (extractv t59_62 1) fun t61_64 =>
  CALL PR F_tumbrelref10_From [L_p0, A_13, r_35] w14 fun t66_65 w15 =>
  BND (extractv t66_65 0) fun t67_66 =>
  BND (extractv t66_65 1) fun t68_67 =>
  BND (binv .int .neq t61_64 t68_67) fun t71_68 =>
  BND (grd (isB t71_68 false) (some t60_63)) fun t73_69 =>
  BND (grd (isB t71_68 false) (binv .ptr .eql t73_69 (Value.pointer none))) fun t74_70 =>
  BND (grd (isB t71_68 false) (some t67_66)) fun t75_71 =>
  BND (grd (isB t71_68 false) (binv .ptr .eql t75_71 (Value.pointer none))) fun t76_72 =>
  BND (grd (isB t71_68 false) (binv .bool .neq t74_70 t76_72)) fun t77_73 =>
  BND (pickv t71_68 (Value.bool true) t77_73) fun t78_74 =>
  COND t78_74
  (R (Value.bool false) w15)
  (BND (binv .ptr .eql t60_63 (Value.pointer none)) fun t80_75 =>
  BND (grd (isB t80_75 false) (some t60_63)) fun t82_76 =>
  GEF (isB t80_75 false) (fun k_ => CALL PR F_tumbrellaw10_own [t82_76] w15 k_) w15 fun t83_77 w16 =>
  BND (grd (isB t80_75 false) (some t67_66)) fun t84_78 =>
  GEF (isB t80_75 false) (fun k_ => CALL PR F_tumbrellaw10_same [t83_77, t84_78] w16 k_) w16 fun t85_79 w17 =>
  BND (pickv t80_75 (Value.bool true) t85_79) fun t86_80 =>
  R t86_80 w17)))))))
def ann_tumbrellaw10_DeadMade : List (Nat × List Nat) := [(1000007, [7, 31]), (1000012, [8, 42])]
theorem E_tumbrellaw10_DeadMade (L_p0 i_p1 s_p2 : Value) (w : World) (R : Value → World → Prop) : M_tumbrellaw10_DeadMade L_p0 i_p1 s_p2 w R = den PR ann_tumbrellaw10_DeadMade (bodyOf Try.f4) (retQ PR Try.f4.results.toList R) (env0 [L_p0, i_p1, s_p2]) w := by kernel_rfl
theorem C_tumbrellaw10_DeadMade {L_p0 i_p1 s_p2 : Value} {w : World} {R : Value → World → Prop} (h : M_tumbrellaw10_DeadMade L_p0 i_p1 s_p2 w R) : CALL PR F_tumbrellaw10_DeadMade [L_p0, i_p1, s_p2] w R :=
  call_of_den2 ann_tumbrellaw10_DeadMade Try.func4 (by kernel_rfl) (by kernel_rfl) (by kernel_rfl) ((E_tumbrellaw10_DeadMade L_p0 i_p1 s_p2 w R) ▸ h)


-- 5 tumbrel.tumbrellaw10.DeadAgain
def M_tumbrellaw10_DeadAgain (L_p0 i_p1 : Value) (w : World) (R : Value → World → Prop) : Prop :=
  CALL PR F_tumbrellaw10_awake [] w fun t18_1 w1 =>
  BND (unv .not t18_1) fun t19_2 =>
  COND t19_2
  (R (Value.bool false) w1)
  (CALL PR F_tumbrellaw10_large [L_p0] w1 fun t21_3 w2 =>
  BND (grd (isB t21_3 false) (some i_p1)) fun t23_4 =>
  GEF (isB t21_3 false) (fun k_ => CALL PR F_tumbrellaw10_large [t23_4] w2 k_) w2 fun t24_5 w3 =>
  BND (pickv t21_3 (Value.bool true) t24_5) fun t25_6 =>
  COND t25_6
  (R (Value.bool true) w3)
  (CALL PR F_dead_New [] w3 fun t26_7 w4 =>
  BND (lenl L_p0) fun t28_8 =>
  ∃ (J_9 : Value → World → Prop) (m_9 : Value → World → Nat), J_9 (Value.int .i64 0) w4 ∧ ∀ (_d_9 : Env) (t29_11 : Value) (w5 : World), J_9 t29_11 w5 →
  (BND (binv .int .lss t29_11 t28_8) fun t30_19 =>
  COND t30_19
  (BND (iaddr 4 L_p0 t29_11) fun t31_20 =>
  BND (loadn 4 w5 t31_20) fun t32_21 =>
  NEW (newv 34 w5 (Value.agg #[(Value.int .i64 0), (Value.int .u64 0), (Value.string ByteArray.empty), (Value.int .i64 0)])) fun A_22 w6 =>
  BND (storev 4 w6 A_22 t32_21) fun w7 =>
  BND (loadn 4 w7 A_22) fun t34_23 =>
  CALL PR F_tumbrellaw10_do [t26_7, t34_23] w7 fun t35_24 w8 =>
  BND (binv .int .add t29_11 (Value.int .i64 1)) fun t36_25 =>
  (J_9 t36_25 w8 ∧ m_9 t36_25 w8 < m_9 t29_11 w5))
  (CALL PR F_dead_Dead_Last [t26_7] w5 fun t39_26 w9 =>
  CALL PR F_dead_Dead_All [t26_7] w9 fun t41_27 w10 =>
  CALL PR F_dead_Dead_Cursors [t26_7] w10 fun t43_28 w11 =>
  CALL PR F_dead_From [t39_26, t41_27, t43_28] w11 fun t44_29 w12 =>
  BND (extractv t44_29 0) fun t45_30 =>
  BND (extractv t44_29 1) fun t46_31 =>
  BND (binv .int .neq t46_31 (Value.int .i64 0)) fun t48_32 =>
  BND (grd (isB t48_32 false) (some t45_30)) fun t50_33 =>
  BND (grd (isB t48_32 false) (binv .ptr .eql t50_33 (Value.pointer none))) fun t51_34 =>
  BND (pickv t48_32 (Value.bool true) t51_34) fun t52_35 =>
  COND t52_35
  (R (Value.bool false) w12)
  (BND (lenl i_p1) fun t54_36 =>
  ∃ (J_37 : Value → World → Prop) (m_37 : Value → World → Nat), J_37 (Value.int .i64 0) w12 ∧ ∀ (_d_37 : Env) (t55_46 : Value) (w13 : World), J_37 t55_46 w13 →
  (BND (binv .int .lss t55_46 t54_36) fun t56_79 =>
  COND t56_79
  (BND (iaddr 4 i_p1 t55_46) fun t57_80 =>
  BND (loadn 4 w13 t57_80) fun t58_81 =>
  NEW (newv 34 w13 (Value.agg #[(Value.int .i64 0), (Value.int .u64 0), (Value.string ByteArray.empty), (Value.int .i64 0)])) fun y_82 w14 =>
  BND (storev 4 w14 y_82 t58_81) fun w15 =>
  BND (loadn 4 w15 y_82) fun t61_83 =>
  CALL PR F_tumbrellaw10_do [t26_7, t61_83] w15 fun t62_84 w16 =>
  BND (extractv t62_84 0) fun t63_85 =>
  BND (extractv t62_84 1) fun t64_86 =>
  BND (extractv t62_84 2) fun t65_87 =>
  BND (loadn 4 w16 y_82) fun t68_88 =>
  CALL PR F_tumbrellaw10_do [t45_30, t68_88] w16 fun t69_89 w17 =>
  BND (extractv t69_89 0) fun t70_90 =>
  BND (extractv t69_89 1) fun t71_91 =>
  BND (extractv t69_89 2) fun t72_92 =>
  CALL PR F_tumbrelref02_Same [t63_85, t70_90] w17 fun t75_93 w18 =>
  BND (unv .not t75_93) fun t76_94 =>
  BND (grd (isB t76_94 false) (some t64_86)) fun t78_95 =>
  BND (grd (isB t76_94 false) (some t71_91)) fun t79_96 =>
  BND (grd (isB t76_94 false) (binv .int .neq t78_95 t79_96)) fun t80_97 =>
  BND (pickv t76_94 (Value.bool true) t80_97) fun t81_98 =>
  BND (grd (isB t81_98 false) (some t65_87)) fun t83_99 =>
  BND (grd (isB t81_98 false) (some t72_92)) fun t84_100 =>
  BND (grd (isB t81_98 false) (binv .bool .neq t83_99 t84_100)) fun t85_101 =>
  BND (pickv t81_98 (Value.bool true) t85_101) fun t86_102 =>
  COND t86_102
  (R (Value.bool false) w18)
  (BND (binv .int .add t55_46 (Value.int .i64 1)) fun t87_103 =>
  (J_37 t87_103 w18 ∧ m_37 t87_103 w18 < m_37 t55_46 w13)))
  (CALL PR F_tumbrellaw10_own [t26_7] w13 fun t89_104 w19 =>
  CALL PR F_tumbrellaw10_own [t45_30] w19 fun t91_105 w20 =>
  CALL PR F_tumbrellaw10_same [t89_104, t91_105] w20 fun t92_106 w21 =>
  R t92_106 w21)))))))
def ann_tumbrellaw10_DeadAgain : List (Nat × List Nat) := [(1000007, [29]), (1000015, [55])]
theorem E_tumbrellaw10_DeadAgain (L_p0 i_p1 : Value) (w : World) (R : Value → World → Prop) : M_tumbrellaw10_DeadAgain L_p0 i_p1 w R = den PR ann_tumbrellaw10_DeadAgain (bodyOf Try.f5) (retQ PR Try.f5.results.toList R) (env0 [L_p0, i_p1]) w := by kernel_rfl
theorem C_tumbrellaw10_DeadAgain {L_p0 i_p1 : Value} {w : World} {R : Value → World → Prop} (h : M_tumbrellaw10_DeadAgain L_p0 i_p1 w R) : CALL PR F_tumbrellaw10_DeadAgain [L_p0, i_p1] w R :=
  call_of_den2 ann_tumbrellaw10_DeadAgain Try.func5 (by kernel_rfl) (by kernel_rfl) (by kernel_rfl) ((E_tumbrellaw10_DeadAgain L_p0 i_p1 w R) ▸ h)


-- 6 tumbrel.tumbrellaw10.DeadOnce
def M_tumbrellaw10_DeadOnce (L_p0 i_p1 s_p2 : Value) (w : World) (R : Value → World → Prop) : Prop :=
  CALL PR F_tumbrellaw10_awake [] w fun t19_1 w1 =>
  BND (unv .not t19_1) fun t20_2 =>
  COND t20_2
  (R (Value.bool false) w1)
  (CALL PR F_tumbrellaw10_large [L_p0] w1 fun t22_3 w2 =>
  BND (grd (isB t22_3 false) (some i_p1)) fun t24_4 =>
  BND (grd (isB t22_3 false) (lens t24_4)) fun t25_5 =>
  BND (grd (isB t22_3 false) (some s_p2)) fun t26_6 =>
  BND (grd (isB t22_3 false) (lens t26_6)) fun t27_7 =>
  BND (grd (isB t22_3 false) (binv .int .add t25_5 t27_7)) fun t28_8 =>
  BND (grd (isB t22_3 false) (binv .int .gtr t28_8 (Value.int .i64 100))) fun t29_9 =>
  BND (pickv t22_3 (Value.bool true) t29_9) fun t30_10 =>
  BND (grd (isB t30_10 false) (some i_p1)) fun t32_11 =>
  GEF (isB t30_10 false) (fun k_ => CALL PR F_tumbrelref03_Fold [t32_11] w2 k_) w2 fun t33_12 w3 =>
  GEF (isB t30_10 false) (fun k_ => CALL PR F_tumbrelref03_Right [t33_12] w3 k_) w3 fun t34_13 w4 =>
  BND (grd (isB t30_10 false) (unv .not t34_13)) fun t35_14 =>
  BND (pickv t30_10 (Value.bool true) t35_14) fun t36_15 =>
  BND (grd (isB t36_15 false) (some s_p2)) fun t38_16 =>
  GEF (isB t36_15 false) (fun k_ => CALL PR F_tumbrelref03_Fold [t38_16] w4 k_) w4 fun t39_17 w5 =>
  GEF (isB t36_15 false) (fun k_ => CALL PR F_tumbrelref03_Right [t39_17] w5 k_) w5 fun t40_18 w6 =>
  BND (grd (isB t36_15 false) (unv .not t40_18)) fun t41_19 =>
  BND (pickv t36_15 (Value.bool true) t41_19) fun t42_20 =>
  BND (grd (isB t42_20 false) (some i_p1)) fun t44_21 =>
  GEF (isB t42_20 false) (fun k_ => CALL PR F_tumbrelref03_Fold [t44_21] w6 k_) w6 fun t45_22 w7 =>
  BND (grd (isB t42_20 false) (some s_p2)) fun t46_23 =>
  GEF (isB t42_20 false) (fun k_ => CALL PR F_tumbrelref03_Fold [t46_23] w7 k_) w7 fun t47_24 w8 =>
  BND (grd (isB t42_20 false) (binv .str .eql t45_22 t47_24)) fun t48_25 =>
  BND (pickv t42_20 (Value.bool true) t48_25) fun t49_26 =>
  COND t49_26
  (R (Value.bool true) w8)
  (CALL PR F_dead_New [] w8 fun t50_27 w9 =>
  CALL PR F_dead_New [] w9 fun t51_28 w10 =>
  BND (lenl L_p0) fun t53_29 =>
  ∃ (J_30 : Value → Value → Value → Value → World → Prop) (m_30 : Value → Value → Value → Value → World → Nat), J_30 (Value.slice none 0 0) (Value.slice none 0 0) (Value.slice none 0 0) (Value.int .i64 0) w10 ∧ ∀ (_d_30 : Env) (r_31 a_32 y_33 t54_37 : Value) (w11 : World), J_30 r_31 a_32 y_33 t54_37 w11 →
  (BND (binv .int .lss t54_37 t53_29) fun t55_89 =>
  COND t55_89
  (BND (iaddr 4 L_p0 t54_37) fun t56_90 =>
  BND (loadn 4 w11 t56_90) fun t57_91 =>
  NEW (newv 34 w11 (Value.agg #[(Value.int .i64 0), (Value.int .u64 0), (Value.string ByteArray.empty), (Value.int .i64 0)])) fun t13_92 w12 =>
  BND (storev 4 w12 t13_92 t57_91) fun w13 =>
  BND (faddr 0 t13_92) fun t58_93 =>
  BND (load1 w13 t58_93) fun t59_94 =>
  BND (binv .int .eql t59_94 (Value.int .i64 0)) fun t61_95 =>
  JOIN (α := Value → Value → Value → World → Prop) (fun k_145 => COND t61_95
  (BND (faddr 1 t13_92) fun t63_146 =>
  BND (load1 w13 t63_146) fun t64_147 =>
  CALL PR F_dead_Dead_Add [t50_27, t64_147] w13 fun t65_148 w15 =>
  JOIN (α := Value → World → Prop) (fun k_158 => COND t65_148
  (BND (faddr 1 t13_92) fun t67_159 =>
  BND (load1 w15 t67_159) fun t68_160 =>
  BND (newslice 29 #[(Value.int .u64 0)] 1 1 [(0, 1, t68_160)] w15) fun p_ => NEW p_ fun t69_161 w18 =>
  APPEND 29 1 8 (Value.int .u64 0) r_31 t69_161 w18 fun t70_162 w19 =>
  k_158 t70_162 w19)
  (k_158 r_31 w15))
  (fun r_149 w16 => BND (faddr 1 t13_92) fun t72_155 =>
  BND (load1 w16 t72_155) fun t73_156 =>
  CALL PR F_dead_Dead_Add [t51_28, t73_156] w16 fun t74_157 w17 =>
  k_145 r_149 a_32 y_33 w17))
  (BND (binv .int .eql t59_94 (Value.int .i64 2)) fun t76_163 =>
  JOIN (α := Value → Value → World → Prop) (fun k_196 => COND t76_163
  (BND (faddr 3 t13_92) fun t80_197 =>
  BND (load1 w13 t80_197) fun t81_198 =>
  CALL PR F_dead_Dead_Next [t50_27, i_p1, t81_198] w13 fun t82_199 w21 =>
  BND (extractv t82_199 0) fun t83_200 =>
  BND (extractv t82_199 1) fun t84_201 =>
  APPEND 29 1 8 (Value.int .u64 0) a_32 t83_200 w21 fun t87_202 w22 =>
  BND (faddr 3 t13_92) fun t90_203 =>
  BND (load1 w22 t90_203) fun t91_204 =>
  BND (binv .int .rem t91_204 (Value.int .i64 3)) fun t92_205 =>
  CALL PR F_dead_Dead_Next [t50_27, s_p2, t92_205] w22 fun t93_206 w23 =>
  BND (faddr 3 t13_92) fun t97_207 =>
  BND (load1 w23 t97_207) fun t98_208 =>
  CALL PR F_dead_Dead_Next [t51_28, i_p1, t98_208] w23 fun t99_209 w24 =>
  BND (extractv t99_209 0) fun t100_210 =>
  BND (extractv t99_209 1) fun t101_211 =>
  APPEND 29 1 8 (Value.int .u64 0) y_33 t100_210 w24 fun t104_212 w25 =>
  k_196 t87_202 t104_212 w25)
  (k_196 a_32 y_33 w13))
  (fun a_164 y_165 w20 => k_145 r_31 a_164 y_165 w20)))
  (fun r_96 a_97 y_98 w14 => BND (binv .int .add t54_37 (Value.int .i64 1)) fun t105_144 =>
  (J_30 r_96 a_97 y_98 t105_144 w14 ∧ m_30 r_96 a_97 y_98 t105_144 w14 < m_30 r_31 a_32 y_33 t54_37 w11)))
  (CALL PR F_dead_Dead_Next [t50_27, i_p1, (Value.int .i64 200)] w11 fun t109_213 w26 =>
  BND (extractv t109_213 0) fun t110_214 =>
  BND (extractv t109_213 1) fun t111_215 =>
  APPEND 29 1 8 (Value.int .u64 0) a_32 t110_214 w26 fun t114_216 w27 =>
  CALL PR F_dead_Dead_Next [t51_28, i_p1, (Value.int .i64 200)] w27 fun t118_217 w28 =>
  BND (extractv t118_217 0) fun t119_218 =>
  BND (extractv t118_217 1) fun t120_219 =>
  APPEND 29 1 8 (Value.int .u64 0) y_33 t119_218 w28 fun t123_220 w29 =>
  BND (binv .int .eql t111_215 (Value.int .i64 0)) fun t125_221 =>
  BND (grd (isB t125_221 true) (some t120_219)) fun t127_222 =>
  BND (grd (isB t125_221 true) (binv .int .eql t127_222 (Value.int .i64 0))) fun t128_223 =>
  BND (pickv t125_221 t128_223 (Value.bool false)) fun t129_224 =>
  BND (grd (isB t129_224 true) (some t114_216)) fun t131_225 =>
  BND (grd (isB t129_224 true) (some r_31)) fun t132_226 =>
  GEF (isB t129_224 true) (fun k_ => CALL PR F_tumbrelref02_Same [t131_225, t132_226] w29 k_) w29 fun t133_227 w30 =>
  BND (pickv t129_224 t133_227 (Value.bool false)) fun t134_228 =>
  BND (grd (isB t134_228 true) (some t123_220)) fun t136_229 =>
  BND (grd (isB t134_228 true) (some r_31)) fun t137_230 =>
  GEF (isB t134_228 true) (fun k_ => CALL PR F_tumbrelref02_Same [t136_229, t137_230] w30 k_) w30 fun t138_231 w31 =>
  BND (pickv t134_228 t138_231 (Value.bool false)) fun t139_232 =>
  R t139_232 w31))))
def ann_tumbrellaw10_DeadOnce : List (Nat × List Nat) := [(1000008, [9, 10, 11, 54])]
theorem E_tumbrellaw10_DeadOnce (L_p0 i_p1 s_p2 : Value) (w : World) (R : Value → World → Prop) : M_tumbrellaw10_DeadOnce L_p0 i_p1 s_p2 w R = den PR ann_tumbrellaw10_DeadOnce (bodyOf Try.f6) (retQ PR Try.f6.results.toList R) (env0 [L_p0, i_p1, s_p2]) w := by kernel_rfl
theorem C_tumbrellaw10_DeadOnce {L_p0 i_p1 s_p2 : Value} {w : World} {R : Value → World → Prop} (h : M_tumbrellaw10_DeadOnce L_p0 i_p1 s_p2 w R) : CALL PR F_tumbrellaw10_DeadOnce [L_p0, i_p1, s_p2] w R :=
  call_of_den2 ann_tumbrellaw10_DeadOnce Try.func6 (by kernel_rfl) (by kernel_rfl) (by kernel_rfl) ((E_tumbrellaw10_DeadOnce L_p0 i_p1 s_p2 w R) ▸ h)


-- 7 tumbrel.tumbrellaw10.awake
def M_tumbrellaw10_awake (w : World) (R : Value → World → Prop) : Prop :=
  CALL PR F_dead_New [] w fun t14_1 w1 =>
  BND (binv .ptr .eql t14_1 (Value.pointer none)) fun t16_2 =>
  COND t16_2
  (R (Value.bool false) w1)
  (CALL PR F_dead_Dead_Add [t14_1, (Value.int .u64 5)] w1 fun t18_3 w2 =>
  CALL PR F_dead_Dead_Add [t14_1, (Value.int .u64 3)] w2 fun t20_4 w3 =>
  CALL PR F_dead_Dead_Add [t14_1, (Value.int .u64 5)] w3 fun t22_5 w4 =>
  CALL PR F_dead_Dead_Add [t14_1, (Value.int .u64 9)] w4 fun t24_6 w5 =>
  CALL PR F_dead_Dead_Next [t14_1, (Value.string { data := #[65] }), (Value.int .i64 2)] w5 fun t27_7 w6 =>
  BND (extractv t27_7 0) fun t28_8 =>
  BND (extractv t27_7 1) fun t29_9 =>
  CALL PR F_dead_Dead_Next [t14_1, (Value.string { data := #[97] }), (Value.int .i64 2)] w6 fun t32_10 w7 =>
  BND (extractv t32_10 0) fun t33_11 =>
  BND (extractv t32_10 1) fun t34_12 =>
  CALL PR F_dead_Dead_Next [t14_1, (Value.string { data := #[45] }), (Value.int .i64 2)] w7 fun t37_13 w8 =>
  BND (extractv t37_13 0) fun t38_14 =>
  BND (extractv t37_13 1) fun t39_15 =>
  CALL PR F_dead_Dead_Last [t14_1] w8 fun t42_16 w9 =>
  CALL PR F_dead_Dead_All [t14_1] w9 fun t44_17 w10 =>
  CALL PR F_dead_Dead_Cursors [t14_1] w10 fun t46_18 w11 =>
  CALL PR F_dead_From [t42_16, t44_17, t46_18] w11 fun t47_19 w12 =>
  BND (extractv t47_19 0) fun t48_20 =>
  BND (extractv t47_19 1) fun t49_21 =>
  BND (buildv #[(Value.int .u64 0), (Value.int .u64 0)] [(0, 1, (Value.int .u64 1)), (1, 1, (Value.int .u64 1))]) fun t51_22 =>
  BND (newslice 48 #[(Value.int .u64 0), (Value.int .u64 0)] 2 1 [(0, 2, t51_22)] w12) fun p_ => NEW p_ fun t52_23 w13 =>
  CALL PR F_dead_From [(Value.int .u64 0), t52_23, (Value.slice none 0 0)] w13 fun t53_24 w14 =>
  BND (extractv t53_24 0) fun t54_25 =>
  BND (extractv t53_24 1) fun t55_26 =>
  BND (grd (isB t20_4 true) (some t22_5)) fun t58_27 =>
  BND (grd (isB t20_4 true) (unv .not t58_27)) fun t59_28 =>
  BND (pickv t20_4 t59_28 (Value.bool false)) fun t60_29 =>
  BND (grd (isB t60_29 true) (some t28_8)) fun t62_30 =>
  GEF (isB t60_29 true) (fun k_ => BND (newslice 29 #[(Value.int .u64 0)] 1 2 [(0, 1, (Value.int .u64 5)), (1, 1, (Value.int .u64 3))] w14) fun p_ => NEW p_ k_) w14 fun t63_31 w15 =>
  GEF (isB t60_29 true) (fun k_ => CALL PR F_tumbrelref02_Same [t62_30, t63_31] w15 k_) w15 fun t64_32 w16 =>
  BND (pickv t60_29 t64_32 (Value.bool false)) fun t65_33 =>
  BND (grd (isB t65_33 true) (some t29_9)) fun t67_34 =>
  BND (grd (isB t65_33 true) (binv .int .eql t67_34 (Value.int .i64 0))) fun t68_35 =>
  BND (pickv t65_33 t68_35 (Value.bool false)) fun t69_36 =>
  BND (grd (isB t69_36 true) (some t33_11)) fun t71_37 =>
  GEF (isB t69_36 true) (fun k_ => BND (newslice 29 #[(Value.int .u64 0)] 1 1 [(0, 1, (Value.int .u64 9))] w16) fun p_ => NEW p_ k_) w16 fun t72_38 w17 =>
  GEF (isB t69_36 true) (fun k_ => CALL PR F_tumbrelref02_Same [t71_37, t72_38] w17 k_) w17 fun t73_39 w18 =>
  BND (pickv t69_36 t73_39 (Value.bool false)) fun t74_40 =>
  BND (grd (isB t74_40 true) (some t34_12)) fun t76_41 =>
  BND (grd (isB t74_40 true) (binv .int .eql t76_41 (Value.int .i64 0))) fun t77_42 =>
  BND (pickv t74_40 t77_42 (Value.bool false)) fun t78_43 =>
  BND (grd (isB t78_43 true) (some t39_15)) fun t80_44 =>
  BND (grd (isB t78_43 true) (binv .int .eql t80_44 (Value.int .i64 1))) fun t81_45 =>
  BND (pickv t78_43 t81_45 (Value.bool false)) fun t82_46 =>
  BND (grd (isB t82_46 true) (some t48_20)) fun t84_47 =>
  BND (grd (isB t82_46 true) (binv .ptr .neq t84_47 (Value.pointer none))) fun t85_48 =>
  BND (pickv t82_46 t85_48 (Value.bool false)) fun t86_49 =>
  BND (grd (isB t86_49 true) (some t49_21)) fun t88_50 =>
  BND (grd (isB t86_49 true) (binv .int .eql t88_50 (Value.int .i64 0))) fun t89_51 =>
  BND (pickv t86_49 t89_51 (Value.bool false)) fun t90_52 =>
  BND (grd (isB t90_52 true) (some t55_26)) fun t92_53 =>
  BND (grd (isB t90_52 true) (binv .int .eql t92_53 (Value.int .i64 1))) fun t93_54 =>
  BND (pickv t90_52 t93_54 (Value.bool false)) fun t94_55 =>
  BND (grd (isB t94_55 true) (some t14_1)) fun t96_56 =>
  GEF (isB t94_55 true) (fun k_ => CALL PR F_dead_Dead_Last [t96_56] w18 k_) w18 fun t97_57 w19 =>
  BND (grd (isB t94_55 true) (binv .int .eql t97_57 (Value.int .u64 3))) fun t98_58 =>
  BND (pickv t94_55 t98_58 (Value.bool false)) fun t99_59 =>
  BND (grd (isB t99_59 true) (some t14_1)) fun t101_60 =>
  GEF (isB t99_59 true) (fun k_ => CALL PR F_dead_Dead_Drop [t101_60, (Value.int .u64 3)] w19 k_) w19 fun t102_61 w20 =>
  BND (pickv t99_59 t102_61 (Value.bool false)) fun t103_62 =>
  BND (grd (isB t103_62 true) (some t14_1)) fun t105_63 =>
  GEF (isB t103_62 true) (fun k_ => CALL PR F_dead_Dead_Has [t105_63, (Value.int .u64 3)] w20 k_) w20 fun t106_64 w21 =>
  BND (grd (isB t103_62 true) (unv .not t106_64)) fun t107_65 =>
  BND (pickv t103_62 t107_65 (Value.bool false)) fun t108_66 =>
  R t108_66 w21)
def ann_tumbrellaw10_awake : List (Nat × List Nat) := []
theorem E_tumbrellaw10_awake (w : World) (R : Value → World → Prop) : M_tumbrellaw10_awake w R = den PR ann_tumbrellaw10_awake (bodyOf Try.f7) (retQ PR Try.f7.results.toList R) (env0 []) w := by kernel_rfl
theorem C_tumbrellaw10_awake {w : World} {R : Value → World → Prop} (h : M_tumbrellaw10_awake w R) : CALL PR F_tumbrellaw10_awake [] w R :=
  call_of_den2 ann_tumbrellaw10_awake Try.func7 (by kernel_rfl) (by kernel_rfl) (by kernel_rfl) ((E_tumbrellaw10_awake w R) ▸ h)


-- 8 tumbrel.tumbrellaw10.large
def M_tumbrellaw10_large (l_p0 : Value) (w : World) (R : Value → World → Prop) : Prop :=
  BND (lenl l_p0) fun t6_1 =>
  BND (binv .int .gtr t6_1 (Value.int .i64 200)) fun t7_2 =>
  COND t7_2
  (R (Value.bool true) w)
  (BND (lenl l_p0) fun t9_3 =>
  ∃ (J_4 : Value → World → Prop) (m_4 : Value → World → Nat), J_4 (Value.int .i64 0) w ∧ ∀ (_d_4 : Env) (t10_7 : Value) (w1 : World), J_4 t10_7 w1 →
  (BND (binv .int .lss t10_7 t9_3) fun t11_16 =>
  COND t11_16
  (BND (iaddr 4 l_p0 t10_7) fun t12_17 =>
  BND (loadn 4 w1 t12_17) fun t13_18 =>
  NEW (newv 34 w1 (Value.agg #[(Value.int .i64 0), (Value.int .u64 0), (Value.string ByteArray.empty), (Value.int .i64 0)])) fun x_19 w2 =>
  BND (storev 4 w2 x_19 t13_18) fun w3 =>
  BND (faddr 2 x_19) fun t14_20 =>
  BND (load1 w3 t14_20) fun t15_21 =>
  BND (lens t15_21) fun t16_22 =>
  BND (binv .int .gtr t16_22 (Value.int .i64 100)) fun t17_23 =>
  COND t17_23
  (R (Value.bool true) w3)
  (BND (binv .int .add t10_7 (Value.int .i64 1)) fun t18_24 =>
  (J_4 t18_24 w3 ∧ m_4 t18_24 w3 < m_4 t10_7 w1)))
  (R (Value.bool false) w1)))
def ann_tumbrellaw10_large : List (Nat × List Nat) := [(1000004, [10])]
theorem E_tumbrellaw10_large (l_p0 : Value) (w : World) (R : Value → World → Prop) : M_tumbrellaw10_large l_p0 w R = den PR ann_tumbrellaw10_large (bodyOf Try.f8) (retQ PR Try.f8.results.toList R) (env0 [l_p0]) w := by kernel_rfl
theorem C_tumbrellaw10_large {l_p0 : Value} {w : World} {R : Value → World → Prop} (h : M_tumbrellaw10_large l_p0 w R) : CALL PR F_tumbrellaw10_large [l_p0] w R :=
  call_of_den2 ann_tumbrellaw10_large Try.func8 (by kernel_rfl) (by kernel_rfl) (by kernel_rfl) ((E_tumbrellaw10_large l_p0 w R) ▸ h)


-- 9 tumbrel.dead.New
def M_dead_New (w : World) (R : Value → World → Prop) : Prop :=
  NEW (newmap w) fun t1_1 w1 =>
  BND (buildv #[(Value.slice none 0 0), (Value.int .u64 0), (Value.map none)] [(2, 1, t1_1)]) fun t2_2 =>
  NEW (newv 67 w1 t2_2) fun t3_3 w2 =>
  R t3_3 w2
def ann_dead_New : List (Nat × List Nat) := []
theorem E_dead_New (w : World) (R : Value → World → Prop) : M_dead_New w R = den PR ann_dead_New (bodyOf Try.f9) (retQ PR Try.f9.results.toList R) (env0 []) w := by kernel_rfl
theorem C_dead_New {w : World} {R : Value → World → Prop} (h : M_dead_New w R) : CALL PR F_dead_New [] w R :=
  call_of_den2 ann_dead_New Try.func9 (by kernel_rfl) (by kernel_rfl) (by kernel_rfl) ((E_dead_New w R) ▸ h)


-- 10 tumbrel.tumbrellaw10.do
def M_tumbrellaw10_do (d_p0 x_p1 : Value) (w : World) (R : Value → World → Prop) : Prop :=
  NEW (newv 34 w x_p1) fun x_1 w1 =>
  BND (faddr 0 x_1) fun t9_2 =>
  BND (load1 w1 t9_2) fun t10_3 =>
  BND (binv .int .eql t10_3 (Value.int .i64 0)) fun t12_4 =>
  COND t12_4
  (BND (faddr 1 x_1) fun t14_5 =>
  BND (load1 w1 t14_5) fun t15_6 =>
  CALL PR F_dead_Dead_Add [d_p0, t15_6] w1 fun t16_7 w2 =>
  R (.tuple #[(Value.slice none 0 0), (Value.int .i64 0), t16_7]) w2)
  (BND (binv .int .eql t10_3 (Value.int .i64 1)) fun t18_8 =>
  COND t18_8
  (BND (faddr 1 x_1) fun t20_9 =>
  BND (load1 w1 t20_9) fun t21_10 =>
  CALL PR F_dead_Dead_Drop [d_p0, t21_10] w1 fun t22_11 w3 =>
  R (.tuple #[(Value.slice none 0 0), (Value.int .i64 0), t22_11]) w3)
  (BND (binv .int .eql t10_3 (Value.int .i64 2)) fun t24_12 =>
  COND t24_12
  (BND (faddr 2 x_1) fun t27_13 =>
  BND (load1 w1 t27_13) fun t28_14 =>
  BND (faddr 3 x_1) fun t29_15 =>
  BND (load1 w1 t29_15) fun t30_16 =>
  CALL PR F_dead_Dead_Next [d_p0, t28_14, t30_16] w1 fun t31_17 w4 =>
  BND (extractv t31_17 0) fun t32_18 =>
  BND (extractv t31_17 1) fun t33_19 =>
  R (.tuple #[t32_18, t33_19, (Value.bool false)]) w4)
  (BND (faddr 1 x_1) fun t37_20 =>
  BND (load1 w1 t37_20) fun t38_21 =>
  CALL PR F_dead_Dead_Has [d_p0, t38_21] w1 fun t39_22 w5 =>
  R (.tuple #[(Value.slice none 0 0), (Value.int .i64 0), t39_22]) w5)))
def ann_tumbrellaw10_do : List (Nat × List Nat) := []
theorem E_tumbrellaw10_do (d_p0 x_p1 : Value) (w : World) (R : Value → World → Prop) : M_tumbrellaw10_do d_p0 x_p1 w R = den PR ann_tumbrellaw10_do (bodyOf Try.f10) (retQ PR Try.f10.results.toList R) (env0 [d_p0, x_p1]) w := by kernel_rfl
theorem C_tumbrellaw10_do {d_p0 x_p1 : Value} {w : World} {R : Value → World → Prop} (h : M_tumbrellaw10_do d_p0 x_p1 w R) : CALL PR F_tumbrellaw10_do [d_p0, x_p1] w R :=
  call_of_den2 ann_tumbrellaw10_do Try.func10 (by kernel_rfl) (by kernel_rfl) (by kernel_rfl) ((E_tumbrellaw10_do d_p0 x_p1 w R) ▸ h)


-- 11 (*tumbrel.tumbrelref10.Dead).Add
def M_tumbrelref10_Dead_Add (d_p0 id_p1 : Value) (w : World) (R : Value → World → Prop) : Prop :=
  CALL PR F_tumbrelref10_Dead_Has [d_p0, id_p1] w fun t7_1 w1 =>
  COND t7_1
  (R (Value.bool false) w1)
  (BND (nilchk d_p0) fun t10_2 =>
  BND (faddr 1 t10_2) fun t11_3 =>
  BND (load1 w1 t11_3) fun t12_4 =>
  BND (binv .int .add t12_4 (Value.int .u64 1)) fun t13_5 =>
  BND (nilchk d_p0) fun t14_6 =>
  BND (faddr 1 t14_6) fun t15_7 =>
  BND (storev 1 w1 t15_7 t13_5) fun w2 =>
  ∃ S_8 : Nat → World → Prop,
  S_8 5 w2.drew ∧
  S_8 11 w2.drew ∧
  BND (nilchk d_p0) fun t19_9 =>
  BND (faddr 0 t19_9) fun t20_10 =>
  FLT (S_8 5) (fun w_ => load1 w_ t20_10) fun t21_11 =>
  BND (nilchk d_p0) fun t25_12 =>
  BND (faddr 1 t25_12) fun t26_13 =>
  FLT (S_8 11) (fun w_ => load1 w_ t26_13) fun t27_14 =>
  BND (buildv #[(Value.int .u64 0), (Value.int .u64 0)] [(0, 1, id_p1), (1, 1, t27_14)]) fun t28_15 =>
  JOIN (α := World → Prop) (fun k_22 => (BND (newslice 49 #[(Value.int .u64 0), (Value.int .u64 0)] 2 0 [] w2.drew) fun p_ => NEW p_ fun t17_23 w4 =>
  S_8 5 w4 ∧
  S_8 11 w4 ∧
  APPEND 49 2 16 (Value.agg #[(Value.int .u64 0), (Value.int .u64 0)]) t17_23 t21_11 w4 fun t22_24 w5 =>
  S_8 11 w5 ∧
  BND (newslice 49 #[(Value.int .u64 0), (Value.int .u64 0)] 2 1 [(0, 2, t28_15)] w5) fun p_ => NEW p_ fun t29_25 w6 =>
  S_8 5 w6 ∧
  APPEND 49 2 16 (Value.agg #[(Value.int .u64 0), (Value.int .u64 0)]) t22_24 t29_25 w6 fun t30_26 w7 =>
  BND (nilchk d_p0) fun t31_27 =>
  BND (faddr 0 t31_27) fun t32_28 =>
  BND (storev 1 w7 t32_28 t30_26) fun w8 =>
  k_22 w8) ∧
  (BND (newslice 49 #[(Value.int .u64 0), (Value.int .u64 0)] 2 0 [] w2.drew) fun p_ => NEW p_ fun t17_29 w9 =>
  S_8 5 w9 ∧
  S_8 11 w9 ∧
  BND (newslice 49 #[(Value.int .u64 0), (Value.int .u64 0)] 2 1 [(0, 2, t28_15)] w9) fun p_ => NEW p_ fun t29_30 w10 =>
  S_8 5 w10 ∧
  APPEND 49 2 16 (Value.agg #[(Value.int .u64 0), (Value.int .u64 0)]) t17_29 t21_11 w10 fun t22_31 w11 =>
  S_8 11 w11 ∧
  APPEND 49 2 16 (Value.agg #[(Value.int .u64 0), (Value.int .u64 0)]) t22_31 t29_30 w11 fun t30_32 w12 =>
  BND (nilchk d_p0) fun t31_33 =>
  BND (faddr 0 t31_33) fun t32_34 =>
  BND (storev 1 w12 t32_34 t30_32) fun w13 =>
  k_22 w13) ∧
  (BND (newslice 49 #[(Value.int .u64 0), (Value.int .u64 0)] 2 1 [(0, 2, t28_15)] w2.drew) fun p_ => NEW p_ fun t29_35 w14 =>
  S_8 5 w14 ∧
  BND (newslice 49 #[(Value.int .u64 0), (Value.int .u64 0)] 2 0 [] w14) fun p_ => NEW p_ fun t17_36 w15 =>
  S_8 5 w15 ∧
  S_8 11 w15 ∧
  APPEND 49 2 16 (Value.agg #[(Value.int .u64 0), (Value.int .u64 0)]) t17_36 t21_11 w15 fun t22_37 w16 =>
  S_8 11 w16 ∧
  APPEND 49 2 16 (Value.agg #[(Value.int .u64 0), (Value.int .u64 0)]) t22_37 t29_35 w16 fun t30_38 w17 =>
  BND (nilchk d_p0) fun t31_39 =>
  BND (faddr 0 t31_39) fun t32_40 =>
  BND (storev 1 w17 t32_40 t30_38) fun w18 =>
  k_22 w18))
  (fun w3 => R (Value.bool true) w3))
def ann_tumbrelref10_Dead_Add : List (Nat × List Nat) := [(4, [0, 2, 3, 4, 5, 7, 8, 9, 10, 11, 12]), (2000004, [5, 11]), (3004001, [5, 11]), (3004006, [11]), (3004013, [5]), (4000004, [1, 6, 13]), (5000004, [1, 6, 13, 14, 15, 16, 17, 9999, 1, 13, 6, 14, 15, 16, 17, 9999, 13, 1, 6, 14, 15, 16, 17])]
theorem E_tumbrelref10_Dead_Add (d_p0 id_p1 : Value) (w : World) (R : Value → World → Prop) : M_tumbrelref10_Dead_Add d_p0 id_p1 w R = den PR ann_tumbrelref10_Dead_Add (bodyOf Try.f11) (retQ PR Try.f11.results.toList R) (env0 [d_p0, id_p1]) w := by kernel_rfl
theorem C_tumbrelref10_Dead_Add {d_p0 id_p1 : Value} {w : World} {R : Value → World → Prop} (h : M_tumbrelref10_Dead_Add d_p0 id_p1 w R) : CALL PR F_tumbrelref10_Dead_Add [d_p0, id_p1] w R :=
  call_of_den2 ann_tumbrelref10_Dead_Add Try.func11 (by kernel_rfl) (by kernel_rfl) (by kernel_rfl) ((E_tumbrelref10_Dead_Add d_p0 id_p1 w R) ▸ h)


-- 12 (*tumbrel.tumbrelref10.Dead).Drop
def M_tumbrelref10_Dead_Drop (d_p0 id_p1 : Value) (w : World) (R : Value → World → Prop) : Prop :=
  CALL PR F_tumbrelref10_Dead_Has [d_p0, id_p1] w fun t10_1 w1 =>
  BND (newslice 49 #[(Value.int .u64 0), (Value.int .u64 0)] 2 0 [] w1) fun p_ => NEW p_ fun t11_2 w2 =>
  ∃ (J_3 : Value → Value → World → Prop) (m_3 : Value → Value → World → Nat), J_3 t11_2 (Value.int .i64 0) w2 ∧ ∀ (_d_3 : Env) (out_4 i_5 : Value) (w3 : World), J_3 out_4 i_5 w3 →
  (BND (nilchk d_p0) fun t14_35 =>
  BND (faddr 0 t14_35) fun t15_36 =>
  BND (load1 w3 t15_36) fun t16_37 =>
  BND (lenl t16_37) fun t17_38 =>
  BND (binv .int .lss i_5 t17_38) fun t18_39 =>
  COND t18_39
  (BND (nilchk d_p0) fun t22_40 =>
  BND (faddr 0 t22_40) fun t23_41 =>
  BND (load1 w3 t23_41) fun t24_42 =>
  BND (iaddr 2 t24_42 i_5) fun t26_43 =>
  BND (faddr 0 t26_43) fun t27_44 =>
  BND (load1 w3 t27_44) fun t28_45 =>
  BND (binv .int .neq t28_45 id_p1) fun t30_46 =>
  JOIN (α := Value → World → Prop) (fun k_59 => COND t30_46
  (BND (nilchk d_p0) fun t33_60 =>
  BND (faddr 0 t33_60) fun t34_61 =>
  BND (load1 w3 t34_61) fun t35_62 =>
  BND (iaddr 2 t35_62 i_5) fun t37_63 =>
  BND (loadn 2 w3 t37_63) fun t38_64 =>
  BND (newslice 49 #[(Value.int .u64 0), (Value.int .u64 0)] 2 1 [(0, 2, t38_64)] w3) fun p_ => NEW p_ fun t39_65 w5 =>
  APPEND 49 2 16 (Value.agg #[(Value.int .u64 0), (Value.int .u64 0)]) out_4 t39_65 w5 fun t40_66 w6 =>
  k_59 t40_66 w6)
  (k_59 out_4 w3))
  (fun out_47 w4 => BND (binv .int .add i_5 (Value.int .i64 1)) fun t20_58 =>
  (J_3 out_47 t20_58 w4 ∧ m_3 out_47 t20_58 w4 < m_3 out_4 i_5 w3)))
  (BND (nilchk d_p0) fun t43_67 =>
  BND (faddr 0 t43_67) fun t44_68 =>
  BND (storev 1 w3 t44_68 out_4) fun w7 =>
  R t10_1 w7))
def ann_tumbrelref10_Dead_Drop : List (Nat × List Nat) := [(1000004, [6, 7])]
theorem E_tumbrelref10_Dead_Drop (d_p0 id_p1 : Value) (w : World) (R : Value → World → Prop) : M_tumbrelref10_Dead_Drop d_p0 id_p1 w R = den PR ann_tumbrelref10_Dead_Drop (bodyOf Try.f12) (retQ PR Try.f12.results.toList R) (env0 [d_p0, id_p1]) w := by kernel_rfl
theorem C_tumbrelref10_Dead_Drop {d_p0 id_p1 : Value} {w : World} {R : Value → World → Prop} (h : M_tumbrelref10_Dead_Drop d_p0 id_p1 w R) : CALL PR F_tumbrelref10_Dead_Drop [d_p0, id_p1] w R :=
  call_of_den2 ann_tumbrelref10_Dead_Drop Try.func12 (by kernel_rfl) (by kernel_rfl) (by kernel_rfl) ((E_tumbrelref10_Dead_Drop d_p0 id_p1 w R) ▸ h)


-- 13 (*tumbrel.tumbrelref10.Dead).Next
def M_tumbrelref10_Dead_Next (L_p0 i_p1 s_p2 : Value) (w : World) (R : Value → World → Prop) : Prop :=
  CALL PR F_tumbrelref03_Fold [i_p1] w fun t13_1 w1 =>
  BND (binv .int .lss s_p2 (Value.int .i64 1)) fun t15_2 =>
  BND (grd (isB t15_2 false) (some t13_1)) fun t17_3 =>
  GEF (isB t15_2 false) (fun k_ => CALL PR F_tumbrelref03_Right [t17_3] w1 k_) w1 fun t18_4 w2 =>
  BND (grd (isB t15_2 false) (unv .not t18_4)) fun t19_5 =>
  BND (pickv t15_2 (Value.bool true) t19_5) fun t20_6 =>
  COND t20_6
  (R (.tuple #[(Value.slice none 0 0), (Value.int .i64 1)]) w2)
  (∃ (J_7 : Value → World → Prop) (m_7 : Value → World → Nat), J_7 (Value.int .i64 0) w2 ∧ ∀ (_d_7 : Env) (r_8 : Value) (w3 : World), J_7 r_8 w3 →
  (BND (nilchk L_p0) fun t23_30 =>
  BND (faddr 2 t23_30) fun t24_31 =>
  BND (load1 w3 t24_31) fun t25_32 =>
  BND (lenl t25_32) fun t26_33 =>
  BND (binv .int .lss r_8 t26_33) fun t27_34 =>
  BND (grd (isB t27_34 true) (some L_p0)) fun t29_35 =>
  BND (grd (isB t27_34 true) (nilchk t29_35)) fun t30_36 =>
  BND (grd (isB t27_34 true) (faddr 2 t30_36)) fun t31_37 =>
  BND (grd (isB t27_34 true) (load1 w3 t31_37)) fun t32_38 =>
  BND (grd (isB t27_34 true) (some r_8)) fun t33_39 =>
  BND (grd (isB t27_34 true) (iaddr 2 t32_38 t33_39)) fun t34_40 =>
  BND (grd (isB t27_34 true) (faddr 0 t34_40)) fun t35_41 =>
  BND (grd (isB t27_34 true) (load1 w3 t35_41)) fun t36_42 =>
  BND (grd (isB t27_34 true) (some t13_1)) fun t37_43 =>
  GEF (isB t27_34 true) (fun k_ => CALL PR F_tumbrelref03_Less [t36_42, t37_43] w3 k_) w3 fun t38_44 w4 =>
  BND (pickv t27_34 t38_44 (Value.bool false)) fun t39_45 =>
  COND t39_45
  (BND (binv .int .add r_8 (Value.int .i64 1)) fun t41_46 =>
  (J_7 t41_46 w4 ∧ m_7 t41_46 w4 < m_7 r_8 w3))
  (BND (nilchk L_p0) fun t44_47 =>
  BND (faddr 2 t44_47) fun t45_48 =>
  BND (load1 w4 t45_48) fun t46_49 =>
  BND (lenl t46_49) fun t47_50 =>
  BND (binv .int .eql r_8 t47_50) fun t48_51 =>
  BND (grd (isB t48_51 false) (some L_p0)) fun t50_52 =>
  BND (grd (isB t48_51 false) (nilchk t50_52)) fun t51_53 =>
  BND (grd (isB t48_51 false) (faddr 2 t51_53)) fun t52_54 =>
  BND (grd (isB t48_51 false) (load1 w4 t52_54)) fun t53_55 =>
  BND (grd (isB t48_51 false) (some r_8)) fun t54_56 =>
  BND (grd (isB t48_51 false) (iaddr 2 t53_55 t54_56)) fun t55_57 =>
  BND (grd (isB t48_51 false) (faddr 0 t55_57)) fun t56_58 =>
  BND (grd (isB t48_51 false) (load1 w4 t56_58)) fun t57_59 =>
  BND (grd (isB t48_51 false) (some t13_1)) fun t58_60 =>
  BND (grd (isB t48_51 false) (binv .str .neq t57_59 t58_60)) fun t59_61 =>
  BND (pickv t48_51 (Value.bool true) t59_61) fun t60_62 =>
  JOIN (α := World → Prop) (fun k_219 => COND t60_62
  (BND (nilchk L_p0) fun t62_220 =>
  BND (faddr 2 t62_220) fun t63_221 =>
  BND (load1 w4 t63_221) fun t64_222 =>
  BND (lenl t64_222) fun t65_223 =>
  BND (binv .int .geq t65_223 (Value.int .i64 8)) fun t66_224 =>
  COND t66_224
  (R (.tuple #[(Value.slice none 0 0), (Value.int .i64 4)]) w4)
  (∃ S_225 : Nat → World → Prop,
  S_225 5 w4.drew ∧
  S_225 16 w4.drew ∧
  BND (nilchk L_p0) fun t70_226 =>
  BND (faddr 2 t70_226) fun t71_227 =>
  FLT (S_225 5) (fun w_ => load1 w_ t71_227) fun t72_228 =>
  BND (slicev 2 t72_228 none (some r_8)) fun t74_229 =>
  BND (buildv #[(Value.string ByteArray.empty), (Value.int .u64 0)] [(0, 1, t13_1), (1, 1, (Value.int .u64 0))]) fun t77_230 =>
  BND (nilchk L_p0) fun t81_231 =>
  BND (faddr 2 t81_231) fun t82_232 =>
  FLT (S_225 16) (fun w_ => load1 w_ t82_232) fun t83_233 =>
  BND (slicev 2 t83_233 (some r_8) none) fun t85_234 =>
  JOIN (α := World → Prop) (fun k_242 => (BND (newslice 52 #[(Value.string ByteArray.empty), (Value.int .u64 0)] 2 0 [] w4.drew) fun p_ => NEW p_ fun t68_243 w13 =>
  S_225 5 w13 ∧
  S_225 16 w13 ∧
  APPEND 52 2 24 (Value.agg #[(Value.string ByteArray.empty), (Value.int .u64 0)]) t68_243 t74_229 w13 fun t75_244 w14 =>
  S_225 16 w14 ∧
  BND (newslice 52 #[(Value.string ByteArray.empty), (Value.int .u64 0)] 2 1 [(0, 2, t77_230)] w14) fun p_ => NEW p_ fun t78_245 w15 =>
  S_225 5 w15 ∧
  S_225 16 w15 ∧
  APPEND 52 2 24 (Value.agg #[(Value.string ByteArray.empty), (Value.int .u64 0)]) t75_244 t78_245 w15 fun t79_246 w16 =>
  S_225 16 w16 ∧
  APPEND 52 2 24 (Value.agg #[(Value.string ByteArray.empty), (Value.int .u64 0)]) t79_246 t85_234 w16 fun t86_247 w17 =>
  BND (nilchk L_p0) fun t87_248 =>
  BND (faddr 2 t87_248) fun t88_249 =>
  BND (storev 1 w17 t88_249 t86_247) fun w18 =>
  k_242 w18) ∧
  (BND (newslice 52 #[(Value.string ByteArray.empty), (Value.int .u64 0)] 2 0 [] w4.drew) fun p_ => NEW p_ fun t68_250 w19 =>
  S_225 5 w19 ∧
  S_225 16 w19 ∧
  BND (newslice 52 #[(Value.string ByteArray.empty), (Value.int .u64 0)] 2 1 [(0, 2, t77_230)] w19) fun p_ => NEW p_ fun t78_251 w20 =>
  S_225 5 w20 ∧
  S_225 16 w20 ∧
  APPEND 52 2 24 (Value.agg #[(Value.string ByteArray.empty), (Value.int .u64 0)]) t68_250 t74_229 w20 fun t75_252 w21 =>
  S_225 16 w21 ∧
  APPEND 52 2 24 (Value.agg #[(Value.string ByteArray.empty), (Value.int .u64 0)]) t75_252 t78_251 w21 fun t79_253 w22 =>
  S_225 16 w22 ∧
  APPEND 52 2 24 (Value.agg #[(Value.string ByteArray.empty), (Value.int .u64 0)]) t79_253 t85_234 w22 fun t86_254 w23 =>
  BND (nilchk L_p0) fun t87_255 =>
  BND (faddr 2 t87_255) fun t88_256 =>
  BND (storev 1 w23 t88_256 t86_254) fun w24 =>
  k_242 w24) ∧
  (BND (newslice 52 #[(Value.string ByteArray.empty), (Value.int .u64 0)] 2 1 [(0, 2, t77_230)] w4.drew) fun p_ => NEW p_ fun t78_257 w25 =>
  S_225 5 w25 ∧
  S_225 16 w25 ∧
  BND (newslice 52 #[(Value.string ByteArray.empty), (Value.int .u64 0)] 2 0 [] w25) fun p_ => NEW p_ fun t68_258 w26 =>
  S_225 5 w26 ∧
  S_225 16 w26 ∧
  APPEND 52 2 24 (Value.agg #[(Value.string ByteArray.empty), (Value.int .u64 0)]) t68_258 t74_229 w26 fun t75_259 w27 =>
  S_225 16 w27 ∧
  APPEND 52 2 24 (Value.agg #[(Value.string ByteArray.empty), (Value.int .u64 0)]) t75_259 t78_257 w27 fun t79_260 w28 =>
  S_225 16 w28 ∧
  APPEND 52 2 24 (Value.agg #[(Value.string ByteArray.empty), (Value.int .u64 0)]) t79_260 t85_234 w28 fun t86_261 w29 =>
  BND (nilchk L_p0) fun t87_262 =>
  BND (faddr 2 t87_262) fun t88_263 =>
  BND (storev 1 w29 t88_263 t86_261) fun w30 =>
  k_242 w30))
  (fun w12 => k_219 w12)))
  (k_219 w4))
  (fun w5 => BND (newslice 29 #[(Value.int .u64 0)] 1 0 [] w5) fun p_ => NEW p_ fun t89_93 w6 =>
  BND (nilchk L_p0) fun t91_94 =>
  BND (faddr 2 t91_94) fun t92_95 =>
  BND (load1 w6 t92_95) fun t93_96 =>
  BND (iaddr 2 t93_96 r_8) fun t95_97 =>
  BND (faddr 1 t95_97) fun t96_98 =>
  BND (load1 w6 t96_98) fun t97_99 =>
  ∃ (J_100 : Value → Value → World → Prop) (m_100 : Value → Value → World → Nat), J_100 t89_93 (Value.int .i64 0) w6 ∧ ∀ (_d_100 : Env) (r_101 y_102 : Value) (w7 : World), J_100 r_101 y_102 w7 →
  (BND (nilchk L_p0) fun t100_154 =>
  BND (faddr 0 t100_154) fun t101_155 =>
  BND (load1 w7 t101_155) fun t102_156 =>
  BND (lenl t102_156) fun t103_157 =>
  BND (binv .int .lss y_102 t103_157) fun t104_158 =>
  COND t104_158
  (BND (nilchk L_p0) fun t108_159 =>
  BND (faddr 0 t108_159) fun t109_160 =>
  BND (load1 w7 t109_160) fun t110_161 =>
  BND (iaddr 2 t110_161 y_102) fun t112_162 =>
  BND (faddr 1 t112_162) fun t113_163 =>
  BND (load1 w7 t113_163) fun t114_164 =>
  BND (binv .int .gtr t114_164 t97_99) fun t116_165 =>
  BND (grd (isB t116_165 true) (some r_101)) fun t118_166 =>
  BND (grd (isB t116_165 true) (lenl t118_166)) fun t119_167 =>
  BND (grd (isB t116_165 true) (some s_p2)) fun t120_168 =>
  BND (grd (isB t116_165 true) (binv .int .lss t119_167 t120_168)) fun t121_169 =>
  BND (pickv t116_165 t121_169 (Value.bool false)) fun t122_170 =>
  JOIN (α := Value → World → Prop) (fun k_199 => COND t122_170
  (BND (nilchk L_p0) fun t125_200 =>
  BND (faddr 0 t125_200) fun t126_201 =>
  BND (load1 w7 t126_201) fun t127_202 =>
  BND (iaddr 2 t127_202 y_102) fun t129_203 =>
  BND (faddr 0 t129_203) fun t130_204 =>
  BND (load1 w7 t130_204) fun t131_205 =>
  BND (newslice 29 #[(Value.int .u64 0)] 1 1 [(0, 1, t131_205)] w7) fun p_ => NEW p_ fun t132_206 w9 =>
  APPEND 29 1 8 (Value.int .u64 0) r_101 t132_206 w9 fun t133_207 w10 =>
  BND (nilchk L_p0) fun t135_208 =>
  BND (faddr 2 t135_208) fun t136_209 =>
  BND (nilchk L_p0) fun t140_210 =>
  BND (faddr 0 t140_210) fun t141_211 =>
  BND (load1 w10.drew t136_209) fun t137_212 =>
  BND (load1 w10.drew t141_211) fun t142_213 =>
  BND (iaddr 2 t142_213 y_102) fun t144_214 =>
  BND (faddr 1 t144_214) fun t145_215 =>
  BND (load1 w10.drew t145_215) fun t146_216 =>
  BND (iaddr 2 t137_212 r_8) fun t147_217 =>
  BND (faddr 1 t147_217) fun t148_218 =>
  BND (storev 1 w10.drew t148_218 t146_216) fun w11 =>
  k_199 t133_207 w11)
  (k_199 r_101 w7))
  (fun r_171 w8 => BND (binv .int .add y_102 (Value.int .i64 1)) fun t106_198 =>
  (J_100 r_171 t106_198 w8 ∧ m_100 r_171 t106_198 w8 < m_100 r_101 y_102 w7)))
  (R (.tuple #[r_101, (Value.int .i64 0)]) w7))))))
def ann_tumbrelref10_Dead_Next : List (Nat × List Nat) := [(10, [0, 2, 3, 4, 5, 6, 7, 9, 10, 13, 14, 15, 16, 17, 18]), (18, [0, 1, 2, 4, 5, 6, 7, 9, 3, 8, 10, 11, 12, 13, 14, 15]), (1000005, [8]), (1000014, [9, 11]), (2000010, [5, 16]), (3010001, [5, 16]), (3010008, [16]), (3010011, [5, 16]), (3010012, [16]), (4000010, [1, 8, 11]), (5000010, [1, 8, 11, 12, 19, 20, 21, 22, 9999, 1, 11, 8, 12, 19, 20, 21, 22, 9999, 11, 1, 8, 12, 19, 20, 21, 22])]
theorem E_tumbrelref10_Dead_Next (L_p0 i_p1 s_p2 : Value) (w : World) (R : Value → World → Prop) : M_tumbrelref10_Dead_Next L_p0 i_p1 s_p2 w R = den PR ann_tumbrelref10_Dead_Next (bodyOf Try.f13) (retQ PR Try.f13.results.toList R) (env0 [L_p0, i_p1, s_p2]) w := by kernel_rfl
theorem C_tumbrelref10_Dead_Next {L_p0 i_p1 s_p2 : Value} {w : World} {R : Value → World → Prop} (h : M_tumbrelref10_Dead_Next L_p0 i_p1 s_p2 w R) : CALL PR F_tumbrelref10_Dead_Next [L_p0, i_p1, s_p2] w R :=
  call_of_den2 ann_tumbrelref10_Dead_Next Try.func13 (by kernel_rfl) (by kernel_rfl) (by kernel_rfl) ((E_tumbrelref10_Dead_Next L_p0 i_p1 s_p2 w R) ▸ h)


-- 14 (*tumbrel.tumbrelref10.Dead).Has
def M_tumbrelref10_Dead_Has (d_p0 id_p1 : Value) (w : World) (R : Value → World → Prop) : Prop :=
  ∃ (J_1 : Value → World → Prop) (m_1 : Value → World → Nat), J_1 (Value.int .i64 0) w ∧ ∀ (_d_1 : Env) (i_3 : Value) (w1 : World), J_1 i_3 w1 →
  (BND (nilchk d_p0) fun t8_23 =>
  BND (faddr 0 t8_23) fun t9_24 =>
  BND (load1 w1 t9_24) fun t10_25 =>
  BND (lenl t10_25) fun t11_26 =>
  BND (binv .int .lss i_3 t11_26) fun t12_27 =>
  COND t12_27
  (BND (nilchk d_p0) fun t16_28 =>
  BND (faddr 0 t16_28) fun t17_29 =>
  BND (load1 w1 t17_29) fun t18_30 =>
  BND (iaddr 2 t18_30 i_3) fun t20_31 =>
  BND (faddr 0 t20_31) fun t21_32 =>
  BND (load1 w1 t21_32) fun t22_33 =>
  BND (binv .int .eql t22_33 id_p1) fun t24_34 =>
  COND t24_34
  (R (Value.bool true) w1)
  (BND (binv .int .add i_3 (Value.int .i64 1)) fun t14_35 =>
  (J_1 t14_35 w1 ∧ m_1 t14_35 w1 < m_1 i_3 w1)))
  (R (Value.bool false) w1))
def ann_tumbrelref10_Dead_Has : List (Nat × List Nat) := [(1000002, [5])]
theorem E_tumbrelref10_Dead_Has (d_p0 id_p1 : Value) (w : World) (R : Value → World → Prop) : M_tumbrelref10_Dead_Has d_p0 id_p1 w R = den PR ann_tumbrelref10_Dead_Has (bodyOf Try.f14) (retQ PR Try.f14.results.toList R) (env0 [d_p0, id_p1]) w := by kernel_rfl
theorem C_tumbrelref10_Dead_Has {d_p0 id_p1 : Value} {w : World} {R : Value → World → Prop} (h : M_tumbrelref10_Dead_Has d_p0 id_p1 w R) : CALL PR F_tumbrelref10_Dead_Has [d_p0, id_p1] w R :=
  call_of_den2 ann_tumbrelref10_Dead_Has Try.func14 (by kernel_rfl) (by kernel_rfl) (by kernel_rfl) ((E_tumbrelref10_Dead_Has d_p0 id_p1 w R) ▸ h)


-- 15 tumbrel.tumbrelref02.Same
def M_tumbrelref02_Same (a_p0 b_p1 : Value) (w : World) (R : Value → World → Prop) : Prop :=
  BND (lenl a_p0) fun t7_1 =>
  BND (lenl b_p1) fun t9_2 =>
  BND (binv .int .neq t7_1 t9_2) fun t10_3 =>
  COND t10_3
  (R (Value.bool false) w)
  (∃ (J_4 : Value → World → Prop) (m_4 : Value → World → Nat), J_4 (Value.int .i64 0) w ∧ ∀ (_d_4 : Env) (i_6 : Value) (w1 : World), J_4 i_6 w1 →
  (BND (lenl a_p0) fun t13_22 =>
  BND (binv .int .lss i_6 t13_22) fun t14_23 =>
  COND t14_23
  (BND (iaddr 1 a_p0 i_6) fun t19_24 =>
  BND (iaddr 1 b_p1 i_6) fun t23_25 =>
  BND (load1 w1.drew t19_24) fun t20_26 =>
  BND (load1 w1.drew t23_25) fun t24_27 =>
  BND (binv .int .neq t20_26 t24_27) fun t25_28 =>
  COND t25_28
  (R (Value.bool false) w1.drew)
  (BND (binv .int .add i_6 (Value.int .i64 1)) fun t16_29 =>
  (J_4 t16_29 w1.drew ∧ m_4 t16_29 w1.drew < m_4 i_6 w1)))
  (R (Value.bool true) w1)))
def ann_tumbrelref02_Same : List (Nat × List Nat) := [(6, [0, 1, 2, 4, 5, 6, 3, 7, 8]), (1000004, [5])]
theorem E_tumbrelref02_Same (a_p0 b_p1 : Value) (w : World) (R : Value → World → Prop) : M_tumbrelref02_Same a_p0 b_p1 w R = den PR ann_tumbrelref02_Same (bodyOf Try.f15) (retQ PR Try.f15.results.toList R) (env0 [a_p0, b_p1]) w := by kernel_rfl
theorem C_tumbrelref02_Same {a_p0 b_p1 : Value} {w : World} {R : Value → World → Prop} (h : M_tumbrelref02_Same a_p0 b_p1 w R) : CALL PR F_tumbrelref02_Same [a_p0, b_p1] w R :=
  call_of_den2 ann_tumbrelref02_Same Try.func15 (by kernel_rfl) (by kernel_rfl) (by kernel_rfl) ((E_tumbrelref02_Same a_p0 b_p1 w R) ▸ h)


-- 16 tumbrel.tumbrellaw10.same
def M_tumbrellaw10_same (a_p0 b_p1 : Value) (w : World) (R : Value → World → Prop) : Prop :=
  BND (nilchk a_p0) fun t6_1 =>
  BND (faddr 1 t6_1) fun t7_2 =>
  BND (nilchk b_p1) fun t10_3 =>
  BND (faddr 1 t10_3) fun t11_4 =>
  BND (load1 w.drew t7_2) fun t8_5 =>
  BND (load1 w.drew t11_4) fun t12_6 =>
  BND (binv .int .eql t8_5 t12_6) fun t13_7 =>
  BND (grd (isB t13_7 true) (some a_p0)) fun t15_8 =>
  BND (grd (isB t13_7 true) (nilchk t15_8)) fun t16_9 =>
  BND (grd (isB t13_7 true) (faddr 0 t16_9)) fun t17_10 =>
  BND (grd (isB t13_7 true) (some b_p1)) fun t19_11 =>
  BND (grd (isB t13_7 true) (nilchk t19_11)) fun t20_12 =>
  BND (grd (isB t13_7 true) (faddr 0 t20_12)) fun t21_13 =>
  BND (grd (isB t13_7 true) (load1 w.drew t17_10)) fun t18_14 =>
  BND (grd (isB t13_7 true) (load1 w.drew t21_13)) fun t22_15 =>
  GEF (isB t13_7 true) (fun k_ => CALL PR F_tumbrelref10_Rows [t18_14, t22_15] w.drew k_) w.drew fun t23_16 w1 =>
  BND (pickv t13_7 t23_16 (Value.bool false)) fun t24_17 =>
  BND (grd (isB t24_17 true) (some a_p0)) fun t26_18 =>
  BND (grd (isB t24_17 true) (nilchk t26_18)) fun t27_19 =>
  BND (grd (isB t24_17 true) (faddr 2 t27_19)) fun t28_20 =>
  BND (grd (isB t24_17 true) (some b_p1)) fun t30_21 =>
  BND (grd (isB t24_17 true) (nilchk t30_21)) fun t31_22 =>
  BND (grd (isB t24_17 true) (faddr 2 t31_22)) fun t32_23 =>
  BND (grd (isB t24_17 true) (load1 w1 t28_20)) fun t29_24 =>
  BND (grd (isB t24_17 true) (load1 w1 t32_23)) fun t33_25 =>
  GEF (isB t24_17 true) (fun k_ => CALL PR F_tumbrelref10_Cursors [t29_24, t33_25] w1 k_) w1 fun t34_26 w2 =>
  BND (pickv t24_17 t34_26 (Value.bool false)) fun t35_27 =>
  R t35_27 w2
def ann_tumbrellaw10_same : List (Nat × List Nat) := [(1, [0, 1, 2, 4, 5, 6, 3, 7, 8, 9, 10, 11, 12, 14, 15, 16, 13, 17, 18, 19, 20, 21, 22, 23, 25, 26, 27, 24, 28, 29, 30, 31])]
theorem E_tumbrellaw10_same (a_p0 b_p1 : Value) (w : World) (R : Value → World → Prop) : M_tumbrellaw10_same a_p0 b_p1 w R = den PR ann_tumbrellaw10_same (bodyOf Try.f16) (retQ PR Try.f16.results.toList R) (env0 [a_p0, b_p1]) w := by kernel_rfl
theorem C_tumbrellaw10_same {a_p0 b_p1 : Value} {w : World} {R : Value → World → Prop} (h : M_tumbrellaw10_same a_p0 b_p1 w R) : CALL PR F_tumbrellaw10_same [a_p0, b_p1] w R :=
  call_of_den2 ann_tumbrellaw10_same Try.func16 (by kernel_rfl) (by kernel_rfl) (by kernel_rfl) ((E_tumbrellaw10_same a_p0 b_p1 w R) ▸ h)


-- 17 tumbrel.tumbrellaw10.own
def M_tumbrellaw10_own (d_p0 : Value) (w : World) (R : Value → World → Prop) : Prop :=
  CALL PR F_dead_Dead_Last [d_p0] w fun t9_1 w1 =>
  BND (buildv #[(Value.slice none 0 0), (Value.int .u64 0), (Value.slice none 0 0)] [(1, 1, t9_1)]) fun t10_2 =>
  NEW (newv 32 w1 t10_2) fun t11_3 w2 =>
  CALL PR F_dead_Dead_All [d_p0] w2 fun t13_4 w3 =>
  BND (lenl t13_4) fun t14_5 =>
  ∃ (J_6 : Value → World → Prop) (m_6 : Value → World → Nat), J_6 (Value.int .i64 0) w3 ∧ ∀ (_d_6 : Env) (t15_8 : Value) (w4 : World), J_6 t15_8 w4 →
  (BND (binv .int .lss t15_8 t14_5) fun t16_23 =>
  COND t16_23
  (BND (iaddr 2 t13_4 t15_8) fun t17_24 =>
  BND (loadn 2 w4 t17_24) fun t18_25 =>
  NEW (newv 48 w4 (Value.agg #[(Value.int .u64 0), (Value.int .u64 0)])) fun r_26 w5 =>
  BND (storev 2 w5 r_26 t18_25) fun w6 =>
  ∃ S_27 : Nat → World → Prop,
  S_27 4 w6.drew ∧
  BND (nilchk t11_3) fun t21_28 =>
  BND (faddr 0 t21_28) fun t22_29 =>
  FLT (S_27 4) (fun w_ => load1 w_ t22_29) fun t23_30 =>
  BND (loadn 2 w6.drew r_26) fun t24_31 =>
  BND (newslice 49 #[(Value.int .u64 0), (Value.int .u64 0)] 2 1 [(0, 2, t24_31)] w6.drew) fun p_ => NEW p_ fun t25_32 w7 =>
  S_27 4 w7 ∧
  APPEND 49 2 16 (Value.agg #[(Value.int .u64 0), (Value.int .u64 0)]) t23_30 t25_32 w7 fun t26_33 w8 =>
  BND (nilchk t11_3) fun t27_34 =>
  BND (faddr 0 t27_34) fun t28_35 =>
  BND (storev 1 w8 t28_35 t26_33) fun w9 =>
  BND (binv .int .add t15_8 (Value.int .i64 1)) fun t29_36 =>
  (J_6 t29_36 w9 ∧ m_6 t29_36 w9 < m_6 t15_8 w4))
  (CALL PR F_dead_Dead_Cursors [d_p0] w4 fun t31_37 w10 =>
  BND (lenl t31_37) fun t32_38 =>
  ∃ (J_39 : Value → World → Prop) (m_39 : Value → World → Nat), J_39 (Value.int .i64 0) w10 ∧ ∀ (_d_39 : Env) (t33_41 : Value) (w11 : World), J_39 t33_41 w11 →
  (BND (binv .int .lss t33_41 t32_38) fun t34_56 =>
  COND t34_56
  (BND (iaddr 2 t31_37 t33_41) fun t35_57 =>
  BND (loadn 2 w11 t35_57) fun t36_58 =>
  NEW (newv 51 w11 (Value.agg #[(Value.string ByteArray.empty), (Value.int .u64 0)])) fun c_59 w12 =>
  BND (storev 2 w12 c_59 t36_58) fun w13 =>
  ∃ S_60 : Nat → World → Prop,
  S_60 4 w13.drew ∧
  BND (nilchk t11_3) fun t39_61 =>
  BND (faddr 2 t39_61) fun t40_62 =>
  FLT (S_60 4) (fun w_ => load1 w_ t40_62) fun t41_63 =>
  BND (loadn 2 w13.drew c_59) fun t42_64 =>
  BND (newslice 52 #[(Value.string ByteArray.empty), (Value.int .u64 0)] 2 1 [(0, 2, t42_64)] w13.drew) fun p_ => NEW p_ fun t43_65 w14 =>
  S_60 4 w14 ∧
  APPEND 52 2 24 (Value.agg #[(Value.string ByteArray.empty), (Value.int .u64 0)]) t41_63 t43_65 w14 fun t44_66 w15 =>
  BND (nilchk t11_3) fun t45_67 =>
  BND (faddr 2 t45_67) fun t46_68 =>
  BND (storev 1 w15 t46_68 t44_66) fun w16 =>
  BND (binv .int .add t33_41 (Value.int .i64 1)) fun t47_69 =>
  (J_39 t47_69 w16 ∧ m_39 t47_69 w16 < m_39 t33_41 w11))
  (R t11_3 w11))))
def ann_tumbrellaw10_own : List (Nat × List Nat) := [(5, [0, 1, 2, 3, 4, 5, 6, 7, 8, 9, 10]), (10, [0, 1, 2, 3, 4, 5, 6, 7, 8, 9, 10]), (1000003, [15]), (1000008, [33]), (2000005, [4]), (2000010, [4]), (3005006, [4]), (3010006, [4])]
theorem E_tumbrellaw10_own (d_p0 : Value) (w : World) (R : Value → World → Prop) : M_tumbrellaw10_own d_p0 w R = den PR ann_tumbrellaw10_own (bodyOf Try.f17) (retQ PR Try.f17.results.toList R) (env0 [d_p0]) w := by kernel_rfl
theorem C_tumbrellaw10_own {d_p0 : Value} {w : World} {R : Value → World → Prop} (h : M_tumbrellaw10_own d_p0 w R) : CALL PR F_tumbrellaw10_own [d_p0] w R :=
  call_of_den2 ann_tumbrellaw10_own Try.func17 (by kernel_rfl) (by kernel_rfl) (by kernel_rfl) ((E_tumbrellaw10_own d_p0 w R) ▸ h)


-- 18 tumbrel.dead.From
def M_dead_From (L_p0 i_p1 s_p2 : Value) (w : World) (R : Value → World → Prop) : Prop :=
  CALL PR F_dead_New [] w fun t14_1 w1 =>
  BND (lenl i_p1) fun t16_2 =>
  ∃ (J_3 : Value → World → Prop) (m_3 : Value → World → Nat), J_3 (Value.int .i64 0) w1 ∧ ∀ (_d_3 : Env) (t17_7 : Value) (w2 : World), J_3 t17_7 w2 →
  (BND (binv .int .lss t17_7 t16_2) fun t18_46 =>
  COND t18_46
  (BND (iaddr 2 i_p1 t17_7) fun t19_47 =>
  BND (loadn 2 w2 t19_47) fun t20_48 =>
  NEW (newv 48 w2 (Value.agg #[(Value.int .u64 0), (Value.int .u64 0)])) fun a_49 w3 =>
  BND (storev 2 w3 a_49 t20_48) fun w4 =>
  BND (faddr 1 a_49) fun t21_50 =>
  BND (nilchk t14_1) fun t24_51 =>
  BND (faddr 1 t24_51) fun t25_52 =>
  BND (load1 w4.drew t21_50) fun t22_53 =>
  BND (load1 w4.drew t25_52) fun t26_54 =>
  BND (binv .int .leq t22_53 t26_54) fun t27_55 =>
  BND (grd (isB t27_55 false) (faddr 1 a_49)) fun t29_56 =>
  BND (grd (isB t27_55 false) (some L_p0)) fun t31_57 =>
  BND (grd (isB t27_55 false) (load1 w4.drew t29_56)) fun t30_58 =>
  BND (grd (isB t27_55 false) (binv .int .gtr t30_58 t31_57)) fun t32_59 =>
  BND (pickv t27_55 (Value.bool true) t32_59) fun t33_60 =>
  BND (grd (isB t33_60 false) (some t14_1)) fun t35_61 =>
  BND (grd (isB t33_60 false) (faddr 0 a_49)) fun t36_62 =>
  BND (grd (isB t33_60 false) (load1 w4.drew t36_62)) fun t37_63 =>
  GEF (isB t33_60 false) (fun k_ => CALL PR F_dead_Dead_Has [t35_61, t37_63] w4.drew k_) w4.drew fun t38_64 w5 =>
  BND (pickv t33_60 (Value.bool true) t38_64) fun t39_65 =>
  COND t39_65
  (R (.tuple #[(Value.pointer none), (Value.int .i64 1)]) w5)
  (∃ S_66 : Nat → World → Prop,
  S_66 5 w5.drew ∧
  S_66 10 w5.drew ∧
  BND (nilchk t14_1) fun t43_67 =>
  BND (faddr 0 t43_67) fun t44_68 =>
  FLT (S_66 5) (fun w_ => load1 w_ t44_68) fun t45_69 =>
  BND (faddr 1 a_49) fun t49_70 =>
  FLT (S_66 10) (fun w_ => load1 w_ t49_70) fun t50_71 =>
  BND (loadn 2 w5.drew a_49) fun t46_72 =>
  BND (newslice 48 #[(Value.int .u64 0), (Value.int .u64 0)] 2 1 [(0, 2, t46_72)] w5.drew) fun p_ => NEW p_ fun t47_73 w6 =>
  S_66 5 w6 ∧
  S_66 10 w6 ∧
  APPEND 48 2 16 (Value.agg #[(Value.int .u64 0), (Value.int .u64 0)]) t45_69 t47_73 w6 fun t48_74 w7 =>
  S_66 10 w7 ∧
  BND (nilchk t14_1) fun t51_75 =>
  BND (faddr 0 t51_75) fun t52_76 =>
  BND (storev 1 w7 t52_76 t48_74) fun w8 =>
  S_66 10 w8 ∧
  BND (nilchk t14_1) fun t53_77 =>
  BND (faddr 1 t53_77) fun t54_78 =>
  BND (storev 1 w8 t54_78 t50_71) fun w9 =>
  BND (binv .int .add t17_7 (Value.int .i64 1)) fun t55_79 =>
  (J_3 t55_79 w9 ∧ m_3 t55_79 w9 < m_3 t17_7 w2)))
  (BND (nilchk t14_1) fun t58_80 =>
  BND (faddr 1 t58_80) fun t59_81 =>
  BND (storev 1 w2 t59_81 L_p0) fun w10 =>
  BND (lenl s_p2) fun t61_82 =>
  ∃ (J_83 : Value → Value → World → Prop) (m_83 : Value → Value → World → Nat), J_83 (Value.string { data := #[] }) (Value.int .i64 0) w10 ∧ ∀ (_d_83 : Env) (y_86 t62_89 : Value) (w11 : World), J_83 y_86 t62_89 w11 →
  (BND (binv .int .lss t62_89 t61_82) fun t63_136 =>
  COND t63_136
  (BND (iaddr 2 s_p2 t62_89) fun t65_137 =>
  BND (loadn 2 w11 t65_137) fun t66_138 =>
  NEW (newv 51 w11 (Value.agg #[(Value.string ByteArray.empty), (Value.int .u64 0)])) fun t13_139 w12 =>
  BND (storev 2 w12 t13_139 t66_138) fun w13 =>
  ∃ S_140 : Nat → World → Prop,
  S_140 13 w13.drew ∧
  BND (binv .int .eql t62_89 (Value.int .i64 8)) fun t68_141 =>
  BND (grd (isB t68_141 false) (faddr 0 t13_139)) fun t70_142 =>
  BND (grd (isB t68_141 false) (load1 w13.drew t70_142)) fun t71_143 =>
  GEF (isB t68_141 false) (fun k_ => CALL PR F_label_Right [t71_143] w13.drew k_) w13.drew fun t72_144 w14 =>
  S_140 13 w14 ∧
  BND (grd (isB t68_141 false) (unv .not t72_144)) fun t73_145 =>
  BND (pickv t68_141 (Value.bool true) t73_145) fun t74_146 =>
  BND (grd (isB t74_146 false) (faddr 0 t13_139)) fun t76_147 =>
  BND (grd (isB t74_146 false) (faddr 0 t13_139)) fun t79_148 =>
  FLT (S_140 13) (fun w_ => (grd (isB t74_146 false) (load1 w_ t79_148))) fun t80_149 =>
  BND (grd (isB t74_146 false) (load1 w14 t76_147)) fun t77_150 =>
  GEF (isB t74_146 false) (fun k_ => CALL PR F_label_Fold [t77_150] w14 k_) w14 fun t78_151 w15 =>
  S_140 13 w15 ∧
  BND (grd (isB t74_146 false) (binv .str .neq t78_151 t80_149)) fun t81_152 =>
  BND (pickv t74_146 (Value.bool true) t81_152) fun t82_153 =>
  BND (grd (isB t82_153 false) (some y_86)) fun t84_154 =>
  BND (grd (isB t82_153 false) (faddr 0 t13_139)) fun t85_155 =>
  BND (grd (isB t82_153 false) (load1 w15 t85_155)) fun t86_156 =>
  GEF (isB t82_153 false) (fun k_ => CALL PR F_label_Less [t84_154, t86_156] w15 k_) w15 fun t87_157 w16 =>
  BND (grd (isB t82_153 false) (unv .not t87_157)) fun t88_158 =>
  BND (pickv t82_153 (Value.bool true) t88_158) fun t89_159 =>
  BND (grd (isB t89_159 false) (faddr 1 t13_139)) fun t91_160 =>
  BND (grd (isB t89_159 false) (some L_p0)) fun t93_161 =>
  BND (grd (isB t89_159 false) (load1 w16 t91_160)) fun t92_162 =>
  BND (grd (isB t89_159 false) (binv .int .gtr t92_162 t93_161)) fun t94_163 =>
  BND (pickv t89_159 (Value.bool true) t94_163) fun t95_164 =>
  COND t95_164
  (R (.tuple #[(Value.pointer none), (Value.int .i64 1)]) w16)
  (∃ S_165 : Nat → World → Prop,
  S_165 9 w16.drew ∧
  BND (nilchk t14_1) fun t97_166 =>
  BND (faddr 2 t97_166) fun t98_167 =>
  BND (faddr 0 t13_139) fun t100_168 =>
  BND (faddr 0 t13_139) fun t102_169 =>
  BND (faddr 1 t13_139) fun t104_170 =>
  FLT (S_165 9) (fun w_ => load1 w_ t104_170) fun t105_171 =>
  BND (load1 w16.drew t98_167) fun t99_172 =>
  BND (load1 w16.drew t100_168) fun t101_173 =>
  BND (load1 w16.drew t102_169) fun t103_174 =>
  BND (mentry .string (Value.int .u64 0) w16.drew t99_172 t101_173) fun p_ => NEW p_ fun t106_175 w17 =>
  S_165 9 w17 ∧
  BND (extractv t106_175 1) fun t107_176 =>
  BND (mestore w17 t99_172 t107_176 t105_171) fun w18 =>
  BND (binv .int .add t62_89 (Value.int .i64 1)) fun t108_177 =>
  (J_83 t103_174 t108_177 w18 ∧ m_83 t103_174 t108_177 w18 < m_83 y_86 t62_89 w11)))
  (R (.tuple #[t14_1, (Value.int .i64 0)]) w11))))
def ann_dead_From : List (Nat × List Nat) := [(5, [0, 2, 3, 4, 1, 5, 6, 7, 8, 10, 9, 11, 12, 13, 14, 15, 16, 17, 18]), (7, [0, 1, 2, 3, 4, 5, 9, 10, 6, 7, 8, 11, 12, 13, 14, 15, 16]), (14, [0, 1, 2, 3, 4, 5, 6, 7, 8, 9, 12, 13, 10, 11, 14, 15, 16, 17, 18, 19, 20, 21, 22, 23, 24, 26, 25, 27, 28]), (16, [0, 1, 2, 4, 6, 8, 9, 3, 5, 7, 10, 11, 12, 13]), (1000003, [17]), (1000012, [11, 62]), (2000007, [5, 10]), (2000014, [13]), (2000016, [9]), (3007007, [5, 10]), (3007008, [10]), (3007013, [10]), (3014005, [13]), (3014011, [13]), (3016011, [9])]
theorem E_dead_From (L_p0 i_p1 s_p2 : Value) (w : World) (R : Value → World → Prop) : M_dead_From L_p0 i_p1 s_p2 w R = den PR ann_dead_From (bodyOf Try.f18) (retQ PR Try.f18.results.toList R) (env0 [L_p0, i_p1, s_p2]) w := by kernel_rfl
theorem C_dead_From {L_p0 i_p1 s_p2 : Value} {w : World} {R : Value → World → Prop} (h : M_dead_From L_p0 i_p1 s_p2 w R) : CALL PR F_dead_From [L_p0, i_p1, s_p2] w R :=
  call_of_den2 ann_dead_From Try.func18 (by kernel_rfl) (by kernel_rfl) (by kernel_rfl) ((E_dead_From L_p0 i_p1 s_p2 w R) ▸ h)


-- 19 tumbrel.tumbrelref10.From
def M_tumbrelref10_From (L_p0 i_p1 s_p2 : Value) (w : World) (R : Value → World → Prop) : Prop :=
  ∃ (J_1 : Value → World → Prop) (m_1 : Value → World → Nat), J_1 (Value.int .i64 0) w ∧ ∀ (_d_1 : Env) (r_4 : Value) (w1 : World), J_1 r_4 w1 →
  (BND (lenl i_p1) fun t14_61 =>
  BND (binv .int .lss r_4 t14_61) fun t15_62 =>
  COND t15_62
  (BND (iaddr 2 i_p1 r_4) fun t20_63 =>
  BND (faddr 1 t20_63) fun t21_64 =>
  BND (load1 w1.drew t21_64) fun t22_65 =>
  BND (binv .int .lss t22_65 (Value.int .u64 1)) fun t23_66 =>
  BND (grd (isB t23_66 false) (some i_p1)) fun t25_67 =>
  BND (grd (isB t23_66 false) (some r_4)) fun t26_68 =>
  BND (grd (isB t23_66 false) (iaddr 2 t25_67 t26_68)) fun t27_69 =>
  BND (grd (isB t23_66 false) (faddr 1 t27_69)) fun t28_70 =>
  BND (grd (isB t23_66 false) (some L_p0)) fun t30_71 =>
  BND (grd (isB t23_66 false) (load1 w1.drew t28_70)) fun t29_72 =>
  BND (grd (isB t23_66 false) (binv .int .gtr t29_72 t30_71)) fun t31_73 =>
  BND (pickv t23_66 (Value.bool true) t31_73) fun t32_74 =>
  BND (grd (isB t32_74 false) (some r_4)) fun t34_75 =>
  BND (grd (isB t32_74 false) (binv .int .gtr t34_75 (Value.int .i64 0))) fun t35_76 =>
  BND (grd (isB t32_74 false) (some t35_76)) fun t36_77 =>
  BND (grd (isB t36_77 true) (some i_p1)) fun t37_78 =>
  BND (grd (isB t36_77 true) (some r_4)) fun t38_79 =>
  BND (grd (isB t36_77 true) (iaddr 2 t37_78 t38_79)) fun t39_80 =>
  BND (grd (isB t36_77 true) (faddr 1 t39_80)) fun t40_81 =>
  BND (grd (isB t36_77 true) (some i_p1)) fun t42_82 =>
  BND (grd (isB t36_77 true) (some r_4)) fun t43_83 =>
  BND (grd (isB t36_77 true) (binv .int .sub t43_83 (Value.int .i64 1))) fun t44_84 =>
  BND (grd (isB t36_77 true) (iaddr 2 t42_82 t44_84)) fun t45_85 =>
  BND (grd (isB t36_77 true) (faddr 1 t45_85)) fun t46_86 =>
  BND (grd (isB t36_77 true) (load1 w1.drew t40_81)) fun t41_87 =>
  BND (grd (isB t36_77 true) (load1 w1.drew t46_86)) fun t47_88 =>
  BND (grd (isB t36_77 true) (binv .int .leq t41_87 t47_88)) fun t48_89 =>
  BND (grd (isB t32_74 false) (pickv t36_77 t48_89 (Value.bool false))) fun t49_90 =>
  BND (pickv t32_74 (Value.bool true) t49_90) fun t50_91 =>
  COND t50_91
  (R (.tuple #[(Value.pointer none), (Value.int .i64 1)]) w1.drew)
  (∃ (J_92 : Value → World → Prop) (m_92 : Value → World → Nat), J_92 (Value.int .i64 0) w1.drew ∧ ∀ (_d_92 : Env) (r_95 : Value) (w2 : World), J_92 r_95 w2 →
  (BND (binv .int .lss r_95 r_4) fun t53_112 =>
  COND t53_112
  (BND (iaddr 2 i_p1 r_95) fun t58_113 =>
  BND (faddr 0 t58_113) fun t59_114 =>
  BND (iaddr 2 i_p1 r_4) fun t63_115 =>
  BND (faddr 0 t63_115) fun t64_116 =>
  BND (load1 w2.drew t59_114) fun t60_117 =>
  BND (load1 w2.drew t64_116) fun t65_118 =>
  BND (binv .int .eql t60_117 t65_118) fun t66_119 =>
  COND t66_119
  (R (.tuple #[(Value.pointer none), (Value.int .i64 1)]) w2.drew)
  (BND (binv .int .add r_95 (Value.int .i64 1)) fun t55_120 =>
  (J_92 t55_120 w2.drew ∧ m_92 t55_120 w2.drew < m_92 r_95 w2)))
  (BND (binv .int .add r_4 (Value.int .i64 1)) fun t17_121 =>
  (J_1 t17_121 w2 ∧ m_1 t17_121 w2 < m_1 r_4 w1)))))
  (BND (lenl s_p2) fun t68_122 =>
  BND (binv .int .gtr t68_122 (Value.int .i64 8)) fun t69_123 =>
  COND t69_123
  (R (.tuple #[(Value.pointer none), (Value.int .i64 1)]) w1)
  (∃ (J_124 : Value → World → Prop) (m_124 : Value → World → Nat), J_124 (Value.int .i64 0) w1 ∧ ∀ (_d_124 : Env) (a_127 : Value) (w3 : World), J_124 a_127 w3 →
  (BND (lenl s_p2) fun t72_173 =>
  BND (binv .int .lss a_127 t72_173) fun t73_174 =>
  COND t73_174
  (BND (iaddr 2 s_p2 a_127) fun t78_175 =>
  BND (loadn 2 w3 t78_175) fun t79_176 =>
  NEW (newv 52 w3 (Value.agg #[(Value.string ByteArray.empty), (Value.int .u64 0)])) fun y_177 w4 =>
  BND (storev 2 w4 y_177 t79_176) fun w5 =>
  ∃ S_178 : Nat → World → Prop,
  S_178 9 w5.drew ∧
  BND (faddr 0 y_177) fun t80_179 =>
  BND (load1 w5.drew t80_179) fun t81_180 =>
  CALL PR F_tumbrelref03_Right [t81_180] w5.drew fun t82_181 w6 =>
  S_178 9 w6 ∧
  BND (unv .not t82_181) fun t83_182 =>
  BND (grd (isB t83_182 false) (faddr 0 y_177)) fun t85_183 =>
  BND (grd (isB t83_182 false) (faddr 0 y_177)) fun t88_184 =>
  FLT (S_178 9) (fun w_ => (grd (isB t83_182 false) (load1 w_ t88_184))) fun t89_185 =>
  BND (grd (isB t83_182 false) (load1 w6 t85_183)) fun t86_186 =>
  GEF (isB t83_182 false) (fun k_ => CALL PR F_tumbrelref03_Fold [t86_186] w6 k_) w6 fun t87_187 w7 =>
  S_178 9 w7 ∧
  BND (grd (isB t83_182 false) (binv .str .neq t87_187 t89_185)) fun t90_188 =>
  BND (pickv t83_182 (Value.bool true) t90_188) fun t91_189 =>
  BND (grd (isB t91_189 false) (faddr 1 y_177)) fun t93_190 =>
  BND (grd (isB t91_189 false) (some L_p0)) fun t95_191 =>
  BND (grd (isB t91_189 false) (load1 w7 t93_190)) fun t94_192 =>
  BND (grd (isB t91_189 false) (binv .int .gtr t94_192 t95_191)) fun t96_193 =>
  BND (pickv t91_189 (Value.bool true) t96_193) fun t97_194 =>
  BND (grd (isB t97_194 false) (some a_127)) fun t99_195 =>
  BND (grd (isB t97_194 false) (binv .int .gtr t99_195 (Value.int .i64 0))) fun t100_196 =>
  BND (grd (isB t97_194 false) (some t100_196)) fun t101_197 =>
  BND (grd (isB t101_197 true) (some s_p2)) fun t102_198 =>
  BND (grd (isB t101_197 true) (some a_127)) fun t103_199 =>
  BND (grd (isB t101_197 true) (binv .int .sub t103_199 (Value.int .i64 1))) fun t104_200 =>
  BND (grd (isB t101_197 true) (iaddr 2 t102_198 t104_200)) fun t105_201 =>
  BND (grd (isB t101_197 true) (faddr 0 t105_201)) fun t106_202 =>
  BND (grd (isB t101_197 true) (faddr 0 y_177)) fun t108_203 =>
  BND (grd (isB t101_197 true) (load1 w7 t106_202)) fun t107_204 =>
  BND (grd (isB t101_197 true) (load1 w7 t108_203)) fun t109_205 =>
  GEF (isB t101_197 true) (fun k_ => CALL PR F_tumbrelref03_Less [t107_204, t109_205] w7 k_) w7 fun t110_206 w8 =>
  BND (grd (isB t101_197 true) (unv .not t110_206)) fun t111_207 =>
  BND (grd (isB t97_194 false) (pickv t101_197 t111_207 (Value.bool false))) fun t112_208 =>
  BND (pickv t97_194 (Value.bool true) t112_208) fun t113_209 =>
  COND t113_209
  (R (.tuple #[(Value.pointer none), (Value.int .i64 1)]) w8)
  (BND (binv .int .add a_127 (Value.int .i64 1)) fun t75_210 =>
  (J_124 t75_210 w8 ∧ m_124 t75_210 w8 < m_124 a_127 w3)))
  (BND (newslice 49 #[(Value.int .u64 0), (Value.int .u64 0)] 2 0 [] w3) fun p_ => NEW p_ fun t114_211 w9 =>
  APPEND 49 2 16 (Value.agg #[(Value.int .u64 0), (Value.int .u64 0)]) t114_211 i_p1 w9 fun t116_212 w10 =>
  BND (newslice 52 #[(Value.string ByteArray.empty), (Value.int .u64 0)] 2 0 [] w10) fun p_ => NEW p_ fun t118_213 w11 =>
  APPEND 52 2 24 (Value.agg #[(Value.string ByteArray.empty), (Value.int .u64 0)]) t118_213 s_p2 w11 fun t120_214 w12 =>
  BND (buildv #[(Value.slice none 0 0), (Value.int .u64 0), (Value.slice none 0 0)] [(0, 1, t116_212), (1, 1, L_p0), (2, 1, t120_214)]) fun t121_215 =>
  NEW (newv 32 w12 t121_215) fun t122_216 w13 =>
  R (.tuple #[t122_216, (Value.int .i64 0)]) w13)))))
def ann_tumbrelref10_From : List (Nat × List Nat) := [(4, [0, 1, 2, 3, 4, 5, 6, 7, 8, 9, 10, 12, 11, 13, 14, 15, 16, 17, 18, 19, 20, 21, 22, 24, 25, 26, 27, 28, 23, 29, 30, 31, 32]), (9, [0, 1, 2, 3, 5, 6, 7, 8, 4, 9, 10]), (17, [0, 1, 2, 3, 4, 5, 8, 9, 6, 7, 10, 11, 12, 13, 15, 14, 16, 17, 18, 19, 20, 21, 22, 23, 24, 25, 26, 28, 27, 29, 30, 31, 32, 33]), (1000002, [8]), (1000007, [9]), (1000014, [10]), (2000017, [9]), (3017002, [9]), (3017007, [9])]
theorem E_tumbrelref10_From (L_p0 i_p1 s_p2 : Value) (w : World) (R : Value → World → Prop) : M_tumbrelref10_From L_p0 i_p1 s_p2 w R = den PR ann_tumbrelref10_From (bodyOf Try.f19) (retQ PR Try.f19.results.toList R) (env0 [L_p0, i_p1, s_p2]) w := by kernel_rfl
theorem C_tumbrelref10_From {L_p0 i_p1 s_p2 : Value} {w : World} {R : Value → World → Prop} (h : M_tumbrelref10_From L_p0 i_p1 s_p2 w R) : CALL PR F_tumbrelref10_From [L_p0, i_p1, s_p2] w R :=
  call_of_den2 ann_tumbrelref10_From Try.func19 (by kernel_rfl) (by kernel_rfl) (by kernel_rfl) ((E_tumbrelref10_From L_p0 i_p1 s_p2 w R) ▸ h)


-- 20 (*tumbrel.dead.Dead).Last
def M_dead_Dead_Last (d_p0 : Value) (w : World) (R : Value → World → Prop) : Prop :=
  BND (nilchk d_p0) fun t4_1 =>
  BND (faddr 1 t4_1) fun t5_2 =>
  BND (load1 w t5_2) fun t6_3 =>
  R t6_3 w
def ann_dead_Dead_Last : List (Nat × List Nat) := []
theorem E_dead_Dead_Last (d_p0 : Value) (w : World) (R : Value → World → Prop) : M_dead_Dead_Last d_p0 w R = den PR ann_dead_Dead_Last (bodyOf Try.f20) (retQ PR Try.f20.results.toList R) (env0 [d_p0]) w := by kernel_rfl
theorem C_dead_Dead_Last {d_p0 : Value} {w : World} {R : Value → World → Prop} (h : M_dead_Dead_Last d_p0 w R) : CALL PR F_dead_Dead_Last [d_p0] w R :=
  call_of_den2 ann_dead_Dead_Last Try.func20 (by kernel_rfl) (by kernel_rfl) (by kernel_rfl) ((E_dead_Dead_Last d_p0 w R) ▸ h)


-- 21 (*tumbrel.dead.Dead).All
def M_dead_Dead_All (d_p0 : Value) (w : World) (R : Value → World → Prop) : Prop :=
  BND (nilchk d_p0) fun t4_1 =>
  BND (faddr 0 t4_1) fun t5_2 =>
  BND (load1 w t5_2) fun t6_3 =>
  CALL PR F_slices_Clone_dead_Row_dead_Row [t6_3] w fun t7_4 w1 =>
  R t7_4 w1
def ann_dead_Dead_All : List (Nat × List Nat) := []
theorem E_dead_Dead_All (d_p0 : Value) (w : World) (R : Value → World → Prop) : M_dead_Dead_All d_p0 w R = den PR ann_dead_Dead_All (bodyOf Try.f21) (retQ PR Try.f21.results.toList R) (env0 [d_p0]) w := by kernel_rfl
theorem C_dead_Dead_All {d_p0 : Value} {w : World} {R : Value → World → Prop} (h : M_dead_Dead_All d_p0 w R) : CALL PR F_dead_Dead_All [d_p0] w R :=
  call_of_den2 ann_dead_Dead_All Try.func21 (by kernel_rfl) (by kernel_rfl) (by kernel_rfl) ((E_dead_Dead_All d_p0 w R) ▸ h)


-- 22 (*tumbrel.dead.Dead).Cursors
def M_dead_Dead_Cursors (d_p0 : Value) (w : World) (R : Value → World → Prop) : Prop :=
  BND (nilchk d_p0) fun t8_1 =>
  BND (faddr 2 t8_1) fun t9_2 =>
  BND (load1 w t9_2) fun t10_3 =>
  CALL PR F_maps_Keys_map_stringuint64_string_uint64 [t10_3] w fun t11_4 w1 =>
  CALL PR F_slices_SortedFunc_string [t11_4, (Value.func (.func F_dead_Dead_Cursors_1) #[] #[])] w1 fun t12_5 w2 =>
  BND (lenl t12_5) fun t14_6 =>
  ∃ (J_7 : Value → Value → World → Prop) (m_7 : Value → Value → World → Nat), J_7 (Value.slice none 0 0) (Value.int .i64 0) w2 ∧ ∀ (_d_7 : Env) (out_8 t15_10 : Value) (w3 : World), J_7 out_8 t15_10 w3 →
  (BND (binv .int .lss t15_10 t14_6) fun t16_26 =>
  COND t16_26
  (BND (iaddr 1 t12_5 t15_10) fun t17_27 =>
  BND (load1 w3 t17_27) fun t18_28 =>
  BND (nilchk d_p0) fun t22_29 =>
  BND (faddr 2 t22_29) fun t23_30 =>
  BND (load1 w3 t23_30) fun t24_31 =>
  BND (lookv .string (Value.int .u64 0) false w3 t24_31 t18_28) fun t26_32 =>
  BND (buildv #[(Value.string ByteArray.empty), (Value.int .u64 0)] [(0, 1, t18_28), (1, 1, t26_32)]) fun t27_33 =>
  BND (newslice 51 #[(Value.string ByteArray.empty), (Value.int .u64 0)] 2 1 [(0, 2, t27_33)] w3) fun p_ => NEW p_ fun t28_34 w4 =>
  APPEND 51 2 24 (Value.agg #[(Value.string ByteArray.empty), (Value.int .u64 0)]) out_8 t28_34 w4 fun t29_35 w5 =>
  BND (binv .int .add t15_10 (Value.int .i64 1)) fun t30_36 =>
  (J_7 t29_35 t30_36 w5 ∧ m_7 t29_35 t30_36 w5 < m_7 out_8 t15_10 w3))
  (R out_8 w3))
def ann_dead_Dead_Cursors : List (Nat × List Nat) := [(1000004, [4, 15])]
theorem E_dead_Dead_Cursors (d_p0 : Value) (w : World) (R : Value → World → Prop) : M_dead_Dead_Cursors d_p0 w R = den PR ann_dead_Dead_Cursors (bodyOf Try.f22) (retQ PR Try.f22.results.toList R) (env0 [d_p0]) w := by kernel_rfl
theorem C_dead_Dead_Cursors {d_p0 : Value} {w : World} {R : Value → World → Prop} (h : M_dead_Dead_Cursors d_p0 w R) : CALL PR F_dead_Dead_Cursors [d_p0] w R :=
  call_of_den2 ann_dead_Dead_Cursors Try.func22 (by kernel_rfl) (by kernel_rfl) (by kernel_rfl) ((E_dead_Dead_Cursors d_p0 w R) ▸ h)


-- 23 tumbrel.tumbrelref03.Right
def M_tumbrelref03_Right (L_p0 : Value) (w : World) (R : Value → World → Prop) : Prop :=
  RUNES 21 L_p0 w fun r_1 w1 =>
  ∃ (J_2 : Value → World → Prop) (m_2 : Value → World → Nat), J_2 (Value.int .i64 0) w1 ∧ ∀ (_d_2 : Env) (t4_4 : Value) (w2 : World), J_2 t4_4 w2 →
  (BND (lenl r_1) fun t12_60 =>
  BND (binv .int .lss t4_4 t12_60) fun t13_61 =>
  COND t13_61
  (BND (iaddr 1 r_1 t4_4) fun t18_62 =>
  BND (load1 w2 t18_62) fun t19_63 =>
  BND (binv .int .geq t19_63 (Value.int .i32 97)) fun t20_64 =>
  BND (grd (isB t20_64 true) (some r_1)) fun t22_65 =>
  BND (grd (isB t20_64 true) (some t4_4)) fun t23_66 =>
  BND (grd (isB t20_64 true) (iaddr 1 t22_65 t23_66)) fun t24_67 =>
  BND (grd (isB t20_64 true) (load1 w2 t24_67)) fun t25_68 =>
  BND (grd (isB t20_64 true) (binv .int .leq t25_68 (Value.int .i32 122))) fun t26_69 =>
  BND (pickv t20_64 t26_69 (Value.bool false)) fun t27_70 =>
  BND (iaddr 1 r_1 t4_4) fun t30_71 =>
  BND (load1 w2 t30_71) fun t31_72 =>
  BND (binv .int .geq t31_72 (Value.int .i32 48)) fun t32_73 =>
  BND (grd (isB t32_73 true) (some r_1)) fun t34_74 =>
  BND (grd (isB t32_73 true) (some t4_4)) fun t35_75 =>
  BND (grd (isB t32_73 true) (iaddr 1 t34_74 t35_75)) fun t36_76 =>
  BND (grd (isB t32_73 true) (load1 w2 t36_76)) fun t37_77 =>
  BND (grd (isB t32_73 true) (binv .int .leq t37_77 (Value.int .i32 57))) fun t38_78 =>
  BND (pickv t32_73 t38_78 (Value.bool false)) fun t39_79 =>
  BND (iaddr 1 r_1 t4_4) fun t42_80 =>
  BND (load1 w2 t42_80) fun t43_81 =>
  BND (binv .int .geq t43_81 (Value.int .i32 945)) fun t44_82 =>
  BND (grd (isB t44_82 true) (some r_1)) fun t46_83 =>
  BND (grd (isB t44_82 true) (some t4_4)) fun t47_84 =>
  BND (grd (isB t44_82 true) (iaddr 1 t46_83 t47_84)) fun t48_85 =>
  BND (grd (isB t44_82 true) (load1 w2 t48_85)) fun t49_86 =>
  BND (grd (isB t44_82 true) (binv .int .leq t49_86 (Value.int .i32 969))) fun t50_87 =>
  BND (pickv t44_82 t50_87 (Value.bool false)) fun t51_88 =>
  BND (unv .not t27_70) fun t53_89 =>
  BND (grd (isB t53_89 true) (some t39_79)) fun t55_90 =>
  BND (grd (isB t53_89 true) (unv .not t55_90)) fun t56_91 =>
  BND (pickv t53_89 t56_91 (Value.bool false)) fun t57_92 =>
  BND (grd (isB t57_92 true) (some t51_88)) fun t59_93 =>
  BND (grd (isB t57_92 true) (unv .not t59_93)) fun t60_94 =>
  BND (pickv t57_92 t60_94 (Value.bool false)) fun t61_95 =>
  COND t61_95
  (R (Value.bool false) w2)
  (BND (binv .int .add t4_4 (Value.int .i64 1)) fun t15_96 =>
  (J_2 t15_96 w2 ∧ m_2 t15_96 w2 < m_2 t4_4 w2)))
  (BND (lenl r_1) fun t63_97 =>
  BND (binv .int .geq t63_97 (Value.int .i64 1)) fun t64_98 =>
  BND (grd (isB t64_98 true) (some r_1)) fun t66_99 =>
  BND (grd (isB t64_98 true) (lenl t66_99)) fun t67_100 =>
  BND (grd (isB t64_98 true) (binv .int .leq t67_100 (Value.int .i64 8))) fun t68_101 =>
  BND (pickv t64_98 t68_101 (Value.bool false)) fun t69_102 =>
  R t69_102 w2))
def ann_tumbrelref03_Right : List (Nat × List Nat) := [(1000003, [4])]
theorem E_tumbrelref03_Right (L_p0 : Value) (w : World) (R : Value → World → Prop) : M_tumbrelref03_Right L_p0 w R = den PR ann_tumbrelref03_Right (bodyOf Try.f23) (retQ PR Try.f23.results.toList R) (env0 [L_p0]) w := by kernel_rfl
theorem C_tumbrelref03_Right {L_p0 : Value} {w : World} {R : Value → World → Prop} (h : M_tumbrelref03_Right L_p0 w R) : CALL PR F_tumbrelref03_Right [L_p0] w R :=
  call_of_den2 ann_tumbrelref03_Right Try.func23 (by kernel_rfl) (by kernel_rfl) (by kernel_rfl) ((E_tumbrelref03_Right L_p0 w R) ▸ h)


-- 24 tumbrel.tumbrelref03.Fold
def M_tumbrelref03_Fold (s_p0 : Value) (w : World) (R : Value → World → Prop) : Prop :=
  RUNES 21 s_p0 w fun t6_1 w1 =>
  ∃ (J_2 : Value → World → Prop) (m_2 : Value → World → Nat), J_2 (Value.int .i64 0) w1 ∧ ∀ (_d_2 : Env) (i_3 : Value) (w2 : World), J_2 i_3 w2 →
  (BND (lenl t6_1) fun t9_59 =>
  BND (binv .int .lss i_3 t9_59) fun t10_60 =>
  COND t10_60
  (BND (iaddr 1 t6_1 i_3) fun t15_61 =>
  BND (load1 w2 t15_61) fun t16_62 =>
  BND (binv .int .geq t16_62 (Value.int .i32 65)) fun t17_63 =>
  BND (grd (isB t17_63 true) (some t6_1)) fun t19_64 =>
  BND (grd (isB t17_63 true) (some i_3)) fun t20_65 =>
  BND (grd (isB t17_63 true) (iaddr 1 t19_64 t20_65)) fun t21_66 =>
  BND (grd (isB t17_63 true) (load1 w2 t21_66)) fun t22_67 =>
  BND (grd (isB t17_63 true) (binv .int .leq t22_67 (Value.int .i32 90))) fun t23_68 =>
  BND (pickv t17_63 t23_68 (Value.bool false)) fun t24_69 =>
  BND (grd (isB t24_69 false) (some t6_1)) fun t26_70 =>
  BND (grd (isB t24_69 false) (some i_3)) fun t27_71 =>
  BND (grd (isB t24_69 false) (iaddr 1 t26_70 t27_71)) fun t28_72 =>
  BND (grd (isB t24_69 false) (load1 w2 t28_72)) fun t29_73 =>
  BND (grd (isB t24_69 false) (binv .int .geq t29_73 (Value.int .i32 913))) fun t30_74 =>
  BND (grd (isB t24_69 false) (some t30_74)) fun t31_75 =>
  BND (grd (isB t31_75 true) (some t6_1)) fun t32_76 =>
  BND (grd (isB t31_75 true) (some i_3)) fun t33_77 =>
  BND (grd (isB t31_75 true) (iaddr 1 t32_76 t33_77)) fun t34_78 =>
  BND (grd (isB t31_75 true) (load1 w2 t34_78)) fun t35_79 =>
  BND (grd (isB t31_75 true) (binv .int .leq t35_79 (Value.int .i32 937))) fun t36_80 =>
  BND (grd (isB t24_69 false) (pickv t31_75 t36_80 (Value.bool false))) fun t37_81 =>
  BND (grd (isB t24_69 false) (some t37_81)) fun t38_82 =>
  BND (grd (isB t38_82 true) (some t6_1)) fun t39_83 =>
  BND (grd (isB t38_82 true) (some i_3)) fun t40_84 =>
  BND (grd (isB t38_82 true) (iaddr 1 t39_83 t40_84)) fun t41_85 =>
  BND (grd (isB t38_82 true) (load1 w2 t41_85)) fun t42_86 =>
  BND (grd (isB t38_82 true) (binv .int .neq t42_86 (Value.int .i32 930))) fun t43_87 =>
  BND (grd (isB t24_69 false) (pickv t38_82 t43_87 (Value.bool false))) fun t44_88 =>
  BND (pickv t24_69 (Value.bool true) t44_88) fun t45_89 =>
  JOIN (α := World → Prop) (fun k_107 => COND t45_89
  (BND (iaddr 1 t6_1 i_3) fun t50_108 =>
  BND (load1 w2 t50_108) fun t51_109 =>
  BND (binv .int .add t51_109 (Value.int .i32 32)) fun t52_110 =>
  BND (iaddr 1 t6_1 i_3) fun t53_111 =>
  BND (storev 1 w2 t53_111 t52_110) fun w4 =>
  k_107 w4)
  (BND (iaddr 1 t6_1 i_3) fun t56_112 =>
  BND (load1 w2 t56_112) fun t57_113 =>
  BND (binv .int .eql t57_113 (Value.int .i32 962)) fun t58_114 =>
  JOIN (α := World → Prop) (fun k_118 => COND t58_114
  (BND (iaddr 1 t6_1 i_3) fun t61_119 =>
  BND (storev 1 w2 t61_119 (Value.int .i32 963)) fun w6 =>
  k_118 w6)
  (k_118 w2))
  (fun w5 => k_107 w5)))
  (fun w3 => BND (binv .int .add i_3 (Value.int .i64 1)) fun t12_106 =>
  (J_2 t12_106 w3 ∧ m_2 t12_106 w3 < m_2 i_3 w2)))
  (BND (textv .i32 textOfRunes w2 t6_1) fun t63_120 =>
  R t63_120 w2))
def ann_tumbrelref03_Fold : List (Nat × List Nat) := [(1000003, [4])]
theorem E_tumbrelref03_Fold (s_p0 : Value) (w : World) (R : Value → World → Prop) : M_tumbrelref03_Fold s_p0 w R = den PR ann_tumbrelref03_Fold (bodyOf Try.f24) (retQ PR Try.f24.results.toList R) (env0 [s_p0]) w := by kernel_rfl
theorem C_tumbrelref03_Fold {s_p0 : Value} {w : World} {R : Value → World → Prop} (h : M_tumbrelref03_Fold s_p0 w R) : CALL PR F_tumbrelref03_Fold [s_p0] w R :=
  call_of_den2 ann_tumbrelref03_Fold Try.func24 (by kernel_rfl) (by kernel_rfl) (by kernel_rfl) ((E_tumbrelref03_Fold s_p0 w R) ▸ h)


-- 25 (*tumbrel.dead.Dead).Add
def M_dead_Dead_Add (d_p0 id_p1 : Value) (w : World) (R : Value → World → Prop) : Prop :=
  CALL PR F_dead_Dead_Has [d_p0, id_p1] w fun t7_1 w1 =>
  COND t7_1
  (R (Value.bool false) w1)
  (BND (nilchk d_p0) fun t9_2 =>
  BND (faddr 1 t9_2) fun t10_3 =>
  BND (load1 w1 t10_3) fun t11_4 =>
  BND (binv .int .add t11_4 (Value.int .u64 1)) fun t12_5 =>
  BND (nilchk d_p0) fun t13_6 =>
  BND (faddr 1 t13_6) fun t14_7 =>
  BND (storev 1 w1 t14_7 t12_5) fun w2 =>
  ∃ S_8 : Nat → World → Prop,
  S_8 4 w2.drew ∧
  BND (nilchk d_p0) fun t17_9 =>
  BND (faddr 0 t17_9) fun t18_10 =>
  FLT (S_8 4) (fun w_ => load1 w_ t18_10) fun t19_11 =>
  BND (nilchk d_p0) fun t22_12 =>
  BND (faddr 1 t22_12) fun t23_13 =>
  BND (load1 w2.drew t23_13) fun t24_14 =>
  BND (buildv #[(Value.int .u64 0), (Value.int .u64 0)] [(0, 1, id_p1), (1, 1, t24_14)]) fun t25_15 =>
  BND (newslice 48 #[(Value.int .u64 0), (Value.int .u64 0)] 2 1 [(0, 2, t25_15)] w2.drew) fun p_ => NEW p_ fun t26_16 w3 =>
  S_8 4 w3 ∧
  APPEND 48 2 16 (Value.agg #[(Value.int .u64 0), (Value.int .u64 0)]) t19_11 t26_16 w3 fun t27_17 w4 =>
  BND (nilchk d_p0) fun t28_18 =>
  BND (faddr 0 t28_18) fun t29_19 =>
  BND (storev 1 w4 t29_19 t27_17) fun w5 =>
  R (Value.bool true) w5)
def ann_dead_Dead_Add : List (Nat × List Nat) := [(4, [0, 1, 2, 3, 4, 5, 6, 7, 8, 9, 10, 11, 12, 13, 14, 15]), (2000004, [4]), (3004011, [4])]
theorem E_dead_Dead_Add (d_p0 id_p1 : Value) (w : World) (R : Value → World → Prop) : M_dead_Dead_Add d_p0 id_p1 w R = den PR ann_dead_Dead_Add (bodyOf Try.f25) (retQ PR Try.f25.results.toList R) (env0 [d_p0, id_p1]) w := by kernel_rfl
theorem C_dead_Dead_Add {d_p0 id_p1 : Value} {w : World} {R : Value → World → Prop} (h : M_dead_Dead_Add d_p0 id_p1 w R) : CALL PR F_dead_Dead_Add [d_p0, id_p1] w R :=
  call_of_den2 ann_dead_Dead_Add Try.func25 (by kernel_rfl) (by kernel_rfl) (by kernel_rfl) ((E_dead_Dead_Add d_p0 id_p1 w R) ▸ h)


-- 26 (*tumbrel.dead.Dead).Next
def M_dead_Dead_Next (L_p0 i_p1 s_p2 : Value) (w : World) (R : Value → World → Prop) : Prop :=
  CALL PR F_label_Fold [i_p1] w fun t14_1 w1 =>
  BND (nilchk L_p0) fun t17_2 =>
  BND (faddr 2 t17_2) fun t18_3 =>
  BND (load1 w1 t18_3) fun t19_4 =>
  BND (lookv .string (Value.int .u64 0) true w1 t19_4 t14_1) fun t21_5 =>
  BND (extractv t21_5 0) fun t22_6 =>
  BND (extractv t21_5 1) fun t23_7 =>
  BND (binv .int .lss s_p2 (Value.int .i64 1)) fun t26_8 =>
  BND (grd (isB t26_8 false) (some t14_1)) fun t28_9 =>
  GEF (isB t26_8 false) (fun k_ => CALL PR F_label_Right [t28_9] w1 k_) w1 fun t29_10 w2 =>
  BND (grd (isB t26_8 false) (unv .not t29_10)) fun t30_11 =>
  BND (pickv t26_8 (Value.bool true) t30_11) fun t31_12 =>
  COND t31_12
  (R (.tuple #[(Value.slice none 0 0), (Value.int .i64 1)]) w2)
  (BND (unv .not t23_7) fun t34_13 =>
  BND (grd (isB t34_13 true) (some L_p0)) fun t36_14 =>
  BND (grd (isB t34_13 true) (nilchk t36_14)) fun t37_15 =>
  BND (grd (isB t34_13 true) (faddr 2 t37_15)) fun t38_16 =>
  BND (grd (isB t34_13 true) (load1 w2 t38_16)) fun t39_17 =>
  BND (grd (isB t34_13 true) (mlenv w2 t39_17)) fun t40_18 =>
  BND (grd (isB t34_13 true) (binv .int .geq t40_18 (Value.int .i64 8))) fun t41_19 =>
  BND (pickv t34_13 t41_19 (Value.bool false)) fun t42_20 =>
  COND t42_20
  (R (.tuple #[(Value.slice none 0 0), (Value.int .i64 4)]) w2)
  (BND (nilchk L_p0) fun t44_21 =>
  BND (faddr 0 t44_21) fun t45_22 =>
  BND (load1 w2 t45_22) fun t46_23 =>
  BND (lenl t46_23) fun t47_24 =>
  ∃ (J_25 : Value → Value → Value → World → Prop) (m_25 : Value → Value → Value → World → Nat), J_25 t22_6 (Value.slice none 0 0) (Value.int .i64 0) w2 ∧ ∀ (_d_25 : Env) (r_26 a_27 t48_29 : Value) (w3 : World), J_25 r_26 a_27 t48_29 w3 →
  (BND (binv .int .lss t48_29 t47_24) fun t49_51 =>
  COND t49_51
  (BND (iaddr 2 t46_23 t48_29) fun t50_52 =>
  BND (loadn 2 w3 t50_52) fun t51_53 =>
  NEW (newv 48 w3 (Value.agg #[(Value.int .u64 0), (Value.int .u64 0)])) fun t12_54 w4 =>
  BND (storev 2 w4 t12_54 t51_53) fun w5 =>
  BND (faddr 1 t12_54) fun t52_55 =>
  BND (load1 w5 t52_55) fun t53_56 =>
  BND (binv .int .gtr t53_56 r_26) fun t55_57 =>
  BND (grd (isB t55_57 true) (some a_27)) fun t57_58 =>
  BND (grd (isB t55_57 true) (lenl t57_58)) fun t58_59 =>
  BND (grd (isB t55_57 true) (some s_p2)) fun t59_60 =>
  BND (grd (isB t55_57 true) (binv .int .lss t58_59 t59_60)) fun t60_61 =>
  BND (pickv t55_57 t60_61 (Value.bool false)) fun t61_62 =>
  JOIN (α := Value → Value → World → Prop) (fun k_73 => COND t61_62
  (∃ S_74 : Nat → World → Prop,
  S_74 6 w5.drew ∧
  BND (faddr 0 t12_54) fun t63_75 =>
  BND (faddr 1 t12_54) fun t67_76 =>
  FLT (S_74 6) (fun w_ => load1 w_ t67_76) fun t68_77 =>
  BND (load1 w5.drew t63_75) fun t64_78 =>
  BND (newslice 29 #[(Value.int .u64 0)] 1 1 [(0, 1, t64_78)] w5.drew) fun p_ => NEW p_ fun t65_79 w7 =>
  S_74 6 w7 ∧
  APPEND 29 1 8 (Value.int .u64 0) a_27 t65_79 w7 fun t66_80 w8 =>
  S_74 6 w8 ∧
  k_73 t68_77 t66_80 w8)
  (k_73 r_26 a_27 w5))
  (fun r_63 a_64 w6 => BND (binv .int .add t48_29 (Value.int .i64 1)) fun t69_72 =>
  (J_25 r_63 a_64 t69_72 w6 ∧ m_25 r_63 a_64 t69_72 w6 < m_25 r_26 a_27 t48_29 w3)))
  (BND (nilchk L_p0) fun t71_81 =>
  BND (faddr 2 t71_81) fun t72_82 =>
  BND (load1 w3 t72_82) fun t73_83 =>
  BND (mupd .string w3 t73_83 t14_1 r_26) fun w9 =>
  R (.tuple #[a_27, (Value.int .i64 0)]) w9))))
def ann_dead_Dead_Next : List (Nat × List Nat) := [(12, [0, 1, 5, 6, 2, 3, 4, 7, 8]), (1000009, [8, 10, 48]), (2000012, [6]), (3012003, [6]), (3012004, [6])]
theorem E_dead_Dead_Next (L_p0 i_p1 s_p2 : Value) (w : World) (R : Value → World → Prop) : M_dead_Dead_Next L_p0 i_p1 s_p2 w R = den PR ann_dead_Dead_Next (bodyOf Try.f26) (retQ PR Try.f26.results.toList R) (env0 [L_p0, i_p1, s_p2]) w := by kernel_rfl
theorem C_dead_Dead_Next {L_p0 i_p1 s_p2 : Value} {w : World} {R : Value → World → Prop} (h : M_dead_Dead_Next L_p0 i_p1 s_p2 w R) : CALL PR F_dead_Dead_Next [L_p0, i_p1, s_p2] w R :=
  call_of_den2 ann_dead_Dead_Next Try.func26 (by kernel_rfl) (by kernel_rfl) (by kernel_rfl) ((E_dead_Dead_Next L_p0 i_p1 s_p2 w R) ▸ h)


-- 27 (*tumbrel.dead.Dead).Drop
def M_dead_Dead_Drop (d_p0 id_p1 : Value) (w : World) (R : Value → World → Prop) : Prop :=
  CALL PR F_dead_Dead_find [d_p0, id_p1] w fun t8_1 w1 =>
  BND (binv .int .lss t8_1 (Value.int .i64 0)) fun t10_2 =>
  COND t10_2
  (R (Value.bool false) w1)
  (BND (nilchk d_p0) fun t13_3 =>
  BND (faddr 0 t13_3) fun t14_4 =>
  BND (load1 w1 t14_4) fun t15_5 =>
  BND (binv .int .add t8_1 (Value.int .i64 1)) fun t18_6 =>
  CALL PR F_slices_Delete_dead_Row_dead_Row [t15_5, t8_1, t18_6] w1 fun t19_7 w2 =>
  BND (nilchk d_p0) fun t20_8 =>
  BND (faddr 0 t20_8) fun t21_9 =>
  BND (storev 1 w2 t21_9 t19_7) fun w3 =>
  R (Value.bool true) w3)
def ann_dead_Dead_Drop : List (Nat × List Nat) := []
theorem E_dead_Dead_Drop (d_p0 id_p1 : Value) (w : World) (R : Value → World → Prop) : M_dead_Dead_Drop d_p0 id_p1 w R = den PR ann_dead_Dead_Drop (bodyOf Try.f27) (retQ PR Try.f27.results.toList R) (env0 [d_p0, id_p1]) w := by kernel_rfl
theorem C_dead_Dead_Drop {d_p0 id_p1 : Value} {w : World} {R : Value → World → Prop} (h : M_dead_Dead_Drop d_p0 id_p1 w R) : CALL PR F_dead_Dead_Drop [d_p0, id_p1] w R :=
  call_of_den2 ann_dead_Dead_Drop Try.func27 (by kernel_rfl) (by kernel_rfl) (by kernel_rfl) ((E_dead_Dead_Drop d_p0 id_p1 w R) ▸ h)


-- 28 (*tumbrel.dead.Dead).Has
def M_dead_Dead_Has (d_p0 id_p1 : Value) (w : World) (R : Value → World → Prop) : Prop :=
  CALL PR F_dead_Dead_find [d_p0, id_p1] w fun t7_1 w1 =>
  BND (binv .int .geq t7_1 (Value.int .i64 0)) fun t8_2 =>
  R t8_2 w1
def ann_dead_Dead_Has : List (Nat × List Nat) := []
theorem E_dead_Dead_Has (d_p0 id_p1 : Value) (w : World) (R : Value → World → Prop) : M_dead_Dead_Has d_p0 id_p1 w R = den PR ann_dead_Dead_Has (bodyOf Try.f28) (retQ PR Try.f28.results.toList R) (env0 [d_p0, id_p1]) w := by kernel_rfl
theorem C_dead_Dead_Has {d_p0 id_p1 : Value} {w : World} {R : Value → World → Prop} (h : M_dead_Dead_Has d_p0 id_p1 w R) : CALL PR F_dead_Dead_Has [d_p0, id_p1] w R :=
  call_of_den2 ann_dead_Dead_Has Try.func28 (by kernel_rfl) (by kernel_rfl) (by kernel_rfl) ((E_dead_Dead_Has d_p0 id_p1 w R) ▸ h)


-- 29 tumbrel.tumbrelref03.Less
def M_tumbrelref03_Less (a_p0 b_p1 : Value) (w : World) (R : Value → World → Prop) : Prop :=
  RUNES 21 a_p0 w fun t9_1 w1 =>
  RUNES 21 b_p1 w1 fun t11_2 w2 =>
  ∃ (J_3 : Value → World → Prop) (m_3 : Value → World → Nat), J_3 (Value.int .i64 0) w2 ∧ ∀ (_d_3 : Env) (i_5 : Value) (w3 : World), J_3 i_5 w3 →
  (BND (lenl t9_1) fun t14_36 =>
  BND (binv .int .lss i_5 t14_36) fun t15_37 =>
  BND (grd (isB t15_37 true) (some i_5)) fun t17_38 =>
  BND (grd (isB t15_37 true) (some t11_2)) fun t18_39 =>
  BND (grd (isB t15_37 true) (lenl t18_39)) fun t19_40 =>
  BND (grd (isB t15_37 true) (binv .int .lss t17_38 t19_40)) fun t20_41 =>
  BND (pickv t15_37 t20_41 (Value.bool false)) fun t21_42 =>
  COND t21_42
  (BND (iaddr 1 t9_1 i_5) fun t26_43 =>
  BND (iaddr 1 t11_2 i_5) fun t30_44 =>
  BND (load1 w3.drew t26_43) fun t27_45 =>
  BND (load1 w3.drew t30_44) fun t31_46 =>
  BND (binv .int .neq t27_45 t31_46) fun t32_47 =>
  COND t32_47
  (BND (iaddr 1 t9_1 i_5) fun t35_48 =>
  BND (iaddr 1 t11_2 i_5) fun t39_49 =>
  BND (load1 w3.drew.drew t35_48) fun t36_50 =>
  BND (load1 w3.drew.drew t39_49) fun t40_51 =>
  BND (binv .int .lss t36_50 t40_51) fun t41_52 =>
  R t41_52 w3.drew.drew)
  (BND (binv .int .add i_5 (Value.int .i64 1)) fun t23_53 =>
  (J_3 t23_53 w3.drew ∧ m_3 t23_53 w3.drew < m_3 i_5 w3)))
  (BND (lenl t9_1) fun t43_54 =>
  BND (lenl t11_2) fun t45_55 =>
  BND (binv .int .lss t43_54 t45_55) fun t46_56 =>
  R t46_56 w3))
def ann_tumbrelref03_Less : List (Nat × List Nat) := [(6, [0, 1, 2, 4, 5, 6, 3, 7, 8]), (7, [0, 1, 2, 4, 5, 6, 3, 7, 8, 9]), (1000004, [7])]
theorem E_tumbrelref03_Less (a_p0 b_p1 : Value) (w : World) (R : Value → World → Prop) : M_tumbrelref03_Less a_p0 b_p1 w R = den PR ann_tumbrelref03_Less (bodyOf Try.f29) (retQ PR Try.f29.results.toList R) (env0 [a_p0, b_p1]) w := by kernel_rfl
theorem C_tumbrelref03_Less {a_p0 b_p1 : Value} {w : World} {R : Value → World → Prop} (h : M_tumbrelref03_Less a_p0 b_p1 w R) : CALL PR F_tumbrelref03_Less [a_p0, b_p1] w R :=
  call_of_den2 ann_tumbrelref03_Less Try.func29 (by kernel_rfl) (by kernel_rfl) (by kernel_rfl) ((E_tumbrelref03_Less a_p0 b_p1 w R) ▸ h)


-- 30 tumbrel.tumbrelref10.Rows
def M_tumbrelref10_Rows (a_p0 b_p1 : Value) (w : World) (R : Value → World → Prop) : Prop :=
  BND (lenl a_p0) fun t7_1 =>
  BND (lenl b_p1) fun t9_2 =>
  BND (binv .int .neq t7_1 t9_2) fun t10_3 =>
  COND t10_3
  (R (Value.bool false) w)
  (∃ (J_4 : Value → World → Prop) (m_4 : Value → World → Nat), J_4 (Value.int .i64 0) w ∧ ∀ (_d_4 : Env) (i_6 : Value) (w1 : World), J_4 i_6 w1 →
  (BND (lenl a_p0) fun t13_22 =>
  BND (binv .int .lss i_6 t13_22) fun t14_23 =>
  COND t14_23
  (BND (iaddr 2 a_p0 i_6) fun t19_24 =>
  BND (iaddr 2 b_p1 i_6) fun t23_25 =>
  BND (loadn 2 w1.drew t19_24) fun t20_26 =>
  BND (loadn 2 w1.drew t23_25) fun t24_27 =>
  BND (eqaggv [(0, (.int .u64)), (1, (.int .u64))] .neq t20_26 t24_27) fun t25_28 =>
  COND t25_28
  (R (Value.bool false) w1.drew)
  (BND (binv .int .add i_6 (Value.int .i64 1)) fun t16_29 =>
  (J_4 t16_29 w1.drew ∧ m_4 t16_29 w1.drew < m_4 i_6 w1)))
  (R (Value.bool true) w1)))
def ann_tumbrelref10_Rows : List (Nat × List Nat) := [(6, [0, 1, 2, 4, 5, 6, 3, 7, 8]), (1000004, [5])]
theorem E_tumbrelref10_Rows (a_p0 b_p1 : Value) (w : World) (R : Value → World → Prop) : M_tumbrelref10_Rows a_p0 b_p1 w R = den PR ann_tumbrelref10_Rows (bodyOf Try.f30) (retQ PR Try.f30.results.toList R) (env0 [a_p0, b_p1]) w := by kernel_rfl
theorem C_tumbrelref10_Rows {a_p0 b_p1 : Value} {w : World} {R : Value → World → Prop} (h : M_tumbrelref10_Rows a_p0 b_p1 w R) : CALL PR F_tumbrelref10_Rows [a_p0, b_p1] w R :=
  call_of_den2 ann_tumbrelref10_Rows Try.func30 (by kernel_rfl) (by kernel_rfl) (by kernel_rfl) ((E_tumbrelref10_Rows a_p0 b_p1 w R) ▸ h)


-- 31 tumbrel.tumbrelref10.Cursors
def M_tumbrelref10_Cursors (a_p0 b_p1 : Value) (w : World) (R : Value → World → Prop) : Prop :=
  BND (lenl a_p0) fun t7_1 =>
  BND (lenl b_p1) fun t9_2 =>
  BND (binv .int .neq t7_1 t9_2) fun t10_3 =>
  COND t10_3
  (R (Value.bool false) w)
  (∃ (J_4 : Value → World → Prop) (m_4 : Value → World → Nat), J_4 (Value.int .i64 0) w ∧ ∀ (_d_4 : Env) (i_6 : Value) (w1 : World), J_4 i_6 w1 →
  (BND (lenl a_p0) fun t13_22 =>
  BND (binv .int .lss i_6 t13_22) fun t14_23 =>
  COND t14_23
  (BND (iaddr 2 a_p0 i_6) fun t19_24 =>
  BND (iaddr 2 b_p1 i_6) fun t23_25 =>
  BND (loadn 2 w1.drew t19_24) fun t20_26 =>
  BND (loadn 2 w1.drew t23_25) fun t24_27 =>
  BND (eqaggv [(0, .string), (1, (.int .u64))] .neq t20_26 t24_27) fun t25_28 =>
  COND t25_28
  (R (Value.bool false) w1.drew)
  (BND (binv .int .add i_6 (Value.int .i64 1)) fun t16_29 =>
  (J_4 t16_29 w1.drew ∧ m_4 t16_29 w1.drew < m_4 i_6 w1)))
  (R (Value.bool true) w1)))
def ann_tumbrelref10_Cursors : List (Nat × List Nat) := [(6, [0, 1, 2, 4, 5, 6, 3, 7, 8]), (1000004, [5])]
theorem E_tumbrelref10_Cursors (a_p0 b_p1 : Value) (w : World) (R : Value → World → Prop) : M_tumbrelref10_Cursors a_p0 b_p1 w R = den PR ann_tumbrelref10_Cursors (bodyOf Try.f31) (retQ PR Try.f31.results.toList R) (env0 [a_p0, b_p1]) w := by kernel_rfl
theorem C_tumbrelref10_Cursors {a_p0 b_p1 : Value} {w : World} {R : Value → World → Prop} (h : M_tumbrelref10_Cursors a_p0 b_p1 w R) : CALL PR F_tumbrelref10_Cursors [a_p0, b_p1] w R :=
  call_of_den2 ann_tumbrelref10_Cursors Try.func31 (by kernel_rfl) (by kernel_rfl) (by kernel_rfl) ((E_tumbrelref10_Cursors a_p0 b_p1 w R) ▸ h)


-- 32 tumbrel.label.Right
def M_label_Right (s_p0 : Value) (w : World) (R : Value → World → Prop) : Prop :=
  BND (rangev w s_p0) fun p_ => NEW p_ fun t7_1 w1 =>
  ∃ (J_2 : Value → World → Prop) (m_2 : Value → World → Nat), J_2 (Value.int .i64 0) w1 ∧ ∀ (_d_2 : Env) (many_4 : Value) (w2 : World), J_2 many_4 w2 →
  (BND (nexts w2 t7_1) fun p_ => NEW p_ fun t8_14 w3 =>
  BND (extractv t8_14 0) fun t9_15 =>
  COND t9_15
  (BND (extractv t8_14 2) fun t10_16 =>
  CALL PR F_label_letter [t10_16] w3 fun t12_17 w4 =>
  BND (unv .not t12_17) fun t13_18 =>
  COND t13_18
  (R (Value.bool false) w4)
  (BND (binv .int .add many_4 (Value.int .i64 1)) fun t15_19 =>
  (J_2 t15_19 w4 ∧ m_2 t15_19 w4 < m_2 many_4 w2)))
  (BND (binv .int .geq many_4 (Value.int .i64 1)) fun t17_20 =>
  BND (grd (isB t17_20 true) (some many_4)) fun t19_21 =>
  BND (grd (isB t17_20 true) (binv .int .leq t19_21 (Value.int .i64 8))) fun t20_22 =>
  BND (pickv t17_20 t20_22 (Value.bool false)) fun t21_23 =>
  R t21_23 w3))
def ann_label_Right : List (Nat × List Nat) := [(1000003, [3])]
theorem E_label_Right (s_p0 : Value) (w : World) (R : Value → World → Prop) : M_label_Right s_p0 w R = den PR ann_label_Right (bodyOf Try.f32) (retQ PR Try.f32.results.toList R) (env0 [s_p0]) w := by kernel_rfl
theorem C_label_Right {s_p0 : Value} {w : World} {R : Value → World → Prop} (h : M_label_Right s_p0 w R) : CALL PR F_label_Right [s_p0] w R :=
  call_of_den2 ann_label_Right Try.func32 (by kernel_rfl) (by kernel_rfl) (by kernel_rfl) ((E_label_Right s_p0 w R) ▸ h)


-- 33 tumbrel.label.Fold
def M_label_Fold (s_p0 : Value) (w : World) (R : Value → World → Prop) : Prop :=
  NEW (newv 87 w (Value.agg #[(Value.pointer none), (Value.slice none 0 0)])) fun b_1 w1 =>
  BND (rangev w1 s_p0) fun p_ => NEW p_ fun t7_2 w2 =>
  ∃ (J_3 : World → Prop) (m_3 : World → Nat), J_3 w2 ∧ ∀ (_d_3 : Env) (w3 : World), J_3 w3 →
  (BND (nexts w3 t7_2) fun p_ => NEW p_ fun t8_11 w4 =>
  BND (extractv t8_11 0) fun t9_12 =>
  COND t9_12
  (BND (extractv t8_11 2) fun t10_13 =>
  CALL PR F_label_fold [t10_13] w4 fun t12_14 w5 =>
  CALL PR F_strings_Builder_WriteRune [b_1, t12_14] w5 fun t13_15 w6 =>
  (J_3 w6 ∧ m_3 w6 < m_3 w3))
  (CALL PR F_strings_Builder_String [b_1] w4 fun t14_16 w7 =>
  R t14_16 w7))
def ann_label_Fold : List (Nat × List Nat) := [(1000003, [])]
theorem E_label_Fold (s_p0 : Value) (w : World) (R : Value → World → Prop) : M_label_Fold s_p0 w R = den PR ann_label_Fold (bodyOf Try.f33) (retQ PR Try.f33.results.toList R) (env0 [s_p0]) w := by kernel_rfl
theorem C_label_Fold {s_p0 : Value} {w : World} {R : Value → World → Prop} (h : M_label_Fold s_p0 w R) : CALL PR F_label_Fold [s_p0] w R :=
  call_of_den2 ann_label_Fold Try.func33 (by kernel_rfl) (by kernel_rfl) (by kernel_rfl) ((E_label_Fold s_p0 w R) ▸ h)


-- 34 tumbrel.label.Less
def M_label_Less (a_p0 b_p1 : Value) (w : World) (R : Value → World → Prop) : Prop :=
  RUNES 21 a_p0 w fun t6_1 w1 =>
  RUNES 21 b_p1 w1 fun t8_2 w2 =>
  CALL PR F_slices_Compare_rune_rune [t6_1, t8_2] w2 fun t9_3 w3 =>
  BND (binv .int .lss t9_3 (Value.int .i64 0)) fun t10_4 =>
  R t10_4 w3
def ann_label_Less : List (Nat × List Nat) := []
theorem E_label_Less (a_p0 b_p1 : Value) (w : World) (R : Value → World → Prop) : M_label_Less a_p0 b_p1 w R = den PR ann_label_Less (bodyOf Try.f34) (retQ PR Try.f34.results.toList R) (env0 [a_p0, b_p1]) w := by kernel_rfl
theorem C_label_Less {a_p0 b_p1 : Value} {w : World} {R : Value → World → Prop} (h : M_label_Less a_p0 b_p1 w R) : CALL PR F_label_Less [a_p0, b_p1] w R :=
  call_of_den2 ann_label_Less Try.func34 (by kernel_rfl) (by kernel_rfl) (by kernel_rfl) ((E_label_Less a_p0 b_p1 w R) ▸ h)


-- 35 slices.Clone[[]tumbrel.dead.Row,tumbrel.dead.Row]
def M_slices_Clone_dead_Row_dead_Row (s_p0 : Value) (w : World) (R : Value → World → Prop) : Prop :=
  BND (binv .slc .eql s_p0 (Value.slice none 0 0)) fun t4_1 =>
  COND t4_1
  (R (Value.slice none 0 0) w)
  (BND (newslice 48 #[(Value.int .u64 0), (Value.int .u64 0)] 2 0 [] w) fun p_ => NEW p_ fun t5_2 w1 =>
  APPEND 48 2 16 (Value.agg #[(Value.int .u64 0), (Value.int .u64 0)]) t5_2 s_p0 w1 fun t7_3 w2 =>
  R t7_3 w2)
def ann_slices_Clone_dead_Row_dead_Row : List (Nat × List Nat) := []
theorem E_slices_Clone_dead_Row_dead_Row (s_p0 : Value) (w : World) (R : Value → World → Prop) : M_slices_Clone_dead_Row_dead_Row s_p0 w R = den PR ann_slices_Clone_dead_Row_dead_Row (bodyOf Try.f35) (retQ PR Try.f35.results.toList R) (env0 [s_p0]) w := by kernel_rfl
theorem C_slices_Clone_dead_Row_dead_Row {s_p0 : Value} {w : World} {R : Value → World → Prop} (h : M_slices_Clone_dead_Row_dead_Row s_p0 w R) : CALL PR F_slices_Clone_dead_Row_dead_Row [s_p0] w R :=
  call_of_den2 ann_slices_Clone_dead_Row_dead_Row Try.func35 (by kernel_rfl) (by kernel_rfl) (by kernel_rfl) ((E_slices_Clone_dead_Row_dead_Row s_p0 w R) ▸ h)


-- 36 slices.SortedFunc[string]
def M_slices_SortedFunc_string (seq_p0 cmp_p1 : Value) (w : World) (R : Value → World → Prop) : Prop :=
  CALL PR F_slices_Collect_string [seq_p0] w fun t7_1 w1 =>
  CALL PR F_slices_SortFunc_string_string [t7_1, cmp_p1] w1 fun t10_2 w2 =>
  R t7_1 w2
def ann_slices_SortedFunc_string : List (Nat × List Nat) := []
theorem E_slices_SortedFunc_string (seq_p0 cmp_p1 : Value) (w : World) (R : Value → World → Prop) : M_slices_SortedFunc_string seq_p0 cmp_p1 w R = den PR ann_slices_SortedFunc_string (bodyOf Try.f36) (retQ PR Try.f36.results.toList R) (env0 [seq_p0, cmp_p1]) w := by kernel_rfl
theorem C_slices_SortedFunc_string {seq_p0 cmp_p1 : Value} {w : World} {R : Value → World → Prop} (h : M_slices_SortedFunc_string seq_p0 cmp_p1 w R) : CALL PR F_slices_SortedFunc_string [seq_p0, cmp_p1] w R :=
  call_of_den2 ann_slices_SortedFunc_string Try.func36 (by kernel_rfl) (by kernel_rfl) (by kernel_rfl) ((E_slices_SortedFunc_string seq_p0 cmp_p1 w R) ▸ h)


-- 37 maps.Keys[map[string]uint64,string,uint64]
def M_maps_Keys_map_stringuint64_string_uint64 (m_p0 : Value) (w : World) (R : Value → World → Prop) : Prop :=
  NEW (newv 65 w m_p0) fun m_1 w1 =>
  R (Value.func (.func F_maps_Keys_map_stringuint64_string_uint64_1) #[] #[m_1]) w1
def ann_maps_Keys_map_stringuint64_string_uint64 : List (Nat × List Nat) := []
theorem E_maps_Keys_map_stringuint64_string_uint64 (m_p0 : Value) (w : World) (R : Value → World → Prop) : M_maps_Keys_map_stringuint64_string_uint64 m_p0 w R = den PR ann_maps_Keys_map_stringuint64_string_uint64 (bodyOf Try.f37) (retQ PR Try.f37.results.toList R) (env0 [m_p0]) w := by kernel_rfl
theorem C_maps_Keys_map_stringuint64_string_uint64 {m_p0 : Value} {w : World} {R : Value → World → Prop} (h : M_maps_Keys_map_stringuint64_string_uint64 m_p0 w R) : CALL PR F_maps_Keys_map_stringuint64_string_uint64 [m_p0] w R :=
  call_of_den2 ann_maps_Keys_map_stringuint64_string_uint64 Try.func37 (by kernel_rfl) (by kernel_rfl) (by kernel_rfl) ((E_maps_Keys_map_stringuint64_string_uint64 m_p0 w R) ▸ h)


-- 38 (*tumbrel.dead.Dead).Cursors$1
def M_dead_Dead_Cursors_1 (a_p0 b_p1 : Value) (w : World) (R : Value → World → Prop) : Prop :=
  RUNES 21 a_p0 w fun t6_1 w1 =>
  RUNES 21 b_p1 w1 fun t8_2 w2 =>
  CALL PR F_slices_Compare_rune_rune [t6_1, t8_2] w2 fun t9_3 w3 =>
  R t9_3 w3
def ann_dead_Dead_Cursors_1 : List (Nat × List Nat) := []
theorem E_dead_Dead_Cursors_1 (a_p0 b_p1 : Value) (w : World) (R : Value → World → Prop) : M_dead_Dead_Cursors_1 a_p0 b_p1 w R = den PR ann_dead_Dead_Cursors_1 (bodyOf Try.f38) (retQ PR Try.f38.results.toList R) (env0 [a_p0, b_p1]) w := by kernel_rfl
theorem C_dead_Dead_Cursors_1 {a_p0 b_p1 : Value} {w : World} {R : Value → World → Prop} (h : M_dead_Dead_Cursors_1 a_p0 b_p1 w R) : CALL PR F_dead_Dead_Cursors_1 [a_p0, b_p1] w R :=
  call_of_den2 ann_dead_Dead_Cursors_1 Try.func38 (by kernel_rfl) (by kernel_rfl) (by kernel_rfl) ((E_dead_Dead_Cursors_1 a_p0 b_p1 w R) ▸ h)


-- 39 slices.Compare[[]rune,rune]
def M_slices_Compare_rune_rune (s1_p0 s2_p1 : Value) (w : World) (R : Value → World → Prop) : Prop :=
  BND (lenl s1_p0) fun t10_1 =>
  ∃ (J_2 : Value → World → Prop) (m_2 : Value → World → Nat), J_2 (Value.int .i64 0) w ∧ ∀ (_d_2 : Env) (t11_8 : Value) (w1 : World), J_2 t11_8 w1 →
  (BND (binv .int .lss t11_8 t10_1) fun t12_28 =>
  COND t12_28
  (BND (iaddr 1 s1_p0 t11_8) fun t14_29 =>
  BND (load1 w1 t14_29) fun t15_30 =>
  BND (lenl s2_p1) fun t18_31 =>
  BND (binv .int .geq t11_8 t18_31) fun t19_32 =>
  COND t19_32
  (R (Value.int .i64 1) w1)
  (BND (iaddr 1 s2_p1 t11_8) fun t22_33 =>
  BND (load1 w1 t22_33) fun t23_34 =>
  CALL PR F_cmp_Compare_rune [t15_30, t23_34] w1 fun t26_35 w2 =>
  BND (binv .int .neq t26_35 (Value.int .i64 0)) fun t28_36 =>
  COND t28_36
  (R t26_35 w2)
  (BND (binv .int .add t11_8 (Value.int .i64 1)) fun t30_37 =>
  (J_2 t30_37 w2 ∧ m_2 t30_37 w2 < m_2 t11_8 w1))))
  (BND (lenl s1_p0) fun t32_38 =>
  BND (lenl s2_p1) fun t34_39 =>
  BND (binv .int .lss t32_38 t34_39) fun t35_40 =>
  COND t35_40
  (R (Value.int .i64 (-1)) w1)
  (R (Value.int .i64 0) w1)))
def ann_slices_Compare_rune_rune : List (Nat × List Nat) := [(1000002, [11])]
theorem E_slices_Compare_rune_rune (s1_p0 s2_p1 : Value) (w : World) (R : Value → World → Prop) : M_slices_Compare_rune_rune s1_p0 s2_p1 w R = den PR ann_slices_Compare_rune_rune (bodyOf Try.f39) (retQ PR Try.f39.results.toList R) (env0 [s1_p0, s2_p1]) w := by kernel_rfl
theorem C_slices_Compare_rune_rune {s1_p0 s2_p1 : Value} {w : World} {R : Value → World → Prop} (h : M_slices_Compare_rune_rune s1_p0 s2_p1 w R) : CALL PR F_slices_Compare_rune_rune [s1_p0, s2_p1] w R :=
  call_of_den2 ann_slices_Compare_rune_rune Try.func39 (by kernel_rfl) (by kernel_rfl) (by kernel_rfl) ((E_slices_Compare_rune_rune s1_p0 s2_p1 w R) ▸ h)


-- 40 (*tumbrel.dead.Dead).find
def M_dead_Dead_find (d_p0 id_p1 : Value) (w : World) (R : Value → World → Prop) : Prop :=
  NEW (newv 29 w id_p1) fun id_1 w1 =>
  BND (nilchk d_p0) fun t6_2 =>
  BND (faddr 0 t6_2) fun t7_3 =>
  BND (load1 w1 t7_3) fun t8_4 =>
  CALL PR F_slices_IndexFunc_dead_Row_dead_Row [t8_4, (Value.func (.func F_dead_Dead_find_1) #[] #[id_1])] w1 fun t10_5 w2 =>
  R t10_5 w2
def ann_dead_Dead_find : List (Nat × List Nat) := []
theorem E_dead_Dead_find (d_p0 id_p1 : Value) (w : World) (R : Value → World → Prop) : M_dead_Dead_find d_p0 id_p1 w R = den PR ann_dead_Dead_find (bodyOf Try.f40) (retQ PR Try.f40.results.toList R) (env0 [d_p0, id_p1]) w := by kernel_rfl
theorem C_dead_Dead_find {d_p0 id_p1 : Value} {w : World} {R : Value → World → Prop} (h : M_dead_Dead_find d_p0 id_p1 w R) : CALL PR F_dead_Dead_find [d_p0, id_p1] w R :=
  call_of_den2 ann_dead_Dead_find Try.func40 (by kernel_rfl) (by kernel_rfl) (by kernel_rfl) ((E_dead_Dead_find d_p0 id_p1 w R) ▸ h)


-- 41 slices.Delete[[]tumbrel.dead.Row,tumbrel.dead.Row]
def M_slices_Delete_dead_Row_dead_Row (s_p0 i_p1 j_p2 : Value) (w : World) (R : Value → World → Prop) : Prop :=
  BND (lenl s_p0) fun t12_1 =>
  BND (slicev3 2 s_p0 (some i_p1) j_p2 t12_1) fun t13_2 =>
  BND (binv .int .eql i_p1 j_p2) fun t16_3 =>
  COND t16_3
  (R s_p0 w)
  (BND (lenl s_p0) fun t19_4 =>
  BND (slicev 2 s_p0 none (some i_p1)) fun t22_5 =>
  BND (slicev 2 s_p0 (some j_p2) none) fun t25_6 =>
  APPEND 48 2 16 (Value.agg #[(Value.int .u64 0), (Value.int .u64 0)]) t22_5 t25_6 w.drew fun t26_7 w1 =>
  BND (lenl t26_7) fun t29_8 =>
  BND (slicev 2 t26_7 (some t29_8) (some t19_4)) fun t31_9 =>
  BND (clearv (Value.agg #[(Value.int .u64 0), (Value.int .u64 0)]) w1 t31_9) fun w2 =>
  R t26_7 w2)
def ann_slices_Delete_dead_Row_dead_Row : List (Nat × List Nat) := [(5, [0, 1, 2, 3, 4, 5, 6, 7])]
theorem E_slices_Delete_dead_Row_dead_Row (s_p0 i_p1 j_p2 : Value) (w : World) (R : Value → World → Prop) : M_slices_Delete_dead_Row_dead_Row s_p0 i_p1 j_p2 w R = den PR ann_slices_Delete_dead_Row_dead_Row (bodyOf Try.f41) (retQ PR Try.f41.results.toList R) (env0 [s_p0, i_p1, j_p2]) w := by kernel_rfl
theorem C_slices_Delete_dead_Row_dead_Row {s_p0 i_p1 j_p2 : Value} {w : World} {R : Value → World → Prop} (h : M_slices_Delete_dead_Row_dead_Row s_p0 i_p1 j_p2 w R) : CALL PR F_slices_Delete_dead_Row_dead_Row [s_p0, i_p1, j_p2] w R :=
  call_of_den2 ann_slices_Delete_dead_Row_dead_Row Try.func41 (by kernel_rfl) (by kernel_rfl) (by kernel_rfl) ((E_slices_Delete_dead_Row_dead_Row s_p0 i_p1 j_p2 w R) ▸ h)


-- 42 tumbrel.label.letter
def M_label_letter (c_p0 : Value) (w : World) (R : Value → World → Prop) : Prop :=
  BND (binv .int .geq c_p0 (Value.int .i32 97)) fun t4_1 =>
  BND (grd (isB t4_1 true) (some c_p0)) fun t6_2 =>
  BND (grd (isB t4_1 true) (binv .int .leq t6_2 (Value.int .i32 122))) fun t7_3 =>
  BND (pickv t4_1 t7_3 (Value.bool false)) fun t8_4 =>
  BND (grd (isB t8_4 false) (some c_p0)) fun t10_5 =>
  BND (grd (isB t8_4 false) (binv .int .geq t10_5 (Value.int .i32 48))) fun t11_6 =>
  BND (grd (isB t8_4 false) (some t11_6)) fun t12_7 =>
  BND (grd (isB t12_7 true) (some c_p0)) fun t13_8 =>
  BND (grd (isB t12_7 true) (binv .int .leq t13_8 (Value.int .i32 57))) fun t14_9 =>
  BND (grd (isB t8_4 false) (pickv t12_7 t14_9 (Value.bool false))) fun t15_10 =>
  BND (pickv t8_4 (Value.bool true) t15_10) fun t16_11 =>
  BND (grd (isB t16_11 false) (some c_p0)) fun t18_12 =>
  BND (grd (isB t16_11 false) (binv .int .geq t18_12 (Value.int .i32 945))) fun t19_13 =>
  BND (grd (isB t16_11 false) (some t19_13)) fun t20_14 =>
  BND (grd (isB t20_14 true) (some c_p0)) fun t21_15 =>
  BND (grd (isB t20_14 true) (binv .int .leq t21_15 (Value.int .i32 969))) fun t22_16 =>
  BND (grd (isB t16_11 false) (pickv t20_14 t22_16 (Value.bool false))) fun t23_17 =>
  BND (pickv t16_11 (Value.bool true) t23_17) fun t24_18 =>
  R t24_18 w
def ann_label_letter : List (Nat × List Nat) := []
theorem E_label_letter (c_p0 : Value) (w : World) (R : Value → World → Prop) : M_label_letter c_p0 w R = den PR ann_label_letter (bodyOf Try.f42) (retQ PR Try.f42.results.toList R) (env0 [c_p0]) w := by kernel_rfl
theorem C_label_letter {c_p0 : Value} {w : World} {R : Value → World → Prop} (h : M_label_letter c_p0 w R) : CALL PR F_label_letter [c_p0] w R :=
  call_of_den2 ann_label_letter Try.func42 (by kernel_rfl) (by kernel_rfl) (by kernel_rfl) ((E_label_letter c_p0 w R) ▸ h)


-- 43 (*strings.Builder).WriteRune
def M_strings_Builder_WriteRune (b_p0 r_p1 : Value) (w : World) (R : Value → World → Prop) : Prop :=
  CALL PR F_strings_Builder_copyCheck [b_p0] w fun t8_1 w1 =>
  BND (nilchk b_p0) fun t10_2 =>
  BND (faddr 1 t10_2) fun t11_3 =>
  BND (load1 w1 t11_3) fun t12_4 =>
  BND (lenl t12_4) fun t13_5 =>
  BND (nilchk b_p0) fun t16_6 =>
  BND (faddr 1 t16_6) fun t17_7 =>
  BND (load1 w1 t17_7) fun t18_8 =>
  CALL PR F_unicode_utf8_AppendRune [t18_8, r_p1] w1 fun t20_9 w2 =>
  BND (nilchk b_p0) fun t21_10 =>
  BND (faddr 1 t21_10) fun t22_11 =>
  BND (storev 1 w2 t22_11 t20_9) fun w3 =>
  BND (nilchk b_p0) fun t24_12 =>
  BND (faddr 1 t24_12) fun t25_13 =>
  BND (load1 w3 t25_13) fun t26_14 =>
  BND (lenl t26_14) fun t27_15 =>
  BND (binv .int .sub t27_15 t13_5) fun t29_16 =>
  R (.tuple #[t29_16, Value.nilIface]) w3
def ann_strings_Builder_WriteRune : List (Nat × List Nat) := []
theorem E_strings_Builder_WriteRune (b_p0 r_p1 : Value) (w : World) (R : Value → World → Prop) : M_strings_Builder_WriteRune b_p0 r_p1 w R = den PR ann_strings_Builder_WriteRune (bodyOf Try.f43) (retQ PR Try.f43.results.toList R) (env0 [b_p0, r_p1]) w := by kernel_rfl
theorem C_strings_Builder_WriteRune {b_p0 r_p1 : Value} {w : World} {R : Value → World → Prop} (h : M_strings_Builder_WriteRune b_p0 r_p1 w R) : CALL PR F_strings_Builder_WriteRune [b_p0, r_p1] w R :=
  call_of_den2 ann_strings_Builder_WriteRune Try.func43 (by kernel_rfl) (by kernel_rfl) (by kernel_rfl) ((E_strings_Builder_WriteRune b_p0 r_p1 w R) ▸ h)


-- 44 tumbrel.label.fold
def M_label_fold (c_p0 : Value) (w : World) (R : Value → World → Prop) : Prop :=
  BND (binv .int .eql c_p0 (Value.int .i32 962)) fun t5_1 =>
  COND t5_1
  (R (Value.int .i32 963) w)
  (BND (binv .int .eql c_p0 (Value.int .i32 930)) fun t8_2 =>
  COND t8_2
  (R c_p0 w)
  (BND (binv .int .geq c_p0 (Value.int .i32 65)) fun t12_3 =>
  BND (grd (isB t12_3 true) (some c_p0)) fun t14_4 =>
  BND (grd (isB t12_3 true) (binv .int .leq t14_4 (Value.int .i32 90))) fun t15_5 =>
  BND (pickv t12_3 t15_5 (Value.bool false)) fun t16_6 =>
  JOIN (α := Value → World → Prop) (fun k_15 => COND t16_6
  (k_15 t16_6 w)
  (BND (binv .int .geq c_p0 (Value.int .i32 913)) fun t18_16 =>
  BND (grd (isB t18_16 true) (some c_p0)) fun t20_17 =>
  BND (grd (isB t18_16 true) (binv .int .leq t20_17 (Value.int .i32 937))) fun t21_18 =>
  BND (pickv t18_16 t21_18 (Value.bool false)) fun t22_19 =>
  k_15 t22_19 w))
  (fun t10_7 w1 => COND t10_7
  (BND (binv .int .add c_p0 (Value.int .i32 32)) fun t24_14 =>
  R t24_14 w1)
  (R c_p0 w1))))
def ann_label_fold : List (Nat × List Nat) := []
theorem E_label_fold (c_p0 : Value) (w : World) (R : Value → World → Prop) : M_label_fold c_p0 w R = den PR ann_label_fold (bodyOf Try.f44) (retQ PR Try.f44.results.toList R) (env0 [c_p0]) w := by kernel_rfl
theorem C_label_fold {c_p0 : Value} {w : World} {R : Value → World → Prop} (h : M_label_fold c_p0 w R) : CALL PR F_label_fold [c_p0] w R :=
  call_of_den2 ann_label_fold Try.func44 (by kernel_rfl) (by kernel_rfl) (by kernel_rfl) ((E_label_fold c_p0 w R) ▸ h)


-- 46 slices.Collect[string]
def M_slices_Collect_string (seq_p0 : Value) (w : World) (R : Value → World → Prop) : Prop :=
  CALL PR F_slices_AppendSeq_string_string [(Value.slice none 0 0), seq_p0] w fun t4_1 w1 =>
  R t4_1 w1
def ann_slices_Collect_string : List (Nat × List Nat) := []
theorem E_slices_Collect_string (seq_p0 : Value) (w : World) (R : Value → World → Prop) : M_slices_Collect_string seq_p0 w R = den PR ann_slices_Collect_string (bodyOf Try.f46) (retQ PR Try.f46.results.toList R) (env0 [seq_p0]) w := by kernel_rfl
theorem C_slices_Collect_string {seq_p0 : Value} {w : World} {R : Value → World → Prop} (h : M_slices_Collect_string seq_p0 w R) : CALL PR F_slices_Collect_string [seq_p0] w R :=
  call_of_den2 ann_slices_Collect_string Try.func46 (by kernel_rfl) (by kernel_rfl) (by kernel_rfl) ((E_slices_Collect_string seq_p0 w R) ▸ h)


-- 47 slices.SortFunc[[]string,string]
def M_slices_SortFunc_string_string (x_p0 cmp_p1 : Value) (w : World) (R : Value → World → Prop) : Prop :=
  BND (lenl x_p0) fun t6_1 =>
  BND (convi .u64 t6_1) fun t10_2 =>
  CALL PR F_math_bits_Len [t10_2] w fun t11_3 w1 =>
  CALL PR F_slices_pdqsortCmpFunc_string [x_p0, (Value.int .i64 0), t6_1, t11_3, cmp_p1] w1 fun t13_4 w2 =>
  R (.tuple #[]) w2
def ann_slices_SortFunc_string_string : List (Nat × List Nat) := []
theorem E_slices_SortFunc_string_string (x_p0 cmp_p1 : Value) (w : World) (R : Value → World → Prop) : M_slices_SortFunc_string_string x_p0 cmp_p1 w R = den PR ann_slices_SortFunc_string_string (bodyOf Try.f47) (retQ PR Try.f47.results.toList R) (env0 [x_p0, cmp_p1]) w := by kernel_rfl
theorem C_slices_SortFunc_string_string {x_p0 cmp_p1 : Value} {w : World} {R : Value → World → Prop} (h : M_slices_SortFunc_string_string x_p0 cmp_p1 w R) : CALL PR F_slices_SortFunc_string_string [x_p0, cmp_p1] w R :=
  call_of_den2 ann_slices_SortFunc_string_string Try.func47 (by kernel_rfl) (by kernel_rfl) (by kernel_rfl) ((E_slices_SortFunc_string_string x_p0 cmp_p1 w R) ▸ h)


-- 49 cmp.Compare[rune]
def M_cmp_Compare_rune (x_p0 y_p1 : Value) (w : World) (R : Value → World → Prop) : Prop :=
  CALL PR F_cmp_isNaN_rune [x_p0] w fun t8_1 w1 =>
  CALL PR F_cmp_isNaN_rune [y_p1] w1 fun t10_2 w2 =>
  COND t8_1
  (COND t10_2
  (R (Value.int .i64 0) w2)
  (R (Value.int .i64 (-1)) w2))
  (COND t10_2
  (R (Value.int .i64 1) w2)
  (BND (binv .int .lss x_p0 y_p1) fun t16_3 =>
  COND t16_3
  (R (Value.int .i64 (-1)) w2)
  (BND (binv .int .gtr x_p0 y_p1) fun t19_4 =>
  COND t19_4
  (R (Value.int .i64 1) w2)
  (R (Value.int .i64 0) w2))))
def ann_cmp_Compare_rune : List (Nat × List Nat) := []
theorem E_cmp_Compare_rune (x_p0 y_p1 : Value) (w : World) (R : Value → World → Prop) : M_cmp_Compare_rune x_p0 y_p1 w R = den PR ann_cmp_Compare_rune (bodyOf Try.f49) (retQ PR Try.f49.results.toList R) (env0 [x_p0, y_p1]) w := by kernel_rfl
theorem C_cmp_Compare_rune {x_p0 y_p1 : Value} {w : World} {R : Value → World → Prop} (h : M_cmp_Compare_rune x_p0 y_p1 w R) : CALL PR F_cmp_Compare_rune [x_p0, y_p1] w R :=
  call_of_den2 ann_cmp_Compare_rune Try.func49 (by kernel_rfl) (by kernel_rfl) (by kernel_rfl) ((E_cmp_Compare_rune x_p0 y_p1 w R) ▸ h)


-- 50 slices.IndexFunc[[]tumbrel.dead.Row,tumbrel.dead.Row]
def M_slices_IndexFunc_dead_Row_dead_Row (s_p0 f_p1 : Value) (w : World) (R : Value → World → Prop) : Prop :=
  BND (lenl s_p0) fun t7_1 =>
  ∃ (J_2 : Value → World → Prop) (m_2 : Value → World → Nat), J_2 (Value.int .i64 0) w ∧ ∀ (_d_2 : Env) (t8_5 : Value) (w1 : World), J_2 t8_5 w1 →
  (BND (binv .int .lss t8_5 t7_1) fun t9_16 =>
  COND t9_16
  (BND (iaddr 2 s_p0 t8_5) fun t14_17 =>
  BND (loadn 2 w1 t14_17) fun t15_18 =>
  CALLV PR f_p1 [t15_18] w1 fun t16_19 w2 =>
  COND t16_19
  (R t8_5 w2)
  (BND (binv .int .add t8_5 (Value.int .i64 1)) fun t18_20 =>
  (J_2 t18_20 w2 ∧ m_2 t18_20 w2 < m_2 t8_5 w1)))
  (R (Value.int .i64 (-1)) w1))
def ann_slices_IndexFunc_dead_Row_dead_Row : List (Nat × List Nat) := [(1000002, [8])]
theorem E_slices_IndexFunc_dead_Row_dead_Row (s_p0 f_p1 : Value) (w : World) (R : Value → World → Prop) : M_slices_IndexFunc_dead_Row_dead_Row s_p0 f_p1 w R = den PR ann_slices_IndexFunc_dead_Row_dead_Row (bodyOf Try.f50) (retQ PR Try.f50.results.toList R) (env0 [s_p0, f_p1]) w := by kernel_rfl
theorem C_slices_IndexFunc_dead_Row_dead_Row {s_p0 f_p1 : Value} {w : World} {R : Value → World → Prop} (h : M_slices_IndexFunc_dead_Row_dead_Row s_p0 f_p1 w R) : CALL PR F_slices_IndexFunc_dead_Row_dead_Row [s_p0, f_p1] w R :=
  call_of_den2 ann_slices_IndexFunc_dead_Row_dead_Row Try.func50 (by kernel_rfl) (by kernel_rfl) (by kernel_rfl) ((E_slices_IndexFunc_dead_Row_dead_Row s_p0 f_p1 w R) ▸ h)


-- 51 (*tumbrel.dead.Dead).find$1
def M_dead_Dead_find_1 (r_p0 a_p1 : Value) (w : World) (R : Value → World → Prop) : Prop :=
  NEW (newv 48 w r_p0) fun r_1 w1 =>
  BND (faddr 0 r_1) fun t4_2 =>
  BND (load1 w1 t4_2) fun t5_3 =>
  BND (load1 w1 a_p1) fun t6_4 =>
  BND (binv .int .eql t5_3 t6_4) fun t7_5 =>
  R t7_5 w1
def ann_dead_Dead_find_1 : List (Nat × List Nat) := []
theorem E_dead_Dead_find_1 (r_p0 a_p1 : Value) (w : World) (R : Value → World → Prop) : M_dead_Dead_find_1 r_p0 a_p1 w R = den PR ann_dead_Dead_find_1 (bodyOf Try.f51) (retQ PR Try.f51.results.toList R) (env0 [r_p0, a_p1]) w := by kernel_rfl
theorem C_dead_Dead_find_1 {r_p0 a_p1 : Value} {w : World} {R : Value → World → Prop} (h : M_dead_Dead_find_1 r_p0 a_p1 w R) : CALL PR F_dead_Dead_find_1 [r_p0, a_p1] w R :=
  call_of_den2 ann_dead_Dead_find_1 Try.func51 (by kernel_rfl) (by kernel_rfl) (by kernel_rfl) ((E_dead_Dead_find_1 r_p0 a_p1 w R) ▸ h)


-- 53 unicode.utf8.AppendRune
def M_unicode_utf8_AppendRune (p_p0 r_p1 : Value) (w : World) (R : Value → World → Prop) : Prop :=
  BND (convi .u32 r_p1) fun t6_1 =>
  BND (binv .int .leq t6_1 (Value.int .u32 127)) fun t7_2 =>
  COND t7_2
  (BND (convi .u8 r_p1) fun t10_3 =>
  BND (newslice 5 #[(Value.int .u8 0)] 1 1 [(0, 1, t10_3)] w) fun p_ => NEW p_ fun t11_4 w1 =>
  APPEND 5 1 1 (Value.int .u8 0) p_p0 t11_4 w1 fun t12_5 w2 =>
  R t12_5 w2)
  (CALL PR F_unicode_utf8_appendRuneNonASCII [p_p0, r_p1] w fun t15_6 w3 =>
  R t15_6 w3)
def ann_unicode_utf8_AppendRune : List (Nat × List Nat) := []
theorem E_unicode_utf8_AppendRune (p_p0 r_p1 : Value) (w : World) (R : Value → World → Prop) : M_unicode_utf8_AppendRune p_p0 r_p1 w R = den PR ann_unicode_utf8_AppendRune (bodyOf Try.f53) (retQ PR Try.f53.results.toList R) (env0 [p_p0, r_p1]) w := by kernel_rfl
theorem C_unicode_utf8_AppendRune {p_p0 r_p1 : Value} {w : World} {R : Value → World → Prop} (h : M_unicode_utf8_AppendRune p_p0 r_p1 w R) : CALL PR F_unicode_utf8_AppendRune [p_p0, r_p1] w R :=
  call_of_den2 ann_unicode_utf8_AppendRune Try.func53 (by kernel_rfl) (by kernel_rfl) (by kernel_rfl) ((E_unicode_utf8_AppendRune p_p0 r_p1 w R) ▸ h)


-- 55 slices.pdqsortCmpFunc[string]
def M_slices_pdqsortCmpFunc_string (L_p0 i_p1 s_p2 t_p3 a_p4 : Value) (w : World) (R : Value → World → Prop) : Prop :=
  ∃ (J_1 : Value → Value → Value → Value → Value → World → Prop) (m_1 : Value → Value → Value → Value → Value → World → Nat), J_1 i_p1 s_p2 t_p3 (Value.bool true) (Value.bool true) w ∧ ∀ (_d_1 : Env) (i_2 s_3 t_4 a_5 y_6 : Value) (w1 : World), J_1 i_2 s_3 t_4 a_5 y_6 w1 →
  (BND (binv .int .sub s_3 i_2) fun t23_143 =>
  BND (binv .int .leq t23_143 (Value.int .i64 12)) fun t25_144 =>
  COND t25_144
  (CALL PR F_slices_insertionSortCmpFunc_string [L_p0, i_2, s_3, a_p4] w1 fun t30_145 w2 =>
  R (.tuple #[]) w2)
  (BND (binv .int .eql t_4 (Value.int .i64 0)) fun t32_146 =>
  COND t32_146
  (CALL PR F_slices_heapSortCmpFunc_string [L_p0, i_2, s_3, a_p4] w1 fun t37_147 w3 =>
  R (.tuple #[]) w3)
  (BND (unv .not a_5) fun t39_148 =>
  JOIN (α := Value → World → Prop) (fun k_246 => COND t39_148
  (CALL PR F_slices_breakPatternsCmpFunc_string [L_p0, i_2, s_3, a_p4] w1 fun t44_247 w16 =>
  BND (binv .int .sub t_4 (Value.int .i64 1)) fun t46_248 =>
  k_246 t46_248 w16)
  (k_246 t_4 w1))
  (fun t_149 w4 => CALL PR F_slices_choosePivotCmpFunc_string [L_p0, i_2, s_3, a_p4] w4 fun t52_157 w5 =>
  BND (extractv t52_157 0) fun t53_158 =>
  BND (extractv t52_157 1) fun t54_159 =>
  BND (binv .int .eql t54_159 (Value.int .i64 2)) fun t56_160 =>
  JOIN (α := Value → Value → World → Prop) (fun k_241 => COND t56_160
  (CALL PR F_slices_reverseRangeCmpFunc_string [L_p0, i_2, s_3, a_p4] w5 fun t61_242 w15 =>
  BND (binv .int .sub s_3 (Value.int .i64 1)) fun t63_243 =>
  BND (binv .int .sub t53_158 i_2) fun t66_244 =>
  BND (binv .int .sub t63_243 t66_244) fun t67_245 =>
  k_241 t67_245 (Value.int .i64 1) w15)
  (k_241 t53_158 t54_159 w5))
  (fun t13_161 t14_162 w6 => BND (grd (isB a_5 true) (some y_6)) fun t70_174 =>
  BND (pickv a_5 t70_174 (Value.bool false)) fun t71_175 =>
  BND (grd (isB t71_175 true) (some t14_162)) fun t73_176 =>
  BND (grd (isB t71_175 true) (binv .int .eql t73_176 (Value.int .i64 1))) fun t74_177 =>
  BND (pickv t71_175 t74_177 (Value.bool false)) fun t75_178 =>
  JOIN (α := World → Prop) (fun k_239 => COND t75_178
  (CALL PR F_slices_partialInsertionSortCmpFunc_string [L_p0, i_2, s_3, a_p4] w6 fun t80_240 w14 =>
  COND t80_240
  (R (.tuple #[]) w14)
  (k_239 w14))
  (k_239 w6))
  (fun w7 => BND (binv .int .gtr i_2 (Value.int .i64 0)) fun t82_184 =>
  BND (grd (isB t82_184 true) (some a_p4)) fun t84_185 =>
  BND (grd (isB t82_184 true) (some L_p0)) fun t85_186 =>
  BND (grd (isB t82_184 true) (some i_2)) fun t86_187 =>
  BND (grd (isB t82_184 true) (binv .int .sub t86_187 (Value.int .i64 1))) fun t87_188 =>
  BND (grd (isB t82_184 true) (iaddr 1 t85_186 t87_188)) fun t88_189 =>
  BND (grd (isB t82_184 true) (some L_p0)) fun t90_190 =>
  BND (grd (isB t82_184 true) (some t13_161)) fun t91_191 =>
  BND (grd (isB t82_184 true) (iaddr 1 t90_190 t91_191)) fun t92_192 =>
  BND (grd (isB t82_184 true) (load1 w7.drew t88_189)) fun t89_193 =>
  BND (grd (isB t82_184 true) (load1 w7.drew t92_192)) fun t93_194 =>
  GEF (isB t82_184 true) (fun k_ => CALLV PR t84_185 [t89_193, t93_194] w7.drew k_) w7.drew fun t94_195 w8 =>
  BND (grd (isB t82_184 true) (binv .int .lss t94_195 (Value.int .i64 0))) fun t95_196 =>
  BND (grd (isB t82_184 true) (unv .not t95_196)) fun t96_197 =>
  BND (pickv t82_184 t96_197 (Value.bool false)) fun t97_198 =>
  COND t97_198
  (CALL PR F_slices_partitionEqualCmpFunc_string [L_p0, i_2, s_3, t13_161, a_p4] w8 fun t103_199 w9 =>
  (J_1 t103_199 s_3 t_149 a_5 y_6 w9 ∧ m_1 t103_199 s_3 t_149 a_5 y_6 w9 < m_1 i_2 s_3 t_4 a_5 y_6 w1))
  (CALL PR F_slices_partitionCmpFunc_string [L_p0, i_2, s_3, t13_161, a_p4] w8 fun t111_200 w10 =>
  BND (extractv t111_200 0) fun t112_201 =>
  BND (extractv t111_200 1) fun t113_202 =>
  BND (binv .int .sub t112_201 i_2) fun t117_203 =>
  BND (binv .int .sub s_3 t112_201) fun t120_204 =>
  BND (binv .int .quo t23_143 (Value.int .i64 8)) fun t122_205 =>
  BND (binv .int .lss t117_203 t120_204) fun t125_206 =>
  JOIN (α := Value → Value → Value → World → Prop) (fun k_232 => COND t125_206
  (BND (binv .int .geq t117_203 t122_205) fun t128_233 =>
  CALL PR F_slices_pdqsortCmpFunc_string [L_p0, i_2, t112_201, t_149, a_p4] w10 fun t134_234 w12 =>
  BND (binv .int .add t112_201 (Value.int .i64 1)) fun t136_235 =>
  k_232 t136_235 s_3 t128_233 w12)
  (BND (binv .int .geq t120_204 t122_205) fun t139_236 =>
  BND (binv .int .add t112_201 (Value.int .i64 1)) fun t142_237 =>
  CALL PR F_slices_pdqsortCmpFunc_string [L_p0, t142_237, s_3, t_149, a_p4] w10 fun t146_238 w13 =>
  k_232 i_2 t112_201 t139_236 w13))
  (fun i_207 s_208 a_209 w11 => (J_1 i_207 s_208 t_149 a_209 t113_202 w11 ∧ m_1 i_207 s_208 t_149 a_209 t113_202 w11 < m_1 i_2 s_3 t_4 a_5 y_6 w1)))))))))
def ann_slices_pdqsortCmpFunc_string : List (Nat × List Nat) := [(17, [0, 1, 2, 3, 4, 5, 6, 7, 9, 10, 11, 8, 12, 13, 14, 15, 16]), (1000002, [1, 2, 3, 10, 11])]
theorem E_slices_pdqsortCmpFunc_string (L_p0 i_p1 s_p2 t_p3 a_p4 : Value) (w : World) (R : Value → World → Prop) : M_slices_pdqsortCmpFunc_string L_p0 i_p1 s_p2 t_p3 a_p4 w R = den PR ann_slices_pdqsortCmpFunc_string (bodyOf Try.f55) (retQ PR Try.f55.results.toList R) (env0 [L_p0, i_p1, s_p2, t_p3, a_p4]) w := by kernel_rfl
theorem C_slices_pdqsortCmpFunc_string {L_p0 i_p1 s_p2 t_p3 a_p4 : Value} {w : World} {R : Value → World → Prop} (h : M_slices_pdqsortCmpFunc_string L_p0 i_p1 s_p2 t_p3 a_p4 w R) : CALL PR F_slices_pdqsortCmpFunc_string [L_p0, i_p1, s_p2, t_p3, a_p4] w R :=
  call_of_den2 ann_slices_pdqsortCmpFunc_string Try.func55 (by kernel_rfl) (by kernel_rfl) (by kernel_rfl) ((E_slices_pdqsortCmpFunc_string L_p0 i_p1 s_p2 t_p3 a_p4 w R) ▸ h)


-- 56 math.bits.Len
def M_math_bits_Len (x_p0 : Value) (w : World) (R : Value → World → Prop) : Prop :=
  COND (Value.bool false)
  (BND (convi .u32 x_p0) fun t4_1 =>
  CALL PR F_math_bits_Len32 [t4_1] w fun t5_2 w1 =>
  R t5_2 w1)
  (CALL PR F_math_bits_Len64 [x_p0] w fun t7_3 w2 =>
  R t7_3 w2)
def ann_math_bits_Len : List (Nat × List Nat) := []
theorem E_math_bits_Len (x_p0 : Value) (w : World) (R : Value → World → Prop) : M_math_bits_Len x_p0 w R = den PR ann_math_bits_Len (bodyOf Try.f56) (retQ PR Try.f56.results.toList R) (env0 [x_p0]) w := by kernel_rfl
theorem C_math_bits_Len {x_p0 : Value} {w : World} {R : Value → World → Prop} (h : M_math_bits_Len x_p0 w R) : CALL PR F_math_bits_Len [x_p0] w R :=
  call_of_den2 ann_math_bits_Len Try.func56 (by kernel_rfl) (by kernel_rfl) (by kernel_rfl) ((E_math_bits_Len x_p0 w R) ▸ h)


-- 57 cmp.isNaN[rune]
def M_cmp_isNaN_rune (x_p0 : Value) (w : World) (R : Value → World → Prop) : Prop :=
  BND (binv .int .neq x_p0 x_p0) fun t5_1 =>
  R t5_1 w
def ann_cmp_isNaN_rune : List (Nat × List Nat) := []
theorem E_cmp_isNaN_rune (x_p0 : Value) (w : World) (R : Value → World → Prop) : M_cmp_isNaN_rune x_p0 w R = den PR ann_cmp_isNaN_rune (bodyOf Try.f57) (retQ PR Try.f57.results.toList R) (env0 [x_p0]) w := by kernel_rfl
theorem C_cmp_isNaN_rune {x_p0 : Value} {w : World} {R : Value → World → Prop} (h : M_cmp_isNaN_rune x_p0 w R) : CALL PR F_cmp_isNaN_rune [x_p0] w R :=
  call_of_den2 ann_cmp_isNaN_rune Try.func57 (by kernel_rfl) (by kernel_rfl) (by kernel_rfl) ((E_cmp_isNaN_rune x_p0 w R) ▸ h)


-- 59 unicode.utf8.appendRuneNonASCII
def M_unicode_utf8_appendRuneNonASCII (L_p0 i_p1 : Value) (w : World) (R : Value → World → Prop) : Prop :=
  BND (convi .u32 i_p1) fun A_1 =>
  BND (binv .int .leq A_1 (Value.int .u32 2047)) fun t13_2 =>
  COND t13_2
  (BND (shiftv .shr i_p1 (Value.int .u64 6)) fun t16_3 =>
  BND (convi .u8 t16_3) fun t17_4 =>
  BND (binv .int .or (Value.int .u8 192) t17_4) fun t18_5 =>
  BND (convi .u8 i_p1) fun t20_6 =>
  BND (binv .int .and t20_6 (Value.int .u8 63)) fun t21_7 =>
  BND (binv .int .or (Value.int .u8 128) t21_7) fun t22_8 =>
  BND (newslice 5 #[(Value.int .u8 0)] 1 2 [(0, 1, t18_5), (1, 1, t22_8)] w) fun p_ => NEW p_ fun t23_9 w1 =>
  APPEND 5 1 1 (Value.int .u8 0) L_p0 t23_9 w1 fun t24_10 w2 =>
  R t24_10 w2)
  (BND (binv .int .lss A_1 (Value.int .u32 55296)) fun t27_11 =>
  JOIN (α := Value → World → Prop) (fun k_53 => COND t27_11
  (k_53 t27_11 w)
  (BND (binv .int .lss (Value.int .u32 57343) A_1) fun t29_54 =>
  BND (grd (isB t29_54 true) (some A_1)) fun t31_55 =>
  BND (grd (isB t29_54 true) (binv .int .leq t31_55 (Value.int .u32 65535))) fun t32_56 =>
  BND (pickv t29_54 t32_56 (Value.bool false)) fun t33_57 =>
  k_53 t33_57 w))
  (fun t25_12 w3 => COND t25_12
  (BND (shiftv .shr i_p1 (Value.int .u64 12)) fun t36_19 =>
  BND (convi .u8 t36_19) fun t37_20 =>
  BND (binv .int .or (Value.int .u8 224) t37_20) fun t38_21 =>
  BND (shiftv .shr i_p1 (Value.int .u64 6)) fun t40_22 =>
  BND (convi .u8 t40_22) fun t41_23 =>
  BND (binv .int .and t41_23 (Value.int .u8 63)) fun t42_24 =>
  BND (binv .int .or (Value.int .u8 128) t42_24) fun t43_25 =>
  BND (convi .u8 i_p1) fun t45_26 =>
  BND (binv .int .and t45_26 (Value.int .u8 63)) fun t46_27 =>
  BND (binv .int .or (Value.int .u8 128) t46_27) fun t47_28 =>
  BND (newslice 5 #[(Value.int .u8 0)] 1 3 [(0, 1, t38_21), (1, 1, t43_25), (2, 1, t47_28)] w3) fun p_ => NEW p_ fun t48_29 w4 =>
  APPEND 5 1 1 (Value.int .u8 0) L_p0 t48_29 w4 fun t49_30 w5 =>
  R t49_30 w5)
  (BND (binv .int .gtr A_1 (Value.int .u32 65535)) fun t52_31 =>
  BND (grd (isB t52_31 true) (some A_1)) fun t54_32 =>
  BND (grd (isB t52_31 true) (binv .int .leq t54_32 (Value.int .u32 1114111))) fun t55_33 =>
  BND (pickv t52_31 t55_33 (Value.bool false)) fun t56_34 =>
  COND t56_34
  (BND (shiftv .shr i_p1 (Value.int .u64 18)) fun t59_35 =>
  BND (convi .u8 t59_35) fun t60_36 =>
  BND (binv .int .or (Value.int .u8 240) t60_36) fun t61_37 =>
  BND (shiftv .shr i_p1 (Value.int .u64 12)) fun t63_38 =>
  BND (convi .u8 t63_38) fun t64_39 =>
  BND (binv .int .and t64_39 (Value.int .u8 63)) fun t65_40 =>
  BND (binv .int .or (Value.int .u8 128) t65_40) fun t66_41 =>
  BND (shiftv .shr i_p1 (Value.int .u64 6)) fun t68_42 =>
  BND (convi .u8 t68_42) fun t69_43 =>
  BND (binv .int .and t69_43 (Value.int .u8 63)) fun t70_44 =>
  BND (binv .int .or (Value.int .u8 128) t70_44) fun t71_45 =>
  BND (convi .u8 i_p1) fun t73_46 =>
  BND (binv .int .and t73_46 (Value.int .u8 63)) fun t74_47 =>
  BND (binv .int .or (Value.int .u8 128) t74_47) fun t75_48 =>
  BND (newslice 5 #[(Value.int .u8 0)] 1 4 [(0, 1, t61_37), (1, 1, t66_41), (2, 1, t71_45), (3, 1, t75_48)] w3) fun p_ => NEW p_ fun t76_49 w6 =>
  APPEND 5 1 1 (Value.int .u8 0) L_p0 t76_49 w6 fun t77_50 w7 =>
  R t77_50 w7)
  (BND (newslice 5 #[(Value.int .u8 0)] 1 3 [(0, 1, (Value.int .u8 239)), (1, 1, (Value.int .u8 191)), (2, 1, (Value.int .u8 189))] w3) fun p_ => NEW p_ fun r_51 w8 =>
  APPEND 5 1 1 (Value.int .u8 0) L_p0 r_51 w8 fun a_52 w9 =>
  R a_52 w9))))
def ann_unicode_utf8_appendRuneNonASCII : List (Nat × List Nat) := []
theorem E_unicode_utf8_appendRuneNonASCII (L_p0 i_p1 : Value) (w : World) (R : Value → World → Prop) : M_unicode_utf8_appendRuneNonASCII L_p0 i_p1 w R = den PR ann_unicode_utf8_appendRuneNonASCII (bodyOf Try.f59) (retQ PR Try.f59.results.toList R) (env0 [L_p0, i_p1]) w := by kernel_rfl
theorem C_unicode_utf8_appendRuneNonASCII {L_p0 i_p1 : Value} {w : World} {R : Value → World → Prop} (h : M_unicode_utf8_appendRuneNonASCII L_p0 i_p1 w R) : CALL PR F_unicode_utf8_appendRuneNonASCII [L_p0, i_p1] w R :=
  call_of_den2 ann_unicode_utf8_appendRuneNonASCII Try.func59 (by kernel_rfl) (by kernel_rfl) (by kernel_rfl) ((E_unicode_utf8_appendRuneNonASCII L_p0 i_p1 w R) ▸ h)


-- 60 slices.insertionSortCmpFunc[string]
def M_slices_insertionSortCmpFunc_string (data_p0 a_p1 b_p2 cmp_p3 : Value) (w : World) (R : Value → World → Prop) : Prop :=
  BND (binv .int .add a_p1 (Value.int .i64 1)) fun t11_1 =>
  ∃ (J_2 : Value → World → Prop) (m_2 : Value → World → Nat), J_2 t11_1 w ∧ ∀ (_d_2 : Env) (i_3 : Value) (w1 : World), J_2 i_3 w1 →
  (BND (binv .int .lss i_3 b_p2) fun t14_46 =>
  COND t14_46
  (∃ (J_47 : Value → World → Prop) (m_47 : Value → World → Nat), J_47 i_3 w1 ∧ ∀ (_d_47 : Env) (j_48 : Value) (w2 : World), J_47 j_48 w2 →
  (BND (binv .int .gtr j_48 a_p1) fun t20_84 =>
  BND (grd (isB t20_84 true) (some cmp_p3)) fun t22_85 =>
  BND (grd (isB t20_84 true) (some data_p0)) fun t23_86 =>
  BND (grd (isB t20_84 true) (some j_48)) fun t24_87 =>
  BND (grd (isB t20_84 true) (iaddr 1 t23_86 t24_87)) fun t25_88 =>
  BND (grd (isB t20_84 true) (some data_p0)) fun t27_89 =>
  BND (grd (isB t20_84 true) (some j_48)) fun t28_90 =>
  BND (grd (isB t20_84 true) (binv .int .sub t28_90 (Value.int .i64 1))) fun t29_91 =>
  BND (grd (isB t20_84 true) (iaddr 1 t27_89 t29_91)) fun t30_92 =>
  BND (grd (isB t20_84 true) (load1 w2.drew t25_88)) fun t26_93 =>
  BND (grd (isB t20_84 true) (load1 w2.drew t30_92)) fun t31_94 =>
  GEF (isB t20_84 true) (fun k_ => CALLV PR t22_85 [t26_93, t31_94] w2.drew k_) w2.drew fun t32_95 w3 =>
  BND (grd (isB t20_84 true) (binv .int .lss t32_95 (Value.int .i64 0))) fun t33_96 =>
  BND (pickv t20_84 t33_96 (Value.bool false)) fun t34_97 =>
  COND t34_97
  (BND (binv .int .sub j_48 (Value.int .i64 1)) fun t41_98 =>
  BND (binv .int .sub j_48 (Value.int .i64 1)) fun t44_99 =>
  BND (iaddr 1 data_p0 t44_99) fun t45_100 =>
  BND (iaddr 1 data_p0 j_48) fun t49_101 =>
  BND (load1 w3.drew t45_100) fun t46_102 =>
  BND (load1 w3.drew t49_101) fun t50_103 =>
  BND (iaddr 1 data_p0 j_48) fun t51_104 =>
  BND (storev 1 w3.drew t51_104 t46_102) fun w4 =>
  BND (iaddr 1 data_p0 t41_98) fun t52_105 =>
  BND (storev 1 w4 t52_105 t50_103) fun w5 =>
  BND (binv .int .sub j_48 (Value.int .i64 1)) fun t36_106 =>
  (J_47 t36_106 w5 ∧ m_47 t36_106 w5 < m_47 j_48 w2))
  (BND (binv .int .add i_3 (Value.int .i64 1)) fun t16_107 =>
  (J_2 t16_107 w3 ∧ m_2 t16_107 w3 < m_2 i_3 w1))))
  (R (.tuple #[]) w1))
def ann_slices_insertionSortCmpFunc_string : List (Nat × List Nat) := [(4, [0, 1, 2, 3, 4, 5, 6, 7, 9, 10, 11, 12, 8, 13, 14, 15, 16]), (6, [0, 1, 2, 3, 4, 5, 6, 7, 8, 10, 11, 12, 9, 13, 14, 15, 16, 17]), (1000001, [8]), (1000004, [9])]
theorem E_slices_insertionSortCmpFunc_string (data_p0 a_p1 b_p2 cmp_p3 : Value) (w : World) (R : Value → World → Prop) : M_slices_insertionSortCmpFunc_string data_p0 a_p1 b_p2 cmp_p3 w R = den PR ann_slices_insertionSortCmpFunc_string (bodyOf Try.f60) (retQ PR Try.f60.results.toList R) (env0 [data_p0, a_p1, b_p2, cmp_p3]) w := by kernel_rfl
theorem C_slices_insertionSortCmpFunc_string {data_p0 a_p1 b_p2 cmp_p3 : Value} {w : World} {R : Value → World → Prop} (h : M_slices_insertionSortCmpFunc_string data_p0 a_p1 b_p2 cmp_p3 w R) : CALL PR F_slices_insertionSortCmpFunc_string [data_p0, a_p1, b_p2, cmp_p3] w R :=
  call_of_den2 ann_slices_insertionSortCmpFunc_string Try.func60 (by kernel_rfl) (by kernel_rfl) (by kernel_rfl) ((E_slices_insertionSortCmpFunc_string data_p0 a_p1 b_p2 cmp_p3 w R) ▸ h)


-- 61 slices.heapSortCmpFunc[string]
def M_slices_heapSortCmpFunc_string (data_p0 a_p1 b_p2 cmp_p3 : Value) (w : World) (R : Value → World → Prop) : Prop :=
  BND (binv .int .sub b_p2 a_p1) fun t16_1 =>
  BND (binv .int .sub t16_1 (Value.int .i64 1)) fun t18_2 =>
  BND (binv .int .quo t18_2 (Value.int .i64 2)) fun t19_3 =>
  ∃ (J_4 : Value → World → Prop) (m_4 : Value → World → Nat), J_4 t19_3 w ∧ ∀ (_d_4 : Env) (i_5 : Value) (w1 : World), J_4 i_5 w1 →
  (BND (binv .int .geq i_5 (Value.int .i64 0)) fun t21_16 =>
  COND t21_16
  (CALL PR F_slices_siftDownCmpFunc_string [data_p0, i_5, t16_1, a_p1, cmp_p3] w1 fun t29_17 w2 =>
  BND (binv .int .sub i_5 (Value.int .i64 1)) fun t23_18 =>
  (J_4 t23_18 w2 ∧ m_4 t23_18 w2 < m_4 i_5 w1))
  (BND (binv .int .sub t16_1 (Value.int .i64 1)) fun t31_19 =>
  ∃ (J_20 : Value → World → Prop) (m_20 : Value → World → Nat), J_20 t31_19 w1 ∧ ∀ (_d_20 : Env) (i_21 : Value) (w3 : World), J_20 i_21 w3 →
  (BND (binv .int .geq i_21 (Value.int .i64 0)) fun t33_50 =>
  COND t33_50
  (BND (binv .int .add a_p1 i_21) fun t41_51 =>
  BND (binv .int .add a_p1 i_21) fun t45_52 =>
  BND (iaddr 1 data_p0 t45_52) fun t46_53 =>
  BND (iaddr 1 data_p0 a_p1) fun t50_54 =>
  BND (load1 w3.drew t46_53) fun t47_55 =>
  BND (load1 w3.drew t50_54) fun t51_56 =>
  BND (iaddr 1 data_p0 a_p1) fun t52_57 =>
  BND (storev 1 w3.drew t52_57 t47_55) fun w4 =>
  BND (iaddr 1 data_p0 t41_51) fun t53_58 =>
  BND (storev 1 w4 t53_58 t51_56) fun w5 =>
  CALL PR F_slices_siftDownCmpFunc_string [data_p0, (Value.int .i64 0), i_21, a_p1, cmp_p3] w5 fun t59_59 w6 =>
  BND (binv .int .sub i_21 (Value.int .i64 1)) fun t35_60 =>
  (J_20 t35_60 w6 ∧ m_20 t35_60 w6 < m_20 i_21 w3))
  (R (.tuple #[]) w3))))
def ann_slices_heapSortCmpFunc_string : List (Nat × List Nat) := [(10, [0, 1, 2, 3, 4, 5, 6, 7, 8, 9, 10, 12, 13, 14, 11, 15, 16, 17, 18, 19]), (1000004, [11]), (1000008, [12])]
theorem E_slices_heapSortCmpFunc_string (data_p0 a_p1 b_p2 cmp_p3 : Value) (w : World) (R : Value → World → Prop) : M_slices_heapSortCmpFunc_string data_p0 a_p1 b_p2 cmp_p3 w R = den PR ann_slices_heapSortCmpFunc_string (bodyOf Try.f61) (retQ PR Try.f61.results.toList R) (env0 [data_p0, a_p1, b_p2, cmp_p3]) w := by kernel_rfl
theorem C_slices_heapSortCmpFunc_string {data_p0 a_p1 b_p2 cmp_p3 : Value} {w : World} {R : Value → World → Prop} (h : M_slices_heapSortCmpFunc_string data_p0 a_p1 b_p2 cmp_p3 w R) : CALL PR F_slices_heapSortCmpFunc_string [data_p0, a_p1, b_p2, cmp_p3] w R :=
  call_of_den2 ann_slices_heapSortCmpFunc_string Try.func61 (by kernel_rfl) (by kernel_rfl) (by kernel_rfl) ((E_slices_heapSortCmpFunc_string data_p0 a_p1 b_p2 cmp_p3 w R) ▸ h)


-- 62 slices.breakPatternsCmpFunc[string]
def M_slices_breakPatternsCmpFunc_string (L_p0 i_p1 s_p2 t_p3 : Value) (w : World) (R : Value → World → Prop) : Prop :=
  BND (binv .int .sub s_p2 i_p1) fun t15_1 =>
  BND (binv .int .geq t15_1 (Value.int .i64 8)) fun t17_2 =>
  JOIN (α := World → Prop) (fun k_56 => COND t17_2
  (BND (convi .u64 t15_1) fun t19_57 =>
  NEW (newv 117 w (Value.int .u64 0)) fun r_58 w2 =>
  BND (storev 1 w2 r_58 t19_57) fun w3 =>
  CALL PR F_slices_nextPowerOfTwo [t15_1] w3 fun t21_59 w4 =>
  BND (binv .int .quo t15_1 (Value.int .i64 4)) fun t24_60 =>
  BND (binv .int .mul t24_60 (Value.int .i64 2)) fun t25_61 =>
  BND (binv .int .add i_p1 t25_61) fun t26_62 =>
  BND (binv .int .sub t26_62 (Value.int .i64 1)) fun t27_63 =>
  ∃ (J_64 : Value → World → Prop) (m_64 : Value → World → Nat), J_64 t27_63 w4 ∧ ∀ (_d_64 : Env) (y_65 : Value) (w5 : World), J_64 y_65 w5 →
  (BND (binv .int .quo t15_1 (Value.int .i64 4)) fun t31_106 =>
  BND (binv .int .mul t31_106 (Value.int .i64 2)) fun t32_107 =>
  BND (binv .int .add i_p1 t32_107) fun t33_108 =>
  BND (binv .int .add t33_108 (Value.int .i64 1)) fun t34_109 =>
  BND (binv .int .leq y_65 t34_109) fun t35_110 =>
  COND t35_110
  (CALL PR F_slices_xorshift_Next [r_58] w5 fun t38_111 w6 =>
  BND (binv .int .sub t21_59 (Value.int .u64 1)) fun t40_112 =>
  BND (binv .int .and t38_111 t40_112) fun t41_113 =>
  BND (convi .i64 t41_113) fun t42_114 =>
  BND (binv .int .geq t42_114 t15_1) fun t45_115 =>
  JOIN (α := Value → World → Prop) (fun k_129 => COND t45_115
  (BND (binv .int .sub t42_114 t15_1) fun t48_130 =>
  k_129 t48_130 w6)
  (k_129 t42_114 w6))
  (fun t12_116 w7 => BND (binv .int .add i_p1 t12_116) fun t54_120 =>
  BND (binv .int .add i_p1 t12_116) fun t58_121 =>
  BND (iaddr 1 L_p0 t58_121) fun t59_122 =>
  BND (iaddr 1 L_p0 y_65) fun t63_123 =>
  BND (load1 w7.drew t59_122) fun t60_124 =>
  BND (load1 w7.drew t63_123) fun t64_125 =>
  BND (iaddr 1 L_p0 y_65) fun t65_126 =>
  BND (storev 1 w7.drew t65_126 t60_124) fun w8 =>
  BND (iaddr 1 L_p0 t54_120) fun t66_127 =>
  BND (storev 1 w8 t66_127 t64_125) fun w9 =>
  BND (binv .int .add y_65 (Value.int .i64 1)) fun t37_128 =>
  (J_64 t37_128 w9 ∧ m_64 t37_128 w9 < m_64 y_65 w5)))
  (k_56 w5)))
  (k_56 w))
  (fun w1 => R (.tuple #[]) w1)
def ann_slices_breakPatternsCmpFunc_string : List (Nat × List Nat) := [(10, [0, 1, 2, 3, 4, 5, 6, 7, 8, 9, 10, 12, 13, 14, 11, 15, 16, 17, 18, 19]), (1000005, [11])]
theorem E_slices_breakPatternsCmpFunc_string (L_p0 i_p1 s_p2 t_p3 : Value) (w : World) (R : Value → World → Prop) : M_slices_breakPatternsCmpFunc_string L_p0 i_p1 s_p2 t_p3 w R = den PR ann_slices_breakPatternsCmpFunc_string (bodyOf Try.f62) (retQ PR Try.f62.results.toList R) (env0 [L_p0, i_p1, s_p2, t_p3]) w := by kernel_rfl
theorem C_slices_breakPatternsCmpFunc_string {L_p0 i_p1 s_p2 t_p3 : Value} {w : World} {R : Value → World → Prop} (h : M_slices_breakPatternsCmpFunc_string L_p0 i_p1 s_p2 t_p3 w R) : CALL PR F_slices_breakPatternsCmpFunc_string [L_p0, i_p1, s_p2, t_p3] w R :=
  call_of_den2 ann_slices_breakPatternsCmpFunc_string Try.func62 (by kernel_rfl) (by kernel_rfl) (by kernel_rfl) ((E_slices_breakPatternsCmpFunc_string L_p0 i_p1 s_p2 t_p3 w R) ▸ h)


-- 63 slices.choosePivotCmpFunc[string]
def M_slices_choosePivotCmpFunc_string (data_p0 a_p1 b_p2 cmp_p3 : Value) (w : World) (R : Value → World → Prop) : Prop :=
  BND (binv .int .sub b_p2 a_p1) fun t17_1 =>
  NEW (newv 3 w (Value.int .i64 0)) fun swaps_2 w1 =>
  BND (binv .int .quo t17_1 (Value.int .i64 4)) fun t20_3 =>
  BND (binv .int .mul t20_3 (Value.int .i64 1)) fun t21_4 =>
  BND (binv .int .add a_p1 t21_4) fun t22_5 =>
  BND (binv .int .quo t17_1 (Value.int .i64 4)) fun t25_6 =>
  BND (binv .int .mul t25_6 (Value.int .i64 2)) fun t26_7 =>
  BND (binv .int .add a_p1 t26_7) fun t27_8 =>
  BND (binv .int .quo t17_1 (Value.int .i64 4)) fun t30_9 =>
  BND (binv .int .mul t30_9 (Value.int .i64 3)) fun t31_10 =>
  BND (binv .int .add a_p1 t31_10) fun t32_11 =>
  BND (binv .int .geq t17_1 (Value.int .i64 8)) fun t34_12 =>
  JOIN (α := Value → World → Prop) (fun k_39 => COND t34_12
  (BND (binv .int .geq t17_1 (Value.int .i64 50)) fun t36_40 =>
  JOIN (α := Value → Value → Value → World → Prop) (fun k_57 => COND t36_40
  (CALL PR F_slices_medianAdjacentCmpFunc_string [data_p0, t22_5, swaps_2, cmp_p3] w1 fun t40_58 w5 =>
  CALL PR F_slices_medianAdjacentCmpFunc_string [data_p0, t27_8, swaps_2, cmp_p3] w5 fun t44_59 w6 =>
  CALL PR F_slices_medianAdjacentCmpFunc_string [data_p0, t32_11, swaps_2, cmp_p3] w6 fun t48_60 w7 =>
  k_57 t40_58 t44_59 t48_60 w7)
  (k_57 t22_5 t27_8 t32_11 w1))
  (fun i_41 j_42 k_43 w3 => CALL PR F_slices_medianCmpFunc_string [data_p0, i_41, j_42, k_43, swaps_2, cmp_p3] w3 fun t54_56 w4 =>
  k_39 t54_56 w4))
  (k_39 t27_8 w1))
  (fun j_14 w2 => BND (load1 w2 swaps_2) fun t55_36 =>
  BND (binv .int .eql t55_36 (Value.int .i64 0)) fun t58_37 =>
  COND t58_37
  (R (.tuple #[j_14, (Value.int .i64 1)]) w2)
  (BND (binv .int .eql t55_36 (Value.int .i64 12)) fun t61_38 =>
  COND t61_38
  (R (.tuple #[j_14, (Value.int .i64 2)]) w2)
  (R (.tuple #[j_14, (Value.int .i64 0)]) w2)))
def ann_slices_choosePivotCmpFunc_string : List (Nat × List Nat) := []
theorem E_slices_choosePivotCmpFunc_string (data_p0 a_p1 b_p2 cmp_p3 : Value) (w : World) (R : Value → World → Prop) : M_slices_choosePivotCmpFunc_string data_p0 a_p1 b_p2 cmp_p3 w R = den PR ann_slices_choosePivotCmpFunc_string (bodyOf Try.f63) (retQ PR Try.f63.results.toList R) (env0 [data_p0, a_p1, b_p2, cmp_p3]) w := by kernel_rfl
theorem C_slices_choosePivotCmpFunc_string {data_p0 a_p1 b_p2 cmp_p3 : Value} {w : World} {R : Value → World → Prop} (h : M_slices_choosePivotCmpFunc_string data_p0 a_p1 b_p2 cmp_p3 w R) : CALL PR F_slices_choosePivotCmpFunc_string [data_p0, a_p1, b_p2, cmp_p3] w R :=
  call_of_den2 ann_slices_choosePivotCmpFunc_string Try.func63 (by kernel_rfl) (by kernel_rfl) (by kernel_rfl) ((E_slices_choosePivotCmpFunc_string data_p0 a_p1 b_p2 cmp_p3 w R) ▸ h)


-- 64 slices.reverseRangeCmpFunc[string]
def M_slices_reverseRangeCmpFunc_string (data_p0 a_p1 b_p2 cmp_p3 : Value) (w : World) (R : Value → World → Prop) : Prop :=
  BND (binv .int .sub b_p2 (Value.int .i64 1)) fun t12_1 =>
  ∃ (J_2 : Value → Value → World → Prop) (m_2 : Value → Value → World → Nat), J_2 a_p1 t12_1 w ∧ ∀ (_d_2 : Env) (i_3 j_4 : Value) (w1 : World), J_2 i_3 j_4 w1 →
  (BND (binv .int .lss i_3 j_4) fun t15_26 =>
  COND t15_26
  (BND (iaddr 1 data_p0 j_4) fun t22_27 =>
  BND (iaddr 1 data_p0 i_3) fun t26_28 =>
  BND (load1 w1.drew t22_27) fun t23_29 =>
  BND (load1 w1.drew t26_28) fun t27_30 =>
  BND (iaddr 1 data_p0 i_3) fun t28_31 =>
  BND (storev 1 w1.drew t28_31 t23_29) fun w2 =>
  BND (iaddr 1 data_p0 j_4) fun t29_32 =>
  BND (storev 1 w2 t29_32 t27_30) fun w3 =>
  BND (binv .int .add i_3 (Value.int .i64 1)) fun t31_33 =>
  BND (binv .int .sub j_4 (Value.int .i64 1)) fun t33_34 =>
  (J_2 t31_33 t33_34 w3 ∧ m_2 t31_33 t33_34 w3 < m_2 i_3 j_4 w1))
  (R (.tuple #[]) w1))
def ann_slices_reverseRangeCmpFunc_string : List (Nat × List Nat) := [(3, [0, 1, 2, 3, 4, 5, 6, 8, 9, 10, 7, 11, 12, 13, 14, 15]), (1000002, [8, 9])]
theorem E_slices_reverseRangeCmpFunc_string (data_p0 a_p1 b_p2 cmp_p3 : Value) (w : World) (R : Value → World → Prop) : M_slices_reverseRangeCmpFunc_string data_p0 a_p1 b_p2 cmp_p3 w R = den PR ann_slices_reverseRangeCmpFunc_string (bodyOf Try.f64) (retQ PR Try.f64.results.toList R) (env0 [data_p0, a_p1, b_p2, cmp_p3]) w := by kernel_rfl
theorem C_slices_reverseRangeCmpFunc_string {data_p0 a_p1 b_p2 cmp_p3 : Value} {w : World} {R : Value → World → Prop} (h : M_slices_reverseRangeCmpFunc_string data_p0 a_p1 b_p2 cmp_p3 w R) : CALL PR F_slices_reverseRangeCmpFunc_string [data_p0, a_p1, b_p2, cmp_p3] w R :=
  call_of_den2 ann_slices_reverseRangeCmpFunc_string Try.func64 (by kernel_rfl) (by kernel_rfl) (by kernel_rfl) ((E_slices_reverseRangeCmpFunc_string data_p0 a_p1 b_p2 cmp_p3 w R) ▸ h)


-- 65 slices.partialInsertionSortCmpFunc[string]
def M_slices_partialInsertionSortCmpFunc_string (L_p0 i_p1 s_p2 t_p3 : Value) (w : World) (R : Value → World → Prop) : Prop :=
  BND (binv .int .add i_p1 (Value.int .i64 1)) fun t14_1 =>
  ∃ (J_2 : Value → Value → World → Prop) (m_2 : Value → Value → World → Nat), J_2 t14_1 (Value.int .i64 0) w ∧ ∀ (_d_2 : Env) (r_4 a_5 : Value) (w1 : World), J_2 r_4 a_5 w1 →
  (BND (binv .int .lss a_5 (Value.int .i64 5)) fun t16_134 =>
  COND t16_134
  (∃ (J_135 : Value → World → Prop) (m_135 : Value → World → Nat), J_135 r_4 w1 ∧ ∀ (_d_135 : Env) (r_136 : Value) (w2 : World), J_135 r_136 w2 →
  (BND (binv .int .lss r_136 s_p2) fun t21_157 =>
  BND (grd (isB t21_157 true) (some t_p3)) fun t23_158 =>
  BND (grd (isB t21_157 true) (some L_p0)) fun t24_159 =>
  BND (grd (isB t21_157 true) (some r_136)) fun t25_160 =>
  BND (grd (isB t21_157 true) (iaddr 1 t24_159 t25_160)) fun t26_161 =>
  BND (grd (isB t21_157 true) (some L_p0)) fun t28_162 =>
  BND (grd (isB t21_157 true) (some r_136)) fun t29_163 =>
  BND (grd (isB t21_157 true) (binv .int .sub t29_163 (Value.int .i64 1))) fun t30_164 =>
  BND (grd (isB t21_157 true) (iaddr 1 t28_162 t30_164)) fun t31_165 =>
  BND (grd (isB t21_157 true) (load1 w2.drew t26_161)) fun t27_166 =>
  BND (grd (isB t21_157 true) (load1 w2.drew t31_165)) fun t32_167 =>
  GEF (isB t21_157 true) (fun k_ => CALLV PR t23_158 [t27_166, t32_167] w2.drew k_) w2.drew fun t33_168 w3 =>
  BND (grd (isB t21_157 true) (binv .int .lss t33_168 (Value.int .i64 0))) fun t34_169 =>
  BND (grd (isB t21_157 true) (unv .not t34_169)) fun t35_170 =>
  BND (pickv t21_157 t35_170 (Value.bool false)) fun t36_171 =>
  COND t36_171
  (BND (binv .int .add r_136 (Value.int .i64 1)) fun t38_172 =>
  (J_135 t38_172 w3 ∧ m_135 t38_172 w3 < m_135 r_136 w2))
  (BND (binv .int .eql r_136 s_p2) fun t41_173 =>
  COND t41_173
  (R (Value.bool true) w3)
  (BND (binv .int .sub s_p2 i_p1) fun t44_174 =>
  BND (binv .int .lss t44_174 (Value.int .i64 50)) fun t45_175 =>
  COND t45_175
  (R (Value.bool false) w3)
  (BND (binv .int .sub r_136 (Value.int .i64 1)) fun t50_176 =>
  BND (binv .int .sub r_136 (Value.int .i64 1)) fun t53_177 =>
  BND (iaddr 1 L_p0 t53_177) fun t54_178 =>
  BND (iaddr 1 L_p0 r_136) fun t58_179 =>
  BND (load1 w3.drew t54_178) fun t55_180 =>
  BND (load1 w3.drew t58_179) fun t59_181 =>
  BND (iaddr 1 L_p0 r_136) fun t60_182 =>
  BND (storev 1 w3.drew t60_182 t55_180) fun w4 =>
  BND (iaddr 1 L_p0 t50_176) fun t61_183 =>
  BND (storev 1 w4 t61_183 t59_181) fun w5 =>
  BND (binv .int .sub r_136 i_p1) fun t64_184 =>
  BND (binv .int .geq t64_184 (Value.int .i64 2)) fun t65_185 =>
  JOIN (α := World → Prop) (fun k_318 => COND t65_185
  (BND (binv .int .sub r_136 (Value.int .i64 1)) fun t67_319 =>
  ∃ (J_320 : Value → World → Prop) (m_320 : Value → World → Nat), J_320 t67_319 w5 ∧ ∀ (_d_320 : Env) (y_321 : Value) (w12 : World), J_320 y_321 w12 →
  (BND (binv .int .geq y_321 (Value.int .i64 1)) fun t69_355 =>
  COND t69_355
  (BND (iaddr 1 L_p0 y_321) fun t75_356 =>
  BND (binv .int .sub y_321 (Value.int .i64 1)) fun t79_357 =>
  BND (iaddr 1 L_p0 t79_357) fun t80_358 =>
  BND (load1 w12.drew t75_356) fun t76_359 =>
  BND (load1 w12.drew t80_358) fun t81_360 =>
  CALLV PR t_p3 [t76_359, t81_360] w12.drew fun t82_361 w13 =>
  BND (binv .int .lss t82_361 (Value.int .i64 0)) fun t83_362 =>
  BND (unv .not t83_362) fun t84_363 =>
  COND t84_363
  (k_318 w13)
  (BND (binv .int .sub y_321 (Value.int .i64 1)) fun t89_364 =>
  BND (binv .int .sub y_321 (Value.int .i64 1)) fun t92_365 =>
  BND (iaddr 1 L_p0 t92_365) fun t93_366 =>
  BND (iaddr 1 L_p0 y_321) fun t97_367 =>
  BND (load1 w13.drew t93_366) fun t94_368 =>
  BND (load1 w13.drew t97_367) fun t98_369 =>
  BND (iaddr 1 L_p0 y_321) fun t99_370 =>
  BND (storev 1 w13.drew t99_370 t94_368) fun w14 =>
  BND (iaddr 1 L_p0 t89_364) fun t100_371 =>
  BND (storev 1 w14 t100_371 t98_369) fun w15 =>
  BND (binv .int .sub y_321 (Value.int .i64 1)) fun t71_372 =>
  (J_320 t71_372 w15 ∧ m_320 t71_372 w15 < m_320 y_321 w12)))
  (k_318 w12)))
  (k_318 w5))
  (fun w6 => BND (binv .int .sub s_p2 r_136) fun t103_222 =>
  BND (binv .int .geq t103_222 (Value.int .i64 2)) fun t104_223 =>
  JOIN (α := World → Prop) (fun k_262 => COND t104_223
  (BND (binv .int .add r_136 (Value.int .i64 1)) fun t106_263 =>
  ∃ (J_264 : Value → World → Prop) (m_264 : Value → World → Nat), J_264 t106_263 w6 ∧ ∀ (_d_264 : Env) (t12_265 : Value) (w8 : World), J_264 t12_265 w8 →
  (BND (binv .int .lss t12_265 s_p2) fun t109_300 =>
  COND t109_300
  (BND (iaddr 1 L_p0 t12_265) fun t115_301 =>
  BND (binv .int .sub t12_265 (Value.int .i64 1)) fun t119_302 =>
  BND (iaddr 1 L_p0 t119_302) fun t120_303 =>
  BND (load1 w8.drew t115_301) fun t116_304 =>
  BND (load1 w8.drew t120_303) fun t121_305 =>
  CALLV PR t_p3 [t116_304, t121_305] w8.drew fun t122_306 w9 =>
  BND (binv .int .lss t122_306 (Value.int .i64 0)) fun t123_307 =>
  BND (unv .not t123_307) fun t124_308 =>
  COND t124_308
  (k_262 w9)
  (BND (binv .int .sub t12_265 (Value.int .i64 1)) fun t129_309 =>
  BND (binv .int .sub t12_265 (Value.int .i64 1)) fun t132_310 =>
  BND (iaddr 1 L_p0 t132_310) fun t133_311 =>
  BND (iaddr 1 L_p0 t12_265) fun t137_312 =>
  BND (load1 w9.drew t133_311) fun t134_313 =>
  BND (load1 w9.drew t137_312) fun t138_314 =>
  BND (iaddr 1 L_p0 t12_265) fun t139_315 =>
  BND (storev 1 w9.drew t139_315 t134_313) fun w10 =>
  BND (iaddr 1 L_p0 t129_309) fun t140_316 =>
  BND (storev 1 w10 t140_316 t138_314) fun w11 =>
  BND (binv .int .add t12_265 (Value.int .i64 1)) fun t111_317 =>
  (J_264 t111_317 w11 ∧ m_264 t111_317 w11 < m_264 t12_265 w8)))
  (k_262 w8)))
  (k_262 w6))
  (fun w7 => BND (binv .int .add a_5 (Value.int .i64 1)) fun t18_261 =>
  (J_2 r_136 t18_261 w7 ∧ m_2 r_136 t18_261 w7 < m_2 r_4 a_5 w1))))))))
  (R (Value.bool false) w1))
def ann_slices_partialInsertionSortCmpFunc_string : List (Nat × List Nat) := [(5, [0, 1, 2, 3, 4, 5, 6, 7, 9, 10, 11, 12, 8, 13, 14, 15, 16, 17]), (11, [0, 1, 2, 3, 4, 5, 6, 7, 8, 10, 11, 12, 9, 13, 14, 15, 16, 17]), (16, [0, 1, 2, 3, 5, 6, 7, 8, 4, 9, 10, 11, 12]), (17, [0, 1, 2, 3, 4, 5, 6, 7, 8, 10, 11, 12, 9, 13, 14, 15, 16, 17]), (22, [0, 1, 2, 3, 5, 6, 7, 8, 4, 9, 10, 11, 12]), (23, [0, 1, 2, 3, 4, 5, 6, 7, 8, 10, 11, 12, 9, 13, 14, 15, 16, 17]), (1000003, [9, 10]), (1000005, [9]), (1000014, [11]), (1000020, [12])]
theorem E_slices_partialInsertionSortCmpFunc_string (L_p0 i_p1 s_p2 t_p3 : Value) (w : World) (R : Value → World → Prop) : M_slices_partialInsertionSortCmpFunc_string L_p0 i_p1 s_p2 t_p3 w R = den PR ann_slices_partialInsertionSortCmpFunc_string (bodyOf Try.f65) (retQ PR Try.f65.results.toList R) (env0 [L_p0, i_p1, s_p2, t_p3]) w := by kernel_rfl
theorem C_slices_partialInsertionSortCmpFunc_string {L_p0 i_p1 s_p2 t_p3 : Value} {w : World} {R : Value → World → Prop} (h : M_slices_partialInsertionSortCmpFunc_string L_p0 i_p1 s_p2 t_p3 w R) : CALL PR F_slices_partialInsertionSortCmpFunc_string [L_p0, i_p1, s_p2, t_p3] w R :=
  call_of_den2 ann_slices_partialInsertionSortCmpFunc_string Try.func65 (by kernel_rfl) (by kernel_rfl) (by kernel_rfl) ((E_slices_partialInsertionSortCmpFunc_string L_p0 i_p1 s_p2 t_p3 w R) ▸ h)


-- 70 slices.siftDownCmpFunc[string]
def M_slices_siftDownCmpFunc_string (L_p0 i_p1 s_p2 t_p3 a_p4 : Value) (w : World) (R : Value → World → Prop) : Prop :=
  ∃ (J_1 : Value → World → Prop) (m_1 : Value → World → Nat), J_1 i_p1 w ∧ ∀ (_d_1 : Env) (a_2 : Value) (w1 : World), J_1 a_2 w1 →
  (BND (binv .int .mul (Value.int .i64 2) a_2) fun t14_73 =>
  BND (binv .int .add t14_73 (Value.int .i64 1)) fun t15_74 =>
  BND (binv .int .geq t15_74 s_p2) fun t18_75 =>
  COND t18_75
  (R (.tuple #[]) w1)
  (BND (binv .int .add t15_74 (Value.int .i64 1)) fun t20_76 =>
  BND (binv .int .lss t20_76 s_p2) fun t22_77 =>
  BND (grd (isB t22_77 true) (some a_p4)) fun t24_78 =>
  BND (grd (isB t22_77 true) (some L_p0)) fun t25_79 =>
  BND (grd (isB t22_77 true) (some t_p3)) fun t26_80 =>
  BND (grd (isB t22_77 true) (some t15_74)) fun t27_81 =>
  BND (grd (isB t22_77 true) (binv .int .add t26_80 t27_81)) fun t28_82 =>
  BND (grd (isB t22_77 true) (iaddr 1 t25_79 t28_82)) fun t29_83 =>
  BND (grd (isB t22_77 true) (some L_p0)) fun t31_84 =>
  BND (grd (isB t22_77 true) (some t_p3)) fun t32_85 =>
  BND (grd (isB t22_77 true) (some t15_74)) fun t33_86 =>
  BND (grd (isB t22_77 true) (binv .int .add t32_85 t33_86)) fun t34_87 =>
  BND (grd (isB t22_77 true) (binv .int .add t34_87 (Value.int .i64 1))) fun t35_88 =>
  BND (grd (isB t22_77 true) (iaddr 1 t31_84 t35_88)) fun t36_89 =>
  BND (grd (isB t22_77 true) (load1 w1.drew t29_83)) fun t30_90 =>
  BND (grd (isB t22_77 true) (load1 w1.drew t36_89)) fun t37_91 =>
  GEF (isB t22_77 true) (fun k_ => CALLV PR t24_78 [t30_90, t37_91] w1.drew k_) w1.drew fun t38_92 w2 =>
  BND (grd (isB t22_77 true) (binv .int .lss t38_92 (Value.int .i64 0))) fun t39_93 =>
  BND (pickv t22_77 t39_93 (Value.bool false)) fun t40_94 =>
  JOIN (α := Value → World → Prop) (fun k_117 => COND t40_94
  (BND (binv .int .add t15_74 (Value.int .i64 1)) fun t42_118 =>
  k_117 t42_118 w2)
  (k_117 t15_74 w2))
  (fun y_95 w3 => BND (binv .int .add t_p3 a_2) fun t47_98 =>
  BND (iaddr 1 L_p0 t47_98) fun t48_99 =>
  BND (binv .int .add t_p3 y_95) fun t53_100 =>
  BND (iaddr 1 L_p0 t53_100) fun t54_101 =>
  BND (load1 w3.drew t48_99) fun t49_102 =>
  BND (load1 w3.drew t54_101) fun t55_103 =>
  CALLV PR a_p4 [t49_102, t55_103] w3.drew fun t56_104 w4 =>
  BND (binv .int .lss t56_104 (Value.int .i64 0)) fun t57_105 =>
  BND (unv .not t57_105) fun t58_106 =>
  COND t58_106
  (R (.tuple #[]) w4)
  (BND (binv .int .add t_p3 a_2) fun t62_107 =>
  BND (binv .int .add t_p3 y_95) fun t66_108 =>
  BND (binv .int .add t_p3 y_95) fun t70_109 =>
  BND (iaddr 1 L_p0 t70_109) fun t71_110 =>
  BND (binv .int .add t_p3 a_2) fun t76_111 =>
  BND (iaddr 1 L_p0 t76_111) fun t77_112 =>
  BND (load1 w4.drew t71_110) fun t72_113 =>
  BND (load1 w4.drew t77_112) fun t78_114 =>
  BND (iaddr 1 L_p0 t62_107) fun t79_115 =>
  BND (storev 1 w4.drew t79_115 t72_113) fun w5 =>
  BND (iaddr 1 L_p0 t66_108) fun t80_116 =>
  BND (storev 1 w5 t80_116 t78_114) fun w6 =>
  (J_1 y_95 w6 ∧ m_1 y_95 w6 < m_1 a_2 w1)))))
def ann_slices_siftDownCmpFunc_string : List (Nat × List Nat) := [(3, [0, 1, 2, 3, 4, 5, 6, 7, 8, 9, 10, 12, 13, 14, 15, 16, 17, 11, 18, 19, 20, 21]), (5, [0, 1, 2, 3, 4, 5, 7, 8, 9, 10, 11, 6, 12, 13, 14, 15]), (6, [0, 1, 2, 3, 4, 5, 6, 7, 8, 9, 10, 11, 12, 14, 15, 16, 17, 18, 13, 19, 20, 21, 22, 23]), (1000001, [10])]
theorem E_slices_siftDownCmpFunc_string (L_p0 i_p1 s_p2 t_p3 a_p4 : Value) (w : World) (R : Value → World → Prop) : M_slices_siftDownCmpFunc_string L_p0 i_p1 s_p2 t_p3 a_p4 w R = den PR ann_slices_siftDownCmpFunc_string (bodyOf Try.f70) (retQ PR Try.f70.results.toList R) (env0 [L_p0, i_p1, s_p2, t_p3, a_p4]) w := by kernel_rfl
theorem C_slices_siftDownCmpFunc_string {L_p0 i_p1 s_p2 t_p3 a_p4 : Value} {w : World} {R : Value → World → Prop} (h : M_slices_siftDownCmpFunc_string L_p0 i_p1 s_p2 t_p3 a_p4 w R) : CALL PR F_slices_siftDownCmpFunc_string [L_p0, i_p1, s_p2, t_p3, a_p4] w R :=
  call_of_den2 ann_slices_siftDownCmpFunc_string Try.func70 (by kernel_rfl) (by kernel_rfl) (by kernel_rfl) ((E_slices_siftDownCmpFunc_string L_p0 i_p1 s_p2 t_p3 a_p4 w R) ▸ h)


-- 71 slices.nextPowerOfTwo
def M_slices_nextPowerOfTwo (length_p0 : Value) (w : World) (R : Value → World → Prop) : Prop :=
  BND (convi .u64 length_p0) fun t4_1 =>
  CALL PR F_math_bits_Len [t4_1] w fun t5_2 w1 =>
  BND (shiftv .shl (Value.int .u64 1) t5_2) fun t6_3 =>
  R t6_3 w1
def ann_slices_nextPowerOfTwo : List (Nat × List Nat) := []
theorem E_slices_nextPowerOfTwo (length_p0 : Value) (w : World) (R : Value → World → Prop) : M_slices_nextPowerOfTwo length_p0 w R = den PR ann_slices_nextPowerOfTwo (bodyOf Try.f71) (retQ PR Try.f71.results.toList R) (env0 [length_p0]) w := by kernel_rfl
theorem C_slices_nextPowerOfTwo {length_p0 : Value} {w : World} {R : Value → World → Prop} (h : M_slices_nextPowerOfTwo length_p0 w R) : CALL PR F_slices_nextPowerOfTwo [length_p0] w R :=
  call_of_den2 ann_slices_nextPowerOfTwo Try.func71 (by kernel_rfl) (by kernel_rfl) (by kernel_rfl) ((E_slices_nextPowerOfTwo length_p0 w R) ▸ h)


-- 72 (*slices.xorshift).Next
def M_slices_xorshift_Next (r_p0 : Value) (w : World) (R : Value → World → Prop) : Prop :=
  BND (nilchk r_p0) fun t4_1 =>
  BND (nilchk r_p0) fun t7_2 =>
  BND (load1 w.drew t4_1) fun t5_3 =>
  BND (load1 w.drew t7_2) fun t8_4 =>
  BND (shiftv .shl t8_4 (Value.int .u64 13)) fun t9_5 =>
  BND (binv .int .xor t5_3 t9_5) fun t10_6 =>
  BND (nilchk r_p0) fun t11_7 =>
  BND (storev 1 w.drew t11_7 t10_6) fun w1 =>
  BND (nilchk r_p0) fun t13_8 =>
  BND (nilchk r_p0) fun t16_9 =>
  BND (load1 w1.drew t13_8) fun t14_10 =>
  BND (load1 w1.drew t16_9) fun t17_11 =>
  BND (shiftv .shr t17_11 (Value.int .u64 7)) fun t18_12 =>
  BND (binv .int .xor t14_10 t18_12) fun t19_13 =>
  BND (nilchk r_p0) fun t20_14 =>
  BND (storev 1 w1.drew t20_14 t19_13) fun w2 =>
  BND (nilchk r_p0) fun t22_15 =>
  BND (nilchk r_p0) fun t25_16 =>
  BND (load1 w2.drew t22_15) fun t23_17 =>
  BND (load1 w2.drew t25_16) fun t26_18 =>
  BND (shiftv .shl t26_18 (Value.int .u64 17)) fun t27_19 =>
  BND (binv .int .xor t23_17 t27_19) fun t28_20 =>
  BND (nilchk r_p0) fun t29_21 =>
  BND (storev 1 w2.drew t29_21 t28_20) fun w3 =>
  BND (nilchk r_p0) fun t31_22 =>
  BND (load1 w3 t31_22) fun t32_23 =>
  R t32_23 w3
def ann_slices_xorshift_Next : List (Nat × List Nat) := [(1, [0, 1, 3, 4, 2, 5, 6, 7, 8, 9]), (2, [0, 1, 3, 4, 2, 5, 6, 7, 8, 9]), (3, [0, 1, 3, 4, 2, 5, 6, 7, 8, 9])]
theorem E_slices_xorshift_Next (r_p0 : Value) (w : World) (R : Value → World → Prop) : M_slices_xorshift_Next r_p0 w R = den PR ann_slices_xorshift_Next (bodyOf Try.f72) (retQ PR Try.f72.results.toList R) (env0 [r_p0]) w := by kernel_rfl
theorem C_slices_xorshift_Next {r_p0 : Value} {w : World} {R : Value → World → Prop} (h : M_slices_xorshift_Next r_p0 w R) : CALL PR F_slices_xorshift_Next [r_p0] w R :=
  call_of_den2 ann_slices_xorshift_Next Try.func72 (by kernel_rfl) (by kernel_rfl) (by kernel_rfl) ((E_slices_xorshift_Next r_p0 w R) ▸ h)


-- 73 slices.medianAdjacentCmpFunc[string]
def M_slices_medianAdjacentCmpFunc_string (data_p0 a_p1 swaps_p2 cmp_p3 : Value) (w : World) (R : Value → World → Prop) : Prop :=
  BND (binv .int .sub a_p1 (Value.int .i64 1)) fun t11_1 =>
  BND (binv .int .add a_p1 (Value.int .i64 1)) fun t14_2 =>
  CALL PR F_slices_medianCmpFunc_string [data_p0, t11_1, a_p1, t14_2, swaps_p2, cmp_p3] w fun t17_3 w1 =>
  R t17_3 w1
def ann_slices_medianAdjacentCmpFunc_string : List (Nat × List Nat) := []
theorem E_slices_medianAdjacentCmpFunc_string (data_p0 a_p1 swaps_p2 cmp_p3 : Value) (w : World) (R : Value → World → Prop) : M_slices_medianAdjacentCmpFunc_string data_p0 a_p1 swaps_p2 cmp_p3 w R = den PR ann_slices_medianAdjacentCmpFunc_string (bodyOf Try.f73) (retQ PR Try.f73.results.toList R) (env0 [data_p0, a_p1, swaps_p2, cmp_p3]) w := by kernel_rfl
theorem C_slices_medianAdjacentCmpFunc_string {data_p0 a_p1 swaps_p2 cmp_p3 : Value} {w : World} {R : Value → World → Prop} (h : M_slices_medianAdjacentCmpFunc_string data_p0 a_p1 swaps_p2 cmp_p3 w R) : CALL PR F_slices_medianAdjacentCmpFunc_string [data_p0, a_p1, swaps_p2, cmp_p3] w R :=
  call_of_den2 ann_slices_medianAdjacentCmpFunc_string Try.func73 (by kernel_rfl) (by kernel_rfl) (by kernel_rfl) ((E_slices_medianAdjacentCmpFunc_string data_p0 a_p1 swaps_p2 cmp_p3 w R) ▸ h)


-- 74 slices.medianCmpFunc[string]
def M_slices_medianCmpFunc_string (data_p0 a_p1 b_p2 c_p3 swaps_p4 cmp_p5 : Value) (w : World) (R : Value → World → Prop) : Prop :=
  CALL PR F_slices_order2CmpFunc_string [data_p0, a_p1, b_p2, swaps_p4, cmp_p5] w fun t19_1 w1 =>
  BND (extractv t19_1 0) fun t20_2 =>
  BND (extractv t19_1 1) fun t21_3 =>
  CALL PR F_slices_order2CmpFunc_string [data_p0, t21_3, c_p3, swaps_p4, cmp_p5] w1 fun t28_4 w2 =>
  BND (extractv t28_4 0) fun t29_5 =>
  BND (extractv t28_4 1) fun t30_6 =>
  CALL PR F_slices_order2CmpFunc_string [data_p0, t20_2, t29_5, swaps_p4, cmp_p5] w2 fun t37_7 w3 =>
  BND (extractv t37_7 0) fun t38_8 =>
  BND (extractv t37_7 1) fun t39_9 =>
  R t39_9 w3
def ann_slices_medianCmpFunc_string : List (Nat × List Nat) := []
theorem E_slices_medianCmpFunc_string (data_p0 a_p1 b_p2 c_p3 swaps_p4 cmp_p5 : Value) (w : World) (R : Value → World → Prop) : M_slices_medianCmpFunc_string data_p0 a_p1 b_p2 c_p3 swaps_p4 cmp_p5 w R = den PR ann_slices_medianCmpFunc_string (bodyOf Try.f74) (retQ PR Try.f74.results.toList R) (env0 [data_p0, a_p1, b_p2, c_p3, swaps_p4, cmp_p5]) w := by kernel_rfl
theorem C_slices_medianCmpFunc_string {data_p0 a_p1 b_p2 c_p3 swaps_p4 cmp_p5 : Value} {w : World} {R : Value → World → Prop} (h : M_slices_medianCmpFunc_string data_p0 a_p1 b_p2 c_p3 swaps_p4 cmp_p5 w R) : CALL PR F_slices_medianCmpFunc_string [data_p0, a_p1, b_p2, c_p3, swaps_p4, cmp_p5] w R :=
  call_of_den2 ann_slices_medianCmpFunc_string Try.func74 (by kernel_rfl) (by kernel_rfl) (by kernel_rfl) ((E_slices_medianCmpFunc_string data_p0 a_p1 b_p2 c_p3 swaps_p4 cmp_p5 w R) ▸ h)


-- 75 slices.order2CmpFunc[string]
def M_slices_order2CmpFunc_string (data_p0 a_p1 b_p2 swaps_p3 cmp_p4 : Value) (w : World) (R : Value → World → Prop) : Prop :=
  BND (iaddr 1 data_p0 b_p2) fun t15_1 =>
  BND (iaddr 1 data_p0 a_p1) fun t19_2 =>
  BND (load1 w.drew t15_1) fun t16_3 =>
  BND (load1 w.drew t19_2) fun t20_4 =>
  CALLV PR cmp_p4 [t16_3, t20_4] w.drew fun t21_5 w1 =>
  BND (binv .int .lss t21_5 (Value.int .i64 0)) fun t22_6 =>
  COND t22_6
  (BND (nilchk swaps_p3) fun t24_7 =>
  BND (load1 w1 t24_7) fun t25_8 =>
  BND (binv .int .add t25_8 (Value.int .i64 1)) fun t26_9 =>
  BND (nilchk swaps_p3) fun t27_10 =>
  BND (storev 1 w1 t27_10 t26_9) fun w2 =>
  R (.tuple #[b_p2, a_p1]) w2)
  (R (.tuple #[a_p1, b_p2]) w1)
def ann_slices_order2CmpFunc_string : List (Nat × List Nat) := [(1, [0, 1, 2, 3, 5, 6, 7, 4, 8, 9, 10])]
theorem E_slices_order2CmpFunc_string (data_p0 a_p1 b_p2 swaps_p3 cmp_p4 : Value) (w : World) (R : Value → World → Prop) : M_slices_order2CmpFunc_string data_p0 a_p1 b_p2 swaps_p3 cmp_p4 w R = den PR ann_slices_order2CmpFunc_string (bodyOf Try.f75) (retQ PR Try.f75.results.toList R) (env0 [data_p0, a_p1, b_p2, swaps_p3, cmp_p4]) w := by kernel_rfl
theorem C_slices_order2CmpFunc_string {data_p0 a_p1 b_p2 swaps_p3 cmp_p4 : Value} {w : World} {R : Value → World → Prop} (h : M_slices_order2CmpFunc_string data_p0 a_p1 b_p2 swaps_p3 cmp_p4 w R) : CALL PR F_slices_order2CmpFunc_string [data_p0, a_p1, b_p2, swaps_p3, cmp_p4] w R :=
  call_of_den2 ann_slices_order2CmpFunc_string Try.func75 (by kernel_rfl) (by kernel_rfl) (by kernel_rfl) ((E_slices_order2CmpFunc_string data_p0 a_p1 b_p2 swaps_p3 cmp_p4 w R) ▸ h)

end Go.Proofs.Ythcbcolnahbihaa
