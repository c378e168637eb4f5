/- Printed by denprint.py: the Go function as a predicate, and that it stands for the call. No condition. -/
import Derived.Test.YtmjiohgdoienmaaFns
set_option maxRecDepth 100000
set_option linter.unusedVariables false
namespace Go.Proofs.Ytmjiohgdoienmaa
open Go.Den

-- 3 tumbrel.tumbrellaw07.DueRises
def M_tumbrellaw07_DueRises (L_p0 : Value) (w : World) (R : Value → World → Prop) : Prop :=
  CALL PR F_tumbrellaw07_awake [] w fun t18_1 w1 =>
  BND (unv .not t18_1) fun t19_2 =>
  COND t19_2
  (R (Value.bool false) w1)
  (BND (lenl L_p0) fun t21_3 =>
  BND (binv .int .gtr t21_3 (Value.int .i64 200)) fun t22_4 =>
  COND t22_4
  (R (Value.bool true) w1)
  (CALL PR F_due_New [] w1 fun t23_5 w2 =>
  BND (lenl L_p0) fun t25_6 =>
  ∃ (J_7 : Value → Value → World → Prop) (m_7 : Value → Value → World → Nat), J_7 (Value.int .i64 0) (Value.int .i64 0) w2 ∧ ∀ (_d_7 : Env) (t4_8 t26_10 : Value) (w3 : World), J_7 t4_8 t26_10 w3 →
  (BND (binv .int .lss t26_10 t25_6) fun t27_23 =>
  COND t27_23
  (BND (iaddr 3 L_p0 t26_10) fun t28_24 =>
  BND (loadn 3 w3 t28_24) fun t29_25 =>
  NEW (newv 28 w3 (Value.agg #[(Value.int .i64 0), (Value.int .u64 0), (Value.int .u64 0)])) fun o_26 w4 =>
  BND (storev 3 w4 o_26 t29_25) fun w5 =>
  BND (faddr 1 o_26) fun t31_27 =>
  BND (load1 w5 t31_27) fun t32_28 =>
  BND (faddr 2 o_26) fun t33_29 =>
  BND (load1 w5 t33_29) fun t34_30 =>
  CALL PR F_due_Heap_Put [t23_5, t32_28, t34_30] w5 fun t35_31 w6 =>
  JOIN (α := Value → World → Prop) (fun k_36 => COND t35_31
  (BND (binv .int .add t4_8 (Value.int .i64 1)) fun t37_37 =>
  k_36 t37_37 w6)
  (k_36 t4_8 w6))
  (fun t4_32 w7 => BND (binv .int .add t26_10 (Value.int .i64 1)) fun t38_35 =>
  (J_7 t4_32 t38_35 w7 ∧ m_7 t4_32 t38_35 w7 < m_7 t4_8 t26_10 w3)))
  (NEW (newv 28 w3 (Value.agg #[(Value.int .i64 0), (Value.int .u64 0), (Value.int .u64 0)])) fun A_38 w8 =>
  ∃ (J_39 : Value → World → Prop) (m_39 : Value → World → Nat), J_39 (Value.int .i64 0) w8 ∧ ∀ (_d_39 : Env) (t40_47 : Value) (w9 : World), J_39 t40_47 w9 →
  (BND (binv .int .lss t40_47 t4_8) fun t41_105 =>
  COND t41_105
  (CALL PR F_due_Heap_Take [t23_5, (Value.int .u64 18446744073709551615)] w9 fun t45_106 w10 =>
  BND (extractv t45_106 0) fun t46_107 =>
  BND (extractv t45_106 1) fun t47_108 =>
  BND (extractv t45_106 2) fun t48_109 =>
  BND (unv .not t48_109) fun t50_110 =>
  BND (grd (isB t50_110 false) (some t40_47)) fun t52_111 =>
  BND (grd (isB t50_110 false) (binv .int .gtr t52_111 (Value.int .i64 0))) fun t53_112 =>
  BND (grd (isB t50_110 false) (some t53_112)) fun t54_113 =>
  BND (grd (isB t54_113 true) (some t47_108)) fun t55_114 =>
  BND (grd (isB t54_113 true) (faddr 2 A_38)) fun t56_115 =>
  BND (grd (isB t54_113 true) (load1 w10 t56_115)) fun t57_116 =>
  BND (grd (isB t54_113 true) (binv .int .lss t55_114 t57_116)) fun t58_117 =>
  BND (grd (isB t54_113 true) (some t58_117)) fun t59_118 =>
  BND (grd (isB t59_118 false) (some t47_108)) fun t60_119 =>
  BND (grd (isB t59_118 false) (faddr 2 A_38)) fun t61_120 =>
  BND (grd (isB t59_118 false) (load1 w10 t61_120)) fun t62_121 =>
  BND (grd (isB t59_118 false) (binv .int .eql t60_119 t62_121)) fun t63_122 =>
  BND (grd (isB t59_118 false) (some t63_122)) fun t64_123 =>
  BND (grd (isB t64_123 true) (some t46_107)) fun t65_124 =>
  BND (grd (isB t64_123 true) (faddr 1 A_38)) fun t66_125 =>
  BND (grd (isB t64_123 true) (load1 w10 t66_125)) fun t67_126 =>
  BND (grd (isB t64_123 true) (binv .int .leq t65_124 t67_126)) fun t68_127 =>
  BND (grd (isB t59_118 false) (pickv t64_123 t68_127 (Value.bool false))) fun t69_128 =>
  BND (grd (isB t54_113 true) (pickv t59_118 (Value.bool true) t69_128)) fun t70_129 =>
  BND (grd (isB t50_110 false) (pickv t54_113 t70_129 (Value.bool false))) fun t71_130 =>
  BND (pickv t50_110 (Value.bool true) t71_130) fun t72_131 =>
  COND t72_131
  (R (Value.bool false) w10)
  (BND (lenl L_p0) fun t74_132 =>
  ∃ (J_133 : Value → Value → World → Prop) (m_133 : Value → Value → World → Nat), J_133 (Value.bool false) (Value.int .i64 0) w10 ∧ ∀ (_d_133 : Env) (t12_135 t75_137 : Value) (w11 : World), J_133 t12_135 t75_137 w11 →
  (BND (binv .int .lss t75_137 t74_132) fun t76_154 =>
  COND t76_154
  (BND (iaddr 3 L_p0 t75_137) fun t77_155 =>
  BND (loadn 3 w11 t77_155) fun t78_156 =>
  NEW (newv 28 w11 (Value.agg #[(Value.int .i64 0), (Value.int .u64 0), (Value.int .u64 0)])) fun t14_157 w12 =>
  BND (storev 3 w12 t14_157 t78_156) fun w13 =>
  BND (faddr 1 t14_157) fun t79_158 =>
  BND (load1 w13 t79_158) fun t80_159 =>
  BND (binv .int .eql t80_159 t46_107) fun t82_160 =>
  BND (grd (isB t82_160 true) (some t12_135)) fun t84_161 =>
  BND (grd (isB t82_160 true) (unv .not t84_161)) fun t85_162 =>
  BND (pickv t82_160 t85_162 (Value.bool false)) fun t86_163 =>
  JOIN (α := Value → World → Prop) (fun k_171 => COND t86_163
  (BND (faddr 2 t14_157) fun t87_172 =>
  BND (load1 w13 t87_172) fun t88_173 =>
  BND (binv .int .neq t88_173 t47_108) fun t90_174 =>
  COND t90_174
  (R (Value.bool false) w13)
  (k_171 (Value.bool true) w13))
  (k_171 t12_135 w13))
  (fun t12_165 w14 => BND (binv .int .add t75_137 (Value.int .i64 1)) fun t91_170 =>
  (J_133 t12_165 t91_170 w14 ∧ m_133 t12_165 t91_170 w14 < m_133 t12_135 t75_137 w11)))
  (BND (unv .not t12_135) fun t93_175 =>
  COND t93_175
  (R (Value.bool false) w11)
  (BND (buildv #[(Value.int .i64 0), (Value.int .u64 0), (Value.int .u64 0)] [(1, 1, t46_107), (2, 1, t47_108)]) fun t96_176 =>
  BND (storev 3 w11 A_38 t96_176) fun w15 =>
  BND (binv .int .add t40_47 (Value.int .i64 1)) fun t97_177 =>
  (J_39 t97_177 w15 ∧ m_39 t97_177 w15 < m_39 t40_47 w9))))))
  (CALL PR F_due_Heap_First [t23_5] w9 fun t100_178 w16 =>
  BND (extractv t100_178 0) fun t101_179 =>
  BND (extractv t100_178 1) fun t102_180 =>
  BND (extractv t100_178 2) fun t103_181 =>
  BND (unv .not t103_181) fun t105_182 =>
  BND (grd (isB t105_182 true) (some t23_5)) fun t107_183 =>
  GEF (isB t105_182 true) (fun k_ => CALL PR F_due_Heap_Len [t107_183] w16 k_) w16 fun t108_184 w17 =>
  BND (grd (isB t105_182 true) (binv .int .eql t108_184 (Value.int .i64 0))) fun t109_185 =>
  BND (pickv t105_182 t109_185 (Value.bool false)) fun t110_186 =>
  R t110_186 w17))))))
def ann_tumbrellaw07_DueRises : List (Nat × List Nat) := [(1000008, [4, 26]), (1000015, [40]), (1000022, [12, 75])]
theorem E_tumbrellaw07_DueRises (L_p0 : Value) (w : World) (R : Value → World → Prop) : M_tumbrellaw07_DueRises L_p0 w R = den PR ann_tumbrellaw07_DueRises (bodyOf Try.f3) (retQ PR Try.f3.results.toList R) (env0 [L_p0]) w := by kernel_rfl
theorem C_tumbrellaw07_DueRises {L_p0 : Value} {w : World} {R : Value → World → Prop} (h : M_tumbrellaw07_DueRises L_p0 w R) : CALL PR F_tumbrellaw07_DueRises [L_p0] w R :=
  call_of_den2 ann_tumbrellaw07_DueRises Try.func3 (by kernel_rfl) (by kernel_rfl) (by kernel_rfl) ((E_tumbrellaw07_DueRises L_p0 w R) ▸ h)

end Go.Proofs.Ytmjiohgdoienmaa
