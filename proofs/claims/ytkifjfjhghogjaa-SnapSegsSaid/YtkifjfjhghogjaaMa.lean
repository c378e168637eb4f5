/- Printed by denprint.py: the Go function as a predicate, and that it stands for the call. No condition. -/
import Derived.Test.YtkifjfjhghogjaaFns
set_option maxRecDepth 100000
set_option linter.unusedVariables false
namespace Go.Proofs.Ytkifjfjhghogjaa
open Go.Den

-- 3 tumbrel.tumbrellaw13.SnapTells
def M_tumbrellaw13_SnapTells (L_p0 i_p1 : Value) (w : World) (R : Value → World → Prop) : Prop :=
  NEW (newv 29 w L_p0) fun s_1 w1 =>
  CALL PR F_tumbrellaw13_awake [] w1 fun t13_2 w2 =>
  BND (unv .not t13_2) fun t14_3 =>
  COND t14_3
  (R (Value.bool false) w2)
  (BND (loadn 10 w2 s_1) fun t15_4 =>
  CALL PR F_tumbrellaw13_own [t15_4] w2 fun t16_5 w3 =>
  BND (partn t16_5 0 8) fun t17_6 =>
  CALL PR F_tumbrelref13_Large [t17_6] w3 fun t18_7 w4 =>
  BND (grd (isB t18_7 false) (some i_p1)) fun t20_8 =>
  GEF (isB t18_7 false) (fun k_ => CALL PR F_tumbrellaw13_large [t20_8] w4 k_) w4 fun t21_9 w5 =>
  BND (pickv t18_7 (Value.bool true) t21_9) fun t22_10 =>
  COND t22_10
  (R (Value.bool true) w5)
  (BND (loadn 10 w5 s_1) fun t24_11 =>
  CALL PR F_snap_Save [t24_11] w5 fun t25_12 w6 =>
  BND (extractv t25_12 0) fun t26_13 =>
  BND (extractv t25_12 1) fun t27_14 =>
  BND (loadn 10 w6 s_1) fun t29_15 =>
  CALL PR F_tumbrellaw13_own [t29_15] w6 fun t30_16 w7 =>
  CALL PR F_tumbrelref13_Save [t30_16] w7 fun t31_17 w8 =>
  BND (extractv t31_17 0) fun t32_18 =>
  BND (extractv t31_17 1) fun t33_19 =>
  CALL PR F_snap_Load [i_p1] w8 fun t36_20 w9 =>
  BND (extractv t36_20 0) fun t37_21 =>
  BND (extractv t36_20 1) fun t38_22 =>
  NEW (newv 29 w9 (Value.agg #[(Value.int .u64 0), (Value.int .u64 0), (Value.int .u64 0), (Value.int .u64 0), (Value.int .u64 0), (Value.slice none 0 0), (Value.slice none 0 0), (Value.slice none 0 0), (Value.int .u64 0), (Value.int .u64 0)])) fun r_23 w10 =>
  BND (storev 10 w10 r_23 t37_21) fun w11 =>
  CALL PR F_tumbrellaw13_owns [i_p1] w11 fun t41_24 w12 =>
  CALL PR F_tumbrelref13_Load [t41_24] w12 fun t42_25 w13 =>
  BND (extractv t42_25 0) fun t43_26 =>
  BND (extractv t42_25 1) fun t44_27 =>
  NEW (newv 39 w13 (Value.agg #[(Value.int .u64 0), (Value.int .u64 0), (Value.int .u64 0), (Value.int .u64 0), (Value.int .u64 0), (Value.slice none 0 0), (Value.slice none 0 0), (Value.slice none 0 0), (Value.int .u64 0), (Value.int .u64 0)])) fun y_28 w14 =>
  BND (storev 10 w14 y_28 t43_26) fun w15 =>
  ∃ S_29 : Nat → World → Prop,
  S_29 12 w15.drew ∧
  S_29 27 w15.drew ∧
  CALL PR F_tumbrellaw13_owns [t26_13] w15.drew fun t46_30 w16 =>
  S_29 12 w16 ∧
  S_29 27 w16 ∧
  CALL PR F_tumbrelref05_Same [t46_30, t32_18] w16 fun t48_31 w17 =>
  S_29 12 w17 ∧
  S_29 27 w17 ∧
  BND (grd (isB t48_31 true) (some t27_14)) fun t50_32 =>
  BND (grd (isB t48_31 true) (some t33_19)) fun t51_33 =>
  BND (grd (isB t48_31 true) (binv .int .eql t50_32 t51_33)) fun t52_34 =>
  BND (pickv t48_31 t52_34 (Value.bool false)) fun t53_35 =>
  FLT (S_29 12) (fun w_ => (grd (isB t53_35 true) (loadn 10 w_ y_28))) fun t57_36 =>
  BND (grd (isB t53_35 true) (loadn 10 w17 r_23)) fun t55_37 =>
  GEF (isB t53_35 true) (fun k_ => CALL PR F_tumbrellaw13_own [t55_37] w17 k_) w17 fun t56_38 w18 =>
  S_29 12 w18 ∧
  S_29 27 w18 ∧
  GEF (isB t53_35 true) (fun k_ => CALL PR F_tumbrelref13_Same [t56_38, t57_36] w18 k_) w18 fun t58_39 w19 =>
  S_29 27 w19 ∧
  BND (pickv t53_35 t58_39 (Value.bool false)) fun t59_40 =>
  BND (grd (isB t59_40 true) (some t38_22)) fun t61_41 =>
  BND (grd (isB t59_40 true) (some t44_27)) fun t62_42 =>
  BND (grd (isB t59_40 true) (binv .int .eql t61_41 t62_42)) fun t63_43 =>
  BND (pickv t59_40 t63_43 (Value.bool false)) fun t64_44 =>
  BND (grd (isB t64_44 true) (faddr 0 s_1)) fun t66_45 =>
  BND (grd (isB t64_44 true) (faddr 5 t66_45)) fun t67_46 =>
  BND (grd (isB t64_44 true) (faddr 0 s_1)) fun t70_47 =>
  BND (grd (isB t64_44 true) (faddr 5 t70_47)) fun t71_48 =>
  FLT (S_29 27) (fun w_ => (grd (isB t64_44 true) (load1 w_ t71_48))) fun t72_49 =>
  BND (grd (isB t64_44 true) (load1 w19 t67_46)) fun t68_50 =>
  GEF (isB t64_44 true) (fun k_ => CALL PR F_snap_Segs [t68_50] w19 k_) w19 fun t69_51 w20 =>
  S_29 27 w20 ∧
  GEF (isB t64_44 true) (fun k_ => CALL PR F_tumbrellaw13_items [t72_49] w20 k_) w20 fun t73_52 w21 =>
  GEF (isB t64_44 true) (fun k_ => CALL PR F_tumbrelref13_Segs [t73_52] w21 k_) w21 fun t74_53 w22 =>
  GEF (isB t64_44 true) (fun k_ => CALL PR F_tumbrelref02_Same [t69_51, t74_53] w22 k_) w22 fun t75_54 w23 =>
  BND (pickv t64_44 t75_54 (Value.bool false)) fun t76_55 =>
  R t76_55 w23))
def ann_tumbrellaw13_SnapTells : List (Nat × List Nat) := [(9, [0, 2, 1, 3, 4, 5, 6, 7, 8, 9, 12, 10, 11, 13, 14, 15, 16, 17, 18, 19, 20, 21, 22, 25, 26, 27, 23, 24, 28, 29, 30, 31, 32]), (2000009, [12, 27]), (3009001, [12, 27]), (3009003, [12, 27]), (3009011, [12, 27]), (3009013, [27]), (3009024, [27])]
theorem E_tumbrellaw13_SnapTells (L_p0 i_p1 : Value) (w : World) (R : Value → World → Prop) : M_tumbrellaw13_SnapTells L_p0 i_p1 w R = den PR ann_tumbrellaw13_SnapTells (bodyOf Try.f3) (retQ PR Try.f3.results.toList R) (env0 [L_p0, i_p1]) w := by kernel_rfl
theorem C_tumbrellaw13_SnapTells {L_p0 i_p1 : Value} {w : World} {R : Value → World → Prop} (h : M_tumbrellaw13_SnapTells L_p0 i_p1 w R) : CALL PR F_tumbrellaw13_SnapTells [L_p0, i_p1] w R :=
  call_of_den2 ann_tumbrellaw13_SnapTells Try.func3 (by kernel_rfl) (by kernel_rfl) (by kernel_rfl) ((E_tumbrellaw13_SnapTells L_p0 i_p1 w R) ▸ h)


-- 4 tumbrel.tumbrellaw13.SnapBack
def M_tumbrellaw13_SnapBack (L_p0 i_p1 s_p2 : Value) (w : World) (R : Value → World → Prop) : Prop :=
  NEW (newv 29 w L_p0) fun t_1 w1 =>
  CALL PR F_tumbrellaw13_awake [] w1 fun t19_2 w2 =>
  BND (unv .not t19_2) fun t20_3 =>
  COND t20_3
  (R (Value.bool false) w2)
  (BND (loadn 10 w2 t_1) fun t21_4 =>
  CALL PR F_tumbrellaw13_own [t21_4] w2 fun t22_5 w3 =>
  BND (partn t22_5 0 8) fun t23_6 =>
  CALL PR F_tumbrelref13_Large [t23_6] w3 fun t24_7 w4 =>
  BND (grd (isB t24_7 false) (some i_p1)) fun t26_8 =>
  GEF (isB t24_7 false) (fun k_ => CALL PR F_tumbrellaw13_large [t26_8] w4 k_) w4 fun t27_9 w5 =>
  BND (pickv t24_7 (Value.bool true) t27_9) fun t28_10 =>
  COND t28_10
  (R (Value.bool true) w5)
  (BND (loadn 10 w5 t_1) fun t30_11 =>
  CALL PR F_snap_Save [t30_11] w5 fun t31_12 w6 =>
  BND (extractv t31_12 0) fun t32_13 =>
  BND (extractv t31_12 1) fun t33_14 =>
  BND (binv .int .eql t33_14 (Value.int .i64 0)) fun t35_15 =>
  JOIN (α := World → Prop) (fun k_97 => COND t35_15
  (CALL PR F_snap_Load [t32_13] w6 fun t38_98 w15 =>
  BND (extractv t38_98 0) fun t39_99 =>
  BND (extractv t38_98 1) fun t40_100 =>
  NEW (newv 29 w15 (Value.agg #[(Value.int .u64 0), (Value.int .u64 0), (Value.int .u64 0), (Value.int .u64 0), (Value.int .u64 0), (Value.slice none 0 0), (Value.slice none 0 0), (Value.slice none 0 0), (Value.int .u64 0), (Value.int .u64 0)])) fun r_101 w16 =>
  BND (storev 10 w16 r_101 t39_99) fun w17 =>
  ∃ S_102 : Nat → World → Prop,
  S_102 5 w17.drew ∧
  BND (binv .int .neq t40_100 (Value.int .i64 0)) fun t42_103 =>
  FLT (S_102 5) (fun w_ => (grd (isB t42_103 false) (loadn 10 w_ t_1))) fun t46_104 =>
  BND (grd (isB t42_103 false) (loadn 10 w17.drew r_101)) fun t44_105 =>
  GEF (isB t42_103 false) (fun k_ => CALL PR F_tumbrellaw13_own [t44_105] w17.drew k_) w17.drew fun t45_106 w18 =>
  S_102 5 w18 ∧
  GEF (isB t42_103 false) (fun k_ => CALL PR F_tumbrellaw13_own [t46_104] w18 k_) w18 fun t47_107 w19 =>
  GEF (isB t42_103 false) (fun k_ => CALL PR F_tumbrelref13_Same [t45_106, t47_107] w19 k_) w19 fun t48_108 w20 =>
  BND (grd (isB t42_103 false) (unv .not t48_108)) fun t49_109 =>
  BND (pickv t42_103 (Value.bool true) t49_109) fun t50_110 =>
  COND t50_110
  (R (Value.bool false) w20)
  (BND (binv .int .geq s_p2 (Value.int .i64 0)) fun t52_111 =>
  BND (grd (isB t52_111 true) (some s_p2)) fun t54_112 =>
  BND (grd (isB t52_111 true) (some t32_13)) fun t55_113 =>
  BND (grd (isB t52_111 true) (lenl t55_113)) fun t56_114 =>
  BND (grd (isB t52_111 true) (binv .int .lss t54_112 t56_114)) fun t57_115 =>
  BND (pickv t52_111 t57_115 (Value.bool false)) fun t58_116 =>
  JOIN (α := World → Prop) (fun k_290 => COND t58_116
  (BND (slicev 3 t32_13 none (some s_p2)) fun t62_291 =>
  CALL PR F_snap_Load [t62_291] w20 fun t63_292 w149 =>
  BND (extractv t63_292 0) fun t64_293 =>
  BND (extractv t63_292 1) fun t65_294 =>
  NEW (newv 29 w149 (Value.agg #[(Value.int .u64 0), (Value.int .u64 0), (Value.int .u64 0), (Value.int .u64 0), (Value.int .u64 0), (Value.slice none 0 0), (Value.slice none 0 0), (Value.slice none 0 0), (Value.int .u64 0), (Value.int .u64 0)])) fun y_295 w150 =>
  BND (storev 10 w150 y_295 t64_293) fun w151 =>
  BND (binv .int .neq t65_294 (Value.int .i64 2)) fun t67_296 =>
  COND t67_296
  (R (Value.bool false) w151)
  (k_290 w151))
  (k_290 w20))
  (fun w21 => ∃ S_129 : Nat → World → Prop,
  S_129 8 w21.drew ∧
  BND (lenl t32_13) fun t74_130 =>
  BND (binv .int .sub t74_130 (Value.int .i64 1)) fun t75_131 =>
  BND (iaddr 3 t32_13 t75_131) fun t76_132 =>
  FLT (S_129 8) (fun w_ => loadn 3 w_ t76_132) fun t77_133 =>
  JOIN (α := Value → World → Prop) (fun k_145 => (BND (newslice 62 #[(Value.int .i64 0), (Value.slice none 0 0), (Value.string ByteArray.empty)] 3 0 [] w21.drew) fun p_ => NEW p_ fun t69_146 w23 =>
  S_129 8 w23 ∧
  APPEND 62 3 48 (Value.agg #[(Value.int .i64 0), (Value.slice none 0 0), (Value.string ByteArray.empty)]) t69_146 t32_13 w23 fun t71_147 w24 =>
  S_129 8 w24 ∧
  BND (newslice 62 #[(Value.int .i64 0), (Value.slice none 0 0), (Value.string ByteArray.empty)] 3 1 [(0, 3, t77_133)] w24) fun p_ => NEW p_ fun t78_148 w25 =>
  APPEND 62 3 48 (Value.agg #[(Value.int .i64 0), (Value.slice none 0 0), (Value.string ByteArray.empty)]) t71_147 t78_148 w25 fun t79_149 w26 =>
  CALL PR F_snap_Load [t79_149] w26 fun t80_150 w27 =>
  BND (extractv t80_150 0) fun t81_151 =>
  BND (extractv t80_150 1) fun t82_152 =>
  NEW (newv 29 w27 (Value.agg #[(Value.int .u64 0), (Value.int .u64 0), (Value.int .u64 0), (Value.int .u64 0), (Value.int .u64 0), (Value.slice none 0 0), (Value.slice none 0 0), (Value.slice none 0 0), (Value.int .u64 0), (Value.int .u64 0)])) fun t13_153 w28 =>
  S_129 8 w28 ∧
  BND (storev 10 w28 t13_153 t81_151) fun w29 =>
  k_145 t82_152 w29) ∧
  (BND (newslice 62 #[(Value.int .i64 0), (Value.slice none 0 0), (Value.string ByteArray.empty)] 3 0 [] w21.drew) fun p_ => NEW p_ fun t69_154 w30 =>
  S_129 8 w30 ∧
  APPEND 62 3 48 (Value.agg #[(Value.int .i64 0), (Value.slice none 0 0), (Value.string ByteArray.empty)]) t69_154 t32_13 w30 fun t71_155 w31 =>
  S_129 8 w31 ∧
  BND (newslice 62 #[(Value.int .i64 0), (Value.slice none 0 0), (Value.string ByteArray.empty)] 3 1 [(0, 3, t77_133)] w31) fun p_ => NEW p_ fun t78_156 w32 =>
  APPEND 62 3 48 (Value.agg #[(Value.int .i64 0), (Value.slice none 0 0), (Value.string ByteArray.empty)]) t71_155 t78_156 w32 fun t79_157 w33 =>
  NEW (newv 29 w33 (Value.agg #[(Value.int .u64 0), (Value.int .u64 0), (Value.int .u64 0), (Value.int .u64 0), (Value.int .u64 0), (Value.slice none 0 0), (Value.slice none 0 0), (Value.slice none 0 0), (Value.int .u64 0), (Value.int .u64 0)])) fun t13_158 w34 =>
  S_129 8 w34 ∧
  CALL PR F_snap_Load [t79_157] w34 fun t80_159 w35 =>
  BND (extractv t80_159 0) fun t81_160 =>
  BND (extractv t80_159 1) fun t82_161 =>
  BND (storev 10 w35 t13_158 t81_160) fun w36 =>
  k_145 t82_161 w36) ∧
  (BND (newslice 62 #[(Value.int .i64 0), (Value.slice none 0 0), (Value.string ByteArray.empty)] 3 0 [] w21.drew) fun p_ => NEW p_ fun t69_162 w37 =>
  S_129 8 w37 ∧
  APPEND 62 3 48 (Value.agg #[(Value.int .i64 0), (Value.slice none 0 0), (Value.string ByteArray.empty)]) t69_162 t32_13 w37 fun t71_163 w38 =>
  S_129 8 w38 ∧
  BND (newslice 62 #[(Value.int .i64 0), (Value.slice none 0 0), (Value.string ByteArray.empty)] 3 1 [(0, 3, t77_133)] w38) fun p_ => NEW p_ fun t78_164 w39 =>
  NEW (newv 29 w39 (Value.agg #[(Value.int .u64 0), (Value.int .u64 0), (Value.int .u64 0), (Value.int .u64 0), (Value.int .u64 0), (Value.slice none 0 0), (Value.slice none 0 0), (Value.slice none 0 0), (Value.int .u64 0), (Value.int .u64 0)])) fun t13_165 w40 =>
  S_129 8 w40 ∧
  APPEND 62 3 48 (Value.agg #[(Value.int .i64 0), (Value.slice none 0 0), (Value.string ByteArray.empty)]) t71_163 t78_164 w40 fun t79_166 w41 =>
  CALL PR F_snap_Load [t79_166] w41 fun t80_167 w42 =>
  BND (extractv t80_167 0) fun t81_168 =>
  BND (extractv t80_167 1) fun t82_169 =>
  BND (storev 10 w42 t13_165 t81_168) fun w43 =>
  k_145 t82_169 w43) ∧
  (BND (newslice 62 #[(Value.int .i64 0), (Value.slice none 0 0), (Value.string ByteArray.empty)] 3 0 [] w21.drew) fun p_ => NEW p_ fun t69_170 w44 =>
  S_129 8 w44 ∧
  APPEND 62 3 48 (Value.agg #[(Value.int .i64 0), (Value.slice none 0 0), (Value.string ByteArray.empty)]) t69_170 t32_13 w44 fun t71_171 w45 =>
  S_129 8 w45 ∧
  NEW (newv 29 w45 (Value.agg #[(Value.int .u64 0), (Value.int .u64 0), (Value.int .u64 0), (Value.int .u64 0), (Value.int .u64 0), (Value.slice none 0 0), (Value.slice none 0 0), (Value.slice none 0 0), (Value.int .u64 0), (Value.int .u64 0)])) fun t13_172 w46 =>
  S_129 8 w46 ∧
  BND (newslice 62 #[(Value.int .i64 0), (Value.slice none 0 0), (Value.string ByteArray.empty)] 3 1 [(0, 3, t77_133)] w46) fun p_ => NEW p_ fun t78_173 w47 =>
  APPEND 62 3 48 (Value.agg #[(Value.int .i64 0), (Value.slice none 0 0), (Value.string ByteArray.empty)]) t71_171 t78_173 w47 fun t79_174 w48 =>
  CALL PR F_snap_Load [t79_174] w48 fun t80_175 w49 =>
  BND (extractv t80_175 0) fun t81_176 =>
  BND (extractv t80_175 1) fun t82_177 =>
  BND (storev 10 w49 t13_172 t81_176) fun w50 =>
  k_145 t82_177 w50) ∧
  (BND (newslice 62 #[(Value.int .i64 0), (Value.slice none 0 0), (Value.string ByteArray.empty)] 3 0 [] w21.drew) fun p_ => NEW p_ fun t69_178 w51 =>
  S_129 8 w51 ∧
  BND (newslice 62 #[(Value.int .i64 0), (Value.slice none 0 0), (Value.string ByteArray.empty)] 3 1 [(0, 3, t77_133)] w51) fun p_ => NEW p_ fun t78_179 w52 =>
  APPEND 62 3 48 (Value.agg #[(Value.int .i64 0), (Value.slice none 0 0), (Value.string ByteArray.empty)]) t69_178 t32_13 w52 fun t71_180 w53 =>
  S_129 8 w53 ∧
  APPEND 62 3 48 (Value.agg #[(Value.int .i64 0), (Value.slice none 0 0), (Value.string ByteArray.empty)]) t71_180 t78_179 w53 fun t79_181 w54 =>
  CALL PR F_snap_Load [t79_181] w54 fun t80_182 w55 =>
  BND (extractv t80_182 0) fun t81_183 =>
  BND (extractv t80_182 1) fun t82_184 =>
  NEW (newv 29 w55 (Value.agg #[(Value.int .u64 0), (Value.int .u64 0), (Value.int .u64 0), (Value.int .u64 0), (Value.int .u64 0), (Value.slice none 0 0), (Value.slice none 0 0), (Value.slice none 0 0), (Value.int .u64 0), (Value.int .u64 0)])) fun t13_185 w56 =>
  S_129 8 w56 ∧
  BND (storev 10 w56 t13_185 t81_183) fun w57 =>
  k_145 t82_184 w57) ∧
  (BND (newslice 62 #[(Value.int .i64 0), (Value.slice none 0 0), (Value.string ByteArray.empty)] 3 0 [] w21.drew) fun p_ => NEW p_ fun t69_186 w58 =>
  S_129 8 w58 ∧
  BND (newslice 62 #[(Value.int .i64 0), (Value.slice none 0 0), (Value.string ByteArray.empty)] 3 1 [(0, 3, t77_133)] w58) fun p_ => NEW p_ fun t78_187 w59 =>
  APPEND 62 3 48 (Value.agg #[(Value.int .i64 0), (Value.slice none 0 0), (Value.string ByteArray.empty)]) t69_186 t32_13 w59 fun t71_188 w60 =>
  S_129 8 w60 ∧
  APPEND 62 3 48 (Value.agg #[(Value.int .i64 0), (Value.slice none 0 0), (Value.string ByteArray.empty)]) t71_188 t78_187 w60 fun t79_189 w61 =>
  NEW (newv 29 w61 (Value.agg #[(Value.int .u64 0), (Value.int .u64 0), (Value.int .u64 0), (Value.int .u64 0), (Value.int .u64 0), (Value.slice none 0 0), (Value.slice none 0 0), (Value.slice none 0 0), (Value.int .u64 0), (Value.int .u64 0)])) fun t13_190 w62 =>
  S_129 8 w62 ∧
  CALL PR F_snap_Load [t79_189] w62 fun t80_191 w63 =>
  BND (extractv t80_191 0) fun t81_192 =>
  BND (extractv t80_191 1) fun t82_193 =>
  BND (storev 10 w63 t13_190 t81_192) fun w64 =>
  k_145 t82_193 w64) ∧
  (BND (newslice 62 #[(Value.int .i64 0), (Value.slice none 0 0), (Value.string ByteArray.empty)] 3 0 [] w21.drew) fun p_ => NEW p_ fun t69_194 w65 =>
  S_129 8 w65 ∧
  BND (newslice 62 #[(Value.int .i64 0), (Value.slice none 0 0), (Value.string ByteArray.empty)] 3 1 [(0, 3, t77_133)] w65) fun p_ => NEW p_ fun t78_195 w66 =>
  APPEND 62 3 48 (Value.agg #[(Value.int .i64 0), (Value.slice none 0 0), (Value.string ByteArray.empty)]) t69_194 t32_13 w66 fun t71_196 w67 =>
  S_129 8 w67 ∧
  NEW (newv 29 w67 (Value.agg #[(Value.int .u64 0), (Value.int .u64 0), (Value.int .u64 0), (Value.int .u64 0), (Value.int .u64 0), (Value.slice none 0 0), (Value.slice none 0 0), (Value.slice none 0 0), (Value.int .u64 0), (Value.int .u64 0)])) fun t13_197 w68 =>
  S_129 8 w68 ∧
  APPEND 62 3 48 (Value.agg #[(Value.int .i64 0), (Value.slice none 0 0), (Value.string ByteArray.empty)]) t71_196 t78_195 w68 fun t79_198 w69 =>
  CALL PR F_snap_Load [t79_198] w69 fun t80_199 w70 =>
  BND (extractv t80_199 0) fun t81_200 =>
  BND (extractv t80_199 1) fun t82_201 =>
  BND (storev 10 w70 t13_197 t81_200) fun w71 =>
  k_145 t82_201 w71) ∧
  (BND (newslice 62 #[(Value.int .i64 0), (Value.slice none 0 0), (Value.string ByteArray.empty)] 3 0 [] w21.drew) fun p_ => NEW p_ fun t69_202 w72 =>
  S_129 8 w72 ∧
  BND (newslice 62 #[(Value.int .i64 0), (Value.slice none 0 0), (Value.string ByteArray.empty)] 3 1 [(0, 3, t77_133)] w72) fun p_ => NEW p_ fun t78_203 w73 =>
  NEW (newv 29 w73 (Value.agg #[(Value.int .u64 0), (Value.int .u64 0), (Value.int .u64 0), (Value.int .u64 0), (Value.int .u64 0), (Value.slice none 0 0), (Value.slice none 0 0), (Value.slice none 0 0), (Value.int .u64 0), (Value.int .u64 0)])) fun t13_204 w74 =>
  S_129 8 w74 ∧
  APPEND 62 3 48 (Value.agg #[(Value.int .i64 0), (Value.slice none 0 0), (Value.string ByteArray.empty)]) t69_202 t32_13 w74 fun t71_205 w75 =>
  S_129 8 w75 ∧
  APPEND 62 3 48 (Value.agg #[(Value.int .i64 0), (Value.slice none 0 0), (Value.string ByteArray.empty)]) t71_205 t78_203 w75 fun t79_206 w76 =>
  CALL PR F_snap_Load [t79_206] w76 fun t80_207 w77 =>
  BND (extractv t80_207 0) fun t81_208 =>
  BND (extractv t80_207 1) fun t82_209 =>
  BND (storev 10 w77 t13_204 t81_208) fun w78 =>
  k_145 t82_209 w78) ∧
  (BND (newslice 62 #[(Value.int .i64 0), (Value.slice none 0 0), (Value.string ByteArray.empty)] 3 0 [] w21.drew) fun p_ => NEW p_ fun t69_210 w79 =>
  S_129 8 w79 ∧
  NEW (newv 29 w79 (Value.agg #[(Value.int .u64 0), (Value.int .u64 0), (Value.int .u64 0), (Value.int .u64 0), (Value.int .u64 0), (Value.slice none 0 0), (Value.slice none 0 0), (Value.slice none 0 0), (Value.int .u64 0), (Value.int .u64 0)])) fun t13_211 w80 =>
  S_129 8 w80 ∧
  APPEND 62 3 48 (Value.agg #[(Value.int .i64 0), (Value.slice none 0 0), (Value.string ByteArray.empty)]) t69_210 t32_13 w80 fun t71_212 w81 =>
  S_129 8 w81 ∧
  BND (newslice 62 #[(Value.int .i64 0), (Value.slice none 0 0), (Value.string ByteArray.empty)] 3 1 [(0, 3, t77_133)] w81) fun p_ => NEW p_ fun t78_213 w82 =>
  APPEND 62 3 48 (Value.agg #[(Value.int .i64 0), (Value.slice none 0 0), (Value.string ByteArray.empty)]) t71_212 t78_213 w82 fun t79_214 w83 =>
  CALL PR F_snap_Load [t79_214] w83 fun t80_215 w84 =>
  BND (extractv t80_215 0) fun t81_216 =>
  BND (extractv t80_215 1) fun t82_217 =>
  BND (storev 10 w84 t13_211 t81_216) fun w85 =>
  k_145 t82_217 w85) ∧
  (BND (newslice 62 #[(Value.int .i64 0), (Value.slice none 0 0), (Value.string ByteArray.empty)] 3 0 [] w21.drew) fun p_ => NEW p_ fun t69_218 w86 =>
  S_129 8 w86 ∧
  NEW (newv 29 w86 (Value.agg #[(Value.int .u64 0), (Value.int .u64 0), (Value.int .u64 0), (Value.int .u64 0), (Value.int .u64 0), (Value.slice none 0 0), (Value.slice none 0 0), (Value.slice none 0 0), (Value.int .u64 0), (Value.int .u64 0)])) fun t13_219 w87 =>
  S_129 8 w87 ∧
  BND (newslice 62 #[(Value.int .i64 0), (Value.slice none 0 0), (Value.string ByteArray.empty)] 3 1 [(0, 3, t77_133)] w87) fun p_ => NEW p_ fun t78_220 w88 =>
  APPEND 62 3 48 (Value.agg #[(Value.int .i64 0), (Value.slice none 0 0), (Value.string ByteArray.empty)]) t69_218 t32_13 w88 fun t71_221 w89 =>
  S_129 8 w89 ∧
  APPEND 62 3 48 (Value.agg #[(Value.int .i64 0), (Value.slice none 0 0), (Value.string ByteArray.empty)]) t71_221 t78_220 w89 fun t79_222 w90 =>
  CALL PR F_snap_Load [t79_222] w90 fun t80_223 w91 =>
  BND (extractv t80_223 0) fun t81_224 =>
  BND (extractv t80_223 1) fun t82_225 =>
  BND (storev 10 w91 t13_219 t81_224) fun w92 =>
  k_145 t82_225 w92) ∧
  (BND (newslice 62 #[(Value.int .i64 0), (Value.slice none 0 0), (Value.string ByteArray.empty)] 3 1 [(0, 3, t77_133)] w21.drew) fun p_ => NEW p_ fun t78_226 w93 =>
  BND (newslice 62 #[(Value.int .i64 0), (Value.slice none 0 0), (Value.string ByteArray.empty)] 3 0 [] w93) fun p_ => NEW p_ fun t69_227 w94 =>
  S_129 8 w94 ∧
  APPEND 62 3 48 (Value.agg #[(Value.int .i64 0), (Value.slice none 0 0), (Value.string ByteArray.empty)]) t69_227 t32_13 w94 fun t71_228 w95 =>
  S_129 8 w95 ∧
  APPEND 62 3 48 (Value.agg #[(Value.int .i64 0), (Value.slice none 0 0), (Value.string ByteArray.empty)]) t71_228 t78_226 w95 fun t79_229 w96 =>
  CALL PR F_snap_Load [t79_229] w96 fun t80_230 w97 =>
  BND (extractv t80_230 0) fun t81_231 =>
  BND (extractv t80_230 1) fun t82_232 =>
  NEW (newv 29 w97 (Value.agg #[(Value.int .u64 0), (Value.int .u64 0), (Value.int .u64 0), (Value.int .u64 0), (Value.int .u64 0), (Value.slice none 0 0), (Value.slice none 0 0), (Value.slice none 0 0), (Value.int .u64 0), (Value.int .u64 0)])) fun t13_233 w98 =>
  S_129 8 w98 ∧
  BND (storev 10 w98 t13_233 t81_231) fun w99 =>
  k_145 t82_232 w99) ∧
  (BND (newslice 62 #[(Value.int .i64 0), (Value.slice none 0 0), (Value.string ByteArray.empty)] 3 1 [(0, 3, t77_133)] w21.drew) fun p_ => NEW p_ fun t78_234 w100 =>
  BND (newslice 62 #[(Value.int .i64 0), (Value.slice none 0 0), (Value.string ByteArray.empty)] 3 0 [] w100) fun p_ => NEW p_ fun t69_235 w101 =>
  S_129 8 w101 ∧
  APPEND 62 3 48 (Value.agg #[(Value.int .i64 0), (Value.slice none 0 0), (Value.string ByteArray.empty)]) t69_235 t32_13 w101 fun t71_236 w102 =>
  S_129 8 w102 ∧
  APPEND 62 3 48 (Value.agg #[(Value.int .i64 0), (Value.slice none 0 0), (Value.string ByteArray.empty)]) t71_236 t78_234 w102 fun t79_237 w103 =>
  NEW (newv 29 w103 (Value.agg #[(Value.int .u64 0), (Value.int .u64 0), (Value.int .u64 0), (Value.int .u64 0), (Value.int .u64 0), (Value.slice none 0 0), (Value.slice none 0 0), (Value.slice none 0 0), (Value.int .u64 0), (Value.int .u64 0)])) fun t13_238 w104 =>
  S_129 8 w104 ∧
  CALL PR F_snap_Load [t79_237] w104 fun t80_239 w105 =>
  BND (extractv t80_239 0) fun t81_240 =>
  BND (extractv t80_239 1) fun t82_241 =>
  BND (storev 10 w105 t13_238 t81_240) fun w106 =>
  k_145 t82_241 w106) ∧
  (BND (newslice 62 #[(Value.int .i64 0), (Value.slice none 0 0), (Value.string ByteArray.empty)] 3 1 [(0, 3, t77_133)] w21.drew) fun p_ => NEW p_ fun t78_242 w107 =>
  BND (newslice 62 #[(Value.int .i64 0), (Value.slice none 0 0), (Value.string ByteArray.empty)] 3 0 [] w107) fun p_ => NEW p_ fun t69_243 w108 =>
  S_129 8 w108 ∧
  APPEND 62 3 48 (Value.agg #[(Value.int .i64 0), (Value.slice none 0 0), (Value.string ByteArray.empty)]) t69_243 t32_13 w108 fun t71_244 w109 =>
  S_129 8 w109 ∧
  NEW (newv 29 w109 (Value.agg #[(Value.int .u64 0), (Value.int .u64 0), (Value.int .u64 0), (Value.int .u64 0), (Value.int .u64 0), (Value.slice none 0 0), (Value.slice none 0 0), (Value.slice none 0 0), (Value.int .u64 0), (Value.int .u64 0)])) fun t13_245 w110 =>
  S_129 8 w110 ∧
  APPEND 62 3 48 (Value.agg #[(Value.int .i64 0), (Value.slice none 0 0), (Value.string ByteArray.empty)]) t71_244 t78_242 w110 fun t79_246 w111 =>
  CALL PR F_snap_Load [t79_246] w111 fun t80_247 w112 =>
  BND (extractv t80_247 0) fun t81_248 =>
  BND (extractv t80_247 1) fun t82_249 =>
  BND (storev 10 w112 t13_245 t81_248) fun w113 =>
  k_145 t82_249 w113) ∧
  (BND (newslice 62 #[(Value.int .i64 0), (Value.slice none 0 0), (Value.string ByteArray.empty)] 3 1 [(0, 3, t77_133)] w21.drew) fun p_ => NEW p_ fun t78_250 w114 =>
  BND (newslice 62 #[(Value.int .i64 0), (Value.slice none 0 0), (Value.string ByteArray.empty)] 3 0 [] w114) fun p_ => NEW p_ fun t69_251 w115 =>
  S_129 8 w115 ∧
  NEW (newv 29 w115 (Value.agg #[(Value.int .u64 0), (Value.int .u64 0), (Value.int .u64 0), (Value.int .u64 0), (Value.int .u64 0), (Value.slice none 0 0), (Value.slice none 0 0), (Value.slice none 0 0), (Value.int .u64 0), (Value.int .u64 0)])) fun t13_252 w116 =>
  S_129 8 w116 ∧
  APPEND 62 3 48 (Value.agg #[(Value.int .i64 0), (Value.slice none 0 0), (Value.string ByteArray.empty)]) t69_251 t32_13 w116 fun t71_253 w117 =>
  S_129 8 w117 ∧
  APPEND 62 3 48 (Value.agg #[(Value.int .i64 0), (Value.slice none 0 0), (Value.string ByteArray.empty)]) t71_253 t78_250 w117 fun t79_254 w118 =>
  CALL PR F_snap_Load [t79_254] w118 fun t80_255 w119 =>
  BND (extractv t80_255 0) fun t81_256 =>
  BND (extractv t80_255 1) fun t82_257 =>
  BND (storev 10 w119 t13_252 t81_256) fun w120 =>
  k_145 t82_257 w120) ∧
  (BND (newslice 62 #[(Value.int .i64 0), (Value.slice none 0 0), (Value.string ByteArray.empty)] 3 1 [(0, 3, t77_133)] w21.drew) fun p_ => NEW p_ fun t78_258 w121 =>
  NEW (newv 29 w121 (Value.agg #[(Value.int .u64 0), (Value.int .u64 0), (Value.int .u64 0), (Value.int .u64 0), (Value.int .u64 0), (Value.slice none 0 0), (Value.slice none 0 0), (Value.slice none 0 0), (Value.int .u64 0), (Value.int .u64 0)])) fun t13_259 w122 =>
  S_129 8 w122 ∧
  BND (newslice 62 #[(Value.int .i64 0), (Value.slice none 0 0), (Value.string ByteArray.empty)] 3 0 [] w122) fun p_ => NEW p_ fun t69_260 w123 =>
  S_129 8 w123 ∧
  APPEND 62 3 48 (Value.agg #[(Value.int .i64 0), (Value.slice none 0 0), (Value.string ByteArray.empty)]) t69_260 t32_13 w123 fun t71_261 w124 =>
  S_129 8 w124 ∧
  APPEND 62 3 48 (Value.agg #[(Value.int .i64 0), (Value.slice none 0 0), (Value.string ByteArray.empty)]) t71_261 t78_258 w124 fun t79_262 w125 =>
  CALL PR F_snap_Load [t79_262] w125 fun t80_263 w126 =>
  BND (extractv t80_263 0) fun t81_264 =>
  BND (extractv t80_263 1) fun t82_265 =>
  BND (storev 10 w126 t13_259 t81_264) fun w127 =>
  k_145 t82_265 w127) ∧
  (NEW (newv 29 w21.drew (Value.agg #[(Value.int .u64 0), (Value.int .u64 0), (Value.int .u64 0), (Value.int .u64 0), (Value.int .u64 0), (Value.slice none 0 0), (Value.slice none 0 0), (Value.slice none 0 0), (Value.int .u64 0), (Value.int .u64 0)])) fun t13_266 w128 =>
  S_129 8 w128 ∧
  BND (newslice 62 #[(Value.int .i64 0), (Value.slice none 0 0), (Value.string ByteArray.empty)] 3 0 [] w128) fun p_ => NEW p_ fun t69_267 w129 =>
  S_129 8 w129 ∧
  APPEND 62 3 48 (Value.agg #[(Value.int .i64 0), (Value.slice none 0 0), (Value.string ByteArray.empty)]) t69_267 t32_13 w129 fun t71_268 w130 =>
  S_129 8 w130 ∧
  BND (newslice 62 #[(Value.int .i64 0), (Value.slice none 0 0), (Value.string ByteArray.empty)] 3 1 [(0, 3, t77_133)] w130) fun p_ => NEW p_ fun t78_269 w131 =>
  APPEND 62 3 48 (Value.agg #[(Value.int .i64 0), (Value.slice none 0 0), (Value.string ByteArray.empty)]) t71_268 t78_269 w131 fun t79_270 w132 =>
  CALL PR F_snap_Load [t79_270] w132 fun t80_271 w133 =>
  BND (extractv t80_271 0) fun t81_272 =>
  BND (extractv t80_271 1) fun t82_273 =>
  BND (storev 10 w133 t13_266 t81_272) fun w134 =>
  k_145 t82_273 w134) ∧
  (NEW (newv 29 w21.drew (Value.agg #[(Value.int .u64 0), (Value.int .u64 0), (Value.int .u64 0), (Value.int .u64 0), (Value.int .u64 0), (Value.slice none 0 0), (Value.slice none 0 0), (Value.slice none 0 0), (Value.int .u64 0), (Value.int .u64 0)])) fun t13_274 w135 =>
  S_129 8 w135 ∧
  BND (newslice 62 #[(Value.int .i64 0), (Value.slice none 0 0), (Value.string ByteArray.empty)] 3 0 [] w135) fun p_ => NEW p_ fun t69_275 w136 =>
  S_129 8 w136 ∧
  BND (newslice 62 #[(Value.int .i64 0), (Value.slice none 0 0), (Value.string ByteArray.empty)] 3 1 [(0, 3, t77_133)] w136) fun p_ => NEW p_ fun t78_276 w137 =>
  APPEND 62 3 48 (Value.agg #[(Value.int .i64 0), (Value.slice none 0 0), (Value.string ByteArray.empty)]) t69_275 t32_13 w137 fun t71_277 w138 =>
  S_129 8 w138 ∧
  APPEND 62 3 48 (Value.agg #[(Value.int .i64 0), (Value.slice none 0 0), (Value.string ByteArray.empty)]) t71_277 t78_276 w138 fun t79_278 w139 =>
  CALL PR F_snap_Load [t79_278] w139 fun t80_279 w140 =>
  BND (extractv t80_279 0) fun t81_280 =>
  BND (extractv t80_279 1) fun t82_281 =>
  BND (storev 10 w140 t13_274 t81_280) fun w141 =>
  k_145 t82_281 w141) ∧
  (NEW (newv 29 w21.drew (Value.agg #[(Value.int .u64 0), (Value.int .u64 0), (Value.int .u64 0), (Value.int .u64 0), (Value.int .u64 0), (Value.slice none 0 0), (Value.slice none 0 0), (Value.slice none 0 0), (Value.int .u64 0), (Value.int .u64 0)])) fun t13_282 w142 =>
  S_129 8 w142 ∧
  BND (newslice 62 #[(Value.int .i64 0), (Value.slice none 0 0), (Value.string ByteArray.empty)] 3 1 [(0, 3, t77_133)] w142) fun p_ => NEW p_ fun t78_283 w143 =>
  BND (newslice 62 #[(Value.int .i64 0), (Value.slice none 0 0), (Value.string ByteArray.empty)] 3 0 [] w143) fun p_ => NEW p_ fun t69_284 w144 =>
  S_129 8 w144 ∧
  APPEND 62 3 48 (Value.agg #[(Value.int .i64 0), (Value.slice none 0 0), (Value.string ByteArray.empty)]) t69_284 t32_13 w144 fun t71_285 w145 =>
  S_129 8 w145 ∧
  APPEND 62 3 48 (Value.agg #[(Value.int .i64 0), (Value.slice none 0 0), (Value.string ByteArray.empty)]) t71_285 t78_283 w145 fun t79_286 w146 =>
  CALL PR F_snap_Load [t79_286] w146 fun t80_287 w147 =>
  BND (extractv t80_287 0) fun t81_288 =>
  BND (extractv t80_287 1) fun t82_289 =>
  BND (storev 10 w147 t13_282 t81_288) fun w148 =>
  k_145 t82_289 w148))
  (fun t14_135 w22 => BND (binv .int .neq t14_135 (Value.int .i64 2)) fun t84_144 =>
  COND t84_144
  (R (Value.bool false) w22)
  (k_97 w22)))))
  (k_97 w6))
  (fun w7 => CALL PR F_snap_Load [i_p1] w7 fun t87_72 w8 =>
  BND (extractv t87_72 0) fun t88_73 =>
  BND (extractv t87_72 1) fun t89_74 =>
  NEW (newv 29 w8 (Value.agg #[(Value.int .u64 0), (Value.int .u64 0), (Value.int .u64 0), (Value.int .u64 0), (Value.int .u64 0), (Value.slice none 0 0), (Value.slice none 0 0), (Value.slice none 0 0), (Value.int .u64 0), (Value.int .u64 0)])) fun t15_75 w9 =>
  BND (storev 10 w9 t15_75 t88_73) fun w10 =>
  BND (binv .int .neq t89_74 (Value.int .i64 0)) fun t91_76 =>
  COND t91_76
  (BND (faddr 0 t15_75) fun t92_77 =>
  BND (faddr 5 t92_77) fun t93_78 =>
  BND (load1 w10 t93_78) fun t94_79 =>
  BND (lenl t94_79) fun t95_80 =>
  BND (binv .int .eql t95_80 (Value.int .i64 0)) fun t96_81 =>
  BND (grd (isB t96_81 true) (faddr 8 t15_75)) fun t98_82 =>
  BND (grd (isB t96_81 true) (load1 w10 t98_82)) fun t99_83 =>
  BND (grd (isB t96_81 true) (binv .int .eql t99_83 (Value.int .u64 0))) fun t100_84 =>
  BND (pickv t96_81 t100_84 (Value.bool false)) fun t101_85 =>
  R t101_85 w10)
  (BND (loadn 10 w10 t15_75) fun t103_86 =>
  CALL PR F_snap_Save [t103_86] w10 fun t104_87 w11 =>
  BND (extractv t104_87 0) fun t105_88 =>
  BND (extractv t104_87 1) fun t106_89 =>
  BND (binv .int .eql t106_89 (Value.int .i64 0)) fun t108_90 =>
  BND (grd (isB t108_90 true) (some t105_88)) fun t110_91 =>
  GEF (isB t108_90 true) (fun k_ => CALL PR F_tumbrellaw13_owns [t110_91] w11 k_) w11 fun t111_92 w12 =>
  BND (grd (isB t108_90 true) (some i_p1)) fun t112_93 =>
  GEF (isB t108_90 true) (fun k_ => CALL PR F_tumbrellaw13_owns [t112_93] w12 k_) w12 fun t113_94 w13 =>
  GEF (isB t108_90 true) (fun k_ => CALL PR F_tumbrelref05_Same [t111_92, t113_94] w13 k_) w13 fun t114_95 w14 =>
  BND (pickv t108_90 t114_95 (Value.bool false)) fun t115_96 =>
  R t115_96 w14))))
def ann_tumbrellaw13_SnapBack : List (Nat × List Nat) := [(8, [0, 1, 2, 5, 3, 4, 6, 7, 8, 9]), (14, [1, 3, 4, 5, 6, 7, 8]), (2000008, [5]), (2000014, [8]), (3008004, [5]), (3014000, [8]), (3014002, [8]), (3014015, [8]), (4000014, [0, 2, 9, 10, 11, 12, 13, 14, 15]), (5000014, [0, 2, 9, 10, 11, 12, 13, 14, 15, 16, 17, 9999, 0, 2, 9, 10, 15, 11, 12, 13, 14, 16, 17, 9999, 0, 2, 9, 15, 10, 11, 12, 13, 14, 16, 17, 9999, 0, 2, 15, 9, 10, 11, 12, 13, 14, 16, 17, 9999, 0, 9, 2, 10, 11, 12, 13, 14, 15, 16, 17, 9999, 0, 9, 2, 10, 15, 11, 12, 13, 14, 16, 17, 9999, 0, 9, 2, 15, 10, 11, 12, 13, 14, 16, 17, 9999, 0, 9, 15, 2, 10, 11, 12, 13, 14, 16, 17, 9999, 0, 15, 2, 9, 10, 11, 12, 13, 14, 16, 17, 9999, 0, 15, 9, 2, 10, 11, 12, 13, 14, 16, 17, 9999, 9, 0, 2, 10, 11, 12, 13, 14, 15, 16, 17, 9999, 9, 0, 2, 10, 15, 11, 12, 13, 14, 16, 17, 9999, 9, 0, 2, 15, 10, 11, 12, 13, 14, 16, 17, 9999, 9, 0, 15, 2, 10, 11, 12, 13, 14, 16, 17, 9999, 9, 15, 0, 2, 10, 11, 12, 13, 14, 16, 17, 9999, 15, 0, 2, 9, 10, 11, 12, 13, 14, 16, 17, 9999, 15, 0, 9, 2, 10, 11, 12, 13, 14, 16, 17, 9999, 15, 9, 0, 2, 10, 11, 12, 13, 14, 16, 17])]
theorem E_tumbrellaw13_SnapBack (L_p0 i_p1 s_p2 : Value) (w : World) (R : Value → World → Prop) : M_tumbrellaw13_SnapBack L_p0 i_p1 s_p2 w R = den PR ann_tumbrellaw13_SnapBack (bodyOf Try.f4) (retQ PR Try.f4.results.toList R) (env0 [L_p0, i_p1, s_p2]) w := by kernel_rfl
theorem C_tumbrellaw13_SnapBack {L_p0 i_p1 s_p2 : Value} {w : World} {R : Value → World → Prop} (h : M_tumbrellaw13_SnapBack L_p0 i_p1 s_p2 w R) : CALL PR F_tumbrellaw13_SnapBack [L_p0, i_p1, s_p2] w R :=
  call_of_den2 ann_tumbrellaw13_SnapBack Try.func4 (by kernel_rfl) (by kernel_rfl) (by kernel_rfl) ((E_tumbrellaw13_SnapBack L_p0 i_p1 s_p2 w R) ▸ h)


-- 5 tumbrel.tumbrellaw13.SnapSegs
def M_tumbrellaw13_SnapSegs (L_p0 i_p1 : Value) (w : World) (R : Value → World → Prop) : Prop :=
  CALL PR F_tumbrellaw13_awake [] w fun t12_1 w1 =>
  BND (unv .not t12_1) fun t13_2 =>
  COND t13_2
  (R (Value.bool false) w1)
  (BND (lenl L_p0) fun t15_3 =>
  BND (binv .int .gtr t15_3 (Value.int .i64 220)) fun t16_4 =>
  COND t16_4
  (R (Value.bool true) w1)
  (CALL PR F_snap_Segs [L_p0] w1 fun t18_5 w2 =>
  BND (lenl L_p0) fun t20_6 =>
  ∃ (J_7 : Value → Value → World → Prop) (m_7 : Value → Value → World → Nat), J_7 (Value.bool false) (Value.int .i64 0) w2 ∧ ∀ (_d_7 : Env) (o_8 t21_10 : Value) (w3 : World), J_7 o_8 t21_10 w3 →
  (BND (binv .int .lss t21_10 t20_6) fun t22_23 =>
  COND t22_23
  (BND (iaddr 10 L_p0 t21_10) fun t23_24 =>
  BND (loadn 10 w3 t23_24) fun t24_25 =>
  NEW (newv 69 w3 (Value.agg #[(Value.int .u64 0), (Value.int .i64 0), (Value.int .i64 0), (Value.int .i64 0), (Value.int .u64 0), (Value.int .u64 0), (Value.int .u64 0), (Value.int .u64 0), (Value.int .u64 0), (Value.int .i64 0)])) fun r_26 w4 =>
  BND (storev 10 w4 r_26 t24_25) fun w5 =>
  BND (grd (isB o_8 false) (faddr 7 r_26)) fun t27_27 =>
  BND (grd (isB o_8 false) (faddr 0 t27_27)) fun t28_28 =>
  BND (grd (isB o_8 false) (load1 w5 t28_28)) fun t29_29 =>
  BND (grd (isB o_8 false) (some i_p1)) fun t30_30 =>
  BND (grd (isB o_8 false) (binv .int .eql t29_29 t30_30)) fun t31_31 =>
  BND (pickv o_8 (Value.bool true) t31_31) fun t32_32 =>
  BND (binv .int .add t21_10 (Value.int .i64 1)) fun t33_33 =>
  (J_7 t32_32 t33_33 w5 ∧ m_7 t32_32 t33_33 w5 < m_7 o_8 t21_10 w3))
  (BND (lenl t18_5) fun t35_34 =>
  ∃ (J_35 : Value → Value → World → Prop) (m_35 : Value → Value → World → Nat), J_35 (Value.bool false) (Value.int .i64 0) w3 ∧ ∀ (_d_35 : Env) (A_37 t36_40 : Value) (w6 : World), J_35 A_37 t36_40 w6 →
  (BND (binv .int .lss t36_40 t35_34) fun t37_63 =>
  COND t37_63
  (BND (iaddr 1 t18_5 t36_40) fun t39_64 =>
  BND (load1 w6 t39_64) fun t40_65 =>
  BND (grd (isB A_37 false) (some t40_65)) fun t43_66 =>
  BND (grd (isB A_37 false) (some i_p1)) fun t44_67 =>
  BND (grd (isB A_37 false) (binv .int .eql t43_66 t44_67)) fun t45_68 =>
  BND (pickv A_37 (Value.bool true) t45_68) fun t46_69 =>
  BND (binv .int .gtr t36_40 (Value.int .i64 0)) fun t48_70 =>
  BND (grd (isB t48_70 true) (some t40_65)) fun t50_71 =>
  BND (grd (isB t48_70 true) (some t18_5)) fun t51_72 =>
  BND (grd (isB t48_70 true) (some t36_40)) fun t52_73 =>
  BND (grd (isB t48_70 true) (binv .int .sub t52_73 (Value.int .i64 1))) fun t53_74 =>
  BND (grd (isB t48_70 true) (iaddr 1 t51_72 t53_74)) fun t54_75 =>
  BND (grd (isB t48_70 true) (load1 w6 t54_75)) fun t55_76 =>
  BND (grd (isB t48_70 true) (binv .int .leq t50_71 t55_76)) fun t56_77 =>
  BND (pickv t48_70 t56_77 (Value.bool false)) fun t57_78 =>
  COND t57_78
  (R (Value.bool false) w6)
  (BND (binv .int .add t36_40 (Value.int .i64 1)) fun t58_79 =>
  (J_35 t46_69 t58_79 w6 ∧ m_35 t46_69 t58_79 w6 < m_35 A_37 t36_40 w6)))
  (BND (binv .bool .eql o_8 A_37) fun t61_80 =>
  BND (grd (isB t61_80 true) (some t18_5)) fun t63_81 =>
  BND (grd (isB t61_80 true) (lenl t63_81)) fun t64_82 =>
  BND (grd (isB t61_80 true) (some L_p0)) fun t65_83 =>
  BND (grd (isB t61_80 true) (lenl t65_83)) fun t66_84 =>
  BND (grd (isB t61_80 true) (binv .int .leq t64_82 t66_84)) fun t67_85 =>
  BND (pickv t61_80 t67_85 (Value.bool false)) fun t68_86 =>
  BND (grd (isB t68_86 true) (some L_p0)) fun t70_87 =>
  BND (grd (isB t68_86 true) (lenl t70_87)) fun t71_88 =>
  BND (grd (isB t68_86 true) (binv .int .eql t71_88 (Value.int .i64 0))) fun t72_89 =>
  BND (grd (isB t68_86 true) (some t72_89)) fun t73_90 =>
  BND (grd (isB t73_90 false) (some t18_5)) fun t74_91 =>
  BND (grd (isB t73_90 false) (lenl t74_91)) fun t75_92 =>
  BND (grd (isB t73_90 false) (binv .int .gtr t75_92 (Value.int .i64 0))) fun t76_93 =>
  BND (grd (isB t68_86 true) (pickv t73_90 (Value.bool true) t76_93)) fun t77_94 =>
  BND (pickv t68_86 t77_94 (Value.bool false)) fun t78_95 =>
  R t78_95 w6))))))
def ann_tumbrellaw13_SnapSegs : List (Nat × List Nat) := [(1000008, [6, 21]), (1000013, [7, 36])]
theorem E_tumbrellaw13_SnapSegs (L_p0 i_p1 : Value) (w : World) (R : Value → World → Prop) : M_tumbrellaw13_SnapSegs L_p0 i_p1 w R = den PR ann_tumbrellaw13_SnapSegs (bodyOf Try.f5) (retQ PR Try.f5.results.toList R) (env0 [L_p0, i_p1]) w := by kernel_rfl
theorem C_tumbrellaw13_SnapSegs {L_p0 i_p1 : Value} {w : World} {R : Value → World → Prop} (h : M_tumbrellaw13_SnapSegs L_p0 i_p1 w R) : CALL PR F_tumbrellaw13_SnapSegs [L_p0, i_p1] w R :=
  call_of_den2 ann_tumbrellaw13_SnapSegs Try.func5 (by kernel_rfl) (by kernel_rfl) (by kernel_rfl) ((E_tumbrellaw13_SnapSegs L_p0 i_p1 w R) ▸ h)


-- 6 tumbrel.tumbrellaw13.awake
def M_tumbrellaw13_awake (w : World) (R : Value → World → Prop) : Prop :=
  BND (buildv #[(Value.int .u64 0), (Value.int .u64 0), (Value.int .u64 0), (Value.int .u64 0), (Value.int .u64 0), (Value.slice none 0 0), (Value.slice none 0 0), (Value.slice none 0 0), (Value.int .u64 0), (Value.int .u64 0)] [(8, 1, (Value.int .u64 4)), (9, 1, (Value.int .u64 5))]) fun a_1 =>
  CALL PR F_snap_Save [a_1] w fun y_2 w1 =>
  BND (extractv y_2 0) fun t12_3 =>
  BND (extractv y_2 1) fun t13_4 =>
  CALL PR F_snap_Load [t12_3] w1 fun t16_5 w2 =>
  BND (extractv t16_5 0) fun t17_6 =>
  BND (extractv t16_5 1) fun t18_7 =>
  NEW (newv 29 w2 (Value.agg #[(Value.int .u64 0), (Value.int .u64 0), (Value.int .u64 0), (Value.int .u64 0), (Value.int .u64 0), (Value.slice none 0 0), (Value.slice none 0 0), (Value.slice none 0 0), (Value.int .u64 0), (Value.int .u64 0)])) fun t_8 w3 =>
  BND (storev 10 w3 t_8 t17_6) fun w4 =>
  CALL PR F_snap_Load [(Value.slice none 0 0)] w4 fun t20_9 w5 =>
  BND (extractv t20_9 0) fun t21_10 =>
  BND (extractv t20_9 1) fun t22_11 =>
  NEW (newv 29 w5 (Value.agg #[(Value.int .u64 0), (Value.int .u64 0), (Value.int .u64 0), (Value.int .u64 0), (Value.int .u64 0), (Value.slice none 0 0), (Value.slice none 0 0), (Value.slice none 0 0), (Value.int .u64 0), (Value.int .u64 0)])) fun t_12 w6 =>
  BND (storev 10 w6 t_12 t21_10) fun w7 =>
  BND (buildv #[(Value.int .u64 0), (Value.int .i64 0), (Value.int .i64 0), (Value.int .i64 0), (Value.int .u64 0), (Value.int .u64 0), (Value.int .u64 0), (Value.int .u64 0), (Value.int .u64 0), (Value.int .i64 0)] [(1, 1, (Value.int .i64 (-1)))]) fun t24_13 =>
  BND (newslice 69 #[(Value.int .u64 0), (Value.int .i64 0), (Value.int .i64 0), (Value.int .i64 0), (Value.int .u64 0), (Value.int .u64 0), (Value.int .u64 0), (Value.int .u64 0), (Value.int .u64 0), (Value.int .i64 0)] 10 1 [(0, 10, t24_13)] w7) fun p_ => NEW p_ fun t25_14 w8 =>
  BND (buildv #[(Value.int .u64 0), (Value.int .u64 0), (Value.int .u64 0), (Value.int .u64 0), (Value.int .u64 0), (Value.slice none 0 0), (Value.slice none 0 0), (Value.slice none 0 0)] [(5, 1, t25_14)]) fun t26_15 =>
  BND (buildv #[(Value.int .u64 0), (Value.int .u64 0), (Value.int .u64 0), (Value.int .u64 0), (Value.int .u64 0), (Value.slice none 0 0), (Value.slice none 0 0), (Value.slice none 0 0), (Value.int .u64 0), (Value.int .u64 0)] [(0, 8, t26_15)]) fun t27_16 =>
  CALL PR F_snap_Save [t27_16] w8 fun t28_17 w9 =>
  BND (extractv t28_17 0) fun t29_18 =>
  BND (extractv t28_17 1) fun t30_19 =>
  BND (binv .int .eql t13_4 (Value.int .i64 0)) fun t32_20 =>
  BND (grd (isB t32_20 true) (some t12_3)) fun t34_21 =>
  GEF (isB t32_20 true) (fun k_ => CALL PR F_tumbrellaw13_owns [t34_21] w9 k_) w9 fun t35_22 w10 =>
  GEF (isB t32_20 true) (fun k_ => BND (newslice 22 #[(Value.int .u64 0)] 1 7 [(0, 1, (Value.int .u64 0)), (1, 1, (Value.int .u64 0)), (2, 1, (Value.int .u64 0)), (3, 1, (Value.int .u64 0)), (4, 1, (Value.int .u64 0)), (5, 1, (Value.int .u64 4)), (6, 1, (Value.int .u64 5))] w10) fun p_ => NEW p_ k_) w10 fun t36_23 w11 =>
  BND (grd (isB t32_20 true) (buildv #[(Value.int .i64 0), (Value.slice none 0 0), (Value.string ByteArray.empty)] [(0, 1, (Value.int .i64 13)), (1, 1, t36_23)])) fun t37_24 =>
  GEF (isB t32_20 true) (fun k_ => BND (newslice 22 #[(Value.int .u64 0)] 1 1 [(0, 1, (Value.int .u64 1))] w11) fun p_ => NEW p_ k_) w11 fun t38_25 w12 =>
  BND (grd (isB t32_20 true) (buildv #[(Value.int .i64 0), (Value.slice none 0 0), (Value.string ByteArray.empty)] [(0, 1, (Value.int .i64 17)), (1, 1, t38_25)])) fun t39_26 =>
  GEF (isB t32_20 true) (fun k_ => BND (newslice 71 #[(Value.int .i64 0), (Value.slice none 0 0), (Value.string ByteArray.empty)] 3 2 [(0, 3, t37_24), (3, 3, t39_26)] w12) fun p_ => NEW p_ k_) w12 fun t40_27 w13 =>
  GEF (isB t32_20 true) (fun k_ => CALL PR F_tumbrelref05_Same [t35_22, t40_27] w13 k_) w13 fun t41_28 w14 =>
  BND (pickv t32_20 t41_28 (Value.bool false)) fun t42_29 =>
  BND (grd (isB t42_29 true) (some t18_7)) fun t44_30 =>
  BND (grd (isB t42_29 true) (binv .int .eql t44_30 (Value.int .i64 0))) fun t45_31 =>
  BND (pickv t42_29 t45_31 (Value.bool false)) fun t46_32 =>
  BND (grd (isB t46_32 true) (faddr 8 t_8)) fun t48_33 =>
  BND (grd (isB t46_32 true) (load1 w14 t48_33)) fun t49_34 =>
  BND (grd (isB t46_32 true) (binv .int .eql t49_34 (Value.int .u64 4))) fun t50_35 =>
  BND (pickv t46_32 t50_35 (Value.bool false)) fun t51_36 =>
  BND (grd (isB t51_36 true) (faddr 9 t_8)) fun t53_37 =>
  BND (grd (isB t51_36 true) (load1 w14 t53_37)) fun t54_38 =>
  BND (grd (isB t51_36 true) (binv .int .eql t54_38 (Value.int .u64 5))) fun t55_39 =>
  BND (pickv t51_36 t55_39 (Value.bool false)) fun t56_40 =>
  BND (grd (isB t56_40 true) (some t22_11)) fun t58_41 =>
  BND (grd (isB t56_40 true) (binv .int .eql t58_41 (Value.int .i64 2))) fun t59_42 =>
  BND (pickv t56_40 t59_42 (Value.bool false)) fun t60_43 =>
  BND (grd (isB t60_43 true) (some t30_19)) fun t62_44 =>
  BND (grd (isB t60_43 true) (binv .int .eql t62_44 (Value.int .i64 1))) fun t63_45 =>
  BND (pickv t60_43 t63_45 (Value.bool false)) fun t64_46 =>
  BND (grd (isB t64_46 true) (buildv #[(Value.int .u64 0), (Value.int .u64 0), (Value.int .i64 0)] [(0, 1, (Value.int .u64 3))])) fun t66_47 =>
  BND (grd (isB t64_46 true) (buildv #[(Value.int .u64 0), (Value.int .i64 0), (Value.int .i64 0), (Value.int .i64 0), (Value.int .u64 0), (Value.int .u64 0), (Value.int .u64 0), (Value.int .u64 0), (Value.int .u64 0), (Value.int .i64 0)] [(7, 3, t66_47)])) fun t67_48 =>
  BND (grd (isB t64_46 true) (buildv #[(Value.int .u64 0), (Value.int .u64 0), (Value.int .i64 0)] [(0, 1, (Value.int .u64 1))])) fun t68_49 =>
  BND (grd (isB t64_46 true) (buildv #[(Value.int .u64 0), (Value.int .i64 0), (Value.int .i64 0), (Value.int .i64 0), (Value.int .u64 0), (Value.int .u64 0), (Value.int .u64 0), (Value.int .u64 0), (Value.int .u64 0), (Value.int .i64 0)] [(7, 3, t68_49)])) fun t69_50 =>
  GEF (isB t64_46 true) (fun k_ => BND (newslice 69 #[(Value.int .u64 0), (Value.int .i64 0), (Value.int .i64 0), (Value.int .i64 0), (Value.int .u64 0), (Value.int .u64 0), (Value.int .u64 0), (Value.int .u64 0), (Value.int .u64 0), (Value.int .i64 0)] 10 2 [(0, 10, t67_48), (10, 10, t69_50)] w14) fun p_ => NEW p_ k_) w14 fun t70_51 w15 =>
  GEF (isB t64_46 true) (fun k_ => CALL PR F_snap_Segs [t70_51] w15 k_) w15 fun t71_52 w16 =>
  GEF (isB t64_46 true) (fun k_ => BND (newslice 22 #[(Value.int .u64 0)] 1 2 [(0, 1, (Value.int .u64 1)), (1, 1, (Value.int .u64 3))] w16) fun p_ => NEW p_ k_) w16 fun t72_53 w17 =>
  GEF (isB t64_46 true) (fun k_ => CALL PR F_tumbrelref02_Same [t71_52, t72_53] w17 k_) w17 fun t73_54 w18 =>
  BND (pickv t64_46 t73_54 (Value.bool false)) fun t74_55 =>
  R t74_55 w18
def ann_tumbrellaw13_awake : List (Nat × List Nat) := []
theorem E_tumbrellaw13_awake (w : World) (R : Value → World → Prop) : M_tumbrellaw13_awake w R = den PR ann_tumbrellaw13_awake (bodyOf Try.f6) (retQ PR Try.f6.results.toList R) (env0 []) w := by kernel_rfl
theorem C_tumbrellaw13_awake {w : World} {R : Value → World → Prop} (h : M_tumbrellaw13_awake w R) : CALL PR F_tumbrellaw13_awake [] w R :=
  call_of_den2 ann_tumbrellaw13_awake Try.func6 (by kernel_rfl) (by kernel_rfl) (by kernel_rfl) ((E_tumbrellaw13_awake w R) ▸ h)


-- 7 tumbrel.tumbrelref13.Large
def M_tumbrelref13_Large (s_p0 : Value) (w : World) (R : Value → World → Prop) : Prop :=
  NEW (newv 37 w s_p0) fun s_1 w1 =>
  BND (faddr 5 s_1) fun t4_2 =>
  BND (load1 w1 t4_2) fun t5_3 =>
  BND (lenl t5_3) fun t6_4 =>
  BND (binv .int .gtr t6_4 (Value.int .i64 220)) fun t7_5 =>
  BND (grd (isB t7_5 false) (faddr 6 s_1)) fun t9_6 =>
  BND (grd (isB t7_5 false) (load1 w1 t9_6)) fun t10_7 =>
  BND (grd (isB t7_5 false) (lenl t10_7)) fun t11_8 =>
  BND (grd (isB t7_5 false) (binv .int .gtr t11_8 (Value.int .i64 220))) fun t12_9 =>
  BND (pickv t7_5 (Value.bool true) t12_9) fun t13_10 =>
  BND (grd (isB t13_10 false) (faddr 7 s_1)) fun t15_11 =>
  BND (grd (isB t13_10 false) (load1 w1 t15_11)) fun t16_12 =>
  BND (grd (isB t13_10 false) (lenl t16_12)) fun t17_13 =>
  BND (grd (isB t13_10 false) (binv .int .gtr t17_13 (Value.int .i64 20))) fun t18_14 =>
  BND (pickv t13_10 (Value.bool true) t18_14) fun t19_15 =>
  COND t19_15
  (R (Value.bool true) w1)
  (∃ (J_16 : Value → World → Prop) (m_16 : Value → World → Nat), J_16 (Value.int .i64 0) w1 ∧ ∀ (_d_16 : Env) (i_18 : Value) (w2 : World), J_16 i_18 w2 →
  (BND (faddr 7 s_1) fun t21_34 =>
  BND (load1 w2 t21_34) fun t22_35 =>
  BND (lenl t22_35) fun t23_36 =>
  BND (binv .int .lss i_18 t23_36) fun t24_37 =>
  COND t24_37
  (BND (faddr 7 s_1) fun t27_38 =>
  BND (load1 w2 t27_38) fun t28_39 =>
  BND (iaddr 2 t28_39 i_18) fun t30_40 =>
  BND (faddr 0 t30_40) fun t31_41 =>
  BND (load1 w2 t31_41) fun t32_42 =>
  BND (lens t32_42) fun t33_43 =>
  BND (binv .int .gtr t33_43 (Value.int .i64 300)) fun t34_44 =>
  COND t34_44
  (R (Value.bool true) w2)
  (BND (binv .int .add i_18 (Value.int .i64 1)) fun t26_45 =>
  (J_16 t26_45 w2 ∧ m_16 t26_45 w2 < m_16 i_18 w2)))
  (R (Value.bool false) w2)))
def ann_tumbrelref13_Large : List (Nat × List Nat) := [(1000004, [3])]
theorem E_tumbrelref13_Large (s_p0 : Value) (w : World) (R : Value → World → Prop) : M_tumbrelref13_Large s_p0 w R = den PR ann_tumbrelref13_Large (bodyOf Try.f7) (retQ PR Try.f7.results.toList R) (env0 [s_p0]) w := by kernel_rfl
theorem C_tumbrelref13_Large {s_p0 : Value} {w : World} {R : Value → World → Prop} (h : M_tumbrelref13_Large s_p0 w R) : CALL PR F_tumbrelref13_Large [s_p0] w R :=
  call_of_den2 ann_tumbrelref13_Large Try.func7 (by kernel_rfl) (by kernel_rfl) (by kernel_rfl) ((E_tumbrelref13_Large s_p0 w R) ▸ h)


-- 8 tumbrel.tumbrellaw13.own
def M_tumbrellaw13_own (s_p0 : Value) (w : World) (R : Value → World → Prop) : Prop :=
  NEW (newv 29 w s_p0) fun s_1 w1 =>
  NEW (newv 39 w1 (Value.agg #[(Value.int .u64 0), (Value.int .u64 0), (Value.int .u64 0), (Value.int .u64 0), (Value.int .u64 0), (Value.slice none 0 0), (Value.slice none 0 0), (Value.slice none 0 0), (Value.int .u64 0), (Value.int .u64 0)])) fun t2_2 w2 =>
  BND (faddr 0 s_1) fun t9_3 =>
  BND (loadn 8 w2 t9_3) fun t10_4 =>
  NEW (newv 27 w2 (Value.agg #[(Value.int .u64 0), (Value.int .u64 0), (Value.int .u64 0), (Value.int .u64 0), (Value.int .u64 0), (Value.slice none 0 0), (Value.slice none 0 0), (Value.slice none 0 0)])) fun x_5 w3 =>
  BND (storev 8 w3 x_5 t10_4) fun w4 =>
  ∃ S_6 : Nat → World → Prop,
  S_6 1 w4.drew ∧
  S_6 3 w4.drew ∧
  S_6 5 w4.drew ∧
  S_6 7 w4.drew ∧
  S_6 9 w4.drew ∧
  S_6 11 w4.drew ∧
  S_6 15 w4.drew ∧
  S_6 17 w4.drew ∧
  BND (faddr 0 x_5) fun t11_7 =>
  FLT (S_6 1) (fun w_ => load1 w_ t11_7) fun t12_8 =>
  BND (faddr 1 x_5) fun t13_9 =>
  FLT (S_6 3) (fun w_ => load1 w_ t13_9) fun t14_10 =>
  BND (faddr 2 x_5) fun t15_11 =>
  FLT (S_6 5) (fun w_ => load1 w_ t15_11) fun t16_12 =>
  BND (faddr 3 x_5) fun t17_13 =>
  FLT (S_6 7) (fun w_ => load1 w_ t17_13) fun t18_14 =>
  BND (faddr 4 x_5) fun t19_15 =>
  FLT (S_6 9) (fun w_ => load1 w_ t19_15) fun t20_16 =>
  BND (faddr 5 x_5) fun t21_17 =>
  FLT (S_6 11) (fun w_ => load1 w_ t21_17) fun t22_18 =>
  BND (faddr 8 s_1) fun t25_19 =>
  FLT (S_6 15) (fun w_ => load1 w_ t25_19) fun t26_20 =>
  BND (faddr 9 s_1) fun t27_21 =>
  FLT (S_6 17) (fun w_ => load1 w_ t27_21) fun t28_22 =>
  JOIN (α := Value → World → Prop) (fun k_91 => (CALL PR F_tumbrellaw13_items [t22_18] w4.drew fun t23_92 w19 =>
  S_6 1 w19 ∧
  S_6 3 w19 ∧
  S_6 5 w19 ∧
  S_6 7 w19 ∧
  S_6 9 w19 ∧
  S_6 15 w19 ∧
  S_6 17 w19 ∧
  BND (buildv #[(Value.int .u64 0), (Value.int .u64 0), (Value.int .u64 0), (Value.int .u64 0), (Value.int .u64 0), (Value.slice none 0 0), (Value.slice none 0 0), (Value.slice none 0 0)] [(0, 1, t12_8), (1, 1, t14_10), (2, 1, t16_12), (3, 1, t18_14), (4, 1, t20_16), (5, 1, t23_92)]) fun t24_93 =>
  BND (buildv #[(Value.int .u64 0), (Value.int .u64 0), (Value.int .u64 0), (Value.int .u64 0), (Value.int .u64 0), (Value.slice none 0 0), (Value.slice none 0 0), (Value.slice none 0 0), (Value.int .u64 0), (Value.int .u64 0)] [(0, 8, t24_93), (8, 1, t26_20), (9, 1, t28_22)]) fun t29_94 =>
  NEW (newv 39 w19 (Value.agg #[(Value.int .u64 0), (Value.int .u64 0), (Value.int .u64 0), (Value.int .u64 0), (Value.int .u64 0), (Value.slice none 0 0), (Value.slice none 0 0), (Value.slice none 0 0), (Value.int .u64 0), (Value.int .u64 0)])) fun out_95 w20 =>
  S_6 1 w20 ∧
  S_6 3 w20 ∧
  S_6 5 w20 ∧
  S_6 7 w20 ∧
  S_6 9 w20 ∧
  S_6 11 w20 ∧
  S_6 15 w20 ∧
  S_6 17 w20 ∧
  BND (storev 10 w20 out_95 t29_94) fun w21 =>
  k_91 out_95 w21) ∧
  (NEW (newv 39 w4.drew (Value.agg #[(Value.int .u64 0), (Value.int .u64 0), (Value.int .u64 0), (Value.int .u64 0), (Value.int .u64 0), (Value.slice none 0 0), (Value.slice none 0 0), (Value.slice none 0 0), (Value.int .u64 0), (Value.int .u64 0)])) fun out_96 w22 =>
  S_6 1 w22 ∧
  S_6 3 w22 ∧
  S_6 5 w22 ∧
  S_6 7 w22 ∧
  S_6 9 w22 ∧
  S_6 11 w22 ∧
  S_6 15 w22 ∧
  S_6 17 w22 ∧
  CALL PR F_tumbrellaw13_items [t22_18] w22 fun t23_97 w23 =>
  S_6 1 w23 ∧
  S_6 3 w23 ∧
  S_6 5 w23 ∧
  S_6 7 w23 ∧
  S_6 9 w23 ∧
  S_6 15 w23 ∧
  S_6 17 w23 ∧
  BND (buildv #[(Value.int .u64 0), (Value.int .u64 0), (Value.int .u64 0), (Value.int .u64 0), (Value.int .u64 0), (Value.slice none 0 0), (Value.slice none 0 0), (Value.slice none 0 0)] [(0, 1, t12_8), (1, 1, t14_10), (2, 1, t16_12), (3, 1, t18_14), (4, 1, t20_16), (5, 1, t23_97)]) fun t24_98 =>
  BND (buildv #[(Value.int .u64 0), (Value.int .u64 0), (Value.int .u64 0), (Value.int .u64 0), (Value.int .u64 0), (Value.slice none 0 0), (Value.slice none 0 0), (Value.slice none 0 0), (Value.int .u64 0), (Value.int .u64 0)] [(0, 8, t24_98), (8, 1, t26_20), (9, 1, t28_22)]) fun t29_99 =>
  BND (storev 10 w23 out_96 t29_99) fun w24 =>
  k_91 out_96 w24))
  (fun out_23 w5 => BND (faddr 6 x_5) fun t30_27 =>
  BND (load1 w5 t30_27) fun t31_28 =>
  BND (lenl t31_28) fun t32_29 =>
  ∃ (J_30 : Value → World → Prop) (m_30 : Value → World → Nat), J_30 (Value.int .i64 0) w5 ∧ ∀ (_d_30 : Env) (t33_32 : Value) (w6 : World), J_30 t33_32 w6 →
  (BND (binv .int .lss t33_32 t32_29) fun t34_45 =>
  COND t34_45
  (BND (iaddr 2 t31_28 t33_32) fun t35_46 =>
  BND (loadn 2 w6 t35_46) fun t36_47 =>
  NEW (newv 75 w6 (Value.agg #[(Value.int .u64 0), (Value.int .u64 0)])) fun r_48 w7 =>
  BND (storev 2 w7 r_48 t36_47) fun w8 =>
  BND (faddr 0 out_23) fun t37_49 =>
  BND (faddr 6 t37_49) fun t38_50 =>
  BND (load1 w8 t38_50) fun t39_51 =>
  BND (loadn 2 w8 r_48) fun t40_52 =>
  BND (newslice 76 #[(Value.int .u64 0), (Value.int .u64 0)] 2 1 [(0, 2, t40_52)] w8) fun p_ => NEW p_ fun t41_53 w9 =>
  APPEND 76 2 16 (Value.agg #[(Value.int .u64 0), (Value.int .u64 0)]) t39_51 t41_53 w9 fun t42_54 w10 =>
  BND (faddr 0 out_23) fun t43_55 =>
  BND (faddr 6 t43_55) fun t44_56 =>
  BND (storev 1 w10 t44_56 t42_54) fun w11 =>
  BND (binv .int .add t33_32 (Value.int .i64 1)) fun t45_57 =>
  (J_30 t45_57 w11 ∧ m_30 t45_57 w11 < m_30 t33_32 w6))
  (BND (faddr 7 x_5) fun t46_58 =>
  BND (load1 w6 t46_58) fun t47_59 =>
  BND (lenl t47_59) fun t48_60 =>
  ∃ (J_61 : Value → World → Prop) (m_61 : Value → World → Nat), J_61 (Value.int .i64 0) w6 ∧ ∀ (_d_61 : Env) (t49_63 : Value) (w12 : World), J_61 t49_63 w12 →
  (BND (binv .int .lss t49_63 t48_60) fun t50_76 =>
  COND t50_76
  (BND (iaddr 2 t47_59 t49_63) fun t51_77 =>
  BND (loadn 2 w12 t51_77) fun t52_78 =>
  NEW (newv 77 w12 (Value.agg #[(Value.string ByteArray.empty), (Value.int .u64 0)])) fun c_79 w13 =>
  BND (storev 2 w13 c_79 t52_78) fun w14 =>
  BND (faddr 0 out_23) fun t53_80 =>
  BND (faddr 7 t53_80) fun t54_81 =>
  BND (load1 w14 t54_81) fun t55_82 =>
  BND (loadn 2 w14 c_79) fun t56_83 =>
  BND (newslice 73 #[(Value.string ByteArray.empty), (Value.int .u64 0)] 2 1 [(0, 2, t56_83)] w14) fun p_ => NEW p_ fun t57_84 w15 =>
  APPEND 73 2 24 (Value.agg #[(Value.string ByteArray.empty), (Value.int .u64 0)]) t55_82 t57_84 w15 fun t58_85 w16 =>
  BND (faddr 0 out_23) fun t59_86 =>
  BND (faddr 7 t59_86) fun t60_87 =>
  BND (storev 1 w16 t60_87 t58_85) fun w17 =>
  BND (binv .int .add t49_63 (Value.int .i64 1)) fun t61_88 =>
  (J_61 t61_88 w17 ∧ m_61 t61_88 w17 < m_61 t49_63 w12))
  (BND (loadn 10 w12 out_23) fun t62_89 =>
  BND (storev 10 w12 t2_2 t62_89) fun w18 =>
  BND (loadn 10 w18 t2_2) fun r_90 =>
  R r_90 w18)))))
def ann_tumbrellaw13_own : List (Nat × List Nat) := [(2, [0, 1, 2, 3, 4, 5, 6, 7, 8, 9, 10, 11, 14, 15, 16, 17]), (1000004, [33]), (1000009, [49]), (2000002, [1, 3, 5, 7, 9, 11, 15, 17]), (3002012, [1, 3, 5, 7, 9, 15, 17]), (3002019, [1, 3, 5, 7, 9, 11, 15, 17]), (4000002, [12, 13, 18, 19]), (5000002, [12, 13, 18, 19, 20, 9999, 19, 12, 13, 18, 20])]
theorem E_tumbrellaw13_own (s_p0 : Value) (w : World) (R : Value → World → Prop) : M_tumbrellaw13_own s_p0 w R = den PR ann_tumbrellaw13_own (bodyOf Try.f8) (retQ PR Try.f8.results.toList R) (env0 [s_p0]) w := by kernel_rfl
theorem C_tumbrellaw13_own {s_p0 : Value} {w : World} {R : Value → World → Prop} (h : M_tumbrellaw13_own s_p0 w R) : CALL PR F_tumbrellaw13_own [s_p0] w R :=
  call_of_den2 ann_tumbrellaw13_own Try.func8 (by kernel_rfl) (by kernel_rfl) (by kernel_rfl) ((E_tumbrellaw13_own s_p0 w R) ▸ h)


-- 9 tumbrel.tumbrellaw13.large
def M_tumbrellaw13_large (l_p0 : Value) (w : World) (R : Value → World → Prop) : Prop :=
  BND (lenl l_p0) fun t6_1 =>
  BND (binv .int .gtr t6_1 (Value.int .i64 300)) fun t7_2 =>
  COND t7_2
  (R (Value.bool true) w)
  (BND (lenl l_p0) fun t9_3 =>
  ∃ (J_4 : Value → World → Prop) (m_4 : Value → World → Nat), J_4 (Value.int .i64 0) w ∧ ∀ (_d_4 : Env) (t10_7 : Value) (w1 : World), J_4 t10_7 w1 →
  (BND (binv .int .lss t10_7 t9_3) fun t11_14 =>
  COND t11_14
  (BND (iaddr 3 l_p0 t10_7) fun t12_15 =>
  BND (loadn 3 w1 t12_15) fun t13_16 =>
  NEW (newv 62 w1 (Value.agg #[(Value.int .i64 0), (Value.slice none 0 0), (Value.string ByteArray.empty)])) fun r_17 w2 =>
  BND (storev 3 w2 r_17 t13_16) fun w3 =>
  BND (loadn 3 w3 r_17) fun t14_18 =>
  CALL PR F_tumbrelref05_Large [t14_18] w3 fun t15_19 w4 =>
  COND t15_19
  (R (Value.bool true) w4)
  (BND (binv .int .add t10_7 (Value.int .i64 1)) fun t16_20 =>
  (J_4 t16_20 w4 ∧ m_4 t16_20 w4 < m_4 t10_7 w1)))
  (R (Value.bool false) w1)))
def ann_tumbrellaw13_large : List (Nat × List Nat) := [(1000004, [10])]
theorem E_tumbrellaw13_large (l_p0 : Value) (w : World) (R : Value → World → Prop) : M_tumbrellaw13_large l_p0 w R = den PR ann_tumbrellaw13_large (bodyOf Try.f9) (retQ PR Try.f9.results.toList R) (env0 [l_p0]) w := by kernel_rfl
theorem C_tumbrellaw13_large {l_p0 : Value} {w : World} {R : Value → World → Prop} (h : M_tumbrellaw13_large l_p0 w R) : CALL PR F_tumbrellaw13_large [l_p0] w R :=
  call_of_den2 ann_tumbrellaw13_large Try.func9 (by kernel_rfl) (by kernel_rfl) (by kernel_rfl) ((E_tumbrellaw13_large l_p0 w R) ▸ h)


-- 10 tumbrel.snap.Save
def M_snap_Save (L_p0 : Value) (w : World) (R : Value → World → Prop) : Prop :=
  NEW (newv 29 w L_p0) fun i_1 w1 =>
  BND (buildv #[(Value.slice none 0 0), (Value.bool false)] []) fun t15_2 =>
  NEW (newv 81 w1 t15_2) fun t16_3 w2 =>
  BND (faddr 0 i_1) fun t21_4 =>
  BND (loadn 8 w2 t21_4) fun t22_5 =>
  NEW (newv 27 w2 (Value.agg #[(Value.int .u64 0), (Value.int .u64 0), (Value.int .u64 0), (Value.int .u64 0), (Value.int .u64 0), (Value.slice none 0 0), (Value.slice none 0 0), (Value.slice none 0 0)])) fun A_6 w3 =>
  BND (storev 8 w3 A_6 t22_5) fun w4 =>
  BND (faddr 0 A_6) fun t24_7 =>
  BND (load1 w4 t24_7) fun t25_8 =>
  BND (faddr 1 A_6) fun t26_9 =>
  BND (load1 w4 t26_9) fun t27_10 =>
  BND (faddr 2 A_6) fun t28_11 =>
  BND (load1 w4 t28_11) fun t29_12 =>
  BND (faddr 3 A_6) fun t30_13 =>
  BND (load1 w4 t30_13) fun t31_14 =>
  BND (faddr 4 A_6) fun t32_15 =>
  BND (load1 w4 t32_15) fun t33_16 =>
  BND (faddr 8 i_1) fun t34_17 =>
  BND (load1 w4 t34_17) fun t35_18 =>
  BND (faddr 9 i_1) fun t36_19 =>
  BND (load1 w4 t36_19) fun t37_20 =>
  BND (newslice 22 #[(Value.int .u64 0)] 1 7 [(0, 1, t25_8), (1, 1, t27_10), (2, 1, t29_12), (3, 1, t31_14), (4, 1, t33_16), (5, 1, t35_18), (6, 1, t37_20)] w4) fun p_ => NEW p_ fun t38_21 w5 =>
  CALLV PR (Value.func (.func F_snap_writer_put) #[t16_3] #[]) [(Value.int .i64 13), (Value.string { data := #[] }), t38_21] w5 fun t39_22 w6 =>
  BND (faddr 5 A_6) fun t40_23 =>
  BND (load1 w6 t40_23) fun t41_24 =>
  BND (lenl t41_24) fun t42_25 =>
  ∃ (J_26 : Value → World → Prop) (m_26 : Value → World → Nat), J_26 (Value.int .i64 0) w6 ∧ ∀ (_d_26 : Env) (t43_29 : Value) (w7 : World), J_26 t43_29 w7 →
  (BND (binv .int .lss t43_29 t42_25) fun t44_70 =>
  COND t44_70
  (BND (iaddr 10 t41_24 t43_29) fun t45_71 =>
  BND (loadn 10 w7 t45_71) fun t46_72 =>
  NEW (newv 69 w7 (Value.agg #[(Value.int .u64 0), (Value.int .i64 0), (Value.int .i64 0), (Value.int .i64 0), (Value.int .u64 0), (Value.int .u64 0), (Value.int .u64 0), (Value.int .u64 0), (Value.int .u64 0), (Value.int .i64 0)])) fun r_73 w8 =>
  BND (storev 10 w8 r_73 t46_72) fun w9 =>
  BND (faddr 2 r_73) fun t47_74 =>
  BND (loadn 4 w9 t47_74) fun t48_75 =>
  NEW (newv 65 w9 (Value.agg #[(Value.int .i64 0), (Value.int .i64 0), (Value.int .u64 0), (Value.int .u64 0)])) fun a_76 w10 =>
  BND (storev 4 w10 a_76 t48_75) fun w11 =>
  ∃ S_77 : Nat → World → Prop,
  S_77 2 w11.drew ∧
  S_77 9 w11.drew ∧
  S_77 13 w11.drew ∧
  S_77 16 w11.drew ∧
  S_77 18 w11.drew ∧
  S_77 20 w11.drew ∧
  S_77 23 w11.drew ∧
  S_77 26 w11.drew ∧
  S_77 30 w11.drew ∧
  BND (faddr 0 r_73) fun t50_78 =>
  FLT (S_77 2) (fun w_ => load1 w_ t50_78) fun t51_79 =>
  BND (faddr 1 r_73) fun t53_80 =>
  BND (faddr 0 a_76) fun t57_81 =>
  FLT (S_77 9) (fun w_ => load1 w_ t57_81) fun t58_82 =>
  BND (faddr 1 a_76) fun t61_83 =>
  FLT (S_77 13) (fun w_ => load1 w_ t61_83) fun t62_84 =>
  BND (faddr 2 a_76) fun t64_85 =>
  FLT (S_77 16) (fun w_ => load1 w_ t64_85) fun t65_86 =>
  BND (faddr 3 a_76) fun t66_87 =>
  FLT (S_77 18) (fun w_ => load1 w_ t66_87) fun t67_88 =>
  BND (faddr 6 r_73) fun t68_89 =>
  FLT (S_77 20) (fun w_ => load1 w_ t68_89) fun t69_90 =>
  BND (faddr 7 r_73) fun t70_91 =>
  BND (faddr 0 t70_91) fun t71_92 =>
  FLT (S_77 23) (fun w_ => load1 w_ t71_92) fun t72_93 =>
  BND (faddr 7 r_73) fun t73_94 =>
  BND (faddr 1 t73_94) fun t74_95 =>
  FLT (S_77 26) (fun w_ => load1 w_ t74_95) fun t75_96 =>
  BND (faddr 7 r_73) fun t77_97 =>
  BND (faddr 2 t77_97) fun t78_98 =>
  FLT (S_77 30) (fun w_ => load1 w_ t78_98) fun t79_99 =>
  BND (load1 w11.drew t53_80) fun t54_100 =>
  CALLV PR (Value.func (.func F_snap_writer_small) #[t16_3] #[]) [t54_100] w11.drew fun t55_101 w12 =>
  S_77 2 w12 ∧
  S_77 9 w12 ∧
  S_77 13 w12 ∧
  S_77 16 w12 ∧
  S_77 18 w12 ∧
  S_77 20 w12 ∧
  S_77 23 w12 ∧
  S_77 26 w12 ∧
  S_77 30 w12 ∧
  CALLV PR (Value.func (.func F_snap_writer_small) #[t16_3] #[]) [t58_82] w12 fun t59_102 w13 =>
  S_77 2 w13 ∧
  S_77 13 w13 ∧
  S_77 16 w13 ∧
  S_77 18 w13 ∧
  S_77 20 w13 ∧
  S_77 23 w13 ∧
  S_77 26 w13 ∧
  S_77 30 w13 ∧
  CALLV PR (Value.func (.func F_snap_writer_small) #[t16_3] #[]) [t62_84] w13 fun t63_103 w14 =>
  S_77 2 w14 ∧
  S_77 16 w14 ∧
  S_77 18 w14 ∧
  S_77 20 w14 ∧
  S_77 23 w14 ∧
  S_77 26 w14 ∧
  S_77 30 w14 ∧
  CALLV PR (Value.func (.func F_snap_writer_small) #[t16_3] #[]) [t79_99] w14 fun t80_104 w15 =>
  S_77 2 w15 ∧
  S_77 16 w15 ∧
  S_77 18 w15 ∧
  S_77 20 w15 ∧
  S_77 23 w15 ∧
  S_77 26 w15 ∧
  BND (newslice 22 #[(Value.int .u64 0)] 1 10 [(0, 1, t51_79), (1, 1, t55_101), (2, 1, t59_102), (3, 1, t63_103), (4, 1, t65_86), (5, 1, t67_88), (6, 1, t69_90), (7, 1, t72_93), (8, 1, t75_96), (9, 1, t80_104)] w15) fun p_ => NEW p_ fun t81_105 w16 =>
  CALLV PR (Value.func (.func F_snap_writer_put) #[t16_3] #[]) [(Value.int .i64 14), (Value.string { data := #[] }), t81_105] w16 fun t82_106 w17 =>
  BND (binv .int .add t43_29 (Value.int .i64 1)) fun t83_107 =>
  (J_26 t83_107 w17 ∧ m_26 t83_107 w17 < m_26 t43_29 w7))
  (BND (faddr 6 A_6) fun t84_108 =>
  BND (load1 w7 t84_108) fun t85_109 =>
  BND (lenl t85_109) fun t86_110 =>
  ∃ (J_111 : Value → World → Prop) (m_111 : Value → World → Nat), J_111 (Value.int .i64 0) w7 ∧ ∀ (_d_111 : Env) (t87_113 : Value) (w18 : World), J_111 t87_113 w18 →
  (BND (binv .int .lss t87_113 t86_110) fun t88_125 =>
  COND t88_125
  (BND (iaddr 2 t85_109 t87_113) fun t89_126 =>
  BND (loadn 2 w18 t89_126) fun t90_127 =>
  NEW (newv 75 w18 (Value.agg #[(Value.int .u64 0), (Value.int .u64 0)])) fun t12_128 w19 =>
  BND (storev 2 w19 t12_128 t90_127) fun w20 =>
  BND (faddr 0 t12_128) fun t92_129 =>
  BND (load1 w20 t92_129) fun t93_130 =>
  BND (faddr 1 t12_128) fun t94_131 =>
  BND (load1 w20 t94_131) fun t95_132 =>
  BND (newslice 22 #[(Value.int .u64 0)] 1 2 [(0, 1, t93_130), (1, 1, t95_132)] w20) fun p_ => NEW p_ fun t96_133 w21 =>
  CALLV PR (Value.func (.func F_snap_writer_put) #[t16_3] #[]) [(Value.int .i64 15), (Value.string { data := #[] }), t96_133] w21 fun t97_134 w22 =>
  BND (binv .int .add t87_113 (Value.int .i64 1)) fun t98_135 =>
  (J_111 t98_135 w22 ∧ m_111 t98_135 w22 < m_111 t87_113 w18))
  (BND (faddr 7 A_6) fun t99_136 =>
  BND (load1 w18 t99_136) fun t100_137 =>
  BND (lenl t100_137) fun t101_138 =>
  ∃ (J_139 : Value → World → Prop) (m_139 : Value → World → Nat), J_139 (Value.int .i64 0) w18 ∧ ∀ (_d_139 : Env) (t102_141 : Value) (w23 : World), J_139 t102_141 w23 →
  (BND (binv .int .lss t102_141 t101_138) fun t103_153 =>
  COND t103_153
  (BND (iaddr 2 t100_137 t102_141) fun t104_154 =>
  BND (loadn 2 w23 t104_154) fun t105_155 =>
  NEW (newv 77 w23 (Value.agg #[(Value.string ByteArray.empty), (Value.int .u64 0)])) fun t14_156 w24 =>
  BND (storev 2 w24 t14_156 t105_155) fun w25 =>
  BND (faddr 0 t14_156) fun t107_157 =>
  BND (load1 w25 t107_157) fun t108_158 =>
  BND (faddr 1 t14_156) fun t109_159 =>
  BND (load1 w25 t109_159) fun t110_160 =>
  BND (newslice 22 #[(Value.int .u64 0)] 1 1 [(0, 1, t110_160)] w25) fun p_ => NEW p_ fun t111_161 w26 =>
  CALLV PR (Value.func (.func F_snap_writer_put) #[t16_3] #[]) [(Value.int .i64 16), t108_158, t111_161] w26 fun t112_162 w27 =>
  BND (binv .int .add t102_141 (Value.int .i64 1)) fun t113_163 =>
  (J_139 t113_163 w27 ∧ m_139 t113_163 w27 < m_139 t102_141 w23))
  (BND (nilchk t16_3) fun t116_164 =>
  BND (faddr 0 t116_164) fun t117_165 =>
  BND (load1 w23 t117_165) fun t118_166 =>
  BND (lenl t118_166) fun t119_167 =>
  BND (convi .u64 t119_167) fun t120_168 =>
  BND (newslice 22 #[(Value.int .u64 0)] 1 1 [(0, 1, t120_168)] w23) fun p_ => NEW p_ fun t121_169 w28 =>
  CALLV PR (Value.func (.func F_snap_writer_put) #[t16_3] #[]) [(Value.int .i64 17), (Value.string { data := #[] }), t121_169] w28 fun t122_170 w29 =>
  BND (nilchk t16_3) fun t124_171 =>
  BND (faddr 1 t124_171) fun t125_172 =>
  BND (load1 w29 t125_172) fun t126_173 =>
  COND t126_173
  (R (.tuple #[(Value.slice none 0 0), (Value.int .i64 1)]) w29)
  (BND (nilchk t16_3) fun t128_174 =>
  BND (faddr 0 t128_174) fun t129_175 =>
  BND (load1 w29 t129_175) fun t130_176 =>
  R (.tuple #[t130_176, (Value.int .i64 0)]) w29)))))))
def ann_snap_Save : List (Nat × List Nat) := [(9, [0, 1, 2, 3, 4, 7, 8, 9, 11, 12, 13, 15, 16, 17, 18, 19, 20, 21, 22, 23, 24, 25, 26, 27, 28, 29, 30, 5, 6, 10, 14, 31, 32, 33]), (1000006, [43]), (1000012, [87]), (1000017, [102]), (2000009, [2, 9, 13, 16, 18, 20, 23, 26, 30]), (3009006, [2, 9, 13, 16, 18, 20, 23, 26, 30]), (3009010, [2, 13, 16, 18, 20, 23, 26, 30]), (3009014, [2, 16, 18, 20, 23, 26, 30]), (3009031, [2, 16, 18, 20, 23, 26])]
theorem E_snap_Save (L_p0 : Value) (w : World) (R : Value → World → Prop) : M_snap_Save L_p0 w R = den PR ann_snap_Save (bodyOf Try.f10) (retQ PR Try.f10.results.toList R) (env0 [L_p0]) w := by kernel_rfl
theorem C_snap_Save {L_p0 : Value} {w : World} {R : Value → World → Prop} (h : M_snap_Save L_p0 w R) : CALL PR F_snap_Save [L_p0] w R :=
  call_of_den2 ann_snap_Save Try.func10 (by kernel_rfl) (by kernel_rfl) (by kernel_rfl) ((E_snap_Save L_p0 w R) ▸ h)


-- 11 tumbrel.tumbrelref13.Save
def M_tumbrelref13_Save (L_p0 : Value) (w : World) (R : Value → World → Prop) : Prop :=
  NEW (newv 39 w L_p0) fun i_1 w1 =>
  BND (faddr 0 i_1) fun a_2 =>
  BND (loadn 8 w1 a_2) fun y_3 =>
  NEW (newv 37 w1 (Value.agg #[(Value.int .u64 0), (Value.int .u64 0), (Value.int .u64 0), (Value.int .u64 0), (Value.int .u64 0), (Value.slice none 0 0), (Value.slice none 0 0), (Value.slice none 0 0)])) fun t4_4 w2 =>
  BND (storev 8 w2 t4_4 y_3) fun w3 =>
  BND (faddr 0 t4_4) fun t12_5 =>
  BND (load1 w3 t12_5) fun t13_6 =>
  BND (faddr 1 t4_4) fun t14_7 =>
  BND (load1 w3 t14_7) fun t15_8 =>
  BND (faddr 2 t4_4) fun t16_9 =>
  BND (load1 w3 t16_9) fun t17_10 =>
  BND (faddr 3 t4_4) fun t18_11 =>
  BND (load1 w3 t18_11) fun t19_12 =>
  BND (faddr 4 t4_4) fun t20_13 =>
  BND (load1 w3 t20_13) fun t21_14 =>
  BND (faddr 8 i_1) fun t22_15 =>
  BND (load1 w3 t22_15) fun t23_16 =>
  BND (faddr 9 i_1) fun t24_17 =>
  BND (load1 w3 t24_17) fun t25_18 =>
  BND (newslice 22 #[(Value.int .u64 0)] 1 7 [(0, 1, t13_6), (1, 1, t15_8), (2, 1, t17_10), (3, 1, t19_12), (4, 1, t21_14), (5, 1, t23_16), (6, 1, t25_18)] w3) fun p_ => NEW p_ fun t26_19 w4 =>
  BND (buildv #[(Value.int .i64 0), (Value.slice none 0 0), (Value.string ByteArray.empty)] [(0, 1, (Value.int .i64 13)), (1, 1, t26_19)]) fun t27_20 =>
  BND (newslice 71 #[(Value.int .i64 0), (Value.slice none 0 0), (Value.string ByteArray.empty)] 3 1 [(0, 3, t27_20)] w4) fun p_ => NEW p_ fun t28_21 w5 =>
  ∃ (J_22 : Value → Value → World → Prop) (m_22 : Value → Value → World → Nat), J_22 t28_21 (Value.int .i64 0) w5 ∧ ∀ (_d_22 : Env) (t_25 o_26 : Value) (w6 : World), J_22 t_25 o_26 w6 →
  (BND (faddr 5 t4_4) fun t30_101 =>
  BND (load1 w6 t30_101) fun t31_102 =>
  BND (lenl t31_102) fun t32_103 =>
  BND (binv .int .lss o_26 t32_103) fun t33_104 =>
  COND t33_104
  (BND (faddr 5 t4_4) fun t36_105 =>
  BND (load1 w6 t36_105) fun t37_106 =>
  BND (iaddr 10 t37_106 o_26) fun t39_107 =>
  BND (loadn 10 w6 t39_107) fun t40_108 =>
  NEW (newv 87 w6 (Value.agg #[(Value.int .u64 0), (Value.int .i64 0), (Value.int .i64 0), (Value.int .i64 0), (Value.int .u64 0), (Value.int .u64 0), (Value.int .u64 0), (Value.int .u64 0), (Value.int .u64 0), (Value.int .i64 0)])) fun A_109 w7 =>
  BND (storev 10 w7 A_109 t40_108) fun w8 =>
  BND (faddr 1 A_109) fun t41_110 =>
  BND (load1 w8 t41_110) fun t42_111 =>
  CALL PR F_tumbrelref13_small [t42_111] w8 fun t43_112 w9 =>
  BND (unv .not t43_112) fun t44_113 =>
  BND (grd (isB t44_113 false) (faddr 2 A_109)) fun t46_114 =>
  BND (grd (isB t44_113 false) (faddr 0 t46_114)) fun t47_115 =>
  BND (grd (isB t44_113 false) (load1 w9 t47_115)) fun t48_116 =>
  GEF (isB t44_113 false) (fun k_ => CALL PR F_tumbrelref13_small [t48_116] w9 k_) w9 fun t49_117 w10 =>
  BND (grd (isB t44_113 false) (unv .not t49_117)) fun t50_118 =>
  BND (pickv t44_113 (Value.bool true) t50_118) fun t51_119 =>
  BND (grd (isB t51_119 false) (faddr 2 A_109)) fun t53_120 =>
  BND (grd (isB t51_119 false) (faddr 1 t53_120)) fun t54_121 =>
  BND (grd (isB t51_119 false) (load1 w10 t54_121)) fun t55_122 =>
  GEF (isB t51_119 false) (fun k_ => CALL PR F_tumbrelref13_small [t55_122] w10 k_) w10 fun t56_123 w11 =>
  BND (grd (isB t51_119 false) (unv .not t56_123)) fun t57_124 =>
  BND (pickv t51_119 (Value.bool true) t57_124) fun t58_125 =>
  BND (grd (isB t58_125 false) (faddr 7 A_109)) fun t60_126 =>
  BND (grd (isB t58_125 false) (faddr 2 t60_126)) fun t61_127 =>
  BND (grd (isB t58_125 false) (load1 w11 t61_127)) fun t62_128 =>
  GEF (isB t58_125 false) (fun k_ => CALL PR F_tumbrelref13_small [t62_128] w11 k_) w11 fun t63_129 w12 =>
  BND (grd (isB t58_125 false) (unv .not t63_129)) fun t64_130 =>
  BND (pickv t58_125 (Value.bool true) t64_130) fun t65_131 =>
  COND t65_131
  (R (.tuple #[(Value.slice none 0 0), (Value.int .i64 1)]) w12)
  (BND (faddr 0 A_109) fun t67_132 =>
  BND (load1 w12 t67_132) fun t68_133 =>
  BND (faddr 1 A_109) fun t69_134 =>
  BND (load1 w12 t69_134) fun t70_135 =>
  BND (convi .u64 t70_135) fun t71_136 =>
  BND (faddr 2 A_109) fun t72_137 =>
  BND (faddr 0 t72_137) fun t73_138 =>
  BND (load1 w12 t73_138) fun t74_139 =>
  BND (convi .u64 t74_139) fun t75_140 =>
  BND (faddr 2 A_109) fun t76_141 =>
  BND (faddr 1 t76_141) fun t77_142 =>
  BND (load1 w12 t77_142) fun t78_143 =>
  BND (convi .u64 t78_143) fun t79_144 =>
  BND (faddr 2 A_109) fun t80_145 =>
  BND (faddr 2 t80_145) fun t81_146 =>
  BND (load1 w12 t81_146) fun t82_147 =>
  BND (faddr 2 A_109) fun t83_148 =>
  BND (faddr 3 t83_148) fun t84_149 =>
  BND (load1 w12 t84_149) fun t85_150 =>
  BND (faddr 6 A_109) fun t86_151 =>
  BND (load1 w12 t86_151) fun t87_152 =>
  BND (faddr 7 A_109) fun t88_153 =>
  BND (faddr 0 t88_153) fun t89_154 =>
  BND (load1 w12 t89_154) fun t90_155 =>
  BND (faddr 7 A_109) fun t91_156 =>
  BND (faddr 1 t91_156) fun t92_157 =>
  BND (load1 w12 t92_157) fun t93_158 =>
  BND (faddr 7 A_109) fun t94_159 =>
  BND (faddr 2 t94_159) fun t95_160 =>
  BND (load1 w12 t95_160) fun t96_161 =>
  BND (convi .u64 t96_161) fun t97_162 =>
  BND (newslice 22 #[(Value.int .u64 0)] 1 10 [(0, 1, t68_133), (1, 1, t71_136), (2, 1, t75_140), (3, 1, t79_144), (4, 1, t82_147), (5, 1, t85_150), (6, 1, t87_152), (7, 1, t90_155), (8, 1, t93_158), (9, 1, t97_162)] w12) fun p_ => NEW p_ fun t98_163 w13 =>
  BND (buildv #[(Value.int .i64 0), (Value.slice none 0 0), (Value.string ByteArray.empty)] [(0, 1, (Value.int .i64 14)), (1, 1, t98_163)]) fun t99_164 =>
  BND (newslice 71 #[(Value.int .i64 0), (Value.slice none 0 0), (Value.string ByteArray.empty)] 3 1 [(0, 3, t99_164)] w13) fun p_ => NEW p_ fun t100_165 w14 =>
  APPEND 71 3 48 (Value.agg #[(Value.int .i64 0), (Value.slice none 0 0), (Value.string ByteArray.empty)]) t_25 t100_165 w14 fun t101_166 w15 =>
  BND (binv .int .add o_26 (Value.int .i64 1)) fun t35_167 =>
  (J_22 t101_166 t35_167 w15 ∧ m_22 t101_166 t35_167 w15 < m_22 t_25 o_26 w6)))
  (∃ (J_168 : Value → Value → World → Prop) (m_168 : Value → Value → World → Nat), J_168 t_25 (Value.int .i64 0) w6 ∧ ∀ (_d_168 : Env) (t_169 r_170 : Value) (w16 : World), J_168 t_169 r_170 w16 →
  (BND (faddr 6 t4_4) fun t103_195 =>
  BND (load1 w16 t103_195) fun t104_196 =>
  BND (lenl t104_196) fun t105_197 =>
  BND (binv .int .lss r_170 t105_197) fun t106_198 =>
  COND t106_198
  (BND (faddr 6 t4_4) fun t110_199 =>
  BND (faddr 6 t4_4) fun t116_200 =>
  BND (load1 w16.drew t110_199) fun t111_201 =>
  BND (iaddr 2 t111_201 r_170) fun t113_202 =>
  BND (faddr 0 t113_202) fun t114_203 =>
  BND (load1 w16.drew t114_203) fun t115_204 =>
  BND (load1 w16.drew t116_200) fun t117_205 =>
  BND (iaddr 2 t117_205 r_170) fun t119_206 =>
  BND (faddr 1 t119_206) fun t120_207 =>
  BND (load1 w16.drew t120_207) fun t121_208 =>
  BND (newslice 22 #[(Value.int .u64 0)] 1 2 [(0, 1, t115_204), (1, 1, t121_208)] w16.drew) fun p_ => NEW p_ fun t122_209 w17 =>
  BND (buildv #[(Value.int .i64 0), (Value.slice none 0 0), (Value.string ByteArray.empty)] [(0, 1, (Value.int .i64 15)), (1, 1, t122_209)]) fun t123_210 =>
  BND (newslice 71 #[(Value.int .i64 0), (Value.slice none 0 0), (Value.string ByteArray.empty)] 3 1 [(0, 3, t123_210)] w17) fun p_ => NEW p_ fun t124_211 w18 =>
  APPEND 71 3 48 (Value.agg #[(Value.int .i64 0), (Value.slice none 0 0), (Value.string ByteArray.empty)]) t_169 t124_211 w18 fun t125_212 w19 =>
  BND (binv .int .add r_170 (Value.int .i64 1)) fun t108_213 =>
  (J_168 t125_212 t108_213 w19 ∧ m_168 t125_212 t108_213 w19 < m_168 t_169 r_170 w16))
  (∃ (J_214 : Value → Value → World → Prop) (m_214 : Value → Value → World → Nat), J_214 t_169 (Value.int .i64 0) w16 ∧ ∀ (_d_214 : Env) (t_217 r_218 : Value) (w20 : World), J_214 t_217 r_218 w20 →
  (BND (faddr 7 t4_4) fun t127_251 =>
  BND (load1 w20 t127_251) fun t128_252 =>
  BND (lenl t128_252) fun t129_253 =>
  BND (binv .int .lss r_218 t129_253) fun t130_254 =>
  COND t130_254
  (BND (faddr 7 t4_4) fun t133_255 =>
  BND (load1 w20 t133_255) fun t134_256 =>
  BND (iaddr 2 t134_256 r_218) fun t136_257 =>
  BND (faddr 0 t136_257) fun t137_258 =>
  BND (load1 w20 t137_258) fun t138_259 =>
  BND (lens t138_259) fun t139_260 =>
  BND (binv .int .gtr t139_260 (Value.int .i64 64)) fun t140_261 =>
  COND t140_261
  (R (.tuple #[(Value.slice none 0 0), (Value.int .i64 1)]) w20)
  (∃ S_262 : Nat → World → Prop,
  S_262 9 w20.drew ∧
  S_262 13 w20.drew ∧
  BND (faddr 7 t4_4) fun t142_263 =>
  BND (faddr 7 t4_4) fun t149_264 =>
  FLT (S_262 9) (fun w_ => load1 w_ t149_264) fun t150_265 =>
  BND (iaddr 2 t150_265 r_218) fun t152_266 =>
  BND (faddr 0 t152_266) fun t153_267 =>
  FLT (S_262 13) (fun w_ => load1 w_ t153_267) fun t154_268 =>
  BND (load1 w20.drew t142_263) fun t143_269 =>
  BND (iaddr 2 t143_269 r_218) fun t145_270 =>
  BND (faddr 1 t145_270) fun t146_271 =>
  BND (load1 w20.drew t146_271) fun t147_272 =>
  BND (newslice 22 #[(Value.int .u64 0)] 1 1 [(0, 1, t147_272)] w20.drew) fun p_ => NEW p_ fun t148_273 w21 =>
  S_262 9 w21 ∧
  S_262 13 w21 ∧
  BND (buildv #[(Value.int .i64 0), (Value.slice none 0 0), (Value.string ByteArray.empty)] [(0, 1, (Value.int .i64 16)), (1, 1, t148_273), (2, 1, t154_268)]) fun t155_274 =>
  BND (newslice 71 #[(Value.int .i64 0), (Value.slice none 0 0), (Value.string ByteArray.empty)] 3 1 [(0, 3, t155_274)] w21) fun p_ => NEW p_ fun t156_275 w22 =>
  APPEND 71 3 48 (Value.agg #[(Value.int .i64 0), (Value.slice none 0 0), (Value.string ByteArray.empty)]) t_217 t156_275 w22 fun t157_276 w23 =>
  BND (binv .int .add r_218 (Value.int .i64 1)) fun t132_277 =>
  (J_214 t157_276 t132_277 w23 ∧ m_214 t157_276 t132_277 w23 < m_214 t_217 r_218 w20)))
  (BND (lenl t_217) fun t160_278 =>
  BND (convi .u64 t160_278) fun t161_279 =>
  BND (newslice 22 #[(Value.int .u64 0)] 1 1 [(0, 1, t161_279)] w20) fun p_ => NEW p_ fun t162_280 w24 =>
  BND (buildv #[(Value.int .i64 0), (Value.slice none 0 0), (Value.string ByteArray.empty)] [(0, 1, (Value.int .i64 17)), (1, 1, t162_280)]) fun t163_281 =>
  BND (newslice 71 #[(Value.int .i64 0), (Value.slice none 0 0), (Value.string ByteArray.empty)] 3 1 [(0, 3, t163_281)] w24) fun p_ => NEW p_ fun t164_282 w25 =>
  APPEND 71 3 48 (Value.agg #[(Value.int .i64 0), (Value.slice none 0 0), (Value.string ByteArray.empty)]) t_217 t164_282 w25 fun t165_283 w26 =>
  R (.tuple #[t165_283, (Value.int .i64 0)]) w26))))))
def ann_tumbrelref13_Save : List (Nat × List Nat) := [(13, [0, 1, 3, 7, 9, 2, 4, 5, 6, 8, 10, 11, 12, 13, 14, 15, 16, 17]), (19, [0, 1, 3, 8, 9, 10, 11, 12, 13, 2, 4, 5, 6, 7, 14, 15, 16, 17]), (1000004, [5, 6]), (1000011, [5, 8]), (1000015, [5, 9]), (2000019, [9, 13]), (3019007, [9, 13])]
theorem E_tumbrelref13_Save (L_p0 : Value) (w : World) (R : Value → World → Prop) : M_tumbrelref13_Save L_p0 w R = den PR ann_tumbrelref13_Save (bodyOf Try.f11) (retQ PR Try.f11.results.toList R) (env0 [L_p0]) w := by kernel_rfl
theorem C_tumbrelref13_Save {L_p0 : Value} {w : World} {R : Value → World → Prop} (h : M_tumbrelref13_Save L_p0 w R) : CALL PR F_tumbrelref13_Save [L_p0] w R :=
  call_of_den2 ann_tumbrelref13_Save Try.func11 (by kernel_rfl) (by kernel_rfl) (by kernel_rfl) ((E_tumbrelref13_Save L_p0 w R) ▸ h)


-- 12 tumbrel.snap.Load
def M_snap_Load (L_p0 : Value) (w : World) (R : Value → World → Prop) : Prop :=
  NEW (newv 29 w (Value.agg #[(Value.int .u64 0), (Value.int .u64 0), (Value.int .u64 0), (Value.int .u64 0), (Value.int .u64 0), (Value.slice none 0 0), (Value.slice none 0 0), (Value.slice none 0 0), (Value.int .u64 0), (Value.int .u64 0)])) fun s_1 w1 =>
  BND (lenl L_p0) fun t12_2 =>
  BND (binv .int .lss t12_2 (Value.int .i64 2)) fun t13_3 =>
  BND (grd (isB t13_3 false) (some L_p0)) fun t15_4 =>
  GEF (isB t13_3 false) (fun k_ => CALL PR F_slices_ContainsFunc_record_Record_record_Record [t15_4, (Value.func (.func F_snap_Load_1) #[] #[])] w1 k_) w1 fun t16_5 w2 =>
  BND (pickv t13_3 (Value.bool true) t16_5) fun t17_6 =>
  BND (grd (isB t17_6 false) (some L_p0)) fun t19_7 =>
  BND (grd (isB t17_6 false) (iaddr 3 t19_7 (Value.int .i64 0))) fun t20_8 =>
  BND (grd (isB t17_6 false) (faddr 0 t20_8)) fun t21_9 =>
  BND (grd (isB t17_6 false) (load1 w2 t21_9)) fun t22_10 =>
  BND (grd (isB t17_6 false) (binv .int .neq t22_10 (Value.int .i64 13))) fun t23_11 =>
  BND (pickv t17_6 (Value.bool true) t23_11) fun t24_12 =>
  COND t24_12
  (BND (buildv #[(Value.int .u64 0), (Value.int .u64 0), (Value.int .u64 0), (Value.int .u64 0), (Value.int .u64 0), (Value.slice none 0 0), (Value.slice none 0 0), (Value.slice none 0 0), (Value.int .u64 0), (Value.int .u64 0)] []) fun t25_13 =>
  BND (storev 10 w2 s_1 t25_13) fun w3 =>
  BND (loadn 10 w3 s_1) fun r_14 =>
  R (.tuple #[r_14, (Value.int .i64 2)]) w3)
  (BND (iaddr 3 L_p0 (Value.int .i64 0)) fun t27_15 =>
  BND (faddr 1 t27_15) fun t28_16 =>
  BND (load1 w2 t28_16) fun t29_17 =>
  ∃ S_18 : Nat → World → Prop,
  S_18 2 w2.drew ∧
  S_18 5 w2.drew ∧
  S_18 8 w2.drew ∧
  S_18 11 w2.drew ∧
  S_18 14 w2.drew ∧
  S_18 18 w2.drew ∧
  S_18 21 w2.drew ∧
  BND (iaddr 1 t29_17 (Value.int .i64 0)) fun t31_19 =>
  FLT (S_18 2) (fun w_ => load1 w_ t31_19) fun t32_20 =>
  BND (iaddr 1 t29_17 (Value.int .i64 1)) fun t34_21 =>
  FLT (S_18 5) (fun w_ => load1 w_ t34_21) fun t35_22 =>
  BND (iaddr 1 t29_17 (Value.int .i64 2)) fun t37_23 =>
  FLT (S_18 8) (fun w_ => load1 w_ t37_23) fun t38_24 =>
  BND (iaddr 1 t29_17 (Value.int .i64 3)) fun t40_25 =>
  FLT (S_18 11) (fun w_ => load1 w_ t40_25) fun t41_26 =>
  BND (iaddr 1 t29_17 (Value.int .i64 4)) fun t43_27 =>
  FLT (S_18 14) (fun w_ => load1 w_ t43_27) fun t44_28 =>
  BND (buildv #[(Value.int .u64 0), (Value.int .u64 0), (Value.int .u64 0), (Value.int .u64 0), (Value.int .u64 0), (Value.slice none 0 0), (Value.slice none 0 0), (Value.slice none 0 0)] [(0, 1, t32_20), (1, 1, t35_22), (2, 1, t38_24), (3, 1, t41_26), (4, 1, t44_28)]) fun t45_29 =>
  BND (iaddr 1 t29_17 (Value.int .i64 5)) fun t47_30 =>
  FLT (S_18 18) (fun w_ => load1 w_ t47_30) fun t48_31 =>
  BND (iaddr 1 t29_17 (Value.int .i64 6)) fun t50_32 =>
  FLT (S_18 21) (fun w_ => load1 w_ t50_32) fun t51_33 =>
  BND (buildv #[(Value.int .u64 0), (Value.int .u64 0), (Value.int .u64 0), (Value.int .u64 0), (Value.int .u64 0), (Value.slice none 0 0), (Value.slice none 0 0), (Value.slice none 0 0), (Value.int .u64 0), (Value.int .u64 0)] [(0, 8, t45_29), (8, 1, t48_31), (9, 1, t51_33)]) fun t52_34 =>
  NEW (newv 29 w2.drew (Value.agg #[(Value.int .u64 0), (Value.int .u64 0), (Value.int .u64 0), (Value.int .u64 0), (Value.int .u64 0), (Value.slice none 0 0), (Value.slice none 0 0), (Value.slice none 0 0), (Value.int .u64 0), (Value.int .u64 0)])) fun t_35 w4 =>
  S_18 2 w4 ∧
  S_18 5 w4 ∧
  S_18 8 w4 ∧
  S_18 11 w4 ∧
  S_18 14 w4 ∧
  S_18 18 w4 ∧
  S_18 21 w4 ∧
  BND (storev 10 w4 t_35 t52_34) fun w5 =>
  BND (lenl L_p0) fun t54_36 =>
  BND (binv .int .sub t54_36 (Value.int .i64 1)) fun t55_37 =>
  BND (slicev3 3 L_p0 (some (Value.int .i64 1)) t55_37 t55_37) fun t59_38 =>
  BND (lenl t59_38) fun t60_39 =>
  ∃ (J_40 : Value → World → Prop) (m_40 : Value → World → Nat), J_40 (Value.int .i64 0) w5 ∧ ∀ (_d_40 : Env) (t61_43 : Value) (w6 : World), J_40 t61_43 w6 →
  (BND (binv .int .lss t61_43 t60_39) fun t62_115 =>
  COND t62_115
  (BND (iaddr 3 t59_38 t61_43) fun t63_116 =>
  BND (loadn 3 w6 t63_116) fun t64_117 =>
  NEW (newv 62 w6 (Value.agg #[(Value.int .i64 0), (Value.slice none 0 0), (Value.string ByteArray.empty)])) fun r_118 w7 =>
  BND (storev 3 w7 r_118 t64_117) fun w8 =>
  BND (faddr 0 r_118) fun t65_119 =>
  BND (load1 w8 t65_119) fun t66_120 =>
  BND (binv .int .eql t66_120 (Value.int .i64 14)) fun t68_121 =>
  JOIN (α := World → Prop) (fun k_187 => COND t68_121
  (BND (faddr 1 r_118) fun t69_188 =>
  BND (faddr 1 r_118) fun t73_189 =>
  BND (faddr 1 r_118) fun t77_190 =>
  BND (faddr 1 r_118) fun t81_191 =>
  BND (load1 w8.drew t69_188) fun t70_192 =>
  BND (iaddr 1 t70_192 (Value.int .i64 1)) fun t71_193 =>
  BND (load1 w8.drew t71_193) fun t72_194 =>
  BND (load1 w8.drew t73_189) fun t74_195 =>
  BND (iaddr 1 t74_195 (Value.int .i64 2)) fun t75_196 =>
  BND (load1 w8.drew t75_196) fun t76_197 =>
  BND (load1 w8.drew t77_190) fun t78_198 =>
  BND (iaddr 1 t78_198 (Value.int .i64 3)) fun t79_199 =>
  BND (load1 w8.drew t79_199) fun t80_200 =>
  BND (load1 w8.drew t81_191) fun t82_201 =>
  BND (iaddr 1 t82_201 (Value.int .i64 9)) fun t83_202 =>
  BND (load1 w8.drew t83_202) fun t84_203 =>
  BND (Option.bind (max2v t72_194 t76_197) fun a_ => Option.bind (max2v a_ t80_200) fun b_ => max2v b_ t84_203) fun t85_204 =>
  BND (binv .int .gtr t85_204 (Value.int .u64 1000)) fun t86_205 =>
  COND t86_205
  (BND (buildv #[(Value.int .u64 0), (Value.int .u64 0), (Value.int .u64 0), (Value.int .u64 0), (Value.int .u64 0), (Value.slice none 0 0), (Value.slice none 0 0), (Value.slice none 0 0), (Value.int .u64 0), (Value.int .u64 0)] []) fun t87_206 =>
  BND (storev 10 w8.drew s_1 t87_206) fun w10 =>
  BND (loadn 10 w10 s_1) fun r_207 =>
  R (.tuple #[r_207, (Value.int .i64 2)]) w10)
  (∃ S_208 : Nat → World → Prop,
  S_208 2 w8.drew.drew ∧
  BND (faddr 0 t_35) fun t88_209 =>
  BND (faddr 5 t88_209) fun t89_210 =>
  FLT (S_208 2) (fun w_ => load1 w_ t89_210) fun t90_211 =>
  BND (faddr 1 r_118) fun t91_212 =>
  BND (load1 w8.drew.drew t91_212) fun t92_213 =>
  CALL PR F_snap_item [t92_213] w8.drew.drew fun t93_214 w11 =>
  S_208 2 w11 ∧
  BND (newslice 69 #[(Value.int .u64 0), (Value.int .i64 0), (Value.int .i64 0), (Value.int .i64 0), (Value.int .u64 0), (Value.int .u64 0), (Value.int .u64 0), (Value.int .u64 0), (Value.int .u64 0), (Value.int .i64 0)] 10 1 [(0, 10, t93_214)] w11) fun p_ => NEW p_ fun t94_215 w12 =>
  S_208 2 w12 ∧
  APPEND 69 10 80 (Value.agg #[(Value.int .u64 0), (Value.int .i64 0), (Value.int .i64 0), (Value.int .i64 0), (Value.int .u64 0), (Value.int .u64 0), (Value.int .u64 0), (Value.int .u64 0), (Value.int .u64 0), (Value.int .i64 0)]) t90_211 t94_215 w12 fun t95_216 w13 =>
  BND (faddr 0 t_35) fun t96_217 =>
  BND (faddr 5 t96_217) fun t97_218 =>
  BND (storev 1 w13 t97_218 t95_216) fun w14 =>
  k_187 w14))
  (BND (binv .int .eql t66_120 (Value.int .i64 15)) fun t99_219 =>
  JOIN (α := World → Prop) (fun k_252 => COND t99_219
  (∃ S_253 : Nat → World → Prop,
  S_253 2 w8.drew ∧
  BND (faddr 0 t_35) fun t100_254 =>
  BND (faddr 6 t100_254) fun t101_255 =>
  FLT (S_253 2) (fun w_ => load1 w_ t101_255) fun t102_256 =>
  BND (faddr 1 r_118) fun t103_257 =>
  BND (faddr 1 r_118) fun t107_258 =>
  BND (load1 w8.drew t103_257) fun t104_259 =>
  BND (iaddr 1 t104_259 (Value.int .i64 0)) fun t105_260 =>
  BND (load1 w8.drew t105_260) fun t106_261 =>
  BND (load1 w8.drew t107_258) fun t108_262 =>
  BND (iaddr 1 t108_262 (Value.int .i64 1)) fun t109_263 =>
  BND (load1 w8.drew t109_263) fun t110_264 =>
  BND (buildv #[(Value.int .u64 0), (Value.int .u64 0)] [(0, 1, t106_261), (1, 1, t110_264)]) fun t111_265 =>
  BND (newslice 75 #[(Value.int .u64 0), (Value.int .u64 0)] 2 1 [(0, 2, t111_265)] w8.drew) fun p_ => NEW p_ fun t112_266 w16 =>
  S_253 2 w16 ∧
  APPEND 75 2 16 (Value.agg #[(Value.int .u64 0), (Value.int .u64 0)]) t102_256 t112_266 w16 fun t113_267 w17 =>
  BND (faddr 0 t_35) fun t114_268 =>
  BND (faddr 6 t114_268) fun t115_269 =>
  BND (storev 1 w17 t115_269 t113_267) fun w18 =>
  k_252 w18)
  (BND (binv .int .eql t66_120 (Value.int .i64 16)) fun t117_270 =>
  JOIN (α := World → Prop) (fun k_285 => COND t117_270
  (∃ S_286 : Nat → World → Prop,
  S_286 2 w8.drew ∧
  BND (faddr 0 t_35) fun t118_287 =>
  BND (faddr 7 t118_287) fun t119_288 =>
  FLT (S_286 2) (fun w_ => load1 w_ t119_288) fun t120_289 =>
  BND (faddr 2 r_118) fun t121_290 =>
  BND (faddr 1 r_118) fun t123_291 =>
  BND (load1 w8.drew t121_290) fun t122_292 =>
  BND (load1 w8.drew t123_291) fun t124_293 =>
  BND (iaddr 1 t124_293 (Value.int .i64 0)) fun t125_294 =>
  BND (load1 w8.drew t125_294) fun t126_295 =>
  BND (buildv #[(Value.string ByteArray.empty), (Value.int .u64 0)] [(0, 1, t122_292), (1, 1, t126_295)]) fun t127_296 =>
  BND (newslice 77 #[(Value.string ByteArray.empty), (Value.int .u64 0)] 2 1 [(0, 2, t127_296)] w8.drew) fun p_ => NEW p_ fun t128_297 w20 =>
  S_286 2 w20 ∧
  APPEND 77 2 24 (Value.agg #[(Value.string ByteArray.empty), (Value.int .u64 0)]) t120_289 t128_297 w20 fun t129_298 w21 =>
  BND (faddr 0 t_35) fun t130_299 =>
  BND (faddr 7 t130_299) fun t131_300 =>
  BND (storev 1 w21 t131_300 t129_298) fun w22 =>
  k_285 w22)
  (k_285 w8))
  (fun w19 => k_252 w19)))
  (fun w15 => k_187 w15)))
  (fun w9 => BND (binv .int .add t61_43 (Value.int .i64 1)) fun t132_186 =>
  (J_40 t132_186 w9 ∧ m_40 t132_186 w9 < m_40 t61_43 w6)))
  (BND (loadn 10 w6 t_35) fun t134_301 =>
  CALL PR F_snap_Save [t134_301] w6 fun t135_302 w23 =>
  BND (extractv t135_302 0) fun t136_303 =>
  BND (extractv t135_302 1) fun t137_304 =>
  BND (binv .int .neq t137_304 (Value.int .i64 0)) fun t139_305 =>
  BND (grd (isB t139_305 false) (some t136_303)) fun t141_306 =>
  BND (grd (isB t139_305 false) (some L_p0)) fun t142_307 =>
  GEF (isB t139_305 false) (fun k_ => CALL PR F_slices_EqualFunc_record_Record_record_Record_record_Record_record_Record [t141_306, t142_307, (Value.func (.func F_record_Same) #[] #[])] w23 k_) w23 fun t143_308 w24 =>
  BND (grd (isB t139_305 false) (unv .not t143_308)) fun t144_309 =>
  BND (pickv t139_305 (Value.bool true) t144_309) fun t145_310 =>
  COND t145_310
  (BND (buildv #[(Value.int .u64 0), (Value.int .u64 0), (Value.int .u64 0), (Value.int .u64 0), (Value.int .u64 0), (Value.slice none 0 0), (Value.slice none 0 0), (Value.slice none 0 0), (Value.int .u64 0), (Value.int .u64 0)] []) fun t146_311 =>
  BND (storev 10 w24 s_1 t146_311) fun w25 =>
  BND (loadn 10 w25 s_1) fun r_312 =>
  R (.tuple #[r_312, (Value.int .i64 2)]) w25)
  (BND (loadn 10 w24 t_35) fun t147_313 =>
  BND (storev 10 w24 s_1 t147_313) fun w26 =>
  BND (loadn 10 w26 s_1) fun r_314 =>
  R (.tuple #[r_314, (Value.int .i64 0)]) w26))))
def ann_snap_Load : List (Nat × List Nat) := [(4, [0, 1, 2, 3, 4, 5, 6, 7, 8, 9, 10, 11, 12, 13, 14, 15, 16, 17, 18, 19, 20, 21, 22, 23, 24]), (11, [0, 4, 8, 12, 1, 2, 3, 5, 6, 7, 9, 10, 11, 13, 14, 15, 16, 17]), (13, [0, 1, 2, 3, 4, 5, 6, 7, 8, 9, 10]), (15, [0, 1, 2, 3, 7, 4, 5, 6, 8, 9, 10, 11, 12, 13, 14, 15, 16]), (17, [0, 1, 2, 3, 5, 4, 6, 7, 8, 9, 10, 11, 12, 13, 14]), (1000007, [61]), (2000004, [2, 5, 8, 11, 14, 18, 21]), (2000013, [2]), (2000015, [2]), (2000017, [2]), (3004023, [2, 5, 8, 11, 14, 18, 21]), (3013005, [2]), (3013006, [2]), (3015012, [2]), (3017010, [2])]
theorem E_snap_Load (L_p0 : Value) (w : World) (R : Value → World → Prop) : M_snap_Load L_p0 w R = den PR ann_snap_Load (bodyOf Try.f12) (retQ PR Try.f12.results.toList R) (env0 [L_p0]) w := by kernel_rfl
theorem C_snap_Load {L_p0 : Value} {w : World} {R : Value → World → Prop} (h : M_snap_Load L_p0 w R) : CALL PR F_snap_Load [L_p0] w R :=
  call_of_den2 ann_snap_Load Try.func12 (by kernel_rfl) (by kernel_rfl) (by kernel_rfl) ((E_snap_Load L_p0 w R) ▸ h)


-- 13 tumbrel.tumbrelref13.Load
def M_tumbrelref13_Load (L_p0 : Value) (w : World) (R : Value → World → Prop) : Prop :=
  NEW (newv 39 w (Value.agg #[(Value.int .u64 0), (Value.int .u64 0), (Value.int .u64 0), (Value.int .u64 0), (Value.int .u64 0), (Value.slice none 0 0), (Value.slice none 0 0), (Value.slice none 0 0), (Value.int .u64 0), (Value.int .u64 0)])) fun s_1 w1 =>
  ∃ (J_2 : Value → World → Prop) (m_2 : Value → World → Nat), J_2 (Value.int .i64 0) w1 ∧ ∀ (_d_2 : Env) (t4_4 : Value) (w2 : World), J_2 t4_4 w2 →
  (BND (lenl L_p0) fun t13_18 =>
  BND (binv .int .lss t4_4 t13_18) fun t14_19 =>
  COND t14_19
  (BND (iaddr 3 L_p0 t4_4) fun t19_20 =>
  BND (loadn 3 w2 t19_20) fun t20_21 =>
  CALL PR F_tumbrelref05_Right [t20_21] w2 fun t21_22 w3 =>
  BND (unv .not t21_22) fun t22_23 =>
  COND t22_23
  (BND (buildv #[(Value.int .u64 0), (Value.int .u64 0), (Value.int .u64 0), (Value.int .u64 0), (Value.int .u64 0), (Value.slice none 0 0), (Value.slice none 0 0), (Value.slice none 0 0), (Value.int .u64 0), (Value.int .u64 0)] []) fun t23_24 =>
  BND (storev 10 w3 s_1 t23_24) fun w4 =>
  BND (loadn 10 w4 s_1) fun r_25 =>
  R (.tuple #[r_25, (Value.int .i64 2)]) w4)
  (BND (binv .int .add t4_4 (Value.int .i64 1)) fun t16_26 =>
  (J_2 t16_26 w3 ∧ m_2 t16_26 w3 < m_2 t4_4 w2)))
  (BND (lenl L_p0) fun t25_27 =>
  BND (binv .int .lss t25_27 (Value.int .i64 2)) fun t27_28 =>
  BND (grd (isB t27_28 false) (some L_p0)) fun t29_29 =>
  BND (grd (isB t27_28 false) (iaddr 3 t29_29 (Value.int .i64 0))) fun t30_30 =>
  BND (grd (isB t27_28 false) (faddr 0 t30_30)) fun t31_31 =>
  BND (grd (isB t27_28 false) (load1 w2 t31_31)) fun t32_32 =>
  BND (grd (isB t27_28 false) (binv .int .neq t32_32 (Value.int .i64 13))) fun t33_33 =>
  BND (pickv t27_28 (Value.bool true) t33_33) fun t34_34 =>
  BND (grd (isB t34_34 false) (some L_p0)) fun t36_35 =>
  BND (grd (isB t34_34 false) (some t25_27)) fun t37_36 =>
  BND (grd (isB t34_34 false) (binv .int .sub t37_36 (Value.int .i64 1))) fun t38_37 =>
  BND (grd (isB t34_34 false) (iaddr 3 t36_35 t38_37)) fun t39_38 =>
  BND (grd (isB t34_34 false) (faddr 0 t39_38)) fun t40_39 =>
  BND (grd (isB t34_34 false) (load1 w2 t40_39)) fun t41_40 =>
  BND (grd (isB t34_34 false) (binv .int .neq t41_40 (Value.int .i64 17))) fun t42_41 =>
  BND (pickv t34_34 (Value.bool true) t42_41) fun t43_42 =>
  BND (grd (isB t43_42 false) (some L_p0)) fun t45_43 =>
  BND (grd (isB t43_42 false) (some t25_27)) fun t46_44 =>
  BND (grd (isB t43_42 false) (binv .int .sub t46_44 (Value.int .i64 1))) fun t47_45 =>
  BND (grd (isB t43_42 false) (iaddr 3 t45_43 t47_45)) fun t48_46 =>
  BND (grd (isB t43_42 false) (faddr 1 t48_46)) fun t49_47 =>
  BND (grd (isB t43_42 false) (load1 w2 t49_47)) fun t50_48 =>
  BND (grd (isB t43_42 false) (iaddr 1 t50_48 (Value.int .i64 0))) fun t51_49 =>
  BND (grd (isB t43_42 false) (load1 w2 t51_49)) fun t52_50 =>
  BND (grd (isB t43_42 false) (some t25_27)) fun t53_51 =>
  BND (grd (isB t43_42 false) (binv .int .sub t53_51 (Value.int .i64 1))) fun t54_52 =>
  BND (grd (isB t43_42 false) (convi .u64 t54_52)) fun t55_53 =>
  BND (grd (isB t43_42 false) (binv .int .neq t52_50 t55_53)) fun t56_54 =>
  BND (pickv t43_42 (Value.bool true) t56_54) fun t57_55 =>
  COND t57_55
  (BND (buildv #[(Value.int .u64 0), (Value.int .u64 0), (Value.int .u64 0), (Value.int .u64 0), (Value.int .u64 0), (Value.slice none 0 0), (Value.slice none 0 0), (Value.slice none 0 0), (Value.int .u64 0), (Value.int .u64 0)] []) fun t58_56 =>
  BND (storev 10 w2 s_1 t58_56) fun w5 =>
  BND (loadn 10 w5 s_1) fun r_57 =>
  R (.tuple #[r_57, (Value.int .i64 2)]) w5)
  (BND (iaddr 3 L_p0 (Value.int .i64 0)) fun t60_58 =>
  BND (faddr 1 t60_58) fun t61_59 =>
  BND (load1 w2 t61_59) fun t62_60 =>
  ∃ S_61 : Nat → World → Prop,
  S_61 2 w2.drew ∧
  S_61 5 w2.drew ∧
  S_61 8 w2.drew ∧
  S_61 11 w2.drew ∧
  S_61 14 w2.drew ∧
  S_61 18 w2.drew ∧
  S_61 21 w2.drew ∧
  BND (iaddr 1 t62_60 (Value.int .i64 0)) fun t64_62 =>
  FLT (S_61 2) (fun w_ => load1 w_ t64_62) fun t65_63 =>
  BND (iaddr 1 t62_60 (Value.int .i64 1)) fun t67_64 =>
  FLT (S_61 5) (fun w_ => load1 w_ t67_64) fun t68_65 =>
  BND (iaddr 1 t62_60 (Value.int .i64 2)) fun t70_66 =>
  FLT (S_61 8) (fun w_ => load1 w_ t70_66) fun t71_67 =>
  BND (iaddr 1 t62_60 (Value.int .i64 3)) fun t73_68 =>
  FLT (S_61 11) (fun w_ => load1 w_ t73_68) fun t74_69 =>
  BND (iaddr 1 t62_60 (Value.int .i64 4)) fun t76_70 =>
  FLT (S_61 14) (fun w_ => load1 w_ t76_70) fun t77_71 =>
  BND (buildv #[(Value.int .u64 0), (Value.int .u64 0), (Value.int .u64 0), (Value.int .u64 0), (Value.int .u64 0), (Value.slice none 0 0), (Value.slice none 0 0), (Value.slice none 0 0)] [(0, 1, t65_63), (1, 1, t68_65), (2, 1, t71_67), (3, 1, t74_69), (4, 1, t77_71)]) fun t78_72 =>
  BND (iaddr 1 t62_60 (Value.int .i64 5)) fun t80_73 =>
  FLT (S_61 18) (fun w_ => load1 w_ t80_73) fun t81_74 =>
  BND (iaddr 1 t62_60 (Value.int .i64 6)) fun t83_75 =>
  FLT (S_61 21) (fun w_ => load1 w_ t83_75) fun t84_76 =>
  BND (buildv #[(Value.int .u64 0), (Value.int .u64 0), (Value.int .u64 0), (Value.int .u64 0), (Value.int .u64 0), (Value.slice none 0 0), (Value.slice none 0 0), (Value.slice none 0 0), (Value.int .u64 0), (Value.int .u64 0)] [(0, 8, t78_72), (8, 1, t81_74), (9, 1, t84_76)]) fun t85_77 =>
  NEW (newv 39 w2.drew (Value.agg #[(Value.int .u64 0), (Value.int .u64 0), (Value.int .u64 0), (Value.int .u64 0), (Value.int .u64 0), (Value.slice none 0 0), (Value.slice none 0 0), (Value.slice none 0 0), (Value.int .u64 0), (Value.int .u64 0)])) fun A_78 w6 =>
  S_61 2 w6 ∧
  S_61 5 w6 ∧
  S_61 8 w6 ∧
  S_61 11 w6 ∧
  S_61 14 w6 ∧
  S_61 18 w6 ∧
  S_61 21 w6 ∧
  BND (storev 10 w6 A_78 t85_77) fun w7 =>
  ∃ (J_79 : Value → World → Prop) (m_79 : Value → World → Nat), J_79 (Value.int .i64 1) w7 ∧ ∀ (_d_79 : Env) (r_81 : Value) (w8 : World), J_79 r_81 w8 →
  (BND (binv .int .sub t25_27 (Value.int .i64 1)) fun t88_218 =>
  BND (binv .int .lss r_81 t88_218) fun t89_219 =>
  COND t89_219
  (BND (iaddr 3 L_p0 r_81) fun t94_220 =>
  BND (faddr 0 t94_220) fun t95_221 =>
  BND (load1 w8 t95_221) fun t96_222 =>
  BND (iaddr 3 L_p0 r_81) fun t99_223 =>
  BND (faddr 1 t99_223) fun t100_224 =>
  BND (load1 w8 t100_224) fun t101_225 =>
  BND (binv .int .lss t96_222 (Value.int .i64 14)) fun t103_226 =>
  BND (grd (isB t103_226 false) (some t96_222)) fun t105_227 =>
  BND (grd (isB t103_226 false) (binv .int .gtr t105_227 (Value.int .i64 16))) fun t106_228 =>
  BND (pickv t103_226 (Value.bool true) t106_228) fun t107_229 =>
  BND (grd (isB t107_229 false) (some t96_222)) fun t109_230 =>
  BND (grd (isB t107_229 false) (some L_p0)) fun t110_231 =>
  BND (grd (isB t107_229 false) (some r_81)) fun t111_232 =>
  BND (grd (isB t107_229 false) (binv .int .sub t111_232 (Value.int .i64 1))) fun t112_233 =>
  BND (grd (isB t107_229 false) (iaddr 3 t110_231 t112_233)) fun t113_234 =>
  BND (grd (isB t107_229 false) (faddr 0 t113_234)) fun t114_235 =>
  BND (grd (isB t107_229 false) (load1 w8 t114_235)) fun t115_236 =>
  BND (grd (isB t107_229 false) (binv .int .lss t109_230 t115_236)) fun t116_237 =>
  BND (pickv t107_229 (Value.bool true) t116_237) fun t117_238 =>
  COND t117_238
  (BND (buildv #[(Value.int .u64 0), (Value.int .u64 0), (Value.int .u64 0), (Value.int .u64 0), (Value.int .u64 0), (Value.slice none 0 0), (Value.slice none 0 0), (Value.slice none 0 0), (Value.int .u64 0), (Value.int .u64 0)] []) fun t118_239 =>
  BND (storev 10 w8 s_1 t118_239) fun w9 =>
  BND (loadn 10 w9 s_1) fun r_240 =>
  R (.tuple #[r_240, (Value.int .i64 2)]) w9)
  (BND (binv .int .eql t96_222 (Value.int .i64 14)) fun t120_241 =>
  JOIN (α := World → Prop) (fun k_343 => COND t120_241
  (BND (iaddr 1 t101_225 (Value.int .i64 1)) fun t122_344 =>
  BND (load1 w8 t122_344) fun t123_345 =>
  BND (binv .int .gtr t123_345 (Value.int .u64 1000)) fun t124_346 =>
  BND (grd (isB t124_346 false) (some t101_225)) fun t126_347 =>
  BND (grd (isB t124_346 false) (iaddr 1 t126_347 (Value.int .i64 2))) fun t127_348 =>
  BND (grd (isB t124_346 false) (load1 w8 t127_348)) fun t128_349 =>
  BND (grd (isB t124_346 false) (binv .int .gtr t128_349 (Value.int .u64 1000))) fun t129_350 =>
  BND (pickv t124_346 (Value.bool true) t129_350) fun t130_351 =>
  BND (grd (isB t130_351 false) (some t101_225)) fun t132_352 =>
  BND (grd (isB t130_351 false) (iaddr 1 t132_352 (Value.int .i64 3))) fun t133_353 =>
  BND (grd (isB t130_351 false) (load1 w8 t133_353)) fun t134_354 =>
  BND (grd (isB t130_351 false) (binv .int .gtr t134_354 (Value.int .u64 1000))) fun t135_355 =>
  BND (pickv t130_351 (Value.bool true) t135_355) fun t136_356 =>
  BND (grd (isB t136_356 false) (some t101_225)) fun t138_357 =>
  BND (grd (isB t136_356 false) (iaddr 1 t138_357 (Value.int .i64 9))) fun t139_358 =>
  BND (grd (isB t136_356 false) (load1 w8 t139_358)) fun t140_359 =>
  BND (grd (isB t136_356 false) (binv .int .gtr t140_359 (Value.int .u64 1000))) fun t141_360 =>
  BND (pickv t136_356 (Value.bool true) t141_360) fun t142_361 =>
  COND t142_361
  (BND (buildv #[(Value.int .u64 0), (Value.int .u64 0), (Value.int .u64 0), (Value.int .u64 0), (Value.int .u64 0), (Value.slice none 0 0), (Value.slice none 0 0), (Value.slice none 0 0), (Value.int .u64 0), (Value.int .u64 0)] []) fun t143_362 =>
  BND (storev 10 w8 s_1 t143_362) fun w11 =>
  BND (loadn 10 w11 s_1) fun r_363 =>
  R (.tuple #[r_363, (Value.int .i64 2)]) w11)
  (∃ S_364 : Nat → World → Prop,
  S_364 2 w8.drew ∧
  BND (faddr 0 A_78) fun t144_365 =>
  BND (faddr 5 t144_365) fun t145_366 =>
  FLT (S_364 2) (fun w_ => load1 w_ t145_366) fun t146_367 =>
  BND (iaddr 1 t101_225 (Value.int .i64 0)) fun t148_368 =>
  BND (iaddr 1 t101_225 (Value.int .i64 1)) fun t151_369 =>
  BND (iaddr 1 t101_225 (Value.int .i64 2)) fun t155_370 =>
  BND (iaddr 1 t101_225 (Value.int .i64 3)) fun t159_371 =>
  BND (iaddr 1 t101_225 (Value.int .i64 4)) fun t163_372 =>
  BND (iaddr 1 t101_225 (Value.int .i64 5)) fun t166_373 =>
  BND (iaddr 1 t101_225 (Value.int .i64 6)) fun t170_374 =>
  BND (iaddr 1 t101_225 (Value.int .i64 7)) fun t173_375 =>
  BND (iaddr 1 t101_225 (Value.int .i64 8)) fun t176_376 =>
  BND (iaddr 1 t101_225 (Value.int .i64 9)) fun t179_377 =>
  BND (load1 w8.drew t148_368) fun t149_378 =>
  BND (load1 w8.drew t151_369) fun t152_379 =>
  BND (convi .i64 t152_379) fun t153_380 =>
  BND (load1 w8.drew t155_370) fun t156_381 =>
  BND (convi .i64 t156_381) fun t157_382 =>
  BND (load1 w8.drew t159_371) fun t160_383 =>
  BND (convi .i64 t160_383) fun t161_384 =>
  BND (load1 w8.drew t163_372) fun t164_385 =>
  BND (load1 w8.drew t166_373) fun t167_386 =>
  BND (buildv #[(Value.int .i64 0), (Value.int .i64 0), (Value.int .u64 0), (Value.int .u64 0)] [(0, 1, t157_382), (1, 1, t161_384), (2, 1, t164_385), (3, 1, t167_386)]) fun t168_387 =>
  BND (load1 w8.drew t170_374) fun t171_388 =>
  BND (load1 w8.drew t173_375) fun t174_389 =>
  BND (load1 w8.drew t176_376) fun t177_390 =>
  BND (load1 w8.drew t179_377) fun t180_391 =>
  BND (convi .i64 t180_391) fun t181_392 =>
  BND (buildv #[(Value.int .u64 0), (Value.int .u64 0), (Value.int .i64 0)] [(0, 1, t174_389), (1, 1, t177_390), (2, 1, t181_392)]) fun t182_393 =>
  BND (buildv #[(Value.int .u64 0), (Value.int .i64 0), (Value.int .i64 0), (Value.int .i64 0), (Value.int .u64 0), (Value.int .u64 0), (Value.int .u64 0), (Value.int .u64 0), (Value.int .u64 0), (Value.int .i64 0)] [(0, 1, t149_378), (1, 1, t153_380), (2, 4, t168_387), (6, 1, t171_388), (7, 3, t182_393)]) fun t183_394 =>
  BND (newslice 87 #[(Value.int .u64 0), (Value.int .i64 0), (Value.int .i64 0), (Value.int .i64 0), (Value.int .u64 0), (Value.int .u64 0), (Value.int .u64 0), (Value.int .u64 0), (Value.int .u64 0), (Value.int .i64 0)] 10 1 [(0, 10, t183_394)] w8.drew) fun p_ => NEW p_ fun t184_395 w12 =>
  S_364 2 w12 ∧
  APPEND 87 10 80 (Value.agg #[(Value.int .u64 0), (Value.int .i64 0), (Value.int .i64 0), (Value.int .i64 0), (Value.int .u64 0), (Value.int .u64 0), (Value.int .u64 0), (Value.int .u64 0), (Value.int .u64 0), (Value.int .i64 0)]) t146_367 t184_395 w12 fun t185_396 w13 =>
  BND (faddr 0 A_78) fun t186_397 =>
  BND (faddr 5 t186_397) fun t187_398 =>
  BND (storev 1 w13 t187_398 t185_396) fun w14 =>
  k_343 w14))
  (BND (binv .int .eql t96_222 (Value.int .i64 15)) fun t189_399 =>
  JOIN (α := World → Prop) (fun k_430 => COND t189_399
  (∃ S_431 : Nat → World → Prop,
  S_431 2 w8.drew ∧
  BND (faddr 0 A_78) fun t190_432 =>
  BND (faddr 6 t190_432) fun t191_433 =>
  FLT (S_431 2) (fun w_ => load1 w_ t191_433) fun t192_434 =>
  BND (iaddr 1 t101_225 (Value.int .i64 0)) fun t194_435 =>
  BND (iaddr 1 t101_225 (Value.int .i64 1)) fun t197_436 =>
  BND (load1 w8.drew t194_435) fun t195_437 =>
  BND (load1 w8.drew t197_436) fun t198_438 =>
  BND (buildv #[(Value.int .u64 0), (Value.int .u64 0)] [(0, 1, t195_437), (1, 1, t198_438)]) fun t199_439 =>
  BND (newslice 76 #[(Value.int .u64 0), (Value.int .u64 0)] 2 1 [(0, 2, t199_439)] w8.drew) fun p_ => NEW p_ fun t200_440 w16 =>
  S_431 2 w16 ∧
  APPEND 76 2 16 (Value.agg #[(Value.int .u64 0), (Value.int .u64 0)]) t192_434 t200_440 w16 fun t201_441 w17 =>
  BND (faddr 0 A_78) fun t202_442 =>
  BND (faddr 6 t202_442) fun t203_443 =>
  BND (storev 1 w17 t203_443 t201_441) fun w18 =>
  k_430 w18)
  (∃ S_444 : Nat → World → Prop,
  S_444 2 w8.drew ∧
  BND (faddr 0 A_78) fun t204_445 =>
  BND (faddr 7 t204_445) fun t205_446 =>
  FLT (S_444 2) (fun w_ => load1 w_ t205_446) fun t206_447 =>
  BND (iaddr 3 L_p0 r_81) fun t209_448 =>
  BND (faddr 2 t209_448) fun t210_449 =>
  BND (iaddr 1 t101_225 (Value.int .i64 0)) fun t213_450 =>
  BND (load1 w8.drew t210_449) fun t211_451 =>
  BND (load1 w8.drew t213_450) fun t214_452 =>
  BND (buildv #[(Value.string ByteArray.empty), (Value.int .u64 0)] [(0, 1, t211_451), (1, 1, t214_452)]) fun t215_453 =>
  BND (newslice 73 #[(Value.string ByteArray.empty), (Value.int .u64 0)] 2 1 [(0, 2, t215_453)] w8.drew) fun p_ => NEW p_ fun t216_454 w19 =>
  S_444 2 w19 ∧
  APPEND 73 2 24 (Value.agg #[(Value.string ByteArray.empty), (Value.int .u64 0)]) t206_447 t216_454 w19 fun t217_455 w20 =>
  BND (faddr 0 A_78) fun t218_456 =>
  BND (faddr 7 t218_456) fun t219_457 =>
  BND (storev 1 w20 t219_457 t217_455) fun w21 =>
  k_430 w21))
  (fun w15 => k_343 w15)))
  (fun w10 => BND (binv .int .add r_81 (Value.int .i64 1)) fun t91_342 =>
  (J_79 t91_342 w10 ∧ m_79 t91_342 w10 < m_79 r_81 w8))))
  (BND (loadn 10 w8 A_78) fun t220_458 =>
  BND (storev 10 w8 s_1 t220_458) fun w22 =>
  BND (loadn 10 w22 s_1) fun r_459 =>
  R (.tuple #[r_459, (Value.int .i64 0)]) w22)))))
def ann_tumbrelref13_Load : List (Nat × List Nat) := [(10, [0, 1, 2, 3, 4, 5, 6, 7, 8, 9, 10, 11, 12, 13, 14, 15, 16, 17, 18, 19, 20, 21, 22, 23, 24]), (21, [0, 1, 2, 3, 4, 6, 7, 10, 11, 14, 15, 18, 19, 21, 22, 25, 26, 28, 29, 31, 32, 34, 35, 5, 8, 9, 12, 13, 16, 17, 20, 23, 24, 27, 30, 33, 36, 37, 38, 39, 40, 41, 42, 43, 44]), (23, [0, 1, 2, 3, 4, 6, 7, 5, 8, 9, 10, 11, 12, 13, 14]), (24, [0, 1, 2, 3, 4, 5, 6, 8, 9, 7, 10, 11, 12, 13, 14, 15, 16]), (1000002, [4]), (1000012, [8]), (2000010, [2, 5, 8, 11, 14, 18, 21]), (2000021, [2]), (2000023, [2]), (2000024, [2]), (3010023, [2, 5, 8, 11, 14, 18, 21]), (3021040, [2]), (3023010, [2]), (3024012, [2])]
theorem E_tumbrelref13_Load (L_p0 : Value) (w : World) (R : Value → World → Prop) : M_tumbrelref13_Load L_p0 w R = den PR ann_tumbrelref13_Load (bodyOf Try.f13) (retQ PR Try.f13.results.toList R) (env0 [L_p0]) w := by kernel_rfl
theorem C_tumbrelref13_Load {L_p0 : Value} {w : World} {R : Value → World → Prop} (h : M_tumbrelref13_Load L_p0 w R) : CALL PR F_tumbrelref13_Load [L_p0] w R :=
  call_of_den2 ann_tumbrelref13_Load Try.func13 (by kernel_rfl) (by kernel_rfl) (by kernel_rfl) ((E_tumbrelref13_Load L_p0 w R) ▸ h)


-- 14 tumbrel.tumbrellaw13.owns
def M_tumbrellaw13_owns (l_p0 : Value) (w : World) (R : Value → World → Prop) : Prop :=
  BND (newslice 71 #[(Value.int .i64 0), (Value.slice none 0 0), (Value.string ByteArray.empty)] 3 0 [] w) fun p_ => NEW p_ fun t6_1 w1 =>
  BND (lenl l_p0) fun t8_2 =>
  ∃ (J_3 : Value → Value → World → Prop) (m_3 : Value → Value → World → Nat), J_3 t6_1 (Value.int .i64 0) w1 ∧ ∀ (_d_3 : Env) (out_4 t9_6 : Value) (w2 : World), J_3 out_4 t9_6 w2 →
  (BND (binv .int .lss t9_6 t8_2) fun t10_15 =>
  COND t10_15
  (BND (iaddr 3 l_p0 t9_6) fun t11_16 =>
  BND (loadn 3 w2 t11_16) fun t12_17 =>
  NEW (newv 62 w2 (Value.agg #[(Value.int .i64 0), (Value.slice none 0 0), (Value.string ByteArray.empty)])) fun r_18 w3 =>
  BND (storev 3 w3 r_18 t12_17) fun w4 =>
  BND (loadn 3 w4 r_18) fun t14_19 =>
  BND (newslice 71 #[(Value.int .i64 0), (Value.slice none 0 0), (Value.string ByteArray.empty)] 3 1 [(0, 3, t14_19)] w4) fun p_ => NEW p_ fun t15_20 w5 =>
  APPEND 71 3 48 (Value.agg #[(Value.int .i64 0), (Value.slice none 0 0), (Value.string ByteArray.empty)]) out_4 t15_20 w5 fun t16_21 w6 =>
  BND (binv .int .add t9_6 (Value.int .i64 1)) fun t17_22 =>
  (J_3 t16_21 t17_22 w6 ∧ m_3 t16_21 t17_22 w6 < m_3 out_4 t9_6 w2))
  (R out_4 w2))
def ann_tumbrellaw13_owns : List (Nat × List Nat) := [(1000003, [3, 9])]
theorem E_tumbrellaw13_owns (l_p0 : Value) (w : World) (R : Value → World → Prop) : M_tumbrellaw13_owns l_p0 w R = den PR ann_tumbrellaw13_owns (bodyOf Try.f14) (retQ PR Try.f14.results.toList R) (env0 [l_p0]) w := by kernel_rfl
theorem C_tumbrellaw13_owns {l_p0 : Value} {w : World} {R : Value → World → Prop} (h : M_tumbrellaw13_owns l_p0 w R) : CALL PR F_tumbrellaw13_owns [l_p0] w R :=
  call_of_den2 ann_tumbrellaw13_owns Try.func14 (by kernel_rfl) (by kernel_rfl) (by kernel_rfl) ((E_tumbrellaw13_owns l_p0 w R) ▸ h)


-- 15 tumbrel.tumbrelref05.Same
def M_tumbrelref05_Same (a_p0 b_p1 : Value) (w : World) (R : Value → World → Prop) : Prop :=
  BND (lenl a_p0) fun t7_1 =>
  BND (lenl b_p1) fun t9_2 =>
  BND (binv .int .neq t7_1 t9_2) fun t10_3 =>
  COND t10_3
  (R (Value.bool false) w)
  (∃ (J_4 : Value → World → Prop) (m_4 : Value → World → Nat), J_4 (Value.int .i64 0) w ∧ ∀ (_d_4 : Env) (i_6 : Value) (w1 : World), J_4 i_6 w1 →
  (BND (lenl a_p0) fun t13_51 =>
  BND (binv .int .lss i_6 t13_51) fun t14_52 =>
  COND t14_52
  (BND (iaddr 3 a_p0 i_6) fun t19_53 =>
  BND (faddr 0 t19_53) fun t20_54 =>
  BND (iaddr 3 b_p1 i_6) fun t24_55 =>
  BND (faddr 0 t24_55) fun t25_56 =>
  BND (load1 w1.drew t20_54) fun t21_57 =>
  BND (load1 w1.drew t25_56) fun t26_58 =>
  BND (binv .int .neq t21_57 t26_58) fun t27_59 =>
  BND (grd (isB t27_59 false) (some a_p0)) fun t29_60 =>
  BND (grd (isB t27_59 false) (some i_6)) fun t30_61 =>
  BND (grd (isB t27_59 false) (iaddr 3 t29_60 t30_61)) fun t31_62 =>
  BND (grd (isB t27_59 false) (faddr 2 t31_62)) fun t32_63 =>
  BND (grd (isB t27_59 false) (some b_p1)) fun t34_64 =>
  BND (grd (isB t27_59 false) (some i_6)) fun t35_65 =>
  BND (grd (isB t27_59 false) (iaddr 3 t34_64 t35_65)) fun t36_66 =>
  BND (grd (isB t27_59 false) (faddr 2 t36_66)) fun t37_67 =>
  BND (grd (isB t27_59 false) (load1 w1.drew t32_63)) fun t33_68 =>
  BND (grd (isB t27_59 false) (load1 w1.drew t37_67)) fun t38_69 =>
  BND (grd (isB t27_59 false) (binv .str .neq t33_68 t38_69)) fun t39_70 =>
  BND (pickv t27_59 (Value.bool true) t39_70) fun t40_71 =>
  BND (grd (isB t40_71 false) (some a_p0)) fun t42_72 =>
  BND (grd (isB t40_71 false) (some i_6)) fun t43_73 =>
  BND (grd (isB t40_71 false) (iaddr 3 t42_72 t43_73)) fun t44_74 =>
  BND (grd (isB t40_71 false) (faddr 1 t44_74)) fun t45_75 =>
  BND (grd (isB t40_71 false) (some b_p1)) fun t47_76 =>
  BND (grd (isB t40_71 false) (some i_6)) fun t48_77 =>
  BND (grd (isB t40_71 false) (iaddr 3 t47_76 t48_77)) fun t49_78 =>
  BND (grd (isB t40_71 false) (faddr 1 t49_78)) fun t50_79 =>
  BND (grd (isB t40_71 false) (load1 w1.drew t45_75)) fun t46_80 =>
  BND (grd (isB t40_71 false) (load1 w1.drew t50_79)) fun t51_81 =>
  GEF (isB t40_71 false) (fun k_ => CALL PR F_tumbrelref02_Same [t46_80, t51_81] w1.drew k_) w1.drew fun t52_82 w2 =>
  BND (grd (isB t40_71 false) (unv .not t52_82)) fun t53_83 =>
  BND (pickv t40_71 (Value.bool true) t53_83) fun t54_84 =>
  COND t54_84
  (R (Value.bool false) w2)
  (BND (binv .int .add i_6 (Value.int .i64 1)) fun t16_85 =>
  (J_4 t16_85 w2 ∧ m_4 t16_85 w2 < m_4 i_6 w1)))
  (R (Value.bool true) w1)))
def ann_tumbrelref05_Same : List (Nat × List Nat) := [(6, [0, 1, 2, 3, 5, 6, 7, 8, 4, 9, 10, 11, 12, 13, 14, 15, 17, 18, 19, 20, 16, 21, 22, 23, 24, 25, 26, 27, 28, 30, 31, 32, 33, 29, 34, 35, 36, 37]), (1000004, [5])]
theorem E_tumbrelref05_Same (a_p0 b_p1 : Value) (w : World) (R : Value → World → Prop) : M_tumbrelref05_Same a_p0 b_p1 w R = den PR ann_tumbrelref05_Same (bodyOf Try.f15) (retQ PR Try.f15.results.toList R) (env0 [a_p0, b_p1]) w := by kernel_rfl
theorem C_tumbrelref05_Same {a_p0 b_p1 : Value} {w : World} {R : Value → World → Prop} (h : M_tumbrelref05_Same a_p0 b_p1 w R) : CALL PR F_tumbrelref05_Same [a_p0, b_p1] w R :=
  call_of_den2 ann_tumbrelref05_Same Try.func15 (by kernel_rfl) (by kernel_rfl) (by kernel_rfl) ((E_tumbrelref05_Same a_p0 b_p1 w R) ▸ h)


-- 16 tumbrel.tumbrelref13.Same
def M_tumbrelref13_Same (a_p0 b_p1 : Value) (w : World) (R : Value → World → Prop) : Prop :=
  NEW (newv 39 w a_p0) fun a_1 w1 =>
  NEW (newv 39 w1 b_p1) fun b_2 w2 =>
  BND (faddr 0 a_1) fun t5_3 =>
  BND (loadn 8 w2 t5_3) fun t6_4 =>
  BND (faddr 0 b_2) fun t7_5 =>
  BND (loadn 8 w2 t7_5) fun t8_6 =>
  CALL PR F_tumbrelref11_Same [t6_4, t8_6] w2 fun t9_7 w3 =>
  BND (grd (isB t9_7 true) (faddr 8 a_1)) fun t11_8 =>
  BND (grd (isB t9_7 true) (load1 w3 t11_8)) fun t12_9 =>
  BND (grd (isB t9_7 true) (faddr 8 b_2)) fun t13_10 =>
  BND (grd (isB t9_7 true) (load1 w3 t13_10)) fun t14_11 =>
  BND (grd (isB t9_7 true) (binv .int .eql t12_9 t14_11)) fun t15_12 =>
  BND (pickv t9_7 t15_12 (Value.bool false)) fun t16_13 =>
  BND (grd (isB t16_13 true) (faddr 9 a_1)) fun t18_14 =>
  BND (grd (isB t16_13 true) (load1 w3 t18_14)) fun t19_15 =>
  BND (grd (isB t16_13 true) (faddr 9 b_2)) fun t20_16 =>
  BND (grd (isB t16_13 true) (load1 w3 t20_16)) fun t21_17 =>
  BND (grd (isB t16_13 true) (binv .int .eql t19_15 t21_17)) fun t22_18 =>
  BND (pickv t16_13 t22_18 (Value.bool false)) fun t23_19 =>
  R t23_19 w3
def ann_tumbrelref13_Same : List (Nat × List Nat) := []
theorem E_tumbrelref13_Same (a_p0 b_p1 : Value) (w : World) (R : Value → World → Prop) : M_tumbrelref13_Same a_p0 b_p1 w R = den PR ann_tumbrelref13_Same (bodyOf Try.f16) (retQ PR Try.f16.results.toList R) (env0 [a_p0, b_p1]) w := by kernel_rfl
theorem C_tumbrelref13_Same {a_p0 b_p1 : Value} {w : World} {R : Value → World → Prop} (h : M_tumbrelref13_Same a_p0 b_p1 w R) : CALL PR F_tumbrelref13_Same [a_p0, b_p1] w R :=
  call_of_den2 ann_tumbrelref13_Same Try.func16 (by kernel_rfl) (by kernel_rfl) (by kernel_rfl) ((E_tumbrelref13_Same a_p0 b_p1 w R) ▸ h)


-- 17 tumbrel.tumbrelref02.Same
def M_tumbrelref02_Same (a_p0 b_p1 : Value) (w : World) (R : Value → World → Prop) : Prop :=
  BND (lenl a_p0) fun t7_1 =>
  BND (lenl b_p1) fun t9_2 =>
  BND (binv .int .neq t7_1 t9_2) fun t10_3 =>
  COND t10_3
  (R (Value.bool false) w)
  (∃ (J_4 : Value → World → Prop) (m_4 : Value → World → Nat), J_4 (Value.int .i64 0) w ∧ ∀ (_d_4 : Env) (i_6 : Value) (w1 : World), J_4 i_6 w1 →
  (BND (lenl a_p0) fun t13_22 =>
  BND (binv .int .lss i_6 t13_22) fun t14_23 =>
  COND t14_23
  (BND (iaddr 1 a_p0 i_6) fun t19_24 =>
  BND (iaddr 1 b_p1 i_6) fun t23_25 =>
  BND (load1 w1.drew t19_24) fun t20_26 =>
  BND (load1 w1.drew t23_25) fun t24_27 =>
  BND (binv .int .neq t20_26 t24_27) fun t25_28 =>
  COND t25_28
  (R (Value.bool false) w1.drew)
  (BND (binv .int .add i_6 (Value.int .i64 1)) fun t16_29 =>
  (J_4 t16_29 w1.drew ∧ m_4 t16_29 w1.drew < m_4 i_6 w1)))
  (R (Value.bool true) w1)))
def ann_tumbrelref02_Same : List (Nat × List Nat) := [(6, [0, 1, 2, 4, 5, 6, 3, 7, 8]), (1000004, [5])]
theorem E_tumbrelref02_Same (a_p0 b_p1 : Value) (w : World) (R : Value → World → Prop) : M_tumbrelref02_Same a_p0 b_p1 w R = den PR ann_tumbrelref02_Same (bodyOf Try.f17) (retQ PR Try.f17.results.toList R) (env0 [a_p0, b_p1]) w := by kernel_rfl
theorem C_tumbrelref02_Same {a_p0 b_p1 : Value} {w : World} {R : Value → World → Prop} (h : M_tumbrelref02_Same a_p0 b_p1 w R) : CALL PR F_tumbrelref02_Same [a_p0, b_p1] w R :=
  call_of_den2 ann_tumbrelref02_Same Try.func17 (by kernel_rfl) (by kernel_rfl) (by kernel_rfl) ((E_tumbrelref02_Same a_p0 b_p1 w R) ▸ h)


-- 18 tumbrel.snap.Segs
def M_snap_Segs (l_p0 : Value) (w : World) (R : Value → World → Prop) : Prop :=
  BND (lenl l_p0) fun t7_1 =>
  ∃ (J_2 : Value → Value → World → Prop) (m_2 : Value → Value → World → Nat), J_2 (Value.slice none 0 0) (Value.int .i64 0) w ∧ ∀ (_d_2 : Env) (out_3 t8_5 : Value) (w1 : World), J_2 out_3 t8_5 w1 →
  (BND (binv .int .lss t8_5 t7_1) fun t9_16 =>
  COND t9_16
  (BND (iaddr 10 l_p0 t8_5) fun t10_17 =>
  BND (loadn 10 w1 t10_17) fun t11_18 =>
  NEW (newv 69 w1 (Value.agg #[(Value.int .u64 0), (Value.int .i64 0), (Value.int .i64 0), (Value.int .i64 0), (Value.int .u64 0), (Value.int .u64 0), (Value.int .u64 0), (Value.int .u64 0), (Value.int .u64 0), (Value.int .i64 0)])) fun it_19 w2 =>
  BND (storev 10 w2 it_19 t11_18) fun w3 =>
  BND (faddr 7 it_19) fun t13_20 =>
  BND (faddr 0 t13_20) fun t14_21 =>
  BND (load1 w3 t14_21) fun t15_22 =>
  BND (newslice 22 #[(Value.int .u64 0)] 1 1 [(0, 1, t15_22)] w3) fun p_ => NEW p_ fun t16_23 w4 =>
  APPEND 22 1 8 (Value.int .u64 0) out_3 t16_23 w4 fun t17_24 w5 =>
  BND (binv .int .add t8_5 (Value.int .i64 1)) fun t18_25 =>
  (J_2 t17_24 t18_25 w5 ∧ m_2 t17_24 t18_25 w5 < m_2 out_3 t8_5 w1))
  (CALL PR F_slices_Sort_uint64_uint64 [out_3] w1 fun t20_26 w6 =>
  CALL PR F_slices_Compact_uint64_uint64 [out_3] w6 fun t22_27 w7 =>
  R t22_27 w7))
def ann_snap_Segs : List (Nat × List Nat) := [(1000003, [3, 8])]
theorem E_snap_Segs (l_p0 : Value) (w : World) (R : Value → World → Prop) : M_snap_Segs l_p0 w R = den PR ann_snap_Segs (bodyOf Try.f18) (retQ PR Try.f18.results.toList R) (env0 [l_p0]) w := by kernel_rfl
theorem C_snap_Segs {l_p0 : Value} {w : World} {R : Value → World → Prop} (h : M_snap_Segs l_p0 w R) : CALL PR F_snap_Segs [l_p0] w R :=
  call_of_den2 ann_snap_Segs Try.func18 (by kernel_rfl) (by kernel_rfl) (by kernel_rfl) ((E_snap_Segs l_p0 w R) ▸ h)


-- 19 tumbrel.tumbrelref13.Segs
def M_tumbrelref13_Segs (L_p0 : Value) (w : World) (R : Value → World → Prop) : Prop :=
  BND (newslice 22 #[(Value.int .u64 0)] 1 0 [] w) fun p_ => NEW p_ fun o_1 w1 =>
  ∃ (J_2 : Value → Value → World → Prop) (m_2 : Value → Value → World → Nat), J_2 o_1 (Value.int .i64 0) w1 ∧ ∀ (_d_2 : Env) (t_3 t4_4 : Value) (w2 : World), J_2 t_3 t4_4 w2 →
  (BND (lenl L_p0) fun r_65 =>
  BND (binv .int .lss t4_4 r_65) fun a_66 =>
  COND a_66
  (∃ (J_67 : Value → World → Prop) (m_67 : Value → World → Nat), J_67 (Value.int .i64 0) w2 ∧ ∀ (_d_67 : Env) (t_68 : Value) (w3 : World), J_67 t_68 w3 →
  (BND (lenl t_3) fun t15_88 =>
  BND (binv .int .lss t_68 t15_88) fun t16_89 =>
  BND (grd (isB t16_89 true) (some t_3)) fun t18_90 =>
  BND (grd (isB t16_89 true) (some t_68)) fun t19_91 =>
  BND (grd (isB t16_89 true) (iaddr 1 t18_90 t19_91)) fun t20_92 =>
  BND (grd (isB t16_89 true) (some L_p0)) fun t22_93 =>
  BND (grd (isB t16_89 true) (some t4_4)) fun t23_94 =>
  BND (grd (isB t16_89 true) (iaddr 10 t22_93 t23_94)) fun t24_95 =>
  BND (grd (isB t16_89 true) (faddr 7 t24_95)) fun t25_96 =>
  BND (grd (isB t16_89 true) (faddr 0 t25_96)) fun t26_97 =>
  BND (grd (isB t16_89 true) (load1 w3.drew t20_92)) fun t21_98 =>
  BND (grd (isB t16_89 true) (load1 w3.drew t26_97)) fun t27_99 =>
  BND (grd (isB t16_89 true) (binv .int .lss t21_98 t27_99)) fun t28_100 =>
  BND (pickv t16_89 t28_100 (Value.bool false)) fun t29_101 =>
  COND t29_101
  (BND (binv .int .add t_68 (Value.int .i64 1)) fun t31_102 =>
  (J_67 t31_102 w3.drew ∧ m_67 t31_102 w3.drew < m_67 t_68 w3))
  (BND (lenl t_3) fun t34_103 =>
  BND (binv .int .eql t_68 t34_103) fun t35_104 =>
  BND (grd (isB t35_104 false) (some t_3)) fun t37_105 =>
  BND (grd (isB t35_104 false) (some t_68)) fun t38_106 =>
  BND (grd (isB t35_104 false) (iaddr 1 t37_105 t38_106)) fun t39_107 =>
  BND (grd (isB t35_104 false) (some L_p0)) fun t41_108 =>
  BND (grd (isB t35_104 false) (some t4_4)) fun t42_109 =>
  BND (grd (isB t35_104 false) (iaddr 10 t41_108 t42_109)) fun t43_110 =>
  BND (grd (isB t35_104 false) (faddr 7 t43_110)) fun t44_111 =>
  BND (grd (isB t35_104 false) (faddr 0 t44_111)) fun t45_112 =>
  BND (grd (isB t35_104 false) (load1 w3.drew.drew t39_107)) fun t40_113 =>
  BND (grd (isB t35_104 false) (load1 w3.drew.drew t45_112)) fun t46_114 =>
  BND (grd (isB t35_104 false) (binv .int .neq t40_113 t46_114)) fun t47_115 =>
  BND (pickv t35_104 (Value.bool true) t47_115) fun t48_116 =>
  JOIN (α := Value → World → Prop) (fun k_136 => COND t48_116
  (∃ S_137 : Nat → World → Prop,
  S_137 10 w3.drew.drew.drew ∧
  BND (slicev 1 t_3 none (some t_68)) fun t52_138 =>
  BND (iaddr 10 L_p0 t4_4) fun t56_139 =>
  BND (faddr 7 t56_139) fun t57_140 =>
  BND (faddr 0 t57_140) fun t58_141 =>
  FLT (S_137 10) (fun w_ => load1 w_ t58_141) fun t59_142 =>
  BND (slicev 1 t_3 (some t_68) none) fun t64_143 =>
  JOIN (α := Value → World → Prop) (fun k_150 => (BND (newslice 22 #[(Value.int .u64 0)] 1 0 [] w3.drew.drew.drew) fun p_ => NEW p_ fun t49_151 w6 =>
  S_137 10 w6 ∧
  APPEND 22 1 8 (Value.int .u64 0) t49_151 t52_138 w6 fun t53_152 w7 =>
  S_137 10 w7 ∧
  BND (newslice 22 #[(Value.int .u64 0)] 1 1 [(0, 1, t59_142)] w7) fun p_ => NEW p_ fun t60_153 w8 =>
  APPEND 22 1 8 (Value.int .u64 0) t53_152 t60_153 w8 fun t61_154 w9 =>
  APPEND 22 1 8 (Value.int .u64 0) t61_154 t64_143 w9 fun t65_155 w10 =>
  k_150 t65_155 w10) ∧
  (BND (newslice 22 #[(Value.int .u64 0)] 1 0 [] w3.drew.drew.drew) fun p_ => NEW p_ fun t49_156 w11 =>
  S_137 10 w11 ∧
  BND (newslice 22 #[(Value.int .u64 0)] 1 1 [(0, 1, t59_142)] w11) fun p_ => NEW p_ fun t60_157 w12 =>
  APPEND 22 1 8 (Value.int .u64 0) t49_156 t52_138 w12 fun t53_158 w13 =>
  S_137 10 w13 ∧
  APPEND 22 1 8 (Value.int .u64 0) t53_158 t60_157 w13 fun t61_159 w14 =>
  APPEND 22 1 8 (Value.int .u64 0) t61_159 t64_143 w14 fun t65_160 w15 =>
  k_150 t65_160 w15) ∧
  (BND (newslice 22 #[(Value.int .u64 0)] 1 1 [(0, 1, t59_142)] w3.drew.drew.drew) fun p_ => NEW p_ fun t60_161 w16 =>
  BND (newslice 22 #[(Value.int .u64 0)] 1 0 [] w16) fun p_ => NEW p_ fun t49_162 w17 =>
  S_137 10 w17 ∧
  APPEND 22 1 8 (Value.int .u64 0) t49_162 t52_138 w17 fun t53_163 w18 =>
  S_137 10 w18 ∧
  APPEND 22 1 8 (Value.int .u64 0) t53_163 t60_161 w18 fun t61_164 w19 =>
  APPEND 22 1 8 (Value.int .u64 0) t61_164 t64_143 w19 fun t65_165 w20 =>
  k_150 t65_165 w20))
  (fun t_144 w5 => k_136 t_144 w5))
  (k_136 t_3 w3.drew.drew))
  (fun t_117 w4 => BND (binv .int .add t4_4 (Value.int .i64 1)) fun t12_135 =>
  (J_2 t_117 t12_135 w4 ∧ m_2 t_117 t12_135 w4 < m_2 t_3 t4_4 w2)))))
  (R t_3 w2))
def ann_tumbrelref13_Segs : List (Nat × List Nat) := [(6, [0, 1, 2, 3, 4, 5, 6, 7, 9, 10, 11, 12, 13, 8, 14, 15, 16]), (8, [0, 1, 2, 3, 4, 5, 6, 7, 9, 10, 11, 12, 13, 8, 14, 15, 16]), (9, [1, 2, 3, 5, 6, 7, 8, 9, 10, 13, 14, 15]), (1000003, [3, 4]), (1000006, [5]), (2000009, [10]), (3009000, [10]), (3009004, [10]), (4000009, [0, 4, 11]), (5000009, [0, 4, 11, 12, 16, 17, 9999, 0, 11, 4, 12, 16, 17, 9999, 11, 0, 4, 12, 16, 17])]
theorem E_tumbrelref13_Segs (L_p0 : Value) (w : World) (R : Value → World → Prop) : M_tumbrelref13_Segs L_p0 w R = den PR ann_tumbrelref13_Segs (bodyOf Try.f19) (retQ PR Try.f19.results.toList R) (env0 [L_p0]) w := by kernel_rfl
theorem C_tumbrelref13_Segs {L_p0 : Value} {w : World} {R : Value → World → Prop} (h : M_tumbrelref13_Segs L_p0 w R) : CALL PR F_tumbrelref13_Segs [L_p0] w R :=
  call_of_den2 ann_tumbrelref13_Segs Try.func19 (by kernel_rfl) (by kernel_rfl) (by kernel_rfl) ((E_tumbrelref13_Segs L_p0 w R) ▸ h)


-- 20 tumbrel.tumbrellaw13.items
def M_tumbrellaw13_items (l_p0 : Value) (w : World) (R : Value → World → Prop) : Prop :=
  BND (lenl l_p0) fun t7_1 =>
  ∃ (J_2 : Value → Value → World → Prop) (m_2 : Value → Value → World → Nat), J_2 (Value.slice none 0 0) (Value.int .i64 0) w ∧ ∀ (_d_2 : Env) (out_3 t8_5 : Value) (w1 : World), J_2 out_3 t8_5 w1 →
  (BND (binv .int .lss t8_5 t7_1) fun t9_24 =>
  COND t9_24
  (BND (iaddr 10 l_p0 t8_5) fun t10_25 =>
  BND (loadn 10 w1 t10_25) fun t11_26 =>
  NEW (newv 69 w1 (Value.agg #[(Value.int .u64 0), (Value.int .i64 0), (Value.int .i64 0), (Value.int .i64 0), (Value.int .u64 0), (Value.int .u64 0), (Value.int .u64 0), (Value.int .u64 0), (Value.int .u64 0), (Value.int .i64 0)])) fun it_27 w2 =>
  BND (storev 10 w2 it_27 t11_26) fun w3 =>
  BND (faddr 0 it_27) fun t13_28 =>
  BND (load1 w3 t13_28) fun t14_29 =>
  BND (faddr 1 it_27) fun t15_30 =>
  BND (load1 w3 t15_30) fun t16_31 =>
  BND (faddr 2 it_27) fun t17_32 =>
  BND (loadn 4 w3 t17_32) fun t18_33 =>
  BND (faddr 6 it_27) fun t19_34 =>
  BND (load1 w3 t19_34) fun t20_35 =>
  BND (faddr 7 it_27) fun t21_36 =>
  BND (loadn 3 w3 t21_36) fun t22_37 =>
  BND (buildv #[(Value.int .u64 0), (Value.int .i64 0), (Value.int .i64 0), (Value.int .i64 0), (Value.int .u64 0), (Value.int .u64 0), (Value.int .u64 0), (Value.int .u64 0), (Value.int .u64 0), (Value.int .i64 0)] [(0, 1, t14_29), (1, 1, t16_31), (2, 4, t18_33), (6, 1, t20_35), (7, 3, t22_37)]) fun t23_38 =>
  BND (newslice 87 #[(Value.int .u64 0), (Value.int .i64 0), (Value.int .i64 0), (Value.int .i64 0), (Value.int .u64 0), (Value.int .u64 0), (Value.int .u64 0), (Value.int .u64 0), (Value.int .u64 0), (Value.int .i64 0)] 10 1 [(0, 10, t23_38)] w3) fun p_ => NEW p_ fun t24_39 w4 =>
  APPEND 87 10 80 (Value.agg #[(Value.int .u64 0), (Value.int .i64 0), (Value.int .i64 0), (Value.int .i64 0), (Value.int .u64 0), (Value.int .u64 0), (Value.int .u64 0), (Value.int .u64 0), (Value.int .u64 0), (Value.int .i64 0)]) out_3 t24_39 w4 fun t25_40 w5 =>
  BND (binv .int .add t8_5 (Value.int .i64 1)) fun t26_41 =>
  (J_2 t25_40 t26_41 w5 ∧ m_2 t25_40 t26_41 w5 < m_2 out_3 t8_5 w1))
  (R out_3 w1))
def ann_tumbrellaw13_items : List (Nat × List Nat) := [(1000003, [3, 8])]
theorem E_tumbrellaw13_items (l_p0 : Value) (w : World) (R : Value → World → Prop) : M_tumbrellaw13_items l_p0 w R = den PR ann_tumbrellaw13_items (bodyOf Try.f20) (retQ PR Try.f20.results.toList R) (env0 [l_p0]) w := by kernel_rfl
theorem C_tumbrellaw13_items {l_p0 : Value} {w : World} {R : Value → World → Prop} (h : M_tumbrellaw13_items l_p0 w R) : CALL PR F_tumbrellaw13_items [l_p0] w R :=
  call_of_den2 ann_tumbrellaw13_items Try.func20 (by kernel_rfl) (by kernel_rfl) (by kernel_rfl) ((E_tumbrellaw13_items l_p0 w R) ▸ h)


-- 21 tumbrel.tumbrelref05.Large
def M_tumbrelref05_Large (r_p0 : Value) (w : World) (R : Value → World → Prop) : Prop :=
  NEW (newv 71 w r_p0) fun r_1 w1 =>
  BND (faddr 1 r_1) fun t3_2 =>
  BND (load1 w1 t3_2) fun t4_3 =>
  BND (lenl t4_3) fun t5_4 =>
  BND (binv .int .gtr t5_4 (Value.int .i64 100)) fun t6_5 =>
  BND (grd (isB t6_5 false) (faddr 2 r_1)) fun t8_6 =>
  BND (grd (isB t6_5 false) (load1 w1 t8_6)) fun t9_7 =>
  BND (grd (isB t6_5 false) (lens t9_7)) fun t10_8 =>
  BND (grd (isB t6_5 false) (binv .int .gtr t10_8 (Value.int .i64 300))) fun t11_9 =>
  BND (pickv t6_5 (Value.bool true) t11_9) fun t12_10 =>
  R t12_10 w1
def ann_tumbrelref05_Large : List (Nat × List Nat) := []
theorem E_tumbrelref05_Large (r_p0 : Value) (w : World) (R : Value → World → Prop) : M_tumbrelref05_Large r_p0 w R = den PR ann_tumbrelref05_Large (bodyOf Try.f21) (retQ PR Try.f21.results.toList R) (env0 [r_p0]) w := by kernel_rfl
theorem C_tumbrelref05_Large {r_p0 : Value} {w : World} {R : Value → World → Prop} (h : M_tumbrelref05_Large r_p0 w R) : CALL PR F_tumbrelref05_Large [r_p0] w R :=
  call_of_den2 ann_tumbrelref05_Large Try.func21 (by kernel_rfl) (by kernel_rfl) (by kernel_rfl) ((E_tumbrelref05_Large r_p0 w R) ▸ h)


-- 22 (*tumbrel.snap.writer).put
def M_snap_writer_put (w_p0 kind_p1 text_p2 n_p3 : Value) (w : World) (R : Value → World → Prop) : Prop :=
  BND (buildv #[(Value.int .i64 0), (Value.slice none 0 0), (Value.string ByteArray.empty)] [(0, 1, kind_p1), (1, 1, n_p3), (2, 1, text_p2)]) fun t12_1 =>
  NEW (newv 62 w (Value.agg #[(Value.int .i64 0), (Value.slice none 0 0), (Value.string ByteArray.empty)])) fun r_2 w1 =>
  BND (storev 3 w1 r_2 t12_1) fun w2 =>
  BND (nilchk w_p0) fun t15_3 =>
  BND (faddr 1 t15_3) fun t16_4 =>
  BND (load1 w2 t16_4) fun t17_5 =>
  BND (grd (isB t17_5 false) (loadn 3 w2 r_2)) fun t19_6 =>
  GEF (isB t17_5 false) (fun k_ => CALL PR F_record_Right [t19_6] w2 k_) w2 fun t20_7 w3 =>
  BND (grd (isB t17_5 false) (unv .not t20_7)) fun t21_8 =>
  BND (pickv t17_5 (Value.bool true) t21_8) fun t22_9 =>
  BND (nilchk w_p0) fun t23_10 =>
  BND (faddr 1 t23_10) fun t24_11 =>
  BND (storev 1 w3 t24_11 t22_9) fun w4 =>
  ∃ S_12 : Nat → World → Prop,
  S_12 4 w4.drew ∧
  BND (nilchk w_p0) fun t27_13 =>
  BND (faddr 0 t27_13) fun t28_14 =>
  FLT (S_12 4) (fun w_ => load1 w_ t28_14) fun t29_15 =>
  BND (loadn 3 w4.drew r_2) fun t30_16 =>
  BND (newslice 62 #[(Value.int .i64 0), (Value.slice none 0 0), (Value.string ByteArray.empty)] 3 1 [(0, 3, t30_16)] w4.drew) fun p_ => NEW p_ fun t31_17 w5 =>
  S_12 4 w5 ∧
  APPEND 62 3 48 (Value.agg #[(Value.int .i64 0), (Value.slice none 0 0), (Value.string ByteArray.empty)]) t29_15 t31_17 w5 fun t32_18 w6 =>
  BND (nilchk w_p0) fun t33_19 =>
  BND (faddr 0 t33_19) fun t34_20 =>
  BND (storev 1 w6 t34_20 t32_18) fun w7 =>
  R (.tuple #[]) w7
def ann_snap_writer_put : List (Nat × List Nat) := [(2, [0, 1, 2, 3, 4, 5, 6, 7, 8, 9, 10]), (2000002, [4]), (3002006, [4])]
theorem E_snap_writer_put (w_p0 kind_p1 text_p2 n_p3 : Value) (w : World) (R : Value → World → Prop) : M_snap_writer_put w_p0 kind_p1 text_p2 n_p3 w R = den PR ann_snap_writer_put (bodyOf Try.f22) (retQ PR Try.f22.results.toList R) (env0 [w_p0, kind_p1, text_p2, n_p3]) w := by kernel_rfl
theorem C_snap_writer_put {w_p0 kind_p1 text_p2 n_p3 : Value} {w : World} {R : Value → World → Prop} (h : M_snap_writer_put w_p0 kind_p1 text_p2 n_p3 w R) : CALL PR F_snap_writer_put [w_p0, kind_p1, text_p2, n_p3] w R :=
  call_of_den2 ann_snap_writer_put Try.func22 (by kernel_rfl) (by kernel_rfl) (by kernel_rfl) ((E_snap_writer_put w_p0 kind_p1 text_p2 n_p3 w R) ▸ h)


-- 23 (*tumbrel.snap.writer).small
def M_snap_writer_small (w_p0 n_p1 : Value) (w : World) (R : Value → World → Prop) : Prop :=
  BND (nilchk w_p0) fun t7_1 =>
  BND (faddr 1 t7_1) fun t8_2 =>
  BND (load1 w t8_2) fun t9_3 =>
  BND (grd (isB t9_3 false) (some n_p1)) fun t11_4 =>
  BND (grd (isB t9_3 false) (binv .int .lss t11_4 (Value.int .i64 0))) fun t12_5 =>
  BND (pickv t9_3 (Value.bool true) t12_5) fun t13_6 =>
  BND (grd (isB t13_6 false) (some n_p1)) fun t15_7 =>
  BND (grd (isB t13_6 false) (binv .int .gtr t15_7 (Value.int .i64 1000))) fun t16_8 =>
  BND (pickv t13_6 (Value.bool true) t16_8) fun t17_9 =>
  BND (nilchk w_p0) fun t18_10 =>
  BND (faddr 1 t18_10) fun t19_11 =>
  BND (storev 1 w t19_11 t17_9) fun w1 =>
  BND (convi .u64 n_p1) fun t21_12 =>
  R t21_12 w1
def ann_snap_writer_small : List (Nat × List Nat) := []
theorem E_snap_writer_small (w_p0 n_p1 : Value) (w : World) (R : Value → World → Prop) : M_snap_writer_small w_p0 n_p1 w R = den PR ann_snap_writer_small (bodyOf Try.f23) (retQ PR Try.f23.results.toList R) (env0 [w_p0, n_p1]) w := by kernel_rfl
theorem C_snap_writer_small {w_p0 n_p1 : Value} {w : World} {R : Value → World → Prop} (h : M_snap_writer_small w_p0 n_p1 w R) : CALL PR F_snap_writer_small [w_p0, n_p1] w R :=
  call_of_den2 ann_snap_writer_small Try.func23 (by kernel_rfl) (by kernel_rfl) (by kernel_rfl) ((E_snap_writer_small w_p0 n_p1 w R) ▸ h)


-- 24 tumbrel.tumbrelref13.small
def M_tumbrelref13_small (n_p0 : Value) (w : World) (R : Value → World → Prop) : Prop :=
  BND (binv .int .geq n_p0 (Value.int .i64 0)) fun t4_1 =>
  BND (grd (isB t4_1 true) (some n_p0)) fun t6_2 =>
  BND (grd (isB t4_1 true) (binv .int .leq t6_2 (Value.int .i64 1000))) fun t7_3 =>
  BND (pickv t4_1 t7_3 (Value.bool false)) fun t8_4 =>
  R t8_4 w
def ann_tumbrelref13_small : List (Nat × List Nat) := []
theorem E_tumbrelref13_small (n_p0 : Value) (w : World) (R : Value → World → Prop) : M_tumbrelref13_small n_p0 w R = den PR ann_tumbrelref13_small (bodyOf Try.f24) (retQ PR Try.f24.results.toList R) (env0 [n_p0]) w := by kernel_rfl
theorem C_tumbrelref13_small {n_p0 : Value} {w : World} {R : Value → World → Prop} (h : M_tumbrelref13_small n_p0 w R) : CALL PR F_tumbrelref13_small [n_p0] w R :=
  call_of_den2 ann_tumbrelref13_small Try.func24 (by kernel_rfl) (by kernel_rfl) (by kernel_rfl) ((E_tumbrelref13_small n_p0 w R) ▸ h)


-- 25 slices.ContainsFunc[[]tumbrel.record.Record,tumbrel.record.Record]
def M_slices_ContainsFunc_record_Record_record_Record (s_p0 f_p1 : Value) (w : World) (R : Value → World → Prop) : Prop :=
  CALL PR F_slices_IndexFunc_record_Record_record_Record [s_p0, f_p1] w fun t7_1 w1 =>
  BND (binv .int .geq t7_1 (Value.int .i64 0)) fun t8_2 =>
  R t8_2 w1
def ann_slices_ContainsFunc_record_Record_record_Record : List (Nat × List Nat) := []
theorem E_slices_ContainsFunc_record_Record_record_Record (s_p0 f_p1 : Value) (w : World) (R : Value → World → Prop) : M_slices_ContainsFunc_record_Record_record_Record s_p0 f_p1 w R = den PR ann_slices_ContainsFunc_record_Record_record_Record (bodyOf Try.f25) (retQ PR Try.f25.results.toList R) (env0 [s_p0, f_p1]) w := by kernel_rfl
theorem C_slices_ContainsFunc_record_Record_record_Record {s_p0 f_p1 : Value} {w : World} {R : Value → World → Prop} (h : M_slices_ContainsFunc_record_Record_record_Record s_p0 f_p1 w R) : CALL PR F_slices_ContainsFunc_record_Record_record_Record [s_p0, f_p1] w R :=
  call_of_den2 ann_slices_ContainsFunc_record_Record_record_Record Try.func25 (by kernel_rfl) (by kernel_rfl) (by kernel_rfl) ((E_slices_ContainsFunc_record_Record_record_Record s_p0 f_p1 w R) ▸ h)


-- 26 tumbrel.snap.Load$1
def M_snap_Load_1 (r_p0 : Value) (w : World) (R : Value → World → Prop) : Prop :=
  NEW (newv 62 w r_p0) fun r_1 w1 =>
  BND (loadn 3 w1 r_1) fun t3_2 =>
  CALL PR F_record_Right [t3_2] w1 fun t4_3 w2 =>
  BND (unv .not t4_3) fun t5_4 =>
  R t5_4 w2
def ann_snap_Load_1 : List (Nat × List Nat) := []
theorem E_snap_Load_1 (r_p0 : Value) (w : World) (R : Value → World → Prop) : M_snap_Load_1 r_p0 w R = den PR ann_snap_Load_1 (bodyOf Try.f26) (retQ PR Try.f26.results.toList R) (env0 [r_p0]) w := by kernel_rfl
theorem C_snap_Load_1 {r_p0 : Value} {w : World} {R : Value → World → Prop} (h : M_snap_Load_1 r_p0 w R) : CALL PR F_snap_Load_1 [r_p0] w R :=
  call_of_den2 ann_snap_Load_1 Try.func26 (by kernel_rfl) (by kernel_rfl) (by kernel_rfl) ((E_snap_Load_1 r_p0 w R) ▸ h)


-- 27 tumbrel.record.Right
def M_record_Right (r_p0 : Value) (w : World) (R : Value → World → Prop) : Prop :=
  NEW (newv 62 w r_p0) fun r_1 w1 =>
  ∃ S_2 : Nat → World → Prop,
  S_2 5 w1.drew ∧
  S_2 9 w1.drew ∧
  BND (faddr 0 r_1) fun t3_3 =>
  BND (load1 w1.drew t3_3) fun t4_4 =>
  CALL PR F_record_known [t4_4] w1.drew fun t5_5 w2 =>
  S_2 5 w2 ∧
  S_2 9 w2 ∧
  BND (grd (isB t5_5 true) (faddr 1 r_1)) fun t7_6 =>
  FLT (S_2 5) (fun w_ => (grd (isB t5_5 true) (load1 w_ t7_6))) fun t8_7 =>
  BND (grd (isB t5_5 true) (lenl t8_7)) fun t9_8 =>
  BND (grd (isB t5_5 true) (faddr 0 r_1)) fun t11_9 =>
  FLT (S_2 9) (fun w_ => (grd (isB t5_5 true) (load1 w_ t11_9))) fun t12_10 =>
  GEF (isB t5_5 true) (fun k_ => CALL PR F_record_numbers [] w2 k_) w2 fun t10_11 w3 =>
  S_2 5 w3 ∧
  S_2 9 w3 ∧
  BND (grd (isB t5_5 true) (indexav false 18 1 t10_11 t12_10)) fun t13_12 =>
  BND (grd (isB t5_5 true) (binv .int .eql t9_8 t13_12)) fun t14_13 =>
  BND (pickv t5_5 t14_13 (Value.bool false)) fun t15_14 =>
  BND (grd (isB t15_14 true) (faddr 0 r_1)) fun t17_15 =>
  BND (grd (isB t15_14 true) (faddr 2 r_1)) fun t19_16 =>
  BND (grd (isB t15_14 true) (load1 w3 t17_15)) fun t18_17 =>
  BND (grd (isB t15_14 true) (load1 w3 t19_16)) fun t20_18 =>
  BND (grd (isB t15_14 true) (lens t20_18)) fun t21_19 =>
  GEF (isB t15_14 true) (fun k_ => CALL PR F_record_fits [t18_17, t21_19] w3 k_) w3 fun t22_20 w4 =>
  BND (pickv t15_14 t22_20 (Value.bool false)) fun t23_21 =>
  R t23_21 w4
def ann_record_Right : List (Nat × List Nat) := [(1, [0, 1, 2, 3, 4, 5, 6, 8, 9, 7, 10, 11, 12, 13, 14, 16, 15, 17, 18, 19, 20, 21]), (2000001, [5, 9]), (3001002, [5, 9]), (3001007, [5, 9])]
theorem E_record_Right (r_p0 : Value) (w : World) (R : Value → World → Prop) : M_record_Right r_p0 w R = den PR ann_record_Right (bodyOf Try.f27) (retQ PR Try.f27.results.toList R) (env0 [r_p0]) w := by kernel_rfl
theorem C_record_Right {r_p0 : Value} {w : World} {R : Value → World → Prop} (h : M_record_Right r_p0 w R) : CALL PR F_record_Right [r_p0] w R :=
  call_of_den2 ann_record_Right Try.func27 (by kernel_rfl) (by kernel_rfl) (by kernel_rfl) ((E_record_Right r_p0 w R) ▸ h)


-- 28 tumbrel.snap.item
def M_snap_item (n_p0 : Value) (w : World) (R : Value → World → Prop) : Prop :=
  NEW (newv 69 w (Value.agg #[(Value.int .u64 0), (Value.int .i64 0), (Value.int .i64 0), (Value.int .i64 0), (Value.int .u64 0), (Value.int .u64 0), (Value.int .u64 0), (Value.int .u64 0), (Value.int .u64 0), (Value.int .i64 0)])) fun t2_1 w1 =>
  BND (iaddr 1 n_p0 (Value.int .i64 0)) fun t4_2 =>
  BND (iaddr 1 n_p0 (Value.int .i64 1)) fun t7_3 =>
  BND (iaddr 1 n_p0 (Value.int .i64 2)) fun t11_4 =>
  BND (iaddr 1 n_p0 (Value.int .i64 3)) fun t15_5 =>
  BND (iaddr 1 n_p0 (Value.int .i64 4)) fun t19_6 =>
  BND (iaddr 1 n_p0 (Value.int .i64 5)) fun t22_7 =>
  BND (iaddr 1 n_p0 (Value.int .i64 6)) fun t26_8 =>
  BND (iaddr 1 n_p0 (Value.int .i64 7)) fun t29_9 =>
  BND (iaddr 1 n_p0 (Value.int .i64 8)) fun t32_10 =>
  BND (iaddr 1 n_p0 (Value.int .i64 9)) fun t35_11 =>
  BND (load1 w1.drew t4_2) fun t5_12 =>
  BND (load1 w1.drew t7_3) fun t8_13 =>
  BND (convi .i64 t8_13) fun t9_14 =>
  BND (load1 w1.drew t11_4) fun t12_15 =>
  BND (convi .i64 t12_15) fun t13_16 =>
  BND (load1 w1.drew t15_5) fun t16_17 =>
  BND (convi .i64 t16_17) fun t17_18 =>
  BND (load1 w1.drew t19_6) fun t20_19 =>
  BND (load1 w1.drew t22_7) fun t23_20 =>
  BND (buildv #[(Value.int .i64 0), (Value.int .i64 0), (Value.int .u64 0), (Value.int .u64 0)] [(0, 1, t13_16), (1, 1, t17_18), (2, 1, t20_19), (3, 1, t23_20)]) fun t24_21 =>
  BND (load1 w1.drew t26_8) fun t27_22 =>
  BND (load1 w1.drew t29_9) fun t30_23 =>
  BND (load1 w1.drew t32_10) fun t33_24 =>
  BND (load1 w1.drew t35_11) fun t36_25 =>
  BND (convi .i64 t36_25) fun t37_26 =>
  BND (buildv #[(Value.int .u64 0), (Value.int .u64 0), (Value.int .i64 0)] [(0, 1, t30_23), (1, 1, t33_24), (2, 1, t37_26)]) fun t38_27 =>
  BND (buildv #[(Value.int .u64 0), (Value.int .i64 0), (Value.int .i64 0), (Value.int .i64 0), (Value.int .u64 0), (Value.int .u64 0), (Value.int .u64 0), (Value.int .u64 0), (Value.int .u64 0), (Value.int .i64 0)] [(0, 1, t5_12), (1, 1, t9_14), (2, 4, t24_21), (6, 1, t27_22), (7, 3, t38_27)]) fun t39_28 =>
  BND (storev 10 w1.drew t2_1 t39_28) fun w2 =>
  BND (loadn 10 w2 t2_1) fun r_29 =>
  R r_29 w2
def ann_snap_item : List (Nat × List Nat) := [(1, [0, 1, 3, 4, 7, 8, 11, 12, 15, 16, 18, 19, 22, 23, 25, 26, 28, 29, 31, 32, 2, 5, 6, 9, 10, 13, 14, 17, 20, 21, 24, 27, 30, 33, 34, 35, 36, 37])]
theorem E_snap_item (n_p0 : Value) (w : World) (R : Value → World → Prop) : M_snap_item n_p0 w R = den PR ann_snap_item (bodyOf Try.f28) (retQ PR Try.f28.results.toList R) (env0 [n_p0]) w := by kernel_rfl
theorem C_snap_item {n_p0 : Value} {w : World} {R : Value → World → Prop} (h : M_snap_item n_p0 w R) : CALL PR F_snap_item [n_p0] w R :=
  call_of_den2 ann_snap_item Try.func28 (by kernel_rfl) (by kernel_rfl) (by kernel_rfl) ((E_snap_item n_p0 w R) ▸ h)


-- 29 slices.EqualFunc[[]tumbrel.record.Record,[]tumbrel.record.Record,tumbrel.record.Record,tumbrel.record.Record]
def M_slices_EqualFunc_record_Record_record_Record_record_Record_record_Record (s1_p0 s2_p1 eq_p2 : Value) (w : World) (R : Value → World → Prop) : Prop :=
  BND (lenl s1_p0) fun t11_1 =>
  BND (lenl s2_p1) fun t13_2 =>
  BND (binv .int .neq t11_1 t13_2) fun t14_3 =>
  COND t14_3
  (R (Value.bool false) w)
  (BND (lenl s1_p0) fun t16_4 =>
  ∃ (J_5 : Value → World → Prop) (m_5 : Value → World → Nat), J_5 (Value.int .i64 0) w ∧ ∀ (_d_5 : Env) (t17_10 : Value) (w1 : World), J_5 t17_10 w1 →
  (BND (binv .int .lss t17_10 t16_4) fun t18_25 =>
  COND t18_25
  (BND (iaddr 3 s1_p0 t17_10) fun t20_26 =>
  BND (loadn 3 w1 t20_26) fun t21_27 =>
  NEW (newv 62 w1 (Value.agg #[(Value.int .i64 0), (Value.slice none 0 0), (Value.string ByteArray.empty)])) fun v1_28 w2 =>
  BND (storev 3 w2 v1_28 t21_27) fun w3 =>
  BND (iaddr 3 s2_p1 t17_10) fun t24_29 =>
  BND (loadn 3 w3 t24_29) fun t25_30 =>
  NEW (newv 62 w3 (Value.agg #[(Value.int .i64 0), (Value.slice none 0 0), (Value.string ByteArray.empty)])) fun v2_31 w4 =>
  BND (storev 3 w4 v2_31 t25_30) fun w5 =>
  BND (loadn 3 w5 v1_28) fun t27_32 =>
  BND (loadn 3 w5 v2_31) fun t28_33 =>
  CALLV PR eq_p2 [t27_32, t28_33] w5 fun t29_34 w6 =>
  BND (unv .not t29_34) fun t30_35 =>
  COND t30_35
  (R (Value.bool false) w6)
  (BND (binv .int .add t17_10 (Value.int .i64 1)) fun t31_36 =>
  (J_5 t31_36 w6 ∧ m_5 t31_36 w6 < m_5 t17_10 w1)))
  (R (Value.bool true) w1)))
def ann_slices_EqualFunc_record_Record_record_Record_record_Record_record_Record : List (Nat × List Nat) := [(1000004, [17])]
theorem E_slices_EqualFunc_record_Record_record_Record_record_Record_record_Record (s1_p0 s2_p1 eq_p2 : Value) (w : World) (R : Value → World → Prop) : M_slices_EqualFunc_record_Record_record_Record_record_Record_record_Record s1_p0 s2_p1 eq_p2 w R = den PR ann_slices_EqualFunc_record_Record_record_Record_record_Record_record_Record (bodyOf Try.f29) (retQ PR Try.f29.results.toList R) (env0 [s1_p0, s2_p1, eq_p2]) w := by kernel_rfl
theorem C_slices_EqualFunc_record_Record_record_Record_record_Record_record_Record {s1_p0 s2_p1 eq_p2 : Value} {w : World} {R : Value → World → Prop} (h : M_slices_EqualFunc_record_Record_record_Record_record_Record_record_Record s1_p0 s2_p1 eq_p2 w R) : CALL PR F_slices_EqualFunc_record_Record_record_Record_record_Record_record_Record [s1_p0, s2_p1, eq_p2] w R :=
  call_of_den2 ann_slices_EqualFunc_record_Record_record_Record_record_Record_record_Record Try.func29 (by kernel_rfl) (by kernel_rfl) (by kernel_rfl) ((E_slices_EqualFunc_record_Record_record_Record_record_Record_record_Record s1_p0 s2_p1 eq_p2 w R) ▸ h)


-- 30 tumbrel.record.Same
def M_record_Same (a_p0 b_p1 : Value) (w : World) (R : Value → World → Prop) : Prop :=
  NEW (newv 62 w a_p0) fun a_1 w1 =>
  NEW (newv 62 w1 b_p1) fun b_2 w2 =>
  BND (faddr 0 a_1) fun t5_3 =>
  BND (load1 w2 t5_3) fun t6_4 =>
  BND (faddr 0 b_2) fun t7_5 =>
  BND (load1 w2 t7_5) fun t8_6 =>
  BND (binv .int .eql t6_4 t8_6) fun t9_7 =>
  BND (grd (isB t9_7 true) (faddr 1 a_1)) fun t11_8 =>
  BND (grd (isB t9_7 true) (load1 w2 t11_8)) fun t12_9 =>
  BND (grd (isB t9_7 true) (faddr 1 b_2)) fun t13_10 =>
  BND (grd (isB t9_7 true) (load1 w2 t13_10)) fun t14_11 =>
  GEF (isB t9_7 true) (fun k_ => CALL PR F_slices_Equal_uint64_uint64 [t12_9, t14_11] w2 k_) w2 fun t15_12 w3 =>
  BND (pickv t9_7 t15_12 (Value.bool false)) fun t16_13 =>
  BND (grd (isB t16_13 true) (faddr 2 a_1)) fun t18_14 =>
  BND (grd (isB t16_13 true) (load1 w3 t18_14)) fun t19_15 =>
  BND (grd (isB t16_13 true) (faddr 2 b_2)) fun t20_16 =>
  BND (grd (isB t16_13 true) (load1 w3 t20_16)) fun t21_17 =>
  BND (grd (isB t16_13 true) (binv .str .eql t19_15 t21_17)) fun t22_18 =>
  BND (pickv t16_13 t22_18 (Value.bool false)) fun t23_19 =>
  R t23_19 w3
def ann_record_Same : List (Nat × List Nat) := []
theorem E_record_Same (a_p0 b_p1 : Value) (w : World) (R : Value → World → Prop) : M_record_Same a_p0 b_p1 w R = den PR ann_record_Same (bodyOf Try.f30) (retQ PR Try.f30.results.toList R) (env0 [a_p0, b_p1]) w := by kernel_rfl
theorem C_record_Same {a_p0 b_p1 : Value} {w : World} {R : Value → World → Prop} (h : M_record_Same a_p0 b_p1 w R) : CALL PR F_record_Same [a_p0, b_p1] w R :=
  call_of_den2 ann_record_Same Try.func30 (by kernel_rfl) (by kernel_rfl) (by kernel_rfl) ((E_record_Same a_p0 b_p1 w R) ▸ h)


-- 31 tumbrel.tumbrelref05.Right
def M_tumbrelref05_Right (r_p0 : Value) (w : World) (R : Value → World → Prop) : Prop :=
  NEW (newv 71 w r_p0) fun r_1 w1 =>
  ∃ S_2 : Nat → World → Prop,
  S_2 6 w1.drew ∧
  BND (faddr 0 r_1) fun t3_3 =>
  BND (load1 w1.drew t3_3) fun t4_4 =>
  CALL PR F_tumbrelref05_many [t4_4] w1.drew fun t5_5 w2 =>
  S_2 6 w2 ∧
  BND (binv .int .geq t5_5 (Value.int .i64 0)) fun t6_6 =>
  BND (grd (isB t6_6 true) (faddr 1 r_1)) fun t8_7 =>
  FLT (S_2 6) (fun w_ => (grd (isB t6_6 true) (load1 w_ t8_7))) fun t9_8 =>
  BND (grd (isB t6_6 true) (lenl t9_8)) fun t10_9 =>
  BND (grd (isB t6_6 true) (faddr 0 r_1)) fun t11_10 =>
  BND (grd (isB t6_6 true) (load1 w2 t11_10)) fun t12_11 =>
  GEF (isB t6_6 true) (fun k_ => CALL PR F_tumbrelref05_many [t12_11] w2 k_) w2 fun t13_12 w3 =>
  S_2 6 w3 ∧
  BND (grd (isB t6_6 true) (binv .int .eql t10_9 t13_12)) fun t14_13 =>
  BND (pickv t6_6 t14_13 (Value.bool false)) fun t15_14 =>
  BND (grd (isB t15_14 true) (faddr 0 r_1)) fun t17_15 =>
  BND (grd (isB t15_14 true) (faddr 2 r_1)) fun t19_16 =>
  BND (grd (isB t15_14 true) (load1 w3 t17_15)) fun t18_17 =>
  BND (grd (isB t15_14 true) (load1 w3 t19_16)) fun t20_18 =>
  BND (grd (isB t15_14 true) (lens t20_18)) fun t21_19 =>
  GEF (isB t15_14 true) (fun k_ => CALL PR F_tumbrelref05_texts [t18_17, t21_19] w3 k_) w3 fun t22_20 w4 =>
  BND (pickv t15_14 t22_20 (Value.bool false)) fun t23_21 =>
  R t23_21 w4
def ann_tumbrelref05_Right : List (Nat × List Nat) := [(1, [0, 1, 2, 3, 4, 5, 6, 7, 8, 9, 10, 11, 12, 13, 14, 16, 15, 17, 18, 19, 20, 21]), (2000001, [6]), (3001002, [6]), (3001010, [6])]
theorem E_tumbrelref05_Right (r_p0 : Value) (w : World) (R : Value → World → Prop) : M_tumbrelref05_Right r_p0 w R = den PR ann_tumbrelref05_Right (bodyOf Try.f31) (retQ PR Try.f31.results.toList R) (env0 [r_p0]) w := by kernel_rfl
theorem C_tumbrelref05_Right {r_p0 : Value} {w : World} {R : Value → World → Prop} (h : M_tumbrelref05_Right r_p0 w R) : CALL PR F_tumbrelref05_Right [r_p0] w R :=
  call_of_den2 ann_tumbrelref05_Right Try.func31 (by kernel_rfl) (by kernel_rfl) (by kernel_rfl) ((E_tumbrelref05_Right r_p0 w R) ▸ h)


-- 32 tumbrel.tumbrelref11.Same
def M_tumbrelref11_Same (L_p0 i_p1 : Value) (w : World) (R : Value → World → Prop) : Prop :=
  NEW (newv 37 w L_p0) fun s_1 w1 =>
  NEW (newv 37 w1 i_p1) fun t_2 w2 =>
  BND (faddr 0 s_1) fun o_3 =>
  BND (load1 w2 o_3) fun A_4 =>
  BND (faddr 0 t_2) fun r_5 =>
  BND (load1 w2 r_5) fun r_6 =>
  BND (binv .int .neq A_4 r_6) fun a_7 =>
  BND (grd (isB a_7 false) (faddr 1 s_1)) fun t12_8 =>
  BND (grd (isB a_7 false) (load1 w2 t12_8)) fun t13_9 =>
  BND (grd (isB a_7 false) (faddr 1 t_2)) fun t14_10 =>
  BND (grd (isB a_7 false) (load1 w2 t14_10)) fun t15_11 =>
  BND (grd (isB a_7 false) (binv .int .neq t13_9 t15_11)) fun t16_12 =>
  BND (pickv a_7 (Value.bool true) t16_12) fun t17_13 =>
  BND (grd (isB t17_13 false) (faddr 2 s_1)) fun t19_14 =>
  BND (grd (isB t17_13 false) (load1 w2 t19_14)) fun t20_15 =>
  BND (grd (isB t17_13 false) (faddr 2 t_2)) fun t21_16 =>
  BND (grd (isB t17_13 false) (load1 w2 t21_16)) fun t22_17 =>
  BND (grd (isB t17_13 false) (binv .int .neq t20_15 t22_17)) fun t23_18 =>
  BND (pickv t17_13 (Value.bool true) t23_18) fun t24_19 =>
  BND (grd (isB t24_19 false) (faddr 3 s_1)) fun t26_20 =>
  BND (grd (isB t24_19 false) (load1 w2 t26_20)) fun t27_21 =>
  BND (grd (isB t24_19 false) (faddr 3 t_2)) fun t28_22 =>
  BND (grd (isB t24_19 false) (load1 w2 t28_22)) fun t29_23 =>
  BND (grd (isB t24_19 false) (binv .int .neq t27_21 t29_23)) fun t30_24 =>
  BND (pickv t24_19 (Value.bool true) t30_24) fun t31_25 =>
  BND (grd (isB t31_25 false) (faddr 4 s_1)) fun t33_26 =>
  BND (grd (isB t31_25 false) (load1 w2 t33_26)) fun t34_27 =>
  BND (grd (isB t31_25 false) (faddr 4 t_2)) fun t35_28 =>
  BND (grd (isB t31_25 false) (load1 w2 t35_28)) fun t36_29 =>
  BND (grd (isB t31_25 false) (binv .int .neq t34_27 t36_29)) fun t37_30 =>
  BND (pickv t31_25 (Value.bool true) t37_30) fun t38_31 =>
  BND (grd (isB t38_31 false) (faddr 5 s_1)) fun t40_32 =>
  BND (grd (isB t38_31 false) (load1 w2 t40_32)) fun t41_33 =>
  BND (grd (isB t38_31 false) (lenl t41_33)) fun t42_34 =>
  BND (grd (isB t38_31 false) (faddr 5 t_2)) fun t43_35 =>
  BND (grd (isB t38_31 false) (load1 w2 t43_35)) fun t44_36 =>
  BND (grd (isB t38_31 false) (lenl t44_36)) fun t45_37 =>
  BND (grd (isB t38_31 false) (binv .int .neq t42_34 t45_37)) fun t46_38 =>
  BND (pickv t38_31 (Value.bool true) t46_38) fun t47_39 =>
  COND t47_39
  (R (Value.bool false) w2)
  (∃ (J_40 : Value → World → Prop) (m_40 : Value → World → Nat), J_40 (Value.int .i64 0) w2 ∧ ∀ (_d_40 : Env) (t_42 : Value) (w3 : World), J_40 t_42 w3 →
  (BND (faddr 5 s_1) fun t49_61 =>
  BND (load1 w3 t49_61) fun t50_62 =>
  BND (lenl t50_62) fun t51_63 =>
  BND (binv .int .lss t_42 t51_63) fun t52_64 =>
  COND t52_64
  (BND (faddr 5 s_1) fun t55_65 =>
  BND (faddr 5 t_2) fun t60_66 =>
  BND (load1 w3.drew t55_65) fun t56_67 =>
  BND (iaddr 10 t56_67 t_42) fun t58_68 =>
  BND (loadn 10 w3.drew t58_68) fun t59_69 =>
  BND (load1 w3.drew t60_66) fun t61_70 =>
  BND (iaddr 10 t61_70 t_42) fun t63_71 =>
  BND (loadn 10 w3.drew t63_71) fun t64_72 =>
  BND (eqaggv [(0, (.int .u64)), (1, (.int .i64)), (2, (.int .i64)), (3, (.int .i64)), (4, (.int .u64)), (5, (.int .u64)), (6, (.int .u64)), (7, (.int .u64)), (8, (.int .u64)), (9, (.int .i64))] .neq t59_69 t64_72) fun t65_73 =>
  COND t65_73
  (R (Value.bool false) w3.drew)
  (BND (binv .int .add t_42 (Value.int .i64 1)) fun t54_74 =>
  (J_40 t54_74 w3.drew ∧ m_40 t54_74 w3.drew < m_40 t_42 w3)))
  (BND (faddr 6 s_1) fun t66_75 =>
  BND (load1 w3 t66_75) fun t67_76 =>
  BND (faddr 6 t_2) fun t68_77 =>
  BND (load1 w3 t68_77) fun t69_78 =>
  CALL PR F_tumbrelref10_Rows [t67_76, t69_78] w3 fun t70_79 w4 =>
  BND (grd (isB t70_79 true) (faddr 7 s_1)) fun t72_80 =>
  BND (grd (isB t70_79 true) (load1 w4 t72_80)) fun t73_81 =>
  BND (grd (isB t70_79 true) (faddr 7 t_2)) fun t74_82 =>
  BND (grd (isB t70_79 true) (load1 w4 t74_82)) fun t75_83 =>
  GEF (isB t70_79 true) (fun k_ => CALL PR F_tumbrelref10_Cursors [t73_81, t75_83] w4 k_) w4 fun t76_84 w5 =>
  BND (pickv t70_79 t76_84 (Value.bool false)) fun t77_85 =>
  R t77_85 w5)))
def ann_tumbrelref11_Same : List (Nat × List Nat) := [(6, [0, 2, 5, 7, 1, 3, 4, 6, 8, 9, 10]), (1000004, [5])]
theorem E_tumbrelref11_Same (L_p0 i_p1 : Value) (w : World) (R : Value → World → Prop) : M_tumbrelref11_Same L_p0 i_p1 w R = den PR ann_tumbrelref11_Same (bodyOf Try.f32) (retQ PR Try.f32.results.toList R) (env0 [L_p0, i_p1]) w := by kernel_rfl
theorem C_tumbrelref11_Same {L_p0 i_p1 : Value} {w : World} {R : Value → World → Prop} (h : M_tumbrelref11_Same L_p0 i_p1 w R) : CALL PR F_tumbrelref11_Same [L_p0, i_p1] w R :=
  call_of_den2 ann_tumbrelref11_Same Try.func32 (by kernel_rfl) (by kernel_rfl) (by kernel_rfl) ((E_tumbrelref11_Same L_p0 i_p1 w R) ▸ h)


-- 33 slices.Sort[[]uint64,uint64]
def M_slices_Sort_uint64_uint64 (x_p0 : Value) (w : World) (R : Value → World → Prop) : Prop :=
  BND (lenl x_p0) fun t4_1 =>
  BND (convi .u64 t4_1) fun t8_2 =>
  CALL PR F_math_bits_Len [t8_2] w fun t9_3 w1 =>
  CALL PR F_slices_pdqsortOrdered_uint64 [x_p0, (Value.int .i64 0), t4_1, t9_3] w1 fun t10_4 w2 =>
  R (.tuple #[]) w2
def ann_slices_Sort_uint64_uint64 : List (Nat × List Nat) := []
theorem E_slices_Sort_uint64_uint64 (x_p0 : Value) (w : World) (R : Value → World → Prop) : M_slices_Sort_uint64_uint64 x_p0 w R = den PR ann_slices_Sort_uint64_uint64 (bodyOf Try.f33) (retQ PR Try.f33.results.toList R) (env0 [x_p0]) w := by kernel_rfl
theorem C_slices_Sort_uint64_uint64 {x_p0 : Value} {w : World} {R : Value → World → Prop} (h : M_slices_Sort_uint64_uint64 x_p0 w R) : CALL PR F_slices_Sort_uint64_uint64 [x_p0] w R :=
  call_of_den2 ann_slices_Sort_uint64_uint64 Try.func33 (by kernel_rfl) (by kernel_rfl) (by kernel_rfl) ((E_slices_Sort_uint64_uint64 x_p0 w R) ▸ h)


-- 34 slices.Compact[[]uint64,uint64]
def M_slices_Compact_uint64_uint64 (s_p0 : Value) (w : World) (R : Value → World → Prop) : Prop :=
  BND (lenl s_p0) fun t7_1 =>
  BND (binv .int .lss t7_1 (Value.int .i64 2)) fun t8_2 =>
  COND t8_2
  (R s_p0 w)
  (∃ (J_3 : Value → World → Prop) (m_3 : Value → World → Nat), J_3 (Value.int .i64 1) w ∧ ∀ (_d_3 : Env) (k_5 : Value) (w1 : World), J_3 k_5 w1 →
  (BND (lenl s_p0) fun t12_58 =>
  BND (binv .int .lss k_5 t12_58) fun t13_59 =>
  COND t13_59
  (BND (iaddr 1 s_p0 k_5) fun t18_60 =>
  BND (binv .int .sub k_5 (Value.int .i64 1)) fun t22_61 =>
  BND (iaddr 1 s_p0 t22_61) fun t23_62 =>
  BND (load1 w1.drew t18_60) fun t19_63 =>
  BND (load1 w1.drew t23_62) fun t24_64 =>
  BND (binv .int .eql t19_63 t24_64) fun t25_65 =>
  COND t25_65
  (BND (slicev 1 s_p0 (some k_5) none) fun t28_66 =>
  ∃ (J_67 : Value → Value → World → Prop) (m_67 : Value → Value → World → Nat), J_67 k_5 (Value.int .i64 1) w1.drew ∧ ∀ (_d_67 : Env) (k_68 k2_69 : Value) (w2 : World), J_67 k_68 k2_69 w2 →
  (BND (lenl t28_66) fun t31_95 =>
  BND (binv .int .lss k2_69 t31_95) fun t32_96 =>
  COND t32_96
  (BND (iaddr 1 t28_66 k2_69) fun t37_97 =>
  BND (binv .int .sub k2_69 (Value.int .i64 1)) fun t41_98 =>
  BND (iaddr 1 t28_66 t41_98) fun t42_99 =>
  BND (load1 w2.drew t37_97) fun t38_100 =>
  BND (load1 w2.drew t42_99) fun t43_101 =>
  BND (binv .int .neq t38_100 t43_101) fun t44_102 =>
  JOIN (α := Value → World → Prop) (fun k_114 => COND t44_102
  (BND (iaddr 1 t28_66 k2_69) fun t49_115 =>
  BND (load1 w2.drew t49_115) fun t50_116 =>
  BND (iaddr 1 s_p0 k_68) fun t51_117 =>
  BND (storev 1 w2.drew t51_117 t50_116) fun w4 =>
  BND (binv .int .add k_68 (Value.int .i64 1)) fun t53_118 =>
  k_114 t53_118 w4)
  (k_114 k_68 w2.drew))
  (fun k_103 w3 => BND (binv .int .add k2_69 (Value.int .i64 1)) fun t34_113 =>
  (J_67 k_103 t34_113 w3 ∧ m_67 k_103 t34_113 w3 < m_67 k_68 k2_69 w2)))
  (BND (slicev 1 s_p0 (some k_68) none) fun t56_119 =>
  BND (clearv (Value.int .u64 0) w2 t56_119) fun w5 =>
  BND (slicev 1 s_p0 none (some k_68)) fun t59_120 =>
  R t59_120 w5)))
  (BND (binv .int .add k_5 (Value.int .i64 1)) fun t15_121 =>
  (J_3 t15_121 w1.drew ∧ m_3 t15_121 w1.drew < m_3 k_5 w1)))
  (R s_p0 w1)))
def ann_slices_Compact_uint64_uint64 : List (Nat × List Nat) := [(6, [0, 1, 2, 4, 5, 6, 7, 3, 8, 9]), (11, [0, 1, 2, 4, 5, 6, 7, 3, 8, 9]), (1000004, [3]), (1000009, [3, 5])]
theorem E_slices_Compact_uint64_uint64 (s_p0 : Value) (w : World) (R : Value → World → Prop) : M_slices_Compact_uint64_uint64 s_p0 w R = den PR ann_slices_Compact_uint64_uint64 (bodyOf Try.f34) (retQ PR Try.f34.results.toList R) (env0 [s_p0]) w := by kernel_rfl
theorem C_slices_Compact_uint64_uint64 {s_p0 : Value} {w : World} {R : Value → World → Prop} (h : M_slices_Compact_uint64_uint64 s_p0 w R) : CALL PR F_slices_Compact_uint64_uint64 [s_p0] w R :=
  call_of_den2 ann_slices_Compact_uint64_uint64 Try.func34 (by kernel_rfl) (by kernel_rfl) (by kernel_rfl) ((E_slices_Compact_uint64_uint64 s_p0 w R) ▸ h)


-- 35 slices.IndexFunc[[]tumbrel.record.Record,tumbrel.record.Record]
def M_slices_IndexFunc_record_Record_record_Record (s_p0 f_p1 : Value) (w : World) (R : Value → World → Prop) : Prop :=
  BND (lenl s_p0) fun t7_1 =>
  ∃ (J_2 : Value → World → Prop) (m_2 : Value → World → Nat), J_2 (Value.int .i64 0) w ∧ ∀ (_d_2 : Env) (t8_5 : Value) (w1 : World), J_2 t8_5 w1 →
  (BND (binv .int .lss t8_5 t7_1) fun t9_16 =>
  COND t9_16
  (BND (iaddr 3 s_p0 t8_5) fun t14_17 =>
  BND (loadn 3 w1 t14_17) fun t15_18 =>
  CALLV PR f_p1 [t15_18] w1 fun t16_19 w2 =>
  COND t16_19
  (R t8_5 w2)
  (BND (binv .int .add t8_5 (Value.int .i64 1)) fun t18_20 =>
  (J_2 t18_20 w2 ∧ m_2 t18_20 w2 < m_2 t8_5 w1)))
  (R (Value.int .i64 (-1)) w1))
def ann_slices_IndexFunc_record_Record_record_Record : List (Nat × List Nat) := [(1000002, [8])]
theorem E_slices_IndexFunc_record_Record_record_Record (s_p0 f_p1 : Value) (w : World) (R : Value → World → Prop) : M_slices_IndexFunc_record_Record_record_Record s_p0 f_p1 w R = den PR ann_slices_IndexFunc_record_Record_record_Record (bodyOf Try.f35) (retQ PR Try.f35.results.toList R) (env0 [s_p0, f_p1]) w := by kernel_rfl
theorem C_slices_IndexFunc_record_Record_record_Record {s_p0 f_p1 : Value} {w : World} {R : Value → World → Prop} (h : M_slices_IndexFunc_record_Record_record_Record s_p0 f_p1 w R) : CALL PR F_slices_IndexFunc_record_Record_record_Record [s_p0, f_p1] w R :=
  call_of_den2 ann_slices_IndexFunc_record_Record_record_Record Try.func35 (by kernel_rfl) (by kernel_rfl) (by kernel_rfl) ((E_slices_IndexFunc_record_Record_record_Record s_p0 f_p1 w R) ▸ h)


-- 36 tumbrel.record.known
def M_record_known (kind_p0 : Value) (w : World) (R : Value → World → Prop) : Prop :=
  BND (binv .int .geq kind_p0 (Value.int .i64 1)) fun t4_1 =>
  BND (grd (isB t4_1 true) (some kind_p0)) fun t6_2 =>
  BND (grd (isB t4_1 true) (binv .int .leq t6_2 (Value.int .i64 17))) fun t7_3 =>
  BND (pickv t4_1 t7_3 (Value.bool false)) fun t8_4 =>
  R t8_4 w
def ann_record_known : List (Nat × List Nat) := []
theorem E_record_known (kind_p0 : Value) (w : World) (R : Value → World → Prop) : M_record_known kind_p0 w R = den PR ann_record_known (bodyOf Try.f36) (retQ PR Try.f36.results.toList R) (env0 [kind_p0]) w := by kernel_rfl
theorem C_record_known {kind_p0 : Value} {w : World} {R : Value → World → Prop} (h : M_record_known kind_p0 w R) : CALL PR F_record_known [kind_p0] w R :=
  call_of_den2 ann_record_known Try.func36 (by kernel_rfl) (by kernel_rfl) (by kernel_rfl) ((E_record_known kind_p0 w R) ▸ h)


-- 37 tumbrel.record.numbers
def M_record_numbers (w : World) (R : Value → World → Prop) : Prop :=
  NEW (newv 98 w (Value.agg #[(Value.int .i64 0), (Value.int .i64 0), (Value.int .i64 0), (Value.int .i64 0), (Value.int .i64 0), (Value.int .i64 0), (Value.int .i64 0), (Value.int .i64 0), (Value.int .i64 0), (Value.int .i64 0), (Value.int .i64 0), (Value.int .i64 0), (Value.int .i64 0), (Value.int .i64 0), (Value.int .i64 0), (Value.int .i64 0), (Value.int .i64 0), (Value.int .i64 0)])) fun t0_1 w1 =>
  BND (buildv #[(Value.int .i64 0), (Value.int .i64 0), (Value.int .i64 0), (Value.int .i64 0), (Value.int .i64 0), (Value.int .i64 0), (Value.int .i64 0), (Value.int .i64 0), (Value.int .i64 0), (Value.int .i64 0), (Value.int .i64 0), (Value.int .i64 0), (Value.int .i64 0), (Value.int .i64 0), (Value.int .i64 0), (Value.int .i64 0), (Value.int .i64 0), (Value.int .i64 0)] [(2, 1, (Value.int .i64 5)), (3, 1, (Value.int .i64 2)), (4, 1, (Value.int .i64 1)), (5, 1, (Value.int .i64 2)), (6, 1, (Value.int .i64 2)), (7, 1, (Value.int .i64 1)), (8, 1, (Value.int .i64 1)), (9, 1, (Value.int .i64 1)), (10, 1, (Value.int .i64 1)), (11, 1, (Value.int .i64 1)), (12, 1, (Value.int .i64 5)), (13, 1, (Value.int .i64 7)), (14, 1, (Value.int .i64 10)), (15, 1, (Value.int .i64 2)), (16, 1, (Value.int .i64 1)), (17, 1, (Value.int .i64 1))]) fun t1_2 =>
  BND (storev 18 w1 t0_1 t1_2) fun w2 =>
  BND (loadn 18 w2 t0_1) fun r_3 =>
  R r_3 w2
def ann_record_numbers : List (Nat × List Nat) := []
theorem E_record_numbers (w : World) (R : Value → World → Prop) : M_record_numbers w R = den PR ann_record_numbers (bodyOf Try.f37) (retQ PR Try.f37.results.toList R) (env0 []) w := by kernel_rfl
theorem C_record_numbers {w : World} {R : Value → World → Prop} (h : M_record_numbers w R) : CALL PR F_record_numbers [] w R :=
  call_of_den2 ann_record_numbers Try.func37 (by kernel_rfl) (by kernel_rfl) (by kernel_rfl) ((E_record_numbers w R) ▸ h)


-- 38 tumbrel.record.fits
def M_record_fits (kind_p0 many_p1 : Value) (w : World) (R : Value → World → Prop) : Prop :=
  BND (binv .int .eql many_p1 (Value.int .i64 0)) fun t6_1 =>
  BND (grd (isB t6_1 false) (some kind_p0)) fun t8_2 =>
  GEF (isB t6_1 false) (fun k_ => CALL PR F_record_worded [t8_2] w k_) w fun t9_3 w1 =>
  BND (grd (isB t6_1 false) (some t9_3)) fun t10_4 =>
  BND (grd (isB t10_4 true) (some many_p1)) fun t11_5 =>
  BND (grd (isB t10_4 true) (binv .int .leq t11_5 (Value.int .i64 64))) fun t12_6 =>
  BND (grd (isB t6_1 false) (pickv t10_4 t12_6 (Value.bool false))) fun t13_7 =>
  BND (pickv t6_1 (Value.bool true) t13_7) fun t14_8 =>
  R t14_8 w1
def ann_record_fits : List (Nat × List Nat) := []
theorem E_record_fits (kind_p0 many_p1 : Value) (w : World) (R : Value → World → Prop) : M_record_fits kind_p0 many_p1 w R = den PR ann_record_fits (bodyOf Try.f38) (retQ PR Try.f38.results.toList R) (env0 [kind_p0, many_p1]) w := by kernel_rfl
theorem C_record_fits {kind_p0 many_p1 : Value} {w : World} {R : Value → World → Prop} (h : M_record_fits kind_p0 many_p1 w R) : CALL PR F_record_fits [kind_p0, many_p1] w R :=
  call_of_den2 ann_record_fits Try.func38 (by kernel_rfl) (by kernel_rfl) (by kernel_rfl) ((E_record_fits kind_p0 many_p1 w R) ▸ h)


-- 39 slices.Equal[[]uint64,uint64]
def M_slices_Equal_uint64_uint64 (s1_p0 s2_p1 : Value) (w : World) (R : Value → World → Prop) : Prop :=
  BND (lenl s1_p0) fun t7_1 =>
  BND (lenl s2_p1) fun t9_2 =>
  BND (binv .int .neq t7_1 t9_2) fun t10_3 =>
  COND t10_3
  (R (Value.bool false) w)
  (BND (lenl s1_p0) fun t12_4 =>
  ∃ (J_5 : Value → World → Prop) (m_5 : Value → World → Nat), J_5 (Value.int .i64 0) w ∧ ∀ (_d_5 : Env) (t13_8 : Value) (w1 : World), J_5 t13_8 w1 →
  (BND (binv .int .lss t13_8 t12_4) fun t14_21 =>
  COND t14_21
  (BND (iaddr 1 s1_p0 t13_8) fun t18_22 =>
  BND (iaddr 1 s2_p1 t13_8) fun t22_23 =>
  BND (load1 w1.drew t18_22) fun t19_24 =>
  BND (load1 w1.drew t22_23) fun t23_25 =>
  BND (binv .int .neq t19_24 t23_25) fun t24_26 =>
  COND t24_26
  (R (Value.bool false) w1.drew)
  (BND (binv .int .add t13_8 (Value.int .i64 1)) fun t25_27 =>
  (J_5 t25_27 w1.drew ∧ m_5 t25_27 w1.drew < m_5 t13_8 w1)))
  (R (Value.bool true) w1)))
def ann_slices_Equal_uint64_uint64 : List (Nat × List Nat) := [(6, [0, 1, 2, 4, 5, 6, 3, 7, 8]), (1000004, [13])]
theorem E_slices_Equal_uint64_uint64 (s1_p0 s2_p1 : Value) (w : World) (R : Value → World → Prop) : M_slices_Equal_uint64_uint64 s1_p0 s2_p1 w R = den PR ann_slices_Equal_uint64_uint64 (bodyOf Try.f39) (retQ PR Try.f39.results.toList R) (env0 [s1_p0, s2_p1]) w := by kernel_rfl
theorem C_slices_Equal_uint64_uint64 {s1_p0 s2_p1 : Value} {w : World} {R : Value → World → Prop} (h : M_slices_Equal_uint64_uint64 s1_p0 s2_p1 w R) : CALL PR F_slices_Equal_uint64_uint64 [s1_p0, s2_p1] w R :=
  call_of_den2 ann_slices_Equal_uint64_uint64 Try.func39 (by kernel_rfl) (by kernel_rfl) (by kernel_rfl) ((E_slices_Equal_uint64_uint64 s1_p0 s2_p1 w R) ▸ h)


-- 40 tumbrel.tumbrelref05.many
def M_tumbrelref05_many (kind_p0 : Value) (w : World) (R : Value → World → Prop) : Prop :=
  BND (newslice 3 #[(Value.int .i64 0)] 1 18 [(0, 1, (Value.int .i64 (-1))), (1, 1, (Value.int .i64 0)), (2, 1, (Value.int .i64 5)), (3, 1, (Value.int .i64 2)), (4, 1, (Value.int .i64 1)), (5, 1, (Value.int .i64 2)), (6, 1, (Value.int .i64 2)), (7, 1, (Value.int .i64 1)), (8, 1, (Value.int .i64 1)), (9, 1, (Value.int .i64 1)), (10, 1, (Value.int .i64 1)), (11, 1, (Value.int .i64 1)), (12, 1, (Value.int .i64 5)), (13, 1, (Value.int .i64 7)), (14, 1, (Value.int .i64 10)), (15, 1, (Value.int .i64 2)), (16, 1, (Value.int .i64 1)), (17, 1, (Value.int .i64 1))] w) fun p_ => NEW p_ fun t4_1 w1 =>
  BND (binv .int .lss kind_p0 (Value.int .i64 0)) fun t6_2 =>
  BND (grd (isB t6_2 false) (some kind_p0)) fun t8_3 =>
  BND (grd (isB t6_2 false) (binv .int .gtr t8_3 (Value.int .i64 17))) fun t9_4 =>
  BND (pickv t6_2 (Value.bool true) t9_4) fun t10_5 =>
  COND t10_5
  (R (Value.int .i64 (-1)) w1)
  (BND (iaddr 1 t4_1 kind_p0) fun t13_6 =>
  BND (load1 w1 t13_6) fun t14_7 =>
  R t14_7 w1)
def ann_tumbrelref05_many : List (Nat × List Nat) := []
theorem E_tumbrelref05_many (kind_p0 : Value) (w : World) (R : Value → World → Prop) : M_tumbrelref05_many kind_p0 w R = den PR ann_tumbrelref05_many (bodyOf Try.f40) (retQ PR Try.f40.results.toList R) (env0 [kind_p0]) w := by kernel_rfl
theorem C_tumbrelref05_many {kind_p0 : Value} {w : World} {R : Value → World → Prop} (h : M_tumbrelref05_many kind_p0 w R) : CALL PR F_tumbrelref05_many [kind_p0] w R :=
  call_of_den2 ann_tumbrelref05_many Try.func40 (by kernel_rfl) (by kernel_rfl) (by kernel_rfl) ((E_tumbrelref05_many kind_p0 w R) ▸ h)


-- 41 tumbrel.tumbrelref05.texts
def M_tumbrelref05_texts (kind_p0 n_p1 : Value) (w : World) (R : Value → World → Prop) : Prop :=
  BND (binv .int .eql kind_p0 (Value.int .i64 10)) fun t6_1 =>
  BND (grd (isB t6_1 false) (some kind_p0)) fun t8_2 =>
  BND (grd (isB t6_1 false) (binv .int .eql t8_2 (Value.int .i64 11))) fun t9_3 =>
  BND (pickv t6_1 (Value.bool true) t9_3) fun t10_4 =>
  BND (grd (isB t10_4 false) (some kind_p0)) fun t12_5 =>
  BND (grd (isB t10_4 false) (binv .int .eql t12_5 (Value.int .i64 16))) fun t13_6 =>
  BND (pickv t10_4 (Value.bool true) t13_6) fun t14_7 =>
  COND t14_7
  (BND (binv .int .leq n_p1 (Value.int .i64 64)) fun t16_8 =>
  R t16_8 w)
  (BND (binv .int .eql n_p1 (Value.int .i64 0)) fun t18_9 =>
  R t18_9 w)
def ann_tumbrelref05_texts : List (Nat × List Nat) := []
theorem E_tumbrelref05_texts (kind_p0 n_p1 : Value) (w : World) (R : Value → World → Prop) : M_tumbrelref05_texts kind_p0 n_p1 w R = den PR ann_tumbrelref05_texts (bodyOf Try.f41) (retQ PR Try.f41.results.toList R) (env0 [kind_p0, n_p1]) w := by kernel_rfl
theorem C_tumbrelref05_texts {kind_p0 n_p1 : Value} {w : World} {R : Value → World → Prop} (h : M_tumbrelref05_texts kind_p0 n_p1 w R) : CALL PR F_tumbrelref05_texts [kind_p0, n_p1] w R :=
  call_of_den2 ann_tumbrelref05_texts Try.func41 (by kernel_rfl) (by kernel_rfl) (by kernel_rfl) ((E_tumbrelref05_texts kind_p0 n_p1 w R) ▸ h)


-- 42 tumbrel.tumbrelref10.Rows
def M_tumbrelref10_Rows (a_p0 b_p1 : Value) (w : World) (R : Value → World → Prop) : Prop :=
  BND (lenl a_p0) fun t7_1 =>
  BND (lenl b_p1) fun t9_2 =>
  BND (binv .int .neq t7_1 t9_2) fun t10_3 =>
  COND t10_3
  (R (Value.bool false) w)
  (∃ (J_4 : Value → World → Prop) (m_4 : Value → World → Nat), J_4 (Value.int .i64 0) w ∧ ∀ (_d_4 : Env) (i_6 : Value) (w1 : World), J_4 i_6 w1 →
  (BND (lenl a_p0) fun t13_22 =>
  BND (binv .int .lss i_6 t13_22) fun t14_23 =>
  COND t14_23
  (BND (iaddr 2 a_p0 i_6) fun t19_24 =>
  BND (iaddr 2 b_p1 i_6) fun t23_25 =>
  BND (loadn 2 w1.drew t19_24) fun t20_26 =>
  BND (loadn 2 w1.drew t23_25) fun t24_27 =>
  BND (eqaggv [(0, (.int .u64)), (1, (.int .u64))] .neq t20_26 t24_27) fun t25_28 =>
  COND t25_28
  (R (Value.bool false) w1.drew)
  (BND (binv .int .add i_6 (Value.int .i64 1)) fun t16_29 =>
  (J_4 t16_29 w1.drew ∧ m_4 t16_29 w1.drew < m_4 i_6 w1)))
  (R (Value.bool true) w1)))
def ann_tumbrelref10_Rows : List (Nat × List Nat) := [(6, [0, 1, 2, 4, 5, 6, 3, 7, 8]), (1000004, [5])]
theorem E_tumbrelref10_Rows (a_p0 b_p1 : Value) (w : World) (R : Value → World → Prop) : M_tumbrelref10_Rows a_p0 b_p1 w R = den PR ann_tumbrelref10_Rows (bodyOf Try.f42) (retQ PR Try.f42.results.toList R) (env0 [a_p0, b_p1]) w := by kernel_rfl
theorem C_tumbrelref10_Rows {a_p0 b_p1 : Value} {w : World} {R : Value → World → Prop} (h : M_tumbrelref10_Rows a_p0 b_p1 w R) : CALL PR F_tumbrelref10_Rows [a_p0, b_p1] w R :=
  call_of_den2 ann_tumbrelref10_Rows Try.func42 (by kernel_rfl) (by kernel_rfl) (by kernel_rfl) ((E_tumbrelref10_Rows a_p0 b_p1 w R) ▸ h)


-- 43 tumbrel.tumbrelref10.Cursors
def M_tumbrelref10_Cursors (a_p0 b_p1 : Value) (w : World) (R : Value → World → Prop) : Prop :=
  BND (lenl a_p0) fun t7_1 =>
  BND (lenl b_p1) fun t9_2 =>
  BND (binv .int .neq t7_1 t9_2) fun t10_3 =>
  COND t10_3
  (R (Value.bool false) w)
  (∃ (J_4 : Value → World → Prop) (m_4 : Value → World → Nat), J_4 (Value.int .i64 0) w ∧ ∀ (_d_4 : Env) (i_6 : Value) (w1 : World), J_4 i_6 w1 →
  (BND (lenl a_p0) fun t13_22 =>
  BND (binv .int .lss i_6 t13_22) fun t14_23 =>
  COND t14_23
  (BND (iaddr 2 a_p0 i_6) fun t19_24 =>
  BND (iaddr 2 b_p1 i_6) fun t23_25 =>
  BND (loadn 2 w1.drew t19_24) fun t20_26 =>
  BND (loadn 2 w1.drew t23_25) fun t24_27 =>
  BND (eqaggv [(0, .string), (1, (.int .u64))] .neq t20_26 t24_27) fun t25_28 =>
  COND t25_28
  (R (Value.bool false) w1.drew)
  (BND (binv .int .add i_6 (Value.int .i64 1)) fun t16_29 =>
  (J_4 t16_29 w1.drew ∧ m_4 t16_29 w1.drew < m_4 i_6 w1)))
  (R (Value.bool true) w1)))
def ann_tumbrelref10_Cursors : List (Nat × List Nat) := [(6, [0, 1, 2, 4, 5, 6, 3, 7, 8]), (1000004, [5])]
theorem E_tumbrelref10_Cursors (a_p0 b_p1 : Value) (w : World) (R : Value → World → Prop) : M_tumbrelref10_Cursors a_p0 b_p1 w R = den PR ann_tumbrelref10_Cursors (bodyOf Try.f43) (retQ PR Try.f43.results.toList R) (env0 [a_p0, b_p1]) w := by kernel_rfl
theorem C_tumbrelref10_Cursors {a_p0 b_p1 : Value} {w : World} {R : Value → World → Prop} (h : M_tumbrelref10_Cursors a_p0 b_p1 w R) : CALL PR F_tumbrelref10_Cursors [a_p0, b_p1] w R :=
  call_of_den2 ann_tumbrelref10_Cursors Try.func43 (by kernel_rfl) (by kernel_rfl) (by kernel_rfl) ((E_tumbrelref10_Cursors a_p0 b_p1 w R) ▸ h)


-- 44 slices.pdqsortOrdered[uint64]
def M_slices_pdqsortOrdered_uint64 (L_p0 i_p1 s_p2 t_p3 : Value) (w : World) (R : Value → World → Prop) : Prop :=
  ∃ (J_1 : Value → Value → Value → Value → Value → World → Prop) (m_1 : Value → Value → Value → Value → Value → World → Nat), J_1 i_p1 s_p2 t_p3 (Value.bool true) (Value.bool true) w ∧ ∀ (_d_1 : Env) (i_2 s_3 t_4 r_5 r_6 : Value) (w1 : World), J_1 i_2 s_3 t_4 r_5 r_6 w1 →
  (BND (binv .int .sub s_3 i_2) fun t21_131 =>
  BND (binv .int .leq t21_131 (Value.int .i64 12)) fun t23_132 =>
  COND t23_132
  (CALL PR F_slices_insertionSortOrdered_uint64 [L_p0, i_2, s_3] w1 fun t27_133 w2 =>
  R (.tuple #[]) w2)
  (BND (binv .int .eql t_4 (Value.int .i64 0)) fun t29_134 =>
  COND t29_134
  (CALL PR F_slices_heapSortOrdered_uint64 [L_p0, i_2, s_3] w1 fun t33_135 w3 =>
  R (.tuple #[]) w3)
  (BND (unv .not r_5) fun t35_136 =>
  JOIN (α := Value → World → Prop) (fun k_227 => COND t35_136
  (CALL PR F_slices_breakPatternsOrdered_uint64 [L_p0, i_2, s_3] w1 fun t39_228 w16 =>
  BND (binv .int .sub t_4 (Value.int .i64 1)) fun t41_229 =>
  k_227 t41_229 w16)
  (k_227 t_4 w1))
  (fun t_137 w4 => CALL PR F_slices_choosePivotOrdered_uint64 [L_p0, i_2, s_3] w4 fun t46_144 w5 =>
  BND (extractv t46_144 0) fun t47_145 =>
  BND (extractv t46_144 1) fun t48_146 =>
  BND (binv .int .eql t48_146 (Value.int .i64 2)) fun t50_147 =>
  JOIN (α := Value → Value → World → Prop) (fun k_222 => COND t50_147
  (CALL PR F_slices_reverseRangeOrdered_uint64 [L_p0, i_2, s_3] w5 fun t54_223 w15 =>
  BND (binv .int .sub s_3 (Value.int .i64 1)) fun t56_224 =>
  BND (binv .int .sub t47_145 i_2) fun t59_225 =>
  BND (binv .int .sub t56_224 t59_225) fun t60_226 =>
  k_222 t60_226 (Value.int .i64 1) w15)
  (k_222 t47_145 t48_146 w5))
  (fun y_148 t12_149 w6 => BND (grd (isB r_5 true) (some r_6)) fun t63_160 =>
  BND (pickv r_5 t63_160 (Value.bool false)) fun t64_161 =>
  BND (grd (isB t64_161 true) (some t12_149)) fun t66_162 =>
  BND (grd (isB t64_161 true) (binv .int .eql t66_162 (Value.int .i64 1))) fun t67_163 =>
  BND (pickv t64_161 t67_163 (Value.bool false)) fun t68_164 =>
  JOIN (α := World → Prop) (fun k_220 => COND t68_164
  (CALL PR F_slices_partialInsertionSortOrdered_uint64 [L_p0, i_2, s_3] w6 fun t72_221 w14 =>
  COND t72_221
  (R (.tuple #[]) w14)
  (k_220 w14))
  (k_220 w6))
  (fun w7 => BND (binv .int .gtr i_2 (Value.int .i64 0)) fun t74_169 =>
  BND (grd (isB t74_169 true) (some L_p0)) fun t76_170 =>
  BND (grd (isB t74_169 true) (some i_2)) fun t77_171 =>
  BND (grd (isB t74_169 true) (binv .int .sub t77_171 (Value.int .i64 1))) fun t78_172 =>
  BND (grd (isB t74_169 true) (iaddr 1 t76_170 t78_172)) fun t79_173 =>
  BND (grd (isB t74_169 true) (some L_p0)) fun t81_174 =>
  BND (grd (isB t74_169 true) (some y_148)) fun t82_175 =>
  BND (grd (isB t74_169 true) (iaddr 1 t81_174 t82_175)) fun t83_176 =>
  BND (grd (isB t74_169 true) (load1 w7.drew t79_173)) fun t80_177 =>
  BND (grd (isB t74_169 true) (load1 w7.drew t83_176)) fun t84_178 =>
  GEF (isB t74_169 true) (fun k_ => CALL PR F_cmp_Less_uint64 [t80_177, t84_178] w7.drew k_) w7.drew fun t85_179 w8 =>
  BND (grd (isB t74_169 true) (unv .not t85_179)) fun t86_180 =>
  BND (pickv t74_169 t86_180 (Value.bool false)) fun t87_181 =>
  COND t87_181
  (CALL PR F_slices_partitionEqualOrdered_uint64 [L_p0, i_2, s_3, y_148] w8 fun t92_182 w9 =>
  (J_1 t92_182 s_3 t_137 r_5 r_6 w9 ∧ m_1 t92_182 s_3 t_137 r_5 r_6 w9 < m_1 i_2 s_3 t_4 r_5 r_6 w1))
  (CALL PR F_slices_partitionOrdered_uint64 [L_p0, i_2, s_3, y_148] w8 fun t99_183 w10 =>
  BND (extractv t99_183 0) fun t100_184 =>
  BND (extractv t99_183 1) fun t101_185 =>
  BND (binv .int .sub t100_184 i_2) fun t105_186 =>
  BND (binv .int .sub s_3 t100_184) fun t108_187 =>
  BND (binv .int .quo t21_131 (Value.int .i64 8)) fun t110_188 =>
  BND (binv .int .lss t105_186 t108_187) fun t113_189 =>
  JOIN (α := Value → Value → Value → World → Prop) (fun k_213 => COND t113_189
  (BND (binv .int .geq t105_186 t110_188) fun t116_214 =>
  CALL PR F_slices_pdqsortOrdered_uint64 [L_p0, i_2, t100_184, t_137] w10 fun t121_215 w12 =>
  BND (binv .int .add t100_184 (Value.int .i64 1)) fun t123_216 =>
  k_213 t123_216 s_3 t116_214 w12)
  (BND (binv .int .geq t108_187 t110_188) fun t126_217 =>
  BND (binv .int .add t100_184 (Value.int .i64 1)) fun t129_218 =>
  CALL PR F_slices_pdqsortOrdered_uint64 [L_p0, t129_218, s_3, t_137] w10 fun t132_219 w13 =>
  k_213 i_2 t100_184 t126_217 w13))
  (fun i_190 s_191 r_192 w11 => (J_1 i_190 s_191 t_137 r_192 t101_185 w11 ∧ m_1 i_190 s_191 t_137 r_192 t101_185 w11 < m_1 i_2 s_3 t_4 r_5 r_6 w1)))))))))
def ann_slices_pdqsortOrdered_uint64 : List (Nat × List Nat) := [(17, [0, 1, 2, 3, 4, 5, 6, 8, 9, 10, 7, 11, 12, 13, 14]), (1000002, [1, 2, 3, 8, 9])]
theorem E_slices_pdqsortOrdered_uint64 (L_p0 i_p1 s_p2 t_p3 : Value) (w : World) (R : Value → World → Prop) : M_slices_pdqsortOrdered_uint64 L_p0 i_p1 s_p2 t_p3 w R = den PR ann_slices_pdqsortOrdered_uint64 (bodyOf Try.f44) (retQ PR Try.f44.results.toList R) (env0 [L_p0, i_p1, s_p2, t_p3]) w := by kernel_rfl
theorem C_slices_pdqsortOrdered_uint64 {L_p0 i_p1 s_p2 t_p3 : Value} {w : World} {R : Value → World → Prop} (h : M_slices_pdqsortOrdered_uint64 L_p0 i_p1 s_p2 t_p3 w R) : CALL PR F_slices_pdqsortOrdered_uint64 [L_p0, i_p1, s_p2, t_p3] w R :=
  call_of_den2 ann_slices_pdqsortOrdered_uint64 Try.func44 (by kernel_rfl) (by kernel_rfl) (by kernel_rfl) ((E_slices_pdqsortOrdered_uint64 L_p0 i_p1 s_p2 t_p3 w R) ▸ h)


-- 45 math.bits.Len
def M_math_bits_Len (x_p0 : Value) (w : World) (R : Value → World → Prop) : Prop :=
  COND (Value.bool false)
  (BND (convi .u32 x_p0) fun t4_1 =>
  CALL PR F_math_bits_Len32 [t4_1] w fun t5_2 w1 =>
  R t5_2 w1)
  (CALL PR F_math_bits_Len64 [x_p0] w fun t7_3 w2 =>
  R t7_3 w2)
def ann_math_bits_Len : List (Nat × List Nat) := []
theorem E_math_bits_Len (x_p0 : Value) (w : World) (R : Value → World → Prop) : M_math_bits_Len x_p0 w R = den PR ann_math_bits_Len (bodyOf Try.f45) (retQ PR Try.f45.results.toList R) (env0 [x_p0]) w := by kernel_rfl
theorem C_math_bits_Len {x_p0 : Value} {w : World} {R : Value → World → Prop} (h : M_math_bits_Len x_p0 w R) : CALL PR F_math_bits_Len [x_p0] w R :=
  call_of_den2 ann_math_bits_Len Try.func45 (by kernel_rfl) (by kernel_rfl) (by kernel_rfl) ((E_math_bits_Len x_p0 w R) ▸ h)


-- 46 tumbrel.record.worded
def M_record_worded (kind_p0 : Value) (w : World) (R : Value → World → Prop) : Prop :=
  BND (binv .int .eql kind_p0 (Value.int .i64 10)) fun t4_1 =>
  BND (grd (isB t4_1 false) (some kind_p0)) fun t6_2 =>
  BND (grd (isB t4_1 false) (binv .int .eql t6_2 (Value.int .i64 11))) fun t7_3 =>
  BND (pickv t4_1 (Value.bool true) t7_3) fun t8_4 =>
  BND (grd (isB t8_4 false) (some kind_p0)) fun t10_5 =>
  BND (grd (isB t8_4 false) (binv .int .eql t10_5 (Value.int .i64 16))) fun t11_6 =>
  BND (pickv t8_4 (Value.bool true) t11_6) fun t12_7 =>
  R t12_7 w
def ann_record_worded : List (Nat × List Nat) := []
theorem E_record_worded (kind_p0 : Value) (w : World) (R : Value → World → Prop) : M_record_worded kind_p0 w R = den PR ann_record_worded (bodyOf Try.f46) (retQ PR Try.f46.results.toList R) (env0 [kind_p0]) w := by kernel_rfl
theorem C_record_worded {kind_p0 : Value} {w : World} {R : Value → World → Prop} (h : M_record_worded kind_p0 w R) : CALL PR F_record_worded [kind_p0] w R :=
  call_of_den2 ann_record_worded Try.func46 (by kernel_rfl) (by kernel_rfl) (by kernel_rfl) ((E_record_worded kind_p0 w R) ▸ h)


-- 47 slices.insertionSortOrdered[uint64]
def M_slices_insertionSortOrdered_uint64 (data_p0 a_p1 b_p2 : Value) (w : World) (R : Value → World → Prop) : Prop :=
  BND (binv .int .add a_p1 (Value.int .i64 1)) fun t9_1 =>
  ∃ (J_2 : Value → World → Prop) (m_2 : Value → World → Nat), J_2 t9_1 w ∧ ∀ (_d_2 : Env) (i_3 : Value) (w1 : World), J_2 i_3 w1 →
  (BND (binv .int .lss i_3 b_p2) fun t12_44 =>
  COND t12_44
  (∃ (J_45 : Value → World → Prop) (m_45 : Value → World → Nat), J_45 i_3 w1 ∧ ∀ (_d_45 : Env) (j_46 : Value) (w2 : World), J_45 j_46 w2 →
  (BND (binv .int .gtr j_46 a_p1) fun t18_80 =>
  BND (grd (isB t18_80 true) (some data_p0)) fun t20_81 =>
  BND (grd (isB t18_80 true) (some j_46)) fun t21_82 =>
  BND (grd (isB t18_80 true) (iaddr 1 t20_81 t21_82)) fun t22_83 =>
  BND (grd (isB t18_80 true) (some data_p0)) fun t24_84 =>
  BND (grd (isB t18_80 true) (some j_46)) fun t25_85 =>
  BND (grd (isB t18_80 true) (binv .int .sub t25_85 (Value.int .i64 1))) fun t26_86 =>
  BND (grd (isB t18_80 true) (iaddr 1 t24_84 t26_86)) fun t27_87 =>
  BND (grd (isB t18_80 true) (load1 w2.drew t22_83)) fun t23_88 =>
  BND (grd (isB t18_80 true) (load1 w2.drew t27_87)) fun t28_89 =>
  GEF (isB t18_80 true) (fun k_ => CALL PR F_cmp_Less_uint64 [t23_88, t28_89] w2.drew k_) w2.drew fun t29_90 w3 =>
  BND (pickv t18_80 t29_90 (Value.bool false)) fun t30_91 =>
  COND t30_91
  (BND (binv .int .sub j_46 (Value.int .i64 1)) fun t37_92 =>
  BND (binv .int .sub j_46 (Value.int .i64 1)) fun t40_93 =>
  BND (iaddr 1 data_p0 t40_93) fun t41_94 =>
  BND (iaddr 1 data_p0 j_46) fun t45_95 =>
  BND (load1 w3.drew t41_94) fun t42_96 =>
  BND (load1 w3.drew t45_95) fun t46_97 =>
  BND (iaddr 1 data_p0 j_46) fun t47_98 =>
  BND (storev 1 w3.drew t47_98 t42_96) fun w4 =>
  BND (iaddr 1 data_p0 t37_92) fun t48_99 =>
  BND (storev 1 w4 t48_99 t46_97) fun w5 =>
  BND (binv .int .sub j_46 (Value.int .i64 1)) fun t32_100 =>
  (J_45 t32_100 w5 ∧ m_45 t32_100 w5 < m_45 j_46 w2))
  (BND (binv .int .add i_3 (Value.int .i64 1)) fun t14_101 =>
  (J_2 t14_101 w3 ∧ m_2 t14_101 w3 < m_2 i_3 w1))))
  (R (.tuple #[]) w1))
def ann_slices_insertionSortOrdered_uint64 : List (Nat × List Nat) := [(4, [0, 1, 2, 3, 4, 5, 6, 8, 9, 10, 11, 7, 12, 13, 14]), (6, [0, 1, 2, 3, 4, 5, 6, 7, 8, 10, 11, 12, 9, 13, 14, 15, 16, 17]), (1000001, [6]), (1000004, [7])]
theorem E_slices_insertionSortOrdered_uint64 (data_p0 a_p1 b_p2 : Value) (w : World) (R : Value → World → Prop) : M_slices_insertionSortOrdered_uint64 data_p0 a_p1 b_p2 w R = den PR ann_slices_insertionSortOrdered_uint64 (bodyOf Try.f47) (retQ PR Try.f47.results.toList R) (env0 [data_p0, a_p1, b_p2]) w := by kernel_rfl
theorem C_slices_insertionSortOrdered_uint64 {data_p0 a_p1 b_p2 : Value} {w : World} {R : Value → World → Prop} (h : M_slices_insertionSortOrdered_uint64 data_p0 a_p1 b_p2 w R) : CALL PR F_slices_insertionSortOrdered_uint64 [data_p0, a_p1, b_p2] w R :=
  call_of_den2 ann_slices_insertionSortOrdered_uint64 Try.func47 (by kernel_rfl) (by kernel_rfl) (by kernel_rfl) ((E_slices_insertionSortOrdered_uint64 data_p0 a_p1 b_p2 w R) ▸ h)


-- 48 slices.heapSortOrdered[uint64]
def M_slices_heapSortOrdered_uint64 (data_p0 a_p1 b_p2 : Value) (w : World) (R : Value → World → Prop) : Prop :=
  BND (binv .int .sub b_p2 a_p1) fun t14_1 =>
  BND (binv .int .sub t14_1 (Value.int .i64 1)) fun t16_2 =>
  BND (binv .int .quo t16_2 (Value.int .i64 2)) fun t17_3 =>
  ∃ (J_4 : Value → World → Prop) (m_4 : Value → World → Nat), J_4 t17_3 w ∧ ∀ (_d_4 : Env) (i_5 : Value) (w1 : World), J_4 i_5 w1 →
  (BND (binv .int .geq i_5 (Value.int .i64 0)) fun t19_15 =>
  COND t19_15
  (CALL PR F_slices_siftDownOrdered_uint64 [data_p0, i_5, t14_1, a_p1] w1 fun t26_16 w2 =>
  BND (binv .int .sub i_5 (Value.int .i64 1)) fun t21_17 =>
  (J_4 t21_17 w2 ∧ m_4 t21_17 w2 < m_4 i_5 w1))
  (BND (binv .int .sub t14_1 (Value.int .i64 1)) fun t28_18 =>
  ∃ (J_19 : Value → World → Prop) (m_19 : Value → World → Nat), J_19 t28_18 w1 ∧ ∀ (_d_19 : Env) (i_20 : Value) (w3 : World), J_19 i_20 w3 →
  (BND (binv .int .geq i_20 (Value.int .i64 0)) fun t30_48 =>
  COND t30_48
  (BND (binv .int .add a_p1 i_20) fun t38_49 =>
  BND (binv .int .add a_p1 i_20) fun t42_50 =>
  BND (iaddr 1 data_p0 t42_50) fun t43_51 =>
  BND (iaddr 1 data_p0 a_p1) fun t47_52 =>
  BND (load1 w3.drew t43_51) fun t44_53 =>
  BND (load1 w3.drew t47_52) fun t48_54 =>
  BND (iaddr 1 data_p0 a_p1) fun t49_55 =>
  BND (storev 1 w3.drew t49_55 t44_53) fun w4 =>
  BND (iaddr 1 data_p0 t38_49) fun t50_56 =>
  BND (storev 1 w4 t50_56 t48_54) fun w5 =>
  CALL PR F_slices_siftDownOrdered_uint64 [data_p0, (Value.int .i64 0), i_20, a_p1] w5 fun t55_57 w6 =>
  BND (binv .int .sub i_20 (Value.int .i64 1)) fun t32_58 =>
  (J_19 t32_58 w6 ∧ m_19 t32_58 w6 < m_19 i_20 w3))
  (R (.tuple #[]) w3))))
def ann_slices_heapSortOrdered_uint64 : List (Nat × List Nat) := [(10, [0, 1, 2, 3, 4, 5, 6, 7, 8, 9, 10, 12, 13, 14, 11, 15, 16, 17, 18, 19]), (1000004, [9]), (1000008, [10])]
theorem E_slices_heapSortOrdered_uint64 (data_p0 a_p1 b_p2 : Value) (w : World) (R : Value → World → Prop) : M_slices_heapSortOrdered_uint64 data_p0 a_p1 b_p2 w R = den PR ann_slices_heapSortOrdered_uint64 (bodyOf Try.f48) (retQ PR Try.f48.results.toList R) (env0 [data_p0, a_p1, b_p2]) w := by kernel_rfl
theorem C_slices_heapSortOrdered_uint64 {data_p0 a_p1 b_p2 : Value} {w : World} {R : Value → World → Prop} (h : M_slices_heapSortOrdered_uint64 data_p0 a_p1 b_p2 w R) : CALL PR F_slices_heapSortOrdered_uint64 [data_p0, a_p1, b_p2] w R :=
  call_of_den2 ann_slices_heapSortOrdered_uint64 Try.func48 (by kernel_rfl) (by kernel_rfl) (by kernel_rfl) ((E_slices_heapSortOrdered_uint64 data_p0 a_p1 b_p2 w R) ▸ h)


-- 49 slices.breakPatternsOrdered[uint64]
def M_slices_breakPatternsOrdered_uint64 (L_p0 i_p1 s_p2 : Value) (w : World) (R : Value → World → Prop) : Prop :=
  BND (binv .int .sub s_p2 i_p1) fun t13_1 =>
  BND (binv .int .geq t13_1 (Value.int .i64 8)) fun t15_2 =>
  JOIN (α := World → Prop) (fun k_56 => COND t15_2
  (BND (convi .u64 t13_1) fun t17_57 =>
  NEW (newv 120 w (Value.int .u64 0)) fun A_58 w2 =>
  BND (storev 1 w2 A_58 t17_57) fun w3 =>
  CALL PR F_slices_nextPowerOfTwo [t13_1] w3 fun t19_59 w4 =>
  BND (binv .int .quo t13_1 (Value.int .i64 4)) fun t22_60 =>
  BND (binv .int .mul t22_60 (Value.int .i64 2)) fun t23_61 =>
  BND (binv .int .add i_p1 t23_61) fun t24_62 =>
  BND (binv .int .sub t24_62 (Value.int .i64 1)) fun t25_63 =>
  ∃ (J_64 : Value → World → Prop) (m_64 : Value → World → Nat), J_64 t25_63 w4 ∧ ∀ (_d_64 : Env) (r_65 : Value) (w5 : World), J_64 r_65 w5 →
  (BND (binv .int .quo t13_1 (Value.int .i64 4)) fun t29_106 =>
  BND (binv .int .mul t29_106 (Value.int .i64 2)) fun t30_107 =>
  BND (binv .int .add i_p1 t30_107) fun t31_108 =>
  BND (binv .int .add t31_108 (Value.int .i64 1)) fun t32_109 =>
  BND (binv .int .leq r_65 t32_109) fun t33_110 =>
  COND t33_110
  (CALL PR F_slices_xorshift_Next [A_58] w5 fun t36_111 w6 =>
  BND (binv .int .sub t19_59 (Value.int .u64 1)) fun t38_112 =>
  BND (binv .int .and t36_111 t38_112) fun t39_113 =>
  BND (convi .i64 t39_113) fun t40_114 =>
  BND (binv .int .geq t40_114 t13_1) fun t43_115 =>
  JOIN (α := Value → World → Prop) (fun k_129 => COND t43_115
  (BND (binv .int .sub t40_114 t13_1) fun t46_130 =>
  k_129 t46_130 w6)
  (k_129 t40_114 w6))
  (fun a_116 w7 => BND (binv .int .add i_p1 a_116) fun t52_120 =>
  BND (binv .int .add i_p1 a_116) fun t56_121 =>
  BND (iaddr 1 L_p0 t56_121) fun t57_122 =>
  BND (iaddr 1 L_p0 r_65) fun t61_123 =>
  BND (load1 w7.drew t57_122) fun t58_124 =>
  BND (load1 w7.drew t61_123) fun t62_125 =>
  BND (iaddr 1 L_p0 r_65) fun t63_126 =>
  BND (storev 1 w7.drew t63_126 t58_124) fun w8 =>
  BND (iaddr 1 L_p0 t52_120) fun t64_127 =>
  BND (storev 1 w8 t64_127 t62_125) fun w9 =>
  BND (binv .int .add r_65 (Value.int .i64 1)) fun t35_128 =>
  (J_64 t35_128 w9 ∧ m_64 t35_128 w9 < m_64 r_65 w5)))
  (k_56 w5)))
  (k_56 w))
  (fun w1 => R (.tuple #[]) w1)
def ann_slices_breakPatternsOrdered_uint64 : List (Nat × List Nat) := [(10, [0, 1, 2, 3, 4, 5, 6, 7, 8, 9, 10, 12, 13, 14, 11, 15, 16, 17, 18, 19]), (1000005, [9])]
theorem E_slices_breakPatternsOrdered_uint64 (L_p0 i_p1 s_p2 : Value) (w : World) (R : Value → World → Prop) : M_slices_breakPatternsOrdered_uint64 L_p0 i_p1 s_p2 w R = den PR ann_slices_breakPatternsOrdered_uint64 (bodyOf Try.f49) (retQ PR Try.f49.results.toList R) (env0 [L_p0, i_p1, s_p2]) w := by kernel_rfl
theorem C_slices_breakPatternsOrdered_uint64 {L_p0 i_p1 s_p2 : Value} {w : World} {R : Value → World → Prop} (h : M_slices_breakPatternsOrdered_uint64 L_p0 i_p1 s_p2 w R) : CALL PR F_slices_breakPatternsOrdered_uint64 [L_p0, i_p1, s_p2] w R :=
  call_of_den2 ann_slices_breakPatternsOrdered_uint64 Try.func49 (by kernel_rfl) (by kernel_rfl) (by kernel_rfl) ((E_slices_breakPatternsOrdered_uint64 L_p0 i_p1 s_p2 w R) ▸ h)


-- 50 slices.choosePivotOrdered[uint64]
def M_slices_choosePivotOrdered_uint64 (data_p0 a_p1 b_p2 : Value) (w : World) (R : Value → World → Prop) : Prop :=
  BND (binv .int .sub b_p2 a_p1) fun t15_1 =>
  NEW (newv 3 w (Value.int .i64 0)) fun swaps_2 w1 =>
  BND (binv .int .quo t15_1 (Value.int .i64 4)) fun t18_3 =>
  BND (binv .int .mul t18_3 (Value.int .i64 1)) fun t19_4 =>
  BND (binv .int .add a_p1 t19_4) fun t20_5 =>
  BND (binv .int .quo t15_1 (Value.int .i64 4)) fun t23_6 =>
  BND (binv .int .mul t23_6 (Value.int .i64 2)) fun t24_7 =>
  BND (binv .int .add a_p1 t24_7) fun t25_8 =>
  BND (binv .int .quo t15_1 (Value.int .i64 4)) fun t28_9 =>
  BND (binv .int .mul t28_9 (Value.int .i64 3)) fun t29_10 =>
  BND (binv .int .add a_p1 t29_10) fun t30_11 =>
  BND (binv .int .geq t15_1 (Value.int .i64 8)) fun t32_12 =>
  JOIN (α := Value → World → Prop) (fun k_35 => COND t32_12
  (BND (binv .int .geq t15_1 (Value.int .i64 50)) fun t34_36 =>
  JOIN (α := Value → Value → Value → World → Prop) (fun k_50 => COND t34_36
  (CALL PR F_slices_medianAdjacentOrdered_uint64 [data_p0, t20_5, swaps_2] w1 fun t37_51 w5 =>
  CALL PR F_slices_medianAdjacentOrdered_uint64 [data_p0, t25_8, swaps_2] w5 fun t40_52 w6 =>
  CALL PR F_slices_medianAdjacentOrdered_uint64 [data_p0, t30_11, swaps_2] w6 fun t43_53 w7 =>
  k_50 t37_51 t40_52 t43_53 w7)
  (k_50 t20_5 t25_8 t30_11 w1))
  (fun i_37 j_38 k_39 w3 => CALL PR F_slices_medianOrdered_uint64 [data_p0, i_37, j_38, k_39, swaps_2] w3 fun t48_49 w4 =>
  k_35 t48_49 w4))
  (k_35 t25_8 w1))
  (fun j_14 w2 => BND (load1 w2 swaps_2) fun t49_32 =>
  BND (binv .int .eql t49_32 (Value.int .i64 0)) fun t52_33 =>
  COND t52_33
  (R (.tuple #[j_14, (Value.int .i64 1)]) w2)
  (BND (binv .int .eql t49_32 (Value.int .i64 12)) fun t55_34 =>
  COND t55_34
  (R (.tuple #[j_14, (Value.int .i64 2)]) w2)
  (R (.tuple #[j_14, (Value.int .i64 0)]) w2)))
def ann_slices_choosePivotOrdered_uint64 : List (Nat × List Nat) := []
theorem E_slices_choosePivotOrdered_uint64 (data_p0 a_p1 b_p2 : Value) (w : World) (R : Value → World → Prop) : M_slices_choosePivotOrdered_uint64 data_p0 a_p1 b_p2 w R = den PR ann_slices_choosePivotOrdered_uint64 (bodyOf Try.f50) (retQ PR Try.f50.results.toList R) (env0 [data_p0, a_p1, b_p2]) w := by kernel_rfl
theorem C_slices_choosePivotOrdered_uint64 {data_p0 a_p1 b_p2 : Value} {w : World} {R : Value → World → Prop} (h : M_slices_choosePivotOrdered_uint64 data_p0 a_p1 b_p2 w R) : CALL PR F_slices_choosePivotOrdered_uint64 [data_p0, a_p1, b_p2] w R :=
  call_of_den2 ann_slices_choosePivotOrdered_uint64 Try.func50 (by kernel_rfl) (by kernel_rfl) (by kernel_rfl) ((E_slices_choosePivotOrdered_uint64 data_p0 a_p1 b_p2 w R) ▸ h)


-- 51 slices.reverseRangeOrdered[uint64]
def M_slices_reverseRangeOrdered_uint64 (data_p0 a_p1 b_p2 : Value) (w : World) (R : Value → World → Prop) : Prop :=
  BND (binv .int .sub b_p2 (Value.int .i64 1)) fun t10_1 =>
  ∃ (J_2 : Value → Value → World → Prop) (m_2 : Value → Value → World → Nat), J_2 a_p1 t10_1 w ∧ ∀ (_d_2 : Env) (i_3 j_4 : Value) (w1 : World), J_2 i_3 j_4 w1 →
  (BND (binv .int .lss i_3 j_4) fun t13_26 =>
  COND t13_26
  (BND (iaddr 1 data_p0 j_4) fun t20_27 =>
  BND (iaddr 1 data_p0 i_3) fun t24_28 =>
  BND (load1 w1.drew t20_27) fun t21_29 =>
  BND (load1 w1.drew t24_28) fun t25_30 =>
  BND (iaddr 1 data_p0 i_3) fun t26_31 =>
  BND (storev 1 w1.drew t26_31 t21_29) fun w2 =>
  BND (iaddr 1 data_p0 j_4) fun t27_32 =>
  BND (storev 1 w2 t27_32 t25_30) fun w3 =>
  BND (binv .int .add i_3 (Value.int .i64 1)) fun t29_33 =>
  BND (binv .int .sub j_4 (Value.int .i64 1)) fun t31_34 =>
  (J_2 t29_33 t31_34 w3 ∧ m_2 t29_33 t31_34 w3 < m_2 i_3 j_4 w1))
  (R (.tuple #[]) w1))
def ann_slices_reverseRangeOrdered_uint64 : List (Nat × List Nat) := [(3, [0, 1, 2, 3, 4, 5, 6, 8, 9, 10, 7, 11, 12, 13, 14, 15]), (1000002, [6, 7])]
theorem E_slices_reverseRangeOrdered_uint64 (data_p0 a_p1 b_p2 : Value) (w : World) (R : Value → World → Prop) : M_slices_reverseRangeOrdered_uint64 data_p0 a_p1 b_p2 w R = den PR ann_slices_reverseRangeOrdered_uint64 (bodyOf Try.f51) (retQ PR Try.f51.results.toList R) (env0 [data_p0, a_p1, b_p2]) w := by kernel_rfl
theorem C_slices_reverseRangeOrdered_uint64 {data_p0 a_p1 b_p2 : Value} {w : World} {R : Value → World → Prop} (h : M_slices_reverseRangeOrdered_uint64 data_p0 a_p1 b_p2 w R) : CALL PR F_slices_reverseRangeOrdered_uint64 [data_p0, a_p1, b_p2] w R :=
  call_of_den2 ann_slices_reverseRangeOrdered_uint64 Try.func51 (by kernel_rfl) (by kernel_rfl) (by kernel_rfl) ((E_slices_reverseRangeOrdered_uint64 data_p0 a_p1 b_p2 w R) ▸ h)


-- 52 slices.partialInsertionSortOrdered[uint64]
def M_slices_partialInsertionSortOrdered_uint64 (L_p0 i_p1 s_p2 : Value) (w : World) (R : Value → World → Prop) : Prop :=
  BND (binv .int .add i_p1 (Value.int .i64 1)) fun t12_1 =>
  ∃ (J_2 : Value → Value → World → Prop) (m_2 : Value → Value → World → Nat), J_2 t12_1 (Value.int .i64 0) w ∧ ∀ (_d_2 : Env) (A_4 r_5 : Value) (w1 : World), J_2 A_4 r_5 w1 →
  (BND (binv .int .lss r_5 (Value.int .i64 5)) fun t14_128 =>
  COND t14_128
  (∃ (J_129 : Value → World → Prop) (m_129 : Value → World → Nat), J_129 A_4 w1 ∧ ∀ (_d_129 : Env) (A_130 : Value) (w2 : World), J_129 A_130 w2 →
  (BND (binv .int .lss A_130 s_p2) fun t19_149 =>
  BND (grd (isB t19_149 true) (some L_p0)) fun t21_150 =>
  BND (grd (isB t19_149 true) (some A_130)) fun t22_151 =>
  BND (grd (isB t19_149 true) (iaddr 1 t21_150 t22_151)) fun t23_152 =>
  BND (grd (isB t19_149 true) (some L_p0)) fun t25_153 =>
  BND (grd (isB t19_149 true) (some A_130)) fun t26_154 =>
  BND (grd (isB t19_149 true) (binv .int .sub t26_154 (Value.int .i64 1))) fun t27_155 =>
  BND (grd (isB t19_149 true) (iaddr 1 t25_153 t27_155)) fun t28_156 =>
  BND (grd (isB t19_149 true) (load1 w2.drew t23_152)) fun t24_157 =>
  BND (grd (isB t19_149 true) (load1 w2.drew t28_156)) fun t29_158 =>
  GEF (isB t19_149 true) (fun k_ => CALL PR F_cmp_Less_uint64 [t24_157, t29_158] w2.drew k_) w2.drew fun t30_159 w3 =>
  BND (grd (isB t19_149 true) (unv .not t30_159)) fun t31_160 =>
  BND (pickv t19_149 t31_160 (Value.bool false)) fun t32_161 =>
  COND t32_161
  (BND (binv .int .add A_130 (Value.int .i64 1)) fun t34_162 =>
  (J_129 t34_162 w3 ∧ m_129 t34_162 w3 < m_129 A_130 w2))
  (BND (binv .int .eql A_130 s_p2) fun t37_163 =>
  COND t37_163
  (R (Value.bool true) w3)
  (BND (binv .int .sub s_p2 i_p1) fun t40_164 =>
  BND (binv .int .lss t40_164 (Value.int .i64 50)) fun t41_165 =>
  COND t41_165
  (R (Value.bool false) w3)
  (BND (binv .int .sub A_130 (Value.int .i64 1)) fun t46_166 =>
  BND (binv .int .sub A_130 (Value.int .i64 1)) fun t49_167 =>
  BND (iaddr 1 L_p0 t49_167) fun t50_168 =>
  BND (iaddr 1 L_p0 A_130) fun t54_169 =>
  BND (load1 w3.drew t50_168) fun t51_170 =>
  BND (load1 w3.drew t54_169) fun t55_171 =>
  BND (iaddr 1 L_p0 A_130) fun t56_172 =>
  BND (storev 1 w3.drew t56_172 t51_170) fun w4 =>
  BND (iaddr 1 L_p0 t46_166) fun t57_173 =>
  BND (storev 1 w4 t57_173 t55_171) fun w5 =>
  BND (binv .int .sub A_130 i_p1) fun t60_174 =>
  BND (binv .int .geq t60_174 (Value.int .i64 2)) fun t61_175 =>
  JOIN (α := World → Prop) (fun k_301 => COND t61_175
  (BND (binv .int .sub A_130 (Value.int .i64 1)) fun t63_302 =>
  ∃ (J_303 : Value → World → Prop) (m_303 : Value → World → Nat), J_303 t63_302 w5 ∧ ∀ (_d_303 : Env) (r_304 : Value) (w12 : World), J_303 r_304 w12 →
  (BND (binv .int .geq r_304 (Value.int .i64 1)) fun t65_336 =>
  COND t65_336
  (BND (iaddr 1 L_p0 r_304) fun t70_337 =>
  BND (binv .int .sub r_304 (Value.int .i64 1)) fun t74_338 =>
  BND (iaddr 1 L_p0 t74_338) fun t75_339 =>
  BND (load1 w12.drew t70_337) fun t71_340 =>
  BND (load1 w12.drew t75_339) fun t76_341 =>
  CALL PR F_cmp_Less_uint64 [t71_340, t76_341] w12.drew fun t77_342 w13 =>
  BND (unv .not t77_342) fun t78_343 =>
  COND t78_343
  (k_301 w13)
  (BND (binv .int .sub r_304 (Value.int .i64 1)) fun t83_344 =>
  BND (binv .int .sub r_304 (Value.int .i64 1)) fun t86_345 =>
  BND (iaddr 1 L_p0 t86_345) fun t87_346 =>
  BND (iaddr 1 L_p0 r_304) fun t91_347 =>
  BND (load1 w13.drew t87_346) fun t88_348 =>
  BND (load1 w13.drew t91_347) fun t92_349 =>
  BND (iaddr 1 L_p0 r_304) fun t93_350 =>
  BND (storev 1 w13.drew t93_350 t88_348) fun w14 =>
  BND (iaddr 1 L_p0 t83_344) fun t94_351 =>
  BND (storev 1 w14 t94_351 t92_349) fun w15 =>
  BND (binv .int .sub r_304 (Value.int .i64 1)) fun t67_352 =>
  (J_303 t67_352 w15 ∧ m_303 t67_352 w15 < m_303 r_304 w12)))
  (k_301 w12)))
  (k_301 w5))
  (fun w6 => BND (binv .int .sub s_p2 A_130) fun t97_210 =>
  BND (binv .int .geq t97_210 (Value.int .i64 2)) fun t98_211 =>
  JOIN (α := World → Prop) (fun k_248 => COND t98_211
  (BND (binv .int .add A_130 (Value.int .i64 1)) fun t100_249 =>
  ∃ (J_250 : Value → World → Prop) (m_250 : Value → World → Nat), J_250 t100_249 w6 ∧ ∀ (_d_250 : Env) (a_251 : Value) (w8 : World), J_250 a_251 w8 →
  (BND (binv .int .lss a_251 s_p2) fun t103_284 =>
  COND t103_284
  (BND (iaddr 1 L_p0 a_251) fun t108_285 =>
  BND (binv .int .sub a_251 (Value.int .i64 1)) fun t112_286 =>
  BND (iaddr 1 L_p0 t112_286) fun t113_287 =>
  BND (load1 w8.drew t108_285) fun t109_288 =>
  BND (load1 w8.drew t113_287) fun t114_289 =>
  CALL PR F_cmp_Less_uint64 [t109_288, t114_289] w8.drew fun t115_290 w9 =>
  BND (unv .not t115_290) fun t116_291 =>
  COND t116_291
  (k_248 w9)
  (BND (binv .int .sub a_251 (Value.int .i64 1)) fun t121_292 =>
  BND (binv .int .sub a_251 (Value.int .i64 1)) fun t124_293 =>
  BND (iaddr 1 L_p0 t124_293) fun t125_294 =>
  BND (iaddr 1 L_p0 a_251) fun t129_295 =>
  BND (load1 w9.drew t125_294) fun t126_296 =>
  BND (load1 w9.drew t129_295) fun t130_297 =>
  BND (iaddr 1 L_p0 a_251) fun t131_298 =>
  BND (storev 1 w9.drew t131_298 t126_296) fun w10 =>
  BND (iaddr 1 L_p0 t121_292) fun t132_299 =>
  BND (storev 1 w10 t132_299 t130_297) fun w11 =>
  BND (binv .int .add a_251 (Value.int .i64 1)) fun t105_300 =>
  (J_250 t105_300 w11 ∧ m_250 t105_300 w11 < m_250 a_251 w8)))
  (k_248 w8)))
  (k_248 w6))
  (fun w7 => BND (binv .int .add r_5 (Value.int .i64 1)) fun t16_247 =>
  (J_2 A_130 t16_247 w7 ∧ m_2 A_130 t16_247 w7 < m_2 A_4 r_5 w1))))))))
  (R (Value.bool false) w1))
def ann_slices_partialInsertionSortOrdered_uint64 : List (Nat × List Nat) := [(5, [0, 1, 2, 3, 4, 5, 6, 8, 9, 10, 11, 7, 12, 13, 14, 15]), (11, [0, 1, 2, 3, 4, 5, 6, 7, 8, 10, 11, 12, 9, 13, 14, 15, 16, 17]), (16, [0, 1, 2, 4, 5, 6, 7, 3, 8, 9, 10]), (17, [0, 1, 2, 3, 4, 5, 6, 7, 8, 10, 11, 12, 9, 13, 14, 15, 16, 17]), (22, [0, 1, 2, 4, 5, 6, 7, 3, 8, 9, 10]), (23, [0, 1, 2, 3, 4, 5, 6, 7, 8, 10, 11, 12, 9, 13, 14, 15, 16, 17]), (1000003, [7, 8]), (1000005, [7]), (1000014, [9]), (1000020, [10])]
theorem E_slices_partialInsertionSortOrdered_uint64 (L_p0 i_p1 s_p2 : Value) (w : World) (R : Value → World → Prop) : M_slices_partialInsertionSortOrdered_uint64 L_p0 i_p1 s_p2 w R = den PR ann_slices_partialInsertionSortOrdered_uint64 (bodyOf Try.f52) (retQ PR Try.f52.results.toList R) (env0 [L_p0, i_p1, s_p2]) w := by kernel_rfl
theorem C_slices_partialInsertionSortOrdered_uint64 {L_p0 i_p1 s_p2 : Value} {w : World} {R : Value → World → Prop} (h : M_slices_partialInsertionSortOrdered_uint64 L_p0 i_p1 s_p2 w R) : CALL PR F_slices_partialInsertionSortOrdered_uint64 [L_p0, i_p1, s_p2] w R :=
  call_of_den2 ann_slices_partialInsertionSortOrdered_uint64 Try.func52 (by kernel_rfl) (by kernel_rfl) (by kernel_rfl) ((E_slices_partialInsertionSortOrdered_uint64 L_p0 i_p1 s_p2 w R) ▸ h)


-- 53 cmp.Less[uint64]
def M_cmp_Less_uint64 (x_p0 y_p1 : Value) (w : World) (R : Value → World → Prop) : Prop :=
  CALL PR F_cmp_isNaN_uint64 [x_p0] w fun t6_1 w1 =>
  BND (grd (isB t6_1 true) (some y_p1)) fun t8_2 =>
  GEF (isB t6_1 true) (fun k_ => CALL PR F_cmp_isNaN_uint64 [t8_2] w1 k_) w1 fun t9_3 w2 =>
  BND (grd (isB t6_1 true) (unv .not t9_3)) fun t10_4 =>
  BND (pickv t6_1 t10_4 (Value.bool false)) fun t11_5 =>
  BND (grd (isB t11_5 false) (some x_p0)) fun t13_6 =>
  BND (grd (isB t11_5 false) (some y_p1)) fun t14_7 =>
  BND (grd (isB t11_5 false) (binv .int .lss t13_6 t14_7)) fun t15_8 =>
  BND (pickv t11_5 (Value.bool true) t15_8) fun t16_9 =>
  R t16_9 w2
def ann_cmp_Less_uint64 : List (Nat × List Nat) := []
theorem E_cmp_Less_uint64 (x_p0 y_p1 : Value) (w : World) (R : Value → World → Prop) : M_cmp_Less_uint64 x_p0 y_p1 w R = den PR ann_cmp_Less_uint64 (bodyOf Try.f53) (retQ PR Try.f53.results.toList R) (env0 [x_p0, y_p1]) w := by kernel_rfl
theorem C_cmp_Less_uint64 {x_p0 y_p1 : Value} {w : World} {R : Value → World → Prop} (h : M_cmp_Less_uint64 x_p0 y_p1 w R) : CALL PR F_cmp_Less_uint64 [x_p0, y_p1] w R :=
  call_of_den2 ann_cmp_Less_uint64 Try.func53 (by kernel_rfl) (by kernel_rfl) (by kernel_rfl) ((E_cmp_Less_uint64 x_p0 y_p1 w R) ▸ h)


-- 54 slices.partitionEqualOrdered[uint64]
def M_slices_partitionEqualOrdered_uint64 (L_p0 i_p1 s_p2 t_p3 : Value) (w : World) (R : Value → World → Prop) : Prop :=
  BND (iaddr 1 L_p0 t_p3) fun t17_1 =>
  BND (iaddr 1 L_p0 i_p1) fun t21_2 =>
  BND (load1 w.drew t17_1) fun t18_3 =>
  BND (load1 w.drew t21_2) fun t22_4 =>
  BND (iaddr 1 L_p0 i_p1) fun t23_5 =>
  BND (storev 1 w.drew t23_5 t18_3) fun w1 =>
  BND (iaddr 1 L_p0 t_p3) fun t24_6 =>
  BND (storev 1 w1 t24_6 t22_4) fun w2 =>
  BND (binv .int .add i_p1 (Value.int .i64 1)) fun t26_7 =>
  BND (binv .int .sub s_p2 (Value.int .i64 1)) fun t28_8 =>
  ∃ (J_9 : Value → Value → World → Prop) (m_9 : Value → Value → World → Nat), J_9 t26_7 t28_8 w2 ∧ ∀ (_d_9 : Env) (r_10 a_11 : Value) (w3 : World), J_9 r_10 a_11 w3 →
  (∃ (J_66 : Value → World → Prop) (m_66 : Value → World → Nat), J_66 r_10 w3 ∧ ∀ (_d_66 : Env) (r_67 : Value) (w4 : World), J_66 r_67 w4 →
  (BND (binv .int .leq r_67 a_11) fun t31_85 =>
  BND (grd (isB t31_85 true) (some L_p0)) fun t33_86 =>
  BND (grd (isB t31_85 true) (some i_p1)) fun t34_87 =>
  BND (grd (isB t31_85 true) (iaddr 1 t33_86 t34_87)) fun t35_88 =>
  BND (grd (isB t31_85 true) (some L_p0)) fun t37_89 =>
  BND (grd (isB t31_85 true) (some r_67)) fun t38_90 =>
  BND (grd (isB t31_85 true) (iaddr 1 t37_89 t38_90)) fun t39_91 =>
  BND (grd (isB t31_85 true) (load1 w4.drew t35_88)) fun t36_92 =>
  BND (grd (isB t31_85 true) (load1 w4.drew t39_91)) fun t40_93 =>
  GEF (isB t31_85 true) (fun k_ => CALL PR F_cmp_Less_uint64 [t36_92, t40_93] w4.drew k_) w4.drew fun t41_94 w5 =>
  BND (grd (isB t31_85 true) (unv .not t41_94)) fun t42_95 =>
  BND (pickv t31_85 t42_95 (Value.bool false)) fun t43_96 =>
  COND t43_96
  (BND (binv .int .add r_67 (Value.int .i64 1)) fun t45_97 =>
  (J_66 t45_97 w5 ∧ m_66 t45_97 w5 < m_66 r_67 w4))
  (∃ (J_98 : Value → World → Prop) (m_98 : Value → World → Nat), J_98 a_11 w5 ∧ ∀ (_d_98 : Env) (a_99 : Value) (w6 : World), J_98 a_99 w6 →
  (BND (binv .int .leq r_67 a_99) fun t48_116 =>
  BND (grd (isB t48_116 true) (some L_p0)) fun t50_117 =>
  BND (grd (isB t48_116 true) (some i_p1)) fun t51_118 =>
  BND (grd (isB t48_116 true) (iaddr 1 t50_117 t51_118)) fun t52_119 =>
  BND (grd (isB t48_116 true) (some L_p0)) fun t54_120 =>
  BND (grd (isB t48_116 true) (some a_99)) fun t55_121 =>
  BND (grd (isB t48_116 true) (iaddr 1 t54_120 t55_121)) fun t56_122 =>
  BND (grd (isB t48_116 true) (load1 w6.drew t52_119)) fun t53_123 =>
  BND (grd (isB t48_116 true) (load1 w6.drew t56_122)) fun t57_124 =>
  GEF (isB t48_116 true) (fun k_ => CALL PR F_cmp_Less_uint64 [t53_123, t57_124] w6.drew k_) w6.drew fun t58_125 w7 =>
  BND (pickv t48_116 t58_125 (Value.bool false)) fun t59_126 =>
  COND t59_126
  (BND (binv .int .sub a_99 (Value.int .i64 1)) fun t61_127 =>
  (J_98 t61_127 w7 ∧ m_98 t61_127 w7 < m_98 a_99 w6))
  (BND (binv .int .gtr r_67 a_99) fun t64_128 =>
  COND t64_128
  (R r_67 w7)
  (BND (iaddr 1 L_p0 a_99) fun t71_129 =>
  BND (iaddr 1 L_p0 r_67) fun t75_130 =>
  BND (load1 w7.drew t71_129) fun t72_131 =>
  BND (load1 w7.drew t75_130) fun t76_132 =>
  BND (iaddr 1 L_p0 r_67) fun t77_133 =>
  BND (storev 1 w7.drew t77_133 t72_131) fun w8 =>
  BND (iaddr 1 L_p0 a_99) fun t78_134 =>
  BND (storev 1 w8 t78_134 t76_132) fun w9 =>
  BND (binv .int .add r_67 (Value.int .i64 1)) fun t80_135 =>
  BND (binv .int .sub a_99 (Value.int .i64 1)) fun t82_136 =>
  (J_9 t80_135 t82_136 w9 ∧ m_9 t80_135 t82_136 w9 < m_9 r_10 a_11 w3)))))))
def ann_slices_partitionEqualOrdered_uint64 : List (Nat × List Nat) := [(1, [0, 1, 2, 3, 4, 5, 6, 8, 9, 10, 7, 11, 12, 13, 14, 15]), (3, [0, 1, 2, 3, 4, 5, 6, 8, 9, 10, 7, 11, 12, 13, 14]), (5, [0, 1, 2, 3, 4, 5, 6, 8, 9, 10, 7, 11, 12, 13]), (8, [0, 1, 2, 3, 4, 5, 6, 8, 9, 10, 7, 11, 12, 13, 14, 15]), (1000003, [9]), (1000005, [10]), (1100003, [9, 10])]
theorem E_slices_partitionEqualOrdered_uint64 (L_p0 i_p1 s_p2 t_p3 : Value) (w : World) (R : Value → World → Prop) : M_slices_partitionEqualOrdered_uint64 L_p0 i_p1 s_p2 t_p3 w R = den PR ann_slices_partitionEqualOrdered_uint64 (bodyOf Try.f54) (retQ PR Try.f54.results.toList R) (env0 [L_p0, i_p1, s_p2, t_p3]) w := by kernel_rfl
theorem C_slices_partitionEqualOrdered_uint64 {L_p0 i_p1 s_p2 t_p3 : Value} {w : World} {R : Value → World → Prop} (h : M_slices_partitionEqualOrdered_uint64 L_p0 i_p1 s_p2 t_p3 w R) : CALL PR F_slices_partitionEqualOrdered_uint64 [L_p0, i_p1, s_p2, t_p3] w R :=
  call_of_den2 ann_slices_partitionEqualOrdered_uint64 Try.func54 (by kernel_rfl) (by kernel_rfl) (by kernel_rfl) ((E_slices_partitionEqualOrdered_uint64 L_p0 i_p1 s_p2 t_p3 w R) ▸ h)


-- 55 slices.partitionOrdered[uint64]
def M_slices_partitionOrdered_uint64 (L_p0 i_p1 s_p2 t_p3 : Value) (w : World) (R : Value → World → Prop) : Prop :=
  BND (iaddr 1 L_p0 t_p3) fun t18_1 =>
  BND (iaddr 1 L_p0 i_p1) fun t22_2 =>
  BND (load1 w.drew t18_1) fun t19_3 =>
  BND (load1 w.drew t22_2) fun t23_4 =>
  BND (iaddr 1 L_p0 i_p1) fun t24_5 =>
  BND (storev 1 w.drew t24_5 t19_3) fun w1 =>
  BND (iaddr 1 L_p0 t_p3) fun t25_6 =>
  BND (storev 1 w1 t25_6 t23_4) fun w2 =>
  BND (binv .int .add i_p1 (Value.int .i64 1)) fun t27_7 =>
  BND (binv .int .sub s_p2 (Value.int .i64 1)) fun t29_8 =>
  ∃ (J_9 : Value → World → Prop) (m_9 : Value → World → Nat), J_9 t27_7 w2 ∧ ∀ (_d_9 : Env) (a_10 : Value) (w3 : World), J_9 a_10 w3 →
  (BND (binv .int .leq a_10 t29_8) fun t32_27 =>
  BND (grd (isB t32_27 true) (some L_p0)) fun t34_28 =>
  BND (grd (isB t32_27 true) (some a_10)) fun t35_29 =>
  BND (grd (isB t32_27 true) (iaddr 1 t34_28 t35_29)) fun t36_30 =>
  BND (grd (isB t32_27 true) (some L_p0)) fun t38_31 =>
  BND (grd (isB t32_27 true) (some i_p1)) fun t39_32 =>
  BND (grd (isB t32_27 true) (iaddr 1 t38_31 t39_32)) fun t40_33 =>
  BND (grd (isB t32_27 true) (load1 w3.drew t36_30)) fun t37_34 =>
  BND (grd (isB t32_27 true) (load1 w3.drew t40_33)) fun t41_35 =>
  GEF (isB t32_27 true) (fun k_ => CALL PR F_cmp_Less_uint64 [t37_34, t41_35] w3.drew k_) w3.drew fun t42_36 w4 =>
  BND (pickv t32_27 t42_36 (Value.bool false)) fun t43_37 =>
  COND t43_37
  (BND (binv .int .add a_10 (Value.int .i64 1)) fun t45_38 =>
  (J_9 t45_38 w4 ∧ m_9 t45_38 w4 < m_9 a_10 w3))
  (∃ (J_39 : Value → World → Prop) (m_39 : Value → World → Nat), J_39 t29_8 w4 ∧ ∀ (_d_39 : Env) (y_40 : Value) (w5 : World), J_39 y_40 w5 →
  (BND (binv .int .leq a_10 y_40) fun t48_58 =>
  BND (grd (isB t48_58 true) (some L_p0)) fun t50_59 =>
  BND (grd (isB t48_58 true) (some y_40)) fun t51_60 =>
  BND (grd (isB t48_58 true) (iaddr 1 t50_59 t51_60)) fun t52_61 =>
  BND (grd (isB t48_58 true) (some L_p0)) fun t54_62 =>
  BND (grd (isB t48_58 true) (some i_p1)) fun t55_63 =>
  BND (grd (isB t48_58 true) (iaddr 1 t54_62 t55_63)) fun t56_64 =>
  BND (grd (isB t48_58 true) (load1 w5.drew t52_61)) fun t53_65 =>
  BND (grd (isB t48_58 true) (load1 w5.drew t56_64)) fun t57_66 =>
  GEF (isB t48_58 true) (fun k_ => CALL PR F_cmp_Less_uint64 [t53_65, t57_66] w5.drew k_) w5.drew fun t58_67 w6 =>
  BND (grd (isB t48_58 true) (unv .not t58_67)) fun t59_68 =>
  BND (pickv t48_58 t59_68 (Value.bool false)) fun t60_69 =>
  COND t60_69
  (BND (binv .int .sub y_40 (Value.int .i64 1)) fun t62_70 =>
  (J_39 t62_70 w6 ∧ m_39 t62_70 w6 < m_39 y_40 w5))
  (BND (binv .int .gtr a_10 y_40) fun t65_71 =>
  COND t65_71
  (BND (iaddr 1 L_p0 i_p1) fun t72_72 =>
  BND (iaddr 1 L_p0 y_40) fun t76_73 =>
  BND (load1 w6.drew t72_72) fun t73_74 =>
  BND (load1 w6.drew t76_73) fun t77_75 =>
  BND (iaddr 1 L_p0 y_40) fun t78_76 =>
  BND (storev 1 w6.drew t78_76 t73_74) fun w7 =>
  BND (iaddr 1 L_p0 i_p1) fun t79_77 =>
  BND (storev 1 w7 t79_77 t77_75) fun w8 =>
  R (.tuple #[y_40, (Value.bool true)]) w8)
  (BND (iaddr 1 L_p0 y_40) fun t87_78 =>
  BND (iaddr 1 L_p0 a_10) fun t91_79 =>
  BND (load1 w6.drew t87_78) fun t88_80 =>
  BND (load1 w6.drew t91_79) fun t92_81 =>
  BND (iaddr 1 L_p0 a_10) fun t93_82 =>
  BND (storev 1 w6.drew t93_82 t88_80) fun w9 =>
  BND (iaddr 1 L_p0 y_40) fun t94_83 =>
  BND (storev 1 w9 t94_83 t92_81) fun w10 =>
  BND (binv .int .add a_10 (Value.int .i64 1)) fun t96_84 =>
  BND (binv .int .sub y_40 (Value.int .i64 1)) fun t98_85 =>
  ∃ (J_86 : Value → Value → World → Prop) (m_86 : Value → Value → World → Nat), J_86 t96_84 t98_85 w10 ∧ ∀ (_d_86 : Env) (a_87 y_88 : Value) (w11 : World), J_86 a_87 y_88 w11 →
  (∃ (J_143 : Value → World → Prop) (m_143 : Value → World → Nat), J_143 a_87 w11 ∧ ∀ (_d_143 : Env) (a_144 : Value) (w12 : World), J_143 a_144 w12 →
  (BND (binv .int .leq a_144 y_88) fun t101_161 =>
  BND (grd (isB t101_161 true) (some L_p0)) fun t103_162 =>
  BND (grd (isB t101_161 true) (some a_144)) fun t104_163 =>
  BND (grd (isB t101_161 true) (iaddr 1 t103_162 t104_163)) fun t105_164 =>
  BND (grd (isB t101_161 true) (some L_p0)) fun t107_165 =>
  BND (grd (isB t101_161 true) (some i_p1)) fun t108_166 =>
  BND (grd (isB t101_161 true) (iaddr 1 t107_165 t108_166)) fun t109_167 =>
  BND (grd (isB t101_161 true) (load1 w12.drew t105_164)) fun t106_168 =>
  BND (grd (isB t101_161 true) (load1 w12.drew t109_167)) fun t110_169 =>
  GEF (isB t101_161 true) (fun k_ => CALL PR F_cmp_Less_uint64 [t106_168, t110_169] w12.drew k_) w12.drew fun t111_170 w13 =>
  BND (pickv t101_161 t111_170 (Value.bool false)) fun t112_171 =>
  COND t112_171
  (BND (binv .int .add a_144 (Value.int .i64 1)) fun t114_172 =>
  (J_143 t114_172 w13 ∧ m_143 t114_172 w13 < m_143 a_144 w12))
  (∃ (J_173 : Value → World → Prop) (m_173 : Value → World → Nat), J_173 y_88 w13 ∧ ∀ (_d_173 : Env) (y_174 : Value) (w14 : World), J_173 y_174 w14 →
  (BND (binv .int .leq a_144 y_174) fun t117_192 =>
  BND (grd (isB t117_192 true) (some L_p0)) fun t119_193 =>
  BND (grd (isB t117_192 true) (some y_174)) fun t120_194 =>
  BND (grd (isB t117_192 true) (iaddr 1 t119_193 t120_194)) fun t121_195 =>
  BND (grd (isB t117_192 true) (some L_p0)) fun t123_196 =>
  BND (grd (isB t117_192 true) (some i_p1)) fun t124_197 =>
  BND (grd (isB t117_192 true) (iaddr 1 t123_196 t124_197)) fun t125_198 =>
  BND (grd (isB t117_192 true) (load1 w14.drew t121_195)) fun t122_199 =>
  BND (grd (isB t117_192 true) (load1 w14.drew t125_198)) fun t126_200 =>
  GEF (isB t117_192 true) (fun k_ => CALL PR F_cmp_Less_uint64 [t122_199, t126_200] w14.drew k_) w14.drew fun t127_201 w15 =>
  BND (grd (isB t117_192 true) (unv .not t127_201)) fun t128_202 =>
  BND (pickv t117_192 t128_202 (Value.bool false)) fun t129_203 =>
  COND t129_203
  (BND (binv .int .sub y_174 (Value.int .i64 1)) fun t131_204 =>
  (J_173 t131_204 w15 ∧ m_173 t131_204 w15 < m_173 y_174 w14))
  (BND (binv .int .gtr a_144 y_174) fun t134_205 =>
  COND t134_205
  (BND (iaddr 1 L_p0 i_p1) fun t159_206 =>
  BND (iaddr 1 L_p0 y_174) fun t163_207 =>
  BND (load1 w15.drew t159_206) fun t160_208 =>
  BND (load1 w15.drew t163_207) fun t164_209 =>
  BND (iaddr 1 L_p0 y_174) fun t165_210 =>
  BND (storev 1 w15.drew t165_210 t160_208) fun w16 =>
  BND (iaddr 1 L_p0 i_p1) fun t166_211 =>
  BND (storev 1 w16 t166_211 t164_209) fun w17 =>
  R (.tuple #[y_174, (Value.bool false)]) w17)
  (BND (iaddr 1 L_p0 y_174) fun t141_212 =>
  BND (iaddr 1 L_p0 a_144) fun t145_213 =>
  BND (load1 w15.drew t141_212) fun t142_214 =>
  BND (load1 w15.drew t145_213) fun t146_215 =>
  BND (iaddr 1 L_p0 a_144) fun t147_216 =>
  BND (storev 1 w15.drew t147_216 t142_214) fun w18 =>
  BND (iaddr 1 L_p0 y_174) fun t148_217 =>
  BND (storev 1 w18 t148_217 t146_215) fun w19 =>
  BND (binv .int .add a_144 (Value.int .i64 1)) fun t150_218 =>
  BND (binv .int .sub y_174 (Value.int .i64 1)) fun t152_219 =>
  (J_86 t150_218 t152_219 w19 ∧ m_86 t150_218 t152_219 w19 < m_86 a_87 y_88 w11))))))))))))
def ann_slices_partitionOrdered_uint64 : List (Nat × List Nat) := [(1, [0, 1, 2, 3, 4, 5, 6, 8, 9, 10, 7, 11, 12, 13, 14, 15]), (3, [0, 1, 2, 3, 4, 5, 6, 8, 9, 10, 7, 11, 12, 13]), (5, [0, 1, 2, 3, 4, 5, 6, 8, 9, 10, 7, 11, 12, 13, 14]), (8, [0, 1, 2, 3, 4, 5, 6, 8, 9, 10, 7, 11, 12, 13, 14, 15]), (10, [0, 1, 2, 3, 4, 5, 6, 8, 9, 10, 7, 11, 12, 13, 14, 15]), (13, [0, 1, 2, 3, 4, 5, 6, 8, 9, 10, 7, 11, 12, 13]), (15, [0, 1, 2, 3, 4, 5, 6, 8, 9, 10, 7, 11, 12, 13, 14]), (18, [0, 1, 2, 3, 4, 5, 6, 8, 9, 10, 7, 11, 12, 13, 14, 15]), (21, [0, 1, 2, 3, 4, 5, 6, 8, 9, 10, 7, 11, 12, 13, 14, 15]), (1000003, [10]), (1000005, [11]), (1000013, [10]), (1000015, [11]), (1100013, [10, 11])]
theorem E_slices_partitionOrdered_uint64 (L_p0 i_p1 s_p2 t_p3 : Value) (w : World) (R : Value → World → Prop) : M_slices_partitionOrdered_uint64 L_p0 i_p1 s_p2 t_p3 w R = den PR ann_slices_partitionOrdered_uint64 (bodyOf Try.f55) (retQ PR Try.f55.results.toList R) (env0 [L_p0, i_p1, s_p2, t_p3]) w := by kernel_rfl
theorem C_slices_partitionOrdered_uint64 {L_p0 i_p1 s_p2 t_p3 : Value} {w : World} {R : Value → World → Prop} (h : M_slices_partitionOrdered_uint64 L_p0 i_p1 s_p2 t_p3 w R) : CALL PR F_slices_partitionOrdered_uint64 [L_p0, i_p1, s_p2, t_p3] w R :=
  call_of_den2 ann_slices_partitionOrdered_uint64 Try.func55 (by kernel_rfl) (by kernel_rfl) (by kernel_rfl) ((E_slices_partitionOrdered_uint64 L_p0 i_p1 s_p2 t_p3 w R) ▸ h)


-- 56 math.bits.Len32
def M_math_bits_Len32 (x_p0 : Value) (w : World) (R : Value → World → Prop) : Prop :=
  BND (binv .int .geq x_p0 (Value.int .u32 65536)) fun t4_1 =>
  JOIN (α := Value → Value → World → Prop) (fun k_20 => COND t4_1
  (BND (shiftv .shr x_p0 (Value.int .u64 16)) fun t6_21 =>
  k_20 t6_21 (Value.int .i64 16) w)
  (k_20 x_p0 (Value.int .i64 0) w))
  (fun x_2 n_3 w1 => BND (binv .int .geq x_2 (Value.int .u32 256)) fun t8_6 =>
  JOIN (α := Value → Value → World → Prop) (fun k_17 => COND t8_6
  (BND (shiftv .shr x_2 (Value.int .u64 8)) fun t10_18 =>
  BND (binv .int .add n_3 (Value.int .i64 8)) fun t12_19 =>
  k_17 t10_18 t12_19 w1)
  (k_17 x_2 n_3 w1))
  (fun x_7 n_8 w2 => BND (convi .u8 x_7) fun t15_13 =>
  BND (indexs (Value.string { data := (List.toArray (List.append (List.append [0, 1, 2, 2, 3, 3, 3, 3, 4, 4, 4, 4, 4, 4, 4, 4, 5, 5, 5, 5, 5, 5, 5, 5, 5, 5, 5, 5, 5, 5, 5, 5, 6, 6, 6, 6, 6, 6, 6, 6, 6, 6, 6, 6, 6, 6, 6, 6, 6, 6, 6, 6, 6, 6, 6, 6, 6, 6, 6, 6, 6, 6, 6, 6] [7, 7, 7, 7, 7, 7, 7, 7, 7, 7, 7, 7, 7, 7, 7, 7, 7, 7, 7, 7, 7, 7, 7, 7, 7, 7, 7, 7, 7, 7, 7, 7, 7, 7, 7, 7, 7, 7, 7, 7, 7, 7, 7, 7, 7, 7, 7, 7, 7, 7, 7, 7, 7, 7, 7, 7, 7, 7, 7, 7, 7, 7, 7, 7]) (List.append [8, 8, 8, 8, 8, 8, 8, 8, 8, 8, 8, 8, 8, 8, 8, 8, 8, 8, 8, 8, 8, 8, 8, 8, 8, 8, 8, 8, 8, 8, 8, 8, 8, 8, 8, 8, 8, 8, 8, 8, 8, 8, 8, 8, 8, 8, 8, 8, 8, 8, 8, 8, 8, 8, 8, 8, 8, 8, 8, 8, 8, 8, 8, 8] [8, 8, 8, 8, 8, 8, 8, 8, 8, 8, 8, 8, 8, 8, 8, 8, 8, 8, 8, 8, 8, 8, 8, 8, 8, 8, 8, 8, 8, 8, 8, 8, 8, 8, 8, 8, 8, 8, 8, 8, 8, 8, 8, 8, 8, 8, 8, 8, 8, 8, 8, 8, 8, 8, 8, 8, 8, 8, 8, 8, 8, 8, 8, 8]))) }) t15_13) fun t16_14 =>
  BND (convi .i64 t16_14) fun t17_15 =>
  BND (binv .int .add n_8 t17_15) fun t18_16 =>
  R t18_16 w2))
def ann_math_bits_Len32 : List (Nat × List Nat) := []
theorem E_math_bits_Len32 (x_p0 : Value) (w : World) (R : Value → World → Prop) : M_math_bits_Len32 x_p0 w R = den PR ann_math_bits_Len32 (bodyOf Try.f56) (retQ PR Try.f56.results.toList R) (env0 [x_p0]) w := by kernel_rfl
theorem C_math_bits_Len32 {x_p0 : Value} {w : World} {R : Value → World → Prop} (h : M_math_bits_Len32 x_p0 w R) : CALL PR F_math_bits_Len32 [x_p0] w R :=
  call_of_den2 ann_math_bits_Len32 Try.func56 (by kernel_rfl) (by kernel_rfl) (by kernel_rfl) ((E_math_bits_Len32 x_p0 w R) ▸ h)


-- 57 math.bits.Len64
def M_math_bits_Len64 (x_p0 : Value) (w : World) (R : Value → World → Prop) : Prop :=
  BND (binv .int .geq x_p0 (Value.int .u64 4294967296)) fun t4_1 =>
  JOIN (α := Value → Value → World → Prop) (fun k_30 => COND t4_1
  (BND (shiftv .shr x_p0 (Value.int .u64 32)) fun t6_31 =>
  k_30 t6_31 (Value.int .i64 32) w)
  (k_30 x_p0 (Value.int .i64 0) w))
  (fun x_2 n_3 w1 => BND (binv .int .geq x_2 (Value.int .u64 65536)) fun t8_6 =>
  JOIN (α := Value → Value → World → Prop) (fun k_27 => COND t8_6
  (BND (shiftv .shr x_2 (Value.int .u64 16)) fun t10_28 =>
  BND (binv .int .add n_3 (Value.int .i64 16)) fun t12_29 =>
  k_27 t10_28 t12_29 w1)
  (k_27 x_2 n_3 w1))
  (fun x_7 n_8 w2 => BND (binv .int .geq x_7 (Value.int .u64 256)) fun t14_13 =>
  JOIN (α := Value → Value → World → Prop) (fun k_24 => COND t14_13
  (BND (shiftv .shr x_7 (Value.int .u64 8)) fun t16_25 =>
  BND (binv .int .add n_8 (Value.int .i64 8)) fun t18_26 =>
  k_24 t16_25 t18_26 w2)
  (k_24 x_7 n_8 w2))
  (fun x_14 n_15 w3 => BND (convi .u8 x_14) fun t21_20 =>
  BND (indexs (Value.string { data := (List.toArray (List.append (List.append [0, 1, 2, 2, 3, 3, 3, 3, 4, 4, 4, 4, 4, 4, 4, 4, 5, 5, 5, 5, 5, 5, 5, 5, 5, 5, 5, 5, 5, 5, 5, 5, 6, 6, 6, 6, 6, 6, 6, 6, 6, 6, 6, 6, 6, 6, 6, 6, 6, 6, 6, 6, 6, 6, 6, 6, 6, 6, 6, 6, 6, 6, 6, 6] [7, 7, 7, 7, 7, 7, 7, 7, 7, 7, 7, 7, 7, 7, 7, 7, 7, 7, 7, 7, 7, 7, 7, 7, 7, 7, 7, 7, 7, 7, 7, 7, 7, 7, 7, 7, 7, 7, 7, 7, 7, 7, 7, 7, 7, 7, 7, 7, 7, 7, 7, 7, 7, 7, 7, 7, 7, 7, 7, 7, 7, 7, 7, 7]) (List.append [8, 8, 8, 8, 8, 8, 8, 8, 8, 8, 8, 8, 8, 8, 8, 8, 8, 8, 8, 8, 8, 8, 8, 8, 8, 8, 8, 8, 8, 8, 8, 8, 8, 8, 8, 8, 8, 8, 8, 8, 8, 8, 8, 8, 8, 8, 8, 8, 8, 8, 8, 8, 8, 8, 8, 8, 8, 8, 8, 8, 8, 8, 8, 8] [8, 8, 8, 8, 8, 8, 8, 8, 8, 8, 8, 8, 8, 8, 8, 8, 8, 8, 8, 8, 8, 8, 8, 8, 8, 8, 8, 8, 8, 8, 8, 8, 8, 8, 8, 8, 8, 8, 8, 8, 8, 8, 8, 8, 8, 8, 8, 8, 8, 8, 8, 8, 8, 8, 8, 8, 8, 8, 8, 8, 8, 8, 8, 8]))) }) t21_20) fun t22_21 =>
  BND (convi .i64 t22_21) fun t23_22 =>
  BND (binv .int .add n_15 t23_22) fun t24_23 =>
  R t24_23 w3)))
def ann_math_bits_Len64 : List (Nat × List Nat) := []
theorem E_math_bits_Len64 (x_p0 : Value) (w : World) (R : Value → World → Prop) : M_math_bits_Len64 x_p0 w R = den PR ann_math_bits_Len64 (bodyOf Try.f57) (retQ PR Try.f57.results.toList R) (env0 [x_p0]) w := by kernel_rfl
theorem C_math_bits_Len64 {x_p0 : Value} {w : World} {R : Value → World → Prop} (h : M_math_bits_Len64 x_p0 w R) : CALL PR F_math_bits_Len64 [x_p0] w R :=
  call_of_den2 ann_math_bits_Len64 Try.func57 (by kernel_rfl) (by kernel_rfl) (by kernel_rfl) ((E_math_bits_Len64 x_p0 w R) ▸ h)


-- 58 slices.siftDownOrdered[uint64]
def M_slices_siftDownOrdered_uint64 (L_p0 i_p1 s_p2 t_p3 : Value) (w : World) (R : Value → World → Prop) : Prop :=
  ∃ (J_1 : Value → World → Prop) (m_1 : Value → World → Nat), J_1 i_p1 w ∧ ∀ (_d_1 : Env) (r_2 : Value) (w1 : World), J_1 r_2 w1 →
  (BND (binv .int .mul (Value.int .i64 2) r_2) fun t12_69 =>
  BND (binv .int .add t12_69 (Value.int .i64 1)) fun t13_70 =>
  BND (binv .int .geq t13_70 s_p2) fun t16_71 =>
  COND t16_71
  (R (.tuple #[]) w1)
  (BND (binv .int .add t13_70 (Value.int .i64 1)) fun t18_72 =>
  BND (binv .int .lss t18_72 s_p2) fun t20_73 =>
  BND (grd (isB t20_73 true) (some L_p0)) fun t22_74 =>
  BND (grd (isB t20_73 true) (some t_p3)) fun t23_75 =>
  BND (grd (isB t20_73 true) (some t13_70)) fun t24_76 =>
  BND (grd (isB t20_73 true) (binv .int .add t23_75 t24_76)) fun t25_77 =>
  BND (grd (isB t20_73 true) (iaddr 1 t22_74 t25_77)) fun t26_78 =>
  BND (grd (isB t20_73 true) (some L_p0)) fun t28_79 =>
  BND (grd (isB t20_73 true) (some t_p3)) fun t29_80 =>
  BND (grd (isB t20_73 true) (some t13_70)) fun t30_81 =>
  BND (grd (isB t20_73 true) (binv .int .add t29_80 t30_81)) fun t31_82 =>
  BND (grd (isB t20_73 true) (binv .int .add t31_82 (Value.int .i64 1))) fun t32_83 =>
  BND (grd (isB t20_73 true) (iaddr 1 t28_79 t32_83)) fun t33_84 =>
  BND (grd (isB t20_73 true) (load1 w1.drew t26_78)) fun t27_85 =>
  BND (grd (isB t20_73 true) (load1 w1.drew t33_84)) fun t34_86 =>
  GEF (isB t20_73 true) (fun k_ => CALL PR F_cmp_Less_uint64 [t27_85, t34_86] w1.drew k_) w1.drew fun t35_87 w2 =>
  BND (pickv t20_73 t35_87 (Value.bool false)) fun t36_88 =>
  JOIN (α := Value → World → Prop) (fun k_110 => COND t36_88
  (BND (binv .int .add t13_70 (Value.int .i64 1)) fun t38_111 =>
  k_110 t38_111 w2)
  (k_110 t13_70 w2))
  (fun r_89 w3 => BND (binv .int .add t_p3 r_2) fun t42_92 =>
  BND (iaddr 1 L_p0 t42_92) fun t43_93 =>
  BND (binv .int .add t_p3 r_89) fun t48_94 =>
  BND (iaddr 1 L_p0 t48_94) fun t49_95 =>
  BND (load1 w3.drew t43_93) fun t44_96 =>
  BND (load1 w3.drew t49_95) fun t50_97 =>
  CALL PR F_cmp_Less_uint64 [t44_96, t50_97] w3.drew fun t51_98 w4 =>
  BND (unv .not t51_98) fun t52_99 =>
  COND t52_99
  (R (.tuple #[]) w4)
  (BND (binv .int .add t_p3 r_2) fun t56_100 =>
  BND (binv .int .add t_p3 r_89) fun t60_101 =>
  BND (binv .int .add t_p3 r_89) fun t64_102 =>
  BND (iaddr 1 L_p0 t64_102) fun t65_103 =>
  BND (binv .int .add t_p3 r_2) fun t70_104 =>
  BND (iaddr 1 L_p0 t70_104) fun t71_105 =>
  BND (load1 w4.drew t65_103) fun t66_106 =>
  BND (load1 w4.drew t71_105) fun t72_107 =>
  BND (iaddr 1 L_p0 t56_100) fun t73_108 =>
  BND (storev 1 w4.drew t73_108 t66_106) fun w5 =>
  BND (iaddr 1 L_p0 t60_101) fun t74_109 =>
  BND (storev 1 w5 t74_109 t72_107) fun w6 =>
  (J_1 r_89 w6 ∧ m_1 r_89 w6 < m_1 r_2 w1)))))
def ann_slices_siftDownOrdered_uint64 : List (Nat × List Nat) := [(3, [0, 1, 2, 3, 4, 5, 6, 7, 8, 9, 11, 12, 13, 14, 15, 16, 10, 17, 18, 19]), (5, [0, 1, 2, 3, 4, 6, 7, 8, 9, 10, 5, 11, 12, 13]), (6, [0, 1, 2, 3, 4, 5, 6, 7, 8, 9, 10, 11, 12, 14, 15, 16, 17, 18, 13, 19, 20, 21, 22, 23]), (1000001, [8])]
theorem E_slices_siftDownOrdered_uint64 (L_p0 i_p1 s_p2 t_p3 : Value) (w : World) (R : Value → World → Prop) : M_slices_siftDownOrdered_uint64 L_p0 i_p1 s_p2 t_p3 w R = den PR ann_slices_siftDownOrdered_uint64 (bodyOf Try.f58) (retQ PR Try.f58.results.toList R) (env0 [L_p0, i_p1, s_p2, t_p3]) w := by kernel_rfl
theorem C_slices_siftDownOrdered_uint64 {L_p0 i_p1 s_p2 t_p3 : Value} {w : World} {R : Value → World → Prop} (h : M_slices_siftDownOrdered_uint64 L_p0 i_p1 s_p2 t_p3 w R) : CALL PR F_slices_siftDownOrdered_uint64 [L_p0, i_p1, s_p2, t_p3] w R :=
  call_of_den2 ann_slices_siftDownOrdered_uint64 Try.func58 (by kernel_rfl) (by kernel_rfl) (by kernel_rfl) ((E_slices_siftDownOrdered_uint64 L_p0 i_p1 s_p2 t_p3 w R) ▸ h)


-- 59 slices.nextPowerOfTwo
def M_slices_nextPowerOfTwo (length_p0 : Value) (w : World) (R : Value → World → Prop) : Prop :=
  BND (convi .u64 length_p0) fun t4_1 =>
  CALL PR F_math_bits_Len [t4_1] w fun t5_2 w1 =>
  BND (shiftv .shl (Value.int .u64 1) t5_2) fun t6_3 =>
  R t6_3 w1
def ann_slices_nextPowerOfTwo : List (Nat × List Nat) := []
theorem E_slices_nextPowerOfTwo (length_p0 : Value) (w : World) (R : Value → World → Prop) : M_slices_nextPowerOfTwo length_p0 w R = den PR ann_slices_nextPowerOfTwo (bodyOf Try.f59) (retQ PR Try.f59.results.toList R) (env0 [length_p0]) w := by kernel_rfl
theorem C_slices_nextPowerOfTwo {length_p0 : Value} {w : World} {R : Value → World → Prop} (h : M_slices_nextPowerOfTwo length_p0 w R) : CALL PR F_slices_nextPowerOfTwo [length_p0] w R :=
  call_of_den2 ann_slices_nextPowerOfTwo Try.func59 (by kernel_rfl) (by kernel_rfl) (by kernel_rfl) ((E_slices_nextPowerOfTwo length_p0 w R) ▸ h)


-- 60 (*slices.xorshift).Next
def M_slices_xorshift_Next (r_p0 : Value) (w : World) (R : Value → World → Prop) : Prop :=
  BND (nilchk r_p0) fun t4_1 =>
  BND (nilchk r_p0) fun t7_2 =>
  BND (load1 w.drew t4_1) fun t5_3 =>
  BND (load1 w.drew t7_2) fun t8_4 =>
  BND (shiftv .shl t8_4 (Value.int .u64 13)) fun t9_5 =>
  BND (binv .int .xor t5_3 t9_5) fun t10_6 =>
  BND (nilchk r_p0) fun t11_7 =>
  BND (storev 1 w.drew t11_7 t10_6) fun w1 =>
  BND (nilchk r_p0) fun t13_8 =>
  BND (nilchk r_p0) fun t16_9 =>
  BND (load1 w1.drew t13_8) fun t14_10 =>
  BND (load1 w1.drew t16_9) fun t17_11 =>
  BND (shiftv .shr t17_11 (Value.int .u64 7)) fun t18_12 =>
  BND (binv .int .xor t14_10 t18_12) fun t19_13 =>
  BND (nilchk r_p0) fun t20_14 =>
  BND (storev 1 w1.drew t20_14 t19_13) fun w2 =>
  BND (nilchk r_p0) fun t22_15 =>
  BND (nilchk r_p0) fun t25_16 =>
  BND (load1 w2.drew t22_15) fun t23_17 =>
  BND (load1 w2.drew t25_16) fun t26_18 =>
  BND (shiftv .shl t26_18 (Value.int .u64 17)) fun t27_19 =>
  BND (binv .int .xor t23_17 t27_19) fun t28_20 =>
  BND (nilchk r_p0) fun t29_21 =>
  BND (storev 1 w2.drew t29_21 t28_20) fun w3 =>
  BND (nilchk r_p0) fun t31_22 =>
  BND (load1 w3 t31_22) fun t32_23 =>
  R t32_23 w3
def ann_slices_xorshift_Next : List (Nat × List Nat) := [(1, [0, 1, 3, 4, 2, 5, 6, 7, 8, 9]), (2, [0, 1, 3, 4, 2, 5, 6, 7, 8, 9]), (3, [0, 1, 3, 4, 2, 5, 6, 7, 8, 9])]
theorem E_slices_xorshift_Next (r_p0 : Value) (w : World) (R : Value → World → Prop) : M_slices_xorshift_Next r_p0 w R = den PR ann_slices_xorshift_Next (bodyOf Try.f60) (retQ PR Try.f60.results.toList R) (env0 [r_p0]) w := by kernel_rfl
theorem C_slices_xorshift_Next {r_p0 : Value} {w : World} {R : Value → World → Prop} (h : M_slices_xorshift_Next r_p0 w R) : CALL PR F_slices_xorshift_Next [r_p0] w R :=
  call_of_den2 ann_slices_xorshift_Next Try.func60 (by kernel_rfl) (by kernel_rfl) (by kernel_rfl) ((E_slices_xorshift_Next r_p0 w R) ▸ h)


-- 61 slices.medianAdjacentOrdered[uint64]
def M_slices_medianAdjacentOrdered_uint64 (data_p0 a_p1 swaps_p2 : Value) (w : World) (R : Value → World → Prop) : Prop :=
  BND (binv .int .sub a_p1 (Value.int .i64 1)) fun t9_1 =>
  BND (binv .int .add a_p1 (Value.int .i64 1)) fun t12_2 =>
  CALL PR F_slices_medianOrdered_uint64 [data_p0, t9_1, a_p1, t12_2, swaps_p2] w fun t14_3 w1 =>
  R t14_3 w1
def ann_slices_medianAdjacentOrdered_uint64 : List (Nat × List Nat) := []
theorem E_slices_medianAdjacentOrdered_uint64 (data_p0 a_p1 swaps_p2 : Value) (w : World) (R : Value → World → Prop) : M_slices_medianAdjacentOrdered_uint64 data_p0 a_p1 swaps_p2 w R = den PR ann_slices_medianAdjacentOrdered_uint64 (bodyOf Try.f61) (retQ PR Try.f61.results.toList R) (env0 [data_p0, a_p1, swaps_p2]) w := by kernel_rfl
theorem C_slices_medianAdjacentOrdered_uint64 {data_p0 a_p1 swaps_p2 : Value} {w : World} {R : Value → World → Prop} (h : M_slices_medianAdjacentOrdered_uint64 data_p0 a_p1 swaps_p2 w R) : CALL PR F_slices_medianAdjacentOrdered_uint64 [data_p0, a_p1, swaps_p2] w R :=
  call_of_den2 ann_slices_medianAdjacentOrdered_uint64 Try.func61 (by kernel_rfl) (by kernel_rfl) (by kernel_rfl) ((E_slices_medianAdjacentOrdered_uint64 data_p0 a_p1 swaps_p2 w R) ▸ h)


-- 62 slices.medianOrdered[uint64]
def M_slices_medianOrdered_uint64 (data_p0 a_p1 b_p2 c_p3 swaps_p4 : Value) (w : World) (R : Value → World → Prop) : Prop :=
  CALL PR F_slices_order2Ordered_uint64 [data_p0, a_p1, b_p2, swaps_p4] w fun t16_1 w1 =>
  BND (extractv t16_1 0) fun t17_2 =>
  BND (extractv t16_1 1) fun t18_3 =>
  CALL PR F_slices_order2Ordered_uint64 [data_p0, t18_3, c_p3, swaps_p4] w1 fun t24_4 w2 =>
  BND (extractv t24_4 0) fun t25_5 =>
  BND (extractv t24_4 1) fun t26_6 =>
  CALL PR F_slices_order2Ordered_uint64 [data_p0, t17_2, t25_5, swaps_p4] w2 fun t32_7 w3 =>
  BND (extractv t32_7 0) fun t33_8 =>
  BND (extractv t32_7 1) fun t34_9 =>
  R t34_9 w3
def ann_slices_medianOrdered_uint64 : List (Nat × List Nat) := []
theorem E_slices_medianOrdered_uint64 (data_p0 a_p1 b_p2 c_p3 swaps_p4 : Value) (w : World) (R : Value → World → Prop) : M_slices_medianOrdered_uint64 data_p0 a_p1 b_p2 c_p3 swaps_p4 w R = den PR ann_slices_medianOrdered_uint64 (bodyOf Try.f62) (retQ PR Try.f62.results.toList R) (env0 [data_p0, a_p1, b_p2, c_p3, swaps_p4]) w := by kernel_rfl
theorem C_slices_medianOrdered_uint64 {data_p0 a_p1 b_p2 c_p3 swaps_p4 : Value} {w : World} {R : Value → World → Prop} (h : M_slices_medianOrdered_uint64 data_p0 a_p1 b_p2 c_p3 swaps_p4 w R) : CALL PR F_slices_medianOrdered_uint64 [data_p0, a_p1, b_p2, c_p3, swaps_p4] w R :=
  call_of_den2 ann_slices_medianOrdered_uint64 Try.func62 (by kernel_rfl) (by kernel_rfl) (by kernel_rfl) ((E_slices_medianOrdered_uint64 data_p0 a_p1 b_p2 c_p3 swaps_p4 w R) ▸ h)


-- 63 cmp.isNaN[uint64]
def M_cmp_isNaN_uint64 (x_p0 : Value) (w : World) (R : Value → World → Prop) : Prop :=
  BND (binv .int .neq x_p0 x_p0) fun t5_1 =>
  R t5_1 w
def ann_cmp_isNaN_uint64 : List (Nat × List Nat) := []
theorem E_cmp_isNaN_uint64 (x_p0 : Value) (w : World) (R : Value → World → Prop) : M_cmp_isNaN_uint64 x_p0 w R = den PR ann_cmp_isNaN_uint64 (bodyOf Try.f63) (retQ PR Try.f63.results.toList R) (env0 [x_p0]) w := by kernel_rfl
theorem C_cmp_isNaN_uint64 {x_p0 : Value} {w : World} {R : Value → World → Prop} (h : M_cmp_isNaN_uint64 x_p0 w R) : CALL PR F_cmp_isNaN_uint64 [x_p0] w R :=
  call_of_den2 ann_cmp_isNaN_uint64 Try.func63 (by kernel_rfl) (by kernel_rfl) (by kernel_rfl) ((E_cmp_isNaN_uint64 x_p0 w R) ▸ h)


-- 64 slices.order2Ordered[uint64]
def M_slices_order2Ordered_uint64 (data_p0 a_p1 b_p2 swaps_p3 : Value) (w : World) (R : Value → World → Prop) : Prop :=
  BND (iaddr 1 data_p0 b_p2) fun t12_1 =>
  BND (iaddr 1 data_p0 a_p1) fun t16_2 =>
  BND (load1 w.drew t12_1) fun t13_3 =>
  BND (load1 w.drew t16_2) fun t17_4 =>
  CALL PR F_cmp_Less_uint64 [t13_3, t17_4] w.drew fun t18_5 w1 =>
  COND t18_5
  (BND (nilchk swaps_p3) fun t20_6 =>
  BND (load1 w1 t20_6) fun t21_7 =>
  BND (binv .int .add t21_7 (Value.int .i64 1)) fun t22_8 =>
  BND (nilchk swaps_p3) fun t23_9 =>
  BND (storev 1 w1 t23_9 t22_8) fun w2 =>
  R (.tuple #[b_p2, a_p1]) w2)
  (R (.tuple #[a_p1, b_p2]) w1)
def ann_slices_order2Ordered_uint64 : List (Nat × List Nat) := [(1, [0, 1, 2, 4, 5, 6, 3, 7, 8])]
theorem E_slices_order2Ordered_uint64 (data_p0 a_p1 b_p2 swaps_p3 : Value) (w : World) (R : Value → World → Prop) : M_slices_order2Ordered_uint64 data_p0 a_p1 b_p2 swaps_p3 w R = den PR ann_slices_order2Ordered_uint64 (bodyOf Try.f64) (retQ PR Try.f64.results.toList R) (env0 [data_p0, a_p1, b_p2, swaps_p3]) w := by kernel_rfl
theorem C_slices_order2Ordered_uint64 {data_p0 a_p1 b_p2 swaps_p3 : Value} {w : World} {R : Value → World → Prop} (h : M_slices_order2Ordered_uint64 data_p0 a_p1 b_p2 swaps_p3 w R) : CALL PR F_slices_order2Ordered_uint64 [data_p0, a_p1, b_p2, swaps_p3] w R :=
  call_of_den2 ann_slices_order2Ordered_uint64 Try.func64 (by kernel_rfl) (by kernel_rfl) (by kernel_rfl) ((E_slices_order2Ordered_uint64 data_p0 a_p1 b_p2 swaps_p3 w R) ▸ h)

end Go.Proofs.Ytkifjfjhghogjaa
