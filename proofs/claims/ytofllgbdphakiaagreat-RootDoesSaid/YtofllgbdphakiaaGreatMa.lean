/- Printed by denprint.py: the Go function as a predicate, and that it stands for the call. No condition. -/
import Derived.Test.YtofllgbdphakiaaGreatGf
set_option maxRecDepth 100000
set_option linter.unusedVariables false
namespace Go.Proofs.YtofllgbdphakiaaGreat
open Go.Den
-- 3 tumbrel.tumbrellaw16.RootDoes
def M_tumbrellaw16_RootDoes (room_p0 l_p1 : Value) (w : World) (R : Value → World → Prop) : Prop :=
  CALL PR F_tumbrellaw16_awake [] w fun t15_1 w1 =>
  BND (unv .not t15_1) fun t16_2 =>
  COND t16_2
  (R (Value.bool false) w1)
  (CALL PR F_disk_New [room_p0] w1 fun t19_3 w2 =>
  BND (extractv t19_3 0) fun t20_4 =>
  BND (extractv t19_3 1) fun t21_5 =>
  CALL PR F_tumbrelref06_New [room_p0] w2 fun t24_6 w3 =>
  BND (extractv t24_6 0) fun t25_7 =>
  BND (extractv t24_6 1) fun t26_8 =>
  BND (binv .ptr .eql t20_4 (Value.pointer none)) fun t28_9 =>
  BND (grd (isB t28_9 false) (some t25_7)) fun t30_10 =>
  BND (grd (isB t28_9 false) (binv .ptr .eql t30_10 (Value.pointer none))) fun t31_11 =>
  BND (pickv t28_9 (Value.bool true) t31_11) fun t32_12 =>
  BND (grd (isB t32_12 false) (some l_p1)) fun t34_13 =>
  BND (grd (isB t32_12 false) (lenl t34_13)) fun t35_14 =>
  BND (grd (isB t32_12 false) (binv .int .gtr t35_14 (Value.int .i64 40))) fun t36_15 =>
  BND (pickv t32_12 (Value.bool true) t36_15) fun t37_16 =>
  COND t37_16
  (R (Value.bool true) w3)
  (BND (lenl l_p1) fun t39_17 =>
  ∃ (J_18 : Value → World → Prop) (m_18 : Value → World → Nat), J_18 (Value.int .i64 0) w3 ∧ ∀ (_d_18 : Env) (t40_25 : Value) (w4 : World), J_18 t40_25 w4 →
  (BND (binv .int .lss t40_25 t39_17) fun t41_166 =>
  COND t41_166
  (BND (iaddr 10 l_p1 t40_25) fun t42_167 =>
  BND (loadn 10 w4 t42_167) fun t43_168 =>
  NEW (newv 39 w4 (Value.agg #[(Value.int .i64 0), (Value.int .i64 0), (Value.int .u64 0), (Value.int .i64 0), (Value.int .i64 0), (Value.int .i64 0), (Value.int .i64 0), (Value.slice none 0 0), (Value.string ByteArray.empty), (Value.slice none 0 0)])) fun x_169 w5 =>
  BND (storev 10 w5 x_169 t43_168) fun w6 =>
  BND (faddr 7 x_169) fun t44_170 =>
  BND (load1 w6 t44_170) fun t45_171 =>
  BND (lenl t45_171) fun t46_172 =>
  BND (faddr 8 x_169) fun t47_173 =>
  BND (load1 w6 t47_173) fun t48_174 =>
  BND (lens t48_174) fun t49_175 =>
  BND (binv .int .add t46_172 t49_175) fun t50_176 =>
  BND (faddr 9 x_169) fun t51_177 =>
  BND (load1 w6 t51_177) fun t52_178 =>
  BND (lenl t52_178) fun t53_179 =>
  BND (binv .int .add t50_176 t53_179) fun t54_180 =>
  BND (binv .int .gtr t54_180 (Value.int .i64 300)) fun t55_181 =>
  COND t55_181
  (R (Value.bool true) w6)
  (BND (buildv #[(Value.int .u64 0), (Value.int .i64 0), (Value.int .i64 0), (Value.int .i64 0), (Value.int .i64 0)] []) fun t56_182 =>
  BND (buildv #[(Value.int .u64 0), (Value.int .i64 0), (Value.int .i64 0), (Value.int .i64 0), (Value.int .i64 0)] []) fun t57_183 =>
  NEW (newv 35 w6 (Value.agg #[(Value.int .u64 0), (Value.int .i64 0), (Value.int .i64 0), (Value.int .i64 0), (Value.int .i64 0)])) fun a_184 w7 =>
  NEW (newv 42 w7 (Value.agg #[(Value.int .u64 0), (Value.int .i64 0), (Value.int .i64 0), (Value.int .i64 0), (Value.int .i64 0)])) fun b_185 w8 =>
  BND (storev 5 w8 a_184 t56_182) fun w9 =>
  BND (storev 5 w9 b_185 t57_183) fun w10 =>
  BND (faddr 0 x_169) fun t58_186 =>
  BND (load1 w10 t58_186) fun t59_187 =>
  BND (binv .int .eql t59_187 (Value.int .i64 0)) fun t69_188 =>
  JOIN (α := Value → Value → World → Prop) (fun k_304 => COND t69_188
  (∃ S_305 : Nat → World → Prop,
  S_305 6 w10.drew ∧
  BND (faddr 2 x_169) fun t71_306 =>
  BND (faddr 2 x_169) fun t75_307 =>
  FLT (S_305 6) (fun w_ => loadn 5 w_ t75_307) fun t76_308 =>
  BND (loadn 5 w10.drew t71_306) fun t72_309 =>
  CALL PR F_root_Write [t20_4, t72_309] w10.drew fun t73_310 w22 =>
  S_305 6 w22 ∧
  CALL PR F_tumbrellaw16_own [t76_308] w22 fun t77_311 w23 =>
  CALL PR F_tumbrelref16_Write [t25_7, t77_311] w23 fun t78_312 w24 =>
  k_304 t73_310 t78_312 w24)
  (BND (binv .int .eql t59_187 (Value.int .i64 1)) fun t80_313 =>
  JOIN (α := Value → Value → World → Prop) (fun k_380 => COND t80_313
  (CALL PR F_root_Read [t20_4] w10 fun t83_381 w26 =>
  BND (extractv t83_381 0) fun t84_382 =>
  BND (extractv t83_381 1) fun t85_383 =>
  BND (storev 5 w26 a_184 t84_382) fun w27 =>
  CALL PR F_tumbrelref16_Read [t25_7] w27 fun t88_384 w28 =>
  BND (extractv t88_384 0) fun t89_385 =>
  BND (extractv t88_384 1) fun t90_386 =>
  BND (storev 5 w28 b_185 t89_385) fun w29 =>
  k_380 t85_383 t90_386 w29)
  (BND (binv .int .eql t59_187 (Value.int .i64 2)) fun t92_387 =>
  JOIN (α := Value → Value → World → Prop) (fun k_442 => COND t92_387
  (BND (faddr 1 x_169) fun t94_443 =>
  BND (load1 w10 t94_443) fun t95_444 =>
  CALL PR F_disk_Disk_Fuse [t20_4, t95_444] w10 fun t96_445 w31 =>
  BND (faddr 1 x_169) fun t98_446 =>
  BND (load1 w31 t98_446) fun t99_447 =>
  CALL PR F_tumbrelref06_Disk_Fuse [t25_7, t99_447] w31 fun t100_448 w32 =>
  k_442 (Value.int .i64 0) (Value.int .i64 0) w32)
  (BND (binv .int .eql t59_187 (Value.int .i64 3)) fun t102_449 =>
  JOIN (α := Value → Value → World → Prop) (fun k_494 => COND t102_449
  (BND (faddr 1 x_169) fun t104_495 =>
  BND (load1 w10 t104_495) fun t105_496 =>
  BND (faddr 7 x_169) fun t106_497 =>
  BND (load1 w10 t106_497) fun t107_498 =>
  CALL PR F_disk_Disk_Crash [t20_4, t105_496, t107_498] w10 fun t108_499 w34 =>
  BND (faddr 1 x_169) fun t110_500 =>
  BND (load1 w34 t110_500) fun t111_501 =>
  BND (faddr 7 x_169) fun t112_502 =>
  BND (load1 w34 t112_502) fun t113_503 =>
  CALL PR F_tumbrelref06_Disk_Crash [t25_7, t111_501, t113_503] w34 fun t114_504 w35 =>
  k_494 (Value.int .i64 0) (Value.int .i64 0) w35)
  (BND (binv .int .eql t59_187 (Value.int .i64 4)) fun t116_505 =>
  JOIN (α := Value → Value → World → Prop) (fun k_536 => COND t116_505
  (BND (loadn 10 w10 x_169) fun t118_537 =>
  CALL PR F_tumbrellaw16_named [t118_537] w10 fun t119_538 w37 =>
  CALL PR F_disk_Disk_Create [t20_4, t119_538] w37 fun t120_539 w38 =>
  BND (loadn 10 w38 x_169) fun t122_540 =>
  CALL PR F_tumbrellaw16_named [t122_540] w38 fun t123_541 w39 =>
  CALL PR F_tumbrelref06_Disk_Create [t25_7, t123_541] w39 fun t124_542 w40 =>
  ∃ S_543 : Nat → World → Prop,
  S_543 4 w40.drew ∧
  S_543 7 w40.drew ∧
  S_543 10 w40.drew ∧
  BND (faddr 9 x_169) fun t128_544 =>
  FLT (S_543 4) (fun w_ => load1 w_ t128_544) fun t129_545 =>
  FLT (S_543 7) (fun w_ => loadn 10 w_ x_169) fun t132_546 =>
  BND (faddr 9 x_169) fun t134_547 =>
  FLT (S_543 10) (fun w_ => load1 w_ t134_547) fun t135_548 =>
  BND (loadn 10 w40.drew x_169) fun t126_549 =>
  CALL PR F_tumbrellaw16_named [t126_549] w40.drew fun t127_550 w41 =>
  S_543 4 w41 ∧
  S_543 7 w41 ∧
  S_543 10 w41 ∧
  CALL PR F_disk_Disk_Append [t20_4, t127_550, t129_545] w41 fun t130_551 w42 =>
  S_543 7 w42 ∧
  S_543 10 w42 ∧
  CALL PR F_tumbrellaw16_named [t132_546] w42 fun t133_552 w43 =>
  S_543 10 w43 ∧
  CALL PR F_tumbrelref06_Disk_Append [t25_7, t133_552, t135_548] w43 fun t136_553 w44 =>
  k_536 t130_551 t136_553 w44)
  (CALL PR F_disk_Disk_Sync [t20_4, (Value.string { data := #[114, 111, 111, 116] })] w10 fun t61_554 w45 =>
  CALL PR F_tumbrelref06_Disk_Sync [t25_7, (Value.string { data := #[114, 111, 111, 116] })] w45 fun t63_555 w46 =>
  CALL PR F_disk_Disk_DirSync [t20_4] w46 fun t65_556 w47 =>
  CALL PR F_tumbrelref06_Disk_DirSync [t25_7] w47 fun t67_557 w48 =>
  k_536 t65_556 t67_557 w48))
  (fun e_506 f_507 w36 => k_494 e_506 f_507 w36)))
  (fun e_450 f_451 w33 => k_442 e_450 f_451 w33)))
  (fun e_388 f_389 w30 => k_380 e_388 f_389 w30)))
  (fun e_314 f_315 w25 => k_304 e_314 f_315 w25)))
  (fun e_189 f_190 w11 => ∃ S_266 : Nat → World → Prop,
  S_266 6 w11.drew ∧
  S_266 14 w11.drew ∧
  S_266 40 w11.drew ∧
  BND (binv .int .neq e_189 f_190) fun t139_267 =>
  FLT (S_266 6) (fun w_ => (grd (isB t139_267 false) (loadn 5 w_ b_185))) fun t143_268 =>
  BND (grd (isB t139_267 false) (loadn 5 w11.drew a_184)) fun t141_269 =>
  GEF (isB t139_267 false) (fun k_ => CALL PR F_tumbrellaw16_own [t141_269] w11.drew k_) w11.drew fun t142_270 w12 =>
  S_266 6 w12 ∧
  S_266 14 w12 ∧
  S_266 40 w12 ∧
  BND (grd (isB t139_267 false) (eqaggv [(0, (.int .u64)), (1, (.int .i64)), (2, (.int .i64)), (3, (.int .i64)), (4, (.int .i64))] .neq t142_270 t143_268)) fun t144_271 =>
  BND (pickv t139_267 (Value.bool true) t144_271) fun t145_272 =>
  BND (grd (isB t145_272 false) (faddr 2 x_169)) fun t147_273 =>
  BND (grd (isB t145_272 false) (faddr 2 x_169)) fun t150_274 =>
  FLT (S_266 14) (fun w_ => (grd (isB t145_272 false) (loadn 5 w_ t150_274))) fun t151_275 =>
  BND (grd (isB t145_272 false) (loadn 5 w12 t147_273)) fun t148_276 =>
  GEF (isB t145_272 false) (fun k_ => CALL PR F_root_Right [t148_276] w12 k_) w12 fun t149_277 w13 =>
  S_266 14 w13 ∧
  S_266 40 w13 ∧
  GEF (isB t145_272 false) (fun k_ => CALL PR F_tumbrellaw16_own [t151_275] w13 k_) w13 fun t152_278 w14 =>
  S_266 40 w14 ∧
  GEF (isB t145_272 false) (fun k_ => CALL PR F_tumbrelref16_Right [t152_278] w14 k_) w14 fun t153_279 w15 =>
  S_266 40 w15 ∧
  BND (grd (isB t145_272 false) (binv .bool .neq t149_277 t153_279)) fun t154_280 =>
  BND (pickv t145_272 (Value.bool true) t154_280) fun t155_281 =>
  BND (grd (isB t155_281 false) (some t20_4)) fun t157_282 =>
  BND (grd (isB t155_281 false) (some t25_7)) fun t159_283 =>
  GEF (isB t155_281 false) (fun k_ => CALL PR F_disk_Disk_Names [t157_282] w15 k_) w15 fun t158_284 w16 =>
  S_266 40 w16 ∧
  GEF (isB t155_281 false) (fun k_ => CALL PR F_tumbrelref06_Disk_Names [t159_283] w16 k_) w16 fun t160_285 w17 =>
  S_266 40 w17 ∧
  GEF (isB t155_281 false) (fun k_ => CALL PR F_tumbrelref06_Same [t158_284, t160_285] w17 k_) w17 fun t161_286 w18 =>
  S_266 40 w18 ∧
  BND (grd (isB t155_281 false) (unv .not t161_286)) fun t162_287 =>
  BND (pickv t155_281 (Value.bool true) t162_287) fun t163_288 =>
  BND (grd (isB t163_288 false) (some t20_4)) fun t165_289 =>
  BND (grd (isB t163_288 false) (some t25_7)) fun t167_290 =>
  GEF (isB t163_288 false) (fun k_ => CALL PR F_disk_Disk_Held [t165_289] w18 k_) w18 fun t166_291 w19 =>
  S_266 40 w19 ∧
  GEF (isB t163_288 false) (fun k_ => CALL PR F_tumbrelref06_Disk_Held [t167_290] w19 k_) w19 fun t168_292 w20 =>
  S_266 40 w20 ∧
  BND (grd (isB t163_288 false) (binv .int .neq t166_291 t168_292)) fun t169_293 =>
  BND (pickv t163_288 (Value.bool true) t169_293) fun t170_294 =>
  BND (grd (isB t170_294 false) (some t20_4)) fun t172_295 =>
  BND (grd (isB t170_294 false) (some t25_7)) fun t174_296 =>
  BND (grd (isB t170_294 false) (nilchk t174_296)) fun t175_297 =>
  BND (grd (isB t170_294 false) (faddr 4 t175_297)) fun t176_298 =>
  FLT (S_266 40) (fun w_ => (grd (isB t170_294 false) (load1 w_ t176_298))) fun t177_299 =>
  GEF (isB t170_294 false) (fun k_ => CALL PR F_disk_Disk_Down [t172_295] w20 k_) w20 fun t173_300 w21 =>
  S_266 40 w21 ∧
  BND (grd (isB t170_294 false) (binv .bool .neq t173_300 t177_299)) fun t178_301 =>
  BND (pickv t170_294 (Value.bool true) t178_301) fun t179_302 =>
  COND t179_302
  (R (Value.bool false) w21)
  (BND (binv .int .add t40_25 (Value.int .i64 1)) fun t180_303 =>
  (J_18 t180_303 w21 ∧ m_18 t180_303 w21 < m_18 t40_25 w4)))))
  (R (Value.bool true) w4))))
def ann_tumbrellaw16_RootDoes : List (Nat × List Nat) := [(19, [0, 1, 4, 5, 6, 2, 3, 7, 8, 9, 10]), (32, [0, 3, 4, 6, 7, 9, 10, 1, 2, 5, 8, 11, 12, 13]), (33, [0, 1, 2, 3, 6, 4, 5, 7, 8, 9, 10, 13, 14, 11, 12, 15, 16, 17, 18, 19, 20, 22, 21, 23, 24, 25, 26, 27, 28, 30, 29, 31, 32, 33, 34, 35, 37, 38, 39, 40, 36, 41, 42]), (1000008, [40]), (2000019, [6]), (2000032, [4, 7, 10]), (2000033, [6, 14, 40]), (3019003, [6]), (3032002, [4, 7, 10]), (3032005, [7, 10]), (3032008, [10]), (3033005, [6, 14, 40]), (3033012, [14, 40]), (3033015, [40]), (3033016, [40]), (3033021, [40]), (3033023, [40]), (3033024, [40]), (3033029, [40]), (3033031, [40]), (3033036, [40])]
theorem E_tumbrellaw16_RootDoes (room_p0 l_p1 : Value) (w : World) (R : Value → World → Prop) : M_tumbrellaw16_RootDoes room_p0 l_p1 w R = den PR ann_tumbrellaw16_RootDoes (bodyOf Tryz.f3) (retQ PR Tryz.f3.results.toList R) (env0 [room_p0, l_p1]) w := by kernel_rfl
theorem C_tumbrellaw16_RootDoes {room_p0 l_p1 : Value} {w : World} {R : Value → World → Prop} (h : M_tumbrellaw16_RootDoes room_p0 l_p1 w R) : CALL PR F_tumbrellaw16_RootDoes [room_p0, l_p1] w R :=
  call_of_den2 ann_tumbrellaw16_RootDoes Tryz.func3 (by kernel_rfl) (by kernel_rfl) (by kernel_rfl) ((E_tumbrellaw16_RootDoes room_p0 l_p1 w R) ▸ h)
-- 4 tumbrel.tumbrellaw16.awake
def M_tumbrellaw16_awake (w : World) (R : Value → World → Prop) : Prop :=
  CALL PR F_disk_New [(Value.int .i64 200)] w fun t10_1 w1 =>
  BND (extractv t10_1 0) fun t11_2 =>
  BND (extractv t10_1 1) fun t12_3 =>
  BND (binv .ptr .eql t11_2 (Value.pointer none)) fun t14_4 =>
  COND t14_4
  (R (Value.bool false) w1)
  (CALL PR F_root_Read [t11_2] w1 fun t17_5 w2 =>
  BND (extractv t17_5 0) fun t18_6 =>
  BND (extractv t17_5 1) fun t19_7 =>
  NEW (newv 35 w2 (Value.agg #[(Value.int .u64 0), (Value.int .i64 0), (Value.int .i64 0), (Value.int .i64 0), (Value.int .i64 0)])) fun t3_8 w3 =>
  BND (storev 5 w3 t3_8 t18_6) fun w4 =>
  BND (buildv #[(Value.int .i64 0), (Value.int .i64 0), (Value.int .i64 0)] [(0, 1, (Value.int .i64 2)), (1, 1, (Value.int .i64 5)), (2, 1, (Value.int .i64 1))]) fun t20_9 =>
  BND (buildv #[(Value.int .u64 0), (Value.int .i64 0), (Value.int .i64 0), (Value.int .i64 0), (Value.int .i64 0)] [(0, 1, (Value.int .u64 3)), (1, 3, t20_9), (4, 1, (Value.int .i64 64))]) fun t21_10 =>
  NEW (newv 35 w4 (Value.agg #[(Value.int .u64 0), (Value.int .i64 0), (Value.int .i64 0), (Value.int .i64 0), (Value.int .i64 0)])) fun r_11 w5 =>
  BND (storev 5 w5 r_11 t21_10) fun w6 =>
  BND (loadn 5 w6 r_11) fun t23_12 =>
  CALL PR F_root_Write [t11_2, t23_12] w6 fun t24_13 w7 =>
  CALL PR F_disk_Disk_Crash [t11_2, (Value.int .i64 0), (Value.slice none 0 0)] w7 fun t26_14 w8 =>
  CALL PR F_root_Read [t11_2] w8 fun t29_15 w9 =>
  BND (extractv t29_15 0) fun t30_16 =>
  BND (extractv t29_15 1) fun t31_17 =>
  NEW (newv 35 w9 (Value.agg #[(Value.int .u64 0), (Value.int .i64 0), (Value.int .i64 0), (Value.int .i64 0), (Value.int .i64 0)])) fun s_18 w10 =>
  BND (storev 5 w10 s_18 t30_16) fun w11 =>
  BND (binv .int .eql t19_7 (Value.int .i64 5)) fun t33_19 =>
  BND (grd (isB t33_19 true) (some t24_13)) fun t35_20 =>
  BND (grd (isB t33_19 true) (binv .int .eql t35_20 (Value.int .i64 0))) fun t36_21 =>
  BND (pickv t33_19 t36_21 (Value.bool false)) fun t37_22 =>
  BND (grd (isB t37_22 true) (loadn 5 w11 s_18)) fun t39_23 =>
  BND (grd (isB t37_22 true) (loadn 5 w11 r_11)) fun t40_24 =>
  BND (grd (isB t37_22 true) (eqaggv [(0, (.int .u64)), (1, (.int .i64)), (2, (.int .i64)), (3, (.int .i64)), (4, (.int .i64))] .eql t39_23 t40_24)) fun t41_25 =>
  BND (pickv t37_22 t41_25 (Value.bool false)) fun t42_26 =>
  BND (grd (isB t42_26 true) (some t31_17)) fun t44_27 =>
  BND (grd (isB t42_26 true) (binv .int .eql t44_27 (Value.int .i64 0))) fun t45_28 =>
  BND (pickv t42_26 t45_28 (Value.bool false)) fun t46_29 =>
  BND (grd (isB t46_29 true) (loadn 5 w11 r_11)) fun t48_30 =>
  GEF (isB t46_29 true) (fun k_ => CALL PR F_root_Right [t48_30] w11 k_) w11 fun t49_31 w12 =>
  BND (pickv t46_29 t49_31 (Value.bool false)) fun t50_32 =>
  BND (grd (isB t50_32 true) (some t11_2)) fun t52_33 =>
  BND (grd (isB t50_32 true) (buildv #[(Value.int .u64 0), (Value.int .i64 0), (Value.int .i64 0), (Value.int .i64 0), (Value.int .i64 0)] [])) fun t53_34 =>
  GEF (isB t50_32 true) (fun k_ => CALL PR F_root_Write [t52_33, t53_34] w12 k_) w12 fun t54_35 w13 =>
  BND (grd (isB t50_32 true) (binv .int .eql t54_35 (Value.int .i64 1))) fun t55_36 =>
  BND (pickv t50_32 t55_36 (Value.bool false)) fun t56_37 =>
  R t56_37 w13)
def ann_tumbrellaw16_awake : List (Nat × List Nat) := []
theorem E_tumbrellaw16_awake (w : World) (R : Value → World → Prop) : M_tumbrellaw16_awake w R = den PR ann_tumbrellaw16_awake (bodyOf Tryz.f4) (retQ PR Tryz.f4.results.toList R) (env0 []) w := by kernel_rfl
theorem C_tumbrellaw16_awake {w : World} {R : Value → World → Prop} (h : M_tumbrellaw16_awake w R) : CALL PR F_tumbrellaw16_awake [] w R :=
  call_of_den2 ann_tumbrellaw16_awake Tryz.func4 (by kernel_rfl) (by kernel_rfl) (by kernel_rfl) ((E_tumbrellaw16_awake w R) ▸ h)
-- 5 tumbrel.disk.New
def M_disk_New (room_p0 : Value) (w : World) (R : Value → World → Prop) : Prop :=
  BND (binv .int .lss room_p0 (Value.int .i64 16)) fun t5_1 =>
  BND (grd (isB t5_1 false) (some room_p0)) fun t7_2 =>
  BND (grd (isB t5_1 false) (binv .int .gtr t7_2 (Value.int .i64 1048576))) fun t8_3 =>
  BND (pickv t5_1 (Value.bool true) t8_3) fun t9_4 =>
  COND t9_4
  (R (.tuple #[(Value.pointer none), (Value.int .i64 1)]) w)
  (NEW (newmap w) fun t11_5 w1 =>
  BND (buildv #[(Value.int .i64 0), (Value.map none), (Value.slice none 0 0), (Value.int .i64 0), (Value.bool false)] [(0, 1, room_p0), (1, 1, t11_5), (3, 1, (Value.int .i64 (-1)))]) fun t12_6 =>
  NEW (newv 71 w1 t12_6) fun t13_7 w2 =>
  R (.tuple #[t13_7, (Value.int .i64 0)]) w2)
def ann_disk_New : List (Nat × List Nat) := []
theorem E_disk_New (room_p0 : Value) (w : World) (R : Value → World → Prop) : M_disk_New room_p0 w R = den PR ann_disk_New (bodyOf Tryz.f5) (retQ PR Tryz.f5.results.toList R) (env0 [room_p0]) w := by kernel_rfl
theorem C_disk_New {room_p0 : Value} {w : World} {R : Value → World → Prop} (h : M_disk_New room_p0 w R) : CALL PR F_disk_New [room_p0] w R :=
  call_of_den2 ann_disk_New Tryz.func5 (by kernel_rfl) (by kernel_rfl) (by kernel_rfl) ((E_disk_New room_p0 w R) ▸ h)
-- 6 tumbrel.tumbrelref06.New
def M_tumbrelref06_New (room_p0 : Value) (w : World) (R : Value → World → Prop) : Prop :=
  BND (binv .int .lss room_p0 (Value.int .i64 16)) fun t5_1 =>
  BND (grd (isB t5_1 false) (some room_p0)) fun t7_2 =>
  BND (grd (isB t5_1 false) (binv .int .gtr t7_2 (Value.int .i64 1048576))) fun t8_3 =>
  BND (pickv t5_1 (Value.bool true) t8_3) fun t9_4 =>
  COND t9_4
  (R (.tuple #[(Value.pointer none), (Value.int .i64 1)]) w)
  (BND (newslice 103 #[(Value.string ByteArray.empty), (Value.int .i64 0)] 2 0 [] w) fun p_ => NEW p_ fun t11_5 w1 =>
  BND (newslice 72 #[(Value.slice none 0 0)] 1 1 [(0, 1, t11_5)] w1) fun p_ => NEW p_ fun t12_6 w2 =>
  BND (buildv #[(Value.int .i64 0), (Value.slice none 0 0), (Value.slice none 0 0), (Value.int .i64 0), (Value.bool false)] [(0, 1, room_p0), (2, 1, t12_6), (3, 1, (Value.int .i64 (-1)))]) fun t13_7 =>
  NEW (newv 65 w2 t13_7) fun t14_8 w3 =>
  R (.tuple #[t14_8, (Value.int .i64 0)]) w3)
def ann_tumbrelref06_New : List (Nat × List Nat) := []
theorem E_tumbrelref06_New (room_p0 : Value) (w : World) (R : Value → World → Prop) : M_tumbrelref06_New room_p0 w R = den PR ann_tumbrelref06_New (bodyOf Tryz.f6) (retQ PR Tryz.f6.results.toList R) (env0 [room_p0]) w := by kernel_rfl
theorem C_tumbrelref06_New {room_p0 : Value} {w : World} {R : Value → World → Prop} (h : M_tumbrelref06_New room_p0 w R) : CALL PR F_tumbrelref06_New [room_p0] w R :=
  call_of_den2 ann_tumbrelref06_New Tryz.func6 (by kernel_rfl) (by kernel_rfl) (by kernel_rfl) ((E_tumbrelref06_New room_p0 w R) ▸ h)
-- 7 tumbrel.root.Write
def M_root_Write (d_p0 r_p1 : Value) (w : World) (R : Value → World → Prop) : Prop :=
  NEW (newv 24 w d_p0) fun d_1 w1 =>
  NEW (newv 35 w1 r_p1) fun r_2 w2 =>
  BND (loadn 5 w2 r_2) fun t8_3 =>
  CALL PR F_root_Right [t8_3] w2 fun t9_4 w3 =>
  BND (unv .not t9_4) fun t10_5 =>
  COND t10_5
  (R (Value.int .i64 1) w3)
  (BND (faddr 1 r_2) fun t11_6 =>
  BND (loadn 3 w3 t11_6) fun t12_7 =>
  NEW (newv 33 w3 (Value.agg #[(Value.int .i64 0), (Value.int .i64 0), (Value.int .i64 0)])) fun c_8 w4 =>
  BND (storev 3 w4 c_8 t12_7) fun w5 =>
  BND (faddr 0 r_2) fun t14_9 =>
  BND (load1 w5 t14_9) fun t15_10 =>
  BND (faddr 0 c_8) fun t16_11 =>
  BND (load1 w5 t16_11) fun t17_12 =>
  BND (convi .u64 t17_12) fun t18_13 =>
  BND (faddr 1 c_8) fun t19_14 =>
  BND (load1 w5 t19_14) fun t20_15 =>
  BND (convi .u64 t20_15) fun t21_16 =>
  BND (faddr 2 c_8) fun t22_17 =>
  BND (load1 w5 t22_17) fun t23_18 =>
  BND (convi .u64 t23_18) fun t24_19 =>
  BND (faddr 4 r_2) fun t25_20 =>
  BND (load1 w5 t25_20) fun t26_21 =>
  BND (convi .u64 t26_21) fun t27_22 =>
  BND (newslice 31 #[(Value.int .u64 0)] 1 5 [(0, 1, t15_10), (1, 1, t18_13), (2, 1, t21_16), (3, 1, t24_19), (4, 1, t27_22)] w5) fun p_ => NEW p_ fun t28_23 w6 =>
  BND (buildv #[(Value.int .i64 0), (Value.slice none 0 0), (Value.string ByteArray.empty)] [(0, 1, (Value.int .i64 12)), (1, 1, t28_23)]) fun t29_24 =>
  CALL PR F_record_Bytes [t29_24] w6 fun t30_25 w7 =>
  BND (extractv t30_25 0) fun t31_26 =>
  BND (extractv t30_25 1) fun t32_27 =>
  NEW (newv 37 w7 (Value.slice none 0 0)) fun b_28 w8 =>
  BND (storev 1 w8 b_28 t31_26) fun w9 =>
  BND (binv .int .neq t32_27 (Value.int .i64 0)) fun t34_29 =>
  COND t34_29
  (R t32_27 w9)
  (BND (load1 w9 d_1) fun t41_30 =>
  BND (newslice 55 #[Value.nilFunc] 1 6 [(0, 1, (Value.func (.func F_root_Write_1) #[] #[d_1])), (1, 1, (Value.func (.func F_root_Write_2) #[] #[d_1])), (2, 1, (Value.func (.func F_root_Write_3) #[] #[d_1, b_28])), (3, 1, (Value.func (.func F_root_Write_4) #[] #[d_1])), (4, 1, (Value.func (.func F_root_Write_5) #[] #[d_1])), (5, 1, (Value.func (.func F_disk_Disk_DirSync) #[t41_30] #[]))] w9) fun p_ => NEW p_ fun t43_31 w10 =>
  CALL PR F_root_each [t43_31] w10 fun t44_32 w11 =>
  R t44_32 w11))
def ann_root_Write : List (Nat × List Nat) := []
theorem E_root_Write (d_p0 r_p1 : Value) (w : World) (R : Value → World → Prop) : M_root_Write d_p0 r_p1 w R = den PR ann_root_Write (bodyOf Tryz.f7) (retQ PR Tryz.f7.results.toList R) (env0 [d_p0, r_p1]) w := by kernel_rfl
theorem C_root_Write {d_p0 r_p1 : Value} {w : World} {R : Value → World → Prop} (h : M_root_Write d_p0 r_p1 w R) : CALL PR F_root_Write [d_p0, r_p1] w R :=
  call_of_den2 ann_root_Write Tryz.func7 (by kernel_rfl) (by kernel_rfl) (by kernel_rfl) ((E_root_Write d_p0 r_p1 w R) ▸ h)
-- 8 tumbrel.tumbrelref16.Write
def M_tumbrelref16_Write (d_p0 r_p1 : Value) (w : World) (R : Value → World → Prop) : Prop :=
  NEW (newv 42 w r_p1) fun r_1 w1 =>
  BND (loadn 5 w1 r_1) fun t9_2 =>
  CALL PR F_tumbrelref16_Right [t9_2] w1 fun t10_3 w2 =>
  BND (unv .not t10_3) fun t11_4 =>
  COND t11_4
  (R (Value.int .i64 1) w2)
  (BND (faddr 0 r_1) fun t13_5 =>
  BND (load1 w2 t13_5) fun t14_6 =>
  BND (faddr 1 r_1) fun t15_7 =>
  BND (faddr 0 t15_7) fun t16_8 =>
  BND (load1 w2 t16_8) fun t17_9 =>
  BND (convi .u64 t17_9) fun t18_10 =>
  BND (faddr 1 r_1) fun t19_11 =>
  BND (faddr 1 t19_11) fun t20_12 =>
  BND (load1 w2 t20_12) fun t21_13 =>
  BND (convi .u64 t21_13) fun t22_14 =>
  BND (faddr 1 r_1) fun t23_15 =>
  BND (faddr 2 t23_15) fun t24_16 =>
  BND (load1 w2 t24_16) fun t25_17 =>
  BND (convi .u64 t25_17) fun t26_18 =>
  BND (faddr 4 r_1) fun t27_19 =>
  BND (load1 w2 t27_19) fun t28_20 =>
  BND (convi .u64 t28_20) fun t29_21 =>
  BND (newslice 31 #[(Value.int .u64 0)] 1 5 [(0, 1, t14_6), (1, 1, t18_10), (2, 1, t22_14), (3, 1, t26_18), (4, 1, t29_21)] w2) fun p_ => NEW p_ fun t30_22 w3 =>
  BND (buildv #[(Value.int .i64 0), (Value.slice none 0 0), (Value.string ByteArray.empty)] [(0, 1, (Value.int .i64 12)), (1, 1, t30_22)]) fun t31_23 =>
  CALL PR F_tumbrelref05_Bytes [t31_23] w3 fun t32_24 w4 =>
  BND (extractv t32_24 0) fun t33_25 =>
  BND (extractv t32_24 1) fun t34_26 =>
  CALL PR F_tumbrelref16_There [d_p0, (Value.string { data := #[114, 111, 111, 116, 46, 110, 101, 119] })] w4 fun t36_27 w5 =>
  JOIN (α := World → Prop) (fun k_44 => COND t36_27
  (CALL PR F_tumbrelref06_Disk_Delete [d_p0, (Value.string { data := #[114, 111, 111, 116, 46, 110, 101, 119] })] w5 fun t38_45 w12 =>
  BND (binv .int .neq t38_45 (Value.int .i64 0)) fun t40_46 =>
  COND t40_46
  (R t38_45 w12)
  (k_44 w12))
  (k_44 w5))
  (fun w6 => CALL PR F_tumbrelref06_Disk_Create [d_p0, (Value.string { data := #[114, 111, 111, 116, 46, 110, 101, 119] })] w6 fun t43_35 w7 =>
  BND (binv .int .neq t43_35 (Value.int .i64 0)) fun t45_36 =>
  COND t45_36
  (R t43_35 w7)
  (CALL PR F_tumbrelref06_Disk_Append [d_p0, (Value.string { data := #[114, 111, 111, 116, 46, 110, 101, 119] }), t33_25] w7 fun t49_37 w8 =>
  BND (binv .int .neq t49_37 (Value.int .i64 0)) fun t51_38 =>
  COND t51_38
  (R t49_37 w8)
  (CALL PR F_tumbrelref06_Disk_Sync [d_p0, (Value.string { data := #[114, 111, 111, 116, 46, 110, 101, 119] })] w8 fun t54_39 w9 =>
  BND (binv .int .neq t54_39 (Value.int .i64 0)) fun t56_40 =>
  COND t56_40
  (R t54_39 w9)
  (CALL PR F_tumbrelref06_Disk_Rename [d_p0, (Value.string { data := #[114, 111, 111, 116, 46, 110, 101, 119] }), (Value.string { data := #[114, 111, 111, 116] })] w9 fun t59_41 w10 =>
  BND (binv .int .neq t59_41 (Value.int .i64 0)) fun t61_42 =>
  COND t61_42
  (R t59_41 w10)
  (CALL PR F_tumbrelref06_Disk_DirSync [d_p0] w10 fun t64_43 w11 =>
  R t64_43 w11))))))
def ann_tumbrelref16_Write : List (Nat × List Nat) := []
theorem E_tumbrelref16_Write (d_p0 r_p1 : Value) (w : World) (R : Value → World → Prop) : M_tumbrelref16_Write d_p0 r_p1 w R = den PR ann_tumbrelref16_Write (bodyOf Tryz.f8) (retQ PR Tryz.f8.results.toList R) (env0 [d_p0, r_p1]) w := by kernel_rfl
theorem C_tumbrelref16_Write {d_p0 r_p1 : Value} {w : World} {R : Value → World → Prop} (h : M_tumbrelref16_Write d_p0 r_p1 w R) : CALL PR F_tumbrelref16_Write [d_p0, r_p1] w R :=
  call_of_den2 ann_tumbrelref16_Write Tryz.func8 (by kernel_rfl) (by kernel_rfl) (by kernel_rfl) ((E_tumbrelref16_Write d_p0 r_p1 w R) ▸ h)
-- 9 tumbrel.tumbrellaw16.own
def M_tumbrellaw16_own (r_p0 : Value) (w : World) (R : Value → World → Prop) : Prop :=
  NEW (newv 35 w r_p0) fun r_1 w1 =>
  NEW (newv 42 w1 (Value.agg #[(Value.int .u64 0), (Value.int .i64 0), (Value.int .i64 0), (Value.int .i64 0), (Value.int .i64 0)])) fun t2_2 w2 =>
  BND (faddr 0 r_1) fun t3_3 =>
  BND (load1 w2 t3_3) fun t4_4 =>
  BND (faddr 1 r_1) fun t5_5 =>
  BND (loadn 3 w2 t5_5) fun t6_6 =>
  BND (faddr 4 r_1) fun t7_7 =>
  BND (load1 w2 t7_7) fun t8_8 =>
  BND (buildv #[(Value.int .u64 0), (Value.int .i64 0), (Value.int .i64 0), (Value.int .i64 0), (Value.int .i64 0)] [(0, 1, t4_4), (1, 3, t6_6), (4, 1, t8_8)]) fun t9_9 =>
  BND (storev 5 w2 t2_2 t9_9) fun w3 =>
  BND (loadn 5 w3 t2_2) fun r_10 =>
  R r_10 w3
def ann_tumbrellaw16_own : List (Nat × List Nat) := []
theorem E_tumbrellaw16_own (r_p0 : Value) (w : World) (R : Value → World → Prop) : M_tumbrellaw16_own r_p0 w R = den PR ann_tumbrellaw16_own (bodyOf Tryz.f9) (retQ PR Tryz.f9.results.toList R) (env0 [r_p0]) w := by kernel_rfl
theorem C_tumbrellaw16_own {r_p0 : Value} {w : World} {R : Value → World → Prop} (h : M_tumbrellaw16_own r_p0 w R) : CALL PR F_tumbrellaw16_own [r_p0] w R :=
  call_of_den2 ann_tumbrellaw16_own Tryz.func9 (by kernel_rfl) (by kernel_rfl) (by kernel_rfl) ((E_tumbrellaw16_own r_p0 w R) ▸ h)
-- 10 tumbrel.root.Read
def M_root_Read (d_p0 : Value) (w : World) (R : Value → World → Prop) : Prop :=
  NEW (newv 35 w (Value.agg #[(Value.int .u64 0), (Value.int .i64 0), (Value.int .i64 0), (Value.int .i64 0), (Value.int .i64 0)])) fun t2_1 w1 =>
  CALL PR F_disk_Disk_Read [d_p0, (Value.string { data := #[114, 111, 111, 116] })] w1 fun t14_2 w2 =>
  BND (extractv t14_2 0) fun t15_3 =>
  BND (extractv t14_2 1) fun t16_4 =>
  BND (binv .int .neq t16_4 (Value.int .i64 0)) fun t18_5 =>
  COND t18_5
  (BND (buildv #[(Value.int .u64 0), (Value.int .i64 0), (Value.int .i64 0), (Value.int .i64 0), (Value.int .i64 0)] []) fun t19_6 =>
  BND (storev 5 w2 t2_1 t19_6) fun w3 =>
  BND (loadn 5 w3 t2_1) fun r_7 =>
  R (.tuple #[r_7, t16_4]) w3)
  (CALL PR F_record_All [t15_3] w2 fun t23_8 w4 =>
  BND (extractv t23_8 0) fun t24_9 =>
  BND (extractv t23_8 1) fun t25_10 =>
  BND (extractv t23_8 2) fun t26_11 =>
  BND (binv .int .neq t26_11 (Value.int .i64 0)) fun t29_12 =>
  COND t29_12
  (BND (buildv #[(Value.int .u64 0), (Value.int .i64 0), (Value.int .i64 0), (Value.int .i64 0), (Value.int .i64 0)] []) fun t30_13 =>
  BND (storev 5 w4 t2_1 t30_13) fun w5 =>
  BND (loadn 5 w5 t2_1) fun r_14 =>
  R (.tuple #[r_14, t26_11]) w5)
  (BND (lenl t24_9) fun t34_15 =>
  BND (binv .int .neq t34_15 (Value.int .i64 1)) fun t35_16 =>
  BND (grd (isB t35_16 false) (some t24_9)) fun t37_17 =>
  BND (grd (isB t35_16 false) (iaddr 3 t37_17 (Value.int .i64 0))) fun t38_18 =>
  BND (grd (isB t35_16 false) (faddr 0 t38_18)) fun t39_19 =>
  BND (grd (isB t35_16 false) (load1 w4 t39_19)) fun t40_20 =>
  BND (grd (isB t35_16 false) (binv .int .neq t40_20 (Value.int .i64 12))) fun t41_21 =>
  BND (pickv t35_16 (Value.bool true) t41_21) fun t42_22 =>
  COND t42_22
  (BND (buildv #[(Value.int .u64 0), (Value.int .i64 0), (Value.int .i64 0), (Value.int .i64 0), (Value.int .i64 0)] []) fun t43_23 =>
  BND (storev 5 w4 t2_1 t43_23) fun w6 =>
  BND (loadn 5 w6 t2_1) fun r_24 =>
  R (.tuple #[r_24, (Value.int .i64 2)]) w6)
  (NEW (newv 88 w4 (Value.agg #[(Value.int .i64 0), (Value.int .i64 0), (Value.int .i64 0), (Value.int .i64 0), (Value.int .i64 0)])) fun n_25 w7 =>
  BND (iaddr 3 t24_9 (Value.int .i64 0)) fun t45_26 =>
  BND (faddr 1 t45_26) fun t46_27 =>
  BND (load1 w7 t46_27) fun t47_28 =>
  BND (lenl t47_28) fun t48_29 =>
  ∃ (J_30 : Value → World → Prop) (m_30 : Value → World → Nat), J_30 (Value.int .i64 0) w7 ∧ ∀ (_d_30 : Env) (t49_33 : Value) (w8 : World), J_30 t49_33 w8 →
  (BND (binv .int .lss t49_33 t48_29) fun t50_44 =>
  COND t50_44
  (BND (iaddr 1 t47_28 t49_33) fun t52_45 =>
  BND (load1 w8 t52_45) fun t53_46 =>
  BND (min2v t53_46 (Value.int .u64 1048576)) fun t56_47 =>
  BND (convi .i64 t56_47) fun t57_48 =>
  BND (iaddra 5 1 n_25 t49_33) fun t58_49 =>
  BND (storev 1 w8 t58_49 t57_48) fun w9 =>
  BND (binv .int .add t49_33 (Value.int .i64 1)) fun t59_50 =>
  (J_30 t59_50 w9 ∧ m_30 t59_50 w9 < m_30 t49_33 w8))
  (∃ S_51 : Nat → World → Prop,
  S_51 3 w8.drew ∧
  S_51 5 w8.drew ∧
  S_51 7 w8.drew ∧
  S_51 9 w8.drew ∧
  S_51 11 w8.drew ∧
  S_51 14 w8.drew ∧
  BND (iaddr 3 t24_9 (Value.int .i64 0)) fun t61_52 =>
  BND (faddr 1 t61_52) fun t62_53 =>
  FLT (S_51 3) (fun w_ => load1 w_ t62_53) fun t63_54 =>
  BND (iaddr 1 t63_54 (Value.int .i64 0)) fun t64_55 =>
  FLT (S_51 5) (fun w_ => load1 w_ t64_55) fun t65_56 =>
  BND (iaddra 5 1 n_25 (Value.int .i64 1)) fun t66_57 =>
  FLT (S_51 7) (fun w_ => load1 w_ t66_57) fun t67_58 =>
  BND (iaddra 5 1 n_25 (Value.int .i64 2)) fun t68_59 =>
  FLT (S_51 9) (fun w_ => load1 w_ t68_59) fun t69_60 =>
  BND (iaddra 5 1 n_25 (Value.int .i64 3)) fun t70_61 =>
  FLT (S_51 11) (fun w_ => load1 w_ t70_61) fun t71_62 =>
  BND (buildv #[(Value.int .i64 0), (Value.int .i64 0), (Value.int .i64 0)] [(0, 1, t67_58), (1, 1, t69_60), (2, 1, t71_62)]) fun t72_63 =>
  BND (iaddra 5 1 n_25 (Value.int .i64 4)) fun t73_64 =>
  FLT (S_51 14) (fun w_ => load1 w_ t73_64) fun t74_65 =>
  BND (buildv #[(Value.int .u64 0), (Value.int .i64 0), (Value.int .i64 0), (Value.int .i64 0), (Value.int .i64 0)] [(0, 1, t65_56), (1, 3, t72_63), (4, 1, t74_65)]) fun t75_66 =>
  NEW (newv 35 w8.drew (Value.agg #[(Value.int .u64 0), (Value.int .i64 0), (Value.int .i64 0), (Value.int .i64 0), (Value.int .i64 0)])) fun r_67 w10 =>
  S_51 3 w10 ∧
  S_51 5 w10 ∧
  S_51 7 w10 ∧
  S_51 9 w10 ∧
  S_51 11 w10 ∧
  S_51 14 w10 ∧
  BND (storev 5 w10 r_67 t75_66) fun w11 =>
  BND (loadn 5 w11 r_67) fun t76_68 =>
  CALL PR F_root_Right [t76_68] w11 fun t77_69 w12 =>
  BND (unv .not t77_69) fun t78_70 =>
  COND t78_70
  (BND (buildv #[(Value.int .u64 0), (Value.int .i64 0), (Value.int .i64 0), (Value.int .i64 0), (Value.int .i64 0)] []) fun t79_71 =>
  BND (storev 5 w12 t2_1 t79_71) fun w13 =>
  BND (loadn 5 w13 t2_1) fun r_72 =>
  R (.tuple #[r_72, (Value.int .i64 2)]) w13)
  (BND (loadn 5 w12 r_67) fun t80_73 =>
  BND (storev 5 w12 t2_1 t80_73) fun w14 =>
  BND (loadn 5 w14 t2_1) fun r_74 =>
  R (.tuple #[r_74, (Value.int .i64 0)]) w14))))))
def ann_root_Read : List (Nat × List Nat) := [(15, [0, 1, 2, 3, 4, 5, 6, 7, 8, 9, 10, 11, 12, 13, 14, 15, 16, 17]), (1000011, [49]), (2000015, [3, 5, 7, 9, 11, 14]), (3015016, [3, 5, 7, 9, 11, 14])]
theorem E_root_Read (d_p0 : Value) (w : World) (R : Value → World → Prop) : M_root_Read d_p0 w R = den PR ann_root_Read (bodyOf Tryz.f10) (retQ PR Tryz.f10.results.toList R) (env0 [d_p0]) w := by kernel_rfl
theorem C_root_Read {d_p0 : Value} {w : World} {R : Value → World → Prop} (h : M_root_Read d_p0 w R) : CALL PR F_root_Read [d_p0] w R :=
  call_of_den2 ann_root_Read Tryz.func10 (by kernel_rfl) (by kernel_rfl) (by kernel_rfl) ((E_root_Read d_p0 w R) ▸ h)
-- 11 tumbrel.tumbrelref16.Read
def M_tumbrelref16_Read (d_p0 : Value) (w : World) (R : Value → World → Prop) : Prop :=
  NEW (newv 42 w (Value.agg #[(Value.int .u64 0), (Value.int .i64 0), (Value.int .i64 0), (Value.int .i64 0), (Value.int .i64 0)])) fun t2_1 w1 =>
  CALL PR F_tumbrelref06_Disk_Read [d_p0, (Value.string { data := #[114, 111, 111, 116] })] w1 fun t13_2 w2 =>
  BND (extractv t13_2 0) fun t14_3 =>
  BND (extractv t13_2 1) fun t15_4 =>
  BND (binv .int .neq t15_4 (Value.int .i64 0)) fun t17_5 =>
  COND t17_5
  (BND (buildv #[(Value.int .u64 0), (Value.int .i64 0), (Value.int .i64 0), (Value.int .i64 0), (Value.int .i64 0)] []) fun t18_6 =>
  BND (storev 5 w2 t2_1 t18_6) fun w3 =>
  BND (loadn 5 w3 t2_1) fun r_7 =>
  R (.tuple #[r_7, t15_4]) w3)
  (CALL PR F_tumbrelref05_All [t14_3] w2 fun t22_8 w4 =>
  BND (extractv t22_8 0) fun t23_9 =>
  BND (extractv t22_8 1) fun t24_10 =>
  BND (extractv t22_8 2) fun t25_11 =>
  BND (binv .int .neq t25_11 (Value.int .i64 0)) fun t27_12 =>
  COND t27_12
  (BND (buildv #[(Value.int .u64 0), (Value.int .i64 0), (Value.int .i64 0), (Value.int .i64 0), (Value.int .i64 0)] []) fun t28_13 =>
  BND (storev 5 w4 t2_1 t28_13) fun w5 =>
  BND (loadn 5 w5 t2_1) fun r_14 =>
  R (.tuple #[r_14, t25_11]) w5)
  (BND (lenl t23_9) fun t31_15 =>
  BND (binv .int .neq t31_15 (Value.int .i64 1)) fun t32_16 =>
  BND (grd (isB t32_16 false) (some t23_9)) fun t34_17 =>
  BND (grd (isB t32_16 false) (iaddr 3 t34_17 (Value.int .i64 0))) fun t35_18 =>
  BND (grd (isB t32_16 false) (faddr 0 t35_18)) fun t36_19 =>
  BND (grd (isB t32_16 false) (load1 w4 t36_19)) fun t37_20 =>
  BND (grd (isB t32_16 false) (binv .int .neq t37_20 (Value.int .i64 12))) fun t38_21 =>
  BND (pickv t32_16 (Value.bool true) t38_21) fun t39_22 =>
  COND t39_22
  (BND (buildv #[(Value.int .u64 0), (Value.int .i64 0), (Value.int .i64 0), (Value.int .i64 0), (Value.int .i64 0)] []) fun t40_23 =>
  BND (storev 5 w4 t2_1 t40_23) fun w6 =>
  BND (loadn 5 w6 t2_1) fun r_24 =>
  R (.tuple #[r_24, (Value.int .i64 2)]) w6)
  (BND (iaddr 3 t23_9 (Value.int .i64 0)) fun t42_25 =>
  BND (faddr 1 t42_25) fun t43_26 =>
  BND (load1 w4 t43_26) fun t44_27 =>
  ∃ S_28 : Nat → World → Prop,
  S_28 2 w4.drew ∧
  S_28 5 w4.drew ∧
  S_28 10 w4.drew ∧
  S_28 15 w4.drew ∧
  S_28 21 w4.drew ∧
  BND (iaddr 1 t44_27 (Value.int .i64 0)) fun t46_29 =>
  FLT (S_28 2) (fun w_ => load1 w_ t46_29) fun t47_30 =>
  BND (iaddr 1 t44_27 (Value.int .i64 1)) fun t49_31 =>
  FLT (S_28 5) (fun w_ => load1 w_ t49_31) fun t50_32 =>
  BND (min2v t50_32 (Value.int .u64 99999)) fun t51_33 =>
  BND (convi .i64 t51_33) fun t52_34 =>
  BND (iaddr 1 t44_27 (Value.int .i64 2)) fun t54_35 =>
  FLT (S_28 10) (fun w_ => load1 w_ t54_35) fun t55_36 =>
  BND (min2v t55_36 (Value.int .u64 99999)) fun t56_37 =>
  BND (convi .i64 t56_37) fun t57_38 =>
  BND (iaddr 1 t44_27 (Value.int .i64 3)) fun t59_39 =>
  FLT (S_28 15) (fun w_ => load1 w_ t59_39) fun t60_40 =>
  BND (min2v t60_40 (Value.int .u64 99999)) fun t61_41 =>
  BND (convi .i64 t61_41) fun t62_42 =>
  BND (buildv #[(Value.int .i64 0), (Value.int .i64 0), (Value.int .i64 0)] [(0, 1, t52_34), (1, 1, t57_38), (2, 1, t62_42)]) fun t63_43 =>
  BND (iaddr 1 t44_27 (Value.int .i64 4)) fun t65_44 =>
  FLT (S_28 21) (fun w_ => load1 w_ t65_44) fun t66_45 =>
  BND (min2v t66_45 (Value.int .u64 99999)) fun t67_46 =>
  BND (convi .i64 t67_46) fun t68_47 =>
  BND (buildv #[(Value.int .u64 0), (Value.int .i64 0), (Value.int .i64 0), (Value.int .i64 0), (Value.int .i64 0)] [(0, 1, t47_30), (1, 3, t63_43), (4, 1, t68_47)]) fun t69_48 =>
  NEW (newv 42 w4.drew (Value.agg #[(Value.int .u64 0), (Value.int .i64 0), (Value.int .i64 0), (Value.int .i64 0), (Value.int .i64 0)])) fun r_49 w7 =>
  S_28 2 w7 ∧
  S_28 5 w7 ∧
  S_28 10 w7 ∧
  S_28 15 w7 ∧
  S_28 21 w7 ∧
  BND (storev 5 w7 r_49 t69_48) fun w8 =>
  BND (loadn 5 w8 r_49) fun t70_50 =>
  CALL PR F_tumbrelref16_Right [t70_50] w8 fun t71_51 w9 =>
  BND (unv .not t71_51) fun t72_52 =>
  COND t72_52
  (BND (buildv #[(Value.int .u64 0), (Value.int .i64 0), (Value.int .i64 0), (Value.int .i64 0), (Value.int .i64 0)] []) fun t73_53 =>
  BND (storev 5 w9 t2_1 t73_53) fun w10 =>
  BND (loadn 5 w10 t2_1) fun r_54 =>
  R (.tuple #[r_54, (Value.int .i64 2)]) w10)
  (BND (loadn 5 w9 r_49) fun t74_55 =>
  BND (storev 5 w9 t2_1 t74_55) fun w11 =>
  BND (loadn 5 w11 t2_1) fun r_56 =>
  R (.tuple #[r_56, (Value.int .i64 0)]) w11))))
def ann_tumbrelref16_Read : List (Nat × List Nat) := [(10, [0, 1, 2, 3, 4, 5, 6, 7, 8, 9, 10, 11, 12, 13, 14, 15, 16, 17, 18, 19, 20, 21, 22, 23, 24, 25, 26]), (2000010, [2, 5, 10, 15, 21]), (3010025, [2, 5, 10, 15, 21])]
theorem E_tumbrelref16_Read (d_p0 : Value) (w : World) (R : Value → World → Prop) : M_tumbrelref16_Read d_p0 w R = den PR ann_tumbrelref16_Read (bodyOf Tryz.f11) (retQ PR Tryz.f11.results.toList R) (env0 [d_p0]) w := by kernel_rfl
theorem C_tumbrelref16_Read {d_p0 : Value} {w : World} {R : Value → World → Prop} (h : M_tumbrelref16_Read d_p0 w R) : CALL PR F_tumbrelref16_Read [d_p0] w R :=
  call_of_den2 ann_tumbrelref16_Read Tryz.func11 (by kernel_rfl) (by kernel_rfl) (by kernel_rfl) ((E_tumbrelref16_Read d_p0 w R) ▸ h)
-- 12 (*tumbrel.disk.Disk).Fuse
def M_disk_Disk_Fuse (d_p0 n_p1 : Value) (w : World) (R : Value → World → Prop) : Prop :=
  BND (max2v n_p1 (Value.int .i64 (-1))) fun t6_1 =>
  BND (nilchk d_p0) fun t7_2 =>
  BND (faddr 3 t7_2) fun t8_3 =>
  BND (storev 1 w t8_3 t6_1) fun w1 =>
  R (.tuple #[]) w1
def ann_disk_Disk_Fuse : List (Nat × List Nat) := []
theorem E_disk_Disk_Fuse (d_p0 n_p1 : Value) (w : World) (R : Value → World → Prop) : M_disk_Disk_Fuse d_p0 n_p1 w R = den PR ann_disk_Disk_Fuse (bodyOf Tryz.f12) (retQ PR Tryz.f12.results.toList R) (env0 [d_p0, n_p1]) w := by kernel_rfl
theorem C_disk_Disk_Fuse {d_p0 n_p1 : Value} {w : World} {R : Value → World → Prop} (h : M_disk_Disk_Fuse d_p0 n_p1 w R) : CALL PR F_disk_Disk_Fuse [d_p0, n_p1] w R :=
  call_of_den2 ann_disk_Disk_Fuse Tryz.func12 (by kernel_rfl) (by kernel_rfl) (by kernel_rfl) ((E_disk_Disk_Fuse d_p0 n_p1 w R) ▸ h)
-- 13 (*tumbrel.tumbrelref06.Disk).Fuse
def M_tumbrelref06_Disk_Fuse (d_p0 n_p1 : Value) (w : World) (R : Value → World → Prop) : Prop :=
  BND (max2v n_p1 (Value.int .i64 (-1))) fun t6_1 =>
  BND (nilchk d_p0) fun t7_2 =>
  BND (faddr 3 t7_2) fun t8_3 =>
  BND (storev 1 w t8_3 t6_1) fun w1 =>
  R (.tuple #[]) w1
def ann_tumbrelref06_Disk_Fuse : List (Nat × List Nat) := []
theorem E_tumbrelref06_Disk_Fuse (d_p0 n_p1 : Value) (w : World) (R : Value → World → Prop) : M_tumbrelref06_Disk_Fuse d_p0 n_p1 w R = den PR ann_tumbrelref06_Disk_Fuse (bodyOf Tryz.f13) (retQ PR Tryz.f13.results.toList R) (env0 [d_p0, n_p1]) w := by kernel_rfl
theorem C_tumbrelref06_Disk_Fuse {d_p0 n_p1 : Value} {w : World} {R : Value → World → Prop} (h : M_tumbrelref06_Disk_Fuse d_p0 n_p1 w R) : CALL PR F_tumbrelref06_Disk_Fuse [d_p0, n_p1] w R :=
  call_of_den2 ann_tumbrelref06_Disk_Fuse Tryz.func13 (by kernel_rfl) (by kernel_rfl) (by kernel_rfl) ((E_tumbrelref06_Disk_Fuse d_p0 n_p1 w R) ▸ h)
-- 14 (*tumbrel.disk.Disk).Crash
def M_disk_Disk_Crash (d_p0 open_p1 tails_p2 : Value) (w : World) (R : Value → World → Prop) : Prop :=
  BND (nilchk d_p0) fun t12_1 =>
  BND (faddr 2 t12_1) fun t13_2 =>
  BND (load1 w t13_2) fun t14_3 =>
  BND (lenl t14_3) fun t15_4 =>
  BND (min2v open_p1 t15_4) fun t16_5 =>
  BND (binv .int .gtr t16_5 (Value.int .i64 0)) fun t18_6 =>
  JOIN (α := World → Prop) (fun k_145 => COND t18_6
  (BND (nilchk d_p0) fun t21_146 =>
  BND (faddr 2 t21_146) fun t22_147 =>
  BND (load1 w t22_147) fun t23_148 =>
  BND (binv .int .sub t16_5 (Value.int .i64 1)) fun t25_149 =>
  BND (iaddr 1 t23_148 t25_149) fun t26_150 =>
  BND (load1 w t26_150) fun t27_151 =>
  BND (nilchk d_p0) fun t28_152 =>
  BND (faddr 1 t28_152) fun t29_153 =>
  BND (storev 1 w t29_153 t27_151) fun w11 =>
  k_145 w11)
  (k_145 w))
  (fun w1 => BND (nilchk d_p0) fun t33_18 =>
  BND (faddr 2 t33_18) fun t34_19 =>
  BND (storev 1 w1 t34_19 (Value.slice none 0 0)) fun w2 =>
  BND (nilchk d_p0) fun t35_20 =>
  BND (faddr 3 t35_20) fun t36_21 =>
  BND (storev 1 w2 t36_21 (Value.int .i64 (-1))) fun w3 =>
  BND (nilchk d_p0) fun t37_22 =>
  BND (faddr 4 t37_22) fun t38_23 =>
  BND (storev 1 w3 t38_23 (Value.bool false)) fun w4 =>
  BND (nilchk d_p0) fun t40_24 =>
  BND (faddr 1 t40_24) fun t41_25 =>
  BND (load1 w4 t41_25) fun t42_26 =>
  CALL PR F_maps_Keys_file [t42_26] w4 fun t43_27 w5 =>
  CALL PR F_slices_Sorted_string [t43_27] w5 fun t44_28 w6 =>
  BND (lenl t44_28) fun t45_29 =>
  ∃ (J_30 : Value → World → Prop) (m_30 : Value → World → Nat), J_30 (Value.int .i64 0) w6 ∧ ∀ (_d_30 : Env) (t46_35 : Value) (w7 : World), J_30 t46_35 w7 →
  (BND (binv .int .lss t46_35 t45_29) fun t47_89 =>
  COND t47_89
  (BND (iaddr 1 t44_28 t46_35) fun t49_90 =>
  BND (load1 w7 t49_90) fun t50_91 =>
  BND (nilchk d_p0) fun t52_92 =>
  BND (faddr 1 t52_92) fun t53_93 =>
  BND (load1 w7 t53_93) fun t54_94 =>
  BND (lookv .string (Value.pointer none) false w7 t54_94 t50_91) fun t56_95 =>
  BND (lenl tails_p2) fun t59_96 =>
  BND (binv .int .lss t46_35 t59_96) fun t60_97 =>
  JOIN (α := Value → World → Prop) (fun k_132 => COND t60_97
  (BND (iaddr 1 tails_p2 t46_35) fun t63_133 =>
  BND (nilchk t56_95) fun t67_134 =>
  BND (faddr 0 t67_134) fun t68_135 =>
  BND (nilchk t56_95) fun t72_136 =>
  BND (faddr 1 t72_136) fun t73_137 =>
  BND (load1 w7.drew t63_133) fun t64_138 =>
  BND (max2v t64_138 (Value.int .i64 0)) fun t65_139 =>
  BND (load1 w7.drew t68_135) fun t69_140 =>
  BND (lenl t69_140) fun t70_141 =>
  BND (load1 w7.drew t73_137) fun t74_142 =>
  BND (binv .int .sub t70_141 t74_142) fun t75_143 =>
  BND (min2v t65_139 t75_143) fun t76_144 =>
  k_132 t76_144 w7.drew)
  (k_132 (Value.int .i64 0) w7))
  (fun tail_98 w8 => BND (nilchk t56_95) fun t79_115 =>
  BND (faddr 0 t79_115) fun t80_116 =>
  BND (nilchk t56_95) fun t83_117 =>
  BND (faddr 1 t83_117) fun t84_118 =>
  BND (load1 w8.drew t80_116) fun t81_119 =>
  BND (load1 w8.drew t84_118) fun t85_120 =>
  BND (binv .int .add t85_120 tail_98) fun t87_121 =>
  BND (slicev 1 t81_119 none (some t87_121)) fun t88_122 =>
  BND (nilchk t56_95) fun t89_123 =>
  BND (faddr 0 t89_123) fun t90_124 =>
  BND (storev 1 w8.drew t90_124 t88_122) fun w9 =>
  BND (nilchk t56_95) fun t93_125 =>
  BND (faddr 0 t93_125) fun t94_126 =>
  BND (load1 w9 t94_126) fun t95_127 =>
  BND (lenl t95_127) fun t96_128 =>
  BND (nilchk t56_95) fun t97_129 =>
  BND (faddr 1 t97_129) fun t98_130 =>
  BND (storev 1 w9 t98_130 t96_128) fun w10 =>
  BND (binv .int .add t46_35 (Value.int .i64 1)) fun t99_131 =>
  (J_30 t99_131 w10 ∧ m_30 t99_131 w10 < m_30 t46_35 w7)))
  (R (.tuple #[]) w7)))
def ann_disk_Disk_Crash : List (Nat × List Nat) := [(10, [0, 1, 2, 5, 6, 7, 10, 11, 12, 3, 4, 8, 9, 13, 14, 15, 16]), (11, [0, 1, 2, 3, 5, 6, 7, 9, 4, 8, 10, 11, 12, 13, 14]), (1000005, [46])]
theorem E_disk_Disk_Crash (d_p0 open_p1 tails_p2 : Value) (w : World) (R : Value → World → Prop) : M_disk_Disk_Crash d_p0 open_p1 tails_p2 w R = den PR ann_disk_Disk_Crash (bodyOf Tryz.f14) (retQ PR Tryz.f14.results.toList R) (env0 [d_p0, open_p1, tails_p2]) w := by kernel_rfl
theorem C_disk_Disk_Crash {d_p0 open_p1 tails_p2 : Value} {w : World} {R : Value → World → Prop} (h : M_disk_Disk_Crash d_p0 open_p1 tails_p2 w R) : CALL PR F_disk_Disk_Crash [d_p0, open_p1, tails_p2] w R :=
  call_of_den2 ann_disk_Disk_Crash Tryz.func14 (by kernel_rfl) (by kernel_rfl) (by kernel_rfl) ((E_disk_Disk_Crash d_p0 open_p1 tails_p2 w R) ▸ h)
-- 15 (*tumbrel.tumbrelref06.Disk).Crash
def M_tumbrelref06_Disk_Crash (d_p0 open_p1 tails_p2 : Value) (w : World) (R : Value → World → Prop) : Prop :=
  BND (max2v open_p1 (Value.int .i64 0)) fun t12_1 =>
  BND (nilchk d_p0) fun t14_2 =>
  BND (faddr 2 t14_2) fun t15_3 =>
  BND (load1 w t15_3) fun t16_4 =>
  BND (lenl t16_4) fun t17_5 =>
  BND (binv .int .sub t17_5 (Value.int .i64 1)) fun t18_6 =>
  BND (min2v t12_1 t18_6) fun t19_7 =>
  BND (nilchk d_p0) fun t22_8 =>
  BND (faddr 2 t22_8) fun t23_9 =>
  BND (load1 w t23_9) fun t24_10 =>
  BND (iaddr 1 t24_10 t19_7) fun t26_11 =>
  BND (load1 w t26_11) fun t27_12 =>
  BND (newslice 72 #[(Value.slice none 0 0)] 1 1 [(0, 1, t27_12)] w) fun p_ => NEW p_ fun t28_13 w1 =>
  BND (nilchk d_p0) fun t29_14 =>
  BND (faddr 2 t29_14) fun t30_15 =>
  BND (storev 1 w1 t30_15 t28_13) fun w2 =>
  BND (nilchk d_p0) fun t32_16 =>
  BND (faddr 3 t32_16) fun t33_17 =>
  BND (storev 1 w2 t33_17 (Value.int .i64 (-1))) fun w3 =>
  BND (nilchk d_p0) fun t35_18 =>
  BND (faddr 4 t35_18) fun t36_19 =>
  BND (storev 1 w3 t36_19 (Value.bool false)) fun w4 =>
  CALL PR F_tumbrelref06_Disk_now [d_p0] w4 fun t38_20 w5 =>
  ∃ (J_21 : Value → World → Prop) (m_21 : Value → World → Nat), J_21 (Value.int .i64 0) w5 ∧ ∀ (_d_21 : Env) (i_22 : Value) (w6 : World), J_21 i_22 w6 →
  (BND (lenl t38_20) fun t41_82 =>
  BND (binv .int .lss i_22 t41_82) fun t42_83 =>
  COND t42_83
  (∃ S_84 : Nat → World → Prop,
  S_84 3 w6.drew ∧
  S_84 8 w6.drew ∧
  S_84 10 w6.drew ∧
  BND (nilchk d_p0) fun t46_85 =>
  BND (faddr 1 t46_85) fun t47_86 =>
  FLT (S_84 3) (fun w_ => load1 w_ t47_86) fun t48_87 =>
  BND (iaddr 2 t38_20 i_22) fun t51_88 =>
  BND (faddr 1 t51_88) fun t52_89 =>
  FLT (S_84 8) (fun w_ => load1 w_ t52_89) fun t53_90 =>
  BND (iaddr 2 t48_87 t53_90) fun t54_91 =>
  FLT (S_84 10) (fun w_ => loadn 2 w_ t54_91) fun t55_92 =>
  NEW (newv 101 w6.drew (Value.agg #[(Value.slice none 0 0), (Value.int .i64 0)])) fun f_93 w7 =>
  S_84 3 w7 ∧
  S_84 8 w7 ∧
  S_84 10 w7 ∧
  BND (storev 2 w7 f_93 t55_92) fun w8 =>
  BND (lenl tails_p2) fun t58_94 =>
  BND (binv .int .lss i_22 t58_94) fun t59_95 =>
  JOIN (α := Value → World → Prop) (fun k_130 => COND t59_95
  (BND (iaddr 1 tails_p2 i_22) fun t62_131 =>
  BND (faddr 0 f_93) fun t65_132 =>
  BND (faddr 1 f_93) fun t68_133 =>
  BND (load1 w8.drew t62_131) fun t63_134 =>
  BND (max2v t63_134 (Value.int .i64 0)) fun t64_135 =>
  BND (load1 w8.drew t65_132) fun t66_136 =>
  BND (lenl t66_136) fun t67_137 =>
  BND (load1 w8.drew t68_133) fun t69_138 =>
  BND (binv .int .sub t67_137 t69_138) fun t70_139 =>
  BND (min2v t64_135 t70_139) fun t71_140 =>
  k_130 t71_140 w8.drew)
  (k_130 (Value.int .i64 0) w8))
  (fun tail_96 w9 => ∃ S_109 : Nat → World → Prop,
  S_109 3 w9.drew ∧
  S_109 8 w9.drew ∧
  S_109 11 w9.drew ∧
  S_109 13 w9.drew ∧
  S_109 19 w9.drew ∧
  BND (nilchk d_p0) fun t73_110 =>
  BND (faddr 1 t73_110) fun t74_111 =>
  FLT (S_109 3) (fun w_ => load1 w_ t74_111) fun t75_112 =>
  BND (iaddr 2 t38_20 i_22) fun t78_113 =>
  BND (faddr 1 t78_113) fun t79_114 =>
  FLT (S_109 8) (fun w_ => load1 w_ t79_114) fun t80_115 =>
  BND (faddr 0 f_93) fun t82_116 =>
  FLT (S_109 11) (fun w_ => load1 w_ t82_116) fun t83_117 =>
  BND (faddr 1 f_93) fun t84_118 =>
  FLT (S_109 13) (fun w_ => load1 w_ t84_118) fun t85_119 =>
  BND (binv .int .add t85_119 tail_96) fun t87_120 =>
  BND (slicev 1 t83_117 none (some t87_120)) fun t88_121 =>
  BND (faddr 1 f_93) fun t90_122 =>
  FLT (S_109 19) (fun w_ => load1 w_ t90_122) fun t91_123 =>
  BND (binv .int .add t91_123 tail_96) fun t93_124 =>
  BND (newslice 5 #[(Value.int .u8 0)] 1 0 [] w9.drew) fun p_ => NEW p_ fun t81_125 w10 =>
  S_109 3 w10 ∧
  S_109 8 w10 ∧
  S_109 11 w10 ∧
  S_109 13 w10 ∧
  S_109 19 w10 ∧
  APPEND 5 1 1 (Value.int .u8 0) t81_125 t88_121 w10 fun t89_126 w11 =>
  S_109 3 w11 ∧
  S_109 8 w11 ∧
  S_109 19 w11 ∧
  BND (buildv #[(Value.slice none 0 0), (Value.int .i64 0)] [(0, 1, t89_126), (1, 1, t93_124)]) fun t94_127 =>
  BND (iaddr 2 t75_112 t80_115) fun t95_128 =>
  BND (storev 2 w11 t95_128 t94_127) fun w12 =>
  BND (binv .int .add i_22 (Value.int .i64 1)) fun t44_129 =>
  (J_21 t44_129 w12 ∧ m_21 t44_129 w12 < m_21 i_22 w6)))
  (R (.tuple #[]) w6))
def ann_tumbrelref06_Disk_Crash : List (Nat × List Nat) := [(8, [0, 1, 2, 3, 4, 5, 6, 7, 8, 9, 10, 11, 12]), (11, [0, 1, 2, 5, 8, 3, 4, 6, 7, 9, 10, 11, 12]), (12, [0, 1, 2, 3, 4, 5, 6, 7, 8, 10, 11, 12, 13, 14, 15, 16, 18, 19, 20, 21, 9, 17, 22, 23, 24]), (1000006, [8]), (2000008, [3, 8, 10]), (2000012, [3, 8, 11, 13, 19]), (3008011, [3, 8, 10]), (3012009, [3, 8, 11, 13, 19]), (3012017, [3, 8, 19])]
theorem E_tumbrelref06_Disk_Crash (d_p0 open_p1 tails_p2 : Value) (w : World) (R : Value → World → Prop) : M_tumbrelref06_Disk_Crash d_p0 open_p1 tails_p2 w R = den PR ann_tumbrelref06_Disk_Crash (bodyOf Tryz.f15) (retQ PR Tryz.f15.results.toList R) (env0 [d_p0, open_p1, tails_p2]) w := by kernel_rfl
theorem C_tumbrelref06_Disk_Crash {d_p0 open_p1 tails_p2 : Value} {w : World} {R : Value → World → Prop} (h : M_tumbrelref06_Disk_Crash d_p0 open_p1 tails_p2 w R) : CALL PR F_tumbrelref06_Disk_Crash [d_p0, open_p1, tails_p2] w R :=
  call_of_den2 ann_tumbrelref06_Disk_Crash Tryz.func15 (by kernel_rfl) (by kernel_rfl) (by kernel_rfl) ((E_tumbrelref06_Disk_Crash d_p0 open_p1 tails_p2 w R) ▸ h)
-- 16 (*tumbrel.disk.Disk).Create
def M_disk_Disk_Create (d_p0 name_p1 : Value) (w : World) (R : Value → World → Prop) : Prop :=
  CALL PR F_disk_Disk_now [d_p0] w fun t8_1 w1 =>
  CALL PR F_disk_named [name_p1] w1 fun t11_2 w2 =>
  BND (unv .not t11_2) fun t12_3 =>
  JOIN (α := Value → World → Prop) (fun k_25 => COND t12_3
  (k_25 (Value.int .i64 1) w2)
  (BND (lookv .string (Value.pointer none) false w2 t8_1 name_p1) fun t16_26 =>
  BND (binv .ptr .neq t16_26 (Value.pointer none)) fun t17_27 =>
  JOIN (α := Value → World → Prop) (fun k_33 => COND t17_27
  (k_33 (Value.int .i64 6) w2)
  (BND (mlenv w2 t8_1) fun t20_34 =>
  BND (binv .int .geq t20_34 (Value.int .i64 60)) fun t21_35 =>
  JOIN (α := Value → World → Prop) (fun k_37 => COND t21_35
  (k_37 (Value.int .i64 4) w2)
  (k_37 (Value.int .i64 0) w2))
  (fun e_36 w10 => k_33 e_36 w10)))
  (fun e_28 w9 => k_25 e_28 w9)))
  (fun e_4 w3 => CALL PR F_disk_Disk_can [d_p0, e_4] w3 fun t24_14 w4 =>
  BND (binv .int .eql t24_14 (Value.int .i64 0)) fun t26_15 =>
  JOIN (α := World → Prop) (fun k_21 => COND t26_15
  (CALL PR F_disk_Disk_change [d_p0] w4 fun t28_22 w6 =>
  BND (buildv #[(Value.slice none 0 0), (Value.int .i64 0)] []) fun t30_23 =>
  NEW (newv 98 w6 t30_23) fun t31_24 w7 =>
  BND (mupd .string w7 t28_22 name_p1 t31_24) fun w8 =>
  k_21 w8)
  (k_21 w4))
  (fun w5 => R t24_14 w5))
def ann_disk_Disk_Create : List (Nat × List Nat) := []
theorem E_disk_Disk_Create (d_p0 name_p1 : Value) (w : World) (R : Value → World → Prop) : M_disk_Disk_Create d_p0 name_p1 w R = den PR ann_disk_Disk_Create (bodyOf Tryz.f16) (retQ PR Tryz.f16.results.toList R) (env0 [d_p0, name_p1]) w := by kernel_rfl
theorem C_disk_Disk_Create {d_p0 name_p1 : Value} {w : World} {R : Value → World → Prop} (h : M_disk_Disk_Create d_p0 name_p1 w R) : CALL PR F_disk_Disk_Create [d_p0, name_p1] w R :=
  call_of_den2 ann_disk_Disk_Create Tryz.func16 (by kernel_rfl) (by kernel_rfl) (by kernel_rfl) ((E_disk_Disk_Create d_p0 name_p1 w R) ▸ h)
-- 17 tumbrel.tumbrellaw16.named
def M_tumbrellaw16_named (x_p0 : Value) (w : World) (R : Value → World → Prop) : Prop :=
  NEW (newv 39 w x_p0) fun x_1 w1 =>
  BND (faddr 8 x_1) fun t3_2 =>
  BND (load1 w1 t3_2) fun t4_3 =>
  BND (binv .str .eql t4_3 (Value.string { data := #[] })) fun t5_4 =>
  COND t5_4
  (R (Value.string { data := #[114, 111, 111, 116, 46, 110, 101, 119] }) w1)
  (BND (faddr 8 x_1) fun t6_5 =>
  BND (load1 w1 t6_5) fun t7_6 =>
  R t7_6 w1)
def ann_tumbrellaw16_named : List (Nat × List Nat) := []
theorem E_tumbrellaw16_named (x_p0 : Value) (w : World) (R : Value → World → Prop) : M_tumbrellaw16_named x_p0 w R = den PR ann_tumbrellaw16_named (bodyOf Tryz.f17) (retQ PR Tryz.f17.results.toList R) (env0 [x_p0]) w := by kernel_rfl
theorem C_tumbrellaw16_named {x_p0 : Value} {w : World} {R : Value → World → Prop} (h : M_tumbrellaw16_named x_p0 w R) : CALL PR F_tumbrellaw16_named [x_p0] w R :=
  call_of_den2 ann_tumbrellaw16_named Tryz.func17 (by kernel_rfl) (by kernel_rfl) (by kernel_rfl) ((E_tumbrellaw16_named x_p0 w R) ▸ h)
-- 18 (*tumbrel.tumbrelref06.Disk).Create
def M_tumbrelref06_Disk_Create (d_p0 name_p1 : Value) (w : World) (R : Value → World → Prop) : Prop :=
  CALL PR F_tumbrelref06_may [name_p1] w fun t7_1 w1 =>
  BND (unv .not t7_1) fun t8_2 =>
  JOIN (α := Value → World → Prop) (fun k_77 => COND t8_2
  (k_77 (Value.int .i64 1) w1)
  (CALL PR F_tumbrelref06_Disk_find [d_p0, name_p1] w1 fun t11_78 w17 =>
  BND (binv .int .geq t11_78 (Value.int .i64 0)) fun t12_79 =>
  JOIN (α := Value → World → Prop) (fun k_85 => COND t12_79
  (k_85 (Value.int .i64 6) w17)
  (CALL PR F_tumbrelref06_Disk_now [d_p0] w17 fun t14_86 w19 =>
  BND (lenl t14_86) fun t15_87 =>
  BND (binv .int .geq t15_87 (Value.int .i64 60)) fun t16_88 =>
  JOIN (α := Value → World → Prop) (fun k_90 => COND t16_88
  (k_90 (Value.int .i64 4) w19)
  (k_90 (Value.int .i64 0) w19))
  (fun e_89 w20 => k_85 e_89 w20)))
  (fun e_80 w18 => k_77 e_80 w18)))
  (fun e_3 w2 => CALL PR F_tumbrelref06_Disk_can [d_p0, e_3] w2 fun t19_12 w3 =>
  BND (binv .int .eql t19_12 (Value.int .i64 0)) fun t21_13 =>
  JOIN (α := World → Prop) (fun k_48 => COND t21_13
  (BND (newslice 101 #[(Value.slice none 0 0), (Value.int .i64 0)] 2 0 [] w3) fun p_ => NEW p_ fun t23_49 w5 =>
  BND (nilchk d_p0) fun t25_50 =>
  BND (faddr 1 t25_50) fun t26_51 =>
  BND (load1 w5 t26_51) fun t27_52 =>
  APPEND 101 2 32 (Value.agg #[(Value.slice none 0 0), (Value.int .i64 0)]) t23_49 t27_52 w5 fun t28_53 w6 =>
  BND (buildv #[(Value.slice none 0 0), (Value.int .i64 0)] []) fun t29_54 =>
  BND (newslice 101 #[(Value.slice none 0 0), (Value.int .i64 0)] 2 1 [(0, 2, t29_54)] w6) fun p_ => NEW p_ fun t30_55 w7 =>
  APPEND 101 2 32 (Value.agg #[(Value.slice none 0 0), (Value.int .i64 0)]) t28_53 t30_55 w7 fun t31_56 w8 =>
  BND (nilchk d_p0) fun t32_57 =>
  BND (faddr 1 t32_57) fun t33_58 =>
  BND (storev 1 w8 t33_58 t31_56) fun w9 =>
  ∃ S_59 : Nat → World → Prop,
  S_59 5 w9.drew ∧
  S_59 13 w9.drew ∧
  BND (nilchk d_p0) fun t37_60 =>
  BND (faddr 2 t37_60) fun t38_61 =>
  FLT (S_59 5) (fun w_ => load1 w_ t38_61) fun t39_62 =>
  BND (nilchk d_p0) fun t45_63 =>
  BND (faddr 1 t45_63) fun t46_64 =>
  FLT (S_59 13) (fun w_ => load1 w_ t46_64) fun t47_65 =>
  BND (lenl t47_65) fun t48_66 =>
  BND (binv .int .sub t48_66 (Value.int .i64 1)) fun t49_67 =>
  BND (buildv #[(Value.string ByteArray.empty), (Value.int .i64 0)] [(0, 1, name_p1), (1, 1, t49_67)]) fun t50_68 =>
  BND (newslice 72 #[(Value.slice none 0 0)] 1 0 [] w9.drew) fun p_ => NEW p_ fun t35_69 w10 =>
  S_59 5 w10 ∧
  S_59 13 w10 ∧
  APPEND 72 1 24 (Value.slice none 0 0) t35_69 t39_62 w10 fun t40_70 w11 =>
  S_59 13 w11 ∧
  CALL PR F_tumbrelref06_Disk_now [d_p0] w11 fun t42_71 w12 =>
  S_59 13 w12 ∧
  CALL PR F_tumbrelref06_with [t42_71, t50_68] w12 fun t51_72 w13 =>
  BND (newslice 72 #[(Value.slice none 0 0)] 1 1 [(0, 1, t51_72)] w13) fun p_ => NEW p_ fun t52_73 w14 =>
  APPEND 72 1 24 (Value.slice none 0 0) t40_70 t52_73 w14 fun t53_74 w15 =>
  BND (nilchk d_p0) fun t54_75 =>
  BND (faddr 2 t54_75) fun t55_76 =>
  BND (storev 1 w15 t55_76 t53_74) fun w16 =>
  k_48 w16)
  (k_48 w3))
  (fun w4 => R t19_12 w4))
def ann_tumbrelref06_Disk_Create : List (Nat × List Nat) := [(11, [0, 2, 3, 4, 5, 7, 9, 10, 11, 12, 13, 14, 15, 16, 1, 6, 8, 17, 18, 19, 20, 21, 22]), (2000011, [5, 13]), (3011001, [5, 13]), (3011006, [13]), (3011008, [13])]
theorem E_tumbrelref06_Disk_Create (d_p0 name_p1 : Value) (w : World) (R : Value → World → Prop) : M_tumbrelref06_Disk_Create d_p0 name_p1 w R = den PR ann_tumbrelref06_Disk_Create (bodyOf Tryz.f18) (retQ PR Tryz.f18.results.toList R) (env0 [d_p0, name_p1]) w := by kernel_rfl
theorem C_tumbrelref06_Disk_Create {d_p0 name_p1 : Value} {w : World} {R : Value → World → Prop} (h : M_tumbrelref06_Disk_Create d_p0 name_p1 w R) : CALL PR F_tumbrelref06_Disk_Create [d_p0, name_p1] w R :=
  call_of_den2 ann_tumbrelref06_Disk_Create Tryz.func18 (by kernel_rfl) (by kernel_rfl) (by kernel_rfl) ((E_tumbrelref06_Disk_Create d_p0 name_p1 w R) ▸ h)
-- 19 (*tumbrel.disk.Disk).Append
def M_disk_Disk_Append (d_p0 name_p1 b_p2 : Value) (w : World) (R : Value → World → Prop) : Prop :=
  CALL PR F_disk_Disk_there [d_p0, name_p1] w fun t11_1 w1 =>
  ∃ S_2 : Nat → World → Prop,
  S_2 11 w1.drew ∧
  BND (binv .int .eql t11_1 (Value.int .i64 0)) fun t13_3 =>
  BND (grd (isB t13_3 true) (some d_p0)) fun t15_4 =>
  BND (grd (isB t13_3 true) (some b_p2)) fun t17_5 =>
  BND (grd (isB t13_3 true) (lenl t17_5)) fun t18_6 =>
  BND (grd (isB t13_3 true) (some d_p0)) fun t20_7 =>
  BND (grd (isB t13_3 true) (nilchk t20_7)) fun t21_8 =>
  BND (grd (isB t13_3 true) (faddr 0 t21_8)) fun t22_9 =>
  FLT (S_2 11) (fun w_ => (grd (isB t13_3 true) (load1 w_ t22_9))) fun t23_10 =>
  GEF (isB t13_3 true) (fun k_ => CALL PR F_disk_Disk_Held [t15_4] w1.drew k_) w1.drew fun t16_11 w2 =>
  S_2 11 w2 ∧
  BND (grd (isB t13_3 true) (binv .int .add t16_11 t18_6)) fun t19_12 =>
  BND (grd (isB t13_3 true) (binv .int .gtr t19_12 t23_10)) fun t24_13 =>
  BND (pickv t13_3 t24_13 (Value.bool false)) fun t25_14 =>
  JOIN (α := Value → World → Prop) (fun k_41 => COND t25_14
  (k_41 (Value.int .i64 4) w2)
  (k_41 t11_1 w2))
  (fun e_15 w3 => CALL PR F_disk_Disk_can [d_p0, e_15] w3 fun t28_16 w4 =>
  BND (binv .int .eql t28_16 (Value.int .i64 0)) fun t30_17 =>
  JOIN (α := World → Prop) (fun k_32 => COND t30_17
  (CALL PR F_disk_Disk_now [d_p0] w4 fun t32_33 w6 =>
  BND (lookv .string (Value.pointer none) false w6 t32_33 name_p1) fun t34_34 =>
  BND (nilchk t34_34) fun t37_35 =>
  BND (faddr 0 t37_35) fun t38_36 =>
  BND (load1 w6 t38_36) fun t39_37 =>
  APPEND 5 1 1 (Value.int .u8 0) t39_37 b_p2 w6 fun t41_38 w7 =>
  BND (nilchk t34_34) fun t42_39 =>
  BND (faddr 0 t42_39) fun t43_40 =>
  BND (storev 1 w7 t43_40 t41_38) fun w8 =>
  k_32 w8)
  (k_32 w4))
  (fun w5 => R t28_16 w5))
def ann_disk_Disk_Append : List (Nat × List Nat) := [(2, [0, 1, 2, 3, 5, 6, 8, 9, 10, 11, 4, 7, 12, 13]), (2000002, [11]), (3002004, [11])]
theorem E_disk_Disk_Append (d_p0 name_p1 b_p2 : Value) (w : World) (R : Value → World → Prop) : M_disk_Disk_Append d_p0 name_p1 b_p2 w R = den PR ann_disk_Disk_Append (bodyOf Tryz.f19) (retQ PR Tryz.f19.results.toList R) (env0 [d_p0, name_p1, b_p2]) w := by kernel_rfl
theorem C_disk_Disk_Append {d_p0 name_p1 b_p2 : Value} {w : World} {R : Value → World → Prop} (h : M_disk_Disk_Append d_p0 name_p1 b_p2 w R) : CALL PR F_disk_Disk_Append [d_p0, name_p1, b_p2] w R :=
  call_of_den2 ann_disk_Disk_Append Tryz.func19 (by kernel_rfl) (by kernel_rfl) (by kernel_rfl) ((E_disk_Disk_Append d_p0 name_p1 b_p2 w R) ▸ h)
-- 20 (*tumbrel.tumbrelref06.Disk).Append
def M_tumbrelref06_Disk_Append (d_p0 name_p1 b_p2 : Value) (w : World) (R : Value → World → Prop) : Prop :=
  CALL PR F_tumbrelref06_Disk_find [d_p0, name_p1] w fun t11_1 w1 =>
  BND (binv .int .lss t11_1 (Value.int .i64 0)) fun t13_2 =>
  JOIN (α := Value → World → Prop) (fun k_51 => COND t13_2
  (k_51 (Value.int .i64 5) w1)
  (∃ S_52 : Nat → World → Prop,
  S_52 8 w1.drew ∧
  BND (lenl b_p2) fun t17_53 =>
  BND (nilchk d_p0) fun t20_54 =>
  BND (faddr 0 t20_54) fun t21_55 =>
  FLT (S_52 8) (fun w_ => load1 w_ t21_55) fun t22_56 =>
  CALL PR F_tumbrelref06_Disk_Held [d_p0] w1.drew fun t15_57 w9 =>
  S_52 8 w9 ∧
  BND (binv .int .add t15_57 t17_53) fun t18_58 =>
  BND (binv .int .gtr t18_58 t22_56) fun t23_59 =>
  JOIN (α := Value → World → Prop) (fun k_61 => COND t23_59
  (k_61 (Value.int .i64 4) w9)
  (k_61 (Value.int .i64 0) w9))
  (fun e_60 w10 => k_51 e_60 w10)))
  (fun e_3 w2 => CALL PR F_tumbrelref06_Disk_can [d_p0, e_3] w2 fun t26_14 w3 =>
  BND (binv .int .eql t26_14 (Value.int .i64 0)) fun t28_15 =>
  JOIN (α := World → Prop) (fun k_35 => COND t28_15
  (∃ S_36 : Nat → World → Prop,
  S_36 3 w3.drew ∧
  S_36 9 w3.drew ∧
  S_36 13 w3.drew ∧
  BND (nilchk d_p0) fun t30_37 =>
  BND (faddr 1 t30_37) fun t31_38 =>
  FLT (S_36 3) (fun w_ => load1 w_ t31_38) fun t32_39 =>
  BND (nilchk d_p0) fun t36_40 =>
  BND (faddr 1 t36_40) fun t37_41 =>
  FLT (S_36 9) (fun w_ => load1 w_ t37_41) fun t38_42 =>
  BND (iaddr 2 t38_42 t11_1) fun t40_43 =>
  BND (faddr 0 t40_43) fun t41_44 =>
  FLT (S_36 13) (fun w_ => load1 w_ t41_44) fun t42_45 =>
  BND (newslice 5 #[(Value.int .u8 0)] 1 0 [] w3.drew) fun p_ => NEW p_ fun t34_46 w5 =>
  S_36 3 w5 ∧
  S_36 9 w5 ∧
  S_36 13 w5 ∧
  APPEND 5 1 1 (Value.int .u8 0) t34_46 t42_45 w5 fun t43_47 w6 =>
  S_36 3 w6 ∧
  APPEND 5 1 1 (Value.int .u8 0) t43_47 b_p2 w6 fun t45_48 w7 =>
  S_36 3 w7 ∧
  BND (iaddr 2 t32_39 t11_1) fun t46_49 =>
  BND (faddr 0 t46_49) fun t47_50 =>
  BND (storev 1 w7 t47_50 t45_48) fun w8 =>
  k_35 w8)
  (k_35 w3))
  (fun w4 => R t26_14 w4))
def ann_tumbrelref06_Disk_Append : List (Nat × List Nat) := [(5, [0, 2, 3, 5, 6, 7, 8, 1, 4, 9]), (9, [0, 1, 2, 3, 4, 6, 7, 8, 9, 10, 11, 12, 13, 15, 5, 14, 16, 17, 18, 19]), (2000005, [8]), (2000009, [3, 9, 13]), (3005001, [8]), (3009005, [3, 9, 13]), (3009014, [3]), (3009016, [3])]
theorem E_tumbrelref06_Disk_Append (d_p0 name_p1 b_p2 : Value) (w : World) (R : Value → World → Prop) : M_tumbrelref06_Disk_Append d_p0 name_p1 b_p2 w R = den PR ann_tumbrelref06_Disk_Append (bodyOf Tryz.f20) (retQ PR Tryz.f20.results.toList R) (env0 [d_p0, name_p1, b_p2]) w := by kernel_rfl
theorem C_tumbrelref06_Disk_Append {d_p0 name_p1 b_p2 : Value} {w : World} {R : Value → World → Prop} (h : M_tumbrelref06_Disk_Append d_p0 name_p1 b_p2 w R) : CALL PR F_tumbrelref06_Disk_Append [d_p0, name_p1, b_p2] w R :=
  call_of_den2 ann_tumbrelref06_Disk_Append Tryz.func20 (by kernel_rfl) (by kernel_rfl) (by kernel_rfl) ((E_tumbrelref06_Disk_Append d_p0 name_p1 b_p2 w R) ▸ h)
-- 21 (*tumbrel.disk.Disk).Sync
def M_disk_Disk_Sync (d_p0 name_p1 : Value) (w : World) (R : Value → World → Prop) : Prop :=
  CALL PR F_disk_Disk_there [d_p0, name_p1] w fun t10_1 w1 =>
  CALL PR F_disk_Disk_can [d_p0, t10_1] w1 fun t11_2 w2 =>
  BND (binv .int .eql t11_2 (Value.int .i64 0)) fun t13_3 =>
  JOIN (α := World → Prop) (fun k_17 => COND t13_3
  (CALL PR F_disk_Disk_now [d_p0] w2 fun t15_18 w4 =>
  BND (lookv .string (Value.pointer none) false w4 t15_18 name_p1) fun t17_19 =>
  BND (nilchk t17_19) fun t20_20 =>
  BND (faddr 0 t20_20) fun t21_21 =>
  BND (load1 w4 t21_21) fun t22_22 =>
  BND (lenl t22_22) fun t23_23 =>
  BND (nilchk t17_19) fun t24_24 =>
  BND (faddr 1 t24_24) fun t25_25 =>
  BND (storev 1 w4 t25_25 t23_23) fun w5 =>
  k_17 w5)
  (k_17 w2))
  (fun w3 => R t11_2 w3)
def ann_disk_Disk_Sync : List (Nat × List Nat) := []
theorem E_disk_Disk_Sync (d_p0 name_p1 : Value) (w : World) (R : Value → World → Prop) : M_disk_Disk_Sync d_p0 name_p1 w R = den PR ann_disk_Disk_Sync (bodyOf Tryz.f21) (retQ PR Tryz.f21.results.toList R) (env0 [d_p0, name_p1]) w := by kernel_rfl
theorem C_disk_Disk_Sync {d_p0 name_p1 : Value} {w : World} {R : Value → World → Prop} (h : M_disk_Disk_Sync d_p0 name_p1 w R) : CALL PR F_disk_Disk_Sync [d_p0, name_p1] w R :=
  call_of_den2 ann_disk_Disk_Sync Tryz.func21 (by kernel_rfl) (by kernel_rfl) (by kernel_rfl) ((E_disk_Disk_Sync d_p0 name_p1 w R) ▸ h)
-- 22 (*tumbrel.tumbrelref06.Disk).Sync
def M_tumbrelref06_Disk_Sync (d_p0 name_p1 : Value) (w : World) (R : Value → World → Prop) : Prop :=
  CALL PR F_tumbrelref06_Disk_find [d_p0, name_p1] w fun t9_1 w1 =>
  BND (binv .int .lss t9_1 (Value.int .i64 0)) fun t11_2 =>
  JOIN (α := Value → World → Prop) (fun k_35 => COND t11_2
  (k_35 (Value.int .i64 5) w1)
  (k_35 (Value.int .i64 0) w1))
  (fun e_3 w2 => CALL PR F_tumbrelref06_Disk_can [d_p0, e_3] w2 fun t14_4 w3 =>
  BND (binv .int .eql t14_4 (Value.int .i64 0)) fun t16_5 =>
  JOIN (α := World → Prop) (fun k_22 => COND t16_5
  (BND (nilchk d_p0) fun t18_23 =>
  BND (faddr 1 t18_23) fun t19_24 =>
  BND (nilchk d_p0) fun t23_25 =>
  BND (faddr 1 t23_25) fun t24_26 =>
  BND (load1 w3.drew t19_24) fun t20_27 =>
  BND (load1 w3.drew t24_26) fun t25_28 =>
  BND (iaddr 2 t25_28 t9_1) fun t27_29 =>
  BND (faddr 0 t27_29) fun t28_30 =>
  BND (load1 w3.drew t28_30) fun t29_31 =>
  BND (lenl t29_31) fun t30_32 =>
  BND (iaddr 2 t20_27 t9_1) fun t31_33 =>
  BND (faddr 1 t31_33) fun t32_34 =>
  BND (storev 1 w3.drew t32_34 t30_32) fun w5 =>
  k_22 w5)
  (k_22 w3))
  (fun w4 => R t14_4 w4))
def ann_tumbrelref06_Disk_Sync : List (Nat × List Nat) := [(7, [0, 1, 2, 4, 5, 6, 7, 9, 3, 8, 10, 11, 12, 13, 14, 15, 16])]
theorem E_tumbrelref06_Disk_Sync (d_p0 name_p1 : Value) (w : World) (R : Value → World → Prop) : M_tumbrelref06_Disk_Sync d_p0 name_p1 w R = den PR ann_tumbrelref06_Disk_Sync (bodyOf Tryz.f22) (retQ PR Tryz.f22.results.toList R) (env0 [d_p0, name_p1]) w := by kernel_rfl
theorem C_tumbrelref06_Disk_Sync {d_p0 name_p1 : Value} {w : World} {R : Value → World → Prop} (h : M_tumbrelref06_Disk_Sync d_p0 name_p1 w R) : CALL PR F_tumbrelref06_Disk_Sync [d_p0, name_p1] w R :=
  call_of_den2 ann_tumbrelref06_Disk_Sync Tryz.func22 (by kernel_rfl) (by kernel_rfl) (by kernel_rfl) ((E_tumbrelref06_Disk_Sync d_p0 name_p1 w R) ▸ h)
-- 23 (*tumbrel.disk.Disk).DirSync
def M_disk_Disk_DirSync (d_p0 : Value) (w : World) (R : Value → World → Prop) : Prop :=
  CALL PR F_disk_Disk_can [d_p0, (Value.int .i64 0)] w fun t5_1 w1 =>
  BND (binv .int .eql t5_1 (Value.int .i64 0)) fun t7_2 =>
  JOIN (α := World → Prop) (fun k_11 => COND t7_2
  (CALL PR F_disk_Disk_now [d_p0] w1 fun t11_12 w3 =>
  BND (nilchk d_p0) fun t12_13 =>
  BND (faddr 1 t12_13) fun t13_14 =>
  BND (storev 1 w3 t13_14 t11_12) fun w4 =>
  BND (nilchk d_p0) fun t14_15 =>
  BND (faddr 2 t14_15) fun t15_16 =>
  BND (storev 1 w4 t15_16 (Value.slice none 0 0)) fun w5 =>
  k_11 w5)
  (k_11 w1))
  (fun w2 => R t5_1 w2)
def ann_disk_Disk_DirSync : List (Nat × List Nat) := []
theorem E_disk_Disk_DirSync (d_p0 : Value) (w : World) (R : Value → World → Prop) : M_disk_Disk_DirSync d_p0 w R = den PR ann_disk_Disk_DirSync (bodyOf Tryz.f23) (retQ PR Tryz.f23.results.toList R) (env0 [d_p0]) w := by kernel_rfl
theorem C_disk_Disk_DirSync {d_p0 : Value} {w : World} {R : Value → World → Prop} (h : M_disk_Disk_DirSync d_p0 w R) : CALL PR F_disk_Disk_DirSync [d_p0] w R :=
  call_of_den2 ann_disk_Disk_DirSync Tryz.func23 (by kernel_rfl) (by kernel_rfl) (by kernel_rfl) ((E_disk_Disk_DirSync d_p0 w R) ▸ h)
-- 24 (*tumbrel.tumbrelref06.Disk).DirSync
def M_tumbrelref06_Disk_DirSync (d_p0 : Value) (w : World) (R : Value → World → Prop) : Prop :=
  CALL PR F_tumbrelref06_Disk_can [d_p0, (Value.int .i64 0)] w fun t5_1 w1 =>
  BND (binv .int .eql t5_1 (Value.int .i64 0)) fun t7_2 =>
  JOIN (α := World → Prop) (fun k_9 => COND t7_2
  (CALL PR F_tumbrelref06_Disk_now [d_p0] w1 fun t10_10 w3 =>
  BND (newslice 72 #[(Value.slice none 0 0)] 1 1 [(0, 1, t10_10)] w3) fun p_ => NEW p_ fun t11_11 w4 =>
  BND (nilchk d_p0) fun t12_12 =>
  BND (faddr 2 t12_12) fun t13_13 =>
  BND (storev 1 w4 t13_13 t11_11) fun w5 =>
  k_9 w5)
  (k_9 w1))
  (fun w2 => R t5_1 w2)
def ann_tumbrelref06_Disk_DirSync : List (Nat × List Nat) := []
theorem E_tumbrelref06_Disk_DirSync (d_p0 : Value) (w : World) (R : Value → World → Prop) : M_tumbrelref06_Disk_DirSync d_p0 w R = den PR ann_tumbrelref06_Disk_DirSync (bodyOf Tryz.f24) (retQ PR Tryz.f24.results.toList R) (env0 [d_p0]) w := by kernel_rfl
theorem C_tumbrelref06_Disk_DirSync {d_p0 : Value} {w : World} {R : Value → World → Prop} (h : M_tumbrelref06_Disk_DirSync d_p0 w R) : CALL PR F_tumbrelref06_Disk_DirSync [d_p0] w R :=
  call_of_den2 ann_tumbrelref06_Disk_DirSync Tryz.func24 (by kernel_rfl) (by kernel_rfl) (by kernel_rfl) ((E_tumbrelref06_Disk_DirSync d_p0 w R) ▸ h)
-- 25 tumbrel.root.Right
def M_root_Right (r_p0 : Value) (w : World) (R : Value → World → Prop) : Prop :=
  NEW (newv 35 w r_p0) fun r_1 w1 =>
  BND (faddr 1 r_1) fun t3_2 =>
  BND (loadn 3 w1 t3_2) fun t4_3 =>
  CALL PR F_index_Right [t4_3] w1 fun t5_4 w2 =>
  BND (grd (isB t5_4 true) (faddr 0 r_1)) fun t7_5 =>
  BND (grd (isB t5_4 true) (load1 w2 t7_5)) fun t8_6 =>
  BND (grd (isB t5_4 true) (binv .int .geq t8_6 (Value.int .u64 1))) fun t9_7 =>
  BND (pickv t5_4 t9_7 (Value.bool false)) fun t10_8 =>
  BND (grd (isB t10_8 true) (faddr 0 r_1)) fun t12_9 =>
  BND (grd (isB t10_8 true) (load1 w2 t12_9)) fun t13_10 =>
  BND (grd (isB t10_8 true) (binv .int .lss t13_10 (Value.int .u64 10000000000))) fun t14_11 =>
  BND (pickv t10_8 t14_11 (Value.bool false)) fun t15_12 =>
  BND (grd (isB t15_12 true) (faddr 4 r_1)) fun t17_13 =>
  BND (grd (isB t15_12 true) (load1 w2 t17_13)) fun t18_14 =>
  BND (grd (isB t15_12 true) (binv .int .geq t18_14 (Value.int .i64 64))) fun t19_15 =>
  BND (pickv t15_12 t19_15 (Value.bool false)) fun t20_16 =>
  BND (grd (isB t20_16 true) (faddr 4 r_1)) fun t22_17 =>
  BND (grd (isB t20_16 true) (load1 w2 t22_17)) fun t23_18 =>
  BND (grd (isB t20_16 true) (binv .int .leq t23_18 (Value.int .i64 65536))) fun t24_19 =>
  BND (pickv t20_16 t24_19 (Value.bool false)) fun t25_20 =>
  R t25_20 w2
def ann_root_Right : List (Nat × List Nat) := []
theorem E_root_Right (r_p0 : Value) (w : World) (R : Value → World → Prop) : M_root_Right r_p0 w R = den PR ann_root_Right (bodyOf Tryz.f25) (retQ PR Tryz.f25.results.toList R) (env0 [r_p0]) w := by kernel_rfl
theorem C_root_Right {r_p0 : Value} {w : World} {R : Value → World → Prop} (h : M_root_Right r_p0 w R) : CALL PR F_root_Right [r_p0] w R :=
  call_of_den2 ann_root_Right Tryz.func25 (by kernel_rfl) (by kernel_rfl) (by kernel_rfl) ((E_root_Right r_p0 w R) ▸ h)
-- 26 tumbrel.tumbrelref16.Right
def M_tumbrelref16_Right (r_p0 : Value) (w : World) (R : Value → World → Prop) : Prop :=
  NEW (newv 42 w r_p0) fun r_1 w1 =>
  BND (faddr 1 r_1) fun t3_2 =>
  BND (loadn 3 w1 t3_2) fun t4_3 =>
  CALL PR F_tumbrelref11_Right [t4_3] w1 fun t5_4 w2 =>
  BND (grd (isB t5_4 true) (faddr 0 r_1)) fun t7_5 =>
  BND (grd (isB t5_4 true) (load1 w2 t7_5)) fun t8_6 =>
  BND (grd (isB t5_4 true) (binv .int .geq t8_6 (Value.int .u64 1))) fun t9_7 =>
  BND (pickv t5_4 t9_7 (Value.bool false)) fun t10_8 =>
  BND (grd (isB t10_8 true) (faddr 0 r_1)) fun t12_9 =>
  BND (grd (isB t10_8 true) (load1 w2 t12_9)) fun t13_10 =>
  BND (grd (isB t10_8 true) (binv .int .leq t13_10 (Value.int .u64 9999999999))) fun t14_11 =>
  BND (pickv t10_8 t14_11 (Value.bool false)) fun t15_12 =>
  BND (grd (isB t15_12 true) (faddr 4 r_1)) fun t17_13 =>
  BND (grd (isB t15_12 true) (load1 w2 t17_13)) fun t18_14 =>
  BND (grd (isB t15_12 true) (binv .int .geq t18_14 (Value.int .i64 64))) fun t19_15 =>
  BND (pickv t15_12 t19_15 (Value.bool false)) fun t20_16 =>
  BND (grd (isB t20_16 true) (faddr 4 r_1)) fun t22_17 =>
  BND (grd (isB t20_16 true) (load1 w2 t22_17)) fun t23_18 =>
  BND (grd (isB t20_16 true) (binv .int .leq t23_18 (Value.int .i64 65536))) fun t24_19 =>
  BND (pickv t20_16 t24_19 (Value.bool false)) fun t25_20 =>
  R t25_20 w2
def ann_tumbrelref16_Right : List (Nat × List Nat) := []
theorem E_tumbrelref16_Right (r_p0 : Value) (w : World) (R : Value → World → Prop) : M_tumbrelref16_Right r_p0 w R = den PR ann_tumbrelref16_Right (bodyOf Tryz.f26) (retQ PR Tryz.f26.results.toList R) (env0 [r_p0]) w := by kernel_rfl
theorem C_tumbrelref16_Right {r_p0 : Value} {w : World} {R : Value → World → Prop} (h : M_tumbrelref16_Right r_p0 w R) : CALL PR F_tumbrelref16_Right [r_p0] w R :=
  call_of_den2 ann_tumbrelref16_Right Tryz.func26 (by kernel_rfl) (by kernel_rfl) (by kernel_rfl) ((E_tumbrelref16_Right r_p0 w R) ▸ h)
-- 27 tumbrel.tumbrelref06.Same
def M_tumbrelref06_Same (a_p0 b_p1 : Value) (w : World) (R : Value → World → Prop) : Prop :=
  BND (lenl a_p0) fun t7_1 =>
  BND (lenl b_p1) fun t9_2 =>
  BND (binv .int .neq t7_1 t9_2) fun t10_3 =>
  COND t10_3
  (R (Value.bool false) w)
  (∃ (J_4 : Value → World → Prop) (m_4 : Value → World → Nat), J_4 (Value.int .i64 0) w ∧ ∀ (_d_4 : Env) (i_6 : Value) (w1 : World), J_4 i_6 w1 →
  (BND (lenl a_p0) fun t13_22 =>
  BND (binv .int .lss i_6 t13_22) fun t14_23 =>
  COND t14_23
  (BND (iaddr 1 a_p0 i_6) fun t19_24 =>
  BND (iaddr 1 b_p1 i_6) fun t23_25 =>
  BND (load1 w1.drew t19_24) fun t20_26 =>
  BND (load1 w1.drew t23_25) fun t24_27 =>
  BND (binv .str .neq t20_26 t24_27) fun t25_28 =>
  COND t25_28
  (R (Value.bool false) w1.drew)
  (BND (binv .int .add i_6 (Value.int .i64 1)) fun t16_29 =>
  (J_4 t16_29 w1.drew ∧ m_4 t16_29 w1.drew < m_4 i_6 w1)))
  (R (Value.bool true) w1)))
def ann_tumbrelref06_Same : List (Nat × List Nat) := [(6, [0, 1, 2, 4, 5, 6, 3, 7, 8]), (1000004, [5])]
theorem E_tumbrelref06_Same (a_p0 b_p1 : Value) (w : World) (R : Value → World → Prop) : M_tumbrelref06_Same a_p0 b_p1 w R = den PR ann_tumbrelref06_Same (bodyOf Tryz.f27) (retQ PR Tryz.f27.results.toList R) (env0 [a_p0, b_p1]) w := by kernel_rfl
theorem C_tumbrelref06_Same {a_p0 b_p1 : Value} {w : World} {R : Value → World → Prop} (h : M_tumbrelref06_Same a_p0 b_p1 w R) : CALL PR F_tumbrelref06_Same [a_p0, b_p1] w R :=
  call_of_den2 ann_tumbrelref06_Same Tryz.func27 (by kernel_rfl) (by kernel_rfl) (by kernel_rfl) ((E_tumbrelref06_Same a_p0 b_p1 w R) ▸ h)
-- 28 (*tumbrel.disk.Disk).Names
def M_disk_Disk_Names (d_p0 : Value) (w : World) (R : Value → World → Prop) : Prop :=
  CALL PR F_disk_Disk_now [d_p0] w fun t4_1 w1 =>
  CALL PR F_maps_Keys_file [t4_1] w1 fun t5_2 w2 =>
  CALL PR F_slices_Sorted_string [t5_2] w2 fun t6_3 w3 =>
  R t6_3 w3
def ann_disk_Disk_Names : List (Nat × List Nat) := []
theorem E_disk_Disk_Names (d_p0 : Value) (w : World) (R : Value → World → Prop) : M_disk_Disk_Names d_p0 w R = den PR ann_disk_Disk_Names (bodyOf Tryz.f28) (retQ PR Tryz.f28.results.toList R) (env0 [d_p0]) w := by kernel_rfl
theorem C_disk_Disk_Names {d_p0 : Value} {w : World} {R : Value → World → Prop} (h : M_disk_Disk_Names d_p0 w R) : CALL PR F_disk_Disk_Names [d_p0] w R :=
  call_of_den2 ann_disk_Disk_Names Tryz.func28 (by kernel_rfl) (by kernel_rfl) (by kernel_rfl) ((E_disk_Disk_Names d_p0 w R) ▸ h)
-- 29 (*tumbrel.tumbrelref06.Disk).Names
def M_tumbrelref06_Disk_Names (d_p0 : Value) (w : World) (R : Value → World → Prop) : Prop :=
  BND (newslice 9 #[(Value.string ByteArray.empty)] 1 0 [] w) fun p_ => NEW p_ fun t6_1 w1 =>
  CALL PR F_tumbrelref06_Disk_now [d_p0] w1 fun t8_2 w2 =>
  ∃ (J_3 : Value → Value → World → Prop) (m_3 : Value → Value → World → Nat), J_3 t6_1 (Value.int .i64 0) w2 ∧ ∀ (_d_3 : Env) (out_4 i_5 : Value) (w3 : World), J_3 out_4 i_5 w3 →
  (BND (lenl t8_2) fun t11_20 =>
  BND (binv .int .lss i_5 t11_20) fun t12_21 =>
  COND t12_21
  (BND (iaddr 2 t8_2 i_5) fun t18_22 =>
  BND (faddr 0 t18_22) fun t19_23 =>
  BND (load1 w3 t19_23) fun t20_24 =>
  BND (newslice 9 #[(Value.string ByteArray.empty)] 1 1 [(0, 1, t20_24)] w3) fun p_ => NEW p_ fun t21_25 w4 =>
  APPEND 9 1 16 (Value.string ByteArray.empty) out_4 t21_25 w4 fun t22_26 w5 =>
  BND (binv .int .add i_5 (Value.int .i64 1)) fun t14_27 =>
  (J_3 t22_26 t14_27 w5 ∧ m_3 t22_26 t14_27 w5 < m_3 out_4 i_5 w3))
  (R out_4 w3))
def ann_tumbrelref06_Disk_Names : List (Nat × List Nat) := [(1000004, [3, 5])]
theorem E_tumbrelref06_Disk_Names (d_p0 : Value) (w : World) (R : Value → World → Prop) : M_tumbrelref06_Disk_Names d_p0 w R = den PR ann_tumbrelref06_Disk_Names (bodyOf Tryz.f29) (retQ PR Tryz.f29.results.toList R) (env0 [d_p0]) w := by kernel_rfl
theorem C_tumbrelref06_Disk_Names {d_p0 : Value} {w : World} {R : Value → World → Prop} (h : M_tumbrelref06_Disk_Names d_p0 w R) : CALL PR F_tumbrelref06_Disk_Names [d_p0] w R :=
  call_of_den2 ann_tumbrelref06_Disk_Names Tryz.func29 (by kernel_rfl) (by kernel_rfl) (by kernel_rfl) ((E_tumbrelref06_Disk_Names d_p0 w R) ▸ h)
-- 30 (*tumbrel.disk.Disk).Held
def M_disk_Disk_Held (d_p0 : Value) (w : World) (R : Value → World → Prop) : Prop :=
  ∃ S_1 : Nat → World → Prop,
  S_1 8 w.drew ∧
  BND (nilchk d_p0) fun t10_2 =>
  BND (faddr 1 t10_2) fun t11_3 =>
  BND (nilchk d_p0) fun t15_4 =>
  BND (faddr 2 t15_4) fun t16_5 =>
  FLT (S_1 8) (fun w_ => load1 w_ t16_5) fun t17_6 =>
  BND (load1 w.drew t11_3) fun t12_7 =>
  BND (newslice 68 #[(Value.map none)] 1 1 [(0, 1, t12_7)] w.drew) fun p_ => NEW p_ fun t13_8 w1 =>
  S_1 8 w1 ∧
  APPEND 68 1 8 (Value.map none) t13_8 t17_6 w1 fun t18_9 w2 =>
  BND (lenl t18_9) fun t19_10 =>
  ∃ (J_11 : Value → Value → Value → World → Prop) (m_11 : Value → Value → Value → World → Nat), J_11 (Value.slice none 0 0) (Value.int .i64 0) (Value.int .i64 0) w2 ∧ ∀ (_d_11 : Env) (seen_12 n_13 t20_16 : Value) (w3 : World), J_11 seen_12 n_13 t20_16 w3 →
  (BND (binv .int .lss t20_16 t19_10) fun t21_42 =>
  COND t21_42
  (BND (iaddr 1 t18_9 t20_16) fun t22_43 =>
  BND (load1 w3 t22_43) fun t23_44 =>
  BND (rangemv w3 t23_44) fun p_ => NEW p_ fun t25_45 w4 =>
  ∃ (J_46 : Value → Value → World → Prop) (m_46 : Value → Value → World → Nat), J_46 seen_12 n_13 w4 ∧ ∀ (_d_46 : Env) (seen_47 n_48 : Value) (w5 : World), J_46 seen_47 n_48 w5 →
  (NEXTM t25_45 w5 fun t26_69 w6 =>
  BND (extractv t26_69 0) fun t27_70 =>
  COND t27_70
  (BND (entryv w6 t25_45) fun t28_71 =>
  BND (extractv t28_71 1) fun t29_72 =>
  CALL PR F_slices_Contains_disk_file_disk_file [seen_47, t29_72] w6 fun t32_73 w7 =>
  BND (unv .not t32_73) fun t33_74 =>
  JOIN (α := Value → Value → World → Prop) (fun k_88 => COND t33_74
  (BND (newslice 96 #[(Value.pointer none)] 1 1 [(0, 1, t29_72)] w7) fun p_ => NEW p_ fun t36_89 w9 =>
  APPEND 96 1 8 (Value.pointer none) seen_47 t36_89 w9 fun t37_90 w10 =>
  BND (nilchk t29_72) fun t40_91 =>
  BND (faddr 0 t40_91) fun t41_92 =>
  BND (load1 w10 t41_92) fun t42_93 =>
  BND (lenl t42_93) fun t43_94 =>
  BND (binv .int .add n_48 t43_94) fun t44_95 =>
  k_88 t37_90 t44_95 w10)
  (k_88 seen_47 n_48 w7))
  (fun seen_75 n_76 w8 => (J_46 seen_75 n_76 w8 ∧ m_46 seen_75 n_76 w8 < m_46 seen_47 n_48 w5)))
  (BND (binv .int .add t20_16 (Value.int .i64 1)) fun t45_96 =>
  (J_11 seen_47 n_48 t45_96 w6 ∧ m_11 seen_47 n_48 t45_96 w6 < m_11 seen_12 n_13 t20_16 w3))))
  (R n_13 w3))
def ann_disk_Disk_Held : List (Nat × List Nat) := [(3, [0, 1, 2, 5, 6, 7, 8, 11, 3, 4, 9, 10]), (1000004, [3, 4, 20]), (1000007, [3, 4]), (2000003, [8]), (3003004, [8])]
theorem E_disk_Disk_Held (d_p0 : Value) (w : World) (R : Value → World → Prop) : M_disk_Disk_Held d_p0 w R = den PR ann_disk_Disk_Held (bodyOf Tryz.f30) (retQ PR Tryz.f30.results.toList R) (env0 [d_p0]) w := by kernel_rfl
theorem C_disk_Disk_Held {d_p0 : Value} {w : World} {R : Value → World → Prop} (h : M_disk_Disk_Held d_p0 w R) : CALL PR F_disk_Disk_Held [d_p0] w R :=
  call_of_den2 ann_disk_Disk_Held Tryz.func30 (by kernel_rfl) (by kernel_rfl) (by kernel_rfl) ((E_disk_Disk_Held d_p0 w R) ▸ h)
-- 31 (*tumbrel.tumbrelref06.Disk).Held
def M_tumbrelref06_Disk_Held (d_p0 : Value) (w : World) (R : Value → World → Prop) : Prop :=
  ∃ (J_1 : Value → Value → World → Prop) (m_1 : Value → Value → World → Nat), J_1 (Value.int .i64 0) (Value.int .i64 0) w ∧ ∀ (_d_1 : Env) (n_2 f_3 : Value) (w1 : World), J_1 n_2 f_3 w1 →
  (BND (nilchk d_p0) fun t10_65 =>
  BND (faddr 1 t10_65) fun t11_66 =>
  BND (load1 w1 t11_66) fun t12_67 =>
  BND (lenl t12_67) fun t13_68 =>
  BND (binv .int .lss f_3 t13_68) fun t14_69 =>
  COND t14_69
  (∃ (J_70 : Value → Value → World → Prop) (m_70 : Value → Value → World → Nat), J_70 (Value.bool false) (Value.int .i64 0) w1 ∧ ∀ (_d_70 : Env) (there_71 i_72 : Value) (w2 : World), J_70 there_71 i_72 w2 →
  (BND (nilchk d_p0) fun t19_111 =>
  BND (faddr 2 t19_111) fun t20_112 =>
  BND (load1 w2 t20_112) fun t21_113 =>
  BND (lenl t21_113) fun t22_114 =>
  BND (binv .int .lss i_72 t22_114) fun t23_115 =>
  COND t23_115
  (∃ (J_116 : Value → Value → World → Prop) (m_116 : Value → Value → World → Nat), J_116 there_71 (Value.int .i64 0) w2 ∧ ∀ (_d_116 : Env) (there_117 k_118 : Value) (w3 : World), J_116 there_117 k_118 w3 →
  (BND (nilchk d_p0) fun t28_147 =>
  BND (faddr 2 t28_147) fun t29_148 =>
  BND (load1 w3 t29_148) fun t30_149 =>
  BND (iaddr 1 t30_149 i_72) fun t32_150 =>
  BND (load1 w3 t32_150) fun t33_151 =>
  BND (lenl t33_151) fun t34_152 =>
  BND (binv .int .lss k_118 t34_152) fun t35_153 =>
  COND t35_153
  (BND (grd (isB there_117 false) (some d_p0)) fun t40_154 =>
  BND (grd (isB there_117 false) (nilchk t40_154)) fun t41_155 =>
  BND (grd (isB there_117 false) (faddr 2 t41_155)) fun t42_156 =>
  BND (grd (isB there_117 false) (load1 w3 t42_156)) fun t43_157 =>
  BND (grd (isB there_117 false) (some i_72)) fun t44_158 =>
  BND (grd (isB there_117 false) (iaddr 1 t43_157 t44_158)) fun t45_159 =>
  BND (grd (isB there_117 false) (load1 w3 t45_159)) fun t46_160 =>
  BND (grd (isB there_117 false) (some k_118)) fun t47_161 =>
  BND (grd (isB there_117 false) (iaddr 2 t46_160 t47_161)) fun t48_162 =>
  BND (grd (isB there_117 false) (faddr 1 t48_162)) fun t49_163 =>
  BND (grd (isB there_117 false) (load1 w3 t49_163)) fun t50_164 =>
  BND (grd (isB there_117 false) (some f_3)) fun t51_165 =>
  BND (grd (isB there_117 false) (binv .int .eql t50_164 t51_165)) fun t52_166 =>
  BND (pickv there_117 (Value.bool true) t52_166) fun t53_167 =>
  BND (binv .int .add k_118 (Value.int .i64 1)) fun t37_168 =>
  (J_116 t53_167 t37_168 w3 ∧ m_116 t53_167 t37_168 w3 < m_116 there_117 k_118 w3))
  (BND (binv .int .add i_72 (Value.int .i64 1)) fun t25_169 =>
  (J_70 there_117 t25_169 w3 ∧ m_70 there_117 t25_169 w3 < m_70 there_71 i_72 w2))))
  (JOIN (α := Value → World → Prop) (fun k_183 => COND there_71
  (BND (nilchk d_p0) fun t57_184 =>
  BND (faddr 1 t57_184) fun t58_185 =>
  BND (load1 w2 t58_185) fun t59_186 =>
  BND (iaddr 2 t59_186 f_3) fun t61_187 =>
  BND (faddr 0 t61_187) fun t62_188 =>
  BND (load1 w2 t62_188) fun t63_189 =>
  BND (lenl t63_189) fun t64_190 =>
  BND (binv .int .add n_2 t64_190) fun t65_191 =>
  k_183 t65_191 w2)
  (k_183 n_2 w2))
  (fun n_170 w4 => BND (binv .int .add f_3 (Value.int .i64 1)) fun t16_182 =>
  (J_1 n_170 t16_182 w4 ∧ m_1 n_170 t16_182 w4 < m_1 n_2 f_3 w1)))))
  (R n_2 w1))
def ann_tumbrelref06_Disk_Held : List (Nat × List Nat) := [(1000003, [3, 4]), (1000007, [5, 6]), (1000010, [5, 7])]
theorem E_tumbrelref06_Disk_Held (d_p0 : Value) (w : World) (R : Value → World → Prop) : M_tumbrelref06_Disk_Held d_p0 w R = den PR ann_tumbrelref06_Disk_Held (bodyOf Tryz.f31) (retQ PR Tryz.f31.results.toList R) (env0 [d_p0]) w := by kernel_rfl
theorem C_tumbrelref06_Disk_Held {d_p0 : Value} {w : World} {R : Value → World → Prop} (h : M_tumbrelref06_Disk_Held d_p0 w R) : CALL PR F_tumbrelref06_Disk_Held [d_p0] w R :=
  call_of_den2 ann_tumbrelref06_Disk_Held Tryz.func31 (by kernel_rfl) (by kernel_rfl) (by kernel_rfl) ((E_tumbrelref06_Disk_Held d_p0 w R) ▸ h)
-- 32 (*tumbrel.disk.Disk).Down
def M_disk_Disk_Down (d_p0 : Value) (w : World) (R : Value → World → Prop) : Prop :=
  BND (nilchk d_p0) fun t4_1 =>
  BND (faddr 4 t4_1) fun t5_2 =>
  BND (load1 w t5_2) fun t6_3 =>
  R t6_3 w
def ann_disk_Disk_Down : List (Nat × List Nat) := []
theorem E_disk_Disk_Down (d_p0 : Value) (w : World) (R : Value → World → Prop) : M_disk_Disk_Down d_p0 w R = den PR ann_disk_Disk_Down (bodyOf Tryz.f32) (retQ PR Tryz.f32.results.toList R) (env0 [d_p0]) w := by kernel_rfl
theorem C_disk_Disk_Down {d_p0 : Value} {w : World} {R : Value → World → Prop} (h : M_disk_Disk_Down d_p0 w R) : CALL PR F_disk_Disk_Down [d_p0] w R :=
  call_of_den2 ann_disk_Disk_Down Tryz.func32 (by kernel_rfl) (by kernel_rfl) (by kernel_rfl) ((E_disk_Disk_Down d_p0 w R) ▸ h)
-- 33 tumbrel.record.Bytes
def M_record_Bytes (r_p0 : Value) (w : World) (R : Value → World → Prop) : Prop :=
  NEW (newv 77 w r_p0) fun r_1 w1 =>
  BND (loadn 3 w1 r_1) fun t4_2 =>
  CALL PR F_record_Right [t4_2] w1 fun t5_3 w2 =>
  BND (unv .not t5_3) fun t6_4 =>
  COND t6_4
  (R (.tuple #[(Value.slice none 0 0), (Value.int .i64 1)]) w2)
  (∃ S_5 : Nat → World → Prop,
  S_5 1 w2.drew ∧
  S_5 7 w2.drew ∧
  BND (faddr 0 r_1) fun t7_6 =>
  FLT (S_5 1) (fun w_ => load1 w_ t7_6) fun t8_7 =>
  BND (convi .u8 t8_7) fun t9_8 =>
  BND (faddr 1 r_1) fun t10_9 =>
  BND (faddr 2 r_1) fun t13_10 =>
  FLT (S_5 7) (fun w_ => load1 w_ t13_10) fun t14_11 =>
  BND (load1 w2.drew t10_9) fun t11_12 =>
  CALL PR F_vint_All [t11_12] w2.drew fun t12_13 w3 =>
  S_5 1 w3 ∧
  S_5 7 w3 ∧
  APPEND 5 1 1 (Value.int .u8 0) t12_13 t14_11 w3 fun t15_14 w4 =>
  S_5 1 w4 ∧
  BND (buildv #[(Value.int .u8 0), (Value.slice none 0 0)] [(0, 1, t9_8), (1, 1, t15_14)]) fun t16_15 =>
  CALL PR F_frame_Bytes [t16_15] w4 fun t17_16 w5 =>
  BND (extractv t17_16 0) fun t18_17 =>
  BND (extractv t17_16 1) fun t19_18 =>
  R (.tuple #[t18_17, t19_18]) w5)
def ann_record_Bytes : List (Nat × List Nat) := [(3, [0, 1, 2, 3, 6, 7, 4, 5, 8, 9, 10, 11, 12, 13, 14]), (2000003, [1, 7]), (3003005, [1, 7]), (3003008, [1])]
theorem E_record_Bytes (r_p0 : Value) (w : World) (R : Value → World → Prop) : M_record_Bytes r_p0 w R = den PR ann_record_Bytes (bodyOf Tryz.f33) (retQ PR Tryz.f33.results.toList R) (env0 [r_p0]) w := by kernel_rfl
theorem C_record_Bytes {r_p0 : Value} {w : World} {R : Value → World → Prop} (h : M_record_Bytes r_p0 w R) : CALL PR F_record_Bytes [r_p0] w R :=
  call_of_den2 ann_record_Bytes Tryz.func33 (by kernel_rfl) (by kernel_rfl) (by kernel_rfl) ((E_record_Bytes r_p0 w R) ▸ h)
-- 34 tumbrel.root.each
def M_root_each (l_p0 : Value) (w : World) (R : Value → World → Prop) : Prop :=
  BND (lenl l_p0) fun t7_1 =>
  ∃ (J_2 : Value → World → Prop) (m_2 : Value → World → Nat), J_2 (Value.int .i64 0) w ∧ ∀ (_d_2 : Env) (t8_6 : Value) (w1 : World), J_2 t8_6 w1 →
  (BND (binv .int .lss t8_6 t7_1) fun t9_16 =>
  COND t9_16
  (BND (iaddr 1 l_p0 t8_6) fun t10_17 =>
  BND (load1 w1 t10_17) fun t11_18 =>
  CALLV PR t11_18 [] w1 fun t13_19 w2 =>
  BND (binv .int .neq t13_19 (Value.int .i64 0)) fun t15_20 =>
  COND t15_20
  (R t13_19 w2)
  (BND (binv .int .add t8_6 (Value.int .i64 1)) fun t17_21 =>
  (J_2 t17_21 w2 ∧ m_2 t17_21 w2 < m_2 t8_6 w1)))
  (R (Value.int .i64 0) w1))
def ann_root_each : List (Nat × List Nat) := [(1000002, [8])]
theorem E_root_each (l_p0 : Value) (w : World) (R : Value → World → Prop) : M_root_each l_p0 w R = den PR ann_root_each (bodyOf Tryz.f34) (retQ PR Tryz.f34.results.toList R) (env0 [l_p0]) w := by kernel_rfl
theorem C_root_each {l_p0 : Value} {w : World} {R : Value → World → Prop} (h : M_root_each l_p0 w R) : CALL PR F_root_each [l_p0] w R :=
  call_of_den2 ann_root_each Tryz.func34 (by kernel_rfl) (by kernel_rfl) (by kernel_rfl) ((E_root_each l_p0 w R) ▸ h)
-- 35 tumbrel.root.Write$1
def M_root_Write_1 (a_p0 : Value) (w : World) (R : Value → World → Prop) : Prop :=
  BND (load1 w a_p0) fun t2_1 =>
  CALL PR F_disk_Disk_Names [t2_1] w fun t3_2 w1 =>
  CALL PR F_slices_Contains_string_string [t3_2, (Value.string { data := #[114, 111, 111, 116, 46, 110, 101, 119] })] w1 fun t4_3 w2 =>
  BND (unv .not t4_3) fun t5_4 =>
  COND t5_4
  (R (Value.int .i64 0) w2)
  (BND (load1 w2 a_p0) fun t6_5 =>
  CALL PR F_disk_Disk_Delete [t6_5, (Value.string { data := #[114, 111, 111, 116, 46, 110, 101, 119] })] w2 fun t7_6 w3 =>
  R t7_6 w3)
def ann_root_Write_1 : List (Nat × List Nat) := []
theorem E_root_Write_1 (a_p0 : Value) (w : World) (R : Value → World → Prop) : M_root_Write_1 a_p0 w R = den PR ann_root_Write_1 (bodyOf Tryz.f35) (retQ PR Tryz.f35.results.toList R) (env0 [a_p0]) w := by kernel_rfl
theorem C_root_Write_1 {a_p0 : Value} {w : World} {R : Value → World → Prop} (h : M_root_Write_1 a_p0 w R) : CALL PR F_root_Write_1 [a_p0] w R :=
  call_of_den2 ann_root_Write_1 Tryz.func35 (by kernel_rfl) (by kernel_rfl) (by kernel_rfl) ((E_root_Write_1 a_p0 w R) ▸ h)
-- 36 slices.Contains[[]string,string]
def M_slices_Contains_string_string (s_p0 v_p1 : Value) (w : World) (R : Value → World → Prop) : Prop :=
  CALL PR F_slices_Index_string_string [s_p0, v_p1] w fun t7_1 w1 =>
  BND (binv .int .geq t7_1 (Value.int .i64 0)) fun t8_2 =>
  R t8_2 w1
def ann_slices_Contains_string_string : List (Nat × List Nat) := []
theorem E_slices_Contains_string_string (s_p0 v_p1 : Value) (w : World) (R : Value → World → Prop) : M_slices_Contains_string_string s_p0 v_p1 w R = den PR ann_slices_Contains_string_string (bodyOf Tryz.f36) (retQ PR Tryz.f36.results.toList R) (env0 [s_p0, v_p1]) w := by kernel_rfl
theorem C_slices_Contains_string_string {s_p0 v_p1 : Value} {w : World} {R : Value → World → Prop} (h : M_slices_Contains_string_string s_p0 v_p1 w R) : CALL PR F_slices_Contains_string_string [s_p0, v_p1] w R :=
  call_of_den2 ann_slices_Contains_string_string Tryz.func36 (by kernel_rfl) (by kernel_rfl) (by kernel_rfl) ((E_slices_Contains_string_string s_p0 v_p1 w R) ▸ h)
-- 37 (*tumbrel.disk.Disk).Delete
def M_disk_Disk_Delete (d_p0 name_p1 : Value) (w : World) (R : Value → World → Prop) : Prop :=
  CALL PR F_disk_Disk_there [d_p0, name_p1] w fun t9_1 w1 =>
  CALL PR F_disk_Disk_can [d_p0, t9_1] w1 fun t10_2 w2 =>
  BND (binv .int .eql t10_2 (Value.int .i64 0)) fun t12_3 =>
  JOIN (α := World → Prop) (fun k_7 => COND t12_3
  (CALL PR F_disk_Disk_change [d_p0] w2 fun t14_8 w4 =>
  BND (mdel .string w4 t14_8 name_p1) fun w5 =>
  k_7 w5)
  (k_7 w2))
  (fun w3 => R t10_2 w3)
def ann_disk_Disk_Delete : List (Nat × List Nat) := []
theorem E_disk_Disk_Delete (d_p0 name_p1 : Value) (w : World) (R : Value → World → Prop) : M_disk_Disk_Delete d_p0 name_p1 w R = den PR ann_disk_Disk_Delete (bodyOf Tryz.f37) (retQ PR Tryz.f37.results.toList R) (env0 [d_p0, name_p1]) w := by kernel_rfl
theorem C_disk_Disk_Delete {d_p0 name_p1 : Value} {w : World} {R : Value → World → Prop} (h : M_disk_Disk_Delete d_p0 name_p1 w R) : CALL PR F_disk_Disk_Delete [d_p0, name_p1] w R :=
  call_of_den2 ann_disk_Disk_Delete Tryz.func37 (by kernel_rfl) (by kernel_rfl) (by kernel_rfl) ((E_disk_Disk_Delete d_p0 name_p1 w R) ▸ h)
-- 38 tumbrel.root.Write$2
def M_root_Write_2 (a_p0 : Value) (w : World) (R : Value → World → Prop) : Prop :=
  BND (load1 w a_p0) fun t2_1 =>
  CALL PR F_disk_Disk_Create [t2_1, (Value.string { data := #[114, 111, 111, 116, 46, 110, 101, 119] })] w fun t3_2 w1 =>
  R t3_2 w1
def ann_root_Write_2 : List (Nat × List Nat) := []
theorem E_root_Write_2 (a_p0 : Value) (w : World) (R : Value → World → Prop) : M_root_Write_2 a_p0 w R = den PR ann_root_Write_2 (bodyOf Tryz.f38) (retQ PR Tryz.f38.results.toList R) (env0 [a_p0]) w := by kernel_rfl
theorem C_root_Write_2 {a_p0 : Value} {w : World} {R : Value → World → Prop} (h : M_root_Write_2 a_p0 w R) : CALL PR F_root_Write_2 [a_p0] w R :=
  call_of_den2 ann_root_Write_2 Tryz.func38 (by kernel_rfl) (by kernel_rfl) (by kernel_rfl) ((E_root_Write_2 a_p0 w R) ▸ h)
-- 39 tumbrel.root.Write$3
def M_root_Write_3 (a_p0 a_p1 : Value) (w : World) (R : Value → World → Prop) : Prop :=
  BND (load1 w a_p0) fun t3_1 =>
  BND (load1 w a_p1) fun t4_2 =>
  CALL PR F_disk_Disk_Append [t3_1, (Value.string { data := #[114, 111, 111, 116, 46, 110, 101, 119] }), t4_2] w fun t5_3 w1 =>
  R t5_3 w1
def ann_root_Write_3 : List (Nat × List Nat) := []
theorem E_root_Write_3 (a_p0 a_p1 : Value) (w : World) (R : Value → World → Prop) : M_root_Write_3 a_p0 a_p1 w R = den PR ann_root_Write_3 (bodyOf Tryz.f39) (retQ PR Tryz.f39.results.toList R) (env0 [a_p0, a_p1]) w := by kernel_rfl
theorem C_root_Write_3 {a_p0 a_p1 : Value} {w : World} {R : Value → World → Prop} (h : M_root_Write_3 a_p0 a_p1 w R) : CALL PR F_root_Write_3 [a_p0, a_p1] w R :=
  call_of_den2 ann_root_Write_3 Tryz.func39 (by kernel_rfl) (by kernel_rfl) (by kernel_rfl) ((E_root_Write_3 a_p0 a_p1 w R) ▸ h)
-- 40 tumbrel.root.Write$4
def M_root_Write_4 (a_p0 : Value) (w : World) (R : Value → World → Prop) : Prop :=
  BND (load1 w a_p0) fun t2_1 =>
  CALL PR F_disk_Disk_Sync [t2_1, (Value.string { data := #[114, 111, 111, 116, 46, 110, 101, 119] })] w fun t3_2 w1 =>
  R t3_2 w1
def ann_root_Write_4 : List (Nat × List Nat) := []
theorem E_root_Write_4 (a_p0 : Value) (w : World) (R : Value → World → Prop) : M_root_Write_4 a_p0 w R = den PR ann_root_Write_4 (bodyOf Tryz.f40) (retQ PR Tryz.f40.results.toList R) (env0 [a_p0]) w := by kernel_rfl
theorem C_root_Write_4 {a_p0 : Value} {w : World} {R : Value → World → Prop} (h : M_root_Write_4 a_p0 w R) : CALL PR F_root_Write_4 [a_p0] w R :=
  call_of_den2 ann_root_Write_4 Tryz.func40 (by kernel_rfl) (by kernel_rfl) (by kernel_rfl) ((E_root_Write_4 a_p0 w R) ▸ h)
-- 41 tumbrel.root.Write$5
def M_root_Write_5 (a_p0 : Value) (w : World) (R : Value → World → Prop) : Prop :=
  BND (load1 w a_p0) fun t2_1 =>
  CALL PR F_disk_Disk_Rename [t2_1, (Value.string { data := #[114, 111, 111, 116, 46, 110, 101, 119] }), (Value.string { data := #[114, 111, 111, 116] })] w fun t3_2 w1 =>
  R t3_2 w1
def ann_root_Write_5 : List (Nat × List Nat) := []
theorem E_root_Write_5 (a_p0 : Value) (w : World) (R : Value → World → Prop) : M_root_Write_5 a_p0 w R = den PR ann_root_Write_5 (bodyOf Tryz.f41) (retQ PR Tryz.f41.results.toList R) (env0 [a_p0]) w := by kernel_rfl
theorem C_root_Write_5 {a_p0 : Value} {w : World} {R : Value → World → Prop} (h : M_root_Write_5 a_p0 w R) : CALL PR F_root_Write_5 [a_p0] w R :=
  call_of_den2 ann_root_Write_5 Tryz.func41 (by kernel_rfl) (by kernel_rfl) (by kernel_rfl) ((E_root_Write_5 a_p0 w R) ▸ h)
-- 42 (*tumbrel.disk.Disk).Rename
def M_disk_Disk_Rename (d_p0 from_p1 to_p2 : Value) (w : World) (R : Value → World → Prop) : Prop :=
  CALL PR F_disk_Disk_there [d_p0, from_p1] w fun t12_1 w1 =>
  BND (binv .int .eql t12_1 (Value.int .i64 0)) fun t14_2 =>
  BND (grd (isB t14_2 true) (some to_p2)) fun t16_3 =>
  GEF (isB t14_2 true) (fun k_ => CALL PR F_disk_named [t16_3] w1 k_) w1 fun t17_4 w2 =>
  BND (grd (isB t14_2 true) (unv .not t17_4)) fun t18_5 =>
  BND (pickv t14_2 t18_5 (Value.bool false)) fun t19_6 =>
  JOIN (α := Value → World → Prop) (fun k_25 => COND t19_6
  (k_25 (Value.int .i64 1) w2)
  (k_25 t12_1 w2))
  (fun e_7 w3 => CALL PR F_disk_Disk_can [d_p0, e_7] w3 fun t22_8 w4 =>
  BND (binv .int .eql t22_8 (Value.int .i64 0)) fun t24_9 =>
  JOIN (α := World → Prop) (fun k_22 => COND t24_9
  (CALL PR F_disk_Disk_change [d_p0] w4 fun t26_23 w6 =>
  BND (lookv .string (Value.pointer none) false w6 t26_23 from_p1) fun t29_24 =>
  BND (mdel .string w6 t26_23 from_p1) fun w7 =>
  BND (mupd .string w7 t26_23 to_p2 t29_24) fun w8 =>
  k_22 w8)
  (k_22 w4))
  (fun w5 => R t22_8 w5))
def ann_disk_Disk_Rename : List (Nat × List Nat) := []
theorem E_disk_Disk_Rename (d_p0 from_p1 to_p2 : Value) (w : World) (R : Value → World → Prop) : M_disk_Disk_Rename d_p0 from_p1 to_p2 w R = den PR ann_disk_Disk_Rename (bodyOf Tryz.f42) (retQ PR Tryz.f42.results.toList R) (env0 [d_p0, from_p1, to_p2]) w := by kernel_rfl
theorem C_disk_Disk_Rename {d_p0 from_p1 to_p2 : Value} {w : World} {R : Value → World → Prop} (h : M_disk_Disk_Rename d_p0 from_p1 to_p2 w R) : CALL PR F_disk_Disk_Rename [d_p0, from_p1, to_p2] w R :=
  call_of_den2 ann_disk_Disk_Rename Tryz.func42 (by kernel_rfl) (by kernel_rfl) (by kernel_rfl) ((E_disk_Disk_Rename d_p0 from_p1 to_p2 w R) ▸ h)
-- 43 tumbrel.tumbrelref05.Bytes
def M_tumbrelref05_Bytes (r_p0 : Value) (w : World) (R : Value → World → Prop) : Prop :=
  NEW (newv 82 w r_p0) fun r_1 w1 =>
  BND (loadn 3 w1 r_1) fun t4_2 =>
  CALL PR F_tumbrelref05_Right [t4_2] w1 fun t5_3 w2 =>
  BND (unv .not t5_3) fun t6_4 =>
  COND t6_4
  (R (.tuple #[(Value.slice none 0 0), (Value.int .i64 1)]) w2)
  (∃ S_5 : Nat → World → Prop,
  S_5 1 w2.drew ∧
  S_5 4 w2.drew ∧
  S_5 7 w2.drew ∧
  BND (faddr 0 r_1) fun t7_6 =>
  FLT (S_5 1) (fun w_ => load1 w_ t7_6) fun t8_7 =>
  BND (convi .u8 t8_7) fun t9_8 =>
  BND (faddr 1 r_1) fun t10_9 =>
  FLT (S_5 4) (fun w_ => load1 w_ t10_9) fun t11_10 =>
  BND (faddr 2 r_1) fun t13_11 =>
  FLT (S_5 7) (fun w_ => load1 w_ t13_11) fun t14_12 =>
  JOIN (α := Value → Value → World → Prop) (fun k_22 => (CALL PR F_tumbrelref02_All [t11_10] w2.drew fun t12_23 w4 =>
  S_5 1 w4 ∧
  S_5 7 w4 ∧
  BYTES 5 t14_12 w4 fun t15_24 w5 =>
  S_5 1 w5 ∧
  S_5 4 w5 ∧
  APPEND 5 1 1 (Value.int .u8 0) t12_23 t15_24 w5 fun t16_25 w6 =>
  S_5 1 w6 ∧
  BND (buildv #[(Value.int .u8 0), (Value.slice none 0 0)] [(0, 1, t9_8), (1, 1, t16_25)]) fun t17_26 =>
  CALL PR F_tumbrelref04_Bytes [t17_26] w6 fun t18_27 w7 =>
  BND (extractv t18_27 0) fun t19_28 =>
  BND (extractv t18_27 1) fun t20_29 =>
  k_22 t19_28 t20_29 w7) ∧
  (BYTES 5 t14_12 w2.drew fun t15_30 w8 =>
  S_5 1 w8 ∧
  S_5 4 w8 ∧
  CALL PR F_tumbrelref02_All [t11_10] w8 fun t12_31 w9 =>
  S_5 1 w9 ∧
  S_5 7 w9 ∧
  APPEND 5 1 1 (Value.int .u8 0) t12_31 t15_30 w9 fun t16_32 w10 =>
  S_5 1 w10 ∧
  BND (buildv #[(Value.int .u8 0), (Value.slice none 0 0)] [(0, 1, t9_8), (1, 1, t16_32)]) fun t17_33 =>
  CALL PR F_tumbrelref04_Bytes [t17_33] w10 fun t18_34 w11 =>
  BND (extractv t18_34 0) fun t19_35 =>
  BND (extractv t18_34 1) fun t20_36 =>
  k_22 t19_35 t20_36 w11))
  (fun t2_13 t3_14 w3 => R (.tuple #[t2_13, t3_14]) w3))
def ann_tumbrelref05_Bytes : List (Nat × List Nat) := [(3, [0, 1, 2, 3, 4, 6, 7]), (2000003, [1, 4, 7]), (3003005, [1, 7]), (3003008, [1, 4]), (3003009, [1]), (4000003, [5, 8]), (5000003, [5, 8, 9, 10, 11, 12, 13, 14, 15, 9999, 8, 5, 9, 10, 11, 12, 13, 14, 15])]
theorem E_tumbrelref05_Bytes (r_p0 : Value) (w : World) (R : Value → World → Prop) : M_tumbrelref05_Bytes r_p0 w R = den PR ann_tumbrelref05_Bytes (bodyOf Tryz.f43) (retQ PR Tryz.f43.results.toList R) (env0 [r_p0]) w := by kernel_rfl
theorem C_tumbrelref05_Bytes {r_p0 : Value} {w : World} {R : Value → World → Prop} (h : M_tumbrelref05_Bytes r_p0 w R) : CALL PR F_tumbrelref05_Bytes [r_p0] w R :=
  call_of_den2 ann_tumbrelref05_Bytes Tryz.func43 (by kernel_rfl) (by kernel_rfl) (by kernel_rfl) ((E_tumbrelref05_Bytes r_p0 w R) ▸ h)
-- 44 tumbrel.tumbrelref16.There
def M_tumbrelref16_There (d_p0 name_p1 : Value) (w : World) (R : Value → World → Prop) : Prop :=
  CALL PR F_tumbrelref06_Disk_Names [d_p0] w fun t8_1 w1 =>
  ∃ (J_2 : Value → World → Prop) (m_2 : Value → World → Nat), J_2 (Value.int .i64 0) w1 ∧ ∀ (_d_2 : Env) (i_4 : Value) (w2 : World), J_2 i_4 w2 →
  (BND (lenl t8_1) fun t11_17 =>
  BND (binv .int .lss i_4 t11_17) fun t12_18 =>
  COND t12_18
  (BND (iaddr 1 t8_1 i_4) fun t17_19 =>
  BND (load1 w2 t17_19) fun t18_20 =>
  BND (binv .str .eql t18_20 name_p1) fun t20_21 =>
  COND t20_21
  (R (Value.bool true) w2)
  (BND (binv .int .add i_4 (Value.int .i64 1)) fun t14_22 =>
  (J_2 t14_22 w2 ∧ m_2 t14_22 w2 < m_2 i_4 w2)))
  (R (Value.bool false) w2))
def ann_tumbrelref16_There : List (Nat × List Nat) := [(1000003, [6])]
theorem E_tumbrelref16_There (d_p0 name_p1 : Value) (w : World) (R : Value → World → Prop) : M_tumbrelref16_There d_p0 name_p1 w R = den PR ann_tumbrelref16_There (bodyOf Tryz.f44) (retQ PR Tryz.f44.results.toList R) (env0 [d_p0, name_p1]) w := by kernel_rfl
theorem C_tumbrelref16_There {d_p0 name_p1 : Value} {w : World} {R : Value → World → Prop} (h : M_tumbrelref16_There d_p0 name_p1 w R) : CALL PR F_tumbrelref16_There [d_p0, name_p1] w R :=
  call_of_den2 ann_tumbrelref16_There Tryz.func44 (by kernel_rfl) (by kernel_rfl) (by kernel_rfl) ((E_tumbrelref16_There d_p0 name_p1 w R) ▸ h)
-- 45 (*tumbrel.tumbrelref06.Disk).Delete
def M_tumbrelref06_Disk_Delete (d_p0 name_p1 : Value) (w : World) (R : Value → World → Prop) : Prop :=
  CALL PR F_tumbrelref06_Disk_find [d_p0, name_p1] w fun t8_1 w1 =>
  BND (binv .int .lss t8_1 (Value.int .i64 0)) fun t9_2 =>
  JOIN (α := Value → World → Prop) (fun k_33 => COND t9_2
  (k_33 (Value.int .i64 5) w1)
  (k_33 (Value.int .i64 0) w1))
  (fun e_3 w2 => CALL PR F_tumbrelref06_Disk_can [d_p0, e_3] w2 fun t12_4 w3 =>
  BND (binv .int .eql t12_4 (Value.int .i64 0)) fun t14_5 =>
  JOIN (α := World → Prop) (fun k_21 => COND t14_5
  (BND (newslice 72 #[(Value.slice none 0 0)] 1 0 [] w3) fun p_ => NEW p_ fun t16_22 w5 =>
  BND (nilchk d_p0) fun t18_23 =>
  BND (faddr 2 t18_23) fun t19_24 =>
  BND (load1 w5 t19_24) fun t20_25 =>
  APPEND 72 1 24 (Value.slice none 0 0) t16_22 t20_25 w5 fun t21_26 w6 =>
  CALL PR F_tumbrelref06_Disk_now [d_p0] w6 fun t23_27 w7 =>
  CALL PR F_tumbrelref06_without [t23_27, name_p1] w7 fun t25_28 w8 =>
  BND (newslice 72 #[(Value.slice none 0 0)] 1 1 [(0, 1, t25_28)] w8) fun p_ => NEW p_ fun t26_29 w9 =>
  APPEND 72 1 24 (Value.slice none 0 0) t21_26 t26_29 w9 fun t27_30 w10 =>
  BND (nilchk d_p0) fun t28_31 =>
  BND (faddr 2 t28_31) fun t29_32 =>
  BND (storev 1 w10 t29_32 t27_30) fun w11 =>
  k_21 w11)
  (k_21 w3))
  (fun w4 => R t12_4 w4))
def ann_tumbrelref06_Disk_Delete : List (Nat × List Nat) := []
theorem E_tumbrelref06_Disk_Delete (d_p0 name_p1 : Value) (w : World) (R : Value → World → Prop) : M_tumbrelref06_Disk_Delete d_p0 name_p1 w R = den PR ann_tumbrelref06_Disk_Delete (bodyOf Tryz.f45) (retQ PR Tryz.f45.results.toList R) (env0 [d_p0, name_p1]) w := by kernel_rfl
theorem C_tumbrelref06_Disk_Delete {d_p0 name_p1 : Value} {w : World} {R : Value → World → Prop} (h : M_tumbrelref06_Disk_Delete d_p0 name_p1 w R) : CALL PR F_tumbrelref06_Disk_Delete [d_p0, name_p1] w R :=
  call_of_den2 ann_tumbrelref06_Disk_Delete Tryz.func45 (by kernel_rfl) (by kernel_rfl) (by kernel_rfl) ((E_tumbrelref06_Disk_Delete d_p0 name_p1 w R) ▸ h)
-- 46 (*tumbrel.tumbrelref06.Disk).Rename
def M_tumbrelref06_Disk_Rename (d_p0 from_p1 to_p2 : Value) (w : World) (R : Value → World → Prop) : Prop :=
  CALL PR F_tumbrelref06_Disk_find [d_p0, from_p1] w fun t11_1 w1 =>
  BND (binv .int .lss t11_1 (Value.int .i64 0)) fun t13_2 =>
  JOIN (α := Value → World → Prop) (fun k_45 => COND t13_2
  (k_45 (Value.int .i64 5) w1)
  (CALL PR F_tumbrelref06_may [to_p2] w1 fun t15_46 w14 =>
  BND (unv .not t15_46) fun t16_47 =>
  JOIN (α := Value → World → Prop) (fun k_49 => COND t16_47
  (k_49 (Value.int .i64 1) w14)
  (k_49 (Value.int .i64 0) w14))
  (fun e_48 w15 => k_45 e_48 w15)))
  (fun e_3 w2 => CALL PR F_tumbrelref06_Disk_can [d_p0, e_3] w2 fun t19_7 w3 =>
  BND (binv .int .eql t19_7 (Value.int .i64 0)) fun t21_8 =>
  JOIN (α := World → Prop) (fun k_30 => COND t21_8
  (BND (newslice 72 #[(Value.slice none 0 0)] 1 0 [] w3) fun p_ => NEW p_ fun t23_31 w5 =>
  BND (nilchk d_p0) fun t25_32 =>
  BND (faddr 2 t25_32) fun t26_33 =>
  BND (load1 w5 t26_33) fun t27_34 =>
  APPEND 72 1 24 (Value.slice none 0 0) t23_31 t27_34 w5 fun t28_35 w6 =>
  CALL PR F_tumbrelref06_Disk_now [d_p0] w6 fun t30_36 w7 =>
  CALL PR F_tumbrelref06_without [t30_36, from_p1] w7 fun t32_37 w8 =>
  CALL PR F_tumbrelref06_without [t32_37, to_p2] w8 fun t34_38 w9 =>
  BND (buildv #[(Value.string ByteArray.empty), (Value.int .i64 0)] [(0, 1, to_p2), (1, 1, t11_1)]) fun t37_39 =>
  CALL PR F_tumbrelref06_with [t34_38, t37_39] w9 fun t38_40 w10 =>
  BND (newslice 72 #[(Value.slice none 0 0)] 1 1 [(0, 1, t38_40)] w10) fun p_ => NEW p_ fun t39_41 w11 =>
  APPEND 72 1 24 (Value.slice none 0 0) t28_35 t39_41 w11 fun t40_42 w12 =>
  BND (nilchk d_p0) fun t41_43 =>
  BND (faddr 2 t41_43) fun t42_44 =>
  BND (storev 1 w12 t42_44 t40_42) fun w13 =>
  k_30 w13)
  (k_30 w3))
  (fun w4 => R t19_7 w4))
def ann_tumbrelref06_Disk_Rename : List (Nat × List Nat) := []
theorem E_tumbrelref06_Disk_Rename (d_p0 from_p1 to_p2 : Value) (w : World) (R : Value → World → Prop) : M_tumbrelref06_Disk_Rename d_p0 from_p1 to_p2 w R = den PR ann_tumbrelref06_Disk_Rename (bodyOf Tryz.f46) (retQ PR Tryz.f46.results.toList R) (env0 [d_p0, from_p1, to_p2]) w := by kernel_rfl
theorem C_tumbrelref06_Disk_Rename {d_p0 from_p1 to_p2 : Value} {w : World} {R : Value → World → Prop} (h : M_tumbrelref06_Disk_Rename d_p0 from_p1 to_p2 w R) : CALL PR F_tumbrelref06_Disk_Rename [d_p0, from_p1, to_p2] w R :=
  call_of_den2 ann_tumbrelref06_Disk_Rename Tryz.func46 (by kernel_rfl) (by kernel_rfl) (by kernel_rfl) ((E_tumbrelref06_Disk_Rename d_p0 from_p1 to_p2 w R) ▸ h)
-- 47 (*tumbrel.disk.Disk).Read
def M_disk_Disk_Read (d_p0 name_p1 : Value) (w : World) (R : Value → World → Prop) : Prop :=
  BND (nilchk d_p0) fun t8_1 =>
  BND (faddr 4 t8_1) fun t9_2 =>
  BND (load1 w t9_2) fun t10_3 =>
  COND t10_3
  (R (.tuple #[(Value.slice none 0 0), (Value.int .i64 7)]) w)
  (CALL PR F_disk_Disk_there [d_p0, name_p1] w fun t13_4 w1 =>
  BND (binv .int .neq t13_4 (Value.int .i64 0)) fun t15_5 =>
  COND t15_5
  (R (.tuple #[(Value.slice none 0 0), t13_4]) w1)
  (CALL PR F_disk_Disk_now [d_p0] w1 fun t18_6 w2 =>
  BND (lookv .string (Value.pointer none) false w2 t18_6 name_p1) fun t20_7 =>
  BND (nilchk t20_7) fun t21_8 =>
  BND (faddr 0 t21_8) fun t22_9 =>
  BND (load1 w2 t22_9) fun t23_10 =>
  CALL PR F_slices_Clone_byte_byte [t23_10] w2 fun t24_11 w3 =>
  R (.tuple #[t24_11, (Value.int .i64 0)]) w3))
def ann_disk_Disk_Read : List (Nat × List Nat) := []
theorem E_disk_Disk_Read (d_p0 name_p1 : Value) (w : World) (R : Value → World → Prop) : M_disk_Disk_Read d_p0 name_p1 w R = den PR ann_disk_Disk_Read (bodyOf Tryz.f47) (retQ PR Tryz.f47.results.toList R) (env0 [d_p0, name_p1]) w := by kernel_rfl
theorem C_disk_Disk_Read {d_p0 name_p1 : Value} {w : World} {R : Value → World → Prop} (h : M_disk_Disk_Read d_p0 name_p1 w R) : CALL PR F_disk_Disk_Read [d_p0, name_p1] w R :=
  call_of_den2 ann_disk_Disk_Read Tryz.func47 (by kernel_rfl) (by kernel_rfl) (by kernel_rfl) ((E_disk_Disk_Read d_p0 name_p1 w R) ▸ h)
-- 48 tumbrel.record.All
def M_record_All (b_p0 : Value) (w : World) (R : Value → World → Prop) : Prop :=
  CALL PR F_frame_All [b_p0] w fun t19_1 w1 =>
  BND (extractv t19_1 0) fun t20_2 =>
  BND (extractv t19_1 1) fun t21_3 =>
  BND (extractv t19_1 2) fun t22_4 =>
  BND (lenl t20_2) fun t24_5 =>
  ∃ (J_6 : Value → Value → Value → Value → World → Prop) (m_6 : Value → Value → Value → Value → World → Nat), J_6 (Value.slice none 0 0) (Value.slice none 0 0) (Value.int .i64 0) (Value.int .i64 0) w1 ∧ ∀ (_d_6 : Env) (out_10 ends_11 at_12 t25_18 : Value) (w2 : World), J_6 out_10 ends_11 at_12 t25_18 w2 →
  (BND (binv .int .lss t25_18 t24_5) fun t26_50 =>
  COND t26_50
  (BND (iaddr 2 t20_2 t25_18) fun t27_51 =>
  BND (loadn 2 w2 t27_51) fun t28_52 =>
  NEW (newv 117 w2 (Value.agg #[(Value.int .u8 0), (Value.slice none 0 0)])) fun x_53 w3 =>
  BND (storev 2 w3 x_53 t28_52) fun w4 =>
  BND (loadn 2 w4 x_53) fun t30_54 =>
  CALL PR F_record_Read [t30_54] w4 fun t31_55 w5 =>
  BND (extractv t31_55 0) fun t32_56 =>
  BND (extractv t31_55 1) fun t33_57 =>
  NEW (newv 77 w5 (Value.agg #[(Value.int .i64 0), (Value.slice none 0 0), (Value.string ByteArray.empty)])) fun r_58 w6 =>
  BND (storev 3 w6 r_58 t32_56) fun w7 =>
  BND (binv .int .neq t33_57 (Value.int .i64 0)) fun t35_59 =>
  COND t35_59
  (R (.tuple #[out_10, ends_11, t33_57]) w7)
  (BND (loadn 2 w7 x_53) fun t40_60 =>
  CALL PR F_frame_Bytes [t40_60] w7 fun t41_61 w8 =>
  BND (extractv t41_61 0) fun t42_62 =>
  BND (extractv t41_61 1) fun t43_63 =>
  BND (lenl t42_62) fun t46_64 =>
  BND (binv .int .add at_12 t46_64) fun t47_65 =>
  BND (loadn 3 w8 r_58) fun t49_66 =>
  BND (newslice 77 #[(Value.int .i64 0), (Value.slice none 0 0), (Value.string ByteArray.empty)] 3 1 [(0, 3, t49_66)] w8) fun p_ => NEW p_ fun t50_67 w9 =>
  APPEND 77 3 48 (Value.agg #[(Value.int .i64 0), (Value.slice none 0 0), (Value.string ByteArray.empty)]) out_10 t50_67 w9 fun t51_68 w10 =>
  BND (newslice 3 #[(Value.int .i64 0)] 1 1 [(0, 1, t47_65)] w10) fun p_ => NEW p_ fun t54_69 w11 =>
  APPEND 3 1 8 (Value.int .i64 0) ends_11 t54_69 w11 fun t55_70 w12 =>
  BND (binv .int .add t25_18 (Value.int .i64 1)) fun t56_71 =>
  (J_6 t51_68 t55_70 t47_65 t56_71 w12 ∧ m_6 t51_68 t55_70 t47_65 t56_71 w12 < m_6 out_10 ends_11 at_12 t25_18 w2)))
  (R (.tuple #[out_10, ends_11, t22_4]) w2))
def ann_record_All : List (Nat × List Nat) := [(1000006, [8, 9, 10, 25])]
theorem E_record_All (b_p0 : Value) (w : World) (R : Value → World → Prop) : M_record_All b_p0 w R = den PR ann_record_All (bodyOf Tryz.f48) (retQ PR Tryz.f48.results.toList R) (env0 [b_p0]) w := by kernel_rfl
theorem C_record_All {b_p0 : Value} {w : World} {R : Value → World → Prop} (h : M_record_All b_p0 w R) : CALL PR F_record_All [b_p0] w R :=
  call_of_den2 ann_record_All Tryz.func48 (by kernel_rfl) (by kernel_rfl) (by kernel_rfl) ((E_record_All b_p0 w R) ▸ h)
-- 49 (*tumbrel.tumbrelref06.Disk).Read
def M_tumbrelref06_Disk_Read (d_p0 name_p1 : Value) (w : World) (R : Value → World → Prop) : Prop :=
  BND (nilchk d_p0) fun t8_1 =>
  BND (faddr 4 t8_1) fun t9_2 =>
  BND (load1 w t9_2) fun t10_3 =>
  COND t10_3
  (R (.tuple #[(Value.slice none 0 0), (Value.int .i64 7)]) w)
  (CALL PR F_tumbrelref06_Disk_find [d_p0, name_p1] w fun t13_4 w1 =>
  BND (binv .int .lss t13_4 (Value.int .i64 0)) fun t15_5 =>
  COND t15_5
  (R (.tuple #[(Value.slice none 0 0), (Value.int .i64 5)]) w1)
  (BND (newslice 5 #[(Value.int .u8 0)] 1 0 [] w1) fun p_ => NEW p_ fun t16_6 w2 =>
  BND (nilchk d_p0) fun t18_7 =>
  BND (faddr 1 t18_7) fun t19_8 =>
  BND (load1 w2 t19_8) fun t20_9 =>
  BND (iaddr 2 t20_9 t13_4) fun t22_10 =>
  BND (faddr 0 t22_10) fun t23_11 =>
  BND (load1 w2 t23_11) fun t24_12 =>
  APPEND 5 1 1 (Value.int .u8 0) t16_6 t24_12 w2 fun t25_13 w3 =>
  R (.tuple #[t25_13, (Value.int .i64 0)]) w3))
def ann_tumbrelref06_Disk_Read : List (Nat × List Nat) := []
theorem E_tumbrelref06_Disk_Read (d_p0 name_p1 : Value) (w : World) (R : Value → World → Prop) : M_tumbrelref06_Disk_Read d_p0 name_p1 w R = den PR ann_tumbrelref06_Disk_Read (bodyOf Tryz.f49) (retQ PR Tryz.f49.results.toList R) (env0 [d_p0, name_p1]) w := by kernel_rfl
theorem C_tumbrelref06_Disk_Read {d_p0 name_p1 : Value} {w : World} {R : Value → World → Prop} (h : M_tumbrelref06_Disk_Read d_p0 name_p1 w R) : CALL PR F_tumbrelref06_Disk_Read [d_p0, name_p1] w R :=
  call_of_den2 ann_tumbrelref06_Disk_Read Tryz.func49 (by kernel_rfl) (by kernel_rfl) (by kernel_rfl) ((E_tumbrelref06_Disk_Read d_p0 name_p1 w R) ▸ h)
-- 50 tumbrel.tumbrelref05.All
def M_tumbrelref05_All (b_p0 : Value) (w : World) (R : Value → World → Prop) : Prop :=
  BND (newslice 82 #[(Value.int .i64 0), (Value.slice none 0 0), (Value.string ByteArray.empty)] 3 0 [] w) fun p_ => NEW p_ fun t14_1 w1 =>
  BND (newslice 3 #[(Value.int .i64 0)] 1 0 [] w1) fun p_ => NEW p_ fun t15_2 w2 =>
  CALL PR F_tumbrelref04_All [b_p0] w2 fun t18_3 w3 =>
  BND (extractv t18_3 0) fun t19_4 =>
  BND (extractv t18_3 1) fun t20_5 =>
  BND (extractv t18_3 2) fun t21_6 =>
  ∃ (J_7 : Value → Value → Value → Value → World → Prop) (m_7 : Value → Value → Value → Value → World → Nat), J_7 t14_1 t15_2 (Value.int .i64 0) (Value.int .i64 0) w3 ∧ ∀ (_d_7 : Env) (out_11 ends_12 at_13 i_14 : Value) (w4 : World), J_7 out_11 ends_12 at_13 i_14 w4 →
  (BND (lenl t19_4) fun t24_53 =>
  BND (binv .int .lss i_14 t24_53) fun t25_54 =>
  COND t25_54
  (BND (iaddr 2 t19_4 i_14) fun t31_55 =>
  BND (loadn 2 w4 t31_55) fun t32_56 =>
  CALL PR F_tumbrelref05_Read [t32_56] w4 fun t33_57 w5 =>
  BND (extractv t33_57 0) fun t34_58 =>
  BND (extractv t33_57 1) fun t35_59 =>
  NEW (newv 82 w5 (Value.agg #[(Value.int .i64 0), (Value.slice none 0 0), (Value.string ByteArray.empty)])) fun r_60 w6 =>
  BND (storev 3 w6 r_60 t34_58) fun w7 =>
  BND (binv .int .neq t35_59 (Value.int .i64 0)) fun t37_61 =>
  COND t37_61
  (R (.tuple #[out_11, ends_12, t35_59]) w7)
  (BND (iaddr 2 t19_4 i_14) fun t44_62 =>
  BND (faddr 1 t44_62) fun t45_63 =>
  BND (load1 w7 t45_63) fun t46_64 =>
  BND (lenl t46_64) fun t47_65 =>
  BND (binv .int .add at_13 t47_65) fun t48_66 =>
  BND (binv .int .add t48_66 (Value.int .i64 11)) fun t49_67 =>
  BND (loadn 3 w7 r_60) fun t51_68 =>
  BND (newslice 82 #[(Value.int .i64 0), (Value.slice none 0 0), (Value.string ByteArray.empty)] 3 1 [(0, 3, t51_68)] w7) fun p_ => NEW p_ fun t52_69 w8 =>
  APPEND 82 3 48 (Value.agg #[(Value.int .i64 0), (Value.slice none 0 0), (Value.string ByteArray.empty)]) out_11 t52_69 w8 fun t53_70 w9 =>
  BND (newslice 3 #[(Value.int .i64 0)] 1 1 [(0, 1, t49_67)] w9) fun p_ => NEW p_ fun t56_71 w10 =>
  APPEND 3 1 8 (Value.int .i64 0) ends_12 t56_71 w10 fun t57_72 w11 =>
  BND (binv .int .add i_14 (Value.int .i64 1)) fun t27_73 =>
  (J_7 t53_70 t57_72 t49_67 t27_73 w11 ∧ m_7 t53_70 t57_72 t49_67 t27_73 w11 < m_7 out_11 ends_12 at_13 i_14 w4)))
  (R (.tuple #[out_11, ends_12, t21_6]) w4))
def ann_tumbrelref05_All : List (Nat × List Nat) := [(1000006, [5, 6, 10, 11])]
theorem E_tumbrelref05_All (b_p0 : Value) (w : World) (R : Value → World → Prop) : M_tumbrelref05_All b_p0 w R = den PR ann_tumbrelref05_All (bodyOf Tryz.f50) (retQ PR Tryz.f50.results.toList R) (env0 [b_p0]) w := by kernel_rfl
theorem C_tumbrelref05_All {b_p0 : Value} {w : World} {R : Value → World → Prop} (h : M_tumbrelref05_All b_p0 w R) : CALL PR F_tumbrelref05_All [b_p0] w R :=
  call_of_den2 ann_tumbrelref05_All Tryz.func50 (by kernel_rfl) (by kernel_rfl) (by kernel_rfl) ((E_tumbrelref05_All b_p0 w R) ▸ h)
-- 53 (*tumbrel.tumbrelref06.Disk).now
def M_tumbrelref06_Disk_now (d_p0 : Value) (w : World) (R : Value → World → Prop) : Prop :=
  BND (nilchk d_p0) fun t4_1 =>
  BND (faddr 2 t4_1) fun t5_2 =>
  BND (nilchk d_p0) fun t8_3 =>
  BND (faddr 2 t8_3) fun t9_4 =>
  BND (load1 w.drew t5_2) fun t6_5 =>
  BND (load1 w.drew t9_4) fun t10_6 =>
  BND (lenl t10_6) fun t11_7 =>
  BND (binv .int .sub t11_7 (Value.int .i64 1)) fun t12_8 =>
  BND (iaddr 1 t6_5 t12_8) fun t13_9 =>
  BND (load1 w.drew t13_9) fun t14_10 =>
  R t14_10 w.drew
def ann_tumbrelref06_Disk_now : List (Nat × List Nat) := [(1, [0, 1, 2, 4, 5, 6, 3, 7, 8, 9, 10, 11, 12])]
theorem E_tumbrelref06_Disk_now (d_p0 : Value) (w : World) (R : Value → World → Prop) : M_tumbrelref06_Disk_now d_p0 w R = den PR ann_tumbrelref06_Disk_now (bodyOf Tryz.f53) (retQ PR Tryz.f53.results.toList R) (env0 [d_p0]) w := by kernel_rfl
theorem C_tumbrelref06_Disk_now {d_p0 : Value} {w : World} {R : Value → World → Prop} (h : M_tumbrelref06_Disk_now d_p0 w R) : CALL PR F_tumbrelref06_Disk_now [d_p0] w R :=
  call_of_den2 ann_tumbrelref06_Disk_now Tryz.func53 (by kernel_rfl) (by kernel_rfl) (by kernel_rfl) ((E_tumbrelref06_Disk_now d_p0 w R) ▸ h)
-- 54 (*tumbrel.disk.Disk).now
def M_disk_Disk_now (d_p0 : Value) (w : World) (R : Value → World → Prop) : Prop :=
  BND (nilchk d_p0) fun t5_1 =>
  BND (faddr 2 t5_1) fun t6_2 =>
  BND (load1 w t6_2) fun t7_3 =>
  BND (lenl t7_3) fun t8_4 =>
  BND (binv .int .gtr t8_4 (Value.int .i64 0)) fun t10_5 =>
  COND t10_5
  (BND (nilchk d_p0) fun t12_6 =>
  BND (faddr 2 t12_6) fun t13_7 =>
  BND (load1 w t13_7) fun t14_8 =>
  BND (binv .int .sub t8_4 (Value.int .i64 1)) fun t16_9 =>
  BND (iaddr 1 t14_8 t16_9) fun t17_10 =>
  BND (load1 w t17_10) fun t18_11 =>
  R t18_11 w)
  (BND (nilchk d_p0) fun t20_12 =>
  BND (faddr 1 t20_12) fun t21_13 =>
  BND (load1 w t21_13) fun t22_14 =>
  R t22_14 w)
def ann_disk_Disk_now : List (Nat × List Nat) := []
theorem E_disk_Disk_now (d_p0 : Value) (w : World) (R : Value → World → Prop) : M_disk_Disk_now d_p0 w R = den PR ann_disk_Disk_now (bodyOf Tryz.f54) (retQ PR Tryz.f54.results.toList R) (env0 [d_p0]) w := by kernel_rfl
theorem C_disk_Disk_now {d_p0 : Value} {w : World} {R : Value → World → Prop} (h : M_disk_Disk_now d_p0 w R) : CALL PR F_disk_Disk_now [d_p0] w R :=
  call_of_den2 ann_disk_Disk_now Tryz.func54 (by kernel_rfl) (by kernel_rfl) (by kernel_rfl) ((E_disk_Disk_now d_p0 w R) ▸ h)
-- 55 tumbrel.disk.named
def M_disk_named (name_p0 : Value) (w : World) (R : Value → World → Prop) : Prop :=
  BND (lens name_p0) fun t6_1 =>
  BND (binv .int .eql t6_1 (Value.int .i64 0)) fun t7_2 =>
  BND (grd (isB t7_2 false) (some name_p0)) fun t9_3 =>
  BND (grd (isB t7_2 false) (lens t9_3)) fun t10_4 =>
  BND (grd (isB t7_2 false) (binv .int .gtr t10_4 (Value.int .i64 12))) fun t11_5 =>
  BND (pickv t7_2 (Value.bool true) t11_5) fun t12_6 =>
  COND t12_6
  (R (Value.bool false) w)
  (BYTES 5 name_p0 w fun t14_7 w1 =>
  BND (lenl t14_7) fun t15_8 =>
  ∃ (J_9 : Value → World → Prop) (m_9 : Value → World → Nat), J_9 (Value.int .i64 0) w1 ∧ ∀ (_d_9 : Env) (t16_12 : Value) (w2 : World), J_9 t16_12 w2 →
  (BND (binv .int .lss t16_12 t15_8) fun t17_35 =>
  COND t17_35
  (BND (iaddr 1 t14_7 t16_12) fun t18_36 =>
  BND (load1 w2 t18_36) fun t19_37 =>
  BND (binv .int .neq t19_37 (Value.int .u8 46)) fun t21_38 =>
  BND (grd (isB t21_38 true) (some t19_37)) fun t23_39 =>
  BND (grd (isB t21_38 true) (binv .int .lss t23_39 (Value.int .u8 48))) fun t24_40 =>
  BND (grd (isB t21_38 true) (some t24_40)) fun t25_41 =>
  BND (grd (isB t25_41 false) (some t19_37)) fun t26_42 =>
  BND (grd (isB t25_41 false) (binv .int .gtr t26_42 (Value.int .u8 57))) fun t27_43 =>
  BND (grd (isB t21_38 true) (pickv t25_41 (Value.bool true) t27_43)) fun t28_44 =>
  BND (pickv t21_38 t28_44 (Value.bool false)) fun t29_45 =>
  BND (grd (isB t29_45 true) (some t19_37)) fun t31_46 =>
  BND (grd (isB t29_45 true) (binv .int .lss t31_46 (Value.int .u8 97))) fun t32_47 =>
  BND (grd (isB t29_45 true) (some t32_47)) fun t33_48 =>
  BND (grd (isB t33_48 false) (some t19_37)) fun t34_49 =>
  BND (grd (isB t33_48 false) (binv .int .gtr t34_49 (Value.int .u8 122))) fun t35_50 =>
  BND (grd (isB t29_45 true) (pickv t33_48 (Value.bool true) t35_50)) fun t36_51 =>
  BND (pickv t29_45 t36_51 (Value.bool false)) fun t37_52 =>
  COND t37_52
  (R (Value.bool false) w2)
  (BND (binv .int .add t16_12 (Value.int .i64 1)) fun t38_53 =>
  (J_9 t38_53 w2 ∧ m_9 t38_53 w2 < m_9 t16_12 w2)))
  (R (Value.bool true) w2)))
def ann_disk_named : List (Nat × List Nat) := [(1000004, [16])]
theorem E_disk_named (name_p0 : Value) (w : World) (R : Value → World → Prop) : M_disk_named name_p0 w R = den PR ann_disk_named (bodyOf Tryz.f55) (retQ PR Tryz.f55.results.toList R) (env0 [name_p0]) w := by kernel_rfl
theorem C_disk_named {name_p0 : Value} {w : World} {R : Value → World → Prop} (h : M_disk_named name_p0 w R) : CALL PR F_disk_named [name_p0] w R :=
  call_of_den2 ann_disk_named Tryz.func55 (by kernel_rfl) (by kernel_rfl) (by kernel_rfl) ((E_disk_named name_p0 w R) ▸ h)
-- 56 (*tumbrel.disk.Disk).can
def M_disk_Disk_can (d_p0 e_p1 : Value) (w : World) (R : Value → World → Prop) : Prop :=
  BND (nilchk d_p0) fun t7_1 =>
  BND (faddr 4 t7_1) fun t8_2 =>
  BND (load1 w t8_2) fun t9_3 =>
  COND t9_3
  (R (Value.int .i64 7) w)
  (BND (binv .int .neq e_p1 (Value.int .i64 0)) fun t12_4 =>
  COND t12_4
  (R e_p1 w)
  (BND (nilchk d_p0) fun t16_5 =>
  BND (faddr 3 t16_5) fun t17_6 =>
  BND (load1 w t17_6) fun t18_7 =>
  BND (binv .int .eql t18_7 (Value.int .i64 0)) fun t19_8 =>
  COND t19_8
  (BND (nilchk d_p0) fun t21_9 =>
  BND (faddr 4 t21_9) fun t22_10 =>
  BND (storev 1 w t22_10 (Value.bool true)) fun w1 =>
  R (Value.int .i64 7) w1)
  (BND (nilchk d_p0) fun t25_11 =>
  BND (faddr 3 t25_11) fun t26_12 =>
  BND (load1 w t26_12) fun t27_13 =>
  BND (binv .int .gtr t27_13 (Value.int .i64 0)) fun t28_14 =>
  JOIN (α := World → Prop) (fun k_22 => COND t28_14
  (BND (nilchk d_p0) fun t30_23 =>
  BND (faddr 3 t30_23) fun t31_24 =>
  BND (load1 w t31_24) fun t32_25 =>
  BND (binv .int .sub t32_25 (Value.int .i64 1)) fun t33_26 =>
  BND (nilchk d_p0) fun t34_27 =>
  BND (faddr 3 t34_27) fun t35_28 =>
  BND (storev 1 w t35_28 t33_26) fun w3 =>
  k_22 w3)
  (k_22 w))
  (fun w2 => R (Value.int .i64 0) w2))))
def ann_disk_Disk_can : List (Nat × List Nat) := []
theorem E_disk_Disk_can (d_p0 e_p1 : Value) (w : World) (R : Value → World → Prop) : M_disk_Disk_can d_p0 e_p1 w R = den PR ann_disk_Disk_can (bodyOf Tryz.f56) (retQ PR Tryz.f56.results.toList R) (env0 [d_p0, e_p1]) w := by kernel_rfl
theorem C_disk_Disk_can {d_p0 e_p1 : Value} {w : World} {R : Value → World → Prop} (h : M_disk_Disk_can d_p0 e_p1 w R) : CALL PR F_disk_Disk_can [d_p0, e_p1] w R :=
  call_of_den2 ann_disk_Disk_can Tryz.func56 (by kernel_rfl) (by kernel_rfl) (by kernel_rfl) ((E_disk_Disk_can d_p0 e_p1 w R) ▸ h)
-- 57 (*tumbrel.disk.Disk).change
def M_disk_Disk_change (d_p0 : Value) (w : World) (R : Value → World → Prop) : Prop :=
  CALL PR F_disk_Disk_now [d_p0] w fun t5_1 w1 =>
  CALL PR F_maps_Clone_file [t5_1] w1 fun t6_2 w2 =>
  BND (nilchk d_p0) fun t9_3 =>
  BND (faddr 2 t9_3) fun t10_4 =>
  BND (load1 w2 t10_4) fun t11_5 =>
  BND (newslice 68 #[(Value.map none)] 1 1 [(0, 1, t6_2)] w2) fun p_ => NEW p_ fun t13_6 w3 =>
  APPEND 68 1 8 (Value.map none) t11_5 t13_6 w3 fun t14_7 w4 =>
  BND (nilchk d_p0) fun t15_8 =>
  BND (faddr 2 t15_8) fun t16_9 =>
  BND (storev 1 w4 t16_9 t14_7) fun w5 =>
  R t6_2 w5
def ann_disk_Disk_change : List (Nat × List Nat) := []
theorem E_disk_Disk_change (d_p0 : Value) (w : World) (R : Value → World → Prop) : M_disk_Disk_change d_p0 w R = den PR ann_disk_Disk_change (bodyOf Tryz.f57) (retQ PR Tryz.f57.results.toList R) (env0 [d_p0]) w := by kernel_rfl
theorem C_disk_Disk_change {d_p0 : Value} {w : World} {R : Value → World → Prop} (h : M_disk_Disk_change d_p0 w R) : CALL PR F_disk_Disk_change [d_p0] w R :=
  call_of_den2 ann_disk_Disk_change Tryz.func57 (by kernel_rfl) (by kernel_rfl) (by kernel_rfl) ((E_disk_Disk_change d_p0 w R) ▸ h)
-- 58 tumbrel.tumbrelref06.may
def M_tumbrelref06_may (name_p0 : Value) (w : World) (R : Value → World → Prop) : Prop :=
  ∃ (J_1 : Value → World → Prop) (m_1 : Value → World → Nat), J_1 (Value.int .i64 0) w ∧ ∀ (_d_1 : Env) (i_3 : Value) (w1 : World), J_1 i_3 w1 →
  (BND (lens name_p0) fun t7_33 =>
  BND (binv .int .lss i_3 t7_33) fun t8_34 =>
  COND t8_34
  (BND (indexs name_p0 i_3) fun t13_35 =>
  BND (binv .int .eql t13_35 (Value.int .u8 46)) fun t15_36 =>
  BND (grd (isB t15_36 false) (some t13_35)) fun t17_37 =>
  BND (grd (isB t15_36 false) (binv .int .geq t17_37 (Value.int .u8 48))) fun t18_38 =>
  BND (grd (isB t15_36 false) (some t18_38)) fun t19_39 =>
  BND (grd (isB t19_39 true) (some t13_35)) fun t20_40 =>
  BND (grd (isB t19_39 true) (binv .int .leq t20_40 (Value.int .u8 57))) fun t21_41 =>
  BND (grd (isB t15_36 false) (pickv t19_39 t21_41 (Value.bool false))) fun t22_42 =>
  BND (pickv t15_36 (Value.bool true) t22_42) fun t23_43 =>
  BND (grd (isB t23_43 false) (some t13_35)) fun t25_44 =>
  BND (grd (isB t23_43 false) (binv .int .geq t25_44 (Value.int .u8 97))) fun t26_45 =>
  BND (grd (isB t23_43 false) (some t26_45)) fun t27_46 =>
  BND (grd (isB t27_46 true) (some t13_35)) fun t28_47 =>
  BND (grd (isB t27_46 true) (binv .int .leq t28_47 (Value.int .u8 122))) fun t29_48 =>
  BND (grd (isB t23_43 false) (pickv t27_46 t29_48 (Value.bool false))) fun t30_49 =>
  BND (pickv t23_43 (Value.bool true) t30_49) fun t31_50 =>
  BND (unv .not t31_50) fun t32_51 =>
  COND t32_51
  (R (Value.bool false) w1)
  (BND (binv .int .add i_3 (Value.int .i64 1)) fun t10_52 =>
  (J_1 t10_52 w1 ∧ m_1 t10_52 w1 < m_1 i_3 w1)))
  (BND (lens name_p0) fun t34_53 =>
  BND (binv .int .geq t34_53 (Value.int .i64 1)) fun t35_54 =>
  BND (grd (isB t35_54 true) (some name_p0)) fun t37_55 =>
  BND (grd (isB t35_54 true) (lens t37_55)) fun t38_56 =>
  BND (grd (isB t35_54 true) (binv .int .leq t38_56 (Value.int .i64 12))) fun t39_57 =>
  BND (pickv t35_54 t39_57 (Value.bool false)) fun t40_58 =>
  R t40_58 w1))
def ann_tumbrelref06_may : List (Nat × List Nat) := [(1000002, [3])]
theorem E_tumbrelref06_may (name_p0 : Value) (w : World) (R : Value → World → Prop) : M_tumbrelref06_may name_p0 w R = den PR ann_tumbrelref06_may (bodyOf Tryz.f58) (retQ PR Tryz.f58.results.toList R) (env0 [name_p0]) w := by kernel_rfl
theorem C_tumbrelref06_may {name_p0 : Value} {w : World} {R : Value → World → Prop} (h : M_tumbrelref06_may name_p0 w R) : CALL PR F_tumbrelref06_may [name_p0] w R :=
  call_of_den2 ann_tumbrelref06_may Tryz.func58 (by kernel_rfl) (by kernel_rfl) (by kernel_rfl) ((E_tumbrelref06_may name_p0 w R) ▸ h)
-- 59 (*tumbrel.tumbrelref06.Disk).find
def M_tumbrelref06_Disk_find (d_p0 name_p1 : Value) (w : World) (R : Value → World → Prop) : Prop :=
  CALL PR F_tumbrelref06_Disk_now [d_p0] w fun t8_1 w1 =>
  ∃ (J_2 : Value → World → Prop) (m_2 : Value → World → Nat), J_2 (Value.int .i64 0) w1 ∧ ∀ (_d_2 : Env) (i_4 : Value) (w2 : World), J_2 i_4 w2 →
  (BND (lenl t8_1) fun t11_23 =>
  BND (binv .int .lss i_4 t11_23) fun t12_24 =>
  COND t12_24
  (BND (iaddr 2 t8_1 i_4) fun t17_25 =>
  BND (faddr 0 t17_25) fun t18_26 =>
  BND (load1 w2 t18_26) fun t19_27 =>
  BND (binv .str .eql t19_27 name_p1) fun t21_28 =>
  COND t21_28
  (BND (iaddr 2 t8_1 i_4) fun t24_29 =>
  BND (faddr 1 t24_29) fun t25_30 =>
  BND (load1 w2 t25_30) fun t26_31 =>
  R t26_31 w2)
  (BND (binv .int .add i_4 (Value.int .i64 1)) fun t14_32 =>
  (J_2 t14_32 w2 ∧ m_2 t14_32 w2 < m_2 i_4 w2)))
  (R (Value.int .i64 (-1)) w2))
def ann_tumbrelref06_Disk_find : List (Nat × List Nat) := [(1000003, [6])]
theorem E_tumbrelref06_Disk_find (d_p0 name_p1 : Value) (w : World) (R : Value → World → Prop) : M_tumbrelref06_Disk_find d_p0 name_p1 w R = den PR ann_tumbrelref06_Disk_find (bodyOf Tryz.f59) (retQ PR Tryz.f59.results.toList R) (env0 [d_p0, name_p1]) w := by kernel_rfl
theorem C_tumbrelref06_Disk_find {d_p0 name_p1 : Value} {w : World} {R : Value → World → Prop} (h : M_tumbrelref06_Disk_find d_p0 name_p1 w R) : CALL PR F_tumbrelref06_Disk_find [d_p0, name_p1] w R :=
  call_of_den2 ann_tumbrelref06_Disk_find Tryz.func59 (by kernel_rfl) (by kernel_rfl) (by kernel_rfl) ((E_tumbrelref06_Disk_find d_p0 name_p1 w R) ▸ h)
-- 60 (*tumbrel.tumbrelref06.Disk).can
def M_tumbrelref06_Disk_can (d_p0 e_p1 : Value) (w : World) (R : Value → World → Prop) : Prop :=
  BND (nilchk d_p0) fun t6_1 =>
  BND (faddr 4 t6_1) fun t7_2 =>
  BND (load1 w t7_2) fun t8_3 =>
  COND t8_3
  (R (Value.int .i64 7) w)
  (BND (binv .int .neq e_p1 (Value.int .i64 0)) fun t10_4 =>
  COND t10_4
  (R e_p1 w)
  (BND (nilchk d_p0) fun t13_5 =>
  BND (faddr 3 t13_5) fun t14_6 =>
  BND (load1 w t14_6) fun t15_7 =>
  BND (binv .int .eql t15_7 (Value.int .i64 0)) fun t16_8 =>
  COND t16_8
  (BND (nilchk d_p0) fun t18_9 =>
  BND (faddr 4 t18_9) fun t19_10 =>
  BND (storev 1 w t19_10 (Value.bool true)) fun w1 =>
  R (Value.int .i64 7) w1)
  (BND (nilchk d_p0) fun t21_11 =>
  BND (faddr 3 t21_11) fun t22_12 =>
  BND (load1 w t22_12) fun t23_13 =>
  BND (binv .int .gtr t23_13 (Value.int .i64 0)) fun t24_14 =>
  JOIN (α := World → Prop) (fun k_22 => COND t24_14
  (BND (nilchk d_p0) fun t26_23 =>
  BND (faddr 3 t26_23) fun t27_24 =>
  BND (load1 w t27_24) fun t28_25 =>
  BND (binv .int .sub t28_25 (Value.int .i64 1)) fun t29_26 =>
  BND (nilchk d_p0) fun t30_27 =>
  BND (faddr 3 t30_27) fun t31_28 =>
  BND (storev 1 w t31_28 t29_26) fun w3 =>
  k_22 w3)
  (k_22 w))
  (fun w2 => R (Value.int .i64 0) w2))))
def ann_tumbrelref06_Disk_can : List (Nat × List Nat) := []
theorem E_tumbrelref06_Disk_can (d_p0 e_p1 : Value) (w : World) (R : Value → World → Prop) : M_tumbrelref06_Disk_can d_p0 e_p1 w R = den PR ann_tumbrelref06_Disk_can (bodyOf Tryz.f60) (retQ PR Tryz.f60.results.toList R) (env0 [d_p0, e_p1]) w := by kernel_rfl
theorem C_tumbrelref06_Disk_can {d_p0 e_p1 : Value} {w : World} {R : Value → World → Prop} (h : M_tumbrelref06_Disk_can d_p0 e_p1 w R) : CALL PR F_tumbrelref06_Disk_can [d_p0, e_p1] w R :=
  call_of_den2 ann_tumbrelref06_Disk_can Tryz.func60 (by kernel_rfl) (by kernel_rfl) (by kernel_rfl) ((E_tumbrelref06_Disk_can d_p0 e_p1 w R) ▸ h)
-- 61 tumbrel.tumbrelref06.with
def M_tumbrelref06_with (l_p0 x_p1 : Value) (w : World) (R : Value → World → Prop) : Prop :=
  NEW (newv 103 w x_p1) fun x_1 w1 =>
  ∃ (J_2 : Value → World → Prop) (m_2 : Value → World → Nat), J_2 (Value.int .i64 0) w1 ∧ ∀ (_d_2 : Env) (at_3 : Value) (w2 : World), J_2 at_3 w2 →
  (BND (lenl l_p0) fun t9_20 =>
  BND (binv .int .lss at_3 t9_20) fun t10_21 =>
  BND (grd (isB t10_21 true) (some l_p0)) fun t12_22 =>
  BND (grd (isB t10_21 true) (some at_3)) fun t13_23 =>
  BND (grd (isB t10_21 true) (iaddr 2 t12_22 t13_23)) fun t14_24 =>
  BND (grd (isB t10_21 true) (faddr 0 t14_24)) fun t15_25 =>
  BND (grd (isB t10_21 true) (faddr 0 x_1)) fun t17_26 =>
  BND (grd (isB t10_21 true) (load1 w2.drew t15_25)) fun t16_27 =>
  BND (grd (isB t10_21 true) (load1 w2.drew t17_26)) fun t18_28 =>
  BND (grd (isB t10_21 true) (binv .str .lss t16_27 t18_28)) fun t19_29 =>
  BND (pickv t10_21 t19_29 (Value.bool false)) fun t20_30 =>
  COND t20_30
  (BND (binv .int .add at_3 (Value.int .i64 1)) fun t22_31 =>
  (J_2 t22_31 w2.drew ∧ m_2 t22_31 w2.drew < m_2 at_3 w2))
  (BND (newslice 103 #[(Value.string ByteArray.empty), (Value.int .i64 0)] 2 0 [] w2.drew) fun p_ => NEW p_ fun t23_32 w3 =>
  BND (slicev 2 l_p0 none (some at_3)) fun t26_33 =>
  APPEND 103 2 24 (Value.agg #[(Value.string ByteArray.empty), (Value.int .i64 0)]) t23_32 t26_33 w3 fun t27_34 w4 =>
  BND (slicev 2 l_p0 (some at_3) none) fun t34_35 =>
  BND (loadn 2 w4.drew x_1) fun t29_36 =>
  BND (newslice 103 #[(Value.string ByteArray.empty), (Value.int .i64 0)] 2 1 [(0, 2, t29_36)] w4.drew) fun p_ => NEW p_ fun t30_37 w5 =>
  APPEND 103 2 24 (Value.agg #[(Value.string ByteArray.empty), (Value.int .i64 0)]) t27_34 t30_37 w5 fun t31_38 w6 =>
  APPEND 103 2 24 (Value.agg #[(Value.string ByteArray.empty), (Value.int .i64 0)]) t31_38 t34_35 w6 fun t35_39 w7 =>
  R t35_39 w7))
def ann_tumbrelref06_with : List (Nat × List Nat) := [(2, [0, 1, 2, 3, 4, 5, 6, 7, 8, 10, 9, 11, 12, 13]), (5, [0, 4, 5, 6, 1, 2, 3, 7, 8]), (1000002, [5])]
theorem E_tumbrelref06_with (l_p0 x_p1 : Value) (w : World) (R : Value → World → Prop) : M_tumbrelref06_with l_p0 x_p1 w R = den PR ann_tumbrelref06_with (bodyOf Tryz.f61) (retQ PR Tryz.f61.results.toList R) (env0 [l_p0, x_p1]) w := by kernel_rfl
theorem C_tumbrelref06_with {l_p0 x_p1 : Value} {w : World} {R : Value → World → Prop} (h : M_tumbrelref06_with l_p0 x_p1 w R) : CALL PR F_tumbrelref06_with [l_p0, x_p1] w R :=
  call_of_den2 ann_tumbrelref06_with Tryz.func61 (by kernel_rfl) (by kernel_rfl) (by kernel_rfl) ((E_tumbrelref06_with l_p0 x_p1 w R) ▸ h)
-- 62 (*tumbrel.disk.Disk).there
def M_disk_Disk_there (d_p0 name_p1 : Value) (w : World) (R : Value → World → Prop) : Prop :=
  CALL PR F_disk_Disk_now [d_p0] w fun t6_1 w1 =>
  BND (lookv .string (Value.pointer none) false w1 t6_1 name_p1) fun t8_2 =>
  BND (binv .ptr .eql t8_2 (Value.pointer none)) fun t9_3 =>
  COND t9_3
  (R (Value.int .i64 5) w1)
  (R (Value.int .i64 0) w1)
def ann_disk_Disk_there : List (Nat × List Nat) := []
theorem E_disk_Disk_there (d_p0 name_p1 : Value) (w : World) (R : Value → World → Prop) : M_disk_Disk_there d_p0 name_p1 w R = den PR ann_disk_Disk_there (bodyOf Tryz.f62) (retQ PR Tryz.f62.results.toList R) (env0 [d_p0, name_p1]) w := by kernel_rfl
theorem C_disk_Disk_there {d_p0 name_p1 : Value} {w : World} {R : Value → World → Prop} (h : M_disk_Disk_there d_p0 name_p1 w R) : CALL PR F_disk_Disk_there [d_p0, name_p1] w R :=
  call_of_den2 ann_disk_Disk_there Tryz.func62 (by kernel_rfl) (by kernel_rfl) (by kernel_rfl) ((E_disk_Disk_there d_p0 name_p1 w R) ▸ h)
-- 63 tumbrel.index.Right
def M_index_Right (c_p0 : Value) (w : World) (R : Value → World → Prop) : Prop :=
  NEW (newv 33 w c_p0) fun c_1 w1 =>
  BND (faddr 0 c_1) fun t3_2 =>
  BND (load1 w1 t3_2) fun t4_3 =>
  BND (binv .int .geq t4_3 (Value.int .i64 1)) fun t5_4 =>
  BND (grd (isB t5_4 true) (faddr 0 c_1)) fun t7_5 =>
  BND (grd (isB t5_4 true) (load1 w1 t7_5)) fun t8_6 =>
  BND (grd (isB t5_4 true) (binv .int .leq t8_6 (Value.int .i64 8))) fun t9_7 =>
  BND (pickv t5_4 t9_7 (Value.bool false)) fun t10_8 =>
  BND (grd (isB t10_8 true) (faddr 1 c_1)) fun t12_9 =>
  BND (grd (isB t10_8 true) (load1 w1 t12_9)) fun t13_10 =>
  BND (grd (isB t10_8 true) (binv .int .geq t13_10 (Value.int .i64 0))) fun t14_11 =>
  BND (pickv t10_8 t14_11 (Value.bool false)) fun t15_12 =>
  BND (grd (isB t15_12 true) (faddr 1 c_1)) fun t17_13 =>
  BND (grd (isB t15_12 true) (load1 w1 t17_13)) fun t18_14 =>
  BND (grd (isB t15_12 true) (binv .int .leq t18_14 (Value.int .i64 64))) fun t19_15 =>
  BND (pickv t15_12 t19_15 (Value.bool false)) fun t20_16 =>
  BND (grd (isB t20_16 true) (faddr 2 c_1)) fun t22_17 =>
  BND (grd (isB t20_16 true) (load1 w1 t22_17)) fun t23_18 =>
  BND (grd (isB t20_16 true) (binv .int .geq t23_18 (Value.int .i64 1))) fun t24_19 =>
  BND (pickv t20_16 t24_19 (Value.bool false)) fun t25_20 =>
  BND (grd (isB t25_20 true) (faddr 2 c_1)) fun t27_21 =>
  BND (grd (isB t25_20 true) (load1 w1 t27_21)) fun t28_22 =>
  BND (grd (isB t25_20 true) (binv .int .leq t28_22 (Value.int .i64 20))) fun t29_23 =>
  BND (pickv t25_20 t29_23 (Value.bool false)) fun t30_24 =>
  R t30_24 w1
def ann_index_Right : List (Nat × List Nat) := []
theorem E_index_Right (c_p0 : Value) (w : World) (R : Value → World → Prop) : M_index_Right c_p0 w R = den PR ann_index_Right (bodyOf Tryz.f63) (retQ PR Tryz.f63.results.toList R) (env0 [c_p0]) w := by kernel_rfl
theorem C_index_Right {c_p0 : Value} {w : World} {R : Value → World → Prop} (h : M_index_Right c_p0 w R) : CALL PR F_index_Right [c_p0] w R :=
  call_of_den2 ann_index_Right Tryz.func63 (by kernel_rfl) (by kernel_rfl) (by kernel_rfl) ((E_index_Right c_p0 w R) ▸ h)
-- 64 tumbrel.tumbrelref11.Right
def M_tumbrelref11_Right (c_p0 : Value) (w : World) (R : Value → World → Prop) : Prop :=
  NEW (newv 40 w c_p0) fun c_1 w1 =>
  BND (faddr 0 c_1) fun t3_2 =>
  BND (load1 w1 t3_2) fun t4_3 =>
  BND (binv .int .geq t4_3 (Value.int .i64 1)) fun t5_4 =>
  BND (grd (isB t5_4 true) (faddr 0 c_1)) fun t7_5 =>
  BND (grd (isB t5_4 true) (load1 w1 t7_5)) fun t8_6 =>
  BND (grd (isB t5_4 true) (binv .int .leq t8_6 (Value.int .i64 8))) fun t9_7 =>
  BND (pickv t5_4 t9_7 (Value.bool false)) fun t10_8 =>
  BND (grd (isB t10_8 true) (faddr 1 c_1)) fun t12_9 =>
  BND (grd (isB t10_8 true) (load1 w1 t12_9)) fun t13_10 =>
  BND (grd (isB t10_8 true) (binv .int .geq t13_10 (Value.int .i64 0))) fun t14_11 =>
  BND (pickv t10_8 t14_11 (Value.bool false)) fun t15_12 =>
  BND (grd (isB t15_12 true) (faddr 1 c_1)) fun t17_13 =>
  BND (grd (isB t15_12 true) (load1 w1 t17_13)) fun t18_14 =>
  BND (grd (isB t15_12 true) (binv .int .leq t18_14 (Value.int .i64 64))) fun t19_15 =>
  BND (pickv t15_12 t19_15 (Value.bool false)) fun t20_16 =>
  BND (grd (isB t20_16 true) (faddr 2 c_1)) fun t22_17 =>
  BND (grd (isB t20_16 true) (load1 w1 t22_17)) fun t23_18 =>
  BND (grd (isB t20_16 true) (binv .int .geq t23_18 (Value.int .i64 1))) fun t24_19 =>
  BND (pickv t20_16 t24_19 (Value.bool false)) fun t25_20 =>
  BND (grd (isB t25_20 true) (faddr 2 c_1)) fun t27_21 =>
  BND (grd (isB t25_20 true) (load1 w1 t27_21)) fun t28_22 =>
  BND (grd (isB t25_20 true) (binv .int .leq t28_22 (Value.int .i64 20))) fun t29_23 =>
  BND (pickv t25_20 t29_23 (Value.bool false)) fun t30_24 =>
  R t30_24 w1
def ann_tumbrelref11_Right : List (Nat × List Nat) := []
theorem E_tumbrelref11_Right (c_p0 : Value) (w : World) (R : Value → World → Prop) : M_tumbrelref11_Right c_p0 w R = den PR ann_tumbrelref11_Right (bodyOf Tryz.f64) (retQ PR Tryz.f64.results.toList R) (env0 [c_p0]) w := by kernel_rfl
theorem C_tumbrelref11_Right {c_p0 : Value} {w : World} {R : Value → World → Prop} (h : M_tumbrelref11_Right c_p0 w R) : CALL PR F_tumbrelref11_Right [c_p0] w R :=
  call_of_den2 ann_tumbrelref11_Right Tryz.func64 (by kernel_rfl) (by kernel_rfl) (by kernel_rfl) ((E_tumbrelref11_Right c_p0 w R) ▸ h)
-- 65 slices.Contains[[]*tumbrel.disk.file,*tumbrel.disk.file]
def M_slices_Contains_disk_file_disk_file (s_p0 v_p1 : Value) (w : World) (R : Value → World → Prop) : Prop :=
  CALL PR F_slices_Index_disk_file_disk_file [s_p0, v_p1] w fun t7_1 w1 =>
  BND (binv .int .geq t7_1 (Value.int .i64 0)) fun t8_2 =>
  R t8_2 w1
def ann_slices_Contains_disk_file_disk_file : List (Nat × List Nat) := []
theorem E_slices_Contains_disk_file_disk_file (s_p0 v_p1 : Value) (w : World) (R : Value → World → Prop) : M_slices_Contains_disk_file_disk_file s_p0 v_p1 w R = den PR ann_slices_Contains_disk_file_disk_file (bodyOf Tryz.f65) (retQ PR Tryz.f65.results.toList R) (env0 [s_p0, v_p1]) w := by kernel_rfl
theorem C_slices_Contains_disk_file_disk_file {s_p0 v_p1 : Value} {w : World} {R : Value → World → Prop} (h : M_slices_Contains_disk_file_disk_file s_p0 v_p1 w R) : CALL PR F_slices_Contains_disk_file_disk_file [s_p0, v_p1] w R :=
  call_of_den2 ann_slices_Contains_disk_file_disk_file Tryz.func65 (by kernel_rfl) (by kernel_rfl) (by kernel_rfl) ((E_slices_Contains_disk_file_disk_file s_p0 v_p1 w R) ▸ h)
-- 66 tumbrel.record.Right
def M_record_Right (r_p0 : Value) (w : World) (R : Value → World → Prop) : Prop :=
  NEW (newv 77 w r_p0) fun r_1 w1 =>
  ∃ S_2 : Nat → World → Prop,
  S_2 5 w1.drew ∧
  S_2 9 w1.drew ∧
  BND (faddr 0 r_1) fun t3_3 =>
  BND (load1 w1.drew t3_3) fun t4_4 =>
  CALL PR F_record_known [t4_4] w1.drew fun t5_5 w2 =>
  S_2 5 w2 ∧
  S_2 9 w2 ∧
  BND (grd (isB t5_5 true) (faddr 1 r_1)) fun t7_6 =>
  FLT (S_2 5) (fun w_ => (grd (isB t5_5 true) (load1 w_ t7_6))) fun t8_7 =>
  BND (grd (isB t5_5 true) (lenl t8_7)) fun t9_8 =>
  BND (grd (isB t5_5 true) (faddr 0 r_1)) fun t11_9 =>
  FLT (S_2 9) (fun w_ => (grd (isB t5_5 true) (load1 w_ t11_9))) fun t12_10 =>
  GEF (isB t5_5 true) (fun k_ => CALL PR F_record_numbers [] w2 k_) w2 fun t10_11 w3 =>
  S_2 5 w3 ∧
  S_2 9 w3 ∧
  BND (grd (isB t5_5 true) (indexav false 18 1 t10_11 t12_10)) fun t13_12 =>
  BND (grd (isB t5_5 true) (binv .int .eql t9_8 t13_12)) fun t14_13 =>
  BND (pickv t5_5 t14_13 (Value.bool false)) fun t15_14 =>
  BND (grd (isB t15_14 true) (faddr 0 r_1)) fun t17_15 =>
  BND (grd (isB t15_14 true) (faddr 2 r_1)) fun t19_16 =>
  BND (grd (isB t15_14 true) (load1 w3 t17_15)) fun t18_17 =>
  BND (grd (isB t15_14 true) (load1 w3 t19_16)) fun t20_18 =>
  BND (grd (isB t15_14 true) (lens t20_18)) fun t21_19 =>
  GEF (isB t15_14 true) (fun k_ => CALL PR F_record_fits [t18_17, t21_19] w3 k_) w3 fun t22_20 w4 =>
  BND (pickv t15_14 t22_20 (Value.bool false)) fun t23_21 =>
  R t23_21 w4
def ann_record_Right : List (Nat × List Nat) := [(1, [0, 1, 2, 3, 4, 5, 6, 8, 9, 7, 10, 11, 12, 13, 14, 16, 15, 17, 18, 19, 20, 21]), (2000001, [5, 9]), (3001002, [5, 9]), (3001007, [5, 9])]
theorem E_record_Right (r_p0 : Value) (w : World) (R : Value → World → Prop) : M_record_Right r_p0 w R = den PR ann_record_Right (bodyOf Tryz.f66) (retQ PR Tryz.f66.results.toList R) (env0 [r_p0]) w := by kernel_rfl
theorem C_record_Right {r_p0 : Value} {w : World} {R : Value → World → Prop} (h : M_record_Right r_p0 w R) : CALL PR F_record_Right [r_p0] w R :=
  call_of_den2 ann_record_Right Tryz.func66 (by kernel_rfl) (by kernel_rfl) (by kernel_rfl) ((E_record_Right r_p0 w R) ▸ h)
-- 67 tumbrel.frame.Bytes
def M_frame_Bytes (x_p0 : Value) (w : World) (R : Value → World → Prop) : Prop :=
  NEW (newv 117 w x_p0) fun x_1 w1 =>
  BND (faddr 1 x_1) fun t8_2 =>
  BND (load1 w1 t8_2) fun t9_3 =>
  BND (lenl t9_3) fun t10_4 =>
  BND (binv .int .gtr t10_4 (Value.int .i64 400)) fun t11_5 =>
  COND t11_5
  (R (.tuple #[(Value.slice none 0 0), (Value.int .i64 4)]) w1)
  (BND (faddr 1 x_1) fun t13_6 =>
  BND (load1 w1 t13_6) fun t14_7 =>
  BND (lenl t14_7) fun t15_8 =>
  CALL PR F_frame_low_int [t15_8] w1 fun t16_9 w2 =>
  BND (extractv t16_9 0) fun t17_10 =>
  BND (extractv t16_9 1) fun t18_11 =>
  CALL PR F_frame_low_int [t18_11] w2 fun t21_12 w3 =>
  BND (extractv t21_12 0) fun t22_13 =>
  BND (extractv t21_12 1) fun t23_14 =>
  ∃ S_15 : Nat → World → Prop,
  S_15 7 w3.drew ∧
  BND (faddr 0 x_1) fun t24_16 =>
  BND (faddr 1 x_1) fun t30_17 =>
  FLT (S_15 7) (fun w_ => load1 w_ t30_17) fun t31_18 =>
  BND (load1 w3.drew t24_16) fun t25_19 =>
  BND (newslice 5 #[(Value.int .u8 0)] 1 3 [(0, 1, t25_19), (1, 1, t17_10), (2, 1, t22_13)] w3.drew) fun p_ => NEW p_ fun t28_20 w4 =>
  S_15 7 w4 ∧
  CALL PR F_sum_Put [t28_20] w4 fun t29_21 w5 =>
  S_15 7 w5 ∧
  CALL PR F_sum_Put [t31_18] w5 fun t32_22 w6 =>
  APPEND 5 1 1 (Value.int .u8 0) t29_21 t32_22 w6 fun t33_23 w7 =>
  R (.tuple #[t33_23, (Value.int .i64 0)]) w7)
def ann_frame_Bytes : List (Nat × List Nat) := [(5, [0, 2, 3, 6, 7, 1, 4, 5, 8, 9, 10, 11]), (2000005, [7]), (3005004, [7]), (3005005, [7])]
theorem E_frame_Bytes (x_p0 : Value) (w : World) (R : Value → World → Prop) : M_frame_Bytes x_p0 w R = den PR ann_frame_Bytes (bodyOf Tryz.f67) (retQ PR Tryz.f67.results.toList R) (env0 [x_p0]) w := by kernel_rfl
theorem C_frame_Bytes {x_p0 : Value} {w : World} {R : Value → World → Prop} (h : M_frame_Bytes x_p0 w R) : CALL PR F_frame_Bytes [x_p0] w R :=
  call_of_den2 ann_frame_Bytes Tryz.func67 (by kernel_rfl) (by kernel_rfl) (by kernel_rfl) ((E_frame_Bytes x_p0 w R) ▸ h)
-- 68 tumbrel.vint.All
def M_vint_All (l_p0 : Value) (w : World) (R : Value → World → Prop) : Prop :=
  BND (lenl l_p0) fun t7_1 =>
  ∃ (J_2 : Value → Value → World → Prop) (m_2 : Value → Value → World → Nat), J_2 (Value.slice none 0 0) (Value.int .i64 0) w ∧ ∀ (_d_2 : Env) (b_3 t8_5 : Value) (w1 : World), J_2 b_3 t8_5 w1 →
  (BND (binv .int .lss t8_5 t7_1) fun t9_14 =>
  COND t9_14
  (BND (iaddr 1 l_p0 t8_5) fun t10_15 =>
  BND (load1 w1 t10_15) fun t11_16 =>
  CALL PR F_vint_Put [t11_16] w1 fun t14_17 w2 =>
  APPEND 5 1 1 (Value.int .u8 0) b_3 t14_17 w2 fun t15_18 w3 =>
  BND (binv .int .add t8_5 (Value.int .i64 1)) fun t16_19 =>
  (J_2 t15_18 t16_19 w3 ∧ m_2 t15_18 t16_19 w3 < m_2 b_3 t8_5 w1))
  (R b_3 w1))
def ann_vint_All : List (Nat × List Nat) := [(1000003, [3, 8])]
theorem E_vint_All (l_p0 : Value) (w : World) (R : Value → World → Prop) : M_vint_All l_p0 w R = den PR ann_vint_All (bodyOf Tryz.f68) (retQ PR Tryz.f68.results.toList R) (env0 [l_p0]) w := by kernel_rfl
theorem C_vint_All {l_p0 : Value} {w : World} {R : Value → World → Prop} (h : M_vint_All l_p0 w R) : CALL PR F_vint_All [l_p0] w R :=
  call_of_den2 ann_vint_All Tryz.func68 (by kernel_rfl) (by kernel_rfl) (by kernel_rfl) ((E_vint_All l_p0 w R) ▸ h)
-- 69 slices.Index[[]string,string]
def M_slices_Index_string_string (s_p0 v_p1 : Value) (w : World) (R : Value → World → Prop) : Prop :=
  BND (lenl s_p0) fun t7_1 =>
  ∃ (J_2 : Value → World → Prop) (m_2 : Value → World → Nat), J_2 (Value.int .i64 0) w ∧ ∀ (_d_2 : Env) (t8_5 : Value) (w1 : World), J_2 t8_5 w1 →
  (BND (binv .int .lss t8_5 t7_1) fun t9_16 =>
  COND t9_16
  (BND (iaddr 1 s_p0 t8_5) fun t14_17 =>
  BND (load1 w1 t14_17) fun t15_18 =>
  BND (binv .str .eql v_p1 t15_18) fun t16_19 =>
  COND t16_19
  (R t8_5 w1)
  (BND (binv .int .add t8_5 (Value.int .i64 1)) fun t18_20 =>
  (J_2 t18_20 w1 ∧ m_2 t18_20 w1 < m_2 t8_5 w1)))
  (R (Value.int .i64 (-1)) w1))
def ann_slices_Index_string_string : List (Nat × List Nat) := [(1000002, [8])]
theorem E_slices_Index_string_string (s_p0 v_p1 : Value) (w : World) (R : Value → World → Prop) : M_slices_Index_string_string s_p0 v_p1 w R = den PR ann_slices_Index_string_string (bodyOf Tryz.f69) (retQ PR Tryz.f69.results.toList R) (env0 [s_p0, v_p1]) w := by kernel_rfl
theorem C_slices_Index_string_string {s_p0 v_p1 : Value} {w : World} {R : Value → World → Prop} (h : M_slices_Index_string_string s_p0 v_p1 w R) : CALL PR F_slices_Index_string_string [s_p0, v_p1] w R :=
  call_of_den2 ann_slices_Index_string_string Tryz.func69 (by kernel_rfl) (by kernel_rfl) (by kernel_rfl) ((E_slices_Index_string_string s_p0 v_p1 w R) ▸ h)
-- 70 tumbrel.tumbrelref05.Right
def M_tumbrelref05_Right (r_p0 : Value) (w : World) (R : Value → World → Prop) : Prop :=
  NEW (newv 82 w r_p0) fun r_1 w1 =>
  ∃ S_2 : Nat → World → Prop,
  S_2 6 w1.drew ∧
  BND (faddr 0 r_1) fun t3_3 =>
  BND (load1 w1.drew t3_3) fun t4_4 =>
  CALL PR F_tumbrelref05_many [t4_4] w1.drew fun t5_5 w2 =>
  S_2 6 w2 ∧
  BND (binv .int .geq t5_5 (Value.int .i64 0)) fun t6_6 =>
  BND (grd (isB t6_6 true) (faddr 1 r_1)) fun t8_7 =>
  FLT (S_2 6) (fun w_ => (grd (isB t6_6 true) (load1 w_ t8_7))) fun t9_8 =>
  BND (grd (isB t6_6 true) (lenl t9_8)) fun t10_9 =>
  BND (grd (isB t6_6 true) (faddr 0 r_1)) fun t11_10 =>
  BND (grd (isB t6_6 true) (load1 w2 t11_10)) fun t12_11 =>
  GEF (isB t6_6 true) (fun k_ => CALL PR F_tumbrelref05_many [t12_11] w2 k_) w2 fun t13_12 w3 =>
  S_2 6 w3 ∧
  BND (grd (isB t6_6 true) (binv .int .eql t10_9 t13_12)) fun t14_13 =>
  BND (pickv t6_6 t14_13 (Value.bool false)) fun t15_14 =>
  BND (grd (isB t15_14 true) (faddr 0 r_1)) fun t17_15 =>
  BND (grd (isB t15_14 true) (faddr 2 r_1)) fun t19_16 =>
  BND (grd (isB t15_14 true) (load1 w3 t17_15)) fun t18_17 =>
  BND (grd (isB t15_14 true) (load1 w3 t19_16)) fun t20_18 =>
  BND (grd (isB t15_14 true) (lens t20_18)) fun t21_19 =>
  GEF (isB t15_14 true) (fun k_ => CALL PR F_tumbrelref05_texts [t18_17, t21_19] w3 k_) w3 fun t22_20 w4 =>
  BND (pickv t15_14 t22_20 (Value.bool false)) fun t23_21 =>
  R t23_21 w4
def ann_tumbrelref05_Right : List (Nat × List Nat) := [(1, [0, 1, 2, 3, 4, 5, 6, 7, 8, 9, 10, 11, 12, 13, 14, 16, 15, 17, 18, 19, 20, 21]), (2000001, [6]), (3001002, [6]), (3001010, [6])]
theorem E_tumbrelref05_Right (r_p0 : Value) (w : World) (R : Value → World → Prop) : M_tumbrelref05_Right r_p0 w R = den PR ann_tumbrelref05_Right (bodyOf Tryz.f70) (retQ PR Tryz.f70.results.toList R) (env0 [r_p0]) w := by kernel_rfl
theorem C_tumbrelref05_Right {r_p0 : Value} {w : World} {R : Value → World → Prop} (h : M_tumbrelref05_Right r_p0 w R) : CALL PR F_tumbrelref05_Right [r_p0] w R :=
  call_of_den2 ann_tumbrelref05_Right Tryz.func70 (by kernel_rfl) (by kernel_rfl) (by kernel_rfl) ((E_tumbrelref05_Right r_p0 w R) ▸ h)
-- 71 tumbrel.tumbrelref04.Bytes
def M_tumbrelref04_Bytes (x_p0 : Value) (w : World) (R : Value → World → Prop) : Prop :=
  NEW (newv 123 w x_p0) fun x_1 w1 =>
  BND (faddr 1 x_1) fun t5_2 =>
  BND (load1 w1 t5_2) fun t6_3 =>
  BND (lenl t6_3) fun t7_4 =>
  BND (binv .int .gtr t7_4 (Value.int .i64 400)) fun t9_5 =>
  COND t9_5
  (R (.tuple #[(Value.slice none 0 0), (Value.int .i64 4)]) w1)
  (∃ S_6 : Nat → World → Prop,
  S_6 11 w1.drew ∧
  BND (faddr 0 x_1) fun t10_7 =>
  BND (binv .int .rem t7_4 (Value.int .i64 256)) fun t13_8 =>
  BND (convi .u8 t13_8) fun t14_9 =>
  BND (binv .int .quo t7_4 (Value.int .i64 256)) fun t16_10 =>
  BND (convi .u8 t16_10) fun t17_11 =>
  BND (faddr 1 x_1) fun t20_12 =>
  FLT (S_6 11) (fun w_ => load1 w_ t20_12) fun t21_13 =>
  BND (load1 w1.drew t10_7) fun t11_14 =>
  BND (newslice 5 #[(Value.int .u8 0)] 1 3 [(0, 1, t11_14), (1, 1, t14_9), (2, 1, t17_11)] w1.drew) fun p_ => NEW p_ fun t18_15 w2 =>
  S_6 11 w2 ∧
  CALL PR F_tumbrelref01_Put [t18_15] w2 fun t19_16 w3 =>
  S_6 11 w3 ∧
  CALL PR F_tumbrelref01_Put [t21_13] w3 fun t22_17 w4 =>
  APPEND 5 1 1 (Value.int .u8 0) t19_16 t22_17 w4 fun t23_18 w5 =>
  R (.tuple #[t23_18, (Value.int .i64 0)]) w5)
def ann_tumbrelref04_Bytes : List (Nat × List Nat) := [(4, [0, 2, 3, 4, 5, 6, 7, 10, 11, 1, 8, 9, 12, 13, 14, 15]), (2000004, [11]), (3004008, [11]), (3004009, [11])]
theorem E_tumbrelref04_Bytes (x_p0 : Value) (w : World) (R : Value → World → Prop) : M_tumbrelref04_Bytes x_p0 w R = den PR ann_tumbrelref04_Bytes (bodyOf Tryz.f71) (retQ PR Tryz.f71.results.toList R) (env0 [x_p0]) w := by kernel_rfl
theorem C_tumbrelref04_Bytes {x_p0 : Value} {w : World} {R : Value → World → Prop} (h : M_tumbrelref04_Bytes x_p0 w R) : CALL PR F_tumbrelref04_Bytes [x_p0] w R :=
  call_of_den2 ann_tumbrelref04_Bytes Tryz.func71 (by kernel_rfl) (by kernel_rfl) (by kernel_rfl) ((E_tumbrelref04_Bytes x_p0 w R) ▸ h)
-- 72 tumbrel.tumbrelref02.All
def M_tumbrelref02_All (l_p0 : Value) (w : World) (R : Value → World → Prop) : Prop :=
  BND (newslice 5 #[(Value.int .u8 0)] 1 0 [] w) fun p_ => NEW p_ fun t5_1 w1 =>
  ∃ (J_2 : Value → Value → World → Prop) (m_2 : Value → Value → World → Nat), J_2 t5_1 (Value.int .i64 0) w1 ∧ ∀ (_d_2 : Env) (out_3 i_4 : Value) (w2 : World), J_2 out_3 i_4 w2 →
  (BND (lenl l_p0) fun t8_18 =>
  BND (binv .int .lss i_4 t8_18) fun t9_19 =>
  COND t9_19
  (BND (iaddr 1 l_p0 i_4) fun t15_20 =>
  BND (load1 w2 t15_20) fun t16_21 =>
  CALL PR F_tumbrelref02_Put [t16_21] w2 fun t17_22 w3 =>
  APPEND 5 1 1 (Value.int .u8 0) out_3 t17_22 w3 fun t18_23 w4 =>
  BND (binv .int .add i_4 (Value.int .i64 1)) fun t11_24 =>
  (J_2 t18_23 t11_24 w4 ∧ m_2 t18_23 t11_24 w4 < m_2 out_3 i_4 w2))
  (R out_3 w2))
def ann_tumbrelref02_All : List (Nat × List Nat) := [(1000003, [3, 4])]
theorem E_tumbrelref02_All (l_p0 : Value) (w : World) (R : Value → World → Prop) : M_tumbrelref02_All l_p0 w R = den PR ann_tumbrelref02_All (bodyOf Tryz.f72) (retQ PR Tryz.f72.results.toList R) (env0 [l_p0]) w := by kernel_rfl
theorem C_tumbrelref02_All {l_p0 : Value} {w : World} {R : Value → World → Prop} (h : M_tumbrelref02_All l_p0 w R) : CALL PR F_tumbrelref02_All [l_p0] w R :=
  call_of_den2 ann_tumbrelref02_All Tryz.func72 (by kernel_rfl) (by kernel_rfl) (by kernel_rfl) ((E_tumbrelref02_All l_p0 w R) ▸ h)
-- 73 tumbrel.tumbrelref06.without
def M_tumbrelref06_without (l_p0 name_p1 : Value) (w : World) (R : Value → World → Prop) : Prop :=
  BND (newslice 103 #[(Value.string ByteArray.empty), (Value.int .i64 0)] 2 0 [] w) fun p_ => NEW p_ fun t7_1 w1 =>
  ∃ (J_2 : Value → Value → World → Prop) (m_2 : Value → Value → World → Nat), J_2 t7_1 (Value.int .i64 0) w1 ∧ ∀ (_d_2 : Env) (out_3 i_4 : Value) (w2 : World), J_2 out_3 i_4 w2 →
  (BND (lenl l_p0) fun t10_25 =>
  BND (binv .int .lss i_4 t10_25) fun t11_26 =>
  COND t11_26
  (BND (iaddr 2 l_p0 i_4) fun t16_27 =>
  BND (faddr 0 t16_27) fun t17_28 =>
  BND (load1 w2 t17_28) fun t18_29 =>
  BND (binv .str .neq t18_29 name_p1) fun t20_30 =>
  JOIN (α := Value → World → Prop) (fun k_40 => COND t20_30
  (BND (iaddr 2 l_p0 i_4) fun t24_41 =>
  BND (loadn 2 w2 t24_41) fun t25_42 =>
  BND (newslice 103 #[(Value.string ByteArray.empty), (Value.int .i64 0)] 2 1 [(0, 2, t25_42)] w2) fun p_ => NEW p_ fun t26_43 w4 =>
  APPEND 103 2 24 (Value.agg #[(Value.string ByteArray.empty), (Value.int .i64 0)]) out_3 t26_43 w4 fun t27_44 w5 =>
  k_40 t27_44 w5)
  (k_40 out_3 w2))
  (fun out_31 w3 => BND (binv .int .add i_4 (Value.int .i64 1)) fun t13_39 =>
  (J_2 out_31 t13_39 w3 ∧ m_2 out_31 t13_39 w3 < m_2 out_3 i_4 w2)))
  (R out_3 w2))
def ann_tumbrelref06_without : List (Nat × List Nat) := [(1000003, [5, 6])]
theorem E_tumbrelref06_without (l_p0 name_p1 : Value) (w : World) (R : Value → World → Prop) : M_tumbrelref06_without l_p0 name_p1 w R = den PR ann_tumbrelref06_without (bodyOf Tryz.f73) (retQ PR Tryz.f73.results.toList R) (env0 [l_p0, name_p1]) w := by kernel_rfl
theorem C_tumbrelref06_without {l_p0 name_p1 : Value} {w : World} {R : Value → World → Prop} (h : M_tumbrelref06_without l_p0 name_p1 w R) : CALL PR F_tumbrelref06_without [l_p0, name_p1] w R :=
  call_of_den2 ann_tumbrelref06_without Tryz.func73 (by kernel_rfl) (by kernel_rfl) (by kernel_rfl) ((E_tumbrelref06_without l_p0 name_p1 w R) ▸ h)
-- 74 slices.Clone[[]byte,byte]
def M_slices_Clone_byte_byte (s_p0 : Value) (w : World) (R : Value → World → Prop) : Prop :=
  BND (binv .slc .eql s_p0 (Value.slice none 0 0)) fun t4_1 =>
  COND t4_1
  (R (Value.slice none 0 0) w)
  (BND (newslice 5 #[(Value.int .u8 0)] 1 0 [] w) fun p_ => NEW p_ fun t5_2 w1 =>
  APPEND 5 1 1 (Value.int .u8 0) t5_2 s_p0 w1 fun t7_3 w2 =>
  R t7_3 w2)
def ann_slices_Clone_byte_byte : List (Nat × List Nat) := []
theorem E_slices_Clone_byte_byte (s_p0 : Value) (w : World) (R : Value → World → Prop) : M_slices_Clone_byte_byte s_p0 w R = den PR ann_slices_Clone_byte_byte (bodyOf Tryz.f74) (retQ PR Tryz.f74.results.toList R) (env0 [s_p0]) w := by kernel_rfl
theorem C_slices_Clone_byte_byte {s_p0 : Value} {w : World} {R : Value → World → Prop} (h : M_slices_Clone_byte_byte s_p0 w R) : CALL PR F_slices_Clone_byte_byte [s_p0] w R :=
  call_of_den2 ann_slices_Clone_byte_byte Tryz.func74 (by kernel_rfl) (by kernel_rfl) (by kernel_rfl) ((E_slices_Clone_byte_byte s_p0 w R) ▸ h)
-- 75 tumbrel.frame.All
def M_frame_All (b_p0 : Value) (w : World) (R : Value → World → Prop) : Prop :=
  ∃ (J_1 : Value → Value → World → Prop) (m_1 : Value → Value → World → Nat), J_1 (Value.slice none 0 0) (Value.int .i64 0) w ∧ ∀ (_d_1 : Env) (l_5 at_6 : Value) (w1 : World), J_1 l_5 at_6 w1 →
  (BND (lenl b_p0) fun t12_34 =>
  BND (binv .int .lss at_6 t12_34) fun t13_35 =>
  COND t13_35
  (BND (slicev 1 b_p0 (some at_6) none) fun t17_36 =>
  CALL PR F_frame_Read [t17_36] w1 fun t18_37 w2 =>
  BND (extractv t18_37 0) fun t19_38 =>
  BND (extractv t18_37 1) fun t20_39 =>
  BND (extractv t18_37 2) fun t21_40 =>
  NEW (newv 117 w2 (Value.agg #[(Value.int .u8 0), (Value.slice none 0 0)])) fun x_41 w3 =>
  BND (storev 2 w3 x_41 t19_38) fun w4 =>
  BND (binv .int .neq t21_40 (Value.int .i64 0)) fun t23_42 =>
  COND t23_42
  (R (.tuple #[l_5, at_6, t21_40]) w4)
  (BND (loadn 2 w4 x_41) fun t28_43 =>
  BND (newslice 117 #[(Value.int .u8 0), (Value.slice none 0 0)] 2 1 [(0, 2, t28_43)] w4) fun p_ => NEW p_ fun t29_44 w5 =>
  APPEND 117 2 32 (Value.agg #[(Value.int .u8 0), (Value.slice none 0 0)]) l_5 t29_44 w5 fun t30_45 w6 =>
  BND (binv .int .add at_6 t20_39) fun t33_46 =>
  (J_1 t30_45 t33_46 w6 ∧ m_1 t30_45 t33_46 w6 < m_1 l_5 at_6 w1)))
  (R (.tuple #[l_5, at_6, (Value.int .i64 0)]) w1))
def ann_frame_All : List (Nat × List Nat) := [(1000003, [5, 6])]
theorem E_frame_All (b_p0 : Value) (w : World) (R : Value → World → Prop) : M_frame_All b_p0 w R = den PR ann_frame_All (bodyOf Tryz.f75) (retQ PR Tryz.f75.results.toList R) (env0 [b_p0]) w := by kernel_rfl
theorem C_frame_All {b_p0 : Value} {w : World} {R : Value → World → Prop} (h : M_frame_All b_p0 w R) : CALL PR F_frame_All [b_p0] w R :=
  call_of_den2 ann_frame_All Tryz.func75 (by kernel_rfl) (by kernel_rfl) (by kernel_rfl) ((E_frame_All b_p0 w R) ▸ h)
-- 76 tumbrel.record.Read
def M_record_Read (x_p0 : Value) (w : World) (R : Value → World → Prop) : Prop :=
  NEW (newv 117 w x_p0) fun x_1 w1 =>
  NEW (newv 77 w1 (Value.agg #[(Value.int .i64 0), (Value.slice none 0 0), (Value.string ByteArray.empty)])) fun t2_2 w2 =>
  BND (faddr 0 x_1) fun t9_3 =>
  BND (load1 w2 t9_3) fun t10_4 =>
  BND (convi .i64 t10_4) fun t11_5 =>
  BND (buildv #[(Value.int .i64 0), (Value.slice none 0 0), (Value.string ByteArray.empty)] [(0, 1, t11_5)]) fun t12_6 =>
  NEW (newv 77 w2 (Value.agg #[(Value.int .i64 0), (Value.slice none 0 0), (Value.string ByteArray.empty)])) fun r_7 w3 =>
  BND (storev 3 w3 r_7 t12_6) fun w4 =>
  BND (faddr 0 r_7) fun t13_8 =>
  BND (load1 w4 t13_8) fun t14_9 =>
  CALL PR F_record_known [t14_9] w4 fun t15_10 w5 =>
  BND (unv .not t15_10) fun t16_11 =>
  COND t16_11
  (BND (buildv #[(Value.int .i64 0), (Value.slice none 0 0), (Value.string ByteArray.empty)] []) fun t17_12 =>
  BND (storev 3 w5 t2_2 t17_12) fun w6 =>
  BND (loadn 3 w6 t2_2) fun r_13 =>
  R (.tuple #[r_13, (Value.int .i64 2)]) w6)
  (BND (faddr 1 x_1) fun t18_14 =>
  BND (load1 w5 t18_14) fun t19_15 =>
  ∃ S_16 : Nat → World → Prop,
  S_16 2 w5.drew ∧
  BND (faddr 0 r_7) fun t21_17 =>
  FLT (S_16 2) (fun w_ => load1 w_ t21_17) fun t22_18 =>
  CALL PR F_record_numbers [] w5.drew fun t20_19 w7 =>
  S_16 2 w7 ∧
  BND (indexav false 18 1 t20_19 t22_18) fun t23_20 =>
  ∃ (J_21 : Value → Value → World → Prop) (m_21 : Value → Value → World → Nat), J_21 t19_15 (Value.int .i64 0) w7 ∧ ∀ (_d_21 : Env) (rest_23 t24_27 : Value) (w8 : World), J_21 rest_23 t24_27 w8 →
  (BND (binv .int .lss t24_27 t23_20) fun t25_49 =>
  COND t25_49
  (CALL PR F_vint_Get [rest_23] w8 fun t28_50 w9 =>
  BND (extractv t28_50 0) fun t29_51 =>
  BND (extractv t28_50 1) fun t30_52 =>
  BND (extractv t28_50 2) fun t31_53 =>
  BND (binv .int .neq t31_53 (Value.int .i64 0)) fun t33_54 =>
  COND t33_54
  (BND (buildv #[(Value.int .i64 0), (Value.slice none 0 0), (Value.string ByteArray.empty)] []) fun t34_55 =>
  BND (storev 3 w9 t2_2 t34_55) fun w10 =>
  BND (loadn 3 w10 t2_2) fun r_56 =>
  R (.tuple #[r_56, t31_53]) w10)
  (∃ S_57 : Nat → World → Prop,
  S_57 1 w9.drew ∧
  BND (faddr 1 r_7) fun t36_58 =>
  FLT (S_57 1) (fun w_ => load1 w_ t36_58) fun t37_59 =>
  BND (slicev 1 rest_23 (some t30_52) none) fun t43_60 =>
  BND (newslice 31 #[(Value.int .u64 0)] 1 1 [(0, 1, t29_51)] w9.drew) fun p_ => NEW p_ fun t39_61 w11 =>
  S_57 1 w11 ∧
  APPEND 31 1 8 (Value.int .u64 0) t37_59 t39_61 w11 fun t40_62 w12 =>
  BND (faddr 1 r_7) fun t44_63 =>
  BND (storev 1 w12 t44_63 t40_62) fun w13 =>
  BND (binv .int .add t24_27 (Value.int .i64 1)) fun t45_64 =>
  (J_21 t43_60 t45_64 w13 ∧ m_21 t43_60 t45_64 w13 < m_21 rest_23 t24_27 w8)))
  (BND (faddr 0 r_7) fun t46_65 =>
  BND (load1 w8 t46_65) fun t47_66 =>
  BND (lenl rest_23) fun t49_67 =>
  CALL PR F_record_fits [t47_66, t49_67] w8 fun t50_68 w14 =>
  BND (unv .not t50_68) fun t51_69 =>
  COND t51_69
  (BND (buildv #[(Value.int .i64 0), (Value.slice none 0 0), (Value.string ByteArray.empty)] []) fun t52_70 =>
  BND (storev 3 w14 t2_2 t52_70) fun w15 =>
  BND (loadn 3 w15 t2_2) fun r_71 =>
  R (.tuple #[r_71, (Value.int .i64 2)]) w15)
  (BND (textv .u8 textOfBytes w14 rest_23) fun t54_72 =>
  BND (faddr 2 r_7) fun t55_73 =>
  BND (storev 1 w14 t55_73 t54_72) fun w16 =>
  BND (loadn 3 w16 r_7) fun t56_74 =>
  BND (storev 3 w16 t2_2 t56_74) fun w17 =>
  BND (loadn 3 w17 t2_2) fun r_75 =>
  R (.tuple #[r_75, (Value.int .i64 0)]) w17))))
def ann_record_Read : List (Nat × List Nat) := [(5, [1, 2, 4, 0, 3]), (10, [0, 1, 2, 5, 6, 7, 3, 4, 8, 9, 10]), (1000006, [5, 24]), (2000005, [2]), (2000010, [1]), (3005000, [2]), (3010003, [1])]
theorem E_record_Read (x_p0 : Value) (w : World) (R : Value → World → Prop) : M_record_Read x_p0 w R = den PR ann_record_Read (bodyOf Tryz.f76) (retQ PR Tryz.f76.results.toList R) (env0 [x_p0]) w := by kernel_rfl
theorem C_record_Read {x_p0 : Value} {w : World} {R : Value → World → Prop} (h : M_record_Read x_p0 w R) : CALL PR F_record_Read [x_p0] w R :=
  call_of_den2 ann_record_Read Tryz.func76 (by kernel_rfl) (by kernel_rfl) (by kernel_rfl) ((E_record_Read x_p0 w R) ▸ h)
-- 77 tumbrel.tumbrelref04.All
def M_tumbrelref04_All (b_p0 : Value) (w : World) (R : Value → World → Prop) : Prop :=
  BND (newslice 123 #[(Value.int .u8 0), (Value.slice none 0 0)] 2 0 [] w) fun p_ => NEW p_ fun t10_1 w1 =>
  ∃ (J_2 : Value → Value → World → Prop) (m_2 : Value → Value → World → Nat), J_2 t10_1 (Value.int .i64 0) w1 ∧ ∀ (_d_2 : Env) (out_6 at_7 : Value) (w2 : World), J_2 out_6 at_7 w2 →
  (BND (lenl b_p0) fun t13_35 =>
  BND (binv .int .lss at_7 t13_35) fun t14_36 =>
  COND t14_36
  (BND (slicev 1 b_p0 (some at_7) none) fun t18_37 =>
  CALL PR F_tumbrelref04_Read [t18_37] w2 fun t19_38 w3 =>
  BND (extractv t19_38 0) fun t20_39 =>
  BND (extractv t19_38 1) fun t21_40 =>
  BND (extractv t19_38 2) fun t22_41 =>
  NEW (newv 123 w3 (Value.agg #[(Value.int .u8 0), (Value.slice none 0 0)])) fun x_42 w4 =>
  BND (storev 2 w4 x_42 t20_39) fun w5 =>
  BND (binv .int .neq t22_41 (Value.int .i64 0)) fun t24_43 =>
  COND t24_43
  (R (.tuple #[out_6, at_7, t22_41]) w5)
  (BND (loadn 2 w5 x_42) fun t29_44 =>
  BND (newslice 123 #[(Value.int .u8 0), (Value.slice none 0 0)] 2 1 [(0, 2, t29_44)] w5) fun p_ => NEW p_ fun t30_45 w6 =>
  APPEND 123 2 32 (Value.agg #[(Value.int .u8 0), (Value.slice none 0 0)]) out_6 t30_45 w6 fun t31_46 w7 =>
  BND (binv .int .add at_7 t21_40) fun t34_47 =>
  (J_2 t31_46 t34_47 w7 ∧ m_2 t31_46 t34_47 w7 < m_2 out_6 at_7 w2)))
  (R (.tuple #[out_6, at_7, (Value.int .i64 0)]) w2))
def ann_tumbrelref04_All : List (Nat × List Nat) := [(1000003, [5, 6])]
theorem E_tumbrelref04_All (b_p0 : Value) (w : World) (R : Value → World → Prop) : M_tumbrelref04_All b_p0 w R = den PR ann_tumbrelref04_All (bodyOf Tryz.f77) (retQ PR Tryz.f77.results.toList R) (env0 [b_p0]) w := by kernel_rfl
theorem C_tumbrelref04_All {b_p0 : Value} {w : World} {R : Value → World → Prop} (h : M_tumbrelref04_All b_p0 w R) : CALL PR F_tumbrelref04_All [b_p0] w R :=
  call_of_den2 ann_tumbrelref04_All Tryz.func77 (by kernel_rfl) (by kernel_rfl) (by kernel_rfl) ((E_tumbrelref04_All b_p0 w R) ▸ h)
-- 78 tumbrel.tumbrelref05.Read
def M_tumbrelref05_Read (x_p0 : Value) (w : World) (R : Value → World → Prop) : Prop :=
  NEW (newv 123 w x_p0) fun x_1 w1 =>
  NEW (newv 82 w1 (Value.agg #[(Value.int .i64 0), (Value.slice none 0 0), (Value.string ByteArray.empty)])) fun t2_2 w2 =>
  BND (faddr 0 x_1) fun t11_3 =>
  BND (load1 w2 t11_3) fun t12_4 =>
  BND (convi .i64 t12_4) fun t13_5 =>
  CALL PR F_tumbrelref05_many [t13_5] w2 fun t14_6 w3 =>
  BND (binv .int .lss t14_6 (Value.int .i64 0)) fun t16_7 =>
  COND t16_7
  (BND (buildv #[(Value.int .i64 0), (Value.slice none 0 0), (Value.string ByteArray.empty)] []) fun t17_8 =>
  BND (storev 3 w3 t2_2 t17_8) fun w4 =>
  BND (loadn 3 w4 t2_2) fun r_9 =>
  R (.tuple #[r_9, (Value.int .i64 2)]) w4)
  (BND (faddr 0 x_1) fun t18_10 =>
  BND (load1 w3 t18_10) fun t19_11 =>
  BND (convi .i64 t19_11) fun t20_12 =>
  BND (buildv #[(Value.int .i64 0), (Value.slice none 0 0), (Value.string ByteArray.empty)] [(0, 1, t20_12)]) fun t21_13 =>
  NEW (newv 82 w3 (Value.agg #[(Value.int .i64 0), (Value.slice none 0 0), (Value.string ByteArray.empty)])) fun r_14 w5 =>
  BND (storev 3 w5 r_14 t21_13) fun w6 =>
  ∃ (J_15 : Value → Value → World → Prop) (m_15 : Value → Value → World → Nat), J_15 (Value.int .i64 0) (Value.int .i64 0) w6 ∧ ∀ (_d_15 : Env) (at_17 i_18 : Value) (w7 : World), J_15 at_17 i_18 w7 →
  (BND (binv .int .lss i_18 t14_6) fun t24_49 =>
  COND t24_49
  (BND (faddr 1 x_1) fun t28_50 =>
  BND (load1 w7 t28_50) fun t29_51 =>
  BND (slicev 1 t29_51 (some at_17) none) fun t31_52 =>
  CALL PR F_tumbrelref02_Get [t31_52] w7 fun t32_53 w8 =>
  BND (extractv t32_53 0) fun t33_54 =>
  BND (extractv t32_53 1) fun t34_55 =>
  BND (extractv t32_53 2) fun t35_56 =>
  BND (binv .int .neq t35_56 (Value.int .i64 0)) fun t37_57 =>
  COND t37_57
  (BND (buildv #[(Value.int .i64 0), (Value.slice none 0 0), (Value.string ByteArray.empty)] []) fun t38_58 =>
  BND (storev 3 w8 t2_2 t38_58) fun w9 =>
  BND (loadn 3 w9 t2_2) fun r_59 =>
  R (.tuple #[r_59, t35_56]) w9)
  (BND (faddr 1 r_14) fun t40_60 =>
  BND (load1 w8 t40_60) fun t41_61 =>
  BND (newslice 31 #[(Value.int .u64 0)] 1 1 [(0, 1, t33_54)] w8) fun p_ => NEW p_ fun t43_62 w10 =>
  APPEND 31 1 8 (Value.int .u64 0) t41_61 t43_62 w10 fun t44_63 w11 =>
  BND (faddr 1 r_14) fun t45_64 =>
  BND (storev 1 w11 t45_64 t44_63) fun w12 =>
  BND (binv .int .add at_17 t34_55) fun t48_65 =>
  BND (binv .int .add i_18 (Value.int .i64 1)) fun t26_66 =>
  (J_15 t48_65 t26_66 w12 ∧ m_15 t48_65 t26_66 w12 < m_15 at_17 i_18 w7)))
  (BND (faddr 0 r_14) fun t49_67 =>
  BND (load1 w7 t49_67) fun t50_68 =>
  BND (faddr 1 x_1) fun t51_69 =>
  BND (load1 w7 t51_69) fun t52_70 =>
  BND (lenl t52_70) fun t53_71 =>
  BND (binv .int .sub t53_71 at_17) fun t55_72 =>
  CALL PR F_tumbrelref05_texts [t50_68, t55_72] w7 fun t56_73 w13 =>
  BND (unv .not t56_73) fun t57_74 =>
  COND t57_74
  (BND (buildv #[(Value.int .i64 0), (Value.slice none 0 0), (Value.string ByteArray.empty)] []) fun t58_75 =>
  BND (storev 3 w13 t2_2 t58_75) fun w14 =>
  BND (loadn 3 w14 t2_2) fun r_76 =>
  R (.tuple #[r_76, (Value.int .i64 2)]) w14)
  (BND (faddr 1 x_1) fun t59_77 =>
  BND (load1 w13 t59_77) fun t60_78 =>
  BND (slicev 1 t60_78 (some at_17) none) fun t62_79 =>
  BND (textv .u8 textOfBytes w13 t62_79) fun t63_80 =>
  BND (faddr 2 r_14) fun t64_81 =>
  BND (storev 1 w13 t64_81 t63_80) fun w15 =>
  BND (loadn 3 w15 r_14) fun t65_82 =>
  BND (storev 3 w15 t2_2 t65_82) fun w16 =>
  BND (loadn 3 w16 t2_2) fun r_83 =>
  R (.tuple #[r_83, (Value.int .i64 0)]) w16))))
def ann_tumbrelref05_Read : List (Nat × List Nat) := [(1000007, [6, 7])]
theorem E_tumbrelref05_Read (x_p0 : Value) (w : World) (R : Value → World → Prop) : M_tumbrelref05_Read x_p0 w R = den PR ann_tumbrelref05_Read (bodyOf Tryz.f78) (retQ PR Tryz.f78.results.toList R) (env0 [x_p0]) w := by kernel_rfl
theorem C_tumbrelref05_Read {x_p0 : Value} {w : World} {R : Value → World → Prop} (h : M_tumbrelref05_Read x_p0 w R) : CALL PR F_tumbrelref05_Read [x_p0] w R :=
  call_of_den2 ann_tumbrelref05_Read Tryz.func78 (by kernel_rfl) (by kernel_rfl) (by kernel_rfl) ((E_tumbrelref05_Read x_p0 w R) ▸ h)
-- 83 slices.Index[[]*tumbrel.disk.file,*tumbrel.disk.file]
def M_slices_Index_disk_file_disk_file (s_p0 v_p1 : Value) (w : World) (R : Value → World → Prop) : Prop :=
  BND (lenl s_p0) fun t7_1 =>
  ∃ (J_2 : Value → World → Prop) (m_2 : Value → World → Nat), J_2 (Value.int .i64 0) w ∧ ∀ (_d_2 : Env) (t8_5 : Value) (w1 : World), J_2 t8_5 w1 →
  (BND (binv .int .lss t8_5 t7_1) fun t9_16 =>
  COND t9_16
  (BND (iaddr 1 s_p0 t8_5) fun t14_17 =>
  BND (load1 w1 t14_17) fun t15_18 =>
  BND (ptrv w1 .eql v_p1 t15_18) fun t16_19 =>
  COND t16_19
  (R t8_5 w1)
  (BND (binv .int .add t8_5 (Value.int .i64 1)) fun t18_20 =>
  (J_2 t18_20 w1 ∧ m_2 t18_20 w1 < m_2 t8_5 w1)))
  (R (Value.int .i64 (-1)) w1))
def ann_slices_Index_disk_file_disk_file : List (Nat × List Nat) := [(1000002, [8])]
theorem E_slices_Index_disk_file_disk_file (s_p0 v_p1 : Value) (w : World) (R : Value → World → Prop) : M_slices_Index_disk_file_disk_file s_p0 v_p1 w R = den PR ann_slices_Index_disk_file_disk_file (bodyOf Tryz.f83) (retQ PR Tryz.f83.results.toList R) (env0 [s_p0, v_p1]) w := by kernel_rfl
theorem C_slices_Index_disk_file_disk_file {s_p0 v_p1 : Value} {w : World} {R : Value → World → Prop} (h : M_slices_Index_disk_file_disk_file s_p0 v_p1 w R) : CALL PR F_slices_Index_disk_file_disk_file [s_p0, v_p1] w R :=
  call_of_den2 ann_slices_Index_disk_file_disk_file Tryz.func83 (by kernel_rfl) (by kernel_rfl) (by kernel_rfl) ((E_slices_Index_disk_file_disk_file s_p0 v_p1 w R) ▸ h)
-- 84 tumbrel.record.known
def M_record_known (kind_p0 : Value) (w : World) (R : Value → World → Prop) : Prop :=
  BND (binv .int .geq kind_p0 (Value.int .i64 1)) fun t4_1 =>
  BND (grd (isB t4_1 true) (some kind_p0)) fun t6_2 =>
  BND (grd (isB t4_1 true) (binv .int .leq t6_2 (Value.int .i64 17))) fun t7_3 =>
  BND (pickv t4_1 t7_3 (Value.bool false)) fun t8_4 =>
  R t8_4 w
def ann_record_known : List (Nat × List Nat) := []
theorem E_record_known (kind_p0 : Value) (w : World) (R : Value → World → Prop) : M_record_known kind_p0 w R = den PR ann_record_known (bodyOf Tryz.f84) (retQ PR Tryz.f84.results.toList R) (env0 [kind_p0]) w := by kernel_rfl
theorem C_record_known {kind_p0 : Value} {w : World} {R : Value → World → Prop} (h : M_record_known kind_p0 w R) : CALL PR F_record_known [kind_p0] w R :=
  call_of_den2 ann_record_known Tryz.func84 (by kernel_rfl) (by kernel_rfl) (by kernel_rfl) ((E_record_known kind_p0 w R) ▸ h)
-- 85 tumbrel.record.numbers
def M_record_numbers (w : World) (R : Value → World → Prop) : Prop :=
  NEW (newv 140 w (Value.agg #[(Value.int .i64 0), (Value.int .i64 0), (Value.int .i64 0), (Value.int .i64 0), (Value.int .i64 0), (Value.int .i64 0), (Value.int .i64 0), (Value.int .i64 0), (Value.int .i64 0), (Value.int .i64 0), (Value.int .i64 0), (Value.int .i64 0), (Value.int .i64 0), (Value.int .i64 0), (Value.int .i64 0), (Value.int .i64 0), (Value.int .i64 0), (Value.int .i64 0)])) fun t0_1 w1 =>
  BND (buildv #[(Value.int .i64 0), (Value.int .i64 0), (Value.int .i64 0), (Value.int .i64 0), (Value.int .i64 0), (Value.int .i64 0), (Value.int .i64 0), (Value.int .i64 0), (Value.int .i64 0), (Value.int .i64 0), (Value.int .i64 0), (Value.int .i64 0), (Value.int .i64 0), (Value.int .i64 0), (Value.int .i64 0), (Value.int .i64 0), (Value.int .i64 0), (Value.int .i64 0)] [(2, 1, (Value.int .i64 5)), (3, 1, (Value.int .i64 2)), (4, 1, (Value.int .i64 1)), (5, 1, (Value.int .i64 2)), (6, 1, (Value.int .i64 2)), (7, 1, (Value.int .i64 1)), (8, 1, (Value.int .i64 1)), (9, 1, (Value.int .i64 1)), (10, 1, (Value.int .i64 1)), (11, 1, (Value.int .i64 1)), (12, 1, (Value.int .i64 5)), (13, 1, (Value.int .i64 7)), (14, 1, (Value.int .i64 10)), (15, 1, (Value.int .i64 2)), (16, 1, (Value.int .i64 1)), (17, 1, (Value.int .i64 1))]) fun t1_2 =>
  BND (storev 18 w1 t0_1 t1_2) fun w2 =>
  BND (loadn 18 w2 t0_1) fun r_3 =>
  R r_3 w2
def ann_record_numbers : List (Nat × List Nat) := []
theorem E_record_numbers (w : World) (R : Value → World → Prop) : M_record_numbers w R = den PR ann_record_numbers (bodyOf Tryz.f85) (retQ PR Tryz.f85.results.toList R) (env0 []) w := by kernel_rfl
theorem C_record_numbers {w : World} {R : Value → World → Prop} (h : M_record_numbers w R) : CALL PR F_record_numbers [] w R :=
  call_of_den2 ann_record_numbers Tryz.func85 (by kernel_rfl) (by kernel_rfl) (by kernel_rfl) ((E_record_numbers w R) ▸ h)
-- 86 tumbrel.record.fits
def M_record_fits (kind_p0 many_p1 : Value) (w : World) (R : Value → World → Prop) : Prop :=
  BND (binv .int .eql many_p1 (Value.int .i64 0)) fun t6_1 =>
  BND (grd (isB t6_1 false) (some kind_p0)) fun t8_2 =>
  GEF (isB t6_1 false) (fun k_ => CALL PR F_record_worded [t8_2] w k_) w fun t9_3 w1 =>
  BND (grd (isB t6_1 false) (some t9_3)) fun t10_4 =>
  BND (grd (isB t10_4 true) (some many_p1)) fun t11_5 =>
  BND (grd (isB t10_4 true) (binv .int .leq t11_5 (Value.int .i64 64))) fun t12_6 =>
  BND (grd (isB t6_1 false) (pickv t10_4 t12_6 (Value.bool false))) fun t13_7 =>
  BND (pickv t6_1 (Value.bool true) t13_7) fun t14_8 =>
  R t14_8 w1
def ann_record_fits : List (Nat × List Nat) := []
theorem E_record_fits (kind_p0 many_p1 : Value) (w : World) (R : Value → World → Prop) : M_record_fits kind_p0 many_p1 w R = den PR ann_record_fits (bodyOf Tryz.f86) (retQ PR Tryz.f86.results.toList R) (env0 [kind_p0, many_p1]) w := by kernel_rfl
theorem C_record_fits {kind_p0 many_p1 : Value} {w : World} {R : Value → World → Prop} (h : M_record_fits kind_p0 many_p1 w R) : CALL PR F_record_fits [kind_p0, many_p1] w R :=
  call_of_den2 ann_record_fits Tryz.func86 (by kernel_rfl) (by kernel_rfl) (by kernel_rfl) ((E_record_fits kind_p0 many_p1 w R) ▸ h)
-- 87 tumbrel.frame.low[int]
def M_frame_low_int (n_p0 : Value) (w : World) (R : Value → World → Prop) : Prop :=
  BND (binv .int .and n_p0 (Value.int .i64 255)) fun t5_1 =>
  BND (convi .u8 t5_1) fun t6_2 =>
  BND (shiftv .shr n_p0 (Value.int .u64 8)) fun t8_3 =>
  R (.tuple #[t6_2, t8_3]) w
def ann_frame_low_int : List (Nat × List Nat) := []
theorem E_frame_low_int (n_p0 : Value) (w : World) (R : Value → World → Prop) : M_frame_low_int n_p0 w R = den PR ann_frame_low_int (bodyOf Tryz.f87) (retQ PR Tryz.f87.results.toList R) (env0 [n_p0]) w := by kernel_rfl
theorem C_frame_low_int {n_p0 : Value} {w : World} {R : Value → World → Prop} (h : M_frame_low_int n_p0 w R) : CALL PR F_frame_low_int [n_p0] w R :=
  call_of_den2 ann_frame_low_int Tryz.func87 (by kernel_rfl) (by kernel_rfl) (by kernel_rfl) ((E_frame_low_int n_p0 w R) ▸ h)
-- 88 tumbrel.sum.Put
def M_sum_Put (b_p0 : Value) (w : World) (R : Value → World → Prop) : Prop :=
  CALL PR F_sum_Of [b_p0] w fun t5_1 w1 =>
  CALL PR F_sum_four [t5_1] w1 fun t6_2 w2 =>
  BND (newslice 37 #[(Value.slice none 0 0)] 1 2 [(0, 1, b_p0), (1, 1, t6_2)] w2) fun p_ => NEW p_ fun t7_3 w3 =>
  CALL PR F_slices_Concat_byte_byte [t7_3] w3 fun t8_4 w4 =>
  R t8_4 w4
def ann_sum_Put : List (Nat × List Nat) := []
theorem E_sum_Put (b_p0 : Value) (w : World) (R : Value → World → Prop) : M_sum_Put b_p0 w R = den PR ann_sum_Put (bodyOf Tryz.f88) (retQ PR Tryz.f88.results.toList R) (env0 [b_p0]) w := by kernel_rfl
theorem C_sum_Put {b_p0 : Value} {w : World} {R : Value → World → Prop} (h : M_sum_Put b_p0 w R) : CALL PR F_sum_Put [b_p0] w R :=
  call_of_den2 ann_sum_Put Tryz.func88 (by kernel_rfl) (by kernel_rfl) (by kernel_rfl) ((E_sum_Put b_p0 w R) ▸ h)
-- 89 tumbrel.vint.Put
def M_vint_Put (n_p0 : Value) (w : World) (R : Value → World → Prop) : Prop :=
  NEW (newv 162 w (Value.agg #[(Value.int .u8 0), (Value.int .u8 0), (Value.int .u8 0), (Value.int .u8 0), (Value.int .u8 0), (Value.int .u8 0), (Value.int .u8 0), (Value.int .u8 0), (Value.int .u8 0), (Value.int .u8 0)])) fun b_1 w1 =>
  CALL PR F_vint_lay [b_1, n_p0] w1 fun t6_2 w2 =>
  BND (slicea 10 1 b_1 none (some t6_2) (some t6_2)) fun t9_3 =>
  R t9_3 w2
def ann_vint_Put : List (Nat × List Nat) := []
theorem E_vint_Put (n_p0 : Value) (w : World) (R : Value → World → Prop) : M_vint_Put n_p0 w R = den PR ann_vint_Put (bodyOf Tryz.f89) (retQ PR Tryz.f89.results.toList R) (env0 [n_p0]) w := by kernel_rfl
theorem C_vint_Put {n_p0 : Value} {w : World} {R : Value → World → Prop} (h : M_vint_Put n_p0 w R) : CALL PR F_vint_Put [n_p0] w R :=
  call_of_den2 ann_vint_Put Tryz.func89 (by kernel_rfl) (by kernel_rfl) (by kernel_rfl) ((E_vint_Put n_p0 w R) ▸ h)
-- 90 tumbrel.tumbrelref05.many
def M_tumbrelref05_many (kind_p0 : Value) (w : World) (R : Value → World → Prop) : Prop :=
  BND (newslice 3 #[(Value.int .i64 0)] 1 18 [(0, 1, (Value.int .i64 (-1))), (1, 1, (Value.int .i64 0)), (2, 1, (Value.int .i64 5)), (3, 1, (Value.int .i64 2)), (4, 1, (Value.int .i64 1)), (5, 1, (Value.int .i64 2)), (6, 1, (Value.int .i64 2)), (7, 1, (Value.int .i64 1)), (8, 1, (Value.int .i64 1)), (9, 1, (Value.int .i64 1)), (10, 1, (Value.int .i64 1)), (11, 1, (Value.int .i64 1)), (12, 1, (Value.int .i64 5)), (13, 1, (Value.int .i64 7)), (14, 1, (Value.int .i64 10)), (15, 1, (Value.int .i64 2)), (16, 1, (Value.int .i64 1)), (17, 1, (Value.int .i64 1))] w) fun p_ => NEW p_ fun t4_1 w1 =>
  BND (binv .int .lss kind_p0 (Value.int .i64 0)) fun t6_2 =>
  BND (grd (isB t6_2 false) (some kind_p0)) fun t8_3 =>
  BND (grd (isB t6_2 false) (binv .int .gtr t8_3 (Value.int .i64 17))) fun t9_4 =>
  BND (pickv t6_2 (Value.bool true) t9_4) fun t10_5 =>
  COND t10_5
  (R (Value.int .i64 (-1)) w1)
  (BND (iaddr 1 t4_1 kind_p0) fun t13_6 =>
  BND (load1 w1 t13_6) fun t14_7 =>
  R t14_7 w1)
def ann_tumbrelref05_many : List (Nat × List Nat) := []
theorem E_tumbrelref05_many (kind_p0 : Value) (w : World) (R : Value → World → Prop) : M_tumbrelref05_many kind_p0 w R = den PR ann_tumbrelref05_many (bodyOf Tryz.f90) (retQ PR Tryz.f90.results.toList R) (env0 [kind_p0]) w := by kernel_rfl
theorem C_tumbrelref05_many {kind_p0 : Value} {w : World} {R : Value → World → Prop} (h : M_tumbrelref05_many kind_p0 w R) : CALL PR F_tumbrelref05_many [kind_p0] w R :=
  call_of_den2 ann_tumbrelref05_many Tryz.func90 (by kernel_rfl) (by kernel_rfl) (by kernel_rfl) ((E_tumbrelref05_many kind_p0 w R) ▸ h)
-- 91 tumbrel.tumbrelref05.texts
def M_tumbrelref05_texts (kind_p0 n_p1 : Value) (w : World) (R : Value → World → Prop) : Prop :=
  BND (binv .int .eql kind_p0 (Value.int .i64 10)) fun t6_1 =>
  BND (grd (isB t6_1 false) (some kind_p0)) fun t8_2 =>
  BND (grd (isB t6_1 false) (binv .int .eql t8_2 (Value.int .i64 11))) fun t9_3 =>
  BND (pickv t6_1 (Value.bool true) t9_3) fun t10_4 =>
  BND (grd (isB t10_4 false) (some kind_p0)) fun t12_5 =>
  BND (grd (isB t10_4 false) (binv .int .eql t12_5 (Value.int .i64 16))) fun t13_6 =>
  BND (pickv t10_4 (Value.bool true) t13_6) fun t14_7 =>
  COND t14_7
  (BND (binv .int .leq n_p1 (Value.int .i64 64)) fun t16_8 =>
  R t16_8 w)
  (BND (binv .int .eql n_p1 (Value.int .i64 0)) fun t18_9 =>
  R t18_9 w)
def ann_tumbrelref05_texts : List (Nat × List Nat) := []
theorem E_tumbrelref05_texts (kind_p0 n_p1 : Value) (w : World) (R : Value → World → Prop) : M_tumbrelref05_texts kind_p0 n_p1 w R = den PR ann_tumbrelref05_texts (bodyOf Tryz.f91) (retQ PR Tryz.f91.results.toList R) (env0 [kind_p0, n_p1]) w := by kernel_rfl
theorem C_tumbrelref05_texts {kind_p0 n_p1 : Value} {w : World} {R : Value → World → Prop} (h : M_tumbrelref05_texts kind_p0 n_p1 w R) : CALL PR F_tumbrelref05_texts [kind_p0, n_p1] w R :=
  call_of_den2 ann_tumbrelref05_texts Tryz.func91 (by kernel_rfl) (by kernel_rfl) (by kernel_rfl) ((E_tumbrelref05_texts kind_p0 n_p1 w R) ▸ h)
-- 92 tumbrel.tumbrelref01.Put
def M_tumbrelref01_Put (b_p0 : Value) (w : World) (R : Value → World → Prop) : Prop :=
  BND (newslice 5 #[(Value.int .u8 0)] 1 0 [] w) fun p_ => NEW p_ fun t3_1 w1 =>
  APPEND 5 1 1 (Value.int .u8 0) t3_1 b_p0 w1 fun t5_2 w2 =>
  CALL PR F_tumbrelref01_Of [b_p0] w2 fun t7_3 w3 =>
  CALL PR F_tumbrelref01_Four [t7_3] w3 fun t8_4 w4 =>
  APPEND 5 1 1 (Value.int .u8 0) t5_2 t8_4 w4 fun t9_5 w5 =>
  R t9_5 w5
def ann_tumbrelref01_Put : List (Nat × List Nat) := []
theorem E_tumbrelref01_Put (b_p0 : Value) (w : World) (R : Value → World → Prop) : M_tumbrelref01_Put b_p0 w R = den PR ann_tumbrelref01_Put (bodyOf Tryz.f92) (retQ PR Tryz.f92.results.toList R) (env0 [b_p0]) w := by kernel_rfl
theorem C_tumbrelref01_Put {b_p0 : Value} {w : World} {R : Value → World → Prop} (h : M_tumbrelref01_Put b_p0 w R) : CALL PR F_tumbrelref01_Put [b_p0] w R :=
  call_of_den2 ann_tumbrelref01_Put Tryz.func92 (by kernel_rfl) (by kernel_rfl) (by kernel_rfl) ((E_tumbrelref01_Put b_p0 w R) ▸ h)
-- 93 tumbrel.tumbrelref02.Put
def M_tumbrelref02_Put (n_p0 : Value) (w : World) (R : Value → World → Prop) : Prop :=
  BND (binv .int .lss n_p0 (Value.int .u64 128)) fun t4_1 =>
  COND t4_1
  (BND (convi .u8 n_p0) fun t6_2 =>
  BND (newslice 5 #[(Value.int .u8 0)] 1 1 [(0, 1, t6_2)] w) fun p_ => NEW p_ fun t7_3 w1 =>
  R t7_3 w1)
  (BND (binv .int .rem n_p0 (Value.int .u64 128)) fun t9_4 =>
  BND (binv .int .add (Value.int .u64 128) t9_4) fun t10_5 =>
  BND (convi .u8 t10_5) fun t11_6 =>
  BND (newslice 5 #[(Value.int .u8 0)] 1 1 [(0, 1, t11_6)] w) fun p_ => NEW p_ fun t12_7 w2 =>
  BND (binv .int .quo n_p0 (Value.int .u64 128)) fun t14_8 =>
  CALL PR F_tumbrelref02_Put [t14_8] w2 fun t15_9 w3 =>
  APPEND 5 1 1 (Value.int .u8 0) t12_7 t15_9 w3 fun t16_10 w4 =>
  R t16_10 w4)
def ann_tumbrelref02_Put : List (Nat × List Nat) := []
theorem E_tumbrelref02_Put (n_p0 : Value) (w : World) (R : Value → World → Prop) : M_tumbrelref02_Put n_p0 w R = den PR ann_tumbrelref02_Put (bodyOf Tryz.f93) (retQ PR Tryz.f93.results.toList R) (env0 [n_p0]) w := by kernel_rfl
theorem C_tumbrelref02_Put {n_p0 : Value} {w : World} {R : Value → World → Prop} (h : M_tumbrelref02_Put n_p0 w R) : CALL PR F_tumbrelref02_Put [n_p0] w R :=
  call_of_den2 ann_tumbrelref02_Put Tryz.func93 (by kernel_rfl) (by kernel_rfl) (by kernel_rfl) ((E_tumbrelref02_Put n_p0 w R) ▸ h)
-- 94 tumbrel.frame.Read
def M_frame_Read (b_p0 : Value) (w : World) (R : Value → World → Prop) : Prop :=
  NEW (newv 117 w (Value.agg #[(Value.int .u8 0), (Value.slice none 0 0)])) fun t2_1 w1 =>
  BND (lenl b_p0) fun t11_2 =>
  BND (binv .int .lss t11_2 (Value.int .i64 7)) fun t12_3 =>
  COND t12_3
  (BND (buildv #[(Value.int .u8 0), (Value.slice none 0 0)] []) fun t13_4 =>
  BND (storev 2 w1 t2_1 t13_4) fun w2 =>
  BND (loadn 2 w2 t2_1) fun r_5 =>
  R (.tuple #[r_5, (Value.int .i64 0), (Value.int .i64 3)]) w2)
  (BND (slicev 1 b_p0 none (some (Value.int .i64 7))) fun t16_6 =>
  CALL PR F_sum_Cut [t16_6] w1 fun t17_7 w3 =>
  BND (extractv t17_7 0) fun t18_8 =>
  BND (extractv t17_7 1) fun t19_9 =>
  BND (unv .not t19_9) fun t21_10 =>
  COND t21_10
  (BND (buildv #[(Value.int .u8 0), (Value.slice none 0 0)] []) fun t22_11 =>
  BND (storev 2 w3 t2_1 t22_11) fun w4 =>
  BND (loadn 2 w4 t2_1) fun r_12 =>
  R (.tuple #[r_12, (Value.int .i64 0), (Value.int .i64 8)]) w4)
  (BND (iaddr 1 t18_8 (Value.int .i64 1)) fun t24_13 =>
  BND (iaddr 1 t18_8 (Value.int .i64 2)) fun t28_14 =>
  BND (load1 w3.drew t24_13) fun t25_15 =>
  BND (convi .i64 t25_15) fun t26_16 =>
  BND (load1 w3.drew t28_14) fun t29_17 =>
  BND (convi .i64 t29_17) fun t30_18 =>
  BND (shiftv .shl t30_18 (Value.int .u64 8)) fun t31_19 =>
  BND (binv .int .or t26_16 t31_19) fun t32_20 =>
  BND (binv .int .add (Value.int .i64 7) t32_20) fun t34_21 =>
  BND (binv .int .add t34_21 (Value.int .i64 4)) fun t35_22 =>
  BND (binv .int .gtr t32_20 (Value.int .i64 400)) fun t38_23 =>
  COND t38_23
  (BND (buildv #[(Value.int .u8 0), (Value.slice none 0 0)] []) fun t39_24 =>
  BND (storev 2 w3.drew t2_1 t39_24) fun w5 =>
  BND (loadn 2 w5 t2_1) fun r_25 =>
  R (.tuple #[r_25, (Value.int .i64 0), (Value.int .i64 2)]) w5)
  (BND (lenl b_p0) fun t42_26 =>
  BND (binv .int .lss t42_26 t35_22) fun t44_27 =>
  COND t44_27
  (BND (buildv #[(Value.int .u8 0), (Value.slice none 0 0)] []) fun t45_28 =>
  BND (storev 2 w3.drew t2_1 t45_28) fun w6 =>
  BND (loadn 2 w6 t2_1) fun r_29 =>
  R (.tuple #[r_29, (Value.int .i64 0), (Value.int .i64 3)]) w6)
  (BND (slicev 1 b_p0 (some (Value.int .i64 7)) (some t35_22)) fun t49_30 =>
  CALL PR F_sum_Cut [t49_30] w3.drew fun t50_31 w7 =>
  BND (extractv t50_31 0) fun t51_32 =>
  BND (extractv t50_31 1) fun t52_33 =>
  BND (unv .not t52_33) fun t54_34 =>
  COND t54_34
  (BND (buildv #[(Value.int .u8 0), (Value.slice none 0 0)] []) fun t55_35 =>
  BND (storev 2 w7 t2_1 t55_35) fun w8 =>
  BND (loadn 2 w8 t2_1) fun r_36 =>
  R (.tuple #[r_36, (Value.int .i64 0), (Value.int .i64 8)]) w8)
  (BND (iaddr 1 t18_8 (Value.int .i64 0)) fun t57_37 =>
  BND (load1 w7 t57_37) fun t58_38 =>
  BND (buildv #[(Value.int .u8 0), (Value.slice none 0 0)] [(0, 1, t58_38), (1, 1, t51_32)]) fun t60_39 =>
  BND (storev 2 w7 t2_1 t60_39) fun w9 =>
  BND (loadn 2 w9 t2_1) fun r_40 =>
  R (.tuple #[r_40, t35_22, (Value.int .i64 0)]) w9)))))
def ann_frame_Read : List (Nat × List Nat) := [(6, [0, 1, 4, 5, 2, 3, 6, 7, 8, 9, 10])]
theorem E_frame_Read (b_p0 : Value) (w : World) (R : Value → World → Prop) : M_frame_Read b_p0 w R = den PR ann_frame_Read (bodyOf Tryz.f94) (retQ PR Tryz.f94.results.toList R) (env0 [b_p0]) w := by kernel_rfl
theorem C_frame_Read {b_p0 : Value} {w : World} {R : Value → World → Prop} (h : M_frame_Read b_p0 w R) : CALL PR F_frame_Read [b_p0] w R :=
  call_of_den2 ann_frame_Read Tryz.func94 (by kernel_rfl) (by kernel_rfl) (by kernel_rfl) ((E_frame_Read b_p0 w R) ▸ h)
-- 95 tumbrel.vint.Get
def M_vint_Get (b_p0 : Value) (w : World) (R : Value → World → Prop) : Prop :=
  BND (lenl b_p0) fun t9_1 =>
  ∃ (J_2 : Value → Value → World → Prop) (m_2 : Value → Value → World → Nat), J_2 (Value.int .u64 0) (Value.int .i64 0) w ∧ ∀ (_d_2 : Env) (n_6 t10_9 : Value) (w1 : World), J_2 n_6 t10_9 w1 →
  (BND (binv .int .lss t10_9 t9_1) fun t11_40 =>
  COND t11_40
  (BND (iaddr 1 b_p0 t10_9) fun t13_41 =>
  BND (load1 w1 t13_41) fun t14_42 =>
  BND (binv .int .eql t10_9 (Value.int .i64 9)) fun t16_43 =>
  BND (grd (isB t16_43 true) (some t14_42)) fun t18_44 =>
  BND (grd (isB t16_43 true) (binv .int .gtr t18_44 (Value.int .u8 1))) fun t19_45 =>
  BND (pickv t16_43 t19_45 (Value.bool false)) fun t20_46 =>
  COND t20_46
  (R (.tuple #[(Value.int .u64 0), (Value.int .i64 0), (Value.int .i64 2)]) w1)
  (BND (binv .int .rem t14_42 (Value.int .u8 128)) fun t23_47 =>
  BND (convi .u64 t23_47) fun t24_48 =>
  BND (binv .int .mul (Value.int .i64 7) t10_9) fun t26_49 =>
  BND (shiftv .shl t24_48 t26_49) fun t27_50 =>
  BND (binv .int .or n_6 t27_50) fun t28_51 =>
  BND (binv .int .geq t14_42 (Value.int .u8 128)) fun t30_52 =>
  COND t30_52
  (BND (binv .int .add t10_9 (Value.int .i64 1)) fun t40_53 =>
  (J_2 t28_51 t40_53 w1 ∧ m_2 t28_51 t40_53 w1 < m_2 n_6 t10_9 w1))
  (BND (binv .int .eql t14_42 (Value.int .u8 0)) fun t32_54 =>
  BND (grd (isB t32_54 true) (some t10_9)) fun t34_55 =>
  BND (grd (isB t32_54 true) (binv .int .gtr t34_55 (Value.int .i64 0))) fun t35_56 =>
  BND (pickv t32_54 t35_56 (Value.bool false)) fun t36_57 =>
  COND t36_57
  (R (.tuple #[(Value.int .u64 0), (Value.int .i64 0), (Value.int .i64 2)]) w1)
  (BND (binv .int .add t10_9 (Value.int .i64 1)) fun t39_58 =>
  R (.tuple #[t28_51, t39_58, (Value.int .i64 0)]) w1))))
  (R (.tuple #[(Value.int .u64 0), (Value.int .i64 0), (Value.int .i64 3)]) w1))
def ann_vint_Get : List (Nat × List Nat) := [(1000003, [5, 10])]
theorem E_vint_Get (b_p0 : Value) (w : World) (R : Value → World → Prop) : M_vint_Get b_p0 w R = den PR ann_vint_Get (bodyOf Tryz.f95) (retQ PR Tryz.f95.results.toList R) (env0 [b_p0]) w := by kernel_rfl
theorem C_vint_Get {b_p0 : Value} {w : World} {R : Value → World → Prop} (h : M_vint_Get b_p0 w R) : CALL PR F_vint_Get [b_p0] w R :=
  call_of_den2 ann_vint_Get Tryz.func95 (by kernel_rfl) (by kernel_rfl) (by kernel_rfl) ((E_vint_Get b_p0 w R) ▸ h)
-- 96 tumbrel.tumbrelref04.Read
def M_tumbrelref04_Read (b_p0 : Value) (w : World) (R : Value → World → Prop) : Prop :=
  NEW (newv 123 w (Value.agg #[(Value.int .u8 0), (Value.slice none 0 0)])) fun t2_1 w1 =>
  BND (lenl b_p0) fun t11_2 =>
  BND (binv .int .lss t11_2 (Value.int .i64 7)) fun t12_3 =>
  COND t12_3
  (BND (buildv #[(Value.int .u8 0), (Value.slice none 0 0)] []) fun t13_4 =>
  BND (storev 2 w1 t2_1 t13_4) fun w2 =>
  BND (loadn 2 w2 t2_1) fun r_5 =>
  R (.tuple #[r_5, (Value.int .i64 0), (Value.int .i64 3)]) w2)
  (BND (slicev 1 b_p0 none (some (Value.int .i64 7))) fun t16_6 =>
  CALL PR F_tumbrelref01_Cut [t16_6] w1 fun t17_7 w3 =>
  BND (extractv t17_7 0) fun t18_8 =>
  BND (extractv t17_7 1) fun t19_9 =>
  BND (unv .not t19_9) fun t21_10 =>
  COND t21_10
  (BND (buildv #[(Value.int .u8 0), (Value.slice none 0 0)] []) fun t22_11 =>
  BND (storev 2 w3 t2_1 t22_11) fun w4 =>
  BND (loadn 2 w4 t2_1) fun r_12 =>
  R (.tuple #[r_12, (Value.int .i64 0), (Value.int .i64 8)]) w4)
  (BND (iaddr 1 t18_8 (Value.int .i64 1)) fun t24_13 =>
  BND (iaddr 1 t18_8 (Value.int .i64 2)) fun t28_14 =>
  BND (load1 w3.drew t24_13) fun t25_15 =>
  BND (convi .i64 t25_15) fun t26_16 =>
  BND (load1 w3.drew t28_14) fun t29_17 =>
  BND (convi .i64 t29_17) fun t30_18 =>
  BND (binv .int .mul (Value.int .i64 256) t30_18) fun t31_19 =>
  BND (binv .int .add t26_16 t31_19) fun t32_20 =>
  BND (binv .int .gtr t32_20 (Value.int .i64 400)) fun t34_21 =>
  COND t34_21
  (BND (buildv #[(Value.int .u8 0), (Value.slice none 0 0)] []) fun t35_22 =>
  BND (storev 2 w3.drew t2_1 t35_22) fun w5 =>
  BND (loadn 2 w5 t2_1) fun r_23 =>
  R (.tuple #[r_23, (Value.int .i64 0), (Value.int .i64 2)]) w5)
  (BND (lenl b_p0) fun t37_24 =>
  BND (binv .int .add t32_20 (Value.int .i64 11)) fun t39_25 =>
  BND (binv .int .lss t37_24 t39_25) fun t40_26 =>
  COND t40_26
  (BND (buildv #[(Value.int .u8 0), (Value.slice none 0 0)] []) fun t41_27 =>
  BND (storev 2 w3.drew t2_1 t41_27) fun w6 =>
  BND (loadn 2 w6 t2_1) fun r_28 =>
  R (.tuple #[r_28, (Value.int .i64 0), (Value.int .i64 3)]) w6)
  (BND (binv .int .add t32_20 (Value.int .i64 11)) fun t45_29 =>
  BND (slicev 1 b_p0 (some (Value.int .i64 7)) (some t45_29)) fun t46_30 =>
  CALL PR F_tumbrelref01_Cut [t46_30] w3.drew fun t47_31 w7 =>
  BND (extractv t47_31 0) fun t48_32 =>
  BND (extractv t47_31 1) fun t49_33 =>
  BND (unv .not t49_33) fun t51_34 =>
  COND t51_34
  (BND (buildv #[(Value.int .u8 0), (Value.slice none 0 0)] []) fun t52_35 =>
  BND (storev 2 w7 t2_1 t52_35) fun w8 =>
  BND (loadn 2 w8 t2_1) fun r_36 =>
  R (.tuple #[r_36, (Value.int .i64 0), (Value.int .i64 8)]) w8)
  (BND (iaddr 1 t18_8 (Value.int .i64 0)) fun t54_37 =>
  BND (load1 w7 t54_37) fun t55_38 =>
  BND (buildv #[(Value.int .u8 0), (Value.slice none 0 0)] [(0, 1, t55_38), (1, 1, t48_32)]) fun t57_39 =>
  BND (binv .int .add t32_20 (Value.int .i64 11)) fun t59_40 =>
  BND (storev 2 w7 t2_1 t57_39) fun w9 =>
  BND (loadn 2 w9 t2_1) fun r_41 =>
  R (.tuple #[r_41, t59_40, (Value.int .i64 0)]) w9)))))
def ann_tumbrelref04_Read : List (Nat × List Nat) := [(6, [0, 1, 4, 5, 2, 3, 6, 7, 8, 9, 10])]
theorem E_tumbrelref04_Read (b_p0 : Value) (w : World) (R : Value → World → Prop) : M_tumbrelref04_Read b_p0 w R = den PR ann_tumbrelref04_Read (bodyOf Tryz.f96) (retQ PR Tryz.f96.results.toList R) (env0 [b_p0]) w := by kernel_rfl
theorem C_tumbrelref04_Read {b_p0 : Value} {w : World} {R : Value → World → Prop} (h : M_tumbrelref04_Read b_p0 w R) : CALL PR F_tumbrelref04_Read [b_p0] w R :=
  call_of_den2 ann_tumbrelref04_Read Tryz.func96 (by kernel_rfl) (by kernel_rfl) (by kernel_rfl) ((E_tumbrelref04_Read b_p0 w R) ▸ h)
-- 97 tumbrel.tumbrelref02.Get
def M_tumbrelref02_Get (b_p0 : Value) (w : World) (R : Value → World → Prop) : Prop :=
  ∃ (J_1 : Value → World → Prop) (m_1 : Value → World → Nat), J_1 (Value.int .i64 0) w ∧ ∀ (_d_1 : Env) (many_2 : Value) (w1 : World), J_1 many_2 w1 →
  (BND (lenl b_p0) fun t10_20 =>
  BND (binv .int .lss many_2 t10_20) fun t11_21 =>
  BND (grd (isB t11_21 true) (some many_2)) fun t13_22 =>
  BND (grd (isB t11_21 true) (binv .int .lss t13_22 (Value.int .i64 9))) fun t14_23 =>
  BND (pickv t11_21 t14_23 (Value.bool false)) fun t15_24 =>
  BND (grd (isB t15_24 true) (some b_p0)) fun t17_25 =>
  BND (grd (isB t15_24 true) (some many_2)) fun t18_26 =>
  BND (grd (isB t15_24 true) (iaddr 1 t17_25 t18_26)) fun t19_27 =>
  BND (grd (isB t15_24 true) (load1 w1 t19_27)) fun t20_28 =>
  BND (grd (isB t15_24 true) (binv .int .geq t20_28 (Value.int .u8 128))) fun t21_29 =>
  BND (pickv t15_24 t21_29 (Value.bool false)) fun t22_30 =>
  COND t22_30
  (BND (binv .int .add many_2 (Value.int .i64 1)) fun t24_31 =>
  (J_1 t24_31 w1 ∧ m_1 t24_31 w1 < m_1 many_2 w1))
  (BND (lenl b_p0) fun t27_32 =>
  BND (binv .int .eql many_2 t27_32) fun t28_33 =>
  COND t28_33
  (R (.tuple #[(Value.int .u64 0), (Value.int .i64 0), (Value.int .i64 3)]) w1)
  (BND (binv .int .eql many_2 (Value.int .i64 9)) fun t30_34 =>
  BND (grd (isB t30_34 true) (some b_p0)) fun t32_35 =>
  BND (grd (isB t30_34 true) (iaddr 1 t32_35 (Value.int .i64 9))) fun t33_36 =>
  BND (grd (isB t30_34 true) (load1 w1 t33_36)) fun t34_37 =>
  BND (grd (isB t30_34 true) (binv .int .gtr t34_37 (Value.int .u8 1))) fun t35_38 =>
  BND (pickv t30_34 t35_38 (Value.bool false)) fun t36_39 =>
  BND (grd (isB t36_39 false) (some many_2)) fun t38_40 =>
  BND (grd (isB t36_39 false) (binv .int .gtr t38_40 (Value.int .i64 0))) fun t39_41 =>
  BND (grd (isB t36_39 false) (some t39_41)) fun t40_42 =>
  BND (grd (isB t40_42 true) (some b_p0)) fun t41_43 =>
  BND (grd (isB t40_42 true) (some many_2)) fun t42_44 =>
  BND (grd (isB t40_42 true) (iaddr 1 t41_43 t42_44)) fun t43_45 =>
  BND (grd (isB t40_42 true) (load1 w1 t43_45)) fun t44_46 =>
  BND (grd (isB t40_42 true) (binv .int .eql t44_46 (Value.int .u8 0))) fun t45_47 =>
  BND (grd (isB t36_39 false) (pickv t40_42 t45_47 (Value.bool false))) fun t46_48 =>
  BND (pickv t36_39 (Value.bool true) t46_48) fun t47_49 =>
  COND t47_49
  (R (.tuple #[(Value.int .u64 0), (Value.int .i64 0), (Value.int .i64 2)]) w1)
  (∃ (J_50 : Value → Value → World → Prop) (m_50 : Value → Value → World → Nat), J_50 (Value.int .u64 0) many_2 w1 ∧ ∀ (_d_50 : Env) (n_51 i_52 : Value) (w2 : World), J_50 n_51 i_52 w2 →
  (BND (binv .int .geq i_52 (Value.int .i64 0)) fun t50_66 =>
  COND t50_66
  (BND (binv .int .mul (Value.int .u64 128) n_51) fun t54_67 =>
  BND (iaddr 1 b_p0 i_52) fun t57_68 =>
  BND (load1 w2 t57_68) fun t58_69 =>
  BND (binv .int .rem t58_69 (Value.int .u8 128)) fun t59_70 =>
  BND (convi .u64 t59_70) fun t60_71 =>
  BND (binv .int .add t54_67 t60_71) fun t61_72 =>
  BND (binv .int .sub i_52 (Value.int .i64 1)) fun t52_73 =>
  (J_50 t61_72 t52_73 w2 ∧ m_50 t61_72 t52_73 w2 < m_50 n_51 i_52 w2))
  (BND (binv .int .add many_2 (Value.int .i64 1)) fun t64_74 =>
  R (.tuple #[n_51, t64_74, (Value.int .i64 0)]) w2))))))
def ann_tumbrelref02_Get : List (Nat × List Nat) := [(1000002, [5]), (1000010, [6, 7])]
theorem E_tumbrelref02_Get (b_p0 : Value) (w : World) (R : Value → World → Prop) : M_tumbrelref02_Get b_p0 w R = den PR ann_tumbrelref02_Get (bodyOf Tryz.f97) (retQ PR Tryz.f97.results.toList R) (env0 [b_p0]) w := by kernel_rfl
theorem C_tumbrelref02_Get {b_p0 : Value} {w : World} {R : Value → World → Prop} (h : M_tumbrelref02_Get b_p0 w R) : CALL PR F_tumbrelref02_Get [b_p0] w R :=
  call_of_den2 ann_tumbrelref02_Get Tryz.func97 (by kernel_rfl) (by kernel_rfl) (by kernel_rfl) ((E_tumbrelref02_Get b_p0 w R) ▸ h)
-- 102 tumbrel.record.worded
def M_record_worded (kind_p0 : Value) (w : World) (R : Value → World → Prop) : Prop :=
  BND (binv .int .eql kind_p0 (Value.int .i64 10)) fun t4_1 =>
  BND (grd (isB t4_1 false) (some kind_p0)) fun t6_2 =>
  BND (grd (isB t4_1 false) (binv .int .eql t6_2 (Value.int .i64 11))) fun t7_3 =>
  BND (pickv t4_1 (Value.bool true) t7_3) fun t8_4 =>
  BND (grd (isB t8_4 false) (some kind_p0)) fun t10_5 =>
  BND (grd (isB t8_4 false) (binv .int .eql t10_5 (Value.int .i64 16))) fun t11_6 =>
  BND (pickv t8_4 (Value.bool true) t11_6) fun t12_7 =>
  R t12_7 w
def ann_record_worded : List (Nat × List Nat) := []
theorem E_record_worded (kind_p0 : Value) (w : World) (R : Value → World → Prop) : M_record_worded kind_p0 w R = den PR ann_record_worded (bodyOf Tryz.f102) (retQ PR Tryz.f102.results.toList R) (env0 [kind_p0]) w := by kernel_rfl
theorem C_record_worded {kind_p0 : Value} {w : World} {R : Value → World → Prop} (h : M_record_worded kind_p0 w R) : CALL PR F_record_worded [kind_p0] w R :=
  call_of_den2 ann_record_worded Tryz.func102 (by kernel_rfl) (by kernel_rfl) (by kernel_rfl) ((E_record_worded kind_p0 w R) ▸ h)
-- 103 slices.Concat[[]byte,byte]
def M_slices_Concat_byte_byte (slices_p0 : Value) (w : World) (R : Value → World → Prop) : Prop :=
  BND (lenl slices_p0) fun t10_1 =>
  ∃ (J_2 : Value → Value → World → Prop) (m_2 : Value → Value → World → Nat), J_2 (Value.int .i64 0) (Value.int .i64 0) w ∧ ∀ (_d_2 : Env) (size_3 t11_5 : Value) (w1 : World), J_2 size_3 t11_5 w1 →
  (BND (binv .int .lss t11_5 t10_1) fun t12_17 =>
  COND t12_17
  (BND (iaddr 1 slices_p0 t11_5) fun t13_18 =>
  BND (load1 w1 t13_18) fun t14_19 =>
  BND (lenl t14_19) fun t17_20 =>
  BND (binv .int .add size_3 t17_20) fun t18_21 =>
  BND (binv .int .lss t18_21 (Value.int .i64 0)) fun t20_22 =>
  COND t20_22
  (False)
  (BND (binv .int .add t11_5 (Value.int .i64 1)) fun t22_23 =>
  (J_2 t18_21 t22_23 w1 ∧ m_2 t18_21 t22_23 w1 < m_2 size_3 t11_5 w1)))
  (CALL PR F_slices_Grow_byte_byte [(Value.slice none 0 0), size_3] w1 fun t24_24 w2 =>
  BND (lenl slices_p0) fun t26_25 =>
  ∃ (J_26 : Value → Value → World → Prop) (m_26 : Value → Value → World → Nat), J_26 t24_24 (Value.int .i64 0) w2 ∧ ∀ (_d_26 : Env) (newslice_27 t27_29 : Value) (w3 : World), J_26 newslice_27 t27_29 w3 →
  (BND (binv .int .lss t27_29 t26_25) fun t28_37 =>
  COND t28_37
  (BND (iaddr 1 slices_p0 t27_29) fun t29_38 =>
  BND (load1 w3 t29_38) fun t30_39 =>
  APPEND 5 1 1 (Value.int .u8 0) newslice_27 t30_39 w3 fun t33_40 w4 =>
  BND (binv .int .add t27_29 (Value.int .i64 1)) fun t34_41 =>
  (J_26 t33_40 t34_41 w4 ∧ m_26 t33_40 t34_41 w4 < m_26 newslice_27 t27_29 w3))
  (R newslice_27 w3))))
def ann_slices_Concat_byte_byte : List (Nat × List Nat) := [(1000003, [3, 11]), (1000011, [6, 27])]
theorem E_slices_Concat_byte_byte (slices_p0 : Value) (w : World) (R : Value → World → Prop) : M_slices_Concat_byte_byte slices_p0 w R = den PR ann_slices_Concat_byte_byte (bodyOf Tryz.f103) (retQ PR Tryz.f103.results.toList R) (env0 [slices_p0]) w := by kernel_rfl
theorem C_slices_Concat_byte_byte {slices_p0 : Value} {w : World} {R : Value → World → Prop} (h : M_slices_Concat_byte_byte slices_p0 w R) : CALL PR F_slices_Concat_byte_byte [slices_p0] w R :=
  call_of_den2 ann_slices_Concat_byte_byte Tryz.func103 (by kernel_rfl) (by kernel_rfl) (by kernel_rfl) ((E_slices_Concat_byte_byte slices_p0 w R) ▸ h)
-- 104 tumbrel.sum.four
def M_sum_four (n_p0 : Value) (w : World) (R : Value → World → Prop) : Prop :=
  BND (convi .u8 n_p0) fun t4_1 =>
  BND (shiftv .shr n_p0 (Value.int .u64 8)) fun t6_2 =>
  BND (convi .u8 t6_2) fun t7_3 =>
  BND (shiftv .shr n_p0 (Value.int .u64 16)) fun t9_4 =>
  BND (convi .u8 t9_4) fun t10_5 =>
  BND (shiftv .shr n_p0 (Value.int .u64 24)) fun t12_6 =>
  BND (convi .u8 t12_6) fun t13_7 =>
  BND (newslice 5 #[(Value.int .u8 0)] 1 4 [(0, 1, t4_1), (1, 1, t7_3), (2, 1, t10_5), (3, 1, t13_7)] w) fun p_ => NEW p_ fun t14_8 w1 =>
  R t14_8 w1
def ann_sum_four : List (Nat × List Nat) := []
theorem E_sum_four (n_p0 : Value) (w : World) (R : Value → World → Prop) : M_sum_four n_p0 w R = den PR ann_sum_four (bodyOf Tryz.f104) (retQ PR Tryz.f104.results.toList R) (env0 [n_p0]) w := by kernel_rfl
theorem C_sum_four {n_p0 : Value} {w : World} {R : Value → World → Prop} (h : M_sum_four n_p0 w R) : CALL PR F_sum_four [n_p0] w R :=
  call_of_den2 ann_sum_four Tryz.func104 (by kernel_rfl) (by kernel_rfl) (by kernel_rfl) ((E_sum_four n_p0 w R) ▸ h)
-- 105 tumbrel.sum.Of
def M_sum_Of (b_p0 : Value) (w : World) (R : Value → World → Prop) : Prop :=
  CALL PR F_sum_More [(Value.int .u32 0), b_p0] w fun t4_1 w1 =>
  R t4_1 w1
def ann_sum_Of : List (Nat × List Nat) := []
theorem E_sum_Of (b_p0 : Value) (w : World) (R : Value → World → Prop) : M_sum_Of b_p0 w R = den PR ann_sum_Of (bodyOf Tryz.f105) (retQ PR Tryz.f105.results.toList R) (env0 [b_p0]) w := by kernel_rfl
theorem C_sum_Of {b_p0 : Value} {w : World} {R : Value → World → Prop} (h : M_sum_Of b_p0 w R) : CALL PR F_sum_Of [b_p0] w R :=
  call_of_den2 ann_sum_Of Tryz.func105 (by kernel_rfl) (by kernel_rfl) (by kernel_rfl) ((E_sum_Of b_p0 w R) ▸ h)
-- 106 tumbrel.vint.lay
def M_vint_lay (into_p0 n_p1 : Value) (w : World) (R : Value → World → Prop) : Prop :=
  ∃ (J_1 : Value → Value → World → Prop) (m_1 : Value → Value → World → Nat), J_1 n_p1 (Value.int .i64 0) w ∧ ∀ (_d_1 : Env) (n_2 i_3 : Value) (w1 : World), J_1 n_2 i_3 w1 →
  (BND (binv .int .geq n_2 (Value.int .u64 128)) fun t7_17 =>
  COND t7_17
  (BND (convi .u8 n_2) fun t13_18 =>
  BND (binv .int .or t13_18 (Value.int .u8 128)) fun t14_19 =>
  BND (nilchk into_p0) fun t15_20 =>
  BND (iaddra 10 1 t15_20 i_3) fun t16_21 =>
  BND (storev 1 w1 t16_21 t14_19) fun w2 =>
  BND (binv .int .add i_3 (Value.int .i64 1)) fun t18_22 =>
  BND (shiftv .shr n_2 (Value.int .u64 7)) fun t9_23 =>
  (J_1 t9_23 t18_22 w2 ∧ m_1 t9_23 t18_22 w2 < m_1 n_2 i_3 w1))
  (BND (convi .u8 n_2) fun t22_24 =>
  BND (nilchk into_p0) fun t23_25 =>
  BND (iaddra 10 1 t23_25 i_3) fun t24_26 =>
  BND (storev 1 w1 t24_26 t22_24) fun w3 =>
  BND (binv .int .add i_3 (Value.int .i64 1)) fun t26_27 =>
  R t26_27 w3))
def ann_vint_lay : List (Nat × List Nat) := [(1000002, [1, 5])]
theorem E_vint_lay (into_p0 n_p1 : Value) (w : World) (R : Value → World → Prop) : M_vint_lay into_p0 n_p1 w R = den PR ann_vint_lay (bodyOf Tryz.f106) (retQ PR Tryz.f106.results.toList R) (env0 [into_p0, n_p1]) w := by kernel_rfl
theorem C_vint_lay {into_p0 n_p1 : Value} {w : World} {R : Value → World → Prop} (h : M_vint_lay into_p0 n_p1 w R) : CALL PR F_vint_lay [into_p0, n_p1] w R :=
  call_of_den2 ann_vint_lay Tryz.func106 (by kernel_rfl) (by kernel_rfl) (by kernel_rfl) ((E_vint_lay into_p0 n_p1 w R) ▸ h)
-- 107 tumbrel.tumbrelref01.Four
def M_tumbrelref01_Four (n_p0 : Value) (w : World) (R : Value → World → Prop) : Prop :=
  BND (newslice 5 #[(Value.int .u8 0)] 1 0 [] w) fun p_ => NEW p_ fun t5_1 w1 =>
  ∃ (J_2 : Value → Value → Value → World → Prop) (m_2 : Value → Value → Value → World → Nat), J_2 n_p0 t5_1 (Value.int .i64 0) w1 ∧ ∀ (_d_2 : Env) (n_3 out_4 i_5 : Value) (w2 : World), J_2 n_3 out_4 i_5 w2 →
  (BND (binv .int .lss i_5 (Value.int .i64 4)) fun t7_18 =>
  COND t7_18
  (BND (binv .int .rem n_3 (Value.int .u32 256)) fun t12_19 =>
  BND (convi .u8 t12_19) fun t13_20 =>
  BND (newslice 5 #[(Value.int .u8 0)] 1 1 [(0, 1, t13_20)] w2) fun p_ => NEW p_ fun t14_21 w3 =>
  APPEND 5 1 1 (Value.int .u8 0) out_4 t14_21 w3 fun t15_22 w4 =>
  BND (binv .int .quo n_3 (Value.int .u32 256)) fun t17_23 =>
  BND (binv .int .add i_5 (Value.int .i64 1)) fun t9_24 =>
  (J_2 t17_23 t15_22 t9_24 w4 ∧ m_2 t17_23 t15_22 t9_24 w4 < m_2 n_3 out_4 i_5 w2))
  (R out_4 w2))
def ann_tumbrelref01_Four : List (Nat × List Nat) := [(1000003, [0, 3, 4])]
theorem E_tumbrelref01_Four (n_p0 : Value) (w : World) (R : Value → World → Prop) : M_tumbrelref01_Four n_p0 w R = den PR ann_tumbrelref01_Four (bodyOf Tryz.f107) (retQ PR Tryz.f107.results.toList R) (env0 [n_p0]) w := by kernel_rfl
theorem C_tumbrelref01_Four {n_p0 : Value} {w : World} {R : Value → World → Prop} (h : M_tumbrelref01_Four n_p0 w R) : CALL PR F_tumbrelref01_Four [n_p0] w R :=
  call_of_den2 ann_tumbrelref01_Four Tryz.func107 (by kernel_rfl) (by kernel_rfl) (by kernel_rfl) ((E_tumbrelref01_Four n_p0 w R) ▸ h)
-- 108 tumbrel.tumbrelref01.Of
def M_tumbrelref01_Of (b_p0 : Value) (w : World) (R : Value → World → Prop) : Prop :=
  CALL PR F_tumbrelref01_More [(Value.int .u32 0), b_p0] w fun t4_1 w1 =>
  R t4_1 w1
def ann_tumbrelref01_Of : List (Nat × List Nat) := []
theorem E_tumbrelref01_Of (b_p0 : Value) (w : World) (R : Value → World → Prop) : M_tumbrelref01_Of b_p0 w R = den PR ann_tumbrelref01_Of (bodyOf Tryz.f108) (retQ PR Tryz.f108.results.toList R) (env0 [b_p0]) w := by kernel_rfl
theorem C_tumbrelref01_Of {b_p0 : Value} {w : World} {R : Value → World → Prop} (h : M_tumbrelref01_Of b_p0 w R) : CALL PR F_tumbrelref01_Of [b_p0] w R :=
  call_of_den2 ann_tumbrelref01_Of Tryz.func108 (by kernel_rfl) (by kernel_rfl) (by kernel_rfl) ((E_tumbrelref01_Of b_p0 w R) ▸ h)
-- 109 tumbrel.sum.Cut
def M_sum_Cut (b_p0 : Value) (w : World) (R : Value → World → Prop) : Prop :=
  BND (lenl b_p0) fun t6_1 =>
  BND (binv .int .sub t6_1 (Value.int .i64 4)) fun t7_2 =>
  BND (binv .int .lss t7_2 (Value.int .i64 0)) fun t9_3 =>
  BND (grd (isB t9_3 false) (some b_p0)) fun t11_4 =>
  BND (grd (isB t9_3 false) (some t7_2)) fun t12_5 =>
  BND (grd (isB t9_3 false) (slicev 1 t11_4 (some t12_5) none)) fun t13_6 =>
  BND (grd (isB t9_3 false) (some b_p0)) fun t14_7 =>
  BND (grd (isB t9_3 false) (some t7_2)) fun t15_8 =>
  BND (grd (isB t9_3 false) (slicev 1 t14_7 none (some t15_8))) fun t16_9 =>
  GEF (isB t9_3 false) (fun k_ => CALL PR F_sum_Of [t16_9] w.drew k_) w.drew fun t17_10 w1 =>
  GEF (isB t9_3 false) (fun k_ => CALL PR F_sum_four [t17_10] w1 k_) w1 fun t18_11 w2 =>
  GEF (isB t9_3 false) (fun k_ => CALL PR F_slices_Equal_byte_byte [t13_6, t18_11] w2 k_) w2 fun t19_12 w3 =>
  BND (grd (isB t9_3 false) (unv .not t19_12)) fun t20_13 =>
  BND (pickv t9_3 (Value.bool true) t20_13) fun t21_14 =>
  COND t21_14
  (R (.tuple #[(Value.slice none 0 0), (Value.bool false)]) w3)
  (BND (slicev 1 b_p0 none (some t7_2)) fun t24_15 =>
  CALL PR F_slices_Clone_byte_byte [t24_15] w3 fun t25_16 w4 =>
  R (.tuple #[t25_16, (Value.bool true)]) w4)
def ann_sum_Cut : List (Nat × List Nat) := [(2, [0, 1, 2, 3, 4, 5, 6, 7, 8, 9, 10, 11, 12, 13])]
theorem E_sum_Cut (b_p0 : Value) (w : World) (R : Value → World → Prop) : M_sum_Cut b_p0 w R = den PR ann_sum_Cut (bodyOf Tryz.f109) (retQ PR Tryz.f109.results.toList R) (env0 [b_p0]) w := by kernel_rfl
theorem C_sum_Cut {b_p0 : Value} {w : World} {R : Value → World → Prop} (h : M_sum_Cut b_p0 w R) : CALL PR F_sum_Cut [b_p0] w R :=
  call_of_den2 ann_sum_Cut Tryz.func109 (by kernel_rfl) (by kernel_rfl) (by kernel_rfl) ((E_sum_Cut b_p0 w R) ▸ h)
-- 110 tumbrel.tumbrelref01.Cut
def M_tumbrelref01_Cut (b_p0 : Value) (w : World) (R : Value → World → Prop) : Prop :=
  BND (lenl b_p0) fun t6_1 =>
  BND (binv .int .lss t6_1 (Value.int .i64 4)) fun t7_2 =>
  COND t7_2
  (R (.tuple #[(Value.slice none 0 0), (Value.bool false)]) w)
  (BND (newslice 5 #[(Value.int .u8 0)] 1 0 [] w) fun p_ => NEW p_ fun t8_3 w1 =>
  BND (lenl b_p0) fun t11_4 =>
  BND (binv .int .sub t11_4 (Value.int .i64 4)) fun t12_5 =>
  BND (slicev 1 b_p0 none (some t12_5)) fun t13_6 =>
  APPEND 5 1 1 (Value.int .u8 0) t8_3 t13_6 w1 fun t14_7 w2 =>
  CALL PR F_tumbrelref01_Put [t14_7] w2 fun t16_8 w3 =>
  CALL PR F_tumbrelref01_Same [t16_8, b_p0] w3 fun t18_9 w4 =>
  BND (unv .not t18_9) fun t19_10 =>
  COND t19_10
  (R (.tuple #[(Value.slice none 0 0), (Value.bool false)]) w4)
  (R (.tuple #[t14_7, (Value.bool true)]) w4))
def ann_tumbrelref01_Cut : List (Nat × List Nat) := []
theorem E_tumbrelref01_Cut (b_p0 : Value) (w : World) (R : Value → World → Prop) : M_tumbrelref01_Cut b_p0 w R = den PR ann_tumbrelref01_Cut (bodyOf Tryz.f110) (retQ PR Tryz.f110.results.toList R) (env0 [b_p0]) w := by kernel_rfl
theorem C_tumbrelref01_Cut {b_p0 : Value} {w : World} {R : Value → World → Prop} (h : M_tumbrelref01_Cut b_p0 w R) : CALL PR F_tumbrelref01_Cut [b_p0] w R :=
  call_of_den2 ann_tumbrelref01_Cut Tryz.func110 (by kernel_rfl) (by kernel_rfl) (by kernel_rfl) ((E_tumbrelref01_Cut b_p0 w R) ▸ h)
-- 123 tumbrel.sum.More
def M_sum_More (sum_p0 b_p1 : Value) (w : World) (R : Value → World → Prop) : Prop :=
  CALL PR F_sum_Table [] w fun t8_1 w1 =>
  NEW (newv 188 w1 (Value.agg (List.replicate 256 (Value.int .u32 0)).toArray)) fun t_2 w2 =>
  BND (storev 256 w2 t_2 t8_1) fun w3 =>
  BND (unv .xor sum_p0) fun t10_3 =>
  BND (lenl b_p1) fun t12_4 =>
  ∃ (J_5 : Value → Value → World → Prop) (m_5 : Value → Value → World → Nat), J_5 t10_3 (Value.int .i64 0) w3 ∧ ∀ (_d_5 : Env) (sum_6 t13_8 : Value) (w4 : World), J_5 sum_6 t13_8 w4 →
  (BND (binv .int .lss t13_8 t12_4) fun t14_22 =>
  COND t14_22
  (BND (iaddr 1 b_p1 t13_8) fun t15_23 =>
  BND (load1 w4 t15_23) fun t16_24 =>
  BND (shiftv .shr sum_6 (Value.int .u64 8)) fun t18_25 =>
  BND (convi .u8 sum_6) fun t20_26 =>
  BND (binv .int .xor t20_26 t16_24) fun t22_27 =>
  BND (iaddra 256 1 t_2 t22_27) fun t23_28 =>
  BND (load1 w4 t23_28) fun t24_29 =>
  BND (binv .int .xor t18_25 t24_29) fun t25_30 =>
  BND (binv .int .add t13_8 (Value.int .i64 1)) fun t26_31 =>
  (J_5 t25_30 t26_31 w4 ∧ m_5 t25_30 t26_31 w4 < m_5 sum_6 t13_8 w4))
  (BND (unv .xor sum_6) fun t28_32 =>
  R t28_32 w4))
def ann_sum_More : List (Nat × List Nat) := [(1000004, [0, 13])]
theorem E_sum_More (sum_p0 b_p1 : Value) (w : World) (R : Value → World → Prop) : M_sum_More sum_p0 b_p1 w R = den PR ann_sum_More (bodyOf Tryz.f123) (retQ PR Tryz.f123.results.toList R) (env0 [sum_p0, b_p1]) w := by kernel_rfl
theorem C_sum_More {sum_p0 b_p1 : Value} {w : World} {R : Value → World → Prop} (h : M_sum_More sum_p0 b_p1 w R) : CALL PR F_sum_More [sum_p0, b_p1] w R :=
  call_of_den2 ann_sum_More Tryz.func123 (by kernel_rfl) (by kernel_rfl) (by kernel_rfl) ((E_sum_More sum_p0 b_p1 w R) ▸ h)
-- 124 tumbrel.tumbrelref01.More
def M_tumbrelref01_More (sum_p0 b_p1 : Value) (w : World) (R : Value → World → Prop) : Prop :=
  BND (binv .int .sub (Value.int .u32 4294967295) sum_p0) fun t8_1 =>
  ∃ (J_2 : Value → Value → World → Prop) (m_2 : Value → Value → World → Nat), J_2 t8_1 (Value.int .i64 0) w ∧ ∀ (_d_2 : Env) (n_3 i_4 : Value) (w1 : World), J_2 n_3 i_4 w1 →
  (BND (lenl b_p1) fun t11_19 =>
  BND (binv .int .lss i_4 t11_19) fun t12_20 =>
  COND t12_20
  (BND (iaddr 1 b_p1 i_4) fun t18_21 =>
  BND (load1 w1 t18_21) fun t19_22 =>
  BND (convi .u32 t19_22) fun t20_23 =>
  BND (binv .int .xor n_3 t20_23) fun t21_24 =>
  CALL PR F_tumbrelref01_Entry [t21_24] w1 fun t22_25 w2 =>
  BND (binv .int .add i_4 (Value.int .i64 1)) fun t14_26 =>
  (J_2 t22_25 t14_26 w2 ∧ m_2 t22_25 t14_26 w2 < m_2 n_3 i_4 w1))
  (BND (binv .int .sub (Value.int .u32 4294967295) n_3) fun t24_27 =>
  R t24_27 w1))
def ann_tumbrelref01_More : List (Nat × List Nat) := [(1000003, [5, 6])]
theorem E_tumbrelref01_More (sum_p0 b_p1 : Value) (w : World) (R : Value → World → Prop) : M_tumbrelref01_More sum_p0 b_p1 w R = den PR ann_tumbrelref01_More (bodyOf Tryz.f124) (retQ PR Tryz.f124.results.toList R) (env0 [sum_p0, b_p1]) w := by kernel_rfl
theorem C_tumbrelref01_More {sum_p0 b_p1 : Value} {w : World} {R : Value → World → Prop} (h : M_tumbrelref01_More sum_p0 b_p1 w R) : CALL PR F_tumbrelref01_More [sum_p0, b_p1] w R :=
  call_of_den2 ann_tumbrelref01_More Tryz.func124 (by kernel_rfl) (by kernel_rfl) (by kernel_rfl) ((E_tumbrelref01_More sum_p0 b_p1 w R) ▸ h)
-- 125 slices.Equal[[]byte,byte]
def M_slices_Equal_byte_byte (s1_p0 s2_p1 : Value) (w : World) (R : Value → World → Prop) : Prop :=
  BND (lenl s1_p0) fun t7_1 =>
  BND (lenl s2_p1) fun t9_2 =>
  BND (binv .int .neq t7_1 t9_2) fun t10_3 =>
  COND t10_3
  (R (Value.bool false) w)
  (BND (lenl s1_p0) fun t12_4 =>
  ∃ (J_5 : Value → World → Prop) (m_5 : Value → World → Nat), J_5 (Value.int .i64 0) w ∧ ∀ (_d_5 : Env) (t13_8 : Value) (w1 : World), J_5 t13_8 w1 →
  (BND (binv .int .lss t13_8 t12_4) fun t14_21 =>
  COND t14_21
  (BND (iaddr 1 s1_p0 t13_8) fun t18_22 =>
  BND (iaddr 1 s2_p1 t13_8) fun t22_23 =>
  BND (load1 w1.drew t18_22) fun t19_24 =>
  BND (load1 w1.drew t22_23) fun t23_25 =>
  BND (binv .int .neq t19_24 t23_25) fun t24_26 =>
  COND t24_26
  (R (Value.bool false) w1.drew)
  (BND (binv .int .add t13_8 (Value.int .i64 1)) fun t25_27 =>
  (J_5 t25_27 w1.drew ∧ m_5 t25_27 w1.drew < m_5 t13_8 w1)))
  (R (Value.bool true) w1)))
def ann_slices_Equal_byte_byte : List (Nat × List Nat) := [(6, [0, 1, 2, 4, 5, 6, 3, 7, 8]), (1000004, [13])]
theorem E_slices_Equal_byte_byte (s1_p0 s2_p1 : Value) (w : World) (R : Value → World → Prop) : M_slices_Equal_byte_byte s1_p0 s2_p1 w R = den PR ann_slices_Equal_byte_byte (bodyOf Tryz.f125) (retQ PR Tryz.f125.results.toList R) (env0 [s1_p0, s2_p1]) w := by kernel_rfl
theorem C_slices_Equal_byte_byte {s1_p0 s2_p1 : Value} {w : World} {R : Value → World → Prop} (h : M_slices_Equal_byte_byte s1_p0 s2_p1 w R) : CALL PR F_slices_Equal_byte_byte [s1_p0, s2_p1] w R :=
  call_of_den2 ann_slices_Equal_byte_byte Tryz.func125 (by kernel_rfl) (by kernel_rfl) (by kernel_rfl) ((E_slices_Equal_byte_byte s1_p0 s2_p1 w R) ▸ h)
-- 126 tumbrel.tumbrelref01.Same
def M_tumbrelref01_Same (a_p0 b_p1 : Value) (w : World) (R : Value → World → Prop) : Prop :=
  BND (lenl a_p0) fun t7_1 =>
  BND (lenl b_p1) fun t9_2 =>
  BND (binv .int .neq t7_1 t9_2) fun t10_3 =>
  COND t10_3
  (R (Value.bool false) w)
  (∃ (J_4 : Value → World → Prop) (m_4 : Value → World → Nat), J_4 (Value.int .i64 0) w ∧ ∀ (_d_4 : Env) (i_6 : Value) (w1 : World), J_4 i_6 w1 →
  (BND (lenl a_p0) fun t13_22 =>
  BND (binv .int .lss i_6 t13_22) fun t14_23 =>
  COND t14_23
  (BND (iaddr 1 a_p0 i_6) fun t19_24 =>
  BND (iaddr 1 b_p1 i_6) fun t23_25 =>
  BND (load1 w1.drew t19_24) fun t20_26 =>
  BND (load1 w1.drew t23_25) fun t24_27 =>
  BND (binv .int .neq t20_26 t24_27) fun t25_28 =>
  COND t25_28
  (R (Value.bool false) w1.drew)
  (BND (binv .int .add i_6 (Value.int .i64 1)) fun t16_29 =>
  (J_4 t16_29 w1.drew ∧ m_4 t16_29 w1.drew < m_4 i_6 w1)))
  (R (Value.bool true) w1)))
def ann_tumbrelref01_Same : List (Nat × List Nat) := [(6, [0, 1, 2, 4, 5, 6, 3, 7, 8]), (1000004, [5])]
theorem E_tumbrelref01_Same (a_p0 b_p1 : Value) (w : World) (R : Value → World → Prop) : M_tumbrelref01_Same a_p0 b_p1 w R = den PR ann_tumbrelref01_Same (bodyOf Tryz.f126) (retQ PR Tryz.f126.results.toList R) (env0 [a_p0, b_p1]) w := by kernel_rfl
theorem C_tumbrelref01_Same {a_p0 b_p1 : Value} {w : World} {R : Value → World → Prop} (h : M_tumbrelref01_Same a_p0 b_p1 w R) : CALL PR F_tumbrelref01_Same [a_p0, b_p1] w R :=
  call_of_den2 ann_tumbrelref01_Same Tryz.func126 (by kernel_rfl) (by kernel_rfl) (by kernel_rfl) ((E_tumbrelref01_Same a_p0 b_p1 w R) ▸ h)
-- 133 tumbrel.sum.Table
def M_sum_Table (w : World) (R : Value → World → Prop) : Prop :=
  NEW (newv 188 w (Value.agg (List.replicate 256 (Value.int .u32 0)).toArray)) fun t0_1 w1 =>
  NEW (newv 188 w1 (Value.agg (List.replicate 256 (Value.int .u32 0)).toArray)) fun t_2 w2 =>
  ∃ (J_3 : Value → World → Prop) (m_3 : Value → World → Nat), J_3 (Value.int .i64 0) w2 ∧ ∀ (_d_3 : Env) (t3_5 : Value) (w3 : World), J_3 t3_5 w3 →
  (BND (binv .int .lss t3_5 (Value.int .i64 256)) fun t4_14 =>
  COND t4_14
  (BND (convi .u32 t3_5) fun t8_15 =>
  CALL PR F_sum_entry [t8_15] w3 fun t9_16 w4 =>
  BND (iaddra 256 1 t_2 t3_5) fun t10_17 =>
  BND (storev 1 w4 t10_17 t9_16) fun w5 =>
  BND (binv .int .add t3_5 (Value.int .i64 1)) fun t11_18 =>
  (J_3 t11_18 w5 ∧ m_3 t11_18 w5 < m_3 t3_5 w3))
  (BND (loadn 256 w3 t_2) fun t12_19 =>
  BND (storev 256 w3 t0_1 t12_19) fun w6 =>
  BND (loadn 256 w6 t0_1) fun r_20 =>
  R r_20 w6))
def ann_sum_Table : List (Nat × List Nat) := [(1000003, [3])]
theorem E_sum_Table (w : World) (R : Value → World → Prop) : M_sum_Table w R = den PR ann_sum_Table (bodyOf Tryz.f133) (retQ PR Tryz.f133.results.toList R) (env0 []) w := by kernel_rfl
theorem C_sum_Table {w : World} {R : Value → World → Prop} (h : M_sum_Table w R) : CALL PR F_sum_Table [] w R :=
  call_of_den2 ann_sum_Table Tryz.func133 (by kernel_rfl) (by kernel_rfl) (by kernel_rfl) ((E_sum_Table w R) ▸ h)
-- 134 tumbrel.tumbrelref01.Entry
def M_tumbrelref01_Entry (n_p0 : Value) (w : World) (R : Value → World → Prop) : Prop :=
  ∃ (J_1 : Value → Value → World → Prop) (m_1 : Value → Value → World → Nat), J_1 n_p0 (Value.int .i64 0) w ∧ ∀ (_d_1 : Env) (n_2 i_3 : Value) (w1 : World), J_1 n_2 i_3 w1 →
  (BND (binv .int .lss i_3 (Value.int .i64 8)) fun t6_17 =>
  COND t6_17
  (BND (binv .int .rem n_2 (Value.int .u32 2)) fun t10_18 =>
  BND (binv .int .eql t10_18 (Value.int .u32 1)) fun t11_19 =>
  BND (binv .int .quo n_2 (Value.int .u32 2)) fun t13_20 =>
  JOIN (α := Value → World → Prop) (fun k_25 => COND t11_19
  (BND (binv .int .xor t13_20 (Value.int .u32 2197175160)) fun t16_26 =>
  k_25 t16_26 w1)
  (k_25 t13_20 w1))
  (fun n_21 w2 => BND (binv .int .add i_3 (Value.int .i64 1)) fun t8_24 =>
  (J_1 n_21 t8_24 w2 ∧ m_1 n_21 t8_24 w2 < m_1 n_2 i_3 w1)))
  (R n_2 w1))
def ann_tumbrelref01_Entry : List (Nat × List Nat) := [(1000002, [0, 3])]
theorem E_tumbrelref01_Entry (n_p0 : Value) (w : World) (R : Value → World → Prop) : M_tumbrelref01_Entry n_p0 w R = den PR ann_tumbrelref01_Entry (bodyOf Tryz.f134) (retQ PR Tryz.f134.results.toList R) (env0 [n_p0]) w := by kernel_rfl
theorem C_tumbrelref01_Entry {n_p0 : Value} {w : World} {R : Value → World → Prop} (h : M_tumbrelref01_Entry n_p0 w R) : CALL PR F_tumbrelref01_Entry [n_p0] w R :=
  call_of_den2 ann_tumbrelref01_Entry Tryz.func134 (by kernel_rfl) (by kernel_rfl) (by kernel_rfl) ((E_tumbrelref01_Entry n_p0 w R) ▸ h)
-- 136 tumbrel.sum.entry
def M_sum_entry (n_p0 : Value) (w : World) (R : Value → World → Prop) : Prop :=
  ∃ (J_1 : Value → Value → World → Prop) (m_1 : Value → Value → World → Nat), J_1 n_p0 (Value.int .i64 0) w ∧ ∀ (_d_1 : Env) (n_2 t4_4 : Value) (w1 : World), J_1 n_2 t4_4 w1 →
  (BND (binv .int .lss t4_4 (Value.int .i64 8)) fun t5_15 =>
  COND t5_15
  (BND (binv .int .and n_2 (Value.int .u32 1)) fun t7_16 =>
  BND (shiftv .shr n_2 (Value.int .u64 1)) fun t9_17 =>
  BND (binv .int .eql t7_16 (Value.int .u32 1)) fun t11_18 =>
  JOIN (α := Value → World → Prop) (fun k_23 => COND t11_18
  (BND (binv .int .xor t9_17 (Value.int .u32 2197175160)) fun t13_24 =>
  k_23 t13_24 w1)
  (k_23 t9_17 w1))
  (fun n_19 w2 => BND (binv .int .add t4_4 (Value.int .i64 1)) fun t14_22 =>
  (J_1 n_19 t14_22 w2 ∧ m_1 n_19 t14_22 w2 < m_1 n_2 t4_4 w1)))
  (R n_2 w1))
def ann_sum_entry : List (Nat × List Nat) := [(1000002, [0, 4])]
theorem E_sum_entry (n_p0 : Value) (w : World) (R : Value → World → Prop) : M_sum_entry n_p0 w R = den PR ann_sum_entry (bodyOf Tryz.f136) (retQ PR Tryz.f136.results.toList R) (env0 [n_p0]) w := by kernel_rfl
theorem C_sum_entry {n_p0 : Value} {w : World} {R : Value → World → Prop} (h : M_sum_entry n_p0 w R) : CALL PR F_sum_entry [n_p0] w R :=
  call_of_den2 ann_sum_entry Tryz.func136 (by kernel_rfl) (by kernel_rfl) (by kernel_rfl) ((E_sum_entry n_p0 w R) ▸ h)
end Go.Proofs.YtofllgbdphakiaaGreat
