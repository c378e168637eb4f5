/- Printed by denprint.py: the Go function as a predicate, and that it stands for the call. No condition. -/
import Derived.Test.YtmjiohgdoienmaaFns
set_option maxRecDepth 100000
set_option linter.unusedVariables false
namespace Go.Proofs.Ytmjiohgdoienmaa
open Go.Den

-- 5 tumbrel.tumbrellaw07.DueDoes
def M_tumbrellaw07_DueDoes (L_p0 i_p1 : Value) (w : World) (R : Value → World → Prop) : Prop :=
  CALL PR F_tumbrellaw07_awake [] w fun t26_1 w1 =>
  BND (unv .not t26_1) fun t27_2 =>
  COND t27_2
  (R (Value.bool false) w1)
  (BND (lenl L_p0) fun t29_3 =>
  BND (binv .int .gtr t29_3 (Value.int .i64 200)) fun t30_4 =>
  COND t30_4
  (R (Value.bool true) w1)
  (CALL PR F_due_New [] w1 fun t31_5 w2 =>
  BND (buildv #[(Value.slice none 0 0)] []) fun t32_6 =>
  NEW (newv 40 w2 t32_6) fun t33_7 w3 =>
  BND (lenl L_p0) fun t35_8 =>
  ∃ (J_9 : Value → World → Prop) (m_9 : Value → World → Nat), J_9 (Value.int .i64 0) w3 ∧ ∀ (_d_9 : Env) (t36_29 : Value) (w4 : World), J_9 t36_29 w4 →
  (BND (binv .int .lss t36_29 t35_8) fun t37_169 =>
  COND t37_169
  (BND (iaddr 3 L_p0 t36_29) fun t38_170 =>
  BND (loadn 3 w4 t38_170) fun t39_171 =>
  NEW (newv 28 w4 (Value.agg #[(Value.int .i64 0), (Value.int .u64 0), (Value.int .u64 0)])) fun r_172 w5 =>
  BND (storev 3 w5 r_172 t39_171) fun w6 =>
  BND (faddr 0 r_172) fun t40_173 =>
  BND (load1 w6 t40_173) fun t41_174 =>
  BND (binv .int .eql t41_174 (Value.int .i64 0)) fun t43_175 =>
  JOIN (α := Value → World → Prop) (fun k_299 => COND t43_175
  (∃ S_300 : World → Prop, S_300 w6.drew ∧
  BND (faddr 1 r_172) fun t45_301 =>
  BND (faddr 2 r_172) fun t47_302 =>
  BND (faddr 1 r_172) fun t51_303 =>
  FLT S_300 (fun w_ => load1 w_ t51_303) fun t52_304 =>
  BND (faddr 2 r_172) fun t53_305 =>
  FLT S_300 (fun w_ => load1 w_ t53_305) fun t54_306 =>
  BND (load1 w6.drew t45_301) fun t46_307 =>
  BND (load1 w6.drew t47_302) fun t48_308 =>
  CALL PR F_due_Heap_Put [t31_5, t46_307, t48_308] w6.drew fun t49_309 w13 =>
  S_300 w13 ∧
  CALL PR F_tumbrelref07_Heap_Put [t33_7, t52_304, t54_306] w13 fun t55_310 w14 =>
  BND (binv .bool .eql t49_309 t55_310) fun t56_311 =>
  k_299 t56_311 w14)
  (BND (binv .int .eql t41_174 (Value.int .i64 1)) fun t58_312 =>
  JOIN (α := Value → World → Prop) (fun k_375 => COND t58_312
  (BND (faddr 2 r_172) fun t61_376 =>
  BND (load1 w6 t61_376) fun t62_377 =>
  CALL PR F_due_Heap_Take [t31_5, t62_377] w6 fun t63_378 w16 =>
  BND (extractv t63_378 0) fun t64_379 =>
  BND (extractv t63_378 1) fun t65_380 =>
  BND (extractv t63_378 2) fun t66_381 =>
  BND (faddr 2 r_172) fun t69_382 =>
  BND (load1 w16 t69_382) fun t70_383 =>
  CALL PR F_tumbrelref07_Heap_Take [t33_7, t70_383] w16 fun t71_384 w17 =>
  BND (extractv t71_384 0) fun t72_385 =>
  BND (extractv t71_384 1) fun t73_386 =>
  BND (extractv t71_384 2) fun t74_387 =>
  BND (binv .int .eql t64_379 t72_385) fun t77_388 =>
  BND (grd (isB t77_388 true) (some t65_380)) fun t79_389 =>
  BND (grd (isB t77_388 true) (some t73_386)) fun t80_390 =>
  BND (grd (isB t77_388 true) (binv .int .eql t79_389 t80_390)) fun t81_391 =>
  BND (pickv t77_388 t81_391 (Value.bool false)) fun t82_392 =>
  BND (grd (isB t82_392 true) (some t66_381)) fun t84_393 =>
  BND (grd (isB t82_392 true) (some t74_387)) fun t85_394 =>
  BND (grd (isB t82_392 true) (binv .bool .eql t84_393 t85_394)) fun t86_395 =>
  BND (pickv t82_392 t86_395 (Value.bool false)) fun t87_396 =>
  k_375 t87_396 w17)
  (BND (binv .int .eql t41_174 (Value.int .i64 2)) fun t89_397 =>
  JOIN (α := Value → World → Prop) (fun k_423 => COND t89_397
  (∃ S_424 : World → Prop, S_424 w6.drew ∧
  BND (faddr 1 r_172) fun t91_425 =>
  BND (faddr 1 r_172) fun t95_426 =>
  FLT S_424 (fun w_ => load1 w_ t95_426) fun t96_427 =>
  BND (load1 w6.drew t91_425) fun t92_428 =>
  CALL PR F_due_Heap_Drop [t31_5, t92_428] w6.drew fun t93_429 w19 =>
  S_424 w19 ∧
  CALL PR F_tumbrelref07_Heap_Drop [t33_7, t96_427] w19 fun t97_430 w20 =>
  BND (binv .bool .eql t93_429 t97_430) fun t98_431 =>
  k_423 t98_431 w20)
  (BND (binv .int .eql t41_174 (Value.int .i64 3)) fun t100_432 =>
  JOIN (α := Value → World → Prop) (fun k_447 => COND t100_432
  (∃ S_448 : World → Prop, S_448 w6.drew ∧
  BND (faddr 1 r_172) fun t102_449 =>
  BND (faddr 2 r_172) fun t104_450 =>
  BND (faddr 1 r_172) fun t108_451 =>
  FLT S_448 (fun w_ => load1 w_ t108_451) fun t109_452 =>
  BND (faddr 2 r_172) fun t110_453 =>
  FLT S_448 (fun w_ => load1 w_ t110_453) fun t111_454 =>
  BND (load1 w6.drew t102_449) fun t103_455 =>
  BND (load1 w6.drew t104_450) fun t105_456 =>
  CALL PR F_due_Heap_Move [t31_5, t103_455, t105_456] w6.drew fun t106_457 w22 =>
  S_448 w22 ∧
  CALL PR F_tumbrelref07_Heap_Move [t33_7, t109_452, t111_454] w22 fun t112_458 w23 =>
  BND (binv .bool .eql t106_457 t112_458) fun t113_459 =>
  k_447 t113_459 w23)
  (k_447 (Value.bool true) w6))
  (fun r_433 w21 => k_423 r_433 w21)))
  (fun r_398 w18 => k_375 r_398 w18)))
  (fun r_313 w15 => k_299 r_313 w15)))
  (fun r_176 w7 => CALL PR F_due_Heap_First [t31_5] w7 fun t116_253 w8 =>
  BND (extractv t116_253 0) fun t117_254 =>
  BND (extractv t116_253 1) fun t118_255 =>
  BND (extractv t116_253 2) fun t119_256 =>
  CALL PR F_tumbrelref07_Heap_First [t33_7] w8 fun t122_257 w9 =>
  BND (extractv t122_257 0) fun t123_258 =>
  BND (extractv t122_257 1) fun t124_259 =>
  BND (extractv t122_257 2) fun t125_260 =>
  CALL PR F_due_Heap_At [t31_5, i_p1] w9 fun t129_261 w10 =>
  BND (extractv t129_261 0) fun t130_262 =>
  BND (extractv t129_261 1) fun t131_263 =>
  CALL PR F_tumbrelref07_Heap_At [t33_7, i_p1] w10 fun t135_264 w11 =>
  BND (extractv t135_264 0) fun t136_265 =>
  BND (extractv t135_264 1) fun t137_266 =>
  ∃ S_267 : World → Prop, S_267 w11.drew ∧
  BND (unv .not r_176) fun t139_268 =>
  BND (grd (isB t139_268 false) (some t117_254)) fun t141_269 =>
  BND (grd (isB t139_268 false) (some t123_258)) fun t142_270 =>
  BND (grd (isB t139_268 false) (binv .int .neq t141_269 t142_270)) fun t143_271 =>
  BND (pickv t139_268 (Value.bool true) t143_271) fun t144_272 =>
  BND (grd (isB t144_272 false) (some t118_255)) fun t146_273 =>
  BND (grd (isB t144_272 false) (some t124_259)) fun t147_274 =>
  BND (grd (isB t144_272 false) (binv .int .neq t146_273 t147_274)) fun t148_275 =>
  BND (pickv t144_272 (Value.bool true) t148_275) fun t149_276 =>
  BND (grd (isB t149_276 false) (some t119_256)) fun t151_277 =>
  BND (grd (isB t149_276 false) (some t125_260)) fun t152_278 =>
  BND (grd (isB t149_276 false) (binv .bool .neq t151_277 t152_278)) fun t153_279 =>
  BND (pickv t149_276 (Value.bool true) t153_279) fun t154_280 =>
  BND (grd (isB t154_280 false) (some t130_262)) fun t156_281 =>
  BND (grd (isB t154_280 false) (some t136_265)) fun t157_282 =>
  BND (grd (isB t154_280 false) (binv .int .neq t156_281 t157_282)) fun t158_283 =>
  BND (pickv t154_280 (Value.bool true) t158_283) fun t159_284 =>
  BND (grd (isB t159_284 false) (some t131_263)) fun t161_285 =>
  BND (grd (isB t159_284 false) (some t137_266)) fun t162_286 =>
  BND (grd (isB t159_284 false) (binv .bool .neq t161_285 t162_286)) fun t163_287 =>
  BND (pickv t159_284 (Value.bool true) t163_287) fun t164_288 =>
  BND (grd (isB t164_288 false) (some t31_5)) fun t166_289 =>
  BND (grd (isB t164_288 false) (some t33_7)) fun t168_290 =>
  BND (grd (isB t164_288 false) (nilchk t168_290)) fun t169_291 =>
  BND (grd (isB t164_288 false) (faddr 0 t169_291)) fun t170_292 =>
  FLT S_267 (fun w_ => (grd (isB t164_288 false) (load1 w_ t170_292))) fun t171_293 =>
  BND (grd (isB t164_288 false) (lenl t171_293)) fun t172_294 =>
  GEF (isB t164_288 false) (fun k_ => CALL PR F_due_Heap_Len [t166_289] w11.drew k_) w11.drew fun t167_295 w12 =>
  S_267 w12 ∧
  BND (grd (isB t164_288 false) (binv .int .neq t167_295 t172_294)) fun t173_296 =>
  BND (pickv t164_288 (Value.bool true) t173_296) fun t174_297 =>
  COND t174_297
  (R (Value.bool false) w12)
  (BND (binv .int .add t36_29 (Value.int .i64 1)) fun t175_298 =>
  (J_9 t175_298 w12 ∧ m_9 t175_298 w12 < m_9 t36_29 w4))))
  (R (Value.bool true) w4))))
def ann_tumbrellaw07_DueDoes : List (Nat × List Nat) := [(12, [0, 1, 3, 6, 7, 8, 9, 10, 2, 4, 5, 11, 12, 13]), (18, [0, 1, 4, 5, 6, 2, 3, 7, 8, 9]), (20, [0, 1, 3, 6, 7, 8, 9, 10, 2, 4, 5, 11, 12, 13]), (25, [0, 1, 2, 3, 4, 5, 6, 7, 8, 9, 10, 11, 12, 13, 14, 15, 16, 17, 18, 19, 20, 21, 22, 23, 24, 25, 26, 27, 28, 30, 31, 32, 33, 34, 29, 35, 36]), (1000007, [36]), (2000012, [8, 10, 11]), (2000018, [6, 7]), (2000020, [8, 10, 11]), (2000025, [33])]
theorem E_tumbrellaw07_DueDoes (L_p0 i_p1 : Value) (w : World) (R : Value → World → Prop) : M_tumbrellaw07_DueDoes L_p0 i_p1 w R = den PR ann_tumbrellaw07_DueDoes (bodyOf Try.f5) (retQ PR Try.f5.results.toList R) (env0 [L_p0, i_p1]) w := by kernel_rfl
theorem C_tumbrellaw07_DueDoes {L_p0 i_p1 : Value} {w : World} {R : Value → World → Prop} (h : M_tumbrellaw07_DueDoes L_p0 i_p1 w R) : CALL PR F_tumbrellaw07_DueDoes [L_p0, i_p1] w R :=
  call_of_den2 ann_tumbrellaw07_DueDoes Try.func5 (by kernel_rfl) (by kernel_rfl) (by kernel_rfl) ((E_tumbrellaw07_DueDoes L_p0 i_p1 w R) ▸ h)

end Go.Proofs.Ytmjiohgdoienmaa
