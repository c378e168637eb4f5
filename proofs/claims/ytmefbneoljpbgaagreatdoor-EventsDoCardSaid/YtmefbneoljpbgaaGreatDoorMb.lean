/- Printed by denprint.py: the Go function as a predicate, and that it stands for the call. No condition. -/
import Derived.Test.YtmefbneoljpbgaaGreatDoorFns
set_option maxRecDepth 100000
set_option linter.unusedVariables false
namespace Go.Proofs.YtmefbneoljpbgaaGreatDoor
open Go.Den

-- 3 tumbrel.tumbrellaw17.EventsDo
def M_tumbrellaw17_EventsDo (room_p0 l_p1 : Value) (w : World) (R : Value → World → Prop) : Prop :=
  CALL PR F_tumbrellaw17_awake [] w fun t19_1 w1 =>
  BND (unv .not t19_1) fun t20_2 =>
  COND t20_2
  (R (Value.bool false) w1)
  (CALL PR F_disk_New [room_p0] w1 fun t23_3 w2 =>
  BND (extractv t23_3 0) fun t24_4 =>
  BND (extractv t23_3 1) fun t25_5 =>
  CALL PR F_tumbrelref06_New [room_p0] w2 fun t28_6 w3 =>
  BND (extractv t28_6 0) fun t29_7 =>
  BND (extractv t28_6 1) fun t30_8 =>
  BND (binv .ptr .eql t24_4 (Value.pointer none)) fun t32_9 =>
  BND (grd (isB t32_9 false) (some t29_7)) fun t34_10 =>
  BND (grd (isB t32_9 false) (binv .ptr .eql t34_10 (Value.pointer none))) fun t35_11 =>
  BND (pickv t32_9 (Value.bool true) t35_11) fun t36_12 =>
  BND (grd (isB t36_12 false) (some l_p1)) fun t38_13 =>
  GEF (isB t36_12 false) (fun k_ => CALL PR F_tumbrellaw17_large [t38_13] w3 k_) w3 fun t39_14 w4 =>
  BND (pickv t36_12 (Value.bool true) t39_14) fun t40_15 =>
  COND t40_15
  (R (Value.bool true) w4)
  (BND (lenl l_p1) fun t42_16 =>
  ∃ (J_17 : Value → World → Prop) (m_17 : Value → World → Nat), J_17 (Value.int .i64 0) w4 ∧ ∀ (_d_17 : Env) (t43_28 : Value) (w5 : World), J_17 t43_28 w5 →
  (BND (binv .int .lss t43_28 t42_16) fun t44_174 =>
  COND t44_174
  (BND (iaddr 6 l_p1 t43_28) fun t45_175 =>
  BND (loadn 6 w5 t45_175) fun t46_176 =>
  NEW (newv 37 w5 (Value.agg #[(Value.int .i64 0), (Value.int .i64 0), (Value.int .u64 0), (Value.slice none 0 0), (Value.slice none 0 0), (Value.slice none 0 0)])) fun x_177 w6 =>
  BND (storev 6 w6 x_177 t46_176) fun w7 =>
  BND (faddr 0 x_177) fun t47_178 =>
  BND (load1 w7 t47_178) fun t48_179 =>
  BND (binv .int .eql t48_179 (Value.int .i64 0)) fun t58_180 =>
  JOIN (α := Value → Value → World → Prop) (fun k_324 => COND t58_180
  (∃ S_325 : Nat → World → Prop,
  S_325 6 w7.drew ∧
  BND (faddr 2 x_177) fun t60_326 =>
  BND (faddr 2 x_177) fun t64_327 =>
  FLT (S_325 6) (fun w_ => load1 w_ t64_327) fun t65_328 =>
  BND (load1 w7.drew t60_326) fun t61_329 =>
  CALL PR F_events_Begin [t24_4, t61_329] w7.drew fun t62_330 w15 =>
  S_325 6 w15 ∧
  CALL PR F_tumbrelref17_Begin [t29_7, t65_328] w15 fun t66_331 w16 =>
  k_324 t62_330 t66_331 w16)
  (BND (binv .int .eql t48_179 (Value.int .i64 1)) fun t68_332 =>
  JOIN (α := Value → Value → World → Prop) (fun k_442 => COND t68_332
  (∃ S_443 : Nat → World → Prop,
  S_443 8 w7.drew ∧
  S_443 10 w7.drew ∧
  BND (faddr 2 x_177) fun t70_444 =>
  BND (faddr 3 x_177) fun t72_445 =>
  BND (faddr 2 x_177) fun t76_446 =>
  FLT (S_443 8) (fun w_ => load1 w_ t76_446) fun t77_447 =>
  BND (faddr 3 x_177) fun t78_448 =>
  FLT (S_443 10) (fun w_ => load1 w_ t78_448) fun t79_449 =>
  BND (load1 w7.drew t70_444) fun t71_450 =>
  BND (load1 w7.drew t72_445) fun t73_451 =>
  CALL PR F_events_Append [t24_4, t71_450, t73_451] w7.drew fun t74_452 w18 =>
  S_443 8 w18 ∧
  S_443 10 w18 ∧
  CALL PR F_tumbrellaw17_own [t79_449] w18 fun t80_453 w19 =>
  S_443 8 w19 ∧
  CALL PR F_tumbrelref17_Append [t29_7, t77_447, t80_453] w19 fun t81_454 w20 =>
  k_442 t74_452 t81_454 w20)
  (BND (binv .int .eql t48_179 (Value.int .i64 2)) fun t83_455 =>
  JOIN (α := Value → Value → World → Prop) (fun k_550 => COND t83_455
  (∃ S_551 : Nat → World → Prop,
  S_551 6 w7.drew ∧
  BND (faddr 2 x_177) fun t85_552 =>
  BND (faddr 2 x_177) fun t89_553 =>
  FLT (S_551 6) (fun w_ => load1 w_ t89_553) fun t90_554 =>
  BND (load1 w7.drew t85_552) fun t86_555 =>
  CALL PR F_events_Sync [t24_4, t86_555] w7.drew fun t87_556 w22 =>
  S_551 6 w22 ∧
  CALL PR F_tumbrelref17_Sync [t29_7, t90_554] w22 fun t91_557 w23 =>
  k_550 t87_556 t91_557 w23)
  (BND (binv .int .eql t48_179 (Value.int .i64 3)) fun t93_558 =>
  JOIN (α := Value → Value → World → Prop) (fun k_643 => COND t93_558
  (BND (faddr 2 x_177) fun t96_644 =>
  BND (load1 w7 t96_644) fun t97_645 =>
  CALL PR F_events_Load [t24_4, t97_645] w7 fun t98_646 w25 =>
  BND (extractv t98_646 0) fun t99_647 =>
  BND (extractv t98_646 1) fun t100_648 =>
  BND (extractv t98_646 2) fun t101_649 =>
  BND (faddr 2 x_177) fun t104_650 =>
  BND (load1 w25 t104_650) fun t105_651 =>
  CALL PR F_tumbrelref17_Load [t29_7, t105_651] w25 fun t106_652 w26 =>
  BND (extractv t106_652 0) fun t107_653 =>
  BND (extractv t106_652 1) fun t108_654 =>
  BND (extractv t106_652 2) fun t109_655 =>
  CALL PR F_tumbrellaw17_own [t99_647] w26 fun t111_656 w27 =>
  CALL PR F_tumbrellaw17_same [t111_656, t107_653] w27 fun t113_657 w28 =>
  BND (unv .not t113_657) fun t114_658 =>
  BND (grd (isB t114_658 false) (some t100_648)) fun t116_659 =>
  BND (grd (isB t114_658 false) (some t108_654)) fun t117_660 =>
  GEF (isB t114_658 false) (fun k_ => CALL PR F_tumbrelref05_Ints [t116_659, t117_660] w28 k_) w28 fun t118_661 w29 =>
  BND (grd (isB t114_658 false) (unv .not t118_661)) fun t119_662 =>
  BND (pickv t114_658 (Value.bool true) t119_662) fun t120_663 =>
  COND t120_663
  (R (Value.bool false) w29)
  (k_643 t101_649 t109_655 w29))
  (BND (binv .int .eql t48_179 (Value.int .i64 4)) fun t124_664 =>
  JOIN (α := Value → Value → World → Prop) (fun k_711 => COND t124_664
  (∃ S_712 : Nat → World → Prop,
  S_712 8 w7.drew ∧
  S_712 10 w7.drew ∧
  BND (faddr 2 x_177) fun t126_713 =>
  BND (faddr 1 x_177) fun t128_714 =>
  BND (faddr 2 x_177) fun t132_715 =>
  FLT (S_712 8) (fun w_ => load1 w_ t132_715) fun t133_716 =>
  BND (faddr 1 x_177) fun t134_717 =>
  FLT (S_712 10) (fun w_ => load1 w_ t134_717) fun t135_718 =>
  BND (load1 w7.drew t126_713) fun t127_719 =>
  BND (load1 w7.drew t128_714) fun t129_720 =>
  CALL PR F_events_Cut [t24_4, t127_719, t129_720] w7.drew fun t130_721 w31 =>
  S_712 8 w31 ∧
  S_712 10 w31 ∧
  CALL PR F_tumbrelref17_Cut [t29_7, t133_716, t135_718] w31 fun t136_722 w32 =>
  k_711 t130_721 t136_722 w32)
  (BND (binv .int .eql t48_179 (Value.int .i64 5)) fun t138_723 =>
  JOIN (α := Value → Value → World → Prop) (fun k_756 => COND t138_723
  (BND (faddr 1 x_177) fun t140_757 =>
  BND (load1 w7 t140_757) fun t141_758 =>
  CALL PR F_disk_Disk_Fuse [t24_4, t141_758] w7 fun t142_759 w34 =>
  BND (faddr 1 x_177) fun t144_760 =>
  BND (load1 w34 t144_760) fun t145_761 =>
  CALL PR F_tumbrelref06_Disk_Fuse [t29_7, t145_761] w34 fun t146_762 w35 =>
  k_756 (Value.int .i64 0) (Value.int .i64 0) w35)
  (BND (binv .int .eql t48_179 (Value.int .i64 6)) fun t148_763 =>
  JOIN (α := Value → Value → World → Prop) (fun k_786 => COND t148_763
  (BND (faddr 1 x_177) fun t150_787 =>
  BND (load1 w7 t150_787) fun t151_788 =>
  BND (faddr 4 x_177) fun t152_789 =>
  BND (load1 w7 t152_789) fun t153_790 =>
  CALL PR F_disk_Disk_Crash [t24_4, t151_788, t153_790] w7 fun t154_791 w37 =>
  BND (faddr 1 x_177) fun t156_792 =>
  BND (load1 w37 t156_792) fun t157_793 =>
  BND (faddr 4 x_177) fun t158_794 =>
  BND (load1 w37 t158_794) fun t159_795 =>
  CALL PR F_tumbrelref06_Disk_Crash [t29_7, t157_793, t159_795] w37 fun t160_796 w38 =>
  k_786 (Value.int .i64 0) (Value.int .i64 0) w38)
  (∃ S_797 : Nat → World → Prop,
  S_797 6 w7.drew ∧
  BND (faddr 5 x_177) fun t50_798 =>
  BND (faddr 5 x_177) fun t54_799 =>
  FLT (S_797 6) (fun w_ => load1 w_ t54_799) fun t55_800 =>
  BND (load1 w7.drew t50_798) fun t51_801 =>
  CALL PR F_disk_Disk_Append [t24_4, (Value.string { data := #[101, 46, 49] }), t51_801] w7.drew fun t52_802 w39 =>
  S_797 6 w39 ∧
  CALL PR F_tumbrelref06_Disk_Append [t29_7, (Value.string { data := #[101, 46, 49] }), t55_800] w39 fun t56_803 w40 =>
  k_786 t52_802 t56_803 w40))
  (fun e_764 f_765 w36 => k_756 e_764 f_765 w36)))
  (fun e_724 f_725 w33 => k_711 e_724 f_725 w33)))
  (fun e_665 f_666 w30 => k_643 e_665 f_666 w30)))
  (fun e_560 f_561 w24 => k_550 e_560 f_561 w24)))
  (fun e_457 f_458 w21 => k_442 e_457 f_458 w21)))
  (fun e_334 f_335 w17 => k_324 e_334 f_335 w17)))
  (fun e_182 f_183 w8 => ∃ S_300 : Nat → World → Prop,
  S_300 24 w8.drew ∧
  BND (binv .int .neq e_182 f_183) fun t163_301 =>
  BND (grd (isB t163_301 false) (some t24_4)) fun t165_302 =>
  BND (grd (isB t163_301 false) (some t29_7)) fun t167_303 =>
  GEF (isB t163_301 false) (fun k_ => CALL PR F_disk_Disk_Names [t165_302] w8.drew k_) w8.drew fun t166_304 w9 =>
  S_300 24 w9 ∧
  GEF (isB t163_301 false) (fun k_ => CALL PR F_tumbrelref06_Disk_Names [t167_303] w9 k_) w9 fun t168_305 w10 =>
  S_300 24 w10 ∧
  GEF (isB t163_301 false) (fun k_ => CALL PR F_tumbrelref06_Same [t166_304, t168_305] w10 k_) w10 fun t169_306 w11 =>
  S_300 24 w11 ∧
  BND (grd (isB t163_301 false) (unv .not t169_306)) fun t170_307 =>
  BND (pickv t163_301 (Value.bool true) t170_307) fun t171_308 =>
  BND (grd (isB t171_308 false) (some t24_4)) fun t173_309 =>
  BND (grd (isB t171_308 false) (some t29_7)) fun t175_310 =>
  GEF (isB t171_308 false) (fun k_ => CALL PR F_disk_Disk_Held [t173_309] w11 k_) w11 fun t174_311 w12 =>
  S_300 24 w12 ∧
  GEF (isB t171_308 false) (fun k_ => CALL PR F_tumbrelref06_Disk_Held [t175_310] w12 k_) w12 fun t176_312 w13 =>
  S_300 24 w13 ∧
  BND (grd (isB t171_308 false) (binv .int .neq t174_311 t176_312)) fun t177_313 =>
  BND (pickv t171_308 (Value.bool true) t177_313) fun t178_314 =>
  BND (grd (isB t178_314 false) (some t24_4)) fun t180_315 =>
  BND (grd (isB t178_314 false) (some t29_7)) fun t182_316 =>
  BND (grd (isB t178_314 false) (nilchk t182_316)) fun t183_317 =>
  BND (grd (isB t178_314 false) (faddr 4 t183_317)) fun t184_318 =>
  FLT (S_300 24) (fun w_ => (grd (isB t178_314 false) (load1 w_ t184_318))) fun t185_319 =>
  GEF (isB t178_314 false) (fun k_ => CALL PR F_disk_Disk_Down [t180_315] w13 k_) w13 fun t181_320 w14 =>
  S_300 24 w14 ∧
  BND (grd (isB t178_314 false) (binv .bool .neq t181_320 t185_319)) fun t186_321 =>
  BND (pickv t178_314 (Value.bool true) t186_321) fun t187_322 =>
  COND t187_322
  (R (Value.bool false) w14)
  (BND (binv .int .add t43_28 (Value.int .i64 1)) fun t188_323 =>
  (J_17 t188_323 w14 ∧ m_17 t188_323 w14 < m_17 t43_28 w5))))
  (R (Value.bool true) w5))))
def ann_tumbrellaw17_EventsDo : List (Nat × List Nat) := [(12, [0, 1, 4, 5, 6, 2, 3, 7, 8, 9]), (14, [0, 1, 4, 5, 6, 2, 3, 7, 8, 9]), (16, [0, 1, 3, 6, 7, 8, 9, 10, 2, 4, 5, 11, 12, 13, 14]), (18, [0, 1, 4, 5, 6, 2, 3, 7, 8, 9]), (26, [0, 1, 3, 6, 7, 8, 9, 10, 2, 4, 5, 11, 12, 13]), (33, [0, 1, 2, 3, 4, 6, 5, 7, 8, 9, 10, 11, 12, 14, 13, 15, 16, 17, 18, 19, 21, 22, 23, 24, 20, 25, 26]), (1000008, [43]), (2000012, [6]), (2000014, [6]), (2000016, [8, 10]), (2000018, [6]), (2000026, [8, 10]), (2000033, [24]), (3012003, [6]), (3014003, [6]), (3016005, [8, 10]), (3016011, [8]), (3018003, [6]), (3026005, [8, 10]), (3033005, [24]), (3033007, [24]), (3033008, [24]), (3033013, [24]), (3033015, [24]), (3033020, [24])]
theorem E_tumbrellaw17_EventsDo (room_p0 l_p1 : Value) (w : World) (R : Value → World → Prop) : M_tumbrellaw17_EventsDo room_p0 l_p1 w R = den PR ann_tumbrellaw17_EventsDo (bodyOf Tryz.f3) (retQ PR Tryz.f3.results.toList R) (env0 [room_p0, l_p1]) w := by kernel_rfl
theorem C_tumbrellaw17_EventsDo {room_p0 l_p1 : Value} {w : World} {R : Value → World → Prop} (h : M_tumbrellaw17_EventsDo room_p0 l_p1 w R) : CALL PR F_tumbrellaw17_EventsDo [room_p0, l_p1] w R :=
  call_of_den2 ann_tumbrellaw17_EventsDo Tryz.func3 (by kernel_rfl) (by kernel_rfl) (by kernel_rfl) ((E_tumbrellaw17_EventsDo room_p0 l_p1 w R) ▸ h)


-- 7 tumbrel.tumbrelref06.New
def M_tumbrelref06_New (room_p0 : Value) (w : World) (R : Value → World → Prop) : Prop :=
  BND (binv .int .lss room_p0 (Value.int .i64 16)) fun t5_1 =>
  BND (grd (isB t5_1 false) (some room_p0)) fun t7_2 =>
  BND (grd (isB t5_1 false) (binv .int .gtr t7_2 (Value.int .i64 1048576))) fun t8_3 =>
  BND (pickv t5_1 (Value.bool true) t8_3) fun t9_4 =>
  COND t9_4
  (R (.tuple #[(Value.pointer none), (Value.int .i64 1)]) w)
  (BND (newslice 120 #[(Value.string ByteArray.empty), (Value.int .i64 0)] 2 0 [] w) fun p_ => NEW p_ fun t11_5 w1 =>
  BND (newslice 77 #[(Value.slice none 0 0)] 1 1 [(0, 1, t11_5)] w1) fun p_ => NEW p_ fun t12_6 w2 =>
  BND (buildv #[(Value.int .i64 0), (Value.slice none 0 0), (Value.slice none 0 0), (Value.int .i64 0), (Value.bool false)] [(0, 1, room_p0), (2, 1, t12_6), (3, 1, (Value.int .i64 (-1)))]) fun t13_7 =>
  NEW (newv 62 w2 t13_7) fun t14_8 w3 =>
  R (.tuple #[t14_8, (Value.int .i64 0)]) w3)
def ann_tumbrelref06_New : List (Nat × List Nat) := []
theorem E_tumbrelref06_New (room_p0 : Value) (w : World) (R : Value → World → Prop) : M_tumbrelref06_New room_p0 w R = den PR ann_tumbrelref06_New (bodyOf Tryz.f7) (retQ PR Tryz.f7.results.toList R) (env0 [room_p0]) w := by kernel_rfl
theorem C_tumbrelref06_New {room_p0 : Value} {w : World} {R : Value → World → Prop} (h : M_tumbrelref06_New room_p0 w R) : CALL PR F_tumbrelref06_New [room_p0] w R :=
  call_of_den2 ann_tumbrelref06_New Tryz.func7 (by kernel_rfl) (by kernel_rfl) (by kernel_rfl) ((E_tumbrelref06_New room_p0 w R) ▸ h)


-- 8 tumbrel.tumbrellaw17.large
def M_tumbrellaw17_large (l_p0 : Value) (w : World) (R : Value → World → Prop) : Prop :=
  BND (lenl l_p0) fun t6_1 =>
  BND (binv .int .gtr t6_1 (Value.int .i64 40)) fun t7_2 =>
  COND t7_2
  (R (Value.bool true) w)
  (BND (lenl l_p0) fun t9_3 =>
  ∃ (J_4 : Value → World → Prop) (m_4 : Value → World → Nat), J_4 (Value.int .i64 0) w ∧ ∀ (_d_4 : Env) (t10_7 : Value) (w1 : World), J_4 t10_7 w1 →
  (BND (binv .int .lss t10_7 t9_3) fun t11_26 =>
  COND t11_26
  (BND (iaddr 6 l_p0 t10_7) fun t12_27 =>
  BND (loadn 6 w1 t12_27) fun t13_28 =>
  NEW (newv 37 w1 (Value.agg #[(Value.int .i64 0), (Value.int .i64 0), (Value.int .u64 0), (Value.slice none 0 0), (Value.slice none 0 0), (Value.slice none 0 0)])) fun x_29 w2 =>
  BND (storev 6 w2 x_29 t13_28) fun w3 =>
  BND (faddr 3 x_29) fun t14_30 =>
  BND (load1 w3 t14_30) fun t15_31 =>
  CALL PR F_tumbrellaw17_own [t15_31] w3 fun t16_32 w4 =>
  CALL PR F_tumbrelref12_Large [t16_32, (Value.int .i64 20)] w4 fun t17_33 w5 =>
  BND (grd (isB t17_33 false) (faddr 4 x_29)) fun t19_34 =>
  BND (grd (isB t17_33 false) (load1 w5 t19_34)) fun t20_35 =>
  BND (grd (isB t17_33 false) (lenl t20_35)) fun t21_36 =>
  BND (grd (isB t17_33 false) (faddr 5 x_29)) fun t22_37 =>
  BND (grd (isB t17_33 false) (load1 w5 t22_37)) fun t23_38 =>
  BND (grd (isB t17_33 false) (lenl t23_38)) fun t24_39 =>
  BND (grd (isB t17_33 false) (binv .int .add t21_36 t24_39)) fun t25_40 =>
  BND (grd (isB t17_33 false) (binv .int .gtr t25_40 (Value.int .i64 300))) fun t26_41 =>
  BND (pickv t17_33 (Value.bool true) t26_41) fun t27_42 =>
  COND t27_42
  (R (Value.bool true) w5)
  (BND (binv .int .add t10_7 (Value.int .i64 1)) fun t28_43 =>
  (J_4 t28_43 w5 ∧ m_4 t28_43 w5 < m_4 t10_7 w1)))
  (R (Value.bool false) w1)))
def ann_tumbrellaw17_large : List (Nat × List Nat) := [(1000004, [10])]
theorem E_tumbrellaw17_large (l_p0 : Value) (w : World) (R : Value → World → Prop) : M_tumbrellaw17_large l_p0 w R = den PR ann_tumbrellaw17_large (bodyOf Tryz.f8) (retQ PR Tryz.f8.results.toList R) (env0 [l_p0]) w := by kernel_rfl
theorem C_tumbrellaw17_large {l_p0 : Value} {w : World} {R : Value → World → Prop} (h : M_tumbrellaw17_large l_p0 w R) : CALL PR F_tumbrellaw17_large [l_p0] w R :=
  call_of_den2 ann_tumbrellaw17_large Tryz.func8 (by kernel_rfl) (by kernel_rfl) (by kernel_rfl) ((E_tumbrellaw17_large l_p0 w R) ▸ h)


-- 10 tumbrel.tumbrelref17.Begin
def M_tumbrelref17_Begin (d_p0 gen_p1 : Value) (w : World) (R : Value → World → Prop) : Prop :=
  CALL PR F_tumbrelref14_Of [(Value.int .u8 101), gen_p1] w fun t9_1 w1 =>
  BND (extractv t9_1 0) fun t10_2 =>
  BND (extractv t9_1 1) fun t11_3 =>
  BND (binv .int .neq t11_3 (Value.int .i64 0)) fun t13_4 =>
  COND t13_4
  (R t11_3 w1)
  (CALL PR F_tumbrelref06_Disk_Create [d_p0, t10_2] w1 fun t17_5 w2 =>
  BND (binv .int .neq t17_5 (Value.int .i64 0)) fun t19_6 =>
  COND t19_6
  (R t17_5 w2)
  (CALL PR F_tumbrelref06_Disk_Sync [d_p0, t10_2] w2 fun t23_7 w3 =>
  R t23_7 w3))
def ann_tumbrelref17_Begin : List (Nat × List Nat) := []
theorem E_tumbrelref17_Begin (d_p0 gen_p1 : Value) (w : World) (R : Value → World → Prop) : M_tumbrelref17_Begin d_p0 gen_p1 w R = den PR ann_tumbrelref17_Begin (bodyOf Tryz.f10) (retQ PR Tryz.f10.results.toList R) (env0 [d_p0, gen_p1]) w := by kernel_rfl
theorem C_tumbrelref17_Begin {d_p0 gen_p1 : Value} {w : World} {R : Value → World → Prop} (h : M_tumbrelref17_Begin d_p0 gen_p1 w R) : CALL PR F_tumbrelref17_Begin [d_p0, gen_p1] w R :=
  call_of_den2 ann_tumbrelref17_Begin Tryz.func10 (by kernel_rfl) (by kernel_rfl) (by kernel_rfl) ((E_tumbrelref17_Begin d_p0 gen_p1 w R) ▸ h)


-- 12 tumbrel.tumbrelref17.Append
def M_tumbrelref17_Append (d_p0 gen_p1 l_p2 : Value) (w : World) (R : Value → World → Prop) : Prop :=
  CALL PR F_tumbrelref14_Of [(Value.int .u8 101), gen_p1] w fun t17_1 w1 =>
  BND (extractv t17_1 0) fun t18_2 =>
  BND (extractv t17_1 1) fun t19_3 =>
  BND (binv .int .neq t19_3 (Value.int .i64 0)) fun t21_4 =>
  COND t21_4
  (R t19_3 w1)
  (BND (newslice 5 #[(Value.int .u8 0)] 1 0 [] w1) fun p_ => NEW p_ fun t23_5 w2 =>
  ∃ (J_6 : Value → Value → World → Prop) (m_6 : Value → Value → World → Nat), J_6 t23_5 (Value.int .i64 0) w2 ∧ ∀ (_d_6 : Env) (all_8 i_9 : Value) (w3 : World), J_6 all_8 i_9 w3 →
  (BND (lenl l_p2) fun t26_39 =>
  BND (binv .int .lss i_9 t26_39) fun t27_40 =>
  COND t27_40
  (BND (iaddr 8 l_p2 i_9) fun t33_41 =>
  BND (loadn 8 w3 t33_41) fun t34_42 =>
  CALL PR F_tumbrelref12_Record [t34_42] w3 fun t35_43 w4 =>
  BND (extractv t35_43 0) fun t36_44 =>
  BND (extractv t35_43 1) fun t37_45 =>
  NEW (newv 90 w4 (Value.agg #[(Value.int .i64 0), (Value.slice none 0 0), (Value.string ByteArray.empty)])) fun r_46 w5 =>
  BND (storev 3 w5 r_46 t36_44) fun w6 =>
  BND (binv .int .neq t37_45 (Value.int .i64 0)) fun t39_47 =>
  COND t39_47
  (R t37_45 w6)
  (BND (loadn 3 w6 r_46) fun t42_48 =>
  CALL PR F_tumbrelref05_Bytes [t42_48] w6 fun t43_49 w7 =>
  BND (extractv t43_49 0) fun t44_50 =>
  BND (extractv t43_49 1) fun t45_51 =>
  APPEND 5 1 1 (Value.int .u8 0) all_8 t44_50 w7 fun t48_52 w8 =>
  BND (binv .int .add i_9 (Value.int .i64 1)) fun t29_53 =>
  (J_6 t48_52 t29_53 w8 ∧ m_6 t48_52 t29_53 w8 < m_6 all_8 i_9 w3)))
  (CALL PR F_tumbrelref06_Disk_Append [d_p0, t18_2, all_8] w3 fun t52_54 w9 =>
  R t52_54 w9)))
def ann_tumbrelref17_Append : List (Nat × List Nat) := [(1000006, [9, 10])]
theorem E_tumbrelref17_Append (d_p0 gen_p1 l_p2 : Value) (w : World) (R : Value → World → Prop) : M_tumbrelref17_Append d_p0 gen_p1 l_p2 w R = den PR ann_tumbrelref17_Append (bodyOf Tryz.f12) (retQ PR Tryz.f12.results.toList R) (env0 [d_p0, gen_p1, l_p2]) w := by kernel_rfl
theorem C_tumbrelref17_Append {d_p0 gen_p1 l_p2 : Value} {w : World} {R : Value → World → Prop} (h : M_tumbrelref17_Append d_p0 gen_p1 l_p2 w R) : CALL PR F_tumbrelref17_Append [d_p0, gen_p1, l_p2] w R :=
  call_of_den2 ann_tumbrelref17_Append Tryz.func12 (by kernel_rfl) (by kernel_rfl) (by kernel_rfl) ((E_tumbrelref17_Append d_p0 gen_p1 l_p2 w R) ▸ h)


-- 15 tumbrel.tumbrelref17.Sync
def M_tumbrelref17_Sync (d_p0 gen_p1 : Value) (w : World) (R : Value → World → Prop) : Prop :=
  CALL PR F_tumbrelref14_Of [(Value.int .u8 101), gen_p1] w fun t9_1 w1 =>
  BND (extractv t9_1 0) fun t10_2 =>
  BND (extractv t9_1 1) fun t11_3 =>
  BND (binv .int .neq t11_3 (Value.int .i64 0)) fun t13_4 =>
  COND t13_4
  (R t11_3 w1)
  (CALL PR F_tumbrelref06_Disk_Sync [d_p0, t10_2] w1 fun t17_5 w2 =>
  R t17_5 w2)
def ann_tumbrelref17_Sync : List (Nat × List Nat) := []
theorem E_tumbrelref17_Sync (d_p0 gen_p1 : Value) (w : World) (R : Value → World → Prop) : M_tumbrelref17_Sync d_p0 gen_p1 w R = den PR ann_tumbrelref17_Sync (bodyOf Tryz.f15) (retQ PR Tryz.f15.results.toList R) (env0 [d_p0, gen_p1]) w := by kernel_rfl
theorem C_tumbrelref17_Sync {d_p0 gen_p1 : Value} {w : World} {R : Value → World → Prop} (h : M_tumbrelref17_Sync d_p0 gen_p1 w R) : CALL PR F_tumbrelref17_Sync [d_p0, gen_p1] w R :=
  call_of_den2 ann_tumbrelref17_Sync Tryz.func15 (by kernel_rfl) (by kernel_rfl) (by kernel_rfl) ((E_tumbrelref17_Sync d_p0 gen_p1 w R) ▸ h)


-- 17 tumbrel.tumbrelref17.Load
def M_tumbrelref17_Load (d_p0 gen_p1 : Value) (w : World) (R : Value → World → Prop) : Prop :=
  CALL PR F_tumbrelref14_Of [(Value.int .u8 101), gen_p1] w fun t20_1 w1 =>
  BND (extractv t20_1 0) fun t21_2 =>
  BND (extractv t20_1 1) fun t22_3 =>
  BND (binv .int .neq t22_3 (Value.int .i64 0)) fun t24_4 =>
  COND t24_4
  (R (.tuple #[(Value.slice none 0 0), (Value.slice none 0 0), t22_3]) w1)
  (CALL PR F_tumbrelref06_Disk_Read [d_p0, t21_2] w1 fun t29_5 w2 =>
  BND (extractv t29_5 0) fun t30_6 =>
  BND (extractv t29_5 1) fun t31_7 =>
  BND (binv .int .neq t31_7 (Value.int .i64 0)) fun t33_8 =>
  COND t33_8
  (R (.tuple #[(Value.slice none 0 0), (Value.slice none 0 0), t31_7]) w2)
  (CALL PR F_tumbrelref05_All [t30_6] w2 fun t37_9 w3 =>
  BND (extractv t37_9 0) fun t38_10 =>
  BND (extractv t37_9 1) fun t39_11 =>
  BND (extractv t37_9 2) fun t40_12 =>
  BND (newslice 95 #[(Value.int .i64 0), (Value.int .i64 0), (Value.int .u64 0), (Value.int .u64 0), (Value.string ByteArray.empty), (Value.int .u64 0), (Value.int .u64 0), (Value.int .i64 0)] 8 0 [] w3) fun p_ => NEW p_ fun t41_13 w4 =>
  ∃ (J_14 : Value → Value → World → Prop) (m_14 : Value → Value → World → Nat), J_14 t41_13 (Value.int .i64 0) w4 ∧ ∀ (_d_14 : Env) (out_18 i_19 : Value) (w5 : World), J_14 out_18 i_19 w5 →
  (BND (lenl t38_10) fun t44_43 =>
  BND (binv .int .lss i_19 t44_43) fun t45_44 =>
  COND t45_44
  (BND (iaddr 3 t38_10 i_19) fun t51_45 =>
  BND (loadn 3 w5 t51_45) fun t52_46 =>
  CALL PR F_tumbrelref12_Of [t52_46] w5 fun t53_47 w6 =>
  BND (extractv t53_47 0) fun t54_48 =>
  BND (extractv t53_47 1) fun t55_49 =>
  NEW (newv 95 w6 (Value.agg #[(Value.int .i64 0), (Value.int .i64 0), (Value.int .u64 0), (Value.int .u64 0), (Value.string ByteArray.empty), (Value.int .u64 0), (Value.int .u64 0), (Value.int .i64 0)])) fun o_50 w7 =>
  BND (storev 8 w7 o_50 t54_48) fun w8 =>
  BND (binv .int .neq t55_49 (Value.int .i64 0)) fun t57_51 =>
  COND t57_51
  (R (.tuple #[(Value.slice none 0 0), (Value.slice none 0 0), t55_49]) w8)
  (BND (loadn 8 w8 o_50) fun t60_52 =>
  BND (newslice 95 #[(Value.int .i64 0), (Value.int .i64 0), (Value.int .u64 0), (Value.int .u64 0), (Value.string ByteArray.empty), (Value.int .u64 0), (Value.int .u64 0), (Value.int .i64 0)] 8 1 [(0, 8, t60_52)] w8) fun p_ => NEW p_ fun t61_53 w9 =>
  APPEND 95 8 72 (Value.agg #[(Value.int .i64 0), (Value.int .i64 0), (Value.int .u64 0), (Value.int .u64 0), (Value.string ByteArray.empty), (Value.int .u64 0), (Value.int .u64 0), (Value.int .i64 0)]) out_18 t61_53 w9 fun t62_54 w10 =>
  BND (binv .int .add i_19 (Value.int .i64 1)) fun t47_55 =>
  (J_14 t62_54 t47_55 w10 ∧ m_14 t62_54 t47_55 w10 < m_14 out_18 i_19 w5)))
  (BND (binv .int .neq t40_12 (Value.int .i64 0)) fun t64_56 =>
  BND (grd (isB t64_56 true) (some t40_12)) fun t66_57 =>
  BND (grd (isB t64_56 true) (binv .int .neq t66_57 (Value.int .i64 3))) fun t67_58 =>
  BND (pickv t64_56 t67_58 (Value.bool false)) fun t68_59 =>
  COND t68_59
  (R (.tuple #[(Value.slice none 0 0), (Value.slice none 0 0), t40_12]) w5)
  (R (.tuple #[out_18, t39_11, (Value.int .i64 0)]) w5)))))
def ann_tumbrelref17_Load : List (Nat × List Nat) := [(1000010, [14, 15])]
theorem E_tumbrelref17_Load (d_p0 gen_p1 : Value) (w : World) (R : Value → World → Prop) : M_tumbrelref17_Load d_p0 gen_p1 w R = den PR ann_tumbrelref17_Load (bodyOf Tryz.f17) (retQ PR Tryz.f17.results.toList R) (env0 [d_p0, gen_p1]) w := by kernel_rfl
theorem C_tumbrelref17_Load {d_p0 gen_p1 : Value} {w : World} {R : Value → World → Prop} (h : M_tumbrelref17_Load d_p0 gen_p1 w R) : CALL PR F_tumbrelref17_Load [d_p0, gen_p1] w R :=
  call_of_den2 ann_tumbrelref17_Load Tryz.func17 (by kernel_rfl) (by kernel_rfl) (by kernel_rfl) ((E_tumbrelref17_Load d_p0 gen_p1 w R) ▸ h)


-- 21 tumbrel.tumbrelref17.Cut
def M_tumbrelref17_Cut (d_p0 gen_p1 end_p2 : Value) (w : World) (R : Value → World → Prop) : Prop :=
  CALL PR F_tumbrelref14_Of [(Value.int .u8 101), gen_p1] w fun t13_1 w1 =>
  BND (extractv t13_1 0) fun t14_2 =>
  BND (extractv t13_1 1) fun t15_3 =>
  BND (binv .int .neq t15_3 (Value.int .i64 0)) fun t17_4 =>
  COND t17_4
  (R t15_3 w1)
  (CALL PR F_tumbrelref06_Disk_Read [d_p0, t14_2] w1 fun t22_5 w2 =>
  BND (extractv t22_5 0) fun t23_6 =>
  BND (extractv t22_5 1) fun t24_7 =>
  BND (binv .int .neq t24_7 (Value.int .i64 0)) fun t26_8 =>
  COND t26_8
  (R t24_7 w2)
  (BND (lenl t23_6) fun t29_9 =>
  BND (binv .int .leq t29_9 end_p2) fun t31_10 =>
  COND t31_10
  (R (Value.int .i64 0) w2)
  (CALL PR F_tumbrelref06_Disk_Cut [d_p0, t14_2, end_p2] w2 fun t35_11 w3 =>
  R t35_11 w3)))
def ann_tumbrelref17_Cut : List (Nat × List Nat) := []
theorem E_tumbrelref17_Cut (d_p0 gen_p1 end_p2 : Value) (w : World) (R : Value → World → Prop) : M_tumbrelref17_Cut d_p0 gen_p1 end_p2 w R = den PR ann_tumbrelref17_Cut (bodyOf Tryz.f21) (retQ PR Tryz.f21.results.toList R) (env0 [d_p0, gen_p1, end_p2]) w := by kernel_rfl
theorem C_tumbrelref17_Cut {d_p0 gen_p1 end_p2 : Value} {w : World} {R : Value → World → Prop} (h : M_tumbrelref17_Cut d_p0 gen_p1 end_p2 w R) : CALL PR F_tumbrelref17_Cut [d_p0, gen_p1, end_p2] w R :=
  call_of_den2 ann_tumbrelref17_Cut Tryz.func21 (by kernel_rfl) (by kernel_rfl) (by kernel_rfl) ((E_tumbrelref17_Cut d_p0 gen_p1 end_p2 w R) ▸ h)


-- 22 (*tumbrel.disk.Disk).Fuse
def M_disk_Disk_Fuse (d_p0 n_p1 : Value) (w : World) (R : Value → World → Prop) : Prop :=
  BND (max2v n_p1 (Value.int .i64 (-1))) fun t6_1 =>
  BND (nilchk d_p0) fun t7_2 =>
  BND (faddr 3 t7_2) fun t8_3 =>
  BND (storev 1 w t8_3 t6_1) fun w1 =>
  R (.tuple #[]) w1
def ann_disk_Disk_Fuse : List (Nat × List Nat) := []
theorem E_disk_Disk_Fuse (d_p0 n_p1 : Value) (w : World) (R : Value → World → Prop) : M_disk_Disk_Fuse d_p0 n_p1 w R = den PR ann_disk_Disk_Fuse (bodyOf Tryz.f22) (retQ PR Tryz.f22.results.toList R) (env0 [d_p0, n_p1]) w := by kernel_rfl
theorem C_disk_Disk_Fuse {d_p0 n_p1 : Value} {w : World} {R : Value → World → Prop} (h : M_disk_Disk_Fuse d_p0 n_p1 w R) : CALL PR F_disk_Disk_Fuse [d_p0, n_p1] w R :=
  call_of_den2 ann_disk_Disk_Fuse Tryz.func22 (by kernel_rfl) (by kernel_rfl) (by kernel_rfl) ((E_disk_Disk_Fuse d_p0 n_p1 w R) ▸ h)


-- 23 (*tumbrel.tumbrelref06.Disk).Fuse
def M_tumbrelref06_Disk_Fuse (d_p0 n_p1 : Value) (w : World) (R : Value → World → Prop) : Prop :=
  BND (max2v n_p1 (Value.int .i64 (-1))) fun t6_1 =>
  BND (nilchk d_p0) fun t7_2 =>
  BND (faddr 3 t7_2) fun t8_3 =>
  BND (storev 1 w t8_3 t6_1) fun w1 =>
  R (.tuple #[]) w1
def ann_tumbrelref06_Disk_Fuse : List (Nat × List Nat) := []
theorem E_tumbrelref06_Disk_Fuse (d_p0 n_p1 : Value) (w : World) (R : Value → World → Prop) : M_tumbrelref06_Disk_Fuse d_p0 n_p1 w R = den PR ann_tumbrelref06_Disk_Fuse (bodyOf Tryz.f23) (retQ PR Tryz.f23.results.toList R) (env0 [d_p0, n_p1]) w := by kernel_rfl
theorem C_tumbrelref06_Disk_Fuse {d_p0 n_p1 : Value} {w : World} {R : Value → World → Prop} (h : M_tumbrelref06_Disk_Fuse d_p0 n_p1 w R) : CALL PR F_tumbrelref06_Disk_Fuse [d_p0, n_p1] w R :=
  call_of_den2 ann_tumbrelref06_Disk_Fuse Tryz.func23 (by kernel_rfl) (by kernel_rfl) (by kernel_rfl) ((E_tumbrelref06_Disk_Fuse d_p0 n_p1 w R) ▸ h)


-- 25 (*tumbrel.tumbrelref06.Disk).Crash
def M_tumbrelref06_Disk_Crash (d_p0 open_p1 tails_p2 : Value) (w : World) (R : Value → World → Prop) : Prop :=
  BND (max2v open_p1 (Value.int .i64 0)) fun t12_1 =>
  BND (nilchk d_p0) fun t14_2 =>
  BND (faddr 2 t14_2) fun t15_3 =>
  BND (load1 w t15_3) fun t16_4 =>
  BND (lenl t16_4) fun t17_5 =>
  BND (binv .int .sub t17_5 (Value.int .i64 1)) fun t18_6 =>
  BND (min2v t12_1 t18_6) fun t19_7 =>
  BND (nilchk d_p0) fun t22_8 =>
  BND (faddr 2 t22_8) fun t23_9 =>
  BND (load1 w t23_9) fun t24_10 =>
  BND (iaddr 1 t24_10 t19_7) fun t26_11 =>
  BND (load1 w t26_11) fun t27_12 =>
  BND (newslice 77 #[(Value.slice none 0 0)] 1 1 [(0, 1, t27_12)] w) fun p_ => NEW p_ fun t28_13 w1 =>
  BND (nilchk d_p0) fun t29_14 =>
  BND (faddr 2 t29_14) fun t30_15 =>
  BND (storev 1 w1 t30_15 t28_13) fun w2 =>
  BND (nilchk d_p0) fun t32_16 =>
  BND (faddr 3 t32_16) fun t33_17 =>
  BND (storev 1 w2 t33_17 (Value.int .i64 (-1))) fun w3 =>
  BND (nilchk d_p0) fun t35_18 =>
  BND (faddr 4 t35_18) fun t36_19 =>
  BND (storev 1 w3 t36_19 (Value.bool false)) fun w4 =>
  CALL PR F_tumbrelref06_Disk_now [d_p0] w4 fun t38_20 w5 =>
  ∃ (J_21 : Value → World → Prop) (m_21 : Value → World → Nat), J_21 (Value.int .i64 0) w5 ∧ ∀ (_d_21 : Env) (i_22 : Value) (w6 : World), J_21 i_22 w6 →
  (BND (lenl t38_20) fun t41_82 =>
  BND (binv .int .lss i_22 t41_82) fun t42_83 =>
  COND t42_83
  (∃ S_84 : Nat → World → Prop,
  S_84 3 w6.drew ∧
  S_84 8 w6.drew ∧
  S_84 10 w6.drew ∧
  BND (nilchk d_p0) fun t46_85 =>
  BND (faddr 1 t46_85) fun t47_86 =>
  FLT (S_84 3) (fun w_ => load1 w_ t47_86) fun t48_87 =>
  BND (iaddr 2 t38_20 i_22) fun t51_88 =>
  BND (faddr 1 t51_88) fun t52_89 =>
  FLT (S_84 8) (fun w_ => load1 w_ t52_89) fun t53_90 =>
  BND (iaddr 2 t48_87 t53_90) fun t54_91 =>
  FLT (S_84 10) (fun w_ => loadn 2 w_ t54_91) fun t55_92 =>
  NEW (newv 118 w6.drew (Value.agg #[(Value.slice none 0 0), (Value.int .i64 0)])) fun f_93 w7 =>
  S_84 3 w7 ∧
  S_84 8 w7 ∧
  S_84 10 w7 ∧
  BND (storev 2 w7 f_93 t55_92) fun w8 =>
  BND (lenl tails_p2) fun t58_94 =>
  BND (binv .int .lss i_22 t58_94) fun t59_95 =>
  JOIN (α := Value → World → Prop) (fun k_130 => COND t59_95
  (BND (iaddr 1 tails_p2 i_22) fun t62_131 =>
  BND (faddr 0 f_93) fun t65_132 =>
  BND (faddr 1 f_93) fun t68_133 =>
  BND (load1 w8.drew t62_131) fun t63_134 =>
  BND (max2v t63_134 (Value.int .i64 0)) fun t64_135 =>
  BND (load1 w8.drew t65_132) fun t66_136 =>
  BND (lenl t66_136) fun t67_137 =>
  BND (load1 w8.drew t68_133) fun t69_138 =>
  BND (binv .int .sub t67_137 t69_138) fun t70_139 =>
  BND (min2v t64_135 t70_139) fun t71_140 =>
  k_130 t71_140 w8.drew)
  (k_130 (Value.int .i64 0) w8))
  (fun tail_96 w9 => ∃ S_109 : Nat → World → Prop,
  S_109 3 w9.drew ∧
  S_109 8 w9.drew ∧
  S_109 11 w9.drew ∧
  S_109 13 w9.drew ∧
  S_109 19 w9.drew ∧
  BND (nilchk d_p0) fun t73_110 =>
  BND (faddr 1 t73_110) fun t74_111 =>
  FLT (S_109 3) (fun w_ => load1 w_ t74_111) fun t75_112 =>
  BND (iaddr 2 t38_20 i_22) fun t78_113 =>
  BND (faddr 1 t78_113) fun t79_114 =>
  FLT (S_109 8) (fun w_ => load1 w_ t79_114) fun t80_115 =>
  BND (faddr 0 f_93) fun t82_116 =>
  FLT (S_109 11) (fun w_ => load1 w_ t82_116) fun t83_117 =>
  BND (faddr 1 f_93) fun t84_118 =>
  FLT (S_109 13) (fun w_ => load1 w_ t84_118) fun t85_119 =>
  BND (binv .int .add t85_119 tail_96) fun t87_120 =>
  BND (slicev 1 t83_117 none (some t87_120)) fun t88_121 =>
  BND (faddr 1 f_93) fun t90_122 =>
  FLT (S_109 19) (fun w_ => load1 w_ t90_122) fun t91_123 =>
  BND (binv .int .add t91_123 tail_96) fun t93_124 =>
  BND (newslice 5 #[(Value.int .u8 0)] 1 0 [] w9.drew) fun p_ => NEW p_ fun t81_125 w10 =>
  S_109 3 w10 ∧
  S_109 8 w10 ∧
  S_109 11 w10 ∧
  S_109 13 w10 ∧
  S_109 19 w10 ∧
  APPEND 5 1 1 (Value.int .u8 0) t81_125 t88_121 w10 fun t89_126 w11 =>
  S_109 3 w11 ∧
  S_109 8 w11 ∧
  S_109 19 w11 ∧
  BND (buildv #[(Value.slice none 0 0), (Value.int .i64 0)] [(0, 1, t89_126), (1, 1, t93_124)]) fun t94_127 =>
  BND (iaddr 2 t75_112 t80_115) fun t95_128 =>
  BND (storev 2 w11 t95_128 t94_127) fun w12 =>
  BND (binv .int .add i_22 (Value.int .i64 1)) fun t44_129 =>
  (J_21 t44_129 w12 ∧ m_21 t44_129 w12 < m_21 i_22 w6)))
  (R (.tuple #[]) w6))
def ann_tumbrelref06_Disk_Crash : List (Nat × List Nat) := [(8, [0, 1, 2, 3, 4, 5, 6, 7, 8, 9, 10, 11, 12]), (11, [0, 1, 2, 5, 8, 3, 4, 6, 7, 9, 10, 11, 12]), (12, [0, 1, 2, 3, 4, 5, 6, 7, 8, 10, 11, 12, 13, 14, 15, 16, 18, 19, 20, 21, 9, 17, 22, 23, 24]), (1000006, [8]), (2000008, [3, 8, 10]), (2000012, [3, 8, 11, 13, 19]), (3008011, [3, 8, 10]), (3012009, [3, 8, 11, 13, 19]), (3012017, [3, 8, 19])]
theorem E_tumbrelref06_Disk_Crash (d_p0 open_p1 tails_p2 : Value) (w : World) (R : Value → World → Prop) : M_tumbrelref06_Disk_Crash d_p0 open_p1 tails_p2 w R = den PR ann_tumbrelref06_Disk_Crash (bodyOf Tryz.f25) (retQ PR Tryz.f25.results.toList R) (env0 [d_p0, open_p1, tails_p2]) w := by kernel_rfl
theorem C_tumbrelref06_Disk_Crash {d_p0 open_p1 tails_p2 : Value} {w : World} {R : Value → World → Prop} (h : M_tumbrelref06_Disk_Crash d_p0 open_p1 tails_p2 w R) : CALL PR F_tumbrelref06_Disk_Crash [d_p0, open_p1, tails_p2] w R :=
  call_of_den2 ann_tumbrelref06_Disk_Crash Tryz.func25 (by kernel_rfl) (by kernel_rfl) (by kernel_rfl) ((E_tumbrelref06_Disk_Crash d_p0 open_p1 tails_p2 w R) ▸ h)


-- 27 (*tumbrel.tumbrelref06.Disk).Append
def M_tumbrelref06_Disk_Append (d_p0 name_p1 b_p2 : Value) (w : World) (R : Value → World → Prop) : Prop :=
  CALL PR F_tumbrelref06_Disk_find [d_p0, name_p1] w fun t11_1 w1 =>
  BND (binv .int .lss t11_1 (Value.int .i64 0)) fun t13_2 =>
  JOIN (α := Value → World → Prop) (fun k_51 => COND t13_2
  (k_51 (Value.int .i64 5) w1)
  (∃ S_52 : Nat → World → Prop,
  S_52 8 w1.drew ∧
  BND (lenl b_p2) fun t17_53 =>
  BND (nilchk d_p0) fun t20_54 =>
  BND (faddr 0 t20_54) fun t21_55 =>
  FLT (S_52 8) (fun w_ => load1 w_ t21_55) fun t22_56 =>
  CALL PR F_tumbrelref06_Disk_Held [d_p0] w1.drew fun t15_57 w9 =>
  S_52 8 w9 ∧
  BND (binv .int .add t15_57 t17_53) fun t18_58 =>
  BND (binv .int .gtr t18_58 t22_56) fun t23_59 =>
  JOIN (α := Value → World → Prop) (fun k_61 => COND t23_59
  (k_61 (Value.int .i64 4) w9)
  (k_61 (Value.int .i64 0) w9))
  (fun e_60 w10 => k_51 e_60 w10)))
  (fun e_3 w2 => CALL PR F_tumbrelref06_Disk_can [d_p0, e_3] w2 fun t26_14 w3 =>
  BND (binv .int .eql t26_14 (Value.int .i64 0)) fun t28_15 =>
  JOIN (α := World → Prop) (fun k_35 => COND t28_15
  (∃ S_36 : Nat → World → Prop,
  S_36 3 w3.drew ∧
  S_36 9 w3.drew ∧
  S_36 13 w3.drew ∧
  BND (nilchk d_p0) fun t30_37 =>
  BND (faddr 1 t30_37) fun t31_38 =>
  FLT (S_36 3) (fun w_ => load1 w_ t31_38) fun t32_39 =>
  BND (nilchk d_p0) fun t36_40 =>
  BND (faddr 1 t36_40) fun t37_41 =>
  FLT (S_36 9) (fun w_ => load1 w_ t37_41) fun t38_42 =>
  BND (iaddr 2 t38_42 t11_1) fun t40_43 =>
  BND (faddr 0 t40_43) fun t41_44 =>
  FLT (S_36 13) (fun w_ => load1 w_ t41_44) fun t42_45 =>
  BND (newslice 5 #[(Value.int .u8 0)] 1 0 [] w3.drew) fun p_ => NEW p_ fun t34_46 w5 =>
  S_36 3 w5 ∧
  S_36 9 w5 ∧
  S_36 13 w5 ∧
  APPEND 5 1 1 (Value.int .u8 0) t34_46 t42_45 w5 fun t43_47 w6 =>
  S_36 3 w6 ∧
  APPEND 5 1 1 (Value.int .u8 0) t43_47 b_p2 w6 fun t45_48 w7 =>
  S_36 3 w7 ∧
  BND (iaddr 2 t32_39 t11_1) fun t46_49 =>
  BND (faddr 0 t46_49) fun t47_50 =>
  BND (storev 1 w7 t47_50 t45_48) fun w8 =>
  k_35 w8)
  (k_35 w3))
  (fun w4 => R t26_14 w4))
def ann_tumbrelref06_Disk_Append : List (Nat × List Nat) := [(5, [0, 2, 3, 5, 6, 7, 8, 1, 4, 9]), (9, [0, 1, 2, 3, 4, 6, 7, 8, 9, 10, 11, 12, 13, 15, 5, 14, 16, 17, 18, 19]), (2000005, [8]), (2000009, [3, 9, 13]), (3005001, [8]), (3009005, [3, 9, 13]), (3009014, [3]), (3009016, [3])]
theorem E_tumbrelref06_Disk_Append (d_p0 name_p1 b_p2 : Value) (w : World) (R : Value → World → Prop) : M_tumbrelref06_Disk_Append d_p0 name_p1 b_p2 w R = den PR ann_tumbrelref06_Disk_Append (bodyOf Tryz.f27) (retQ PR Tryz.f27.results.toList R) (env0 [d_p0, name_p1, b_p2]) w := by kernel_rfl
theorem C_tumbrelref06_Disk_Append {d_p0 name_p1 b_p2 : Value} {w : World} {R : Value → World → Prop} (h : M_tumbrelref06_Disk_Append d_p0 name_p1 b_p2 w R) : CALL PR F_tumbrelref06_Disk_Append [d_p0, name_p1, b_p2] w R :=
  call_of_den2 ann_tumbrelref06_Disk_Append Tryz.func27 (by kernel_rfl) (by kernel_rfl) (by kernel_rfl) ((E_tumbrelref06_Disk_Append d_p0 name_p1 b_p2 w R) ▸ h)


-- 28 tumbrel.tumbrelref06.Same
def M_tumbrelref06_Same (a_p0 b_p1 : Value) (w : World) (R : Value → World → Prop) : Prop :=
  BND (lenl a_p0) fun t7_1 =>
  BND (lenl b_p1) fun t9_2 =>
  BND (binv .int .neq t7_1 t9_2) fun t10_3 =>
  COND t10_3
  (R (Value.bool false) w)
  (∃ (J_4 : Value → World → Prop) (m_4 : Value → World → Nat), J_4 (Value.int .i64 0) w ∧ ∀ (_d_4 : Env) (i_6 : Value) (w1 : World), J_4 i_6 w1 →
  (BND (lenl a_p0) fun t13_22 =>
  BND (binv .int .lss i_6 t13_22) fun t14_23 =>
  COND t14_23
  (BND (iaddr 1 a_p0 i_6) fun t19_24 =>
  BND (iaddr 1 b_p1 i_6) fun t23_25 =>
  BND (load1 w1.drew t19_24) fun t20_26 =>
  BND (load1 w1.drew t23_25) fun t24_27 =>
  BND (binv .str .neq t20_26 t24_27) fun t25_28 =>
  COND t25_28
  (R (Value.bool false) w1.drew)
  (BND (binv .int .add i_6 (Value.int .i64 1)) fun t16_29 =>
  (J_4 t16_29 w1.drew ∧ m_4 t16_29 w1.drew < m_4 i_6 w1)))
  (R (Value.bool true) w1)))
def ann_tumbrelref06_Same : List (Nat × List Nat) := [(6, [0, 1, 2, 4, 5, 6, 3, 7, 8]), (1000004, [5])]
theorem E_tumbrelref06_Same (a_p0 b_p1 : Value) (w : World) (R : Value → World → Prop) : M_tumbrelref06_Same a_p0 b_p1 w R = den PR ann_tumbrelref06_Same (bodyOf Tryz.f28) (retQ PR Tryz.f28.results.toList R) (env0 [a_p0, b_p1]) w := by kernel_rfl
theorem C_tumbrelref06_Same {a_p0 b_p1 : Value} {w : World} {R : Value → World → Prop} (h : M_tumbrelref06_Same a_p0 b_p1 w R) : CALL PR F_tumbrelref06_Same [a_p0, b_p1] w R :=
  call_of_den2 ann_tumbrelref06_Same Tryz.func28 (by kernel_rfl) (by kernel_rfl) (by kernel_rfl) ((E_tumbrelref06_Same a_p0 b_p1 w R) ▸ h)


-- 30 (*tumbrel.tumbrelref06.Disk).Names
def M_tumbrelref06_Disk_Names (d_p0 : Value) (w : World) (R : Value → World → Prop) : Prop :=
  BND (newslice 9 #[(Value.string ByteArray.empty)] 1 0 [] w) fun p_ => NEW p_ fun t6_1 w1 =>
  CALL PR F_tumbrelref06_Disk_now [d_p0] w1 fun t8_2 w2 =>
  ∃ (J_3 : Value → Value → World → Prop) (m_3 : Value → Value → World → Nat), J_3 t6_1 (Value.int .i64 0) w2 ∧ ∀ (_d_3 : Env) (out_4 i_5 : Value) (w3 : World), J_3 out_4 i_5 w3 →
  (BND (lenl t8_2) fun t11_20 =>
  BND (binv .int .lss i_5 t11_20) fun t12_21 =>
  COND t12_21
  (BND (iaddr 2 t8_2 i_5) fun t18_22 =>
  BND (faddr 0 t18_22) fun t19_23 =>
  BND (load1 w3 t19_23) fun t20_24 =>
  BND (newslice 9 #[(Value.string ByteArray.empty)] 1 1 [(0, 1, t20_24)] w3) fun p_ => NEW p_ fun t21_25 w4 =>
  APPEND 9 1 16 (Value.string ByteArray.empty) out_4 t21_25 w4 fun t22_26 w5 =>
  BND (binv .int .add i_5 (Value.int .i64 1)) fun t14_27 =>
  (J_3 t22_26 t14_27 w5 ∧ m_3 t22_26 t14_27 w5 < m_3 out_4 i_5 w3))
  (R out_4 w3))
def ann_tumbrelref06_Disk_Names : List (Nat × List Nat) := [(1000004, [3, 5])]
theorem E_tumbrelref06_Disk_Names (d_p0 : Value) (w : World) (R : Value → World → Prop) : M_tumbrelref06_Disk_Names d_p0 w R = den PR ann_tumbrelref06_Disk_Names (bodyOf Tryz.f30) (retQ PR Tryz.f30.results.toList R) (env0 [d_p0]) w := by kernel_rfl
theorem C_tumbrelref06_Disk_Names {d_p0 : Value} {w : World} {R : Value → World → Prop} (h : M_tumbrelref06_Disk_Names d_p0 w R) : CALL PR F_tumbrelref06_Disk_Names [d_p0] w R :=
  call_of_den2 ann_tumbrelref06_Disk_Names Tryz.func30 (by kernel_rfl) (by kernel_rfl) (by kernel_rfl) ((E_tumbrelref06_Disk_Names d_p0 w R) ▸ h)


-- 32 (*tumbrel.tumbrelref06.Disk).Held
def M_tumbrelref06_Disk_Held (d_p0 : Value) (w : World) (R : Value → World → Prop) : Prop :=
  ∃ (J_1 : Value → Value → World → Prop) (m_1 : Value → Value → World → Nat), J_1 (Value.int .i64 0) (Value.int .i64 0) w ∧ ∀ (_d_1 : Env) (n_2 f_3 : Value) (w1 : World), J_1 n_2 f_3 w1 →
  (BND (nilchk d_p0) fun t10_65 =>
  BND (faddr 1 t10_65) fun t11_66 =>
  BND (load1 w1 t11_66) fun t12_67 =>
  BND (lenl t12_67) fun t13_68 =>
  BND (binv .int .lss f_3 t13_68) fun t14_69 =>
  COND t14_69
  (∃ (J_70 : Value → Value → World → Prop) (m_70 : Value → Value → World → Nat), J_70 (Value.bool false) (Value.int .i64 0) w1 ∧ ∀ (_d_70 : Env) (there_71 i_72 : Value) (w2 : World), J_70 there_71 i_72 w2 →
  (BND (nilchk d_p0) fun t19_111 =>
  BND (faddr 2 t19_111) fun t20_112 =>
  BND (load1 w2 t20_112) fun t21_113 =>
  BND (lenl t21_113) fun t22_114 =>
  BND (binv .int .lss i_72 t22_114) fun t23_115 =>
  COND t23_115
  (∃ (J_116 : Value → Value → World → Prop) (m_116 : Value → Value → World → Nat), J_116 there_71 (Value.int .i64 0) w2 ∧ ∀ (_d_116 : Env) (there_117 k_118 : Value) (w3 : World), J_116 there_117 k_118 w3 →
  (BND (nilchk d_p0) fun t28_147 =>
  BND (faddr 2 t28_147) fun t29_148 =>
  BND (load1 w3 t29_148) fun t30_149 =>
  BND (iaddr 1 t30_149 i_72) fun t32_150 =>
  BND (load1 w3 t32_150) fun t33_151 =>
  BND (lenl t33_151) fun t34_152 =>
  BND (binv .int .lss k_118 t34_152) fun t35_153 =>
  COND t35_153
  (BND (grd (isB there_117 false) (some d_p0)) fun t40_154 =>
  BND (grd (isB there_117 false) (nilchk t40_154)) fun t41_155 =>
  BND (grd (isB there_117 false) (faddr 2 t41_155)) fun t42_156 =>
  BND (grd (isB there_117 false) (load1 w3 t42_156)) fun t43_157 =>
  BND (grd (isB there_117 false) (some i_72)) fun t44_158 =>
  BND (grd (isB there_117 false) (iaddr 1 t43_157 t44_158)) fun t45_159 =>
  BND (grd (isB there_117 false) (load1 w3 t45_159)) fun t46_160 =>
  BND (grd (isB there_117 false) (some k_118)) fun t47_161 =>
  BND (grd (isB there_117 false) (iaddr 2 t46_160 t47_161)) fun t48_162 =>
  BND (grd (isB there_117 false) (faddr 1 t48_162)) fun t49_163 =>
  BND (grd (isB there_117 false) (load1 w3 t49_163)) fun t50_164 =>
  BND (grd (isB there_117 false) (some f_3)) fun t51_165 =>
  BND (grd (isB there_117 false) (binv .int .eql t50_164 t51_165)) fun t52_166 =>
  BND (pickv there_117 (Value.bool true) t52_166) fun t53_167 =>
  BND (binv .int .add k_118 (Value.int .i64 1)) fun t37_168 =>
  (J_116 t53_167 t37_168 w3 ∧ m_116 t53_167 t37_168 w3 < m_116 there_117 k_118 w3))
  (BND (binv .int .add i_72 (Value.int .i64 1)) fun t25_169 =>
  (J_70 there_117 t25_169 w3 ∧ m_70 there_117 t25_169 w3 < m_70 there_71 i_72 w2))))
  (JOIN (α := Value → World → Prop) (fun k_183 => COND there_71
  (BND (nilchk d_p0) fun t57_184 =>
  BND (faddr 1 t57_184) fun t58_185 =>
  BND (load1 w2 t58_185) fun t59_186 =>
  BND (iaddr 2 t59_186 f_3) fun t61_187 =>
  BND (faddr 0 t61_187) fun t62_188 =>
  BND (load1 w2 t62_188) fun t63_189 =>
  BND (lenl t63_189) fun t64_190 =>
  BND (binv .int .add n_2 t64_190) fun t65_191 =>
  k_183 t65_191 w2)
  (k_183 n_2 w2))
  (fun n_170 w4 => BND (binv .int .add f_3 (Value.int .i64 1)) fun t16_182 =>
  (J_1 n_170 t16_182 w4 ∧ m_1 n_170 t16_182 w4 < m_1 n_2 f_3 w1)))))
  (R n_2 w1))
def ann_tumbrelref06_Disk_Held : List (Nat × List Nat) := [(1000003, [3, 4]), (1000007, [5, 6]), (1000010, [5, 7])]
theorem E_tumbrelref06_Disk_Held (d_p0 : Value) (w : World) (R : Value → World → Prop) : M_tumbrelref06_Disk_Held d_p0 w R = den PR ann_tumbrelref06_Disk_Held (bodyOf Tryz.f32) (retQ PR Tryz.f32.results.toList R) (env0 [d_p0]) w := by kernel_rfl
theorem C_tumbrelref06_Disk_Held {d_p0 : Value} {w : World} {R : Value → World → Prop} (h : M_tumbrelref06_Disk_Held d_p0 w R) : CALL PR F_tumbrelref06_Disk_Held [d_p0] w R :=
  call_of_den2 ann_tumbrelref06_Disk_Held Tryz.func32 (by kernel_rfl) (by kernel_rfl) (by kernel_rfl) ((E_tumbrelref06_Disk_Held d_p0 w R) ▸ h)


-- 33 (*tumbrel.disk.Disk).Down
def M_disk_Disk_Down (d_p0 : Value) (w : World) (R : Value → World → Prop) : Prop :=
  BND (nilchk d_p0) fun t4_1 =>
  BND (faddr 4 t4_1) fun t5_2 =>
  BND (load1 w t5_2) fun t6_3 =>
  R t6_3 w
def ann_disk_Disk_Down : List (Nat × List Nat) := []
theorem E_disk_Disk_Down (d_p0 : Value) (w : World) (R : Value → World → Prop) : M_disk_Disk_Down d_p0 w R = den PR ann_disk_Disk_Down (bodyOf Tryz.f33) (retQ PR Tryz.f33.results.toList R) (env0 [d_p0]) w := by kernel_rfl
theorem C_disk_Disk_Down {d_p0 : Value} {w : World} {R : Value → World → Prop} (h : M_disk_Disk_Down d_p0 w R) : CALL PR F_disk_Disk_Down [d_p0] w R :=
  call_of_den2 ann_disk_Disk_Down Tryz.func33 (by kernel_rfl) (by kernel_rfl) (by kernel_rfl) ((E_disk_Disk_Down d_p0 w R) ▸ h)


-- 40 tumbrel.tumbrelref14.Of
def M_tumbrelref14_Of (kind_p0 n_p1 : Value) (w : World) (R : Value → World → Prop) : Prop :=
  BND (binv .int .neq kind_p0 (Value.int .u8 109)) fun t7_1 =>
  BND (grd (isB t7_1 true) (some kind_p0)) fun t9_2 =>
  BND (grd (isB t7_1 true) (binv .int .neq t9_2 (Value.int .u8 101))) fun t10_3 =>
  BND (pickv t7_1 t10_3 (Value.bool false)) fun t11_4 =>
  BND (grd (isB t11_4 true) (some kind_p0)) fun t13_5 =>
  BND (grd (isB t11_4 true) (binv .int .neq t13_5 (Value.int .u8 115))) fun t14_6 =>
  BND (pickv t11_4 t14_6 (Value.bool false)) fun t15_7 =>
  BND (grd (isB t15_7 false) (some n_p1)) fun t17_8 =>
  BND (grd (isB t15_7 false) (binv .int .gtr t17_8 (Value.int .u64 9999999999))) fun t18_9 =>
  BND (pickv t15_7 (Value.bool true) t18_9) fun t19_10 =>
  COND t19_10
  (R (.tuple #[(Value.string { data := #[] }), (Value.int .i64 1)]) w)
  (∃ S_11 : Nat → World → Prop,
  JOIN (α := Value → Value → World → Prop) (fun k_18 => (BND (newslice 5 #[(Value.int .u8 0)] 1 2 [(0, 1, kind_p0), (1, 1, (Value.int .u8 46))] w.drew) fun p_ => NEW p_ fun t21_19 w2 =>
  BND (textv .u8 textOfBytes w2 t21_19) fun t22_20 =>
  CALL PR F_tumbrelref14_digits [n_p1] w2 fun t24_21 w3 =>
  BND (binv .str .add t22_20 t24_21) fun t25_22 =>
  k_18 t25_22 (Value.int .i64 0) w3) ∧
  (BND (newslice 5 #[(Value.int .u8 0)] 1 2 [(0, 1, kind_p0), (1, 1, (Value.int .u8 46))] w.drew) fun p_ => NEW p_ fun t21_23 w4 =>
  CALL PR F_tumbrelref14_digits [n_p1] w4 fun t24_24 w5 =>
  BND (textv .u8 textOfBytes w5 t21_23) fun t22_25 =>
  BND (binv .str .add t22_25 t24_24) fun t25_26 =>
  k_18 t25_26 (Value.int .i64 0) w5) ∧
  (CALL PR F_tumbrelref14_digits [n_p1] w.drew fun t24_27 w6 =>
  BND (newslice 5 #[(Value.int .u8 0)] 1 2 [(0, 1, kind_p0), (1, 1, (Value.int .u8 46))] w6) fun p_ => NEW p_ fun t21_28 w7 =>
  BND (textv .u8 textOfBytes w7 t21_28) fun t22_29 =>
  BND (binv .str .add t22_29 t24_27) fun t25_30 =>
  k_18 t25_30 (Value.int .i64 0) w7))
  (fun t4_12 t5_13 w1 => R (.tuple #[t4_12, t5_13]) w1))
def ann_tumbrelref14_Of : List (Nat × List Nat) := [(3, [0, 3]), (4000003, [1, 2, 4]), (5000003, [1, 2, 4, 5, 6, 7, 9999, 1, 4, 2, 5, 6, 7, 9999, 4, 1, 2, 5, 6, 7])]
theorem E_tumbrelref14_Of (kind_p0 n_p1 : Value) (w : World) (R : Value → World → Prop) : M_tumbrelref14_Of kind_p0 n_p1 w R = den PR ann_tumbrelref14_Of (bodyOf Tryz.f40) (retQ PR Tryz.f40.results.toList R) (env0 [kind_p0, n_p1]) w := by kernel_rfl
theorem C_tumbrelref14_Of {kind_p0 n_p1 : Value} {w : World} {R : Value → World → Prop} (h : M_tumbrelref14_Of kind_p0 n_p1 w R) : CALL PR F_tumbrelref14_Of [kind_p0, n_p1] w R :=
  call_of_den2 ann_tumbrelref14_Of Tryz.func40 (by kernel_rfl) (by kernel_rfl) (by kernel_rfl) ((E_tumbrelref14_Of kind_p0 n_p1 w R) ▸ h)


-- 41 (*tumbrel.tumbrelref06.Disk).Create
def M_tumbrelref06_Disk_Create (d_p0 name_p1 : Value) (w : World) (R : Value → World → Prop) : Prop :=
  CALL PR F_tumbrelref06_may [name_p1] w fun t7_1 w1 =>
  BND (unv .not t7_1) fun t8_2 =>
  JOIN (α := Value → World → Prop) (fun k_77 => COND t8_2
  (k_77 (Value.int .i64 1) w1)
  (CALL PR F_tumbrelref06_Disk_find [d_p0, name_p1] w1 fun t11_78 w17 =>
  BND (binv .int .geq t11_78 (Value.int .i64 0)) fun t12_79 =>
  JOIN (α := Value → World → Prop) (fun k_85 => COND t12_79
  (k_85 (Value.int .i64 6) w17)
  (CALL PR F_tumbrelref06_Disk_now [d_p0] w17 fun t14_86 w19 =>
  BND (lenl t14_86) fun t15_87 =>
  BND (binv .int .geq t15_87 (Value.int .i64 60)) fun t16_88 =>
  JOIN (α := Value → World → Prop) (fun k_90 => COND t16_88
  (k_90 (Value.int .i64 4) w19)
  (k_90 (Value.int .i64 0) w19))
  (fun e_89 w20 => k_85 e_89 w20)))
  (fun e_80 w18 => k_77 e_80 w18)))
  (fun e_3 w2 => CALL PR F_tumbrelref06_Disk_can [d_p0, e_3] w2 fun t19_12 w3 =>
  BND (binv .int .eql t19_12 (Value.int .i64 0)) fun t21_13 =>
  JOIN (α := World → Prop) (fun k_48 => COND t21_13
  (BND (newslice 118 #[(Value.slice none 0 0), (Value.int .i64 0)] 2 0 [] w3) fun p_ => NEW p_ fun t23_49 w5 =>
  BND (nilchk d_p0) fun t25_50 =>
  BND (faddr 1 t25_50) fun t26_51 =>
  BND (load1 w5 t26_51) fun t27_52 =>
  APPEND 118 2 32 (Value.agg #[(Value.slice none 0 0), (Value.int .i64 0)]) t23_49 t27_52 w5 fun t28_53 w6 =>
  BND (buildv #[(Value.slice none 0 0), (Value.int .i64 0)] []) fun t29_54 =>
  BND (newslice 118 #[(Value.slice none 0 0), (Value.int .i64 0)] 2 1 [(0, 2, t29_54)] w6) fun p_ => NEW p_ fun t30_55 w7 =>
  APPEND 118 2 32 (Value.agg #[(Value.slice none 0 0), (Value.int .i64 0)]) t28_53 t30_55 w7 fun t31_56 w8 =>
  BND (nilchk d_p0) fun t32_57 =>
  BND (faddr 1 t32_57) fun t33_58 =>
  BND (storev 1 w8 t33_58 t31_56) fun w9 =>
  ∃ S_59 : Nat → World → Prop,
  S_59 5 w9.drew ∧
  S_59 13 w9.drew ∧
  BND (nilchk d_p0) fun t37_60 =>
  BND (faddr 2 t37_60) fun t38_61 =>
  FLT (S_59 5) (fun w_ => load1 w_ t38_61) fun t39_62 =>
  BND (nilchk d_p0) fun t45_63 =>
  BND (faddr 1 t45_63) fun t46_64 =>
  FLT (S_59 13) (fun w_ => load1 w_ t46_64) fun t47_65 =>
  BND (lenl t47_65) fun t48_66 =>
  BND (binv .int .sub t48_66 (Value.int .i64 1)) fun t49_67 =>
  BND (buildv #[(Value.string ByteArray.empty), (Value.int .i64 0)] [(0, 1, name_p1), (1, 1, t49_67)]) fun t50_68 =>
  BND (newslice 77 #[(Value.slice none 0 0)] 1 0 [] w9.drew) fun p_ => NEW p_ fun t35_69 w10 =>
  S_59 5 w10 ∧
  S_59 13 w10 ∧
  APPEND 77 1 24 (Value.slice none 0 0) t35_69 t39_62 w10 fun t40_70 w11 =>
  S_59 13 w11 ∧
  CALL PR F_tumbrelref06_Disk_now [d_p0] w11 fun t42_71 w12 =>
  S_59 13 w12 ∧
  CALL PR F_tumbrelref06_with [t42_71, t50_68] w12 fun t51_72 w13 =>
  BND (newslice 77 #[(Value.slice none 0 0)] 1 1 [(0, 1, t51_72)] w13) fun p_ => NEW p_ fun t52_73 w14 =>
  APPEND 77 1 24 (Value.slice none 0 0) t40_70 t52_73 w14 fun t53_74 w15 =>
  BND (nilchk d_p0) fun t54_75 =>
  BND (faddr 2 t54_75) fun t55_76 =>
  BND (storev 1 w15 t55_76 t53_74) fun w16 =>
  k_48 w16)
  (k_48 w3))
  (fun w4 => R t19_12 w4))
def ann_tumbrelref06_Disk_Create : List (Nat × List Nat) := [(11, [0, 2, 3, 4, 5, 7, 9, 10, 11, 12, 13, 14, 15, 16, 1, 6, 8, 17, 18, 19, 20, 21, 22]), (2000011, [5, 13]), (3011001, [5, 13]), (3011006, [13]), (3011008, [13])]
theorem E_tumbrelref06_Disk_Create (d_p0 name_p1 : Value) (w : World) (R : Value → World → Prop) : M_tumbrelref06_Disk_Create d_p0 name_p1 w R = den PR ann_tumbrelref06_Disk_Create (bodyOf Tryz.f41) (retQ PR Tryz.f41.results.toList R) (env0 [d_p0, name_p1]) w := by kernel_rfl
theorem C_tumbrelref06_Disk_Create {d_p0 name_p1 : Value} {w : World} {R : Value → World → Prop} (h : M_tumbrelref06_Disk_Create d_p0 name_p1 w R) : CALL PR F_tumbrelref06_Disk_Create [d_p0, name_p1] w R :=
  call_of_den2 ann_tumbrelref06_Disk_Create Tryz.func41 (by kernel_rfl) (by kernel_rfl) (by kernel_rfl) ((E_tumbrelref06_Disk_Create d_p0 name_p1 w R) ▸ h)


-- 42 (*tumbrel.tumbrelref06.Disk).Sync
def M_tumbrelref06_Disk_Sync (d_p0 name_p1 : Value) (w : World) (R : Value → World → Prop) : Prop :=
  CALL PR F_tumbrelref06_Disk_find [d_p0, name_p1] w fun t9_1 w1 =>
  BND (binv .int .lss t9_1 (Value.int .i64 0)) fun t11_2 =>
  JOIN (α := Value → World → Prop) (fun k_35 => COND t11_2
  (k_35 (Value.int .i64 5) w1)
  (k_35 (Value.int .i64 0) w1))
  (fun e_3 w2 => CALL PR F_tumbrelref06_Disk_can [d_p0, e_3] w2 fun t14_4 w3 =>
  BND (binv .int .eql t14_4 (Value.int .i64 0)) fun t16_5 =>
  JOIN (α := World → Prop) (fun k_22 => COND t16_5
  (BND (nilchk d_p0) fun t18_23 =>
  BND (faddr 1 t18_23) fun t19_24 =>
  BND (nilchk d_p0) fun t23_25 =>
  BND (faddr 1 t23_25) fun t24_26 =>
  BND (load1 w3.drew t19_24) fun t20_27 =>
  BND (load1 w3.drew t24_26) fun t25_28 =>
  BND (iaddr 2 t25_28 t9_1) fun t27_29 =>
  BND (faddr 0 t27_29) fun t28_30 =>
  BND (load1 w3.drew t28_30) fun t29_31 =>
  BND (lenl t29_31) fun t30_32 =>
  BND (iaddr 2 t20_27 t9_1) fun t31_33 =>
  BND (faddr 1 t31_33) fun t32_34 =>
  BND (storev 1 w3.drew t32_34 t30_32) fun w5 =>
  k_22 w5)
  (k_22 w3))
  (fun w4 => R t14_4 w4))
def ann_tumbrelref06_Disk_Sync : List (Nat × List Nat) := [(7, [0, 1, 2, 4, 5, 6, 7, 9, 3, 8, 10, 11, 12, 13, 14, 15, 16])]
theorem E_tumbrelref06_Disk_Sync (d_p0 name_p1 : Value) (w : World) (R : Value → World → Prop) : M_tumbrelref06_Disk_Sync d_p0 name_p1 w R = den PR ann_tumbrelref06_Disk_Sync (bodyOf Tryz.f42) (retQ PR Tryz.f42.results.toList R) (env0 [d_p0, name_p1]) w := by kernel_rfl
theorem C_tumbrelref06_Disk_Sync {d_p0 name_p1 : Value} {w : World} {R : Value → World → Prop} (h : M_tumbrelref06_Disk_Sync d_p0 name_p1 w R) : CALL PR F_tumbrelref06_Disk_Sync [d_p0, name_p1] w R :=
  call_of_den2 ann_tumbrelref06_Disk_Sync Tryz.func42 (by kernel_rfl) (by kernel_rfl) (by kernel_rfl) ((E_tumbrelref06_Disk_Sync d_p0 name_p1 w R) ▸ h)


-- 46 tumbrel.tumbrelref12.Record
def M_tumbrelref12_Record (o_p0 : Value) (w : World) (R : Value → World → Prop) : Prop :=
  NEW (newv 95 w o_p0) fun o_1 w1 =>
  NEW (newv 90 w1 (Value.agg #[(Value.int .i64 0), (Value.slice none 0 0), (Value.string ByteArray.empty)])) fun t2_2 w2 =>
  BND (loadn 8 w2 o_1) fun t5_3 =>
  CALL PR F_tumbrelref12_Right [t5_3] w2 fun t6_4 w3 =>
  BND (unv .not t6_4) fun t7_5 =>
  COND t7_5
  (BND (buildv #[(Value.int .i64 0), (Value.slice none 0 0), (Value.string ByteArray.empty)] []) fun t8_6 =>
  BND (storev 3 w3 t2_2 t8_6) fun w4 =>
  BND (loadn 3 w4 t2_2) fun r_7 =>
  R (.tuple #[r_7, (Value.int .i64 1)]) w4)
  (BND (faddr 0 o_1) fun t9_8 =>
  BND (load1 w3 t9_8) fun t10_9 =>
  BND (faddr 4 o_1) fun t11_10 =>
  BND (load1 w3 t11_10) fun t12_11 =>
  BND (buildv #[(Value.int .i64 0), (Value.slice none 0 0), (Value.string ByteArray.empty)] [(0, 1, t10_9), (2, 1, t12_11)]) fun t13_12 =>
  NEW (newv 90 w3 (Value.agg #[(Value.int .i64 0), (Value.slice none 0 0), (Value.string ByteArray.empty)])) fun r_13 w5 =>
  BND (storev 3 w5 r_13 t13_12) fun w6 =>
  BND (faddr 0 o_1) fun t14_14 =>
  BND (load1 w6 t14_14) fun t15_15 =>
  BND (binv .int .eql t15_15 (Value.int .i64 2)) fun t17_16 =>
  JOIN (α := World → Prop) (fun k_70 => COND t17_16
  (BND (faddr 1 o_1) fun t18_71 =>
  BND (load1 w6 t18_71) fun t19_72 =>
  BND (convi .u64 t19_72) fun t20_73 =>
  BND (faddr 3 o_1) fun t21_74 =>
  BND (load1 w6 t21_74) fun t22_75 =>
  BND (faddr 5 o_1) fun t23_76 =>
  BND (faddr 0 t23_76) fun t24_77 =>
  BND (load1 w6 t24_77) fun t25_78 =>
  BND (faddr 5 o_1) fun t26_79 =>
  BND (faddr 1 t26_79) fun t27_80 =>
  BND (load1 w6 t27_80) fun t28_81 =>
  BND (faddr 5 o_1) fun t29_82 =>
  BND (faddr 2 t29_82) fun t30_83 =>
  BND (load1 w6 t30_83) fun t31_84 =>
  BND (convi .u64 t31_84) fun t32_85 =>
  BND (newslice 32 #[(Value.int .u64 0)] 1 5 [(0, 1, t20_73), (1, 1, t22_75), (2, 1, t25_78), (3, 1, t28_81), (4, 1, t32_85)] w6) fun p_ => NEW p_ fun t33_86 w9 =>
  BND (faddr 1 r_13) fun t34_87 =>
  BND (storev 1 w9 t34_87 t33_86) fun w10 =>
  k_70 w10)
  (BND (binv .int .eql t15_15 (Value.int .i64 3)) fun t36_88 =>
  JOIN (α := World → Prop) (fun k_121 => COND t36_88
  (BND (faddr 1 o_1) fun t37_122 =>
  BND (load1 w6 t37_122) fun t38_123 =>
  BND (binv .int .add t38_123 (Value.int .i64 1)) fun t39_124 =>
  BND (convi .u64 t39_124) fun t40_125 =>
  BND (faddr 3 o_1) fun t41_126 =>
  BND (load1 w6 t41_126) fun t42_127 =>
  BND (newslice 32 #[(Value.int .u64 0)] 1 2 [(0, 1, t40_125), (1, 1, t42_127)] w6) fun p_ => NEW p_ fun t43_128 w12 =>
  BND (faddr 1 r_13) fun t44_129 =>
  BND (storev 1 w12 t44_129 t43_128) fun w13 =>
  k_121 w13)
  (BND (binv .int .eql t15_15 (Value.int .i64 5)) fun t46_130 =>
  JOIN (α := Value → World → Prop) (fun k_201 => COND t46_130
  (k_201 t46_130 w6)
  (BND (binv .int .eql t15_15 (Value.int .i64 6)) fun t47_202 =>
  k_201 t47_202 w6))
  (fun t45_131 w14 => JOIN (α := World → Prop) (fun k_154 => COND t45_131
  (BND (faddr 2 o_1) fun t48_155 =>
  BND (load1 w14 t48_155) fun t49_156 =>
  BND (faddr 3 o_1) fun t50_157 =>
  BND (load1 w14 t50_157) fun t51_158 =>
  BND (newslice 32 #[(Value.int .u64 0)] 1 2 [(0, 1, t49_156), (1, 1, t51_158)] w14) fun p_ => NEW p_ fun t52_159 w16 =>
  BND (faddr 1 r_13) fun t53_160 =>
  BND (storev 1 w16 t53_160 t52_159) fun w17 =>
  k_154 w17)
  (BND (binv .int .eql t15_15 (Value.int .i64 4)) fun t55_161 =>
  JOIN (α := Value → World → Prop) (fun k_195 => COND t55_161
  (k_195 t55_161 w14)
  (BND (binv .int .eql t15_15 (Value.int .i64 8)) fun t56_196 =>
  JOIN (α := Value → World → Prop) (fun k_199 => COND t56_196
  (k_199 t56_196 w14)
  (BND (binv .int .eql t15_15 (Value.int .i64 9)) fun t57_200 =>
  k_199 t57_200 w14))
  (fun t54_197 w26 => k_195 t54_197 w26)))
  (fun t54_162 w18 => JOIN (α := World → Prop) (fun k_176 => COND t54_162
  (BND (faddr 2 o_1) fun t58_177 =>
  BND (load1 w18 t58_177) fun t59_178 =>
  BND (newslice 32 #[(Value.int .u64 0)] 1 1 [(0, 1, t59_178)] w18) fun p_ => NEW p_ fun t60_179 w20 =>
  BND (faddr 1 r_13) fun t61_180 =>
  BND (storev 1 w20 t61_180 t60_179) fun w21 =>
  k_176 w21)
  (BND (binv .int .eql t15_15 (Value.int .i64 7)) fun t63_181 =>
  JOIN (α := Value → World → Prop) (fun k_193 => COND t63_181
  (k_193 t63_181 w18)
  (BND (binv .int .eql t15_15 (Value.int .i64 10)) fun t64_194 =>
  k_193 t64_194 w18))
  (fun t62_182 w22 => JOIN (α := World → Prop) (fun k_188 => COND t62_182
  (BND (faddr 3 o_1) fun t65_189 =>
  BND (load1 w22 t65_189) fun t66_190 =>
  BND (newslice 32 #[(Value.int .u64 0)] 1 1 [(0, 1, t66_190)] w22) fun p_ => NEW p_ fun t67_191 w24 =>
  BND (faddr 1 r_13) fun t68_192 =>
  BND (storev 1 w24 t68_192 t67_191) fun w25 =>
  k_188 w25)
  (k_188 w22))
  (fun w23 => k_176 w23))))
  (fun w19 => k_154 w19))))
  (fun w15 => k_121 w15))))
  (fun w11 => k_70 w11)))
  (fun w7 => BND (loadn 3 w7 r_13) fun t69_68 =>
  BND (storev 3 w7 t2_2 t69_68) fun w8 =>
  BND (loadn 3 w8 t2_2) fun r_69 =>
  R (.tuple #[r_69, (Value.int .i64 0)]) w8))
def ann_tumbrelref12_Record : List (Nat × List Nat) := []
theorem E_tumbrelref12_Record (o_p0 : Value) (w : World) (R : Value → World → Prop) : M_tumbrelref12_Record o_p0 w R = den PR ann_tumbrelref12_Record (bodyOf Tryz.f46) (retQ PR Tryz.f46.results.toList R) (env0 [o_p0]) w := by kernel_rfl
theorem C_tumbrelref12_Record {o_p0 : Value} {w : World} {R : Value → World → Prop} (h : M_tumbrelref12_Record o_p0 w R) : CALL PR F_tumbrelref12_Record [o_p0] w R :=
  call_of_den2 ann_tumbrelref12_Record Tryz.func46 (by kernel_rfl) (by kernel_rfl) (by kernel_rfl) ((E_tumbrelref12_Record o_p0 w R) ▸ h)


-- 47 tumbrel.tumbrelref05.Bytes
def M_tumbrelref05_Bytes (r_p0 : Value) (w : World) (R : Value → World → Prop) : Prop :=
  NEW (newv 90 w r_p0) fun r_1 w1 =>
  BND (loadn 3 w1 r_1) fun t4_2 =>
  CALL PR F_tumbrelref05_Right [t4_2] w1 fun t5_3 w2 =>
  BND (unv .not t5_3) fun t6_4 =>
  COND t6_4
  (R (.tuple #[(Value.slice none 0 0), (Value.int .i64 1)]) w2)
  (∃ S_5 : Nat → World → Prop,
  S_5 1 w2.drew ∧
  S_5 4 w2.drew ∧
  S_5 7 w2.drew ∧
  BND (faddr 0 r_1) fun t7_6 =>
  FLT (S_5 1) (fun w_ => load1 w_ t7_6) fun t8_7 =>
  BND (convi .u8 t8_7) fun t9_8 =>
  BND (faddr 1 r_1) fun t10_9 =>
  FLT (S_5 4) (fun w_ => load1 w_ t10_9) fun t11_10 =>
  BND (faddr 2 r_1) fun t13_11 =>
  FLT (S_5 7) (fun w_ => load1 w_ t13_11) fun t14_12 =>
  JOIN (α := Value → Value → World → Prop) (fun k_22 => (CALL PR F_tumbrelref02_All [t11_10] w2.drew fun t12_23 w4 =>
  S_5 1 w4 ∧
  S_5 7 w4 ∧
  BYTES 5 t14_12 w4 fun t15_24 w5 =>
  S_5 1 w5 ∧
  S_5 4 w5 ∧
  APPEND 5 1 1 (Value.int .u8 0) t12_23 t15_24 w5 fun t16_25 w6 =>
  S_5 1 w6 ∧
  BND (buildv #[(Value.int .u8 0), (Value.slice none 0 0)] [(0, 1, t9_8), (1, 1, t16_25)]) fun t17_26 =>
  CALL PR F_tumbrelref04_Bytes [t17_26] w6 fun t18_27 w7 =>
  BND (extractv t18_27 0) fun t19_28 =>
  BND (extractv t18_27 1) fun t20_29 =>
  k_22 t19_28 t20_29 w7) ∧
  (BYTES 5 t14_12 w2.drew fun t15_30 w8 =>
  S_5 1 w8 ∧
  S_5 4 w8 ∧
  CALL PR F_tumbrelref02_All [t11_10] w8 fun t12_31 w9 =>
  S_5 1 w9 ∧
  S_5 7 w9 ∧
  APPEND 5 1 1 (Value.int .u8 0) t12_31 t15_30 w9 fun t16_32 w10 =>
  S_5 1 w10 ∧
  BND (buildv #[(Value.int .u8 0), (Value.slice none 0 0)] [(0, 1, t9_8), (1, 1, t16_32)]) fun t17_33 =>
  CALL PR F_tumbrelref04_Bytes [t17_33] w10 fun t18_34 w11 =>
  BND (extractv t18_34 0) fun t19_35 =>
  BND (extractv t18_34 1) fun t20_36 =>
  k_22 t19_35 t20_36 w11))
  (fun t2_13 t3_14 w3 => R (.tuple #[t2_13, t3_14]) w3))
def ann_tumbrelref05_Bytes : List (Nat × List Nat) := [(3, [0, 1, 2, 3, 4, 6, 7]), (2000003, [1, 4, 7]), (3003005, [1, 7]), (3003008, [1, 4]), (3003009, [1]), (4000003, [5, 8]), (5000003, [5, 8, 9, 10, 11, 12, 13, 14, 15, 9999, 8, 5, 9, 10, 11, 12, 13, 14, 15])]
theorem E_tumbrelref05_Bytes (r_p0 : Value) (w : World) (R : Value → World → Prop) : M_tumbrelref05_Bytes r_p0 w R = den PR ann_tumbrelref05_Bytes (bodyOf Tryz.f47) (retQ PR Tryz.f47.results.toList R) (env0 [r_p0]) w := by kernel_rfl
theorem C_tumbrelref05_Bytes {r_p0 : Value} {w : World} {R : Value → World → Prop} (h : M_tumbrelref05_Bytes r_p0 w R) : CALL PR F_tumbrelref05_Bytes [r_p0] w R :=
  call_of_den2 ann_tumbrelref05_Bytes Tryz.func47 (by kernel_rfl) (by kernel_rfl) (by kernel_rfl) ((E_tumbrelref05_Bytes r_p0 w R) ▸ h)


-- 52 (*tumbrel.tumbrelref06.Disk).Read
def M_tumbrelref06_Disk_Read (d_p0 name_p1 : Value) (w : World) (R : Value → World → Prop) : Prop :=
  BND (nilchk d_p0) fun t8_1 =>
  BND (faddr 4 t8_1) fun t9_2 =>
  BND (load1 w t9_2) fun t10_3 =>
  COND t10_3
  (R (.tuple #[(Value.slice none 0 0), (Value.int .i64 7)]) w)
  (CALL PR F_tumbrelref06_Disk_find [d_p0, name_p1] w fun t13_4 w1 =>
  BND (binv .int .lss t13_4 (Value.int .i64 0)) fun t15_5 =>
  COND t15_5
  (R (.tuple #[(Value.slice none 0 0), (Value.int .i64 5)]) w1)
  (BND (newslice 5 #[(Value.int .u8 0)] 1 0 [] w1) fun p_ => NEW p_ fun t16_6 w2 =>
  BND (nilchk d_p0) fun t18_7 =>
  BND (faddr 1 t18_7) fun t19_8 =>
  BND (load1 w2 t19_8) fun t20_9 =>
  BND (iaddr 2 t20_9 t13_4) fun t22_10 =>
  BND (faddr 0 t22_10) fun t23_11 =>
  BND (load1 w2 t23_11) fun t24_12 =>
  APPEND 5 1 1 (Value.int .u8 0) t16_6 t24_12 w2 fun t25_13 w3 =>
  R (.tuple #[t25_13, (Value.int .i64 0)]) w3))
def ann_tumbrelref06_Disk_Read : List (Nat × List Nat) := []
theorem E_tumbrelref06_Disk_Read (d_p0 name_p1 : Value) (w : World) (R : Value → World → Prop) : M_tumbrelref06_Disk_Read d_p0 name_p1 w R = den PR ann_tumbrelref06_Disk_Read (bodyOf Tryz.f52) (retQ PR Tryz.f52.results.toList R) (env0 [d_p0, name_p1]) w := by kernel_rfl
theorem C_tumbrelref06_Disk_Read {d_p0 name_p1 : Value} {w : World} {R : Value → World → Prop} (h : M_tumbrelref06_Disk_Read d_p0 name_p1 w R) : CALL PR F_tumbrelref06_Disk_Read [d_p0, name_p1] w R :=
  call_of_den2 ann_tumbrelref06_Disk_Read Tryz.func52 (by kernel_rfl) (by kernel_rfl) (by kernel_rfl) ((E_tumbrelref06_Disk_Read d_p0 name_p1 w R) ▸ h)


-- 53 tumbrel.tumbrelref05.All
def M_tumbrelref05_All (b_p0 : Value) (w : World) (R : Value → World → Prop) : Prop :=
  BND (newslice 90 #[(Value.int .i64 0), (Value.slice none 0 0), (Value.string ByteArray.empty)] 3 0 [] w) fun p_ => NEW p_ fun t14_1 w1 =>
  BND (newslice 3 #[(Value.int .i64 0)] 1 0 [] w1) fun p_ => NEW p_ fun t15_2 w2 =>
  CALL PR F_tumbrelref04_All [b_p0] w2 fun t18_3 w3 =>
  BND (extractv t18_3 0) fun t19_4 =>
  BND (extractv t18_3 1) fun t20_5 =>
  BND (extractv t18_3 2) fun t21_6 =>
  ∃ (J_7 : Value → Value → Value → Value → World → Prop) (m_7 : Value → Value → Value → Value → World → Nat), J_7 t14_1 t15_2 (Value.int .i64 0) (Value.int .i64 0) w3 ∧ ∀ (_d_7 : Env) (out_11 ends_12 at_13 i_14 : Value) (w4 : World), J_7 out_11 ends_12 at_13 i_14 w4 →
  (BND (lenl t19_4) fun t24_53 =>
  BND (binv .int .lss i_14 t24_53) fun t25_54 =>
  COND t25_54
  (BND (iaddr 2 t19_4 i_14) fun t31_55 =>
  BND (loadn 2 w4 t31_55) fun t32_56 =>
  CALL PR F_tumbrelref05_Read [t32_56] w4 fun t33_57 w5 =>
  BND (extractv t33_57 0) fun t34_58 =>
  BND (extractv t33_57 1) fun t35_59 =>
  NEW (newv 90 w5 (Value.agg #[(Value.int .i64 0), (Value.slice none 0 0), (Value.string ByteArray.empty)])) fun r_60 w6 =>
  BND (storev 3 w6 r_60 t34_58) fun w7 =>
  BND (binv .int .neq t35_59 (Value.int .i64 0)) fun t37_61 =>
  COND t37_61
  (R (.tuple #[out_11, ends_12, t35_59]) w7)
  (BND (iaddr 2 t19_4 i_14) fun t44_62 =>
  BND (faddr 1 t44_62) fun t45_63 =>
  BND (load1 w7 t45_63) fun t46_64 =>
  BND (lenl t46_64) fun t47_65 =>
  BND (binv .int .add at_13 t47_65) fun t48_66 =>
  BND (binv .int .add t48_66 (Value.int .i64 11)) fun t49_67 =>
  BND (loadn 3 w7 r_60) fun t51_68 =>
  BND (newslice 90 #[(Value.int .i64 0), (Value.slice none 0 0), (Value.string ByteArray.empty)] 3 1 [(0, 3, t51_68)] w7) fun p_ => NEW p_ fun t52_69 w8 =>
  APPEND 90 3 48 (Value.agg #[(Value.int .i64 0), (Value.slice none 0 0), (Value.string ByteArray.empty)]) out_11 t52_69 w8 fun t53_70 w9 =>
  BND (newslice 3 #[(Value.int .i64 0)] 1 1 [(0, 1, t49_67)] w9) fun p_ => NEW p_ fun t56_71 w10 =>
  APPEND 3 1 8 (Value.int .i64 0) ends_12 t56_71 w10 fun t57_72 w11 =>
  BND (binv .int .add i_14 (Value.int .i64 1)) fun t27_73 =>
  (J_7 t53_70 t57_72 t49_67 t27_73 w11 ∧ m_7 t53_70 t57_72 t49_67 t27_73 w11 < m_7 out_11 ends_12 at_13 i_14 w4)))
  (R (.tuple #[out_11, ends_12, t21_6]) w4))
def ann_tumbrelref05_All : List (Nat × List Nat) := [(1000006, [5, 6, 10, 11])]
theorem E_tumbrelref05_All (b_p0 : Value) (w : World) (R : Value → World → Prop) : M_tumbrelref05_All b_p0 w R = den PR ann_tumbrelref05_All (bodyOf Tryz.f53) (retQ PR Tryz.f53.results.toList R) (env0 [b_p0]) w := by kernel_rfl
theorem C_tumbrelref05_All {b_p0 : Value} {w : World} {R : Value → World → Prop} (h : M_tumbrelref05_All b_p0 w R) : CALL PR F_tumbrelref05_All [b_p0] w R :=
  call_of_den2 ann_tumbrelref05_All Tryz.func53 (by kernel_rfl) (by kernel_rfl) (by kernel_rfl) ((E_tumbrelref05_All b_p0 w R) ▸ h)


-- 54 tumbrel.tumbrelref12.Of
def M_tumbrelref12_Of (r_p0 : Value) (w : World) (R : Value → World → Prop) : Prop :=
  NEW (newv 90 w r_p0) fun r_1 w1 =>
  NEW (newv 95 w1 (Value.agg #[(Value.int .i64 0), (Value.int .i64 0), (Value.int .u64 0), (Value.int .u64 0), (Value.string ByteArray.empty), (Value.int .u64 0), (Value.int .u64 0), (Value.int .i64 0)])) fun t2_2 w2 =>
  BND (loadn 3 w2 r_1) fun t5_3 =>
  CALL PR F_tumbrelref05_Right [t5_3] w2 fun t6_4 w3 =>
  BND (unv .not t6_4) fun t7_5 =>
  COND t7_5
  (BND (buildv #[(Value.int .i64 0), (Value.int .i64 0), (Value.int .u64 0), (Value.int .u64 0), (Value.string ByteArray.empty), (Value.int .u64 0), (Value.int .u64 0), (Value.int .i64 0)] []) fun t8_6 =>
  BND (storev 8 w3 t2_2 t8_6) fun w4 =>
  BND (loadn 8 w4 t2_2) fun r_7 =>
  R (.tuple #[r_7, (Value.int .i64 2)]) w4)
  (BND (faddr 0 r_1) fun t9_8 =>
  BND (load1 w3 t9_8) fun t10_9 =>
  BND (faddr 2 r_1) fun t11_10 =>
  BND (load1 w3 t11_10) fun t12_11 =>
  BND (buildv #[(Value.int .i64 0), (Value.int .i64 0), (Value.int .u64 0), (Value.int .u64 0), (Value.string ByteArray.empty), (Value.int .u64 0), (Value.int .u64 0), (Value.int .i64 0)] [(0, 1, t10_9), (4, 1, t12_11)]) fun t13_12 =>
  NEW (newv 95 w3 (Value.agg #[(Value.int .i64 0), (Value.int .i64 0), (Value.int .u64 0), (Value.int .u64 0), (Value.string ByteArray.empty), (Value.int .u64 0), (Value.int .u64 0), (Value.int .i64 0)])) fun o_13 w5 =>
  BND (storev 8 w5 o_13 t13_12) fun w6 =>
  BND (faddr 0 r_1) fun t14_14 =>
  BND (load1 w6 t14_14) fun t15_15 =>
  BND (binv .int .eql t15_15 (Value.int .i64 2)) fun t17_16 =>
  JOIN (α := World → Prop) (fun k_97 => COND t17_16
  (BND (faddr 1 r_1) fun t18_98 =>
  BND (load1 w6 t18_98) fun t19_99 =>
  BND (iaddr 1 t19_99 (Value.int .i64 0)) fun t20_100 =>
  BND (load1 w6 t20_100) fun t21_101 =>
  BND (min2v t21_101 (Value.int .u64 1000)) fun t22_102 =>
  BND (convi .i64 t22_102) fun t23_103 =>
  BND (faddr 1 o_13) fun t24_104 =>
  BND (storev 1 w6 t24_104 t23_103) fun w11 =>
  BND (faddr 1 r_1) fun t25_105 =>
  BND (load1 w11 t25_105) fun t26_106 =>
  BND (iaddr 1 t26_106 (Value.int .i64 1)) fun t27_107 =>
  BND (load1 w11 t27_107) fun t28_108 =>
  BND (faddr 3 o_13) fun t29_109 =>
  BND (storev 1 w11 t29_109 t28_108) fun w12 =>
  BND (faddr 1 r_1) fun t30_110 =>
  BND (faddr 1 r_1) fun t34_111 =>
  BND (faddr 1 r_1) fun t38_112 =>
  BND (load1 w12.drew t30_110) fun t31_113 =>
  BND (iaddr 1 t31_113 (Value.int .i64 2)) fun t32_114 =>
  BND (load1 w12.drew t32_114) fun t33_115 =>
  BND (load1 w12.drew t34_111) fun t35_116 =>
  BND (iaddr 1 t35_116 (Value.int .i64 3)) fun t36_117 =>
  BND (load1 w12.drew t36_117) fun t37_118 =>
  BND (load1 w12.drew t38_112) fun t39_119 =>
  BND (iaddr 1 t39_119 (Value.int .i64 4)) fun t40_120 =>
  BND (load1 w12.drew t40_120) fun t41_121 =>
  BND (min2v t41_121 (Value.int .u64 1000)) fun t42_122 =>
  BND (convi .i64 t42_122) fun t43_123 =>
  BND (buildv #[(Value.int .u64 0), (Value.int .u64 0), (Value.int .i64 0)] [(0, 1, t33_115), (1, 1, t37_118), (2, 1, t43_123)]) fun t44_124 =>
  BND (faddr 5 o_13) fun t45_125 =>
  BND (storev 3 w12.drew t45_125 t44_124) fun w13 =>
  k_97 w13)
  (BND (binv .int .eql t15_15 (Value.int .i64 3)) fun t47_126 =>
  JOIN (α := World → Prop) (fun k_170 => COND t47_126
  (BND (faddr 1 r_1) fun t48_171 =>
  BND (load1 w6 t48_171) fun t49_172 =>
  BND (iaddr 1 t49_172 (Value.int .i64 0)) fun t50_173 =>
  BND (load1 w6 t50_173) fun t51_174 =>
  BND (min2v t51_174 (Value.int .u64 1000)) fun t52_175 =>
  BND (convi .i64 t52_175) fun t53_176 =>
  BND (binv .int .sub t53_176 (Value.int .i64 1)) fun t54_177 =>
  BND (faddr 1 o_13) fun t55_178 =>
  BND (storev 1 w6 t55_178 t54_177) fun w15 =>
  BND (faddr 1 r_1) fun t56_179 =>
  BND (load1 w15 t56_179) fun t57_180 =>
  BND (iaddr 1 t57_180 (Value.int .i64 1)) fun t58_181 =>
  BND (load1 w15 t58_181) fun t59_182 =>
  BND (faddr 3 o_13) fun t60_183 =>
  BND (storev 1 w15 t60_183 t59_182) fun w16 =>
  k_170 w16)
  (BND (binv .int .eql t15_15 (Value.int .i64 5)) fun t62_184 =>
  JOIN (α := Value → World → Prop) (fun k_270 => COND t62_184
  (k_270 t62_184 w6)
  (BND (binv .int .eql t15_15 (Value.int .i64 6)) fun t63_271 =>
  k_270 t63_271 w6))
  (fun t61_185 w17 => JOIN (α := World → Prop) (fun k_214 => COND t61_185
  (BND (faddr 1 r_1) fun t64_215 =>
  BND (load1 w17 t64_215) fun t65_216 =>
  BND (iaddr 1 t65_216 (Value.int .i64 0)) fun t66_217 =>
  BND (load1 w17 t66_217) fun t67_218 =>
  BND (faddr 2 o_13) fun t68_219 =>
  BND (storev 1 w17 t68_219 t67_218) fun w19 =>
  BND (faddr 1 r_1) fun t69_220 =>
  BND (load1 w19 t69_220) fun t70_221 =>
  BND (iaddr 1 t70_221 (Value.int .i64 1)) fun t71_222 =>
  BND (load1 w19 t71_222) fun t72_223 =>
  BND (faddr 3 o_13) fun t73_224 =>
  BND (storev 1 w19 t73_224 t72_223) fun w20 =>
  k_214 w20)
  (BND (binv .int .eql t15_15 (Value.int .i64 4)) fun t75_225 =>
  JOIN (α := Value → World → Prop) (fun k_264 => COND t75_225
  (k_264 t75_225 w17)
  (BND (binv .int .eql t15_15 (Value.int .i64 8)) fun t76_265 =>
  JOIN (α := Value → World → Prop) (fun k_268 => COND t76_265
  (k_268 t76_265 w17)
  (BND (binv .int .eql t15_15 (Value.int .i64 9)) fun t77_269 =>
  k_268 t77_269 w17))
  (fun t74_266 w27 => k_264 t74_266 w27)))
  (fun t74_226 w21 => JOIN (α := World → Prop) (fun k_242 => COND t74_226
  (BND (faddr 1 r_1) fun t78_243 =>
  BND (load1 w21 t78_243) fun t79_244 =>
  BND (iaddr 1 t79_244 (Value.int .i64 0)) fun t80_245 =>
  BND (load1 w21 t80_245) fun t81_246 =>
  BND (faddr 2 o_13) fun t82_247 =>
  BND (storev 1 w21 t82_247 t81_246) fun w23 =>
  k_242 w23)
  (BND (binv .int .eql t15_15 (Value.int .i64 7)) fun t84_248 =>
  JOIN (α := Value → World → Prop) (fun k_262 => COND t84_248
  (k_262 t84_248 w21)
  (BND (binv .int .eql t15_15 (Value.int .i64 10)) fun t85_263 =>
  k_262 t85_263 w21))
  (fun t83_249 w24 => JOIN (α := World → Prop) (fun k_256 => COND t83_249
  (BND (faddr 1 r_1) fun t86_257 =>
  BND (load1 w24 t86_257) fun t87_258 =>
  BND (iaddr 1 t87_258 (Value.int .i64 0)) fun t88_259 =>
  BND (load1 w24 t88_259) fun t89_260 =>
  BND (faddr 3 o_13) fun t90_261 =>
  BND (storev 1 w24 t90_261 t89_260) fun w26 =>
  k_256 w26)
  (k_256 w24))
  (fun w25 => k_242 w25))))
  (fun w22 => k_214 w22))))
  (fun w18 => k_170 w18))))
  (fun w14 => k_97 w14)))
  (fun w7 => BND (loadn 8 w7 o_13) fun t91_90 =>
  CALL PR F_tumbrelref12_Right [t91_90] w7 fun t92_91 w8 =>
  BND (unv .not t92_91) fun t93_92 =>
  COND t93_92
  (BND (buildv #[(Value.int .i64 0), (Value.int .i64 0), (Value.int .u64 0), (Value.int .u64 0), (Value.string ByteArray.empty), (Value.int .u64 0), (Value.int .u64 0), (Value.int .i64 0)] []) fun t94_93 =>
  BND (storev 8 w8 t2_2 t94_93) fun w9 =>
  BND (loadn 8 w9 t2_2) fun r_94 =>
  R (.tuple #[r_94, (Value.int .i64 2)]) w9)
  (BND (loadn 8 w8 o_13) fun t95_95 =>
  BND (storev 8 w8 t2_2 t95_95) fun w10 =>
  BND (loadn 8 w10 t2_2) fun r_96 =>
  R (.tuple #[r_96, (Value.int .i64 0)]) w10)))
def ann_tumbrelref12_Of : List (Nat × List Nat) := [(8, [0, 4, 8, 1, 2, 3, 5, 6, 7, 9, 10, 11, 12, 13, 14, 15, 16])]
theorem E_tumbrelref12_Of (r_p0 : Value) (w : World) (R : Value → World → Prop) : M_tumbrelref12_Of r_p0 w R = den PR ann_tumbrelref12_Of (bodyOf Tryz.f54) (retQ PR Tryz.f54.results.toList R) (env0 [r_p0]) w := by kernel_rfl
theorem C_tumbrelref12_Of {r_p0 : Value} {w : World} {R : Value → World → Prop} (h : M_tumbrelref12_Of r_p0 w R) : CALL PR F_tumbrelref12_Of [r_p0] w R :=
  call_of_den2 ann_tumbrelref12_Of Tryz.func54 (by kernel_rfl) (by kernel_rfl) (by kernel_rfl) ((E_tumbrelref12_Of r_p0 w R) ▸ h)


-- 56 (*tumbrel.tumbrelref06.Disk).Cut
def M_tumbrelref06_Disk_Cut (d_p0 name_p1 n_p2 : Value) (w : World) (R : Value → World → Prop) : Prop :=
  CALL PR F_tumbrelref06_Disk_find [d_p0, name_p1] w fun t11_1 w1 =>
  BND (binv .int .lss t11_1 (Value.int .i64 0)) fun t13_2 =>
  JOIN (α := Value → World → Prop) (fun k_85 => COND t13_2
  (k_85 (Value.int .i64 5) w1)
  (BND (binv .int .lss n_p2 (Value.int .i64 0)) fun t15_86 =>
  BND (grd (isB t15_86 false) (some n_p2)) fun t17_87 =>
  BND (grd (isB t15_86 false) (some d_p0)) fun t18_88 =>
  BND (grd (isB t15_86 false) (nilchk t18_88)) fun t19_89 =>
  BND (grd (isB t15_86 false) (faddr 1 t19_89)) fun t20_90 =>
  BND (grd (isB t15_86 false) (load1 w1 t20_90)) fun t21_91 =>
  BND (grd (isB t15_86 false) (some t11_1)) fun t22_92 =>
  BND (grd (isB t15_86 false) (iaddr 2 t21_91 t22_92)) fun t23_93 =>
  BND (grd (isB t15_86 false) (faddr 0 t23_93)) fun t24_94 =>
  BND (grd (isB t15_86 false) (load1 w1 t24_94)) fun t25_95 =>
  BND (grd (isB t15_86 false) (lenl t25_95)) fun t26_96 =>
  BND (grd (isB t15_86 false) (binv .int .gtr t17_87 t26_96)) fun t27_97 =>
  BND (pickv t15_86 (Value.bool true) t27_97) fun t28_98 =>
  JOIN (α := Value → World → Prop) (fun k_100 => COND t28_98
  (k_100 (Value.int .i64 1) w1)
  (k_100 (Value.int .i64 0) w1))
  (fun e_99 w9 => k_85 e_99 w9)))
  (fun e_3 w2 => CALL PR F_tumbrelref06_Disk_can [d_p0, e_3] w2 fun t31_19 w3 =>
  BND (binv .int .eql t31_19 (Value.int .i64 0)) fun t33_20 =>
  JOIN (α := World → Prop) (fun k_57 => COND t33_20
  (∃ S_58 : Nat → World → Prop,
  S_58 3 w3.drew ∧
  S_58 9 w3.drew ∧
  S_58 13 w3.drew ∧
  BND (nilchk d_p0) fun t35_59 =>
  BND (faddr 1 t35_59) fun t36_60 =>
  FLT (S_58 3) (fun w_ => load1 w_ t36_60) fun t37_61 =>
  BND (nilchk d_p0) fun t41_62 =>
  BND (faddr 1 t41_62) fun t42_63 =>
  FLT (S_58 9) (fun w_ => load1 w_ t42_63) fun t43_64 =>
  BND (iaddr 2 t43_64 t11_1) fun t45_65 =>
  BND (faddr 0 t45_65) fun t46_66 =>
  FLT (S_58 13) (fun w_ => load1 w_ t46_66) fun t47_67 =>
  BND (slicev 1 t47_67 none (some n_p2)) fun t49_68 =>
  BND (newslice 5 #[(Value.int .u8 0)] 1 0 [] w3.drew) fun p_ => NEW p_ fun t39_69 w5 =>
  S_58 3 w5 ∧
  S_58 9 w5 ∧
  S_58 13 w5 ∧
  APPEND 5 1 1 (Value.int .u8 0) t39_69 t49_68 w5 fun t50_70 w6 =>
  S_58 3 w6 ∧
  BND (iaddr 2 t37_61 t11_1) fun t51_71 =>
  BND (faddr 0 t51_71) fun t52_72 =>
  BND (storev 1 w6 t52_72 t50_70) fun w7 =>
  BND (nilchk d_p0) fun t54_73 =>
  BND (faddr 1 t54_73) fun t55_74 =>
  BND (nilchk d_p0) fun t59_75 =>
  BND (faddr 1 t59_75) fun t60_76 =>
  BND (load1 w7.drew t55_74) fun t56_77 =>
  BND (load1 w7.drew t60_76) fun t61_78 =>
  BND (iaddr 2 t61_78 t11_1) fun t63_79 =>
  BND (faddr 1 t63_79) fun t64_80 =>
  BND (load1 w7.drew t64_80) fun t65_81 =>
  BND (min2v t65_81 n_p2) fun t67_82 =>
  BND (iaddr 2 t56_77 t11_1) fun t68_83 =>
  BND (faddr 1 t68_83) fun t69_84 =>
  BND (storev 1 w7.drew t69_84 t67_82) fun w8 =>
  k_57 w8)
  (k_57 w3))
  (fun w4 => R t31_19 w4))
def ann_tumbrelref06_Disk_Cut : List (Nat × List Nat) := [(9, [0, 1, 2, 3, 4, 6, 7, 8, 9, 10, 11, 12, 13, 14, 15, 5, 16, 17, 18, 19]), (10, [0, 1, 2, 4, 5, 6, 7, 9, 13, 3, 8, 10, 11, 12, 14, 15, 16, 17]), (2000009, [3, 9, 13]), (3009005, [3, 9, 13]), (3009016, [3])]
theorem E_tumbrelref06_Disk_Cut (d_p0 name_p1 n_p2 : Value) (w : World) (R : Value → World → Prop) : M_tumbrelref06_Disk_Cut d_p0 name_p1 n_p2 w R = den PR ann_tumbrelref06_Disk_Cut (bodyOf Tryz.f56) (retQ PR Tryz.f56.results.toList R) (env0 [d_p0, name_p1, n_p2]) w := by kernel_rfl
theorem C_tumbrelref06_Disk_Cut {d_p0 name_p1 n_p2 : Value} {w : World} {R : Value → World → Prop} (h : M_tumbrelref06_Disk_Cut d_p0 name_p1 n_p2 w R) : CALL PR F_tumbrelref06_Disk_Cut [d_p0, name_p1, n_p2] w R :=
  call_of_den2 ann_tumbrelref06_Disk_Cut Tryz.func56 (by kernel_rfl) (by kernel_rfl) (by kernel_rfl) ((E_tumbrelref06_Disk_Cut d_p0 name_p1 n_p2 w R) ▸ h)


-- 59 (*tumbrel.tumbrelref06.Disk).now
def M_tumbrelref06_Disk_now (d_p0 : Value) (w : World) (R : Value → World → Prop) : Prop :=
  BND (nilchk d_p0) fun t4_1 =>
  BND (faddr 2 t4_1) fun t5_2 =>
  BND (nilchk d_p0) fun t8_3 =>
  BND (faddr 2 t8_3) fun t9_4 =>
  BND (load1 w.drew t5_2) fun t6_5 =>
  BND (load1 w.drew t9_4) fun t10_6 =>
  BND (lenl t10_6) fun t11_7 =>
  BND (binv .int .sub t11_7 (Value.int .i64 1)) fun t12_8 =>
  BND (iaddr 1 t6_5 t12_8) fun t13_9 =>
  BND (load1 w.drew t13_9) fun t14_10 =>
  R t14_10 w.drew
def ann_tumbrelref06_Disk_now : List (Nat × List Nat) := [(1, [0, 1, 2, 4, 5, 6, 3, 7, 8, 9, 10, 11, 12])]
theorem E_tumbrelref06_Disk_now (d_p0 : Value) (w : World) (R : Value → World → Prop) : M_tumbrelref06_Disk_now d_p0 w R = den PR ann_tumbrelref06_Disk_now (bodyOf Tryz.f59) (retQ PR Tryz.f59.results.toList R) (env0 [d_p0]) w := by kernel_rfl
theorem C_tumbrelref06_Disk_now {d_p0 : Value} {w : World} {R : Value → World → Prop} (h : M_tumbrelref06_Disk_now d_p0 w R) : CALL PR F_tumbrelref06_Disk_now [d_p0] w R :=
  call_of_den2 ann_tumbrelref06_Disk_now Tryz.func59 (by kernel_rfl) (by kernel_rfl) (by kernel_rfl) ((E_tumbrelref06_Disk_now d_p0 w R) ▸ h)


-- 63 (*tumbrel.tumbrelref06.Disk).find
def M_tumbrelref06_Disk_find (d_p0 name_p1 : Value) (w : World) (R : Value → World → Prop) : Prop :=
  CALL PR F_tumbrelref06_Disk_now [d_p0] w fun t8_1 w1 =>
  ∃ (J_2 : Value → World → Prop) (m_2 : Value → World → Nat), J_2 (Value.int .i64 0) w1 ∧ ∀ (_d_2 : Env) (i_4 : Value) (w2 : World), J_2 i_4 w2 →
  (BND (lenl t8_1) fun t11_23 =>
  BND (binv .int .lss i_4 t11_23) fun t12_24 =>
  COND t12_24
  (BND (iaddr 2 t8_1 i_4) fun t17_25 =>
  BND (faddr 0 t17_25) fun t18_26 =>
  BND (load1 w2 t18_26) fun t19_27 =>
  BND (binv .str .eql t19_27 name_p1) fun t21_28 =>
  COND t21_28
  (BND (iaddr 2 t8_1 i_4) fun t24_29 =>
  BND (faddr 1 t24_29) fun t25_30 =>
  BND (load1 w2 t25_30) fun t26_31 =>
  R t26_31 w2)
  (BND (binv .int .add i_4 (Value.int .i64 1)) fun t14_32 =>
  (J_2 t14_32 w2 ∧ m_2 t14_32 w2 < m_2 i_4 w2)))
  (R (Value.int .i64 (-1)) w2))
def ann_tumbrelref06_Disk_find : List (Nat × List Nat) := [(1000003, [6])]
theorem E_tumbrelref06_Disk_find (d_p0 name_p1 : Value) (w : World) (R : Value → World → Prop) : M_tumbrelref06_Disk_find d_p0 name_p1 w R = den PR ann_tumbrelref06_Disk_find (bodyOf Tryz.f63) (retQ PR Tryz.f63.results.toList R) (env0 [d_p0, name_p1]) w := by kernel_rfl
theorem C_tumbrelref06_Disk_find {d_p0 name_p1 : Value} {w : World} {R : Value → World → Prop} (h : M_tumbrelref06_Disk_find d_p0 name_p1 w R) : CALL PR F_tumbrelref06_Disk_find [d_p0, name_p1] w R :=
  call_of_den2 ann_tumbrelref06_Disk_find Tryz.func63 (by kernel_rfl) (by kernel_rfl) (by kernel_rfl) ((E_tumbrelref06_Disk_find d_p0 name_p1 w R) ▸ h)


-- 64 (*tumbrel.tumbrelref06.Disk).can
def M_tumbrelref06_Disk_can (d_p0 e_p1 : Value) (w : World) (R : Value → World → Prop) : Prop :=
  BND (nilchk d_p0) fun t6_1 =>
  BND (faddr 4 t6_1) fun t7_2 =>
  BND (load1 w t7_2) fun t8_3 =>
  COND t8_3
  (R (Value.int .i64 7) w)
  (BND (binv .int .neq e_p1 (Value.int .i64 0)) fun t10_4 =>
  COND t10_4
  (R e_p1 w)
  (BND (nilchk d_p0) fun t13_5 =>
  BND (faddr 3 t13_5) fun t14_6 =>
  BND (load1 w t14_6) fun t15_7 =>
  BND (binv .int .eql t15_7 (Value.int .i64 0)) fun t16_8 =>
  COND t16_8
  (BND (nilchk d_p0) fun t18_9 =>
  BND (faddr 4 t18_9) fun t19_10 =>
  BND (storev 1 w t19_10 (Value.bool true)) fun w1 =>
  R (Value.int .i64 7) w1)
  (BND (nilchk d_p0) fun t21_11 =>
  BND (faddr 3 t21_11) fun t22_12 =>
  BND (load1 w t22_12) fun t23_13 =>
  BND (binv .int .gtr t23_13 (Value.int .i64 0)) fun t24_14 =>
  JOIN (α := World → Prop) (fun k_22 => COND t24_14
  (BND (nilchk d_p0) fun t26_23 =>
  BND (faddr 3 t26_23) fun t27_24 =>
  BND (load1 w t27_24) fun t28_25 =>
  BND (binv .int .sub t28_25 (Value.int .i64 1)) fun t29_26 =>
  BND (nilchk d_p0) fun t30_27 =>
  BND (faddr 3 t30_27) fun t31_28 =>
  BND (storev 1 w t31_28 t29_26) fun w3 =>
  k_22 w3)
  (k_22 w))
  (fun w2 => R (Value.int .i64 0) w2))))
def ann_tumbrelref06_Disk_can : List (Nat × List Nat) := []
theorem E_tumbrelref06_Disk_can (d_p0 e_p1 : Value) (w : World) (R : Value → World → Prop) : M_tumbrelref06_Disk_can d_p0 e_p1 w R = den PR ann_tumbrelref06_Disk_can (bodyOf Tryz.f64) (retQ PR Tryz.f64.results.toList R) (env0 [d_p0, e_p1]) w := by kernel_rfl
theorem C_tumbrelref06_Disk_can {d_p0 e_p1 : Value} {w : World} {R : Value → World → Prop} (h : M_tumbrelref06_Disk_can d_p0 e_p1 w R) : CALL PR F_tumbrelref06_Disk_can [d_p0, e_p1] w R :=
  call_of_den2 ann_tumbrelref06_Disk_can Tryz.func64 (by kernel_rfl) (by kernel_rfl) (by kernel_rfl) ((E_tumbrelref06_Disk_can d_p0 e_p1 w R) ▸ h)


-- 72 tumbrel.tumbrelref14.digits
def M_tumbrelref14_digits (n_p0 : Value) (w : World) (R : Value → World → Prop) : Prop :=
  BND (binv .int .rem n_p0 (Value.int .u64 10)) fun t5_1 =>
  BND (binv .int .add (Value.int .u64 48) t5_1) fun t6_2 =>
  BND (convi .u8 t6_2) fun t7_3 =>
  BND (newslice 5 #[(Value.int .u8 0)] 1 1 [(0, 1, t7_3)] w) fun p_ => NEW p_ fun t8_4 w1 =>
  BND (textv .u8 textOfBytes w1 t8_4) fun t9_5 =>
  BND (binv .int .lss n_p0 (Value.int .u64 10)) fun t11_6 =>
  COND t11_6
  (R t9_5 w1)
  (BND (binv .int .quo n_p0 (Value.int .u64 10)) fun t14_7 =>
  CALL PR F_tumbrelref14_digits [t14_7] w1 fun t15_8 w2 =>
  BND (binv .str .add t15_8 t9_5) fun t17_9 =>
  R t17_9 w2)
def ann_tumbrelref14_digits : List (Nat × List Nat) := []
theorem E_tumbrelref14_digits (n_p0 : Value) (w : World) (R : Value → World → Prop) : M_tumbrelref14_digits n_p0 w R = den PR ann_tumbrelref14_digits (bodyOf Tryz.f72) (retQ PR Tryz.f72.results.toList R) (env0 [n_p0]) w := by kernel_rfl
theorem C_tumbrelref14_digits {n_p0 : Value} {w : World} {R : Value → World → Prop} (h : M_tumbrelref14_digits n_p0 w R) : CALL PR F_tumbrelref14_digits [n_p0] w R :=
  call_of_den2 ann_tumbrelref14_digits Tryz.func72 (by kernel_rfl) (by kernel_rfl) (by kernel_rfl) ((E_tumbrelref14_digits n_p0 w R) ▸ h)


-- 73 tumbrel.tumbrelref06.may
def M_tumbrelref06_may (name_p0 : Value) (w : World) (R : Value → World → Prop) : Prop :=
  ∃ (J_1 : Value → World → Prop) (m_1 : Value → World → Nat), J_1 (Value.int .i64 0) w ∧ ∀ (_d_1 : Env) (i_3 : Value) (w1 : World), J_1 i_3 w1 →
  (BND (lens name_p0) fun t7_33 =>
  BND (binv .int .lss i_3 t7_33) fun t8_34 =>
  COND t8_34
  (BND (indexs name_p0 i_3) fun t13_35 =>
  BND (binv .int .eql t13_35 (Value.int .u8 46)) fun t15_36 =>
  BND (grd (isB t15_36 false) (some t13_35)) fun t17_37 =>
  BND (grd (isB t15_36 false) (binv .int .geq t17_37 (Value.int .u8 48))) fun t18_38 =>
  BND (grd (isB t15_36 false) (some t18_38)) fun t19_39 =>
  BND (grd (isB t19_39 true) (some t13_35)) fun t20_40 =>
  BND (grd (isB t19_39 true) (binv .int .leq t20_40 (Value.int .u8 57))) fun t21_41 =>
  BND (grd (isB t15_36 false) (pickv t19_39 t21_41 (Value.bool false))) fun t22_42 =>
  BND (pickv t15_36 (Value.bool true) t22_42) fun t23_43 =>
  BND (grd (isB t23_43 false) (some t13_35)) fun t25_44 =>
  BND (grd (isB t23_43 false) (binv .int .geq t25_44 (Value.int .u8 97))) fun t26_45 =>
  BND (grd (isB t23_43 false) (some t26_45)) fun t27_46 =>
  BND (grd (isB t27_46 true) (some t13_35)) fun t28_47 =>
  BND (grd (isB t27_46 true) (binv .int .leq t28_47 (Value.int .u8 122))) fun t29_48 =>
  BND (grd (isB t23_43 false) (pickv t27_46 t29_48 (Value.bool false))) fun t30_49 =>
  BND (pickv t23_43 (Value.bool true) t30_49) fun t31_50 =>
  BND (unv .not t31_50) fun t32_51 =>
  COND t32_51
  (R (Value.bool false) w1)
  (BND (binv .int .add i_3 (Value.int .i64 1)) fun t10_52 =>
  (J_1 t10_52 w1 ∧ m_1 t10_52 w1 < m_1 i_3 w1)))
  (BND (lens name_p0) fun t34_53 =>
  BND (binv .int .geq t34_53 (Value.int .i64 1)) fun t35_54 =>
  BND (grd (isB t35_54 true) (some name_p0)) fun t37_55 =>
  BND (grd (isB t35_54 true) (lens t37_55)) fun t38_56 =>
  BND (grd (isB t35_54 true) (binv .int .leq t38_56 (Value.int .i64 12))) fun t39_57 =>
  BND (pickv t35_54 t39_57 (Value.bool false)) fun t40_58 =>
  R t40_58 w1))
def ann_tumbrelref06_may : List (Nat × List Nat) := [(1000002, [3])]
theorem E_tumbrelref06_may (name_p0 : Value) (w : World) (R : Value → World → Prop) : M_tumbrelref06_may name_p0 w R = den PR ann_tumbrelref06_may (bodyOf Tryz.f73) (retQ PR Tryz.f73.results.toList R) (env0 [name_p0]) w := by kernel_rfl
theorem C_tumbrelref06_may {name_p0 : Value} {w : World} {R : Value → World → Prop} (h : M_tumbrelref06_may name_p0 w R) : CALL PR F_tumbrelref06_may [name_p0] w R :=
  call_of_den2 ann_tumbrelref06_may Tryz.func73 (by kernel_rfl) (by kernel_rfl) (by kernel_rfl) ((E_tumbrelref06_may name_p0 w R) ▸ h)


-- 74 tumbrel.tumbrelref06.with
def M_tumbrelref06_with (l_p0 x_p1 : Value) (w : World) (R : Value → World → Prop) : Prop :=
  NEW (newv 120 w x_p1) fun x_1 w1 =>
  ∃ (J_2 : Value → World → Prop) (m_2 : Value → World → Nat), J_2 (Value.int .i64 0) w1 ∧ ∀ (_d_2 : Env) (at_3 : Value) (w2 : World), J_2 at_3 w2 →
  (BND (lenl l_p0) fun t9_20 =>
  BND (binv .int .lss at_3 t9_20) fun t10_21 =>
  BND (grd (isB t10_21 true) (some l_p0)) fun t12_22 =>
  BND (grd (isB t10_21 true) (some at_3)) fun t13_23 =>
  BND (grd (isB t10_21 true) (iaddr 2 t12_22 t13_23)) fun t14_24 =>
  BND (grd (isB t10_21 true) (faddr 0 t14_24)) fun t15_25 =>
  BND (grd (isB t10_21 true) (faddr 0 x_1)) fun t17_26 =>
  BND (grd (isB t10_21 true) (load1 w2.drew t15_25)) fun t16_27 =>
  BND (grd (isB t10_21 true) (load1 w2.drew t17_26)) fun t18_28 =>
  BND (grd (isB t10_21 true) (binv .str .lss t16_27 t18_28)) fun t19_29 =>
  BND (pickv t10_21 t19_29 (Value.bool false)) fun t20_30 =>
  COND t20_30
  (BND (binv .int .add at_3 (Value.int .i64 1)) fun t22_31 =>
  (J_2 t22_31 w2.drew ∧ m_2 t22_31 w2.drew < m_2 at_3 w2))
  (BND (newslice 120 #[(Value.string ByteArray.empty), (Value.int .i64 0)] 2 0 [] w2.drew) fun p_ => NEW p_ fun t23_32 w3 =>
  BND (slicev 2 l_p0 none (some at_3)) fun t26_33 =>
  APPEND 120 2 24 (Value.agg #[(Value.string ByteArray.empty), (Value.int .i64 0)]) t23_32 t26_33 w3 fun t27_34 w4 =>
  BND (slicev 2 l_p0 (some at_3) none) fun t34_35 =>
  BND (loadn 2 w4.drew x_1) fun t29_36 =>
  BND (newslice 120 #[(Value.string ByteArray.empty), (Value.int .i64 0)] 2 1 [(0, 2, t29_36)] w4.drew) fun p_ => NEW p_ fun t30_37 w5 =>
  APPEND 120 2 24 (Value.agg #[(Value.string ByteArray.empty), (Value.int .i64 0)]) t27_34 t30_37 w5 fun t31_38 w6 =>
  APPEND 120 2 24 (Value.agg #[(Value.string ByteArray.empty), (Value.int .i64 0)]) t31_38 t34_35 w6 fun t35_39 w7 =>
  R t35_39 w7))
def ann_tumbrelref06_with : List (Nat × List Nat) := [(2, [0, 1, 2, 3, 4, 5, 6, 7, 8, 10, 9, 11, 12, 13]), (5, [0, 4, 5, 6, 1, 2, 3, 7, 8]), (1000002, [5])]
theorem E_tumbrelref06_with (l_p0 x_p1 : Value) (w : World) (R : Value → World → Prop) : M_tumbrelref06_with l_p0 x_p1 w R = den PR ann_tumbrelref06_with (bodyOf Tryz.f74) (retQ PR Tryz.f74.results.toList R) (env0 [l_p0, x_p1]) w := by kernel_rfl
theorem C_tumbrelref06_with {l_p0 x_p1 : Value} {w : World} {R : Value → World → Prop} (h : M_tumbrelref06_with l_p0 x_p1 w R) : CALL PR F_tumbrelref06_with [l_p0, x_p1] w R :=
  call_of_den2 ann_tumbrelref06_with Tryz.func74 (by kernel_rfl) (by kernel_rfl) (by kernel_rfl) ((E_tumbrelref06_with l_p0 x_p1 w R) ▸ h)


-- 78 tumbrel.tumbrelref12.Right
def M_tumbrelref12_Right (o_p0 : Value) (w : World) (R : Value → World → Prop) : Prop :=
  NEW (newv 95 w o_p0) fun o_1 w1 =>
  BND (faddr 0 o_1) fun t8_2 =>
  BND (load1 w1 t8_2) fun t9_3 =>
  BND (binv .int .eql t9_3 (Value.int .i64 2)) fun t10_4 =>
  BND (faddr 0 o_1) fun t11_5 =>
  BND (load1 w1 t11_5) fun t12_6 =>
  BND (binv .int .eql t12_6 (Value.int .i64 3)) fun t13_7 =>
  BND (faddr 0 o_1) fun t14_8 =>
  BND (load1 w1 t14_8) fun t15_9 =>
  BND (binv .int .eql t15_9 (Value.int .i64 10)) fun t16_10 =>
  BND (faddr 0 o_1) fun t17_11 =>
  BND (load1 w1 t17_11) fun t18_12 =>
  BND (binv .int .geq t18_12 (Value.int .i64 4)) fun t19_13 =>
  BND (grd (isB t19_13 true) (faddr 0 o_1)) fun t21_14 =>
  BND (grd (isB t19_13 true) (load1 w1 t21_14)) fun t22_15 =>
  BND (grd (isB t19_13 true) (binv .int .leq t22_15 (Value.int .i64 6))) fun t23_16 =>
  BND (pickv t19_13 t23_16 (Value.bool false)) fun t24_17 =>
  BND (grd (isB t24_17 false) (faddr 0 o_1)) fun t26_18 =>
  BND (grd (isB t24_17 false) (load1 w1 t26_18)) fun t27_19 =>
  BND (grd (isB t24_17 false) (binv .int .eql t27_19 (Value.int .i64 8))) fun t28_20 =>
  BND (pickv t24_17 (Value.bool true) t28_20) fun t29_21 =>
  BND (grd (isB t29_21 false) (faddr 0 o_1)) fun t31_22 =>
  BND (grd (isB t29_21 false) (load1 w1 t31_22)) fun t32_23 =>
  BND (grd (isB t29_21 false) (binv .int .eql t32_23 (Value.int .i64 9))) fun t33_24 =>
  BND (pickv t29_21 (Value.bool true) t33_24) fun t34_25 =>
  BND (grd (isB t10_4 false) (some t13_7)) fun t37_26 =>
  BND (pickv t10_4 (Value.bool true) t37_26) fun t38_27 =>
  BND (grd (isB t38_27 false) (faddr 0 o_1)) fun t40_28 =>
  BND (grd (isB t38_27 false) (load1 w1 t40_28)) fun t41_29 =>
  BND (grd (isB t38_27 false) (binv .int .eql t41_29 (Value.int .i64 5))) fun t42_30 =>
  BND (pickv t38_27 (Value.bool true) t42_30) fun t43_31 =>
  BND (grd (isB t43_31 false) (faddr 0 o_1)) fun t45_32 =>
  BND (grd (isB t43_31 false) (load1 w1 t45_32)) fun t46_33 =>
  BND (grd (isB t43_31 false) (binv .int .eql t46_33 (Value.int .i64 6))) fun t47_34 =>
  BND (pickv t43_31 (Value.bool true) t47_34) fun t48_35 =>
  BND (grd (isB t48_35 false) (faddr 0 o_1)) fun t50_36 =>
  BND (grd (isB t48_35 false) (load1 w1 t50_36)) fun t51_37 =>
  BND (grd (isB t48_35 false) (binv .int .eql t51_37 (Value.int .i64 7))) fun t52_38 =>
  BND (pickv t48_35 (Value.bool true) t52_38) fun t53_39 =>
  BND (grd (isB t53_39 false) (some t16_10)) fun t55_40 =>
  BND (pickv t53_39 (Value.bool true) t55_40) fun t56_41 =>
  BND (faddr 0 o_1) fun t57_42 =>
  BND (load1 w1 t57_42) fun t58_43 =>
  BND (binv .int .lss t58_43 (Value.int .i64 1)) fun t59_44 =>
  BND (grd (isB t59_44 false) (faddr 0 o_1)) fun t61_45 =>
  BND (grd (isB t59_44 false) (load1 w1 t61_45)) fun t62_46 =>
  BND (grd (isB t59_44 false) (binv .int .gtr t62_46 (Value.int .i64 10))) fun t63_47 =>
  BND (pickv t59_44 (Value.bool true) t63_47) fun t64_48 =>
  BND (grd (isB t64_48 false) (some t34_25)) fun t66_49 =>
  BND (grd (isB t64_48 false) (unv .not t66_49)) fun t67_50 =>
  BND (grd (isB t64_48 false) (some t67_50)) fun t68_51 =>
  BND (grd (isB t68_51 true) (faddr 2 o_1)) fun t69_52 =>
  BND (grd (isB t68_51 true) (load1 w1 t69_52)) fun t70_53 =>
  BND (grd (isB t68_51 true) (binv .int .neq t70_53 (Value.int .u64 0))) fun t71_54 =>
  BND (grd (isB t64_48 false) (pickv t68_51 t71_54 (Value.bool false))) fun t72_55 =>
  BND (pickv t64_48 (Value.bool true) t72_55) fun t73_56 =>
  BND (grd (isB t73_56 false) (some t56_41)) fun t75_57 =>
  BND (grd (isB t73_56 false) (unv .not t75_57)) fun t76_58 =>
  BND (grd (isB t73_56 false) (some t76_58)) fun t77_59 =>
  BND (grd (isB t77_59 true) (faddr 3 o_1)) fun t78_60 =>
  BND (grd (isB t77_59 true) (load1 w1 t78_60)) fun t79_61 =>
  BND (grd (isB t77_59 true) (binv .int .neq t79_61 (Value.int .u64 0))) fun t80_62 =>
  BND (grd (isB t73_56 false) (pickv t77_59 t80_62 (Value.bool false))) fun t81_63 =>
  BND (pickv t73_56 (Value.bool true) t81_63) fun t82_64 =>
  BND (grd (isB t82_64 false) (some t16_10)) fun t84_65 =>
  BND (grd (isB t82_64 false) (unv .not t84_65)) fun t85_66 =>
  BND (grd (isB t82_64 false) (some t85_66)) fun t86_67 =>
  BND (grd (isB t86_67 true) (faddr 4 o_1)) fun t87_68 =>
  BND (grd (isB t86_67 true) (load1 w1 t87_68)) fun t88_69 =>
  BND (grd (isB t86_67 true) (binv .str .neq t88_69 (Value.string { data := #[] }))) fun t89_70 =>
  BND (grd (isB t82_64 false) (pickv t86_67 t89_70 (Value.bool false))) fun t90_71 =>
  BND (pickv t82_64 (Value.bool true) t90_71) fun t91_72 =>
  BND (grd (isB t91_72 false) (faddr 4 o_1)) fun t93_73 =>
  BND (grd (isB t91_72 false) (load1 w1 t93_73)) fun t94_74 =>
  BND (grd (isB t91_72 false) (lens t94_74)) fun t95_75 =>
  BND (grd (isB t91_72 false) (binv .int .gtr t95_75 (Value.int .i64 64))) fun t96_76 =>
  BND (pickv t91_72 (Value.bool true) t96_76) fun t97_77 =>
  COND t97_77
  (R (Value.bool false) w1)
  (BND (unv .not t10_4) fun t99_78 =>
  BND (grd (isB t99_78 true) (faddr 5 o_1)) fun t101_79 =>
  BND (grd (isB t99_78 true) (loadn 3 w1 t101_79)) fun t102_80 =>
  BND (grd (isB t99_78 true) (buildv #[(Value.int .u64 0), (Value.int .u64 0), (Value.int .i64 0)] [])) fun t103_81 =>
  BND (grd (isB t99_78 true) (eqaggv [(0, (.int .u64)), (1, (.int .u64)), (2, (.int .i64))] .neq t102_80 t103_81)) fun t104_82 =>
  BND (pickv t99_78 t104_82 (Value.bool false)) fun t105_83 =>
  BND (grd (isB t105_83 false) (faddr 5 o_1)) fun t107_84 =>
  BND (grd (isB t105_83 false) (faddr 2 t107_84)) fun t108_85 =>
  BND (grd (isB t105_83 false) (load1 w1 t108_85)) fun t109_86 =>
  BND (grd (isB t105_83 false) (binv .int .lss t109_86 (Value.int .i64 0))) fun t110_87 =>
  BND (pickv t105_83 (Value.bool true) t110_87) fun t111_88 =>
  BND (grd (isB t111_88 false) (faddr 5 o_1)) fun t113_89 =>
  BND (grd (isB t111_88 false) (faddr 2 t113_89)) fun t114_90 =>
  BND (grd (isB t111_88 false) (load1 w1 t114_90)) fun t115_91 =>
  BND (grd (isB t111_88 false) (binv .int .gtr t115_91 (Value.int .i64 64))) fun t116_92 =>
  BND (pickv t111_88 (Value.bool true) t116_92) fun t117_93 =>
  COND t117_93
  (R (Value.bool false) w1)
  (COND t10_4
  (BND (faddr 1 o_1) fun t119_94 =>
  BND (load1 w1 t119_94) fun t120_95 =>
  BND (binv .int .geq t120_95 (Value.int .i64 0)) fun t121_96 =>
  BND (grd (isB t121_96 true) (faddr 1 o_1)) fun t123_97 =>
  BND (grd (isB t121_96 true) (load1 w1 t123_97)) fun t124_98 =>
  BND (grd (isB t121_96 true) (binv .int .leq t124_98 (Value.int .i64 7))) fun t125_99 =>
  BND (pickv t121_96 t125_99 (Value.bool false)) fun t126_100 =>
  R t126_100 w1)
  (COND t13_7
  (BND (faddr 1 o_1) fun t128_101 =>
  BND (load1 w1 t128_101) fun t129_102 =>
  BND (binv .int .geq t129_102 (Value.int .i64 (-1))) fun t130_103 =>
  BND (grd (isB t130_103 true) (faddr 1 o_1)) fun t132_104 =>
  BND (grd (isB t130_103 true) (load1 w1 t132_104)) fun t133_105 =>
  BND (grd (isB t130_103 true) (binv .int .leq t133_105 (Value.int .i64 7))) fun t134_106 =>
  BND (pickv t130_103 t134_106 (Value.bool false)) fun t135_107 =>
  R t135_107 w1)
  (BND (faddr 1 o_1) fun t136_108 =>
  BND (load1 w1 t136_108) fun t137_109 =>
  BND (binv .int .eql t137_109 (Value.int .i64 0)) fun t138_110 =>
  R t138_110 w1))))
def ann_tumbrelref12_Right : List (Nat × List Nat) := []
theorem E_tumbrelref12_Right (o_p0 : Value) (w : World) (R : Value → World → Prop) : M_tumbrelref12_Right o_p0 w R = den PR ann_tumbrelref12_Right (bodyOf Tryz.f78) (retQ PR Tryz.f78.results.toList R) (env0 [o_p0]) w := by kernel_rfl
theorem C_tumbrelref12_Right {o_p0 : Value} {w : World} {R : Value → World → Prop} (h : M_tumbrelref12_Right o_p0 w R) : CALL PR F_tumbrelref12_Right [o_p0] w R :=
  call_of_den2 ann_tumbrelref12_Right Tryz.func78 (by kernel_rfl) (by kernel_rfl) (by kernel_rfl) ((E_tumbrelref12_Right o_p0 w R) ▸ h)


-- 79 tumbrel.tumbrelref05.Right
def M_tumbrelref05_Right (r_p0 : Value) (w : World) (R : Value → World → Prop) : Prop :=
  NEW (newv 90 w r_p0) fun r_1 w1 =>
  ∃ S_2 : Nat → World → Prop,
  S_2 6 w1.drew ∧
  BND (faddr 0 r_1) fun t3_3 =>
  BND (load1 w1.drew t3_3) fun t4_4 =>
  CALL PR F_tumbrelref05_many [t4_4] w1.drew fun t5_5 w2 =>
  S_2 6 w2 ∧
  BND (binv .int .geq t5_5 (Value.int .i64 0)) fun t6_6 =>
  BND (grd (isB t6_6 true) (faddr 1 r_1)) fun t8_7 =>
  FLT (S_2 6) (fun w_ => (grd (isB t6_6 true) (load1 w_ t8_7))) fun t9_8 =>
  BND (grd (isB t6_6 true) (lenl t9_8)) fun t10_9 =>
  BND (grd (isB t6_6 true) (faddr 0 r_1)) fun t11_10 =>
  BND (grd (isB t6_6 true) (load1 w2 t11_10)) fun t12_11 =>
  GEF (isB t6_6 true) (fun k_ => CALL PR F_tumbrelref05_many [t12_11] w2 k_) w2 fun t13_12 w3 =>
  S_2 6 w3 ∧
  BND (grd (isB t6_6 true) (binv .int .eql t10_9 t13_12)) fun t14_13 =>
  BND (pickv t6_6 t14_13 (Value.bool false)) fun t15_14 =>
  BND (grd (isB t15_14 true) (faddr 0 r_1)) fun t17_15 =>
  BND (grd (isB t15_14 true) (faddr 2 r_1)) fun t19_16 =>
  BND (grd (isB t15_14 true) (load1 w3 t17_15)) fun t18_17 =>
  BND (grd (isB t15_14 true) (load1 w3 t19_16)) fun t20_18 =>
  BND (grd (isB t15_14 true) (lens t20_18)) fun t21_19 =>
  GEF (isB t15_14 true) (fun k_ => CALL PR F_tumbrelref05_texts [t18_17, t21_19] w3 k_) w3 fun t22_20 w4 =>
  BND (pickv t15_14 t22_20 (Value.bool false)) fun t23_21 =>
  R t23_21 w4
def ann_tumbrelref05_Right : List (Nat × List Nat) := [(1, [0, 1, 2, 3, 4, 5, 6, 7, 8, 9, 10, 11, 12, 13, 14, 16, 15, 17, 18, 19, 20, 21]), (2000001, [6]), (3001002, [6]), (3001010, [6])]
theorem E_tumbrelref05_Right (r_p0 : Value) (w : World) (R : Value → World → Prop) : M_tumbrelref05_Right r_p0 w R = den PR ann_tumbrelref05_Right (bodyOf Tryz.f79) (retQ PR Tryz.f79.results.toList R) (env0 [r_p0]) w := by kernel_rfl
theorem C_tumbrelref05_Right {r_p0 : Value} {w : World} {R : Value → World → Prop} (h : M_tumbrelref05_Right r_p0 w R) : CALL PR F_tumbrelref05_Right [r_p0] w R :=
  call_of_den2 ann_tumbrelref05_Right Tryz.func79 (by kernel_rfl) (by kernel_rfl) (by kernel_rfl) ((E_tumbrelref05_Right r_p0 w R) ▸ h)


-- 80 tumbrel.tumbrelref04.Bytes
def M_tumbrelref04_Bytes (x_p0 : Value) (w : World) (R : Value → World → Prop) : Prop :=
  NEW (newv 143 w x_p0) fun x_1 w1 =>
  BND (faddr 1 x_1) fun t5_2 =>
  BND (load1 w1 t5_2) fun t6_3 =>
  BND (lenl t6_3) fun t7_4 =>
  BND (binv .int .gtr t7_4 (Value.int .i64 400)) fun t9_5 =>
  COND t9_5
  (R (.tuple #[(Value.slice none 0 0), (Value.int .i64 4)]) w1)
  (∃ S_6 : Nat → World → Prop,
  S_6 11 w1.drew ∧
  BND (faddr 0 x_1) fun t10_7 =>
  BND (binv .int .rem t7_4 (Value.int .i64 256)) fun t13_8 =>
  BND (convi .u8 t13_8) fun t14_9 =>
  BND (binv .int .quo t7_4 (Value.int .i64 256)) fun t16_10 =>
  BND (convi .u8 t16_10) fun t17_11 =>
  BND (faddr 1 x_1) fun t20_12 =>
  FLT (S_6 11) (fun w_ => load1 w_ t20_12) fun t21_13 =>
  BND (load1 w1.drew t10_7) fun t11_14 =>
  BND (newslice 5 #[(Value.int .u8 0)] 1 3 [(0, 1, t11_14), (1, 1, t14_9), (2, 1, t17_11)] w1.drew) fun p_ => NEW p_ fun t18_15 w2 =>
  S_6 11 w2 ∧
  CALL PR F_tumbrelref01_Put [t18_15] w2 fun t19_16 w3 =>
  S_6 11 w3 ∧
  CALL PR F_tumbrelref01_Put [t21_13] w3 fun t22_17 w4 =>
  APPEND 5 1 1 (Value.int .u8 0) t19_16 t22_17 w4 fun t23_18 w5 =>
  R (.tuple #[t23_18, (Value.int .i64 0)]) w5)
def ann_tumbrelref04_Bytes : List (Nat × List Nat) := [(4, [0, 2, 3, 4, 5, 6, 7, 10, 11, 1, 8, 9, 12, 13, 14, 15]), (2000004, [11]), (3004008, [11]), (3004009, [11])]
theorem E_tumbrelref04_Bytes (x_p0 : Value) (w : World) (R : Value → World → Prop) : M_tumbrelref04_Bytes x_p0 w R = den PR ann_tumbrelref04_Bytes (bodyOf Tryz.f80) (retQ PR Tryz.f80.results.toList R) (env0 [x_p0]) w := by kernel_rfl
theorem C_tumbrelref04_Bytes {x_p0 : Value} {w : World} {R : Value → World → Prop} (h : M_tumbrelref04_Bytes x_p0 w R) : CALL PR F_tumbrelref04_Bytes [x_p0] w R :=
  call_of_den2 ann_tumbrelref04_Bytes Tryz.func80 (by kernel_rfl) (by kernel_rfl) (by kernel_rfl) ((E_tumbrelref04_Bytes x_p0 w R) ▸ h)


-- 81 tumbrel.tumbrelref02.All
def M_tumbrelref02_All (l_p0 : Value) (w : World) (R : Value → World → Prop) : Prop :=
  BND (newslice 5 #[(Value.int .u8 0)] 1 0 [] w) fun p_ => NEW p_ fun t5_1 w1 =>
  ∃ (J_2 : Value → Value → World → Prop) (m_2 : Value → Value → World → Nat), J_2 t5_1 (Value.int .i64 0) w1 ∧ ∀ (_d_2 : Env) (out_3 i_4 : Value) (w2 : World), J_2 out_3 i_4 w2 →
  (BND (lenl l_p0) fun t8_18 =>
  BND (binv .int .lss i_4 t8_18) fun t9_19 =>
  COND t9_19
  (BND (iaddr 1 l_p0 i_4) fun t15_20 =>
  BND (load1 w2 t15_20) fun t16_21 =>
  CALL PR F_tumbrelref02_Put [t16_21] w2 fun t17_22 w3 =>
  APPEND 5 1 1 (Value.int .u8 0) out_3 t17_22 w3 fun t18_23 w4 =>
  BND (binv .int .add i_4 (Value.int .i64 1)) fun t11_24 =>
  (J_2 t18_23 t11_24 w4 ∧ m_2 t18_23 t11_24 w4 < m_2 out_3 i_4 w2))
  (R out_3 w2))
def ann_tumbrelref02_All : List (Nat × List Nat) := [(1000003, [3, 4])]
theorem E_tumbrelref02_All (l_p0 : Value) (w : World) (R : Value → World → Prop) : M_tumbrelref02_All l_p0 w R = den PR ann_tumbrelref02_All (bodyOf Tryz.f81) (retQ PR Tryz.f81.results.toList R) (env0 [l_p0]) w := by kernel_rfl
theorem C_tumbrelref02_All {l_p0 : Value} {w : World} {R : Value → World → Prop} (h : M_tumbrelref02_All l_p0 w R) : CALL PR F_tumbrelref02_All [l_p0] w R :=
  call_of_den2 ann_tumbrelref02_All Tryz.func81 (by kernel_rfl) (by kernel_rfl) (by kernel_rfl) ((E_tumbrelref02_All l_p0 w R) ▸ h)


-- 87 tumbrel.tumbrelref04.All
def M_tumbrelref04_All (b_p0 : Value) (w : World) (R : Value → World → Prop) : Prop :=
  BND (newslice 143 #[(Value.int .u8 0), (Value.slice none 0 0)] 2 0 [] w) fun p_ => NEW p_ fun t10_1 w1 =>
  ∃ (J_2 : Value → Value → World → Prop) (m_2 : Value → Value → World → Nat), J_2 t10_1 (Value.int .i64 0) w1 ∧ ∀ (_d_2 : Env) (out_6 at_7 : Value) (w2 : World), J_2 out_6 at_7 w2 →
  (BND (lenl b_p0) fun t13_35 =>
  BND (binv .int .lss at_7 t13_35) fun t14_36 =>
  COND t14_36
  (BND (slicev 1 b_p0 (some at_7) none) fun t18_37 =>
  CALL PR F_tumbrelref04_Read [t18_37] w2 fun t19_38 w3 =>
  BND (extractv t19_38 0) fun t20_39 =>
  BND (extractv t19_38 1) fun t21_40 =>
  BND (extractv t19_38 2) fun t22_41 =>
  NEW (newv 143 w3 (Value.agg #[(Value.int .u8 0), (Value.slice none 0 0)])) fun x_42 w4 =>
  BND (storev 2 w4 x_42 t20_39) fun w5 =>
  BND (binv .int .neq t22_41 (Value.int .i64 0)) fun t24_43 =>
  COND t24_43
  (R (.tuple #[out_6, at_7, t22_41]) w5)
  (BND (loadn 2 w5 x_42) fun t29_44 =>
  BND (newslice 143 #[(Value.int .u8 0), (Value.slice none 0 0)] 2 1 [(0, 2, t29_44)] w5) fun p_ => NEW p_ fun t30_45 w6 =>
  APPEND 143 2 32 (Value.agg #[(Value.int .u8 0), (Value.slice none 0 0)]) out_6 t30_45 w6 fun t31_46 w7 =>
  BND (binv .int .add at_7 t21_40) fun t34_47 =>
  (J_2 t31_46 t34_47 w7 ∧ m_2 t31_46 t34_47 w7 < m_2 out_6 at_7 w2)))
  (R (.tuple #[out_6, at_7, (Value.int .i64 0)]) w2))
def ann_tumbrelref04_All : List (Nat × List Nat) := [(1000003, [5, 6])]
theorem E_tumbrelref04_All (b_p0 : Value) (w : World) (R : Value → World → Prop) : M_tumbrelref04_All b_p0 w R = den PR ann_tumbrelref04_All (bodyOf Tryz.f87) (retQ PR Tryz.f87.results.toList R) (env0 [b_p0]) w := by kernel_rfl
theorem C_tumbrelref04_All {b_p0 : Value} {w : World} {R : Value → World → Prop} (h : M_tumbrelref04_All b_p0 w R) : CALL PR F_tumbrelref04_All [b_p0] w R :=
  call_of_den2 ann_tumbrelref04_All Tryz.func87 (by kernel_rfl) (by kernel_rfl) (by kernel_rfl) ((E_tumbrelref04_All b_p0 w R) ▸ h)


-- 88 tumbrel.tumbrelref05.Read
def M_tumbrelref05_Read (x_p0 : Value) (w : World) (R : Value → World → Prop) : Prop :=
  NEW (newv 143 w x_p0) fun x_1 w1 =>
  NEW (newv 90 w1 (Value.agg #[(Value.int .i64 0), (Value.slice none 0 0), (Value.string ByteArray.empty)])) fun t2_2 w2 =>
  BND (faddr 0 x_1) fun t11_3 =>
  BND (load1 w2 t11_3) fun t12_4 =>
  BND (convi .i64 t12_4) fun t13_5 =>
  CALL PR F_tumbrelref05_many [t13_5] w2 fun t14_6 w3 =>
  BND (binv .int .lss t14_6 (Value.int .i64 0)) fun t16_7 =>
  COND t16_7
  (BND (buildv #[(Value.int .i64 0), (Value.slice none 0 0), (Value.string ByteArray.empty)] []) fun t17_8 =>
  BND (storev 3 w3 t2_2 t17_8) fun w4 =>
  BND (loadn 3 w4 t2_2) fun r_9 =>
  R (.tuple #[r_9, (Value.int .i64 2)]) w4)
  (BND (faddr 0 x_1) fun t18_10 =>
  BND (load1 w3 t18_10) fun t19_11 =>
  BND (convi .i64 t19_11) fun t20_12 =>
  BND (buildv #[(Value.int .i64 0), (Value.slice none 0 0), (Value.string ByteArray.empty)] [(0, 1, t20_12)]) fun t21_13 =>
  NEW (newv 90 w3 (Value.agg #[(Value.int .i64 0), (Value.slice none 0 0), (Value.string ByteArray.empty)])) fun r_14 w5 =>
  BND (storev 3 w5 r_14 t21_13) fun w6 =>
  ∃ (J_15 : Value → Value → World → Prop) (m_15 : Value → Value → World → Nat), J_15 (Value.int .i64 0) (Value.int .i64 0) w6 ∧ ∀ (_d_15 : Env) (at_17 i_18 : Value) (w7 : World), J_15 at_17 i_18 w7 →
  (BND (binv .int .lss i_18 t14_6) fun t24_49 =>
  COND t24_49
  (BND (faddr 1 x_1) fun t28_50 =>
  BND (load1 w7 t28_50) fun t29_51 =>
  BND (slicev 1 t29_51 (some at_17) none) fun t31_52 =>
  CALL PR F_tumbrelref02_Get [t31_52] w7 fun t32_53 w8 =>
  BND (extractv t32_53 0) fun t33_54 =>
  BND (extractv t32_53 1) fun t34_55 =>
  BND (extractv t32_53 2) fun t35_56 =>
  BND (binv .int .neq t35_56 (Value.int .i64 0)) fun t37_57 =>
  COND t37_57
  (BND (buildv #[(Value.int .i64 0), (Value.slice none 0 0), (Value.string ByteArray.empty)] []) fun t38_58 =>
  BND (storev 3 w8 t2_2 t38_58) fun w9 =>
  BND (loadn 3 w9 t2_2) fun r_59 =>
  R (.tuple #[r_59, t35_56]) w9)
  (BND (faddr 1 r_14) fun t40_60 =>
  BND (load1 w8 t40_60) fun t41_61 =>
  BND (newslice 32 #[(Value.int .u64 0)] 1 1 [(0, 1, t33_54)] w8) fun p_ => NEW p_ fun t43_62 w10 =>
  APPEND 32 1 8 (Value.int .u64 0) t41_61 t43_62 w10 fun t44_63 w11 =>
  BND (faddr 1 r_14) fun t45_64 =>
  BND (storev 1 w11 t45_64 t44_63) fun w12 =>
  BND (binv .int .add at_17 t34_55) fun t48_65 =>
  BND (binv .int .add i_18 (Value.int .i64 1)) fun t26_66 =>
  (J_15 t48_65 t26_66 w12 ∧ m_15 t48_65 t26_66 w12 < m_15 at_17 i_18 w7)))
  (BND (faddr 0 r_14) fun t49_67 =>
  BND (load1 w7 t49_67) fun t50_68 =>
  BND (faddr 1 x_1) fun t51_69 =>
  BND (load1 w7 t51_69) fun t52_70 =>
  BND (lenl t52_70) fun t53_71 =>
  BND (binv .int .sub t53_71 at_17) fun t55_72 =>
  CALL PR F_tumbrelref05_texts [t50_68, t55_72] w7 fun t56_73 w13 =>
  BND (unv .not t56_73) fun t57_74 =>
  COND t57_74
  (BND (buildv #[(Value.int .i64 0), (Value.slice none 0 0), (Value.string ByteArray.empty)] []) fun t58_75 =>
  BND (storev 3 w13 t2_2 t58_75) fun w14 =>
  BND (loadn 3 w14 t2_2) fun r_76 =>
  R (.tuple #[r_76, (Value.int .i64 2)]) w14)
  (BND (faddr 1 x_1) fun t59_77 =>
  BND (load1 w13 t59_77) fun t60_78 =>
  BND (slicev 1 t60_78 (some at_17) none) fun t62_79 =>
  BND (textv .u8 textOfBytes w13 t62_79) fun t63_80 =>
  BND (faddr 2 r_14) fun t64_81 =>
  BND (storev 1 w13 t64_81 t63_80) fun w15 =>
  BND (loadn 3 w15 r_14) fun t65_82 =>
  BND (storev 3 w15 t2_2 t65_82) fun w16 =>
  BND (loadn 3 w16 t2_2) fun r_83 =>
  R (.tuple #[r_83, (Value.int .i64 0)]) w16))))
def ann_tumbrelref05_Read : List (Nat × List Nat) := [(1000007, [6, 7])]
theorem E_tumbrelref05_Read (x_p0 : Value) (w : World) (R : Value → World → Prop) : M_tumbrelref05_Read x_p0 w R = den PR ann_tumbrelref05_Read (bodyOf Tryz.f88) (retQ PR Tryz.f88.results.toList R) (env0 [x_p0]) w := by kernel_rfl
theorem C_tumbrelref05_Read {x_p0 : Value} {w : World} {R : Value → World → Prop} (h : M_tumbrelref05_Read x_p0 w R) : CALL PR F_tumbrelref05_Read [x_p0] w R :=
  call_of_den2 ann_tumbrelref05_Read Tryz.func88 (by kernel_rfl) (by kernel_rfl) (by kernel_rfl) ((E_tumbrelref05_Read x_p0 w R) ▸ h)


-- 102 tumbrel.tumbrelref05.many
def M_tumbrelref05_many (kind_p0 : Value) (w : World) (R : Value → World → Prop) : Prop :=
  BND (newslice 3 #[(Value.int .i64 0)] 1 18 [(0, 1, (Value.int .i64 (-1))), (1, 1, (Value.int .i64 0)), (2, 1, (Value.int .i64 5)), (3, 1, (Value.int .i64 2)), (4, 1, (Value.int .i64 1)), (5, 1, (Value.int .i64 2)), (6, 1, (Value.int .i64 2)), (7, 1, (Value.int .i64 1)), (8, 1, (Value.int .i64 1)), (9, 1, (Value.int .i64 1)), (10, 1, (Value.int .i64 1)), (11, 1, (Value.int .i64 1)), (12, 1, (Value.int .i64 5)), (13, 1, (Value.int .i64 7)), (14, 1, (Value.int .i64 10)), (15, 1, (Value.int .i64 2)), (16, 1, (Value.int .i64 1)), (17, 1, (Value.int .i64 1))] w) fun p_ => NEW p_ fun t4_1 w1 =>
  BND (binv .int .lss kind_p0 (Value.int .i64 0)) fun t6_2 =>
  BND (grd (isB t6_2 false) (some kind_p0)) fun t8_3 =>
  BND (grd (isB t6_2 false) (binv .int .gtr t8_3 (Value.int .i64 17))) fun t9_4 =>
  BND (pickv t6_2 (Value.bool true) t9_4) fun t10_5 =>
  COND t10_5
  (R (Value.int .i64 (-1)) w1)
  (BND (iaddr 1 t4_1 kind_p0) fun t13_6 =>
  BND (load1 w1 t13_6) fun t14_7 =>
  R t14_7 w1)
def ann_tumbrelref05_many : List (Nat × List Nat) := []
theorem E_tumbrelref05_many (kind_p0 : Value) (w : World) (R : Value → World → Prop) : M_tumbrelref05_many kind_p0 w R = den PR ann_tumbrelref05_many (bodyOf Tryz.f102) (retQ PR Tryz.f102.results.toList R) (env0 [kind_p0]) w := by kernel_rfl
theorem C_tumbrelref05_many {kind_p0 : Value} {w : World} {R : Value → World → Prop} (h : M_tumbrelref05_many kind_p0 w R) : CALL PR F_tumbrelref05_many [kind_p0] w R :=
  call_of_den2 ann_tumbrelref05_many Tryz.func102 (by kernel_rfl) (by kernel_rfl) (by kernel_rfl) ((E_tumbrelref05_many kind_p0 w R) ▸ h)


-- 103 tumbrel.tumbrelref05.texts
def M_tumbrelref05_texts (kind_p0 n_p1 : Value) (w : World) (R : Value → World → Prop) : Prop :=
  BND (binv .int .eql kind_p0 (Value.int .i64 10)) fun t6_1 =>
  BND (grd (isB t6_1 false) (some kind_p0)) fun t8_2 =>
  BND (grd (isB t6_1 false) (binv .int .eql t8_2 (Value.int .i64 11))) fun t9_3 =>
  BND (pickv t6_1 (Value.bool true) t9_3) fun t10_4 =>
  BND (grd (isB t10_4 false) (some kind_p0)) fun t12_5 =>
  BND (grd (isB t10_4 false) (binv .int .eql t12_5 (Value.int .i64 16))) fun t13_6 =>
  BND (pickv t10_4 (Value.bool true) t13_6) fun t14_7 =>
  COND t14_7
  (BND (binv .int .leq n_p1 (Value.int .i64 64)) fun t16_8 =>
  R t16_8 w)
  (BND (binv .int .eql n_p1 (Value.int .i64 0)) fun t18_9 =>
  R t18_9 w)
def ann_tumbrelref05_texts : List (Nat × List Nat) := []
theorem E_tumbrelref05_texts (kind_p0 n_p1 : Value) (w : World) (R : Value → World → Prop) : M_tumbrelref05_texts kind_p0 n_p1 w R = den PR ann_tumbrelref05_texts (bodyOf Tryz.f103) (retQ PR Tryz.f103.results.toList R) (env0 [kind_p0, n_p1]) w := by kernel_rfl
theorem C_tumbrelref05_texts {kind_p0 n_p1 : Value} {w : World} {R : Value → World → Prop} (h : M_tumbrelref05_texts kind_p0 n_p1 w R) : CALL PR F_tumbrelref05_texts [kind_p0, n_p1] w R :=
  call_of_den2 ann_tumbrelref05_texts Tryz.func103 (by kernel_rfl) (by kernel_rfl) (by kernel_rfl) ((E_tumbrelref05_texts kind_p0 n_p1 w R) ▸ h)


-- 104 tumbrel.tumbrelref01.Put
def M_tumbrelref01_Put (b_p0 : Value) (w : World) (R : Value → World → Prop) : Prop :=
  BND (newslice 5 #[(Value.int .u8 0)] 1 0 [] w) fun p_ => NEW p_ fun t3_1 w1 =>
  APPEND 5 1 1 (Value.int .u8 0) t3_1 b_p0 w1 fun t5_2 w2 =>
  CALL PR F_tumbrelref01_Of [b_p0] w2 fun t7_3 w3 =>
  CALL PR F_tumbrelref01_Four [t7_3] w3 fun t8_4 w4 =>
  APPEND 5 1 1 (Value.int .u8 0) t5_2 t8_4 w4 fun t9_5 w5 =>
  R t9_5 w5
def ann_tumbrelref01_Put : List (Nat × List Nat) := []
theorem E_tumbrelref01_Put (b_p0 : Value) (w : World) (R : Value → World → Prop) : M_tumbrelref01_Put b_p0 w R = den PR ann_tumbrelref01_Put (bodyOf Tryz.f104) (retQ PR Tryz.f104.results.toList R) (env0 [b_p0]) w := by kernel_rfl
theorem C_tumbrelref01_Put {b_p0 : Value} {w : World} {R : Value → World → Prop} (h : M_tumbrelref01_Put b_p0 w R) : CALL PR F_tumbrelref01_Put [b_p0] w R :=
  call_of_den2 ann_tumbrelref01_Put Tryz.func104 (by kernel_rfl) (by kernel_rfl) (by kernel_rfl) ((E_tumbrelref01_Put b_p0 w R) ▸ h)


-- 105 tumbrel.tumbrelref02.Put
def M_tumbrelref02_Put (n_p0 : Value) (w : World) (R : Value → World → Prop) : Prop :=
  BND (binv .int .lss n_p0 (Value.int .u64 128)) fun t4_1 =>
  COND t4_1
  (BND (convi .u8 n_p0) fun t6_2 =>
  BND (newslice 5 #[(Value.int .u8 0)] 1 1 [(0, 1, t6_2)] w) fun p_ => NEW p_ fun t7_3 w1 =>
  R t7_3 w1)
  (BND (binv .int .rem n_p0 (Value.int .u64 128)) fun t9_4 =>
  BND (binv .int .add (Value.int .u64 128) t9_4) fun t10_5 =>
  BND (convi .u8 t10_5) fun t11_6 =>
  BND (newslice 5 #[(Value.int .u8 0)] 1 1 [(0, 1, t11_6)] w) fun p_ => NEW p_ fun t12_7 w2 =>
  BND (binv .int .quo n_p0 (Value.int .u64 128)) fun t14_8 =>
  CALL PR F_tumbrelref02_Put [t14_8] w2 fun t15_9 w3 =>
  APPEND 5 1 1 (Value.int .u8 0) t12_7 t15_9 w3 fun t16_10 w4 =>
  R t16_10 w4)
def ann_tumbrelref02_Put : List (Nat × List Nat) := []
theorem E_tumbrelref02_Put (n_p0 : Value) (w : World) (R : Value → World → Prop) : M_tumbrelref02_Put n_p0 w R = den PR ann_tumbrelref02_Put (bodyOf Tryz.f105) (retQ PR Tryz.f105.results.toList R) (env0 [n_p0]) w := by kernel_rfl
theorem C_tumbrelref02_Put {n_p0 : Value} {w : World} {R : Value → World → Prop} (h : M_tumbrelref02_Put n_p0 w R) : CALL PR F_tumbrelref02_Put [n_p0] w R :=
  call_of_den2 ann_tumbrelref02_Put Tryz.func105 (by kernel_rfl) (by kernel_rfl) (by kernel_rfl) ((E_tumbrelref02_Put n_p0 w R) ▸ h)


-- 108 tumbrel.tumbrelref04.Read
def M_tumbrelref04_Read (b_p0 : Value) (w : World) (R : Value → World → Prop) : Prop :=
  NEW (newv 143 w (Value.agg #[(Value.int .u8 0), (Value.slice none 0 0)])) fun t2_1 w1 =>
  BND (lenl b_p0) fun t11_2 =>
  BND (binv .int .lss t11_2 (Value.int .i64 7)) fun t12_3 =>
  COND t12_3
  (BND (buildv #[(Value.int .u8 0), (Value.slice none 0 0)] []) fun t13_4 =>
  BND (storev 2 w1 t2_1 t13_4) fun w2 =>
  BND (loadn 2 w2 t2_1) fun r_5 =>
  R (.tuple #[r_5, (Value.int .i64 0), (Value.int .i64 3)]) w2)
  (BND (slicev 1 b_p0 none (some (Value.int .i64 7))) fun t16_6 =>
  CALL PR F_tumbrelref01_Cut [t16_6] w1 fun t17_7 w3 =>
  BND (extractv t17_7 0) fun t18_8 =>
  BND (extractv t17_7 1) fun t19_9 =>
  BND (unv .not t19_9) fun t21_10 =>
  COND t21_10
  (BND (buildv #[(Value.int .u8 0), (Value.slice none 0 0)] []) fun t22_11 =>
  BND (storev 2 w3 t2_1 t22_11) fun w4 =>
  BND (loadn 2 w4 t2_1) fun r_12 =>
  R (.tuple #[r_12, (Value.int .i64 0), (Value.int .i64 8)]) w4)
  (BND (iaddr 1 t18_8 (Value.int .i64 1)) fun t24_13 =>
  BND (iaddr 1 t18_8 (Value.int .i64 2)) fun t28_14 =>
  BND (load1 w3.drew t24_13) fun t25_15 =>
  BND (convi .i64 t25_15) fun t26_16 =>
  BND (load1 w3.drew t28_14) fun t29_17 =>
  BND (convi .i64 t29_17) fun t30_18 =>
  BND (binv .int .mul (Value.int .i64 256) t30_18) fun t31_19 =>
  BND (binv .int .add t26_16 t31_19) fun t32_20 =>
  BND (binv .int .gtr t32_20 (Value.int .i64 400)) fun t34_21 =>
  COND t34_21
  (BND (buildv #[(Value.int .u8 0), (Value.slice none 0 0)] []) fun t35_22 =>
  BND (storev 2 w3.drew t2_1 t35_22) fun w5 =>
  BND (loadn 2 w5 t2_1) fun r_23 =>
  R (.tuple #[r_23, (Value.int .i64 0), (Value.int .i64 2)]) w5)
  (BND (lenl b_p0) fun t37_24 =>
  BND (binv .int .add t32_20 (Value.int .i64 11)) fun t39_25 =>
  BND (binv .int .lss t37_24 t39_25) fun t40_26 =>
  COND t40_26
  (BND (buildv #[(Value.int .u8 0), (Value.slice none 0 0)] []) fun t41_27 =>
  BND (storev 2 w3.drew t2_1 t41_27) fun w6 =>
  BND (loadn 2 w6 t2_1) fun r_28 =>
  R (.tuple #[r_28, (Value.int .i64 0), (Value.int .i64 3)]) w6)
  (BND (binv .int .add t32_20 (Value.int .i64 11)) fun t45_29 =>
  BND (slicev 1 b_p0 (some (Value.int .i64 7)) (some t45_29)) fun t46_30 =>
  CALL PR F_tumbrelref01_Cut [t46_30] w3.drew fun t47_31 w7 =>
  BND (extractv t47_31 0) fun t48_32 =>
  BND (extractv t47_31 1) fun t49_33 =>
  BND (unv .not t49_33) fun t51_34 =>
  COND t51_34
  (BND (buildv #[(Value.int .u8 0), (Value.slice none 0 0)] []) fun t52_35 =>
  BND (storev 2 w7 t2_1 t52_35) fun w8 =>
  BND (loadn 2 w8 t2_1) fun r_36 =>
  R (.tuple #[r_36, (Value.int .i64 0), (Value.int .i64 8)]) w8)
  (BND (iaddr 1 t18_8 (Value.int .i64 0)) fun t54_37 =>
  BND (load1 w7 t54_37) fun t55_38 =>
  BND (buildv #[(Value.int .u8 0), (Value.slice none 0 0)] [(0, 1, t55_38), (1, 1, t48_32)]) fun t57_39 =>
  BND (binv .int .add t32_20 (Value.int .i64 11)) fun t59_40 =>
  BND (storev 2 w7 t2_1 t57_39) fun w9 =>
  BND (loadn 2 w9 t2_1) fun r_41 =>
  R (.tuple #[r_41, t59_40, (Value.int .i64 0)]) w9)))))
def ann_tumbrelref04_Read : List (Nat × List Nat) := [(6, [0, 1, 4, 5, 2, 3, 6, 7, 8, 9, 10])]
theorem E_tumbrelref04_Read (b_p0 : Value) (w : World) (R : Value → World → Prop) : M_tumbrelref04_Read b_p0 w R = den PR ann_tumbrelref04_Read (bodyOf Tryz.f108) (retQ PR Tryz.f108.results.toList R) (env0 [b_p0]) w := by kernel_rfl
theorem C_tumbrelref04_Read {b_p0 : Value} {w : World} {R : Value → World → Prop} (h : M_tumbrelref04_Read b_p0 w R) : CALL PR F_tumbrelref04_Read [b_p0] w R :=
  call_of_den2 ann_tumbrelref04_Read Tryz.func108 (by kernel_rfl) (by kernel_rfl) (by kernel_rfl) ((E_tumbrelref04_Read b_p0 w R) ▸ h)


-- 109 tumbrel.tumbrelref02.Get
def M_tumbrelref02_Get (b_p0 : Value) (w : World) (R : Value → World → Prop) : Prop :=
  ∃ (J_1 : Value → World → Prop) (m_1 : Value → World → Nat), J_1 (Value.int .i64 0) w ∧ ∀ (_d_1 : Env) (many_2 : Value) (w1 : World), J_1 many_2 w1 →
  (BND (lenl b_p0) fun t10_20 =>
  BND (binv .int .lss many_2 t10_20) fun t11_21 =>
  BND (grd (isB t11_21 true) (some many_2)) fun t13_22 =>
  BND (grd (isB t11_21 true) (binv .int .lss t13_22 (Value.int .i64 9))) fun t14_23 =>
  BND (pickv t11_21 t14_23 (Value.bool false)) fun t15_24 =>
  BND (grd (isB t15_24 true) (some b_p0)) fun t17_25 =>
  BND (grd (isB t15_24 true) (some many_2)) fun t18_26 =>
  BND (grd (isB t15_24 true) (iaddr 1 t17_25 t18_26)) fun t19_27 =>
  BND (grd (isB t15_24 true) (load1 w1 t19_27)) fun t20_28 =>
  BND (grd (isB t15_24 true) (binv .int .geq t20_28 (Value.int .u8 128))) fun t21_29 =>
  BND (pickv t15_24 t21_29 (Value.bool false)) fun t22_30 =>
  COND t22_30
  (BND (binv .int .add many_2 (Value.int .i64 1)) fun t24_31 =>
  (J_1 t24_31 w1 ∧ m_1 t24_31 w1 < m_1 many_2 w1))
  (BND (lenl b_p0) fun t27_32 =>
  BND (binv .int .eql many_2 t27_32) fun t28_33 =>
  COND t28_33
  (R (.tuple #[(Value.int .u64 0), (Value.int .i64 0), (Value.int .i64 3)]) w1)
  (BND (binv .int .eql many_2 (Value.int .i64 9)) fun t30_34 =>
  BND (grd (isB t30_34 true) (some b_p0)) fun t32_35 =>
  BND (grd (isB t30_34 true) (iaddr 1 t32_35 (Value.int .i64 9))) fun t33_36 =>
  BND (grd (isB t30_34 true) (load1 w1 t33_36)) fun t34_37 =>
  BND (grd (isB t30_34 true) (binv .int .gtr t34_37 (Value.int .u8 1))) fun t35_38 =>
  BND (pickv t30_34 t35_38 (Value.bool false)) fun t36_39 =>
  BND (grd (isB t36_39 false) (some many_2)) fun t38_40 =>
  BND (grd (isB t36_39 false) (binv .int .gtr t38_40 (Value.int .i64 0))) fun t39_41 =>
  BND (grd (isB t36_39 false) (some t39_41)) fun t40_42 =>
  BND (grd (isB t40_42 true) (some b_p0)) fun t41_43 =>
  BND (grd (isB t40_42 true) (some many_2)) fun t42_44 =>
  BND (grd (isB t40_42 true) (iaddr 1 t41_43 t42_44)) fun t43_45 =>
  BND (grd (isB t40_42 true) (load1 w1 t43_45)) fun t44_46 =>
  BND (grd (isB t40_42 true) (binv .int .eql t44_46 (Value.int .u8 0))) fun t45_47 =>
  BND (grd (isB t36_39 false) (pickv t40_42 t45_47 (Value.bool false))) fun t46_48 =>
  BND (pickv t36_39 (Value.bool true) t46_48) fun t47_49 =>
  COND t47_49
  (R (.tuple #[(Value.int .u64 0), (Value.int .i64 0), (Value.int .i64 2)]) w1)
  (∃ (J_50 : Value → Value → World → Prop) (m_50 : Value → Value → World → Nat), J_50 (Value.int .u64 0) many_2 w1 ∧ ∀ (_d_50 : Env) (n_51 i_52 : Value) (w2 : World), J_50 n_51 i_52 w2 →
  (BND (binv .int .geq i_52 (Value.int .i64 0)) fun t50_66 =>
  COND t50_66
  (BND (binv .int .mul (Value.int .u64 128) n_51) fun t54_67 =>
  BND (iaddr 1 b_p0 i_52) fun t57_68 =>
  BND (load1 w2 t57_68) fun t58_69 =>
  BND (binv .int .rem t58_69 (Value.int .u8 128)) fun t59_70 =>
  BND (convi .u64 t59_70) fun t60_71 =>
  BND (binv .int .add t54_67 t60_71) fun t61_72 =>
  BND (binv .int .sub i_52 (Value.int .i64 1)) fun t52_73 =>
  (J_50 t61_72 t52_73 w2 ∧ m_50 t61_72 t52_73 w2 < m_50 n_51 i_52 w2))
  (BND (binv .int .add many_2 (Value.int .i64 1)) fun t64_74 =>
  R (.tuple #[n_51, t64_74, (Value.int .i64 0)]) w2))))))
def ann_tumbrelref02_Get : List (Nat × List Nat) := [(1000002, [5]), (1000010, [6, 7])]
theorem E_tumbrelref02_Get (b_p0 : Value) (w : World) (R : Value → World → Prop) : M_tumbrelref02_Get b_p0 w R = den PR ann_tumbrelref02_Get (bodyOf Tryz.f109) (retQ PR Tryz.f109.results.toList R) (env0 [b_p0]) w := by kernel_rfl
theorem C_tumbrelref02_Get {b_p0 : Value} {w : World} {R : Value → World → Prop} (h : M_tumbrelref02_Get b_p0 w R) : CALL PR F_tumbrelref02_Get [b_p0] w R :=
  call_of_den2 ann_tumbrelref02_Get Tryz.func109 (by kernel_rfl) (by kernel_rfl) (by kernel_rfl) ((E_tumbrelref02_Get b_p0 w R) ▸ h)


-- 124 tumbrel.tumbrelref01.Four
def M_tumbrelref01_Four (n_p0 : Value) (w : World) (R : Value → World → Prop) : Prop :=
  BND (newslice 5 #[(Value.int .u8 0)] 1 0 [] w) fun p_ => NEW p_ fun t5_1 w1 =>
  ∃ (J_2 : Value → Value → Value → World → Prop) (m_2 : Value → Value → Value → World → Nat), J_2 n_p0 t5_1 (Value.int .i64 0) w1 ∧ ∀ (_d_2 : Env) (n_3 out_4 i_5 : Value) (w2 : World), J_2 n_3 out_4 i_5 w2 →
  (BND (binv .int .lss i_5 (Value.int .i64 4)) fun t7_18 =>
  COND t7_18
  (BND (binv .int .rem n_3 (Value.int .u32 256)) fun t12_19 =>
  BND (convi .u8 t12_19) fun t13_20 =>
  BND (newslice 5 #[(Value.int .u8 0)] 1 1 [(0, 1, t13_20)] w2) fun p_ => NEW p_ fun t14_21 w3 =>
  APPEND 5 1 1 (Value.int .u8 0) out_4 t14_21 w3 fun t15_22 w4 =>
  BND (binv .int .quo n_3 (Value.int .u32 256)) fun t17_23 =>
  BND (binv .int .add i_5 (Value.int .i64 1)) fun t9_24 =>
  (J_2 t17_23 t15_22 t9_24 w4 ∧ m_2 t17_23 t15_22 t9_24 w4 < m_2 n_3 out_4 i_5 w2))
  (R out_4 w2))
def ann_tumbrelref01_Four : List (Nat × List Nat) := [(1000003, [0, 3, 4])]
theorem E_tumbrelref01_Four (n_p0 : Value) (w : World) (R : Value → World → Prop) : M_tumbrelref01_Four n_p0 w R = den PR ann_tumbrelref01_Four (bodyOf Tryz.f124) (retQ PR Tryz.f124.results.toList R) (env0 [n_p0]) w := by kernel_rfl
theorem C_tumbrelref01_Four {n_p0 : Value} {w : World} {R : Value → World → Prop} (h : M_tumbrelref01_Four n_p0 w R) : CALL PR F_tumbrelref01_Four [n_p0] w R :=
  call_of_den2 ann_tumbrelref01_Four Tryz.func124 (by kernel_rfl) (by kernel_rfl) (by kernel_rfl) ((E_tumbrelref01_Four n_p0 w R) ▸ h)


-- 125 tumbrel.tumbrelref01.Of
def M_tumbrelref01_Of (b_p0 : Value) (w : World) (R : Value → World → Prop) : Prop :=
  CALL PR F_tumbrelref01_More [(Value.int .u32 0), b_p0] w fun t4_1 w1 =>
  R t4_1 w1
def ann_tumbrelref01_Of : List (Nat × List Nat) := []
theorem E_tumbrelref01_Of (b_p0 : Value) (w : World) (R : Value → World → Prop) : M_tumbrelref01_Of b_p0 w R = den PR ann_tumbrelref01_Of (bodyOf Tryz.f125) (retQ PR Tryz.f125.results.toList R) (env0 [b_p0]) w := by kernel_rfl
theorem C_tumbrelref01_Of {b_p0 : Value} {w : World} {R : Value → World → Prop} (h : M_tumbrelref01_Of b_p0 w R) : CALL PR F_tumbrelref01_Of [b_p0] w R :=
  call_of_den2 ann_tumbrelref01_Of Tryz.func125 (by kernel_rfl) (by kernel_rfl) (by kernel_rfl) ((E_tumbrelref01_Of b_p0 w R) ▸ h)


-- 127 tumbrel.tumbrelref01.Cut
def M_tumbrelref01_Cut (b_p0 : Value) (w : World) (R : Value → World → Prop) : Prop :=
  BND (lenl b_p0) fun t6_1 =>
  BND (binv .int .lss t6_1 (Value.int .i64 4)) fun t7_2 =>
  COND t7_2
  (R (.tuple #[(Value.slice none 0 0), (Value.bool false)]) w)
  (BND (newslice 5 #[(Value.int .u8 0)] 1 0 [] w) fun p_ => NEW p_ fun t8_3 w1 =>
  BND (lenl b_p0) fun t11_4 =>
  BND (binv .int .sub t11_4 (Value.int .i64 4)) fun t12_5 =>
  BND (slicev 1 b_p0 none (some t12_5)) fun t13_6 =>
  APPEND 5 1 1 (Value.int .u8 0) t8_3 t13_6 w1 fun t14_7 w2 =>
  CALL PR F_tumbrelref01_Put [t14_7] w2 fun t16_8 w3 =>
  CALL PR F_tumbrelref01_Same [t16_8, b_p0] w3 fun t18_9 w4 =>
  BND (unv .not t18_9) fun t19_10 =>
  COND t19_10
  (R (.tuple #[(Value.slice none 0 0), (Value.bool false)]) w4)
  (R (.tuple #[t14_7, (Value.bool true)]) w4))
def ann_tumbrelref01_Cut : List (Nat × List Nat) := []
theorem E_tumbrelref01_Cut (b_p0 : Value) (w : World) (R : Value → World → Prop) : M_tumbrelref01_Cut b_p0 w R = den PR ann_tumbrelref01_Cut (bodyOf Tryz.f127) (retQ PR Tryz.f127.results.toList R) (env0 [b_p0]) w := by kernel_rfl
theorem C_tumbrelref01_Cut {b_p0 : Value} {w : World} {R : Value → World → Prop} (h : M_tumbrelref01_Cut b_p0 w R) : CALL PR F_tumbrelref01_Cut [b_p0] w R :=
  call_of_den2 ann_tumbrelref01_Cut Tryz.func127 (by kernel_rfl) (by kernel_rfl) (by kernel_rfl) ((E_tumbrelref01_Cut b_p0 w R) ▸ h)


-- 145 tumbrel.tumbrelref01.More
def M_tumbrelref01_More (sum_p0 b_p1 : Value) (w : World) (R : Value → World → Prop) : Prop :=
  BND (binv .int .sub (Value.int .u32 4294967295) sum_p0) fun t8_1 =>
  ∃ (J_2 : Value → Value → World → Prop) (m_2 : Value → Value → World → Nat), J_2 t8_1 (Value.int .i64 0) w ∧ ∀ (_d_2 : Env) (n_3 i_4 : Value) (w1 : World), J_2 n_3 i_4 w1 →
  (BND (lenl b_p1) fun t11_19 =>
  BND (binv .int .lss i_4 t11_19) fun t12_20 =>
  COND t12_20
  (BND (iaddr 1 b_p1 i_4) fun t18_21 =>
  BND (load1 w1 t18_21) fun t19_22 =>
  BND (convi .u32 t19_22) fun t20_23 =>
  BND (binv .int .xor n_3 t20_23) fun t21_24 =>
  CALL PR F_tumbrelref01_Entry [t21_24] w1 fun t22_25 w2 =>
  BND (binv .int .add i_4 (Value.int .i64 1)) fun t14_26 =>
  (J_2 t22_25 t14_26 w2 ∧ m_2 t22_25 t14_26 w2 < m_2 n_3 i_4 w1))
  (BND (binv .int .sub (Value.int .u32 4294967295) n_3) fun t24_27 =>
  R t24_27 w1))
def ann_tumbrelref01_More : List (Nat × List Nat) := [(1000003, [5, 6])]
theorem E_tumbrelref01_More (sum_p0 b_p1 : Value) (w : World) (R : Value → World → Prop) : M_tumbrelref01_More sum_p0 b_p1 w R = den PR ann_tumbrelref01_More (bodyOf Tryz.f145) (retQ PR Tryz.f145.results.toList R) (env0 [sum_p0, b_p1]) w := by kernel_rfl
theorem C_tumbrelref01_More {sum_p0 b_p1 : Value} {w : World} {R : Value → World → Prop} (h : M_tumbrelref01_More sum_p0 b_p1 w R) : CALL PR F_tumbrelref01_More [sum_p0, b_p1] w R :=
  call_of_den2 ann_tumbrelref01_More Tryz.func145 (by kernel_rfl) (by kernel_rfl) (by kernel_rfl) ((E_tumbrelref01_More sum_p0 b_p1 w R) ▸ h)


-- 147 tumbrel.tumbrelref01.Same
def M_tumbrelref01_Same (a_p0 b_p1 : Value) (w : World) (R : Value → World → Prop) : Prop :=
  BND (lenl a_p0) fun t7_1 =>
  BND (lenl b_p1) fun t9_2 =>
  BND (binv .int .neq t7_1 t9_2) fun t10_3 =>
  COND t10_3
  (R (Value.bool false) w)
  (∃ (J_4 : Value → World → Prop) (m_4 : Value → World → Nat), J_4 (Value.int .i64 0) w ∧ ∀ (_d_4 : Env) (i_6 : Value) (w1 : World), J_4 i_6 w1 →
  (BND (lenl a_p0) fun t13_22 =>
  BND (binv .int .lss i_6 t13_22) fun t14_23 =>
  COND t14_23
  (BND (iaddr 1 a_p0 i_6) fun t19_24 =>
  BND (iaddr 1 b_p1 i_6) fun t23_25 =>
  BND (load1 w1.drew t19_24) fun t20_26 =>
  BND (load1 w1.drew t23_25) fun t24_27 =>
  BND (binv .int .neq t20_26 t24_27) fun t25_28 =>
  COND t25_28
  (R (Value.bool false) w1.drew)
  (BND (binv .int .add i_6 (Value.int .i64 1)) fun t16_29 =>
  (J_4 t16_29 w1.drew ∧ m_4 t16_29 w1.drew < m_4 i_6 w1)))
  (R (Value.bool true) w1)))
def ann_tumbrelref01_Same : List (Nat × List Nat) := [(6, [0, 1, 2, 4, 5, 6, 3, 7, 8]), (1000004, [5])]
theorem E_tumbrelref01_Same (a_p0 b_p1 : Value) (w : World) (R : Value → World → Prop) : M_tumbrelref01_Same a_p0 b_p1 w R = den PR ann_tumbrelref01_Same (bodyOf Tryz.f147) (retQ PR Tryz.f147.results.toList R) (env0 [a_p0, b_p1]) w := by kernel_rfl
theorem C_tumbrelref01_Same {a_p0 b_p1 : Value} {w : World} {R : Value → World → Prop} (h : M_tumbrelref01_Same a_p0 b_p1 w R) : CALL PR F_tumbrelref01_Same [a_p0, b_p1] w R :=
  call_of_den2 ann_tumbrelref01_Same Tryz.func147 (by kernel_rfl) (by kernel_rfl) (by kernel_rfl) ((E_tumbrelref01_Same a_p0 b_p1 w R) ▸ h)


-- 157 tumbrel.tumbrelref01.Entry
def M_tumbrelref01_Entry (n_p0 : Value) (w : World) (R : Value → World → Prop) : Prop :=
  ∃ (J_1 : Value → Value → World → Prop) (m_1 : Value → Value → World → Nat), J_1 n_p0 (Value.int .i64 0) w ∧ ∀ (_d_1 : Env) (n_2 i_3 : Value) (w1 : World), J_1 n_2 i_3 w1 →
  (BND (binv .int .lss i_3 (Value.int .i64 8)) fun t6_17 =>
  COND t6_17
  (BND (binv .int .rem n_2 (Value.int .u32 2)) fun t10_18 =>
  BND (binv .int .eql t10_18 (Value.int .u32 1)) fun t11_19 =>
  BND (binv .int .quo n_2 (Value.int .u32 2)) fun t13_20 =>
  JOIN (α := Value → World → Prop) (fun k_25 => COND t11_19
  (BND (binv .int .xor t13_20 (Value.int .u32 2197175160)) fun t16_26 =>
  k_25 t16_26 w1)
  (k_25 t13_20 w1))
  (fun n_21 w2 => BND (binv .int .add i_3 (Value.int .i64 1)) fun t8_24 =>
  (J_1 n_21 t8_24 w2 ∧ m_1 n_21 t8_24 w2 < m_1 n_2 i_3 w1)))
  (R n_2 w1))
def ann_tumbrelref01_Entry : List (Nat × List Nat) := [(1000002, [0, 3])]
theorem E_tumbrelref01_Entry (n_p0 : Value) (w : World) (R : Value → World → Prop) : M_tumbrelref01_Entry n_p0 w R = den PR ann_tumbrelref01_Entry (bodyOf Tryz.f157) (retQ PR Tryz.f157.results.toList R) (env0 [n_p0]) w := by kernel_rfl
theorem C_tumbrelref01_Entry {n_p0 : Value} {w : World} {R : Value → World → Prop} (h : M_tumbrelref01_Entry n_p0 w R) : CALL PR F_tumbrelref01_Entry [n_p0] w R :=
  call_of_den2 ann_tumbrelref01_Entry Tryz.func157 (by kernel_rfl) (by kernel_rfl) (by kernel_rfl) ((E_tumbrelref01_Entry n_p0 w R) ▸ h)

end Go.Proofs.YtmefbneoljpbgaaGreatDoor
