/- Printed by denprint.py: the Go function as a predicate, and that it stands for the call. No condition. -/
import Derived.Test.YtmgdnbmepamcoaaFns
set_option maxRecDepth 100000
set_option linter.unusedVariables false
namespace Go.Proofs.Ytmgdnbmepamcoaa
open Go.Den

-- 5 tumbrel.tumbrellaw03.LabelCuts
def M_tumbrellaw03_LabelCuts (s_p0 n_p1 : Value) (w : World) (R : Value → World → Prop) : Prop :=
  CALL PR F_tumbrellaw03_awake [] w fun t6_1 w1 =>
  BND (unv .not t6_1) fun t7_2 =>
  COND t7_2
  (R (Value.bool false) w1)
  (BND (lens s_p0) fun t9_3 =>
  BND (binv .int .gtr t9_3 (Value.int .i64 300)) fun t10_4 =>
  COND t10_4
  (R (Value.bool true) w1)
  (CALL PR F_label_Cut [s_p0, n_p1] w1 fun t13_5 w2 =>
  BND (lens t13_5) fun t15_6 =>
  BND (lens s_p0) fun t17_7 =>
  BND (binv .int .gtr t15_6 t17_7) fun t18_8 =>
  BND (grd (isB t18_8 false) (some s_p0)) fun t20_9 =>
  BND (grd (isB t18_8 false) (some t13_5)) fun t21_10 =>
  BND (grd (isB t18_8 false) (lens t21_10)) fun t22_11 =>
  BND (grd (isB t18_8 false) (slices t20_9 none (some t22_11))) fun t23_12 =>
  BND (grd (isB t18_8 false) (some t13_5)) fun t24_13 =>
  BND (grd (isB t18_8 false) (binv .str .neq t23_12 t24_13)) fun t25_14 =>
  BND (pickv t18_8 (Value.bool true) t25_14) fun t26_15 =>
  BND (grd (isB t26_15 false) (some t13_5)) fun t28_16 =>
  BND (grd (isB t26_15 false) (some n_p1)) fun t29_17 =>
  GEF (isB t26_15 false) (fun k_ => CALL PR F_label_Cut [t28_16, t29_17] w2 k_) w2 fun t30_18 w3 =>
  BND (grd (isB t26_15 false) (some t13_5)) fun t31_19 =>
  BND (grd (isB t26_15 false) (binv .str .neq t30_18 t31_19)) fun t32_20 =>
  BND (pickv t26_15 (Value.bool true) t32_20) fun t33_21 =>
  COND t33_21
  (R (Value.bool false) w3)
  (BND (max2v n_p1 (Value.int .i64 0)) fun t37_22 =>
  CALL PR F_label_Len [t13_5] w3.drew fun t35_23 w4 =>
  CALL PR F_label_Len [s_p0] w4 fun t39_24 w5 =>
  BND (min2v t37_22 t39_24) fun t40_25 =>
  BND (binv .int .eql t35_23 t40_25) fun t41_26 =>
  BND (grd (isB t41_26 true) (some t13_5)) fun t43_27 =>
  BND (grd (isB t41_26 true) (some s_p0)) fun t45_28 =>
  BND (grd (isB t41_26 true) (some t13_5)) fun t46_29 =>
  BND (grd (isB t41_26 true) (lens t46_29)) fun t47_30 =>
  BND (grd (isB t41_26 true) (slices t45_28 (some t47_30) none)) fun t48_31 =>
  BND (grd (isB t41_26 true) (some s_p0)) fun t51_32 =>
  GEF (isB t41_26 true) (fun k_ => CALL PR F_label_Len [t43_27] w5 k_) w5 fun t44_33 w6 =>
  GEF (isB t41_26 true) (fun k_ => CALL PR F_label_Len [t48_31] w6 k_) w6 fun t49_34 w7 =>
  BND (grd (isB t41_26 true) (binv .int .add t44_33 t49_34)) fun t50_35 =>
  GEF (isB t41_26 true) (fun k_ => CALL PR F_label_Len [t51_32] w7 k_) w7 fun t52_36 w8 =>
  BND (grd (isB t41_26 true) (binv .int .eql t50_35 t52_36)) fun t53_37 =>
  BND (pickv t41_26 t53_37 (Value.bool false)) fun t54_38 =>
  R t54_38 w8)))
def ann_tumbrellaw03_LabelCuts : List (Nat × List Nat) := [(8, [0, 2, 3, 4, 1, 5, 6, 7, 8, 9, 11, 12, 13, 14, 17, 10, 15, 16, 18, 19, 20, 21])]
theorem E_tumbrellaw03_LabelCuts (s_p0 n_p1 : Value) (w : World) (R : Value → World → Prop) : M_tumbrellaw03_LabelCuts s_p0 n_p1 w R = den PR ann_tumbrellaw03_LabelCuts (bodyOf Try.f5) (retQ PR Try.f5.results.toList R) (env0 [s_p0, n_p1]) w := by kernel_rfl
theorem C_tumbrellaw03_LabelCuts {s_p0 n_p1 : Value} {w : World} {R : Value → World → Prop} (h : M_tumbrellaw03_LabelCuts s_p0 n_p1 w R) : CALL PR F_tumbrellaw03_LabelCuts [s_p0, n_p1] w R :=
  call_of_den2 ann_tumbrellaw03_LabelCuts Try.func5 (by kernel_rfl) (by kernel_rfl) (by kernel_rfl) ((E_tumbrellaw03_LabelCuts s_p0 n_p1 w R) ▸ h)

end Go.Proofs.Ytmgdnbmepamcoaa
