/- Printed by denprint.py: the Go function as a predicate, and that it stands for the call. No condition. -/
import Derived.Test.YtmgdnbmepamcoaaFns
set_option maxRecDepth 100000
set_option linter.unusedVariables false
namespace Go.Proofs.Ytmgdnbmepamcoaa
open Go.Den

-- 3 tumbrel.tumbrellaw03.LabelTells
def M_tumbrellaw03_LabelTells (a_p0 b_p1 n_p2 : Value) (w : World) (R : Value → World → Prop) : Prop :=
  CALL PR F_tumbrellaw03_awake [] w fun t7_1 w1 =>
  BND (unv .not t7_1) fun t8_2 =>
  COND t8_2
  (R (Value.bool false) w1)
  (BND (lens a_p0) fun t10_3 =>
  BND (binv .int .gtr t10_3 (Value.int .i64 300)) fun t11_4 =>
  BND (grd (isB t11_4 false) (some b_p1)) fun t13_5 =>
  BND (grd (isB t11_4 false) (lens t13_5)) fun t14_6 =>
  BND (grd (isB t11_4 false) (binv .int .gtr t14_6 (Value.int .i64 300))) fun t15_7 =>
  BND (pickv t11_4 (Value.bool true) t15_7) fun t16_8 =>
  COND t16_8
  (R (Value.bool true) w1)
  (CALL PR F_label_Right [a_p0] w1 fun t18_9 w2 =>
  CALL PR F_tumbrelref03_Right [a_p0] w2 fun t20_10 w3 =>
  BND (binv .bool .eql t18_9 t20_10) fun t21_11 =>
  BND (grd (isB t21_11 true) (some a_p0)) fun t23_12 =>
  GEF (isB t21_11 true) (fun k_ => CALL PR F_label_Fold [t23_12] w3 k_) w3 fun t24_13 w4 =>
  BND (grd (isB t21_11 true) (some a_p0)) fun t25_14 =>
  GEF (isB t21_11 true) (fun k_ => CALL PR F_tumbrelref03_Fold [t25_14] w4 k_) w4 fun t26_15 w5 =>
  BND (grd (isB t21_11 true) (binv .str .eql t24_13 t26_15)) fun t27_16 =>
  BND (pickv t21_11 t27_16 (Value.bool false)) fun t28_17 =>
  BND (grd (isB t28_17 true) (some a_p0)) fun t30_18 =>
  GEF (isB t28_17 true) (fun k_ => CALL PR F_label_Len [t30_18] w5 k_) w5 fun t31_19 w6 =>
  BND (grd (isB t28_17 true) (some a_p0)) fun t32_20 =>
  GEF (isB t28_17 true) (fun k_ => CALL PR F_tumbrelref03_Len [t32_20] w6 k_) w6 fun t33_21 w7 =>
  BND (grd (isB t28_17 true) (binv .int .eql t31_19 t33_21)) fun t34_22 =>
  BND (pickv t28_17 t34_22 (Value.bool false)) fun t35_23 =>
  BND (grd (isB t35_23 true) (some a_p0)) fun t37_24 =>
  BND (grd (isB t35_23 true) (some n_p2)) fun t38_25 =>
  GEF (isB t35_23 true) (fun k_ => CALL PR F_label_Cut [t37_24, t38_25] w7 k_) w7 fun t39_26 w8 =>
  BND (grd (isB t35_23 true) (some a_p0)) fun t40_27 =>
  BND (grd (isB t35_23 true) (some n_p2)) fun t41_28 =>
  GEF (isB t35_23 true) (fun k_ => CALL PR F_tumbrelref03_Cut [t40_27, t41_28] w8 k_) w8 fun t42_29 w9 =>
  BND (grd (isB t35_23 true) (binv .str .eql t39_26 t42_29)) fun t43_30 =>
  BND (pickv t35_23 t43_30 (Value.bool false)) fun t44_31 =>
  BND (grd (isB t44_31 true) (some a_p0)) fun t46_32 =>
  BND (grd (isB t44_31 true) (some b_p1)) fun t47_33 =>
  GEF (isB t44_31 true) (fun k_ => CALL PR F_label_Less [t46_32, t47_33] w9 k_) w9 fun t48_34 w10 =>
  BND (grd (isB t44_31 true) (some a_p0)) fun t49_35 =>
  BND (grd (isB t44_31 true) (some b_p1)) fun t50_36 =>
  GEF (isB t44_31 true) (fun k_ => CALL PR F_tumbrelref03_Less [t49_35, t50_36] w10 k_) w10 fun t51_37 w11 =>
  BND (grd (isB t44_31 true) (binv .bool .eql t48_34 t51_37)) fun t52_38 =>
  BND (pickv t44_31 t52_38 (Value.bool false)) fun t53_39 =>
  R t53_39 w11))
def ann_tumbrellaw03_LabelTells : List (Nat × List Nat) := []
theorem E_tumbrellaw03_LabelTells (a_p0 b_p1 n_p2 : Value) (w : World) (R : Value → World → Prop) : M_tumbrellaw03_LabelTells a_p0 b_p1 n_p2 w R = den PR ann_tumbrellaw03_LabelTells (bodyOf Try.f3) (retQ PR Try.f3.results.toList R) (env0 [a_p0, b_p1, n_p2]) w := by kernel_rfl
theorem C_tumbrellaw03_LabelTells {a_p0 b_p1 n_p2 : Value} {w : World} {R : Value → World → Prop} (h : M_tumbrellaw03_LabelTells a_p0 b_p1 n_p2 w R) : CALL PR F_tumbrellaw03_LabelTells [a_p0, b_p1, n_p2] w R :=
  call_of_den2 ann_tumbrellaw03_LabelTells Try.func3 (by kernel_rfl) (by kernel_rfl) (by kernel_rfl) ((E_tumbrellaw03_LabelTells a_p0 b_p1 n_p2 w R) ▸ h)

end Go.Proofs.Ytmgdnbmepamcoaa
