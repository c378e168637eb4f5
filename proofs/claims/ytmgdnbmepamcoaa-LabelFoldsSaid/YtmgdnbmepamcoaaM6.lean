/- Printed by denprint.py: the Go function as a predicate, and that it stands for the call. No condition. -/
import Derived.Test.YtmgdnbmepamcoaaFns
set_option maxRecDepth 100000
set_option linter.unusedVariables false
namespace Go.Proofs.Ytmgdnbmepamcoaa
open Go.Den

-- 6 tumbrel.tumbrellaw03.LabelOrders
def M_tumbrellaw03_LabelOrders (L_p0 i_p1 s_p2 : Value) (w : World) (R : Value → World → Prop) : Prop :=
  CALL PR F_tumbrellaw03_awake [] w fun A_1 w1 =>
  BND (unv .not A_1) fun r_2 =>
  COND r_2
  (R (Value.bool false) w1)
  (BND (lens L_p0) fun a_3 =>
  BND (binv .int .gtr a_3 (Value.int .i64 300)) fun y_4 =>
  BND (grd (isB y_4 false) (some i_p1)) fun t13_5 =>
  BND (grd (isB y_4 false) (lens t13_5)) fun t14_6 =>
  BND (grd (isB y_4 false) (binv .int .gtr t14_6 (Value.int .i64 300))) fun t15_7 =>
  BND (pickv y_4 (Value.bool true) t15_7) fun t16_8 =>
  BND (grd (isB t16_8 false) (some s_p2)) fun t18_9 =>
  BND (grd (isB t16_8 false) (lens t18_9)) fun t19_10 =>
  BND (grd (isB t16_8 false) (binv .int .gtr t19_10 (Value.int .i64 300))) fun t20_11 =>
  BND (pickv t16_8 (Value.bool true) t20_11) fun t21_12 =>
  COND t21_12
  (R (Value.bool true) w1)
  (CALL PR F_label_Less [L_p0, L_p0] w1 fun t24_13 w2 =>
  BND (grd (isB t24_13 false) (some L_p0)) fun t26_14 =>
  BND (grd (isB t24_13 false) (some i_p1)) fun t27_15 =>
  GEF (isB t24_13 false) (fun k_ => CALL PR F_label_Less [t26_14, t27_15] w2 k_) w2 fun t28_16 w3 =>
  BND (grd (isB t24_13 false) (some t28_16)) fun t29_17 =>
  BND (grd (isB t29_17 true) (some i_p1)) fun t30_18 =>
  BND (grd (isB t29_17 true) (some L_p0)) fun t31_19 =>
  GEF (isB t29_17 true) (fun k_ => CALL PR F_label_Less [t30_18, t31_19] w3 k_) w3 fun t32_20 w4 =>
  BND (grd (isB t24_13 false) (pickv t29_17 t32_20 (Value.bool false))) fun t33_21 =>
  BND (pickv t24_13 (Value.bool true) t33_21) fun t34_22 =>
  BND (grd (isB t34_22 false) (some L_p0)) fun t36_23 =>
  BND (grd (isB t34_22 false) (some i_p1)) fun t37_24 =>
  GEF (isB t34_22 false) (fun k_ => CALL PR F_label_Less [t36_23, t37_24] w4 k_) w4 fun t38_25 w5 =>
  BND (grd (isB t34_22 false) (some t38_25)) fun t39_26 =>
  BND (grd (isB t39_26 true) (some i_p1)) fun t40_27 =>
  BND (grd (isB t39_26 true) (some s_p2)) fun t41_28 =>
  GEF (isB t39_26 true) (fun k_ => CALL PR F_label_Less [t40_27, t41_28] w5 k_) w5 fun t42_29 w6 =>
  BND (grd (isB t34_22 false) (pickv t39_26 t42_29 (Value.bool false))) fun t43_30 =>
  BND (grd (isB t34_22 false) (some t43_30)) fun t44_31 =>
  BND (grd (isB t44_31 true) (some L_p0)) fun t45_32 =>
  BND (grd (isB t44_31 true) (some s_p2)) fun t46_33 =>
  GEF (isB t44_31 true) (fun k_ => CALL PR F_label_Less [t45_32, t46_33] w6 k_) w6 fun t47_34 w7 =>
  BND (grd (isB t44_31 true) (unv .not t47_34)) fun t48_35 =>
  BND (grd (isB t34_22 false) (pickv t44_31 t48_35 (Value.bool false))) fun t49_36 =>
  BND (pickv t34_22 (Value.bool true) t49_36) fun t50_37 =>
  COND t50_37
  (R (Value.bool false) w7)
  (CALL PR F_label_Right [L_p0] w7 fun t52_38 w8 =>
  BND (unv .not t52_38) fun t53_39 =>
  BND (grd (isB t53_39 false) (some i_p1)) fun t55_40 =>
  GEF (isB t53_39 false) (fun k_ => CALL PR F_label_Right [t55_40] w8 k_) w8 fun t56_41 w9 =>
  BND (grd (isB t53_39 false) (unv .not t56_41)) fun t57_42 =>
  BND (pickv t53_39 (Value.bool true) t57_42) fun t58_43 =>
  BND (grd (isB t58_43 false) (some L_p0)) fun t60_44 =>
  BND (grd (isB t58_43 false) (some i_p1)) fun t61_45 =>
  BND (grd (isB t58_43 false) (binv .str .eql t60_44 t61_45)) fun t62_46 =>
  BND (pickv t58_43 (Value.bool true) t62_46) fun t63_47 =>
  BND (grd (isB t63_47 false) (some L_p0)) fun t65_48 =>
  BND (grd (isB t63_47 false) (some i_p1)) fun t66_49 =>
  GEF (isB t63_47 false) (fun k_ => CALL PR F_label_Less [t65_48, t66_49] w9 k_) w9 fun t67_50 w10 =>
  BND (pickv t63_47 (Value.bool true) t67_50) fun t68_51 =>
  BND (grd (isB t68_51 false) (some i_p1)) fun t70_52 =>
  BND (grd (isB t68_51 false) (some L_p0)) fun t71_53 =>
  GEF (isB t68_51 false) (fun k_ => CALL PR F_label_Less [t70_52, t71_53] w10 k_) w10 fun t72_54 w11 =>
  BND (pickv t68_51 (Value.bool true) t72_54) fun t73_55 =>
  R t73_55 w11)))
def ann_tumbrellaw03_LabelOrders : List (Nat × List Nat) := []
theorem E_tumbrellaw03_LabelOrders (L_p0 i_p1 s_p2 : Value) (w : World) (R : Value → World → Prop) : M_tumbrellaw03_LabelOrders L_p0 i_p1 s_p2 w R = den PR ann_tumbrellaw03_LabelOrders (bodyOf Try.f6) (retQ PR Try.f6.results.toList R) (env0 [L_p0, i_p1, s_p2]) w := by kernel_rfl
theorem C_tumbrellaw03_LabelOrders {L_p0 i_p1 s_p2 : Value} {w : World} {R : Value → World → Prop} (h : M_tumbrellaw03_LabelOrders L_p0 i_p1 s_p2 w R) : CALL PR F_tumbrellaw03_LabelOrders [L_p0, i_p1, s_p2] w R :=
  call_of_den2 ann_tumbrellaw03_LabelOrders Try.func6 (by kernel_rfl) (by kernel_rfl) (by kernel_rfl) ((E_tumbrellaw03_LabelOrders L_p0 i_p1 s_p2 w R) ▸ h)

end Go.Proofs.Ytmgdnbmepamcoaa
