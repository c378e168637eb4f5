/- Printed by denprint.py: the Go function as a predicate, and that it stands for the call. No condition. -/
import Derived.Test.YtofllgbdphakiaaGreatDoorGf
set_option maxRecDepth 100000
set_option linter.unusedVariables false
namespace Go.Proofs.YtofllgbdphakiaaGreatDoor
open Go.Den
-- 149 tumbrel.tumbrelref01.Put
def M_tumbrelref01_Put (b_p0 : Value) (w : World) (R : Value → World → Prop) : Prop :=
  BND (newslice 5 #[(Value.int .u8 0)] 1 0 [] w) fun p_ => NEW p_ fun t3_1 w1 =>
  APPEND 5 1 1 (Value.int .u8 0) t3_1 b_p0 w1 fun t5_2 w2 =>
  CALL PR F_tumbrelref01_Of [b_p0] w2 fun t7_3 w3 =>
  CALL PR F_tumbrelref01_Four [t7_3] w3 fun t8_4 w4 =>
  APPEND 5 1 1 (Value.int .u8 0) t5_2 t8_4 w4 fun t9_5 w5 =>
  R t9_5 w5
def ann_tumbrelref01_Put : List (Nat × List Nat) := []
theorem E_tumbrelref01_Put (b_p0 : Value) (w : World) (R : Value → World → Prop) : M_tumbrelref01_Put b_p0 w R = den PR ann_tumbrelref01_Put (bodyOf Tryz.f149) (retQ PR Tryz.f149.results.toList R) (env0 [b_p0]) w := by kernel_rfl
theorem C_tumbrelref01_Put {b_p0 : Value} {w : World} {R : Value → World → Prop} (h : M_tumbrelref01_Put b_p0 w R) : CALL PR F_tumbrelref01_Put [b_p0] w R :=
  call_of_den2 ann_tumbrelref01_Put Tryz.func149 (by kernel_rfl) (by kernel_rfl) (by kernel_rfl) ((E_tumbrelref01_Put b_p0 w R) ▸ h)
-- 150 tumbrel.tumbrelref02.Put
def M_tumbrelref02_Put (n_p0 : Value) (w : World) (R : Value → World → Prop) : Prop :=
  BND (binv .int .lss n_p0 (Value.int .u64 128)) fun t4_1 =>
  COND t4_1
  (BND (convi .u8 n_p0) fun t6_2 =>
  BND (newslice 5 #[(Value.int .u8 0)] 1 1 [(0, 1, t6_2)] w) fun p_ => NEW p_ fun t7_3 w1 =>
  R t7_3 w1)
  (BND (binv .int .rem n_p0 (Value.int .u64 128)) fun t9_4 =>
  BND (binv .int .add (Value.int .u64 128) t9_4) fun t10_5 =>
  BND (convi .u8 t10_5) fun t11_6 =>
  BND (newslice 5 #[(Value.int .u8 0)] 1 1 [(0, 1, t11_6)] w) fun p_ => NEW p_ fun t12_7 w2 =>
  BND (binv .int .quo n_p0 (Value.int .u64 128)) fun t14_8 =>
  CALL PR F_tumbrelref02_Put [t14_8] w2 fun t15_9 w3 =>
  APPEND 5 1 1 (Value.int .u8 0) t12_7 t15_9 w3 fun t16_10 w4 =>
  R t16_10 w4)
def ann_tumbrelref02_Put : List (Nat × List Nat) := []
theorem E_tumbrelref02_Put (n_p0 : Value) (w : World) (R : Value → World → Prop) : M_tumbrelref02_Put n_p0 w R = den PR ann_tumbrelref02_Put (bodyOf Tryz.f150) (retQ PR Tryz.f150.results.toList R) (env0 [n_p0]) w := by kernel_rfl
theorem C_tumbrelref02_Put {n_p0 : Value} {w : World} {R : Value → World → Prop} (h : M_tumbrelref02_Put n_p0 w R) : CALL PR F_tumbrelref02_Put [n_p0] w R :=
  call_of_den2 ann_tumbrelref02_Put Tryz.func150 (by kernel_rfl) (by kernel_rfl) (by kernel_rfl) ((E_tumbrelref02_Put n_p0 w R) ▸ h)
-- 151 tumbrel.tumbrelref04.Read
def M_tumbrelref04_Read (b_p0 : Value) (w : World) (R : Value → World → Prop) : Prop :=
  NEW (newv 176 w (Value.agg #[(Value.int .u8 0), (Value.slice none 0 0)])) fun t2_1 w1 =>
  BND (lenl b_p0) fun t11_2 =>
  BND (binv .int .lss t11_2 (Value.int .i64 7)) fun t12_3 =>
  COND t12_3
  (BND (buildv #[(Value.int .u8 0), (Value.slice none 0 0)] []) fun t13_4 =>
  BND (storev 2 w1 t2_1 t13_4) fun w2 =>
  BND (loadn 2 w2 t2_1) fun r_5 =>
  R (.tuple #[r_5, (Value.int .i64 0), (Value.int .i64 3)]) w2)
  (BND (slicev 1 b_p0 none (some (Value.int .i64 7))) fun t16_6 =>
  CALL PR F_tumbrelref01_Cut [t16_6] w1 fun t17_7 w3 =>
  BND (extractv t17_7 0) fun t18_8 =>
  BND (extractv t17_7 1) fun t19_9 =>
  BND (unv .not t19_9) fun t21_10 =>
  COND t21_10
  (BND (buildv #[(Value.int .u8 0), (Value.slice none 0 0)] []) fun t22_11 =>
  BND (storev 2 w3 t2_1 t22_11) fun w4 =>
  BND (loadn 2 w4 t2_1) fun r_12 =>
  R (.tuple #[r_12, (Value.int .i64 0), (Value.int .i64 8)]) w4)
  (BND (iaddr 1 t18_8 (Value.int .i64 1)) fun t24_13 =>
  BND (iaddr 1 t18_8 (Value.int .i64 2)) fun t28_14 =>
  BND (load1 w3.drew t24_13) fun t25_15 =>
  BND (convi .i64 t25_15) fun t26_16 =>
  BND (load1 w3.drew t28_14) fun t29_17 =>
  BND (convi .i64 t29_17) fun t30_18 =>
  BND (binv .int .mul (Value.int .i64 256) t30_18) fun t31_19 =>
  BND (binv .int .add t26_16 t31_19) fun t32_20 =>
  BND (binv .int .gtr t32_20 (Value.int .i64 400)) fun t34_21 =>
  COND t34_21
  (BND (buildv #[(Value.int .u8 0), (Value.slice none 0 0)] []) fun t35_22 =>
  BND (storev 2 w3.drew t2_1 t35_22) fun w5 =>
  BND (loadn 2 w5 t2_1) fun r_23 =>
  R (.tuple #[r_23, (Value.int .i64 0), (Value.int .i64 2)]) w5)
  (BND (lenl b_p0) fun t37_24 =>
  BND (binv .int .add t32_20 (Value.int .i64 11)) fun t39_25 =>
  BND (binv .int .lss t37_24 t39_25) fun t40_26 =>
  COND t40_26
  (BND (buildv #[(Value.int .u8 0), (Value.slice none 0 0)] []) fun t41_27 =>
  BND (storev 2 w3.drew t2_1 t41_27) fun w6 =>
  BND (loadn 2 w6 t2_1) fun r_28 =>
  R (.tuple #[r_28, (Value.int .i64 0), (Value.int .i64 3)]) w6)
  (BND (binv .int .add t32_20 (Value.int .i64 11)) fun t45_29 =>
  BND (slicev 1 b_p0 (some (Value.int .i64 7)) (some t45_29)) fun t46_30 =>
  CALL PR F_tumbrelref01_Cut [t46_30] w3.drew fun t47_31 w7 =>
  BND (extractv t47_31 0) fun t48_32 =>
  BND (extractv t47_31 1) fun t49_33 =>
  BND (unv .not t49_33) fun t51_34 =>
  COND t51_34
  (BND (buildv #[(Value.int .u8 0), (Value.slice none 0 0)] []) fun t52_35 =>
  BND (storev 2 w7 t2_1 t52_35) fun w8 =>
  BND (loadn 2 w8 t2_1) fun r_36 =>
  R (.tuple #[r_36, (Value.int .i64 0), (Value.int .i64 8)]) w8)
  (BND (iaddr 1 t18_8 (Value.int .i64 0)) fun t54_37 =>
  BND (load1 w7 t54_37) fun t55_38 =>
  BND (buildv #[(Value.int .u8 0), (Value.slice none 0 0)] [(0, 1, t55_38), (1, 1, t48_32)]) fun t57_39 =>
  BND (binv .int .add t32_20 (Value.int .i64 11)) fun t59_40 =>
  BND (storev 2 w7 t2_1 t57_39) fun w9 =>
  BND (loadn 2 w9 t2_1) fun r_41 =>
  R (.tuple #[r_41, t59_40, (Value.int .i64 0)]) w9)))))
def ann_tumbrelref04_Read : List (Nat × List Nat) := [(6, [0, 1, 4, 5, 2, 3, 6, 7, 8, 9, 10])]
theorem E_tumbrelref04_Read (b_p0 : Value) (w : World) (R : Value → World → Prop) : M_tumbrelref04_Read b_p0 w R = den PR ann_tumbrelref04_Read (bodyOf Tryz.f151) (retQ PR Tryz.f151.results.toList R) (env0 [b_p0]) w := by kernel_rfl
theorem C_tumbrelref04_Read {b_p0 : Value} {w : World} {R : Value → World → Prop} (h : M_tumbrelref04_Read b_p0 w R) : CALL PR F_tumbrelref04_Read [b_p0] w R :=
  call_of_den2 ann_tumbrelref04_Read Tryz.func151 (by kernel_rfl) (by kernel_rfl) (by kernel_rfl) ((E_tumbrelref04_Read b_p0 w R) ▸ h)
-- 152 tumbrel.tumbrelref02.Get
def M_tumbrelref02_Get (b_p0 : Value) (w : World) (R : Value → World → Prop) : Prop :=
  ∃ (J_1 : Value → World → Prop) (m_1 : Value → World → Nat), J_1 (Value.int .i64 0) w ∧ ∀ (_d_1 : Env) (many_2 : Value) (w1 : World), J_1 many_2 w1 →
  (BND (lenl b_p0) fun t10_20 =>
  BND (binv .int .lss many_2 t10_20) fun t11_21 =>
  BND (grd (isB t11_21 true) (some many_2)) fun t13_22 =>
  BND (grd (isB t11_21 true) (binv .int .lss t13_22 (Value.int .i64 9))) fun t14_23 =>
  BND (pickv t11_21 t14_23 (Value.bool false)) fun t15_24 =>
  BND (grd (isB t15_24 true) (some b_p0)) fun t17_25 =>
  BND (grd (isB t15_24 true) (some many_2)) fun t18_26 =>
  BND (grd (isB t15_24 true) (iaddr 1 t17_25 t18_26)) fun t19_27 =>
  BND (grd (isB t15_24 true) (load1 w1 t19_27)) fun t20_28 =>
  BND (grd (isB t15_24 true) (binv .int .geq t20_28 (Value.int .u8 128))) fun t21_29 =>
  BND (pickv t15_24 t21_29 (Value.bool false)) fun t22_30 =>
  COND t22_30
  (BND (binv .int .add many_2 (Value.int .i64 1)) fun t24_31 =>
  (J_1 t24_31 w1 ∧ m_1 t24_31 w1 < m_1 many_2 w1))
  (BND (lenl b_p0) fun t27_32 =>
  BND (binv .int .eql many_2 t27_32) fun t28_33 =>
  COND t28_33
  (R (.tuple #[(Value.int .u64 0), (Value.int .i64 0), (Value.int .i64 3)]) w1)
  (BND (binv .int .eql many_2 (Value.int .i64 9)) fun t30_34 =>
  BND (grd (isB t30_34 true) (some b_p0)) fun t32_35 =>
  BND (grd (isB t30_34 true) (iaddr 1 t32_35 (Value.int .i64 9))) fun t33_36 =>
  BND (grd (isB t30_34 true) (load1 w1 t33_36)) fun t34_37 =>
  BND (grd (isB t30_34 true) (binv .int .gtr t34_37 (Value.int .u8 1))) fun t35_38 =>
  BND (pickv t30_34 t35_38 (Value.bool false)) fun t36_39 =>
  BND (grd (isB t36_39 false) (some many_2)) fun t38_40 =>
  BND (grd (isB t36_39 false) (binv .int .gtr t38_40 (Value.int .i64 0))) fun t39_41 =>
  BND (grd (isB t36_39 false) (some t39_41)) fun t40_42 =>
  BND (grd (isB t40_42 true) (some b_p0)) fun t41_43 =>
  BND (grd (isB t40_42 true) (some many_2)) fun t42_44 =>
  BND (grd (isB t40_42 true) (iaddr 1 t41_43 t42_44)) fun t43_45 =>
  BND (grd (isB t40_42 true) (load1 w1 t43_45)) fun t44_46 =>
  BND (grd (isB t40_42 true) (binv .int .eql t44_46 (Value.int .u8 0))) fun t45_47 =>
  BND (grd (isB t36_39 false) (pickv t40_42 t45_47 (Value.bool false))) fun t46_48 =>
  BND (pickv t36_39 (Value.bool true) t46_48) fun t47_49 =>
  COND t47_49
  (R (.tuple #[(Value.int .u64 0), (Value.int .i64 0), (Value.int .i64 2)]) w1)
  (∃ (J_50 : Value → Value → World → Prop) (m_50 : Value → Value → World → Nat), J_50 (Value.int .u64 0) many_2 w1 ∧ ∀ (_d_50 : Env) (n_51 i_52 : Value) (w2 : World), J_50 n_51 i_52 w2 →
  (BND (binv .int .geq i_52 (Value.int .i64 0)) fun t50_66 =>
  COND t50_66
  (BND (binv .int .mul (Value.int .u64 128) n_51) fun t54_67 =>
  BND (iaddr 1 b_p0 i_52) fun t57_68 =>
  BND (load1 w2 t57_68) fun t58_69 =>
  BND (binv .int .rem t58_69 (Value.int .u8 128)) fun t59_70 =>
  BND (convi .u64 t59_70) fun t60_71 =>
  BND (binv .int .add t54_67 t60_71) fun t61_72 =>
  BND (binv .int .sub i_52 (Value.int .i64 1)) fun t52_73 =>
  (J_50 t61_72 t52_73 w2 ∧ m_50 t61_72 t52_73 w2 < m_50 n_51 i_52 w2))
  (BND (binv .int .add many_2 (Value.int .i64 1)) fun t64_74 =>
  R (.tuple #[n_51, t64_74, (Value.int .i64 0)]) w2))))))
def ann_tumbrelref02_Get : List (Nat × List Nat) := [(1000002, [5]), (1000010, [6, 7])]
theorem E_tumbrelref02_Get (b_p0 : Value) (w : World) (R : Value → World → Prop) : M_tumbrelref02_Get b_p0 w R = den PR ann_tumbrelref02_Get (bodyOf Tryz.f152) (retQ PR Tryz.f152.results.toList R) (env0 [b_p0]) w := by kernel_rfl
theorem C_tumbrelref02_Get {b_p0 : Value} {w : World} {R : Value → World → Prop} (h : M_tumbrelref02_Get b_p0 w R) : CALL PR F_tumbrelref02_Get [b_p0] w R :=
  call_of_den2 ann_tumbrelref02_Get Tryz.func152 (by kernel_rfl) (by kernel_rfl) (by kernel_rfl) ((E_tumbrelref02_Get b_p0 w R) ▸ h)
-- 154 tumbrel.sum.More
def M_sum_More (sum_p0 b_p1 : Value) (w : World) (R : Value → World → Prop) : Prop :=
  CALL PR F_sum_Table [] w fun t8_1 w1 =>
  NEW (newv 242 w1 (Value.agg (List.replicate 256 (Value.int .u32 0)).toArray)) fun t_2 w2 =>
  BND (storev 256 w2 t_2 t8_1) fun w3 =>
  BND (unv .xor sum_p0) fun t10_3 =>
  BND (lenl b_p1) fun t12_4 =>
  ∃ (J_5 : Value → Value → World → Prop) (m_5 : Value → Value → World → Nat), J_5 t10_3 (Value.int .i64 0) w3 ∧ ∀ (_d_5 : Env) (sum_6 t13_8 : Value) (w4 : World), J_5 sum_6 t13_8 w4 →
  (BND (binv .int .lss t13_8 t12_4) fun t14_22 =>
  COND t14_22
  (BND (iaddr 1 b_p1 t13_8) fun t15_23 =>
  BND (load1 w4 t15_23) fun t16_24 =>
  BND (shiftv .shr sum_6 (Value.int .u64 8)) fun t18_25 =>
  BND (convi .u8 sum_6) fun t20_26 =>
  BND (binv .int .xor t20_26 t16_24) fun t22_27 =>
  BND (iaddra 256 1 t_2 t22_27) fun t23_28 =>
  BND (load1 w4 t23_28) fun t24_29 =>
  BND (binv .int .xor t18_25 t24_29) fun t25_30 =>
  BND (binv .int .add t13_8 (Value.int .i64 1)) fun t26_31 =>
  (J_5 t25_30 t26_31 w4 ∧ m_5 t25_30 t26_31 w4 < m_5 sum_6 t13_8 w4))
  (BND (unv .xor sum_6) fun t28_32 =>
  R t28_32 w4))
def ann_sum_More : List (Nat × List Nat) := [(1000004, [0, 13])]
theorem E_sum_More (sum_p0 b_p1 : Value) (w : World) (R : Value → World → Prop) : M_sum_More sum_p0 b_p1 w R = den PR ann_sum_More (bodyOf Tryz.f154) (retQ PR Tryz.f154.results.toList R) (env0 [sum_p0, b_p1]) w := by kernel_rfl
theorem C_sum_More {sum_p0 b_p1 : Value} {w : World} {R : Value → World → Prop} (h : M_sum_More sum_p0 b_p1 w R) : CALL PR F_sum_More [sum_p0, b_p1] w R :=
  call_of_den2 ann_sum_More Tryz.func154 (by kernel_rfl) (by kernel_rfl) (by kernel_rfl) ((E_sum_More sum_p0 b_p1 w R) ▸ h)
-- 175 tumbrel.sum.Cut
def M_sum_Cut (b_p0 : Value) (w : World) (R : Value → World → Prop) : Prop :=
  BND (lenl b_p0) fun t6_1 =>
  BND (binv .int .sub t6_1 (Value.int .i64 4)) fun t7_2 =>
  BND (binv .int .lss t7_2 (Value.int .i64 0)) fun t9_3 =>
  BND (grd (isB t9_3 false) (some b_p0)) fun t11_4 =>
  BND (grd (isB t9_3 false) (some t7_2)) fun t12_5 =>
  BND (grd (isB t9_3 false) (slicev 1 t11_4 (some t12_5) none)) fun t13_6 =>
  BND (grd (isB t9_3 false) (some b_p0)) fun t14_7 =>
  BND (grd (isB t9_3 false) (some t7_2)) fun t15_8 =>
  BND (grd (isB t9_3 false) (slicev 1 t14_7 none (some t15_8))) fun t16_9 =>
  GEF (isB t9_3 false) (fun k_ => CALL PR F_sum_Of [t16_9] w.drew k_) w.drew fun t17_10 w1 =>
  GEF (isB t9_3 false) (fun k_ => CALL PR F_sum_four [t17_10] w1 k_) w1 fun t18_11 w2 =>
  GEF (isB t9_3 false) (fun k_ => CALL PR F_slices_Equal_byte_byte [t13_6, t18_11] w2 k_) w2 fun t19_12 w3 =>
  BND (grd (isB t9_3 false) (unv .not t19_12)) fun t20_13 =>
  BND (pickv t9_3 (Value.bool true) t20_13) fun t21_14 =>
  COND t21_14
  (R (.tuple #[(Value.slice none 0 0), (Value.bool false)]) w3)
  (BND (slicev 1 b_p0 none (some t7_2)) fun t24_15 =>
  CALL PR F_slices_Clone_byte_byte [t24_15] w3 fun t25_16 w4 =>
  R (.tuple #[t25_16, (Value.bool true)]) w4)
def ann_sum_Cut : List (Nat × List Nat) := [(2, [0, 1, 2, 3, 4, 5, 6, 7, 8, 9, 10, 11, 12, 13])]
theorem E_sum_Cut (b_p0 : Value) (w : World) (R : Value → World → Prop) : M_sum_Cut b_p0 w R = den PR ann_sum_Cut (bodyOf Tryz.f175) (retQ PR Tryz.f175.results.toList R) (env0 [b_p0]) w := by kernel_rfl
theorem C_sum_Cut {b_p0 : Value} {w : World} {R : Value → World → Prop} (h : M_sum_Cut b_p0 w R) : CALL PR F_sum_Cut [b_p0] w R :=
  call_of_den2 ann_sum_Cut Tryz.func175 (by kernel_rfl) (by kernel_rfl) (by kernel_rfl) ((E_sum_Cut b_p0 w R) ▸ h)
-- 176 tumbrel.tumbrelref01.Four
def M_tumbrelref01_Four (n_p0 : Value) (w : World) (R : Value → World → Prop) : Prop :=
  BND (newslice 5 #[(Value.int .u8 0)] 1 0 [] w) fun p_ => NEW p_ fun t5_1 w1 =>
  ∃ (J_2 : Value → Value → Value → World → Prop) (m_2 : Value → Value → Value → World → Nat), J_2 n_p0 t5_1 (Value.int .i64 0) w1 ∧ ∀ (_d_2 : Env) (n_3 out_4 i_5 : Value) (w2 : World), J_2 n_3 out_4 i_5 w2 →
  (BND (binv .int .lss i_5 (Value.int .i64 4)) fun t7_18 =>
  COND t7_18
  (BND (binv .int .rem n_3 (Value.int .u32 256)) fun t12_19 =>
  BND (convi .u8 t12_19) fun t13_20 =>
  BND (newslice 5 #[(Value.int .u8 0)] 1 1 [(0, 1, t13_20)] w2) fun p_ => NEW p_ fun t14_21 w3 =>
  APPEND 5 1 1 (Value.int .u8 0) out_4 t14_21 w3 fun t15_22 w4 =>
  BND (binv .int .quo n_3 (Value.int .u32 256)) fun t17_23 =>
  BND (binv .int .add i_5 (Value.int .i64 1)) fun t9_24 =>
  (J_2 t17_23 t15_22 t9_24 w4 ∧ m_2 t17_23 t15_22 t9_24 w4 < m_2 n_3 out_4 i_5 w2))
  (R out_4 w2))
def ann_tumbrelref01_Four : List (Nat × List Nat) := [(1000003, [0, 3, 4])]
theorem E_tumbrelref01_Four (n_p0 : Value) (w : World) (R : Value → World → Prop) : M_tumbrelref01_Four n_p0 w R = den PR ann_tumbrelref01_Four (bodyOf Tryz.f176) (retQ PR Tryz.f176.results.toList R) (env0 [n_p0]) w := by kernel_rfl
theorem C_tumbrelref01_Four {n_p0 : Value} {w : World} {R : Value → World → Prop} (h : M_tumbrelref01_Four n_p0 w R) : CALL PR F_tumbrelref01_Four [n_p0] w R :=
  call_of_den2 ann_tumbrelref01_Four Tryz.func176 (by kernel_rfl) (by kernel_rfl) (by kernel_rfl) ((E_tumbrelref01_Four n_p0 w R) ▸ h)
-- 177 tumbrel.tumbrelref01.Of
def M_tumbrelref01_Of (b_p0 : Value) (w : World) (R : Value → World → Prop) : Prop :=
  CALL PR F_tumbrelref01_More [(Value.int .u32 0), b_p0] w fun t4_1 w1 =>
  R t4_1 w1
def ann_tumbrelref01_Of : List (Nat × List Nat) := []
theorem E_tumbrelref01_Of (b_p0 : Value) (w : World) (R : Value → World → Prop) : M_tumbrelref01_Of b_p0 w R = den PR ann_tumbrelref01_Of (bodyOf Tryz.f177) (retQ PR Tryz.f177.results.toList R) (env0 [b_p0]) w := by kernel_rfl
theorem C_tumbrelref01_Of {b_p0 : Value} {w : World} {R : Value → World → Prop} (h : M_tumbrelref01_Of b_p0 w R) : CALL PR F_tumbrelref01_Of [b_p0] w R :=
  call_of_den2 ann_tumbrelref01_Of Tryz.func177 (by kernel_rfl) (by kernel_rfl) (by kernel_rfl) ((E_tumbrelref01_Of b_p0 w R) ▸ h)
-- 178 tumbrel.tumbrelref01.Cut
def M_tumbrelref01_Cut (b_p0 : Value) (w : World) (R : Value → World → Prop) : Prop :=
  BND (lenl b_p0) fun t6_1 =>
  BND (binv .int .lss t6_1 (Value.int .i64 4)) fun t7_2 =>
  COND t7_2
  (R (.tuple #[(Value.slice none 0 0), (Value.bool false)]) w)
  (BND (newslice 5 #[(Value.int .u8 0)] 1 0 [] w) fun p_ => NEW p_ fun t8_3 w1 =>
  BND (lenl b_p0) fun t11_4 =>
  BND (binv .int .sub t11_4 (Value.int .i64 4)) fun t12_5 =>
  BND (slicev 1 b_p0 none (some t12_5)) fun t13_6 =>
  APPEND 5 1 1 (Value.int .u8 0) t8_3 t13_6 w1 fun t14_7 w2 =>
  CALL PR F_tumbrelref01_Put [t14_7] w2 fun t16_8 w3 =>
  CALL PR F_tumbrelref01_Same [t16_8, b_p0] w3 fun t18_9 w4 =>
  BND (unv .not t18_9) fun t19_10 =>
  COND t19_10
  (R (.tuple #[(Value.slice none 0 0), (Value.bool false)]) w4)
  (R (.tuple #[t14_7, (Value.bool true)]) w4))
def ann_tumbrelref01_Cut : List (Nat × List Nat) := []
theorem E_tumbrelref01_Cut (b_p0 : Value) (w : World) (R : Value → World → Prop) : M_tumbrelref01_Cut b_p0 w R = den PR ann_tumbrelref01_Cut (bodyOf Tryz.f178) (retQ PR Tryz.f178.results.toList R) (env0 [b_p0]) w := by kernel_rfl
theorem C_tumbrelref01_Cut {b_p0 : Value} {w : World} {R : Value → World → Prop} (h : M_tumbrelref01_Cut b_p0 w R) : CALL PR F_tumbrelref01_Cut [b_p0] w R :=
  call_of_den2 ann_tumbrelref01_Cut Tryz.func178 (by kernel_rfl) (by kernel_rfl) (by kernel_rfl) ((E_tumbrelref01_Cut b_p0 w R) ▸ h)
-- 179 tumbrel.sum.Table
def M_sum_Table (w : World) (R : Value → World → Prop) : Prop :=
  NEW (newv 242 w (Value.agg (List.replicate 256 (Value.int .u32 0)).toArray)) fun t0_1 w1 =>
  NEW (newv 242 w1 (Value.agg (List.replicate 256 (Value.int .u32 0)).toArray)) fun t_2 w2 =>
  ∃ (J_3 : Value → World → Prop) (m_3 : Value → World → Nat), J_3 (Value.int .i64 0) w2 ∧ ∀ (_d_3 : Env) (t3_5 : Value) (w3 : World), J_3 t3_5 w3 →
  (BND (binv .int .lss t3_5 (Value.int .i64 256)) fun t4_14 =>
  COND t4_14
  (BND (convi .u32 t3_5) fun t8_15 =>
  CALL PR F_sum_entry [t8_15] w3 fun t9_16 w4 =>
  BND (iaddra 256 1 t_2 t3_5) fun t10_17 =>
  BND (storev 1 w4 t10_17 t9_16) fun w5 =>
  BND (binv .int .add t3_5 (Value.int .i64 1)) fun t11_18 =>
  (J_3 t11_18 w5 ∧ m_3 t11_18 w5 < m_3 t3_5 w3))
  (BND (loadn 256 w3 t_2) fun t12_19 =>
  BND (storev 256 w3 t0_1 t12_19) fun w6 =>
  BND (loadn 256 w6 t0_1) fun r_20 =>
  R r_20 w6))
def ann_sum_Table : List (Nat × List Nat) := [(1000003, [3])]
theorem E_sum_Table (w : World) (R : Value → World → Prop) : M_sum_Table w R = den PR ann_sum_Table (bodyOf Tryz.f179) (retQ PR Tryz.f179.results.toList R) (env0 []) w := by kernel_rfl
theorem C_sum_Table {w : World} {R : Value → World → Prop} (h : M_sum_Table w R) : CALL PR F_sum_Table [] w R :=
  call_of_den2 ann_sum_Table Tryz.func179 (by kernel_rfl) (by kernel_rfl) (by kernel_rfl) ((E_sum_Table w R) ▸ h)
-- 187 slices.Equal[[]byte,byte]
def M_slices_Equal_byte_byte (s1_p0 s2_p1 : Value) (w : World) (R : Value → World → Prop) : Prop :=
  BND (lenl s1_p0) fun t7_1 =>
  BND (lenl s2_p1) fun t9_2 =>
  BND (binv .int .neq t7_1 t9_2) fun t10_3 =>
  COND t10_3
  (R (Value.bool false) w)
  (BND (lenl s1_p0) fun t12_4 =>
  ∃ (J_5 : Value → World → Prop) (m_5 : Value → World → Nat), J_5 (Value.int .i64 0) w ∧ ∀ (_d_5 : Env) (t13_8 : Value) (w1 : World), J_5 t13_8 w1 →
  (BND (binv .int .lss t13_8 t12_4) fun t14_21 =>
  COND t14_21
  (BND (iaddr 1 s1_p0 t13_8) fun t18_22 =>
  BND (iaddr 1 s2_p1 t13_8) fun t22_23 =>
  BND (load1 w1.drew t18_22) fun t19_24 =>
  BND (load1 w1.drew t22_23) fun t23_25 =>
  BND (binv .int .neq t19_24 t23_25) fun t24_26 =>
  COND t24_26
  (R (Value.bool false) w1.drew)
  (BND (binv .int .add t13_8 (Value.int .i64 1)) fun t25_27 =>
  (J_5 t25_27 w1.drew ∧ m_5 t25_27 w1.drew < m_5 t13_8 w1)))
  (R (Value.bool true) w1)))
def ann_slices_Equal_byte_byte : List (Nat × List Nat) := [(6, [0, 1, 2, 4, 5, 6, 3, 7, 8]), (1000004, [13])]
theorem E_slices_Equal_byte_byte (s1_p0 s2_p1 : Value) (w : World) (R : Value → World → Prop) : M_slices_Equal_byte_byte s1_p0 s2_p1 w R = den PR ann_slices_Equal_byte_byte (bodyOf Tryz.f187) (retQ PR Tryz.f187.results.toList R) (env0 [s1_p0, s2_p1]) w := by kernel_rfl
theorem C_slices_Equal_byte_byte {s1_p0 s2_p1 : Value} {w : World} {R : Value → World → Prop} (h : M_slices_Equal_byte_byte s1_p0 s2_p1 w R) : CALL PR F_slices_Equal_byte_byte [s1_p0, s2_p1] w R :=
  call_of_den2 ann_slices_Equal_byte_byte Tryz.func187 (by kernel_rfl) (by kernel_rfl) (by kernel_rfl) ((E_slices_Equal_byte_byte s1_p0 s2_p1 w R) ▸ h)
-- 188 tumbrel.tumbrelref01.More
def M_tumbrelref01_More (sum_p0 b_p1 : Value) (w : World) (R : Value → World → Prop) : Prop :=
  BND (binv .int .sub (Value.int .u32 4294967295) sum_p0) fun t8_1 =>
  ∃ (J_2 : Value → Value → World → Prop) (m_2 : Value → Value → World → Nat), J_2 t8_1 (Value.int .i64 0) w ∧ ∀ (_d_2 : Env) (n_3 i_4 : Value) (w1 : World), J_2 n_3 i_4 w1 →
  (BND (lenl b_p1) fun t11_19 =>
  BND (binv .int .lss i_4 t11_19) fun t12_20 =>
  COND t12_20
  (BND (iaddr 1 b_p1 i_4) fun t18_21 =>
  BND (load1 w1 t18_21) fun t19_22 =>
  BND (convi .u32 t19_22) fun t20_23 =>
  BND (binv .int .xor n_3 t20_23) fun t21_24 =>
  CALL PR F_tumbrelref01_Entry [t21_24] w1 fun t22_25 w2 =>
  BND (binv .int .add i_4 (Value.int .i64 1)) fun t14_26 =>
  (J_2 t22_25 t14_26 w2 ∧ m_2 t22_25 t14_26 w2 < m_2 n_3 i_4 w1))
  (BND (binv .int .sub (Value.int .u32 4294967295) n_3) fun t24_27 =>
  R t24_27 w1))
def ann_tumbrelref01_More : List (Nat × List Nat) := [(1000003, [5, 6])]
theorem E_tumbrelref01_More (sum_p0 b_p1 : Value) (w : World) (R : Value → World → Prop) : M_tumbrelref01_More sum_p0 b_p1 w R = den PR ann_tumbrelref01_More (bodyOf Tryz.f188) (retQ PR Tryz.f188.results.toList R) (env0 [sum_p0, b_p1]) w := by kernel_rfl
theorem C_tumbrelref01_More {sum_p0 b_p1 : Value} {w : World} {R : Value → World → Prop} (h : M_tumbrelref01_More sum_p0 b_p1 w R) : CALL PR F_tumbrelref01_More [sum_p0, b_p1] w R :=
  call_of_den2 ann_tumbrelref01_More Tryz.func188 (by kernel_rfl) (by kernel_rfl) (by kernel_rfl) ((E_tumbrelref01_More sum_p0 b_p1 w R) ▸ h)
-- 189 tumbrel.tumbrelref01.Same
def M_tumbrelref01_Same (a_p0 b_p1 : Value) (w : World) (R : Value → World → Prop) : Prop :=
  BND (lenl a_p0) fun t7_1 =>
  BND (lenl b_p1) fun t9_2 =>
  BND (binv .int .neq t7_1 t9_2) fun t10_3 =>
  COND t10_3
  (R (Value.bool false) w)
  (∃ (J_4 : Value → World → Prop) (m_4 : Value → World → Nat), J_4 (Value.int .i64 0) w ∧ ∀ (_d_4 : Env) (i_6 : Value) (w1 : World), J_4 i_6 w1 →
  (BND (lenl a_p0) fun t13_22 =>
  BND (binv .int .lss i_6 t13_22) fun t14_23 =>
  COND t14_23
  (BND (iaddr 1 a_p0 i_6) fun t19_24 =>
  BND (iaddr 1 b_p1 i_6) fun t23_25 =>
  BND (load1 w1.drew t19_24) fun t20_26 =>
  BND (load1 w1.drew t23_25) fun t24_27 =>
  BND (binv .int .neq t20_26 t24_27) fun t25_28 =>
  COND t25_28
  (R (Value.bool false) w1.drew)
  (BND (binv .int .add i_6 (Value.int .i64 1)) fun t16_29 =>
  (J_4 t16_29 w1.drew ∧ m_4 t16_29 w1.drew < m_4 i_6 w1)))
  (R (Value.bool true) w1)))
def ann_tumbrelref01_Same : List (Nat × List Nat) := [(6, [0, 1, 2, 4, 5, 6, 3, 7, 8]), (1000004, [5])]
theorem E_tumbrelref01_Same (a_p0 b_p1 : Value) (w : World) (R : Value → World → Prop) : M_tumbrelref01_Same a_p0 b_p1 w R = den PR ann_tumbrelref01_Same (bodyOf Tryz.f189) (retQ PR Tryz.f189.results.toList R) (env0 [a_p0, b_p1]) w := by kernel_rfl
theorem C_tumbrelref01_Same {a_p0 b_p1 : Value} {w : World} {R : Value → World → Prop} (h : M_tumbrelref01_Same a_p0 b_p1 w R) : CALL PR F_tumbrelref01_Same [a_p0, b_p1] w R :=
  call_of_den2 ann_tumbrelref01_Same Tryz.func189 (by kernel_rfl) (by kernel_rfl) (by kernel_rfl) ((E_tumbrelref01_Same a_p0 b_p1 w R) ▸ h)
-- 190 tumbrel.sum.entry
def M_sum_entry (n_p0 : Value) (w : World) (R : Value → World → Prop) : Prop :=
  ∃ (J_1 : Value → Value → World → Prop) (m_1 : Value → Value → World → Nat), J_1 n_p0 (Value.int .i64 0) w ∧ ∀ (_d_1 : Env) (n_2 t4_4 : Value) (w1 : World), J_1 n_2 t4_4 w1 →
  (BND (binv .int .lss t4_4 (Value.int .i64 8)) fun t5_15 =>
  COND t5_15
  (BND (binv .int .and n_2 (Value.int .u32 1)) fun t7_16 =>
  BND (shiftv .shr n_2 (Value.int .u64 1)) fun t9_17 =>
  BND (binv .int .eql t7_16 (Value.int .u32 1)) fun t11_18 =>
  JOIN (α := Value → World → Prop) (fun k_23 => COND t11_18
  (BND (binv .int .xor t9_17 (Value.int .u32 2197175160)) fun t13_24 =>
  k_23 t13_24 w1)
  (k_23 t9_17 w1))
  (fun n_19 w2 => BND (binv .int .add t4_4 (Value.int .i64 1)) fun t14_22 =>
  (J_1 n_19 t14_22 w2 ∧ m_1 n_19 t14_22 w2 < m_1 n_2 t4_4 w1)))
  (R n_2 w1))
def ann_sum_entry : List (Nat × List Nat) := [(1000002, [0, 4])]
theorem E_sum_entry (n_p0 : Value) (w : World) (R : Value → World → Prop) : M_sum_entry n_p0 w R = den PR ann_sum_entry (bodyOf Tryz.f190) (retQ PR Tryz.f190.results.toList R) (env0 [n_p0]) w := by kernel_rfl
theorem C_sum_entry {n_p0 : Value} {w : World} {R : Value → World → Prop} (h : M_sum_entry n_p0 w R) : CALL PR F_sum_entry [n_p0] w R :=
  call_of_den2 ann_sum_entry Tryz.func190 (by kernel_rfl) (by kernel_rfl) (by kernel_rfl) ((E_sum_entry n_p0 w R) ▸ h)
-- 192 tumbrel.tumbrelref01.Entry
def M_tumbrelref01_Entry (n_p0 : Value) (w : World) (R : Value → World → Prop) : Prop :=
  ∃ (J_1 : Value → Value → World → Prop) (m_1 : Value → Value → World → Nat), J_1 n_p0 (Value.int .i64 0) w ∧ ∀ (_d_1 : Env) (n_2 i_3 : Value) (w1 : World), J_1 n_2 i_3 w1 →
  (BND (binv .int .lss i_3 (Value.int .i64 8)) fun t6_17 =>
  COND t6_17
  (BND (binv .int .rem n_2 (Value.int .u32 2)) fun t10_18 =>
  BND (binv .int .eql t10_18 (Value.int .u32 1)) fun t11_19 =>
  BND (binv .int .quo n_2 (Value.int .u32 2)) fun t13_20 =>
  JOIN (α := Value → World → Prop) (fun k_25 => COND t11_19
  (BND (binv .int .xor t13_20 (Value.int .u32 2197175160)) fun t16_26 =>
  k_25 t16_26 w1)
  (k_25 t13_20 w1))
  (fun n_21 w2 => BND (binv .int .add i_3 (Value.int .i64 1)) fun t8_24 =>
  (J_1 n_21 t8_24 w2 ∧ m_1 n_21 t8_24 w2 < m_1 n_2 i_3 w1)))
  (R n_2 w1))
def ann_tumbrelref01_Entry : List (Nat × List Nat) := [(1000002, [0, 3])]
theorem E_tumbrelref01_Entry (n_p0 : Value) (w : World) (R : Value → World → Prop) : M_tumbrelref01_Entry n_p0 w R = den PR ann_tumbrelref01_Entry (bodyOf Tryz.f192) (retQ PR Tryz.f192.results.toList R) (env0 [n_p0]) w := by kernel_rfl
theorem C_tumbrelref01_Entry {n_p0 : Value} {w : World} {R : Value → World → Prop} (h : M_tumbrelref01_Entry n_p0 w R) : CALL PR F_tumbrelref01_Entry [n_p0] w R :=
  call_of_den2 ann_tumbrelref01_Entry Tryz.func192 (by kernel_rfl) (by kernel_rfl) (by kernel_rfl) ((E_tumbrelref01_Entry n_p0 w R) ▸ h)
end Go.Proofs.YtofllgbdphakiaaGreatDoor
