/- Printed by denprint.py: the Go function as a predicate, and that it stands for the call. No condition. -/
import Derived.Test.YtmgdnbmepamcoaaFns
set_option maxRecDepth 100000
set_option linter.unusedVariables false
namespace Go.Proofs.Ytmgdnbmepamcoaa
open Go.Den

-- 15 tumbrel.tumbrelref03.Cut
def M_tumbrelref03_Cut (s_p0 n_p1 : Value) (w : World) (R : Value → World → Prop) : Prop :=
  BND (lens s_p0) fun t8_1 =>
  ∃ (J_2 : Value → World → Prop) (m_2 : Value → World → Nat), J_2 t8_1 w ∧ ∀ (_d_2 : Env) (k_4 : Value) (w1 : World), J_2 k_4 w1 →
  (BND (binv .int .gtr k_4 (Value.int .i64 0)) fun t10_31 =>
  COND t10_31
  (BND (slices s_p0 none (some k_4)) fun t15_32 =>
  CALL PR F_tumbrelref03_Len [t15_32] w1 fun t16_33 w2 =>
  BND (binv .int .leq t16_33 n_p1) fun t19_34 =>
  BND (grd (isB t19_34 true) (some t16_33)) fun t21_35 =>
  BND (grd (isB t19_34 true) (some s_p0)) fun t22_36 =>
  BND (grd (isB t19_34 true) (some k_4)) fun t23_37 =>
  BND (grd (isB t19_34 true) (slices t22_36 (some t23_37) none)) fun t24_38 =>
  GEF (isB t19_34 true) (fun k_ => CALL PR F_tumbrelref03_Len [t24_38] w2 k_) w2 fun t25_39 w3 =>
  BND (grd (isB t19_34 true) (binv .int .add t21_35 t25_39)) fun t26_40 =>
  BND (grd (isB t19_34 true) (some s_p0)) fun t27_41 =>
  GEF (isB t19_34 true) (fun k_ => CALL PR F_tumbrelref03_Len [t27_41] w3 k_) w3 fun t28_42 w4 =>
  BND (grd (isB t19_34 true) (binv .int .eql t26_40 t28_42)) fun t29_43 =>
  BND (pickv t19_34 t29_43 (Value.bool false)) fun t30_44 =>
  COND t30_44
  (BND (slices s_p0 none (some k_4)) fun t33_45 =>
  R t33_45 w4)
  (BND (binv .int .sub k_4 (Value.int .i64 1)) fun t12_46 =>
  (J_2 t12_46 w4 ∧ m_2 t12_46 w4 < m_2 k_4 w1)))
  (R (Value.string { data := #[] }) w1))
def ann_tumbrelref03_Cut : List (Nat × List Nat) := [(1000002, [5])]
theorem E_tumbrelref03_Cut (s_p0 n_p1 : Value) (w : World) (R : Value → World → Prop) : M_tumbrelref03_Cut s_p0 n_p1 w R = den PR ann_tumbrelref03_Cut (bodyOf Try.f15) (retQ PR Try.f15.results.toList R) (env0 [s_p0, n_p1]) w := by kernel_rfl
theorem C_tumbrelref03_Cut {s_p0 n_p1 : Value} {w : World} {R : Value → World → Prop} (h : M_tumbrelref03_Cut s_p0 n_p1 w R) : CALL PR F_tumbrelref03_Cut [s_p0, n_p1] w R :=
  call_of_den2 ann_tumbrelref03_Cut Try.func15 (by kernel_rfl) (by kernel_rfl) (by kernel_rfl) ((E_tumbrelref03_Cut s_p0 n_p1 w R) ▸ h)

end Go.Proofs.Ytmgdnbmepamcoaa
