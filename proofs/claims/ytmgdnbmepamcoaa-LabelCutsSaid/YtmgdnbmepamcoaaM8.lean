/- Printed by denprint.py: the Go function as a predicate, and that it stands for the call. No condition. -/
import Derived.Test.YtmgdnbmepamcoaaFns
set_option maxRecDepth 100000
set_option linter.unusedVariables false
namespace Go.Proofs.Ytmgdnbmepamcoaa
open Go.Den

-- 8 tumbrel.label.Right
def M_label_Right (s_p0 : Value) (w : World) (R : Value → World → Prop) : Prop :=
  BND (rangev w s_p0) fun p_ => NEW p_ fun t7_1 w1 =>
  ∃ (J_2 : Value → World → Prop) (m_2 : Value → World → Nat), J_2 (Value.int .i64 0) w1 ∧ ∀ (_d_2 : Env) (many_4 : Value) (w2 : World), J_2 many_4 w2 →
  (BND (nexts w2 t7_1) fun p_ => NEW p_ fun t8_14 w3 =>
  BND (extractv t8_14 0) fun t9_15 =>
  COND t9_15
  (BND (extractv t8_14 2) fun t10_16 =>
  CALL PR F_label_letter [t10_16] w3 fun t12_17 w4 =>
  BND (unv .not t12_17) fun t13_18 =>
  COND t13_18
  (R (Value.bool false) w4)
  (BND (binv .int .add many_4 (Value.int .i64 1)) fun t15_19 =>
  (J_2 t15_19 w4 ∧ m_2 t15_19 w4 < m_2 many_4 w2)))
  (BND (binv .int .geq many_4 (Value.int .i64 1)) fun t17_20 =>
  BND (grd (isB t17_20 true) (some many_4)) fun t19_21 =>
  BND (grd (isB t17_20 true) (binv .int .leq t19_21 (Value.int .i64 8))) fun t20_22 =>
  BND (pickv t17_20 t20_22 (Value.bool false)) fun t21_23 =>
  R t21_23 w3))
def ann_label_Right : List (Nat × List Nat) := [(1000003, [3])]
theorem E_label_Right (s_p0 : Value) (w : World) (R : Value → World → Prop) : M_label_Right s_p0 w R = den PR ann_label_Right (bodyOf Try.f8) (retQ PR Try.f8.results.toList R) (env0 [s_p0]) w := by kernel_rfl
theorem C_label_Right {s_p0 : Value} {w : World} {R : Value → World → Prop} (h : M_label_Right s_p0 w R) : CALL PR F_label_Right [s_p0] w R :=
  call_of_den2 ann_label_Right Try.func8 (by kernel_rfl) (by kernel_rfl) (by kernel_rfl) ((E_label_Right s_p0 w R) ▸ h)

end Go.Proofs.Ytmgdnbmepamcoaa
