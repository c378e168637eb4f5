/- Printed by denprint.py: the Go function as a predicate, and that it stands for the call. No condition. -/
import Derived.Test.YtmgdnbmepamcoaaFns
set_option maxRecDepth 100000
set_option linter.unusedVariables false
namespace Go.Proofs.Ytmgdnbmepamcoaa
open Go.Den

-- 14 tumbrel.label.Cut
def M_label_Cut (s_p0 n_p1 : Value) (w : World) (R : Value → World → Prop) : Prop :=
  BND (rangev w s_p0) fun p_ => NEW p_ fun t7_1 w1 =>
  ∃ (J_2 : Value → World → Prop) (m_2 : Value → World → Nat), J_2 n_p1 w1 ∧ ∀ (_d_2 : Env) (n_3 : Value) (w2 : World), J_2 n_3 w2 →
  (BND (nexts w2 t7_1) fun p_ => NEW p_ fun t8_16 w3 =>
  BND (extractv t8_16 0) fun t9_17 =>
  COND t9_17
  (BND (extractv t8_16 1) fun t10_18 =>
  BND (binv .int .leq n_3 (Value.int .i64 0)) fun t12_19 =>
  COND t12_19
  (BND (slices s_p0 none (some t10_18)) fun t15_20 =>
  R t15_20 w3)
  (BND (binv .int .sub n_3 (Value.int .i64 1)) fun t17_21 =>
  (J_2 t17_21 w3 ∧ m_2 t17_21 w3 < m_2 n_3 w2)))
  (R s_p0 w3))
def ann_label_Cut : List (Nat × List Nat) := [(1000002, [1])]
theorem E_label_Cut (s_p0 n_p1 : Value) (w : World) (R : Value → World → Prop) : M_label_Cut s_p0 n_p1 w R = den PR ann_label_Cut (bodyOf Try.f14) (retQ PR Try.f14.results.toList R) (env0 [s_p0, n_p1]) w := by kernel_rfl
theorem C_label_Cut {s_p0 n_p1 : Value} {w : World} {R : Value → World → Prop} (h : M_label_Cut s_p0 n_p1 w R) : CALL PR F_label_Cut [s_p0, n_p1] w R :=
  call_of_den2 ann_label_Cut Try.func14 (by kernel_rfl) (by kernel_rfl) (by kernel_rfl) ((E_label_Cut s_p0 n_p1 w R) ▸ h)

end Go.Proofs.Ytmgdnbmepamcoaa
