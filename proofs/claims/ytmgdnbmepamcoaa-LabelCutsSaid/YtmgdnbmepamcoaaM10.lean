/- Printed by denprint.py: the Go function as a predicate, and that it stands for the call. No condition. -/
import Derived.Test.YtmgdnbmepamcoaaFns
set_option maxRecDepth 100000
set_option linter.unusedVariables false
namespace Go.Proofs.Ytmgdnbmepamcoaa
open Go.Den

-- 10 tumbrel.label.Fold
def M_label_Fold (s_p0 : Value) (w : World) (R : Value → World → Prop) : Prop :=
  NEW (newv 36 w (Value.agg #[(Value.pointer none), (Value.slice none 0 0)])) fun b_1 w1 =>
  BND (rangev w1 s_p0) fun p_ => NEW p_ fun t7_2 w2 =>
  ∃ (J_3 : World → Prop) (m_3 : World → Nat), J_3 w2 ∧ ∀ (_d_3 : Env) (w3 : World), J_3 w3 →
  (BND (nexts w3 t7_2) fun p_ => NEW p_ fun t8_11 w4 =>
  BND (extractv t8_11 0) fun t9_12 =>
  COND t9_12
  (BND (extractv t8_11 2) fun t10_13 =>
  CALL PR F_label_fold [t10_13] w4 fun t12_14 w5 =>
  CALL PR F_strings_Builder_WriteRune [b_1, t12_14] w5 fun t13_15 w6 =>
  (J_3 w6 ∧ m_3 w6 < m_3 w3))
  (CALL PR F_strings_Builder_String [b_1] w4 fun t14_16 w7 =>
  R t14_16 w7))
def ann_label_Fold : List (Nat × List Nat) := [(1000003, [])]
theorem E_label_Fold (s_p0 : Value) (w : World) (R : Value → World → Prop) : M_label_Fold s_p0 w R = den PR ann_label_Fold (bodyOf Try.f10) (retQ PR Try.f10.results.toList R) (env0 [s_p0]) w := by kernel_rfl
theorem C_label_Fold {s_p0 : Value} {w : World} {R : Value → World → Prop} (h : M_label_Fold s_p0 w R) : CALL PR F_label_Fold [s_p0] w R :=
  call_of_den2 ann_label_Fold Try.func10 (by kernel_rfl) (by kernel_rfl) (by kernel_rfl) ((E_label_Fold s_p0 w R) ▸ h)

end Go.Proofs.Ytmgdnbmepamcoaa
