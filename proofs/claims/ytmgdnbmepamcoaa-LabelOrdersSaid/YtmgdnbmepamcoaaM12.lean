/- Printed by denprint.py: the Go function as a predicate, and that it stands for the call. No condition. -/
import Derived.Test.YtmgdnbmepamcoaaFns
set_option maxRecDepth 100000
set_option linter.unusedVariables false
namespace Go.Proofs.Ytmgdnbmepamcoaa
open Go.Den

-- 12 tumbrel.label.Len
def M_label_Len (s_p0 : Value) (w : World) (R : Value → World → Prop) : Prop :=
  BND (rangev w s_p0) fun p_ => NEW p_ fun t5_1 w1 =>
  ∃ (J_2 : Value → World → Prop) (m_2 : Value → World → Nat), J_2 (Value.int .i64 0) w1 ∧ ∀ (_d_2 : Env) (many_3 : Value) (w2 : World), J_2 many_3 w2 →
  (BND (nexts w2 t5_1) fun p_ => NEW p_ fun t6_8 w3 =>
  BND (extractv t6_8 0) fun t7_9 =>
  COND t7_9
  (BND (binv .int .add many_3 (Value.int .i64 1)) fun t9_10 =>
  (J_2 t9_10 w3 ∧ m_2 t9_10 w3 < m_2 many_3 w2))
  (R many_3 w3))
def ann_label_Len : List (Nat × List Nat) := [(1000003, [3])]
theorem E_label_Len (s_p0 : Value) (w : World) (R : Value → World → Prop) : M_label_Len s_p0 w R = den PR ann_label_Len (bodyOf Try.f12) (retQ PR Try.f12.results.toList R) (env0 [s_p0]) w := by kernel_rfl
theorem C_label_Len {s_p0 : Value} {w : World} {R : Value → World → Prop} (h : M_label_Len s_p0 w R) : CALL PR F_label_Len [s_p0] w R :=
  call_of_den2 ann_label_Len Try.func12 (by kernel_rfl) (by kernel_rfl) (by kernel_rfl) ((E_label_Len s_p0 w R) ▸ h)

end Go.Proofs.Ytmgdnbmepamcoaa
