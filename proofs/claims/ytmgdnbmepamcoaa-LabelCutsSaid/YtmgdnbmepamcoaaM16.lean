/- Printed by denprint.py: the Go function as a predicate, and that it stands for the call. No condition. -/
import Derived.Test.YtmgdnbmepamcoaaFns
set_option maxRecDepth 100000
set_option linter.unusedVariables false
namespace Go.Proofs.Ytmgdnbmepamcoaa
open Go.Den

-- 16 tumbrel.label.Less
def M_label_Less (a_p0 b_p1 : Value) (w : World) (R : Value → World → Prop) : Prop :=
  RUNES 21 a_p0 w fun t6_1 w1 =>
  RUNES 21 b_p1 w1 fun t8_2 w2 =>
  CALL PR F_slices_Compare_rune_rune [t6_1, t8_2] w2 fun t9_3 w3 =>
  BND (binv .int .lss t9_3 (Value.int .i64 0)) fun t10_4 =>
  R t10_4 w3
def ann_label_Less : List (Nat × List Nat) := []
theorem E_label_Less (a_p0 b_p1 : Value) (w : World) (R : Value → World → Prop) : M_label_Less a_p0 b_p1 w R = den PR ann_label_Less (bodyOf Try.f16) (retQ PR Try.f16.results.toList R) (env0 [a_p0, b_p1]) w := by kernel_rfl
theorem C_label_Less {a_p0 b_p1 : Value} {w : World} {R : Value → World → Prop} (h : M_label_Less a_p0 b_p1 w R) : CALL PR F_label_Less [a_p0, b_p1] w R :=
  call_of_den2 ann_label_Less Try.func16 (by kernel_rfl) (by kernel_rfl) (by kernel_rfl) ((E_label_Less a_p0 b_p1 w R) ▸ h)

end Go.Proofs.Ytmgdnbmepamcoaa
