/- Printed by denprint.py: the Go function as a predicate, and that it stands for the call. No condition. -/
import Derived.Test.YtmgdnbmepamcoaaFns
set_option maxRecDepth 100000
set_option linter.unusedVariables false
namespace Go.Proofs.Ytmgdnbmepamcoaa
open Go.Den

-- 22 slices.Compare[[]rune,rune]
def M_slices_Compare_rune_rune (s1_p0 s2_p1 : Value) (w : World) (R : Value → World → Prop) : Prop :=
  BND (lenl s1_p0) fun t10_1 =>
  ∃ (J_2 : Value → World → Prop) (m_2 : Value → World → Nat), J_2 (Value.int .i64 0) w ∧ ∀ (_d_2 : Env) (t11_8 : Value) (w1 : World), J_2 t11_8 w1 →
  (BND (binv .int .lss t11_8 t10_1) fun t12_28 =>
  COND t12_28
  (BND (iaddr 1 s1_p0 t11_8) fun t14_29 =>
  BND (load1 w1 t14_29) fun t15_30 =>
  BND (lenl s2_p1) fun t18_31 =>
  BND (binv .int .geq t11_8 t18_31) fun t19_32 =>
  COND t19_32
  (R (Value.int .i64 1) w1)
  (BND (iaddr 1 s2_p1 t11_8) fun t22_33 =>
  BND (load1 w1 t22_33) fun t23_34 =>
  CALL PR F_cmp_Compare_rune [t15_30, t23_34] w1 fun t26_35 w2 =>
  BND (binv .int .neq t26_35 (Value.int .i64 0)) fun t28_36 =>
  COND t28_36
  (R t26_35 w2)
  (BND (binv .int .add t11_8 (Value.int .i64 1)) fun t30_37 =>
  (J_2 t30_37 w2 ∧ m_2 t30_37 w2 < m_2 t11_8 w1))))
  (BND (lenl s1_p0) fun t32_38 =>
  BND (lenl s2_p1) fun t34_39 =>
  BND (binv .int .lss t32_38 t34_39) fun t35_40 =>
  COND t35_40
  (R (Value.int .i64 (-1)) w1)
  (R (Value.int .i64 0) w1)))
def ann_slices_Compare_rune_rune : List (Nat × List Nat) := [(1000002, [11])]
theorem E_slices_Compare_rune_rune (s1_p0 s2_p1 : Value) (w : World) (R : Value → World → Prop) : M_slices_Compare_rune_rune s1_p0 s2_p1 w R = den PR ann_slices_Compare_rune_rune (bodyOf Try.f22) (retQ PR Try.f22.results.toList R) (env0 [s1_p0, s2_p1]) w := by kernel_rfl
theorem C_slices_Compare_rune_rune {s1_p0 s2_p1 : Value} {w : World} {R : Value → World → Prop} (h : M_slices_Compare_rune_rune s1_p0 s2_p1 w R) : CALL PR F_slices_Compare_rune_rune [s1_p0, s2_p1] w R :=
  call_of_den2 ann_slices_Compare_rune_rune Try.func22 (by kernel_rfl) (by kernel_rfl) (by kernel_rfl) ((E_slices_Compare_rune_rune s1_p0 s2_p1 w R) ▸ h)

end Go.Proofs.Ytmgdnbmepamcoaa
