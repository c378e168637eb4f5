/- Printed by denprint.py: the Go function as a predicate, and that it stands for the call. No condition. -/
import Derived.Test.YtmjiohgdoienmaaFns
set_option maxRecDepth 100000
set_option linter.unusedVariables false
namespace Go.Proofs.Ytmjiohgdoienmaa
open Go.Den

-- 24 (*tumbrel.tumbrelref07.Heap).find
def M_tumbrelref07_Heap_find (h_p0 id_p1 : Value) (w : World) (R : Value → World → Prop) : Prop :=
  ∃ (J_1 : Value → World → Prop) (m_1 : Value → World → Nat), J_1 (Value.int .i64 0) w ∧ ∀ (_d_1 : Env) (i_3 : Value) (w1 : World), J_1 i_3 w1 →
  (BND (nilchk h_p0) fun t8_24 =>
  BND (faddr 0 t8_24) fun t9_25 =>
  BND (load1 w1 t9_25) fun t10_26 =>
  BND (lenl t10_26) fun t11_27 =>
  BND (binv .int .lss i_3 t11_27) fun t12_28 =>
  COND t12_28
  (BND (nilchk h_p0) fun t16_29 =>
  BND (faddr 0 t16_29) fun t17_30 =>
  BND (load1 w1 t17_30) fun t18_31 =>
  BND (iaddr 2 t18_31 i_3) fun t20_32 =>
  BND (faddr 0 t20_32) fun t21_33 =>
  BND (load1 w1 t21_33) fun t22_34 =>
  BND (binv .int .eql t22_34 id_p1) fun t24_35 =>
  COND t24_35
  (R i_3 w1)
  (BND (binv .int .add i_3 (Value.int .i64 1)) fun t14_36 =>
  (J_1 t14_36 w1 ∧ m_1 t14_36 w1 < m_1 i_3 w1)))
  (R (Value.int .i64 (-1)) w1))
def ann_tumbrelref07_Heap_find : List (Nat × List Nat) := [(1000002, [5])]
theorem E_tumbrelref07_Heap_find (h_p0 id_p1 : Value) (w : World) (R : Value → World → Prop) : M_tumbrelref07_Heap_find h_p0 id_p1 w R = den PR ann_tumbrelref07_Heap_find (bodyOf Try.f24) (retQ PR Try.f24.results.toList R) (env0 [h_p0, id_p1]) w := by kernel_rfl
theorem C_tumbrelref07_Heap_find {h_p0 id_p1 : Value} {w : World} {R : Value → World → Prop} (h : M_tumbrelref07_Heap_find h_p0 id_p1 w R) : CALL PR F_tumbrelref07_Heap_find [h_p0, id_p1] w R :=
  call_of_den2 ann_tumbrelref07_Heap_find Try.func24 (by kernel_rfl) (by kernel_rfl) (by kernel_rfl) ((E_tumbrelref07_Heap_find h_p0 id_p1 w R) ▸ h)

end Go.Proofs.Ytmjiohgdoienmaa
