/- Printed by denprint.py: the Go function as a predicate, and that it stands for the call. No condition. -/
import Derived.Test.YtmjiohgdoienmaaFns
set_option maxRecDepth 100000
set_option linter.unusedVariables false
namespace Go.Proofs.Ytmjiohgdoienmaa
open Go.Den

-- 20 (*tumbrel.tumbrelref07.Heap).At
def M_tumbrelref07_Heap_At (h_p0 id_p1 : Value) (w : World) (R : Value → World → Prop) : Prop :=
  CALL PR F_tumbrelref07_Heap_find [h_p0, id_p1] w fun t9_1 w1 =>
  BND (binv .int .lss t9_1 (Value.int .i64 0)) fun t11_2 =>
  COND t11_2
  (R (.tuple #[(Value.int .u64 0), (Value.bool false)]) w1)
  (BND (nilchk h_p0) fun t13_3 =>
  BND (faddr 0 t13_3) fun t14_4 =>
  BND (load1 w1 t14_4) fun t15_5 =>
  BND (iaddr 2 t15_5 t9_1) fun t17_6 =>
  BND (faddr 1 t17_6) fun t18_7 =>
  BND (load1 w1 t18_7) fun t19_8 =>
  R (.tuple #[t19_8, (Value.bool true)]) w1)
def ann_tumbrelref07_Heap_At : List (Nat × List Nat) := []
theorem E_tumbrelref07_Heap_At (h_p0 id_p1 : Value) (w : World) (R : Value → World → Prop) : M_tumbrelref07_Heap_At h_p0 id_p1 w R = den PR ann_tumbrelref07_Heap_At (bodyOf Try.f20) (retQ PR Try.f20.results.toList R) (env0 [h_p0, id_p1]) w := by kernel_rfl
theorem C_tumbrelref07_Heap_At {h_p0 id_p1 : Value} {w : World} {R : Value → World → Prop} (h : M_tumbrelref07_Heap_At h_p0 id_p1 w R) : CALL PR F_tumbrelref07_Heap_At [h_p0, id_p1] w R :=
  call_of_den2 ann_tumbrelref07_Heap_At Try.func20 (by kernel_rfl) (by kernel_rfl) (by kernel_rfl) ((E_tumbrelref07_Heap_At h_p0 id_p1 w R) ▸ h)

end Go.Proofs.Ytmjiohgdoienmaa
