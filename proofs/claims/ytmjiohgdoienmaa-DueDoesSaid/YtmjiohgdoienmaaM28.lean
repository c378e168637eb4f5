/- Printed by denprint.py: the Go function as a predicate, and that it stands for the call. No condition. -/
import Derived.Test.YtmjiohgdoienmaaFns
set_option maxRecDepth 100000
set_option linter.unusedVariables false
namespace Go.Proofs.Ytmjiohgdoienmaa
open Go.Den

-- 28 (tumbrel.due.entry).less
def M_due_entry_less (e_p0 f_p1 : Value) (w : World) (R : Value → World → Prop) : Prop :=
  NEW (newv 53 w e_p0) fun e_1 w1 =>
  NEW (newv 53 w1 f_p1) fun f_2 w2 =>
  BND (faddr 0 e_1) fun t5_3 =>
  BND (load1 w2 t5_3) fun t6_4 =>
  BND (faddr 0 f_2) fun t7_5 =>
  BND (load1 w2 t7_5) fun t8_6 =>
  BND (binv .int .lss t6_4 t8_6) fun t9_7 =>
  BND (grd (isB t9_7 false) (faddr 0 e_1)) fun t11_8 =>
  BND (grd (isB t9_7 false) (load1 w2 t11_8)) fun t12_9 =>
  BND (grd (isB t9_7 false) (faddr 0 f_2)) fun t13_10 =>
  BND (grd (isB t9_7 false) (load1 w2 t13_10)) fun t14_11 =>
  BND (grd (isB t9_7 false) (binv .int .eql t12_9 t14_11)) fun t15_12 =>
  BND (grd (isB t9_7 false) (some t15_12)) fun t16_13 =>
  BND (grd (isB t16_13 true) (faddr 1 e_1)) fun t17_14 =>
  BND (grd (isB t16_13 true) (load1 w2 t17_14)) fun t18_15 =>
  BND (grd (isB t16_13 true) (faddr 1 f_2)) fun t19_16 =>
  BND (grd (isB t16_13 true) (load1 w2 t19_16)) fun t20_17 =>
  BND (grd (isB t16_13 true) (binv .int .lss t18_15 t20_17)) fun t21_18 =>
  BND (grd (isB t9_7 false) (pickv t16_13 t21_18 (Value.bool false))) fun t22_19 =>
  BND (pickv t9_7 (Value.bool true) t22_19) fun t23_20 =>
  R t23_20 w2
def ann_due_entry_less : List (Nat × List Nat) := []
theorem E_due_entry_less (e_p0 f_p1 : Value) (w : World) (R : Value → World → Prop) : M_due_entry_less e_p0 f_p1 w R = den PR ann_due_entry_less (bodyOf Try.f28) (retQ PR Try.f28.results.toList R) (env0 [e_p0, f_p1]) w := by kernel_rfl
theorem C_due_entry_less {e_p0 f_p1 : Value} {w : World} {R : Value → World → Prop} (h : M_due_entry_less e_p0 f_p1 w R) : CALL PR F_due_entry_less [e_p0, f_p1] w R :=
  call_of_den2 ann_due_entry_less Try.func28 (by kernel_rfl) (by kernel_rfl) (by kernel_rfl) ((E_due_entry_less e_p0 f_p1 w R) ▸ h)

end Go.Proofs.Ytmjiohgdoienmaa
