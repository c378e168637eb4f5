/- For all acts tumbrellaw16.RootWhole returns true, and the arguments read behind the call as before. No condition. -/
import Derived.Test.YthlmkjkjebcpfaaRows
import Derived.Test.YthlmkjkjebcpfaaGc
import Derived.Test.YthlmkjkjebcpfaaRootRowK2
import Derived.Test.YthlmkjkjebcpfaaRootWhole
namespace Go.Proofs.Ythlmkjkjebcpfaa
open Go.Den
open Go.ChangeShapes Go.WideShapes Go.ChangeAt Go.RowKit
set_option linter.unusedVariables false

set_option maxRecDepth 100000 in
theorem rootWhole_lifted (os : Os) (started : os.Started) (H : Type) (enc : TypeId × Value → H) :
    ReturnsInHanded {} Try.checked os 4 .any (Rows.rootWholeSpec.pre6 enc Try.prog Try.f4 Rows.rootWholeRow.domain false) (Rows.rootWholeSpec.post enc Try.prog Try.f4 false true false false) := by
  refine returnsInHanded_of_change (C := Try.checked) ownK started (by kernel_rfl) Try.func4
    (ChangeSpec.witness6 (enc := enc) (C := Try.checked) false ⟨#[], #[.slice none 0 0], []⟩ 8 (by kernel_rfl) (by kernel_rfl) (by kernel_rfl) (by kernel_rfl)) ?_
  intro W base args ds gs before hval0 hW hcnd _
  have hval : ∀ (j : Nat) t v, Try.f4.params[j]? = some t → args[j]? = some v → Value.okWide Try.prog W .any base t v := hval0
  have hW' := hW
  obtain ⟨p, q, hA0, hV, rfl, hfz, hnd⟩ := hW
  have hA : DataW.TrodAll enc Try.prog W 0 (fun _ => true) true Try.f4.params.toList args.toList ds p := hA0
  rw [Try.params4] at hA hval
  have hall := hA
  obtain ⟨v0, vs0, d0, ds0, p0, q0, hargs0, rfl, rfl, h0, r0⟩ := trodAll_cons hA
  obtain ⟨rfl, rfl, rfl⟩ := trodAll_nil r0
  obtain rfl : args = #[v0] := by cases args; simp_all
  obtain ⟨rfl, rfl⟩ := trodVars_none hV
  obtain ⟨x0, w0, o0⟩ := arr_of_trod (P := Try.prog) (encS := encAc) (OK := (AcOk W)) Try.underlying37 (show Try.prog.cellsOf 41 = 10 by kernel_rfl) (by omega) encAc_len ac_dec h0
    (by obtain ⟨a, n, c, h⟩ := okWide_slice Try.underlying37 (hval 0 _ v0 rfl rfl); exact ⟨a, n, c, h⟩)
  obtain ⟨ls1, A1⟩ := actsT_of w0 o0
  clear hA0 hval0
  refine (rt_RootWhole A1 (R := fun v w' => v = .bool true ∧ Fr [] W w') (fun w' hf => ⟨rfl, hf⟩)).calls.mono fun e W' he => ?_
  obtain ⟨v, rfl, rfl, hf⟩ := he
  have bel := hf.below
  exact ⟨_, rfl, _, _, _, [], _, [], hW', trodAll_mk1 (shut_bool Try.underlying4 _), trodAll_below laidOutK (by kernel_rfl) hall bel, rfl, bel.frame _, fun h => by cases h⟩

theorem RootWhole : Rows.RootWholeSaid :=
  OpenClaim.holds_of_wide 4 Try.f4 rfl rfl rfl rfl rfl rfl rfl ⟨rfl, rfl, rfl, rfl, rfl⟩ rfl rfl rfl rfl rfl (by kernel_rfl) Try.func4 (by kernel_rfl)
    (of_decide_eq_true (by kernel_rfl)) (by unfold Func.isWrapper; first | (rw [if_pos (by decide +kernel)]; kernel_rfl) | (rw [if_neg (by decide +kernel)]; exact ⟨rfl, rfl⟩))
    (fun os started H enc _ => rootWhole_lifted os started H enc)
#print axioms RootWhole

end Go.Proofs.Ythlmkjkjebcpfaa
