/- For every list of acts and every two strings tumbrellaw10.DeadOnce returns true, and the arguments read behind the call as before. No condition. -/
import Derived.Test.YthcbcolnahbihaaRows
import Derived.Test.YthcbcolnahbihaaRowK
import Derived.Test.YthcbcolnahbihaaRow
import Derived.Test.YthcbcolnahbihaaDeadOnce
import Derived.Test.YthcbcolnahbihaaDeadRowK
namespace Go.Proofs.Ythcbcolnahbihaa
open Go.Den
open Go.ChangeShapes Go.WideShapes Go.ChangeAt Go.RowKit
set_option linter.unusedVariables false

set_option maxRecDepth 100000 in
theorem deadOnce_lifted (os : Os) (started : os.Started) (H : Type) (enc : TypeId × Value → H) :
    ReturnsInHanded {} Try.checked os 6 .any (Rows.deadOnceSpec.pre6 enc Try.prog Try.f6 Rows.deadOnceRow.domain false) (Rows.deadOnceSpec.post enc Try.prog Try.f6 false true false false) := by
  refine handed_sized (C := Try.checked) ownK started (by kernel_rfl) Try.func6
    (ChangeSpec.witness6 (enc := enc) (C := Try.checked) false ⟨#[], #[.slice none 0 0, .string ⟨#[]⟩, .string ⟨#[]⟩], []⟩ 8 (by kernel_rfl) (by kernel_rfl) (by kernel_rfl) (by kernel_rfl)) ?_
  intro W base args ds gs before hval0 hW hwt
  have hval : ∀ (j : Nat) t v, Try.f6.params[j]? = some t → args[j]? = some v → Value.okWide Try.prog W .any base t v := hval0
  have hW' := hW
  obtain ⟨p, q, hA0, hV, rfl, hfz, hnd⟩ := hW
  have hA : DataW.TrodAll enc Try.prog W 0 (fun _ => true) true Try.f6.params.toList args.toList ds p := hA0
  rw [Try.params6] at hA hval
  have hall := hA
  obtain ⟨v0, vs0, d0, ds0, p0, q0, hargs0, rfl, rfl, h0, r0⟩ := trodAll_cons hA
  obtain ⟨v1, vs1, d1, ds1, p1, q1, hargs1, rfl, rfl, h1, r1⟩ := trodAll_cons r0
  obtain ⟨v2, vs2, d2, ds2, p2, q2, hargs2, rfl, rfl, h2, r2⟩ := trodAll_cons r1
  obtain ⟨rfl, rfl, rfl⟩ := trodAll_nil r2
  obtain rfl : args = #[v0, v1, v2] := by cases args; simp_all
  obtain ⟨rfl, rfl⟩ := trodVars_none hV
  obtain ⟨x0, w0, o0⟩ := arr_of_trod (P := Try.prog) (encS := encA) (OK := ActOk) Try.underlying22 (show Try.prog.cellsOf 34 = 4 by kernel_rfl) (by omega) encA_len act_dec h0
    (by obtain ⟨a, n, c, h⟩ := okWide_slice Try.underlying22 (hval 0 _ v0 rfl rfl); exact ⟨a, n, c, h⟩)
  obtain ⟨x1, rfl, rfl, rfl, w1⟩ := Go.ChangeMaps.open_string Try.underlying9 (hval 1 _ v1 rfl rfl) h1
  obtain ⟨x2, rfl, rfl, rfl, w2⟩ := Go.ChangeMaps.open_string Try.underlying9 (hval 2 _ v2 rfl rfl) h2
  have z1 : x1.size ≤ reachBytes := by
    have := List.all_eq_true.1 hwt x1.data.toList.length (by show _ ∈ DataW.weightsEach _ _ _; simp [Try.params6, DataW.weightsEach, DataW.weights])
    simpa using this
  have z2 : x2.size ≤ reachBytes := by
    have := List.all_eq_true.1 hwt x2.data.toList.length (by show _ ∈ DataW.weightsEach _ _ _; simp [Try.params6, DataW.weightsEach, DataW.weights])
    simpa using this
  clear hA0 hval0
  refine (dead_once w0 z1 z2 (R := fun v w' => v = .bool true ∧ Fr [] W w') (fun w' hf => ⟨rfl, hf⟩)).calls.mono fun e W' he => ?_
  obtain ⟨v, rfl, rfl, hf⟩ := he
  have bel := hf.below
  exact ⟨_, rfl, _, _, _, [], _, [], hW', trodAll_mk1 (shut_bool Try.underlying4 _), trodAll_below laidOutK (by kernel_rfl) hall bel, rfl, bel.frame _, fun h => by cases h⟩

theorem DeadOnce : Rows.DeadOnceSaid :=
  OpenClaim.holds_of_wide 6 Try.f6 rfl rfl rfl rfl rfl rfl rfl ⟨rfl, rfl, rfl, rfl, rfl⟩ rfl rfl rfl rfl rfl (by kernel_rfl) Try.func6 (by kernel_rfl)
    (of_decide_eq_true (by kernel_rfl)) (by unfold Func.isWrapper; first | (rw [if_pos (by decide +kernel)]; kernel_rfl) | (rw [if_neg (by decide +kernel)]; exact ⟨rfl, rfl⟩))
    (fun os started H enc _ => deadOnce_lifted os started H enc)
#print axioms DeadOnce

end Go.Proofs.Ythcbcolnahbihaa
