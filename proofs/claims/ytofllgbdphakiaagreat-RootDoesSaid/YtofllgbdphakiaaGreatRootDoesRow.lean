
/- For every room and acts tumbrellaw16.RootDoes returns true, and the arguments read behind the call as before. No condition. -/
import Derived.Test.YtofllgbdphakiaaGreatRows
import Derived.Test.YtofllgbdphakiaaGreatGh
import Derived.Test.YtofllgbdphakiaaGreatGi
import Derived.Test.YtofllgbdphakiaaGreatGj
namespace Go.Proofs.YtofllgbdphakiaaGreat
open Go.Den
open Go.ChangeShapes Go.WideShapes Go.ChangeAt Go.RowKit
set_option linter.unusedVariables false

set_option maxRecDepth 100000 in
theorem rootDoes_lifted (os : Os) (started : os.Started) (H : Type) (enc : TypeId × Value → H) :
    ReturnsInHanded {} Tryz.checked os 3 .any (Rows.rootDoesSpec.pre6 enc Tryz.prog Tryz.f3 Rows.rootDoesRow.domain false) (Rows.rootDoesSpec.post enc Tryz.prog Tryz.f3 false true false false) := by
  refine handed_sized (C := Tryz.checked) ownK started (by kernel_rfl) Tryz.func3
    (ChangeSpec.witness6 (enc := enc) (C := Tryz.checked) false ⟨#[], #[.int .i64 0, .slice none 0 0], []⟩ 8 (by kernel_rfl) (by kernel_rfl) (by kernel_rfl) (by kernel_rfl)) ?_
  intro W base args ds gs before hval0 hW hwt
  have hval : ∀ (j : Nat) t v, Tryz.f3.params[j]? = some t → args[j]? = some v → Value.okWide Tryz.prog W .any base t v := hval0
  have hW' := hW
  obtain ⟨p, q, hA0, hV, rfl, hfz, hnd⟩ := hW
  have hA : DataW.TrodAll enc Tryz.prog W 0 (fun _ => true) true Tryz.f3.params.toList args.toList ds p := hA0
  rw [Tryz.params3] at hA hval
  have hall := hA
  obtain ⟨v0, vs0, d0, ds0, p0, q0, hargs0, rfl, rfl, h0, r0⟩ := trodAll_cons hA
  obtain ⟨v1, vs1, d1, ds1, p1, q1, hargs1, rfl, rfl, h1, r1⟩ := trodAll_cons r0
  obtain ⟨rfl, rfl, rfl⟩ := trodAll_nil r1
  obtain rfl : args = #[v0, v1] := by cases args; simp_all
  obtain ⟨rfl, rfl⟩ := trodVars_none hV
  obtain ⟨x0, rfl, rfl, rfl, w0⟩ := open_int Tryz.underlying3 (hval 0 _ v0 rfl rfl) h0
  have z1 : (d1.weights Tryz.prog 22).all (· ≤ reachBytes) = true := by
    rw [List.all_eq_true] at hwt ⊢
    exact fun m hm => hwt m (by show _ ∈ DataW.weightsEach _ _ _; simp [Tryz.params3, DataW.weightsEach]; first | exact hm | exact .inl hm | exact .inr hm | exact .inr (.inl hm) | exact .inr (.inr hm) | exact .inr (.inr (.inl hm)) | exact .inr (.inr (.inr hm)) | exact .inr (.inr (.inr (.inl hm))) | exact .inr (.inr (.inr (.inr hm))) | exact .inr (.inr (.inr (.inr (.inl hm)))) | exact .inr (.inr (.inr (.inr (.inr hm)))))
  obtain ⟨sa1, sn1, sc1, rfl⟩ := okWide_slice Tryz.underlying22 (hval 1 _ v1 rfl rfl)
  obtain ⟨x1, w1, o1⟩ := arr_of_trodW (P := Tryz.prog) (encS := encFac) (OK := (FacOk W)) (OKW := AcW) Tryz.underlying22 (show Tryz.prog.cellsOf 39 = 10 by kernel_rfl) (by omega) encFac_len fac_dec h1 ⟨sa1, sn1, sc1, rfl⟩
  replace o1 := fun x hx => (⟨(o1 x hx).1, (o1 x hx).2 z1⟩ : _ ∧ _)
  clear hA0 hval0
  refine (rt_DoesI w1 o1 (R := fun v w' => v = .bool true ∧ Fr [] W w') (fun w' hf => ⟨rfl, hf⟩)).calls.mono fun e W' he => ?_
  obtain ⟨v, rfl, rfl, hf⟩ := he
  have bel := hf.below
  exact ⟨_, rfl, _, _, _, [], _, [], hW', trodAll_mk1 (shut_bool Tryz.underlying4 _), trodAll_below laidOutK (by kernel_rfl) hall bel, rfl, bel.frame _, fun h => by cases h⟩

theorem RootDoes : Rows.RootDoesSaid :=
  OpenClaim.holds_of_wide 3 Tryz.f3 rfl rfl rfl rfl rfl rfl rfl ⟨rfl, rfl, rfl, rfl, rfl⟩ rfl rfl rfl rfl rfl (by kernel_rfl) Tryz.func3 (by kernel_rfl)
    (of_decide_eq_true (by kernel_rfl)) (by unfold Func.isWrapper; first | (rw [if_pos (by decide +kernel)]; kernel_rfl) | (rw [if_neg (by decide +kernel)]; exact ⟨rfl, rfl⟩))
    (fun os started H enc _ => rootDoes_lifted os started H enc)
#print axioms RootDoes

end Go.Proofs.YtofllgbdphakiaaGreat
