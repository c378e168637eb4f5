/- For every snapshot, every records and every number tumbrellaw13.SnapBack returns true, and the arguments read behind the call as before. No condition. -/
import Derived.Test.YtkifjfjhghogjaaRows
import Derived.Test.YtkifjfjhghogjaaRowK
import Derived.Test.YtkifjfjhghogjaaRow
import Derived.Test.YtkifjfjhghogjaaSnapRowK
namespace Go.Proofs.Ytkifjfjhghogjaa
open Go.Den
open Go.ChangeShapes Go.WideShapes Go.ChangeAt Go.RowKit
set_option linter.unusedVariables false

set_option maxRecDepth 100000 in
theorem snapBack_lifted (os : Os) (started : os.Started) (H : Type) (enc : TypeId × Value → H) :
    ReturnsInHanded {} Try.checked os 4 .any (Rows.snapBackSpec.pre6 enc Try.prog Try.f4 Rows.snapBackRow.domain false) (Rows.snapBackSpec.post enc Try.prog Try.f4 false true false false) := by
  refine handed_sized (C := Try.checked) ownK started (by kernel_rfl) Try.func4
    (ChangeSpec.witness6 (enc := enc) (C := Try.checked) false ⟨#[], #[.agg #[.int .u64 0, .int .u64 0, .int .u64 0, .int .u64 0, .int .u64 0, .slice none 0 0, .slice none 0 0, .slice none 0 0, .int .u64 0, .int .u64 0], .slice none 0 0, .int .i64 0], []⟩ 8 (by kernel_rfl) (by kernel_rfl) (by kernel_rfl) (by kernel_rfl)) ?_
  intro W base args ds gs before hval0 hW hwt
  have hval : ∀ (j : Nat) t v, Try.f4.params[j]? = some t → args[j]? = some v → Value.okWide Try.prog W .any base t v := hval0
  have hW' := hW
  obtain ⟨p, q, hA0, hV, rfl, hfz, hnd⟩ := hW
  have hA : DataW.TrodAll enc Try.prog W 0 (fun _ => true) true Try.f4.params.toList args.toList ds p := hA0
  rw [Try.params4] at hA hval
  have hall := hA
  obtain ⟨v0, vs0, d0, ds0, p0, q0, hargs0, rfl, rfl, h0, r0⟩ := trodAll_cons hA
  obtain ⟨v1, vs1, d1, ds1, p1, q1, hargs1, rfl, rfl, h1, r1⟩ := trodAll_cons r0
  obtain ⟨v2, vs2, d2, ds2, p2, q2, hargs2, rfl, rfl, h2, r2⟩ := trodAll_cons r1
  obtain ⟨rfl, rfl, rfl⟩ := trodAll_nil r2
  obtain rfl : args = #[v0, v1, v2] := by cases args; simp_all
  obtain ⟨rfl, rfl⟩ := trodVars_none hV
  obtain ⟨cs0, rfl, _⟩ := okWide_struct Try.underlying29 (hval 0 _ v0 rfl rfl)
  have z0 : (d0.weights Try.prog 29).all (· ≤ reachBytes) = true := by
    rw [List.all_eq_true] at hwt ⊢
    exact fun m hm => hwt m (by show _ ∈ DataW.weightsEach _ _ _; simp [Try.params4, DataW.weightsEach]; first | exact hm | exact .inl hm | exact .inr hm | exact .inr (.inl hm) | exact .inr (.inr hm) | exact .inr (.inr (.inl hm)) | exact .inr (.inr (.inr hm)))
  obtain ⟨fu0, hf0⟩ := h0
  obtain ⟨s0, iv0, dv0, cv0, e0, sv0, su0, sw0⟩ := snap_dec _ _ _ hf0
  obtain rfl : cs0 = (snC s0 iv0 dv0 cv0).toArray := by rw [← e0]; simp [Value.cells]
  obtain ⟨x1, w1, o1⟩ := arr_of_trod (P := Try.prog) (encS := encR) (OK := (RecOk W)) Try.underlying30 (show Try.prog.cellsOf 62 = 3 by kernel_rfl) (by omega) encR_len rec_dec h1
    (by obtain ⟨a, n, c, h⟩ := okWide_slice Try.underlying30 (hval 1 _ v1 rfl rfl); exact ⟨a, n, c, h⟩)
  have k1 := capd_of Try.underlying30 h1 (by obtain ⟨a, n, c, h⟩ := okWide_slice Try.underlying30 (hval 1 _ v1 rfl rfl); exact ⟨a, n, c, h⟩)
  obtain ⟨x2, rfl, rfl, rfl, w2⟩ := open_int Try.underlying3 (hval 2 _ v2 rfl rfl) h2
  obtain ⟨ls1, R1, U1⟩ := recs_of w1 o1 k1
  clear hA0 hval0
  refine (snap_back sv0 su0 R1 U1 (sw0 z0) (R := fun v w' => v = .bool true ∧ Fr [] W w') (fun w' hf => ⟨rfl, hf⟩)).calls.mono fun e W' he => ?_
  obtain ⟨v, rfl, rfl, hf⟩ := he
  have bel := hf.below
  exact ⟨_, rfl, _, _, _, [], _, [], hW', trodAll_mk1 (shut_bool Try.underlying4 _), trodAll_below laidOutK (by kernel_rfl) hall bel, rfl, bel.frame _, fun h => by cases h⟩

theorem SnapBack : Rows.SnapBackSaid :=
  OpenClaim.holds_of_wide 4 Try.f4 rfl rfl rfl rfl rfl rfl rfl ⟨rfl, rfl, rfl, rfl, rfl⟩ rfl rfl rfl rfl rfl (by kernel_rfl) Try.func4 (by kernel_rfl)
    (of_decide_eq_true (by kernel_rfl)) (by unfold Func.isWrapper; first | (rw [if_pos (by decide +kernel)]; kernel_rfl) | (rw [if_neg (by decide +kernel)]; exact ⟨rfl, rfl⟩))
    (fun os started H enc _ => snapBack_lifted os started H enc)
#print axioms SnapBack

end Go.Proofs.Ytkifjfjhghogjaa
