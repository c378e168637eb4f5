
/- For every act, record and two answers tumbrellaw12.OpTells returns true, and the arguments read behind the call as before. No condition. -/
import Derived.Test.YtpgflmjeedbimaaGreatRows
import Derived.Test.YtpgflmjeedbimaaGreatGh
import Derived.Test.YtpgflmjeedbimaaGreatGl
namespace Go.Proofs.YtpgflmjeedbimaaGreat
open Go.Den
open Go.ChangeShapes Go.WideShapes Go.ChangeAt Go.RowKit
set_option linter.unusedVariables false

set_option maxRecDepth 100000 in
theorem opTells_lifted (os : Os) (started : os.Started) (H : Type) (enc : TypeId × Value → H) :
    ReturnsInHanded {} Tryz.checked os 3 .any (Rows.opTellsSpec.pre6 enc Tryz.prog Tryz.f3 Rows.opTellsRow.domain false) (Rows.opTellsSpec.post enc Tryz.prog Tryz.f3 false true false false) := by
  refine returnsInHanded_of_change (C := Tryz.checked) ownK started (by kernel_rfl) Tryz.func3
    (ChangeSpec.witness6 (enc := enc) (C := Tryz.checked) false ⟨#[], #[.agg #[.int .i64 0,  .int .i64 0,  .int .u64 0,  .int .u64 0,  .string ⟨#[]⟩,  .int .u64 0,  .int .u64 0,  .int .i64 0], .agg #[.int .i64 0,  .slice none 0 0,  .string ⟨#[]⟩], .agg #[.int .i64 0,  .int .u64 0,  .int .u64 0,  .int .i64 0,  .int .i64 0,  .int .i64 0,  .int .u64 0,  .int .u64 0,  .int .i64 0,  .slice none 0 0], .agg #[.int .i64 0,  .int .u64 0,  .int .u64 0,  .int .i64 0,  .int .i64 0,  .int .i64 0,  .int .u64 0,  .int .u64 0,  .int .i64 0,  .slice none 0 0]], []⟩ 8 (by kernel_rfl) (by kernel_rfl) (by kernel_rfl) (by kernel_rfl)) ?_
  intro W base args ds gs before hval0 hW hcnd _
  have hval : ∀ (j : Nat) t v, Tryz.f3.params[j]? = some t → args[j]? = some v → Value.okWide Tryz.prog W .any base t v := hval0
  have hW' := hW
  obtain ⟨p, q, hA0, hV, rfl, hfz, hnd⟩ := hW
  have hA : DataW.TrodAll enc Tryz.prog W 0 (fun _ => true) true Tryz.f3.params.toList args.toList ds p := hA0
  rw [Tryz.params3] at hA hval
  have hall := hA
  obtain ⟨v0, vs0, d0, ds0, p0, q0, hargs0, rfl, rfl, h0, r0⟩ := trodAll_cons hA
  obtain ⟨v1, vs1, d1, ds1, p1, q1, hargs1, rfl, rfl, h1, r1⟩ := trodAll_cons r0
  obtain ⟨v2, vs2, d2, ds2, p2, q2, hargs2, rfl, rfl, h2, r2⟩ := trodAll_cons r1
  obtain ⟨v3, vs3, d3, ds3, p3, q3, hargs3, rfl, rfl, h3, r3⟩ := trodAll_cons r2
  obtain ⟨rfl, rfl, rfl⟩ := trodAll_nil r3
  obtain rfl : args = #[v0, v1, v2, v3] := by cases args; simp_all
  obtain ⟨rfl, rfl⟩ := trodVars_none hV
  obtain ⟨cs0, rfl, _⟩ := okWide_struct Tryz.underlying26 (hval 0 _ v0 rfl rfl)
  obtain ⟨fu0, hf0⟩ := h0
  obtain ⟨s0, e0, ok0⟩ := op_dec _ _ _ hf0
  obtain rfl : cs0 = (encAx s0).toArray := by rw [← e0]; simp [Value.cells]
  obtain ⟨cs1, rfl, _⟩ := okWide_struct Tryz.underlying29 (hval 1 _ v1 rfl rfl)
  obtain ⟨fu1, hf1⟩ := h1
  obtain ⟨k1, sv1, t1, ns1, e1, hn1⟩ := recw_dec _ _ _ hf1
  obtain rfl : cs1 = (encRc (k1, sv1, t1)).toArray := by rw [← e1]; simp [Value.cells]
  obtain ⟨cs2, rfl, _⟩ := okWide_struct Tryz.underlying32 (hval 2 _ v2 rfl rfl)
  obtain ⟨fu2, hf2⟩ := h2
  obtain ⟨a2, y2, e2, hy2⟩ := ans_dec _ _ _ hf2
  obtain rfl : cs2 = (encAn a2 y2).toArray := by rw [← e2]; simp [Value.cells]
  obtain ⟨cs3, rfl, _⟩ := okWide_struct Tryz.underlying32 (hval 3 _ v3 rfl rfl)
  obtain ⟨fu3, hf3⟩ := h3
  obtain ⟨a3, y3, e3, hy3⟩ := ans_dec _ _ _ hf3
  obtain rfl : cs3 = (encAn a3 y3).toArray := by rw [← e3]; simp [Value.cells]
  clear hA0 hval0
  refine (op_tells s0 k1 t1 hn1 hy2 hy3 (R := fun v w' => v = .bool true ∧ Fr [] W w') (fun w' hf => ⟨rfl, hf⟩)).calls.mono fun e W' he => ?_
  obtain ⟨v, rfl, rfl, hf⟩ := he
  have bel := hf.below
  exact ⟨_, rfl, _, _, _, [], _, [], hW', trodAll_mk1 (shut_bool Tryz.underlying4 _), trodAll_below laidOutK (by kernel_rfl) hall bel, rfl, bel.frame _, fun h => by cases h⟩

theorem OpTells : Rows.OpTellsSaid :=
  OpenClaim.holds_of_wide 3 Tryz.f3 rfl rfl rfl rfl rfl rfl rfl ⟨rfl, rfl, rfl, rfl, rfl⟩ rfl rfl rfl rfl rfl (by kernel_rfl) Tryz.func3 (by kernel_rfl)
    (of_decide_eq_true (by kernel_rfl)) (by unfold Func.isWrapper; first | (rw [if_pos (by decide +kernel)]; kernel_rfl) | (rw [if_neg (by decide +kernel)]; exact ⟨rfl, rfl⟩))
    (fun os started H enc _ => opTells_lifted os started H enc)
#print axioms OpTells

end Go.Proofs.YtpgflmjeedbimaaGreat
