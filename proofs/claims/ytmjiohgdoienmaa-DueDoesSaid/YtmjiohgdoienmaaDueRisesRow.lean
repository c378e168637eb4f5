/- For every list of acts tumbrellaw07.DueRises returns true, and the list reads behind the call as before. No condition. -/
import Derived.Test.YtmjiohgdoienmaaRows
import Derived.Test.YtmjiohgdoienmaaDueRises
import Derived.Test.YtmjiohgdoienmaaRow
namespace Go.Proofs.Ytmjiohgdoienmaa
open Go.Den
open Go.ChangeShapes Go.WideShapes Go.ChangeAt Go.RowKit
set_option linter.unusedVariables false

theorem ownK : ownKnob Try.prog.godebug = none := by kernel_rfl
theorem laidOutK : laidOutB Try.prog = true := by kernel_rfl

theorem act_dec {H : Type} {enc : TypeId × Value → H} {w : World} (fuel : Nat) (cs : List Value) (y : DataW H × List MemPlace)
    (h : DataW.trod enc Try.prog w 0 (fun _ => true) true fuel 28 cs = some y) : ∃ x : Act, cs = encA x ∧ ActOk x := by
  obtain ⟨y0, y1, y2, n, rfl, hl, h0, h1, h2⟩ := Deep.trod_struct3 Try.underlying28 h
  have hc : Try.prog.cellsOf 28 = 3 := by kernel_rfl
  rw [hc] at hl
  have c3 : Try.prog.cellsOf 3 = 1 := by kernel_rfl
  have c26 : Try.prog.cellsOf 26 = 1 := by kernel_rfl
  match cs, hl with
  | [u0, u1, u2], _ =>
    simp only [c3, c26, List.drop_zero, List.take_succ_cons, List.take_zero, List.drop_succ_cons] at h0 h1 h2
    obtain ⟨a, e0, _, w0⟩ := DataW.trod_int Try.underlying3 h0
    obtain ⟨b, e1, _, w1⟩ := DataW.trod_int Try.underlying26 h1
    obtain ⟨c, e2, _, w2⟩ := DataW.trod_int Try.underlying26 h2
    simp only [List.cons.injEq, and_true] at e0 e1 e2
    subst e0; subst e1; subst e2
    have b1 := int_bounds_u64 w1
    have b2 := int_bounds_u64 w2
    exact ⟨(a, b, c), rfl, b1.1, b1.2, b2.1, b2.2⟩

set_option maxRecDepth 100000 in
theorem dueRises_lifted (os : Os) (started : os.Started) (H : Type) (enc : TypeId × Value → H) :
    ReturnsInHanded {} Try.checked os 3 .any (Rows.dueRisesSpec.pre6 enc Try.prog Try.f3 Rows.dueRisesRow.domain false) (Rows.dueRisesSpec.post enc Try.prog Try.f3 false true false false) := by
  refine returnsInHanded_of_change (C := Try.checked) ownK started (by kernel_rfl) Try.func3
    (ChangeSpec.witness6 (enc := enc) (C := Try.checked) false ⟨#[], #[.slice none 0 0], []⟩ 8 (by kernel_rfl) (by kernel_rfl) (by kernel_rfl) (by kernel_rfl)) ?_
  intro W base args ds gs before hval0 hW hcnd _
  have hval : ∀ (j : Nat) t v, Try.f3.params[j]? = some t → args[j]? = some v → Value.okWide Try.prog W .any base t v := hval0
  have hW' := hW
  obtain ⟨p, q, hA0, hV, rfl, hfz, hnd⟩ := hW
  have hA : DataW.TrodAll enc Try.prog W 0 (fun _ => true) true Try.f3.params.toList args.toList ds p := hA0
  rw [Try.params3] at hA hval
  have hall := hA
  obtain ⟨v0, vs0, d0, ds0, p0, q0, hargs, rfl, rfl, h0, r0⟩ := trodAll_cons hA
  obtain ⟨rfl, rfl, rfl⟩ := trodAll_nil r0
  obtain rfl : args = #[v0] := by cases args; simp_all
  obtain ⟨rfl, rfl⟩ := trodVars_none hV
  obtain ⟨xs, hx, hok⟩ := arr_of_trod (P := Try.prog) (encS := encA) (OK := ActOk) Try.underlying22 (show Try.prog.cellsOf 28 = 3 by kernel_rfl) (by omega) encA_len act_dec h0
    (by obtain ⟨a, n, c, h⟩ := okWide_slice Try.underlying22 (hval 0 _ v0 rfl rfl); exact ⟨a, n, c, h⟩)
  clear hA0 hval0
  refine (due_rises hx hok (R := fun v w' => v = .bool true ∧ Fr [] W w') (fun w' hf => ⟨rfl, hf⟩)).calls.mono fun e W' he => ?_
  obtain ⟨v, rfl, rfl, hf⟩ := he
  have bel := hf.below
  exact ⟨_, rfl, _, _, _, [], _, [], hW', trodAll_mk1 (shut_bool Try.underlying4 _), trodAll_below laidOutK (by kernel_rfl) hall bel, rfl, bel.frame _, fun h => by cases h⟩

theorem DueRises : Rows.DueRisesSaid :=
  OpenClaim.holds_of_wide 3 Try.f3 rfl rfl rfl rfl rfl rfl rfl ⟨rfl, rfl, rfl, rfl, rfl⟩ rfl rfl rfl rfl rfl (by kernel_rfl) Try.func3 (by kernel_rfl)
    (of_decide_eq_true (by kernel_rfl)) (by unfold Func.isWrapper; first | (rw [if_pos (by decide +kernel)]; kernel_rfl) | (rw [if_neg (by decide +kernel)]; exact ⟨rfl, rfl⟩))
    (fun os started H enc _ => dueRises_lifted os started H enc)
#print axioms DueRises

end Go.Proofs.Ytmjiohgdoienmaa
