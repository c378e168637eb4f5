/- For every name, first bytes, acts, opening and tails tumbrellaw06.DiskSure returns true, and the arguments read behind the call as before. No condition. -/
import Derived.Test.YtpefokoiioeomaaRows
import Derived.Test.YtpefokoiioeomaaRowK
import Derived.Test.YtpefokoiioeomaaRow
import Derived.Test.YtpefokoiioeomaaDiskRowK
import Derived.Test.YtpefokoiioeomaaDiskSure
namespace Go.Proofs.Ytpefokoiioeomaa
open Go.Den
open Go.ChangeShapes Go.WideShapes Go.ChangeAt Go.RowKit
set_option linter.unusedVariables false

set_option maxRecDepth 100000 in
theorem diskSure_lifted (os : Os) (started : os.Started) (H : Type) (enc : TypeId × Value → H) :
    ReturnsInHanded {} Try.checked os 4 .any (Rows.diskSureSpec.pre6 enc Try.prog Try.f4 Rows.diskSureRow.domain false) (Rows.diskSureSpec.post enc Try.prog Try.f4 false true false false) := by
  refine returnsInHanded_of_change (C := Try.checked) ownK started (by kernel_rfl) Try.func4
    (ChangeSpec.witness6 (enc := enc) (C := Try.checked) false ⟨#[], #[.string ⟨#[]⟩, .slice none 0 0, .slice none 0 0, .int .i64 0, .slice none 0 0], []⟩ 8 (by kernel_rfl) (by kernel_rfl) (by kernel_rfl) (by kernel_rfl)) ?_
  intro W base args ds gs before hval0 hW hcnd _
  have hval : ∀ (j : Nat) t v, Try.f4.params[j]? = some t → args[j]? = some v → Value.okWide Try.prog W .any base t v := hval0
  have hW' := hW
  obtain ⟨p, q, hA0, hV, rfl, hfz, hnd⟩ := hW
  have hA : DataW.TrodAll enc Try.prog W 0 (fun _ => true) true Try.f4.params.toList args.toList ds p := hA0
  rw [Try.params4] at hA hval
  have hall := hA
  obtain ⟨v0, vs0, d0, ds0, p0, q0, hargs0, rfl, rfl, h0, r0⟩ := trodAll_cons hA
  obtain ⟨v1, vs1, d1, ds1, p1, q1, hargs1, rfl, rfl, h1, r1⟩ := trodAll_cons r0
  obtain ⟨v2, vs2, d2, ds2, p2, q2, hargs2, rfl, rfl, h2, r2⟩ := trodAll_cons r1
  obtain ⟨v3, vs3, d3, ds3, p3, q3, hargs3, rfl, rfl, h3, r3⟩ := trodAll_cons r2
  obtain ⟨v4, vs4, d4, ds4, p4, q4, hargs4, rfl, rfl, h4, r4⟩ := trodAll_cons r3
  obtain ⟨rfl, rfl, rfl⟩ := trodAll_nil r4
  obtain rfl : args = #[v0, v1, v2, v3, v4] := by cases args; simp_all
  obtain ⟨rfl, rfl⟩ := trodVars_none hV
  obtain ⟨x0, rfl, rfl, rfl, w0⟩ := Go.ChangeMaps.open_string Try.underlying9 (hval 0 _ v0 rfl rfl) h0
  obtain ⟨x1, w1, o1⟩ := arr_of_trod (P := Try.prog) (encS := encB) (OK := (fun _ => True)) Try.underlying32 (show Try.prog.cellsOf 5 = 1 by kernel_rfl) (by omega) encB_len u8_dec h1
    (by obtain ⟨a, n, c, h⟩ := okWide_slice Try.underlying32 (hval 1 _ v1 rfl rfl); exact ⟨a, n, c, h⟩)
  obtain ⟨x2, w2, o2⟩ := arr_of_trod (P := Try.prog) (encS := encA) (OK := (ActOk W)) Try.underlying22 (show Try.prog.cellsOf 35 = 6 by kernel_rfl) (by omega) encA_len act_dec h2
    (by obtain ⟨a, n, c, h⟩ := okWide_slice Try.underlying22 (hval 2 _ v2 rfl rfl); exact ⟨a, n, c, h⟩)
  obtain ⟨x3, rfl, rfl, rfl, w3⟩ := open_int Try.underlying3 (hval 3 _ v3 rfl rfl) h3
  obtain ⟨x4, w4, o4⟩ := arr_of_trod (P := Try.prog) (encS := encI) (OK := (fun _ => True)) Try.underlying33 (show Try.prog.cellsOf 3 = 1 by kernel_rfl) (by omega) encI_len int_dec h4
    (by obtain ⟨a, n, c, h⟩ := okWide_slice Try.underlying33 (hval 4 _ v4 rfl rfl); exact ⟨a, n, c, h⟩)
  obtain ⟨ls2, A1⟩ := acts_of w2 o2
  clear hA0 hval0
  refine (dk_DiskSure x0 x3 w1 A1 w4 (R := fun v w' => v = .bool true ∧ Fr [] W w') (fun w' hf => ⟨rfl, hf⟩)).calls.mono fun e W' he => ?_
  obtain ⟨v, rfl, rfl, hf⟩ := he
  have bel := hf.below
  exact ⟨_, rfl, _, _, _, [], _, [], hW', trodAll_mk1 (shut_bool Try.underlying4 _), trodAll_below laidOutK (by kernel_rfl) hall bel, rfl, bel.frame _, fun h => by cases h⟩

theorem DiskSure : Rows.DiskSureSaid :=
  OpenClaim.holds_of_wide 4 Try.f4 rfl rfl rfl rfl rfl rfl rfl ⟨rfl, rfl, rfl, rfl, rfl⟩ rfl rfl rfl rfl rfl (by kernel_rfl) Try.func4 (by kernel_rfl)
    (of_decide_eq_true (by kernel_rfl)) (by unfold Func.isWrapper; first | (rw [if_pos (by decide +kernel)]; kernel_rfl) | (rw [if_neg (by decide +kernel)]; exact ⟨rfl, rfl⟩))
    (fun os started H enc _ => diskSure_lifted os started H enc)
#print axioms DiskSure

end Go.Proofs.Ytpefokoiioeomaa
