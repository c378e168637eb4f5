
/- For every segment, size, records, place and record behind tumbrellaw15.SeglogCut returns true, and the arguments read behind the call as before. No condition but that the laid variables are laid, which the card ties to the program's text. -/
import Derived.Test.YtofllgbdphakiaaDoorRows
import Derived.Test.YtofllgbdphakiaaDoorGh
import Derived.Test.YtofllgbdphakiaaDoorGj
import Derived.ProofKit
import Derived.LaidMore
import Derived.Stop.Joined
import Derived.SevenTiedAt
import Derived.Test.YtofllgbdphakiaaDoorCards
import Derived.Test.YtofllgbdphakiaaDoorTie
namespace Go.Proofs.YtofllgbdphakiaaDoor
open Go.Den
open Go.ChangeShapes Go.WideShapes Go.ChangeAt Go.RowKit
set_option linter.unusedVariables false

set_option maxRecDepth 100000 in
theorem seglogCut_lifted (os : Os) (started : os.Started) (H : Type) (enc : TypeId × Value → H) :
    ReturnsInHanded {} Tryd.checked os 3 .any (fun w args => (Rows.seglogCutSpec.pre enc Tryd.prog Tryd.f3 [] false w args ∧ laidMetH Tryd.prog Rows.seglogCutRow.laid w) ∧ sizedMet enc Tryd.prog Tryd.f3 (OpenSpec.ofChange Rows.seglogCutSpec) false w args) (Rows.seglogCutSpec.post enc Tryd.prog Tryd.f3 false true false false) := by
  refine returnsInHanded_of_change_and (C := Tryd.checked) (X := fun w _ => laidMetH Tryd.prog Rows.seglogCutRow.laid w) (fun _ _ _ hh h => h.of_heap hh) ownK started (by kernel_rfl) Tryd.func3
    (ChangeSpec.witness_shaped (enc := enc) (C := Tryd.checked) (os := os) (X := fun w _ => laidMetH Tryd.prog Rows.seglogCutRow.laid w) false (World.doorLaid Tryd.prog 400 os) #[.int .u64 0, .int .i64 0, .slice none 0 0, .int .i64 0, .agg #[.int .i64 0, .slice none 0 0, .string ⟨#[]⟩]] 8 rfl (World.shaped_of_RefB (by kernel_rfl) (by kernel_rfl)) (by kernel_rfl) (by kernel_rfl) (by kernel_rfl) (laidMetH_of_parts3 (fuel := 8) (laidMet_of_run' 8 (by kernel_rfl) (by kernel_rfl)) (by kernel_rfl) (by kernel_rfl))) ?_
  intro W base args ds gs before hval0 hW _ hwt hL _
  have hval : ∀ (j : Nat) t v, Tryd.f3.params[j]? = some t → args[j]? = some v → Value.okWide Tryd.prog W .any base t v := hval0
  have hW' := hW
  obtain ⟨p, q, hA0, hV, rfl, hfz, hnd⟩ := hW
  have hA : DataW.TrodAll enc Tryd.prog W 0 (fun _ => true) true Tryd.f3.params.toList args.toList ds p := hA0
  rw [Tryd.params3] at hA hval
  have hall := hA
  obtain ⟨v0, vs0, d0, ds0, p0, q0, hargs0, rfl, rfl, h0, r0⟩ := trodAll_cons hA
  obtain ⟨v1, vs1, d1, ds1, p1, q1, hargs1, rfl, rfl, h1, r1⟩ := trodAll_cons r0
  obtain ⟨v2, vs2, d2, ds2, p2, q2, hargs2, rfl, rfl, h2, r2⟩ := trodAll_cons r1
  obtain ⟨v3, vs3, d3, ds3, p3, q3, hargs3, rfl, rfl, h3, r3⟩ := trodAll_cons r2
  obtain ⟨v4, vs4, d4, ds4, p4, q4, hargs4, rfl, rfl, h4, r4⟩ := trodAll_cons r3
  obtain ⟨rfl, rfl, rfl⟩ := trodAll_nil r4
  obtain rfl : args = #[v0, v1, v2, v3, v4] := by cases args; simp_all
  obtain ⟨rfl, rfl⟩ := trodVars_none hV
  have hT : Tab W := tabl_at (l := Rows.seglogCutRow.laid) 2 (by kernel_rfl) (by kernel_rfl) hL
  simp only [List.append_nil] at hW'
  obtain ⟨x0, rfl, rfl, rfl, w0⟩ := open_int Tryd.underlying22 (hval 0 _ v0 rfl rfl) h0
  obtain ⟨x1, rfl, rfl, rfl, w1⟩ := open_int Tryd.underlying3 (hval 1 _ v1 rfl rfl) h1
  obtain ⟨x2, w2, o2⟩ := arr_of_trod (P := Tryd.prog) (encS := encRc) (OK := (RcOk W)) Tryd.underlying23 (show Tryd.prog.cellsOf 26 = 3 by kernel_rfl) (by omega) encRc_len rcd_dec h2
    (by obtain ⟨a, n, c, h⟩ := okWide_slice Tryd.underlying23 (hval 2 _ v2 rfl rfl); exact ⟨a, n, c, h⟩)
  obtain ⟨x3, rfl, rfl, rfl, w3⟩ := open_int Tryd.underlying3 (hval 3 _ v3 rfl rfl) h3
  obtain ⟨cs4, rfl, _⟩ := okWide_struct Tryd.underlying26 (hval 4 _ v4 rfl rfl)
  obtain ⟨fu4, hf4⟩ := h4
  obtain ⟨⟨k4, s4, t4⟩, e4, ns4, hns4, hsm4⟩ := rcd_dec _ _ _ hf4
  obtain rfl : cs4 = (encRc (k4, s4, t4)).toArray := by rw [← e4]; simp [Value.cells]
  clear hA0 hval0
  refine (sg_CutI hT w0 (rcs_in w2 o2) hns4 hsm4 (R := fun v w' => v = .bool true ∧ Fr [] W w') (fun w' hf => ⟨rfl, hf⟩)).calls.mono fun e W' he => ?_
  obtain ⟨v, rfl, rfl, hf⟩ := he
  have bel := hf.below
  exact ⟨_, rfl, _, _, _, [], _, [], hW', trodAll_mk1 (shut_bool Tryd.underlying4 _), trodAll_below laidOutK (by kernel_rfl) hall bel, rfl, bel.frame _, fun h => by cases h⟩

theorem SeglogCut : Rows.SeglogCutSaid :=
  OpenClaim.holds_of_wide 3 Tryd.f3 rfl rfl rfl rfl rfl rfl rfl ⟨rfl, rfl, rfl, rfl, rfl⟩ rfl rfl rfl rfl rfl (by kernel_rfl) Tryd.func3 (by kernel_rfl)
    (of_decide_eq_true (by kernel_rfl)) (by unfold Func.isWrapper; first | (rw [if_pos (by decide +kernel)]; kernel_rfl) | (rw [if_neg (by decide +kernel)]; exact ⟨rfl, rfl⟩))
    (fun os started H enc _ => seglogCut_lifted os started H enc)

theorem SeglogCutCard : Rows.SeglogCutCardSaid :=
  Claim7.holds_tied_plain_at .later [] Rows.seglogCutCard.laidKinds true Rows.seglogCutCard.stood.harness true
    SeglogCut (fun _ h => by cases h) (by kernel_rfl) (fun _ h => by cases h) seglogCut_row_tie rfl ⟨rfl, rfl⟩ (by kernel_rfl) rfl
    (fun f fn hf hfn => by
      obtain rfl : f = 3 := Option.some.inj ((show Tryd.prog.funcNamed "tumbrel/tumbrellaw15.SeglogCut" = some 3 by kernel_rfl).symm.trans hf) |>.symm
      obtain rfl : fn = Tryd.f3 := (Option.some.inj (Tryd.func3.symm.trans hfn)).symm
      exact ⟨by kernel_rfl, fun j t ht => by
        have hm : t ∈ Tryd.f3.params.toList := by simpa using Array.mem_of_getElem? ht
        have hall : (Tryd.f3.params.toList.all fun u => !Tryd.prog.wantsStandIn u) = true := by kernel_rfl
        exact (show Tryd.prog.wantsStandIn t = false by simpa using List.all_eq_true.1 hall t hm)⟩)
    (by kernel_rfl)
#print axioms SeglogCutCard

end Go.Proofs.YtofllgbdphakiaaDoor
