
/- For every room and every acts tumbrellaw17.EventsDo returns true, and the arguments read behind the call as before. No condition but that the table of the powers of ten is laid, which the card ties to the program's text. -/
import Derived.Test.YtmefbneoljpbgaaGreatDoorRows
import Derived.Test.YtmefbneoljpbgaaGreatDoorGc
import Derived.Test.YtmefbneoljpbgaaGreatDoorEvRowK
import Derived.Test.YtmefbneoljpbgaaGreatDoorEvDoK
import Derived.ProofKit
import Derived.LaidMore
import Derived.Stop.Joined
import Derived.SevenTiedAt
import Derived.Test.YtmefbneoljpbgaaGreatDoorCards
import Derived.Test.YtmefbneoljpbgaaGreatDoorTie
namespace Go.Proofs.YtmefbneoljpbgaaGreatDoor
open Go.Den
open Go.ChangeShapes Go.WideShapes Go.ChangeAt Go.RowKit
set_option linter.unusedVariables false

set_option maxRecDepth 100000 in
theorem eventsDo_lifted (os : Os) (started : os.Started) (H : Type) (enc : TypeId × Value → H) :
    ReturnsInHanded {} Tryz.checked os 3 .any (fun w args => (Rows.eventsDoSpec.pre enc Tryz.prog Tryz.f3 [] false w args ∧ laidMetH Tryz.prog Rows.eventsDoRow.laid w) ∧ sizedMet enc Tryz.prog Tryz.f3 (OpenSpec.ofChange Rows.eventsDoSpec) false w args) (Rows.eventsDoSpec.post enc Tryz.prog Tryz.f3 false true false false) := by
  refine returnsInHanded_of_change_and (C := Tryz.checked) (X := fun w _ => laidMetH Tryz.prog Rows.eventsDoRow.laid w) (fun _ _ _ hh h => h.of_heap hh) ownK started (by kernel_rfl) Tryz.func3
    (ChangeSpec.witness_shaped (enc := enc) (C := Tryz.checked) (os := os) (X := fun w _ => laidMetH Tryz.prog Rows.eventsDoRow.laid w) false (World.doorLaid Tryz.prog 400 os) #[.int .i64 0, .slice none 0 0] 8 rfl (World.shaped_of_RefB (by kernel_rfl) (by kernel_rfl)) (by kernel_rfl) (by kernel_rfl) (by kernel_rfl) (laidMetH_of_parts3 (fuel := 8) (laidMet_of_run' 8 (by kernel_rfl) (by kernel_rfl)) (by kernel_rfl) (by kernel_rfl))) ?_
  intro W base args ds gs before hval0 hW _ hwt hL _
  have hval : ∀ (j : Nat) t v, Tryz.f3.params[j]? = some t → args[j]? = some v → Value.okWide Tryz.prog W .any base t v := hval0
  have hW' := hW
  obtain ⟨p, q, hA0, hV, rfl, hfz, hnd⟩ := hW
  have hA : DataW.TrodAll enc Tryz.prog W 0 (fun _ => true) true Tryz.f3.params.toList args.toList ds p := hA0
  rw [Tryz.params3] at hA hval
  have hall := hA
  obtain ⟨v0, vs0, d0, ds0, p0, q0, hargs0, rfl, rfl, h0, r0⟩ := trodAll_cons hA
  obtain ⟨v1, vs1, d1, ds1, p1, q1, hargs1, rfl, rfl, h1, r1⟩ := trodAll_cons r0
  obtain ⟨rfl, rfl, rfl⟩ := trodAll_nil r1
  obtain rfl : args = #[v0, v1] := by cases args; simp_all
  obtain ⟨rfl, rfl⟩ := trodVars_none hV
  have hT : Tab W := tabl_at (l := Rows.eventsDoRow.laid) 2 (by kernel_rfl) (by kernel_rfl) hL
  simp only [List.append_nil] at hW'
  obtain ⟨x0, rfl, rfl, rfl, w0⟩ := open_int Tryz.underlying3 (hval 0 _ v0 rfl rfl) h0
  have z1 : (d1.weights Tryz.prog 22).all (· ≤ reachBytes) = true := by
    rw [List.all_eq_true] at hwt ⊢
    exact fun m hm => hwt m (by show _ ∈ DataW.weightsEach _ _ _; simp [Tryz.params3, DataW.weightsEach]; first | exact hm | exact .inl hm | exact .inr hm | exact .inr (.inl hm) | exact .inr (.inr hm) | exact .inr (.inr (.inl hm)) | exact .inr (.inr (.inr hm)) | exact .inr (.inr (.inr (.inl hm))) | exact .inr (.inr (.inr (.inr hm))) | exact .inr (.inr (.inr (.inr (.inl hm)))) | exact .inr (.inr (.inr (.inr (.inr hm)))))
  obtain ⟨sa1, sn1, sc1, rfl⟩ := okWide_slice Tryz.underlying22 (hval 1 _ v1 rfl rfl)
  obtain ⟨x1, w1, o1⟩ := arr_of_trodW (P := Tryz.prog) (encS := encFE) (OK := (ActE W)) (OKW := ActW) Tryz.underlying22 (show Tryz.prog.cellsOf 37 = 6 by kernel_rfl) (by omega) encFE_len evact_dec h1 ⟨sa1, sn1, sc1, rfl⟩
  replace o1 := fun x hx => (⟨(o1 x hx).1, (o1 x hx).2 z1⟩ : _ ∧ _)
  clear hA0 hval0
  refine (ev_Do hT x0 ⟨w1, o1⟩ (R := fun v w' => v = .bool true ∧ Fr [] W w') (fun w' hf => ⟨rfl, hf⟩)).calls.mono fun e W' he => ?_
  obtain ⟨v, rfl, rfl, hf⟩ := he
  have bel := hf.below
  exact ⟨_, rfl, _, _, _, [], _, [], hW', trodAll_mk1 (shut_bool Tryz.underlying4 _), trodAll_below laidOutK (by kernel_rfl) hall bel, rfl, bel.frame _, fun h => by cases h⟩

theorem EventsDo : Rows.EventsDoSaid :=
  OpenClaim.holds_of_wide 3 Tryz.f3 rfl rfl rfl rfl rfl rfl rfl ⟨rfl, rfl, rfl, rfl, rfl⟩ rfl rfl rfl rfl rfl (by kernel_rfl) Tryz.func3 (by kernel_rfl)
    (of_decide_eq_true (by kernel_rfl)) (by unfold Func.isWrapper; first | (rw [if_pos (by decide +kernel)]; kernel_rfl) | (rw [if_neg (by decide +kernel)]; exact ⟨rfl, rfl⟩))
    (fun os started H enc _ => eventsDo_lifted os started H enc)

theorem EventsDoCard : Rows.EventsDoCardSaid :=
  Claim7.holds_tied_plain_at .later [] Rows.eventsDoCard.laidKinds true Rows.eventsDoCard.stood.harness true
    EventsDo (fun _ h => by cases h) (by kernel_rfl) (fun _ h => by cases h) eventsDo_row_tie rfl ⟨rfl, rfl⟩ (by kernel_rfl) rfl
    (fun f fn hf hfn => by
      obtain rfl : f = 3 := Option.some.inj ((show Tryz.prog.funcNamed "tumbrel/tumbrellaw17.EventsDo" = some 3 by kernel_rfl).symm.trans hf) |>.symm
      obtain rfl : fn = Tryz.f3 := (Option.some.inj (Tryz.func3.symm.trans hfn)).symm
      exact ⟨by kernel_rfl, fun j t ht => by
        have hm : t ∈ Tryz.f3.params.toList := by simpa using Array.mem_of_getElem? ht
        have hall : (Tryz.f3.params.toList.all fun u => !Tryz.prog.wantsStandIn u) = true := by kernel_rfl
        exact (show Tryz.prog.wantsStandIn t = false by simpa using List.all_eq_true.1 hall t hm)⟩)
    (by kernel_rfl)
#print axioms EventsDoCard

end Go.Proofs.YtmefbneoljpbgaaGreatDoor
