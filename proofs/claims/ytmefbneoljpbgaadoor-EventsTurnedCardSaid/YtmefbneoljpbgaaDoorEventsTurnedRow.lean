
/- For every acts, place and number tumbrellaw17.EventsTurned returns true, and the arguments read behind the call as before. No condition but that the table of the powers of ten is laid, which the card ties to the program's text. -/
import Derived.Test.YtmefbneoljpbgaaDoorRows
import Derived.Test.YtmefbneoljpbgaaDoorGc
import Derived.Test.YtmefbneoljpbgaaDoorEvRowK
import Derived.Test.YtmefbneoljpbgaaDoorEvTurned
import Derived.ProofKit
import Derived.LaidMore
import Derived.Stop.Joined
import Derived.SevenTiedAt
import Derived.Test.YtmefbneoljpbgaaDoorCards
import Derived.Test.YtmefbneoljpbgaaDoorTie
namespace Go.Proofs.YtmefbneoljpbgaaDoor
open Go.Den
open Go.ChangeShapes Go.WideShapes Go.ChangeAt Go.RowKit
set_option linter.unusedVariables false

set_option maxRecDepth 100000 in
theorem eventsTurned_lifted (os : Os) (started : os.Started) (H : Type) (enc : TypeId × Value → H) :
    ReturnsInHanded {} Tryd.checked os 4 .any (fun w args => (Rows.eventsTurnedSpec.pre enc Tryd.prog Tryd.f4 [] false w args ∧ laidMetH Tryd.prog Rows.eventsTurnedRow.laid w) ∧ sizedMet enc Tryd.prog Tryd.f4 (OpenSpec.ofChange Rows.eventsTurnedSpec) false w args) (Rows.eventsTurnedSpec.post enc Tryd.prog Tryd.f4 false true false false) := by
  refine returnsInHanded_of_change_and (C := Tryd.checked) (X := fun w _ => laidMetH Tryd.prog Rows.eventsTurnedRow.laid w) (fun _ _ _ hh h => h.of_heap hh) ownK started (by kernel_rfl) Tryd.func4
    (ChangeSpec.witness_shaped (enc := enc) (C := Tryd.checked) (os := os) (X := fun w _ => laidMetH Tryd.prog Rows.eventsTurnedRow.laid w) false (World.doorLaid Tryd.prog 400 os) #[.slice none 0 0, .int .i64 0, .int .u32 0] 8 rfl (World.shaped_of_RefB (by kernel_rfl) (by kernel_rfl)) (by kernel_rfl) (by kernel_rfl) (by kernel_rfl) (laidMetH_of_parts3 (fuel := 8) (laidMet_of_run' 8 (by kernel_rfl) (by kernel_rfl)) (by kernel_rfl) (by kernel_rfl))) ?_
  intro W base args ds gs before hval0 hW _ hwt hL _
  have hval : ∀ (j : Nat) t v, Tryd.f4.params[j]? = some t → args[j]? = some v → Value.okWide Tryd.prog W .any base t v := hval0
  have hW' := hW
  obtain ⟨p, q, hA0, hV, rfl, hfz, hnd⟩ := hW
  have hA : DataW.TrodAll enc Tryd.prog W 0 (fun _ => true) true Tryd.f4.params.toList args.toList ds p := hA0
  rw [Tryd.params4] at hA hval
  have hall := hA
  obtain ⟨v0, vs0, d0, ds0, p0, q0, hargs0, rfl, rfl, h0, r0⟩ := trodAll_cons hA
  obtain ⟨v1, vs1, d1, ds1, p1, q1, hargs1, rfl, rfl, h1, r1⟩ := trodAll_cons r0
  obtain ⟨v2, vs2, d2, ds2, p2, q2, hargs2, rfl, rfl, h2, r2⟩ := trodAll_cons r1
  obtain ⟨rfl, rfl, rfl⟩ := trodAll_nil r2
  obtain rfl : args = #[v0, v1, v2] := by cases args; simp_all
  obtain ⟨rfl, rfl⟩ := trodVars_none hV
  have hT : Tab W := tabl_at (l := Rows.eventsTurnedRow.laid) 2 (by kernel_rfl) (by kernel_rfl) hL
  simp only [List.append_nil] at hW'
  have z0 : (d0.weights Tryd.prog 22).all (· ≤ reachBytes) = true := by
    rw [List.all_eq_true] at hwt ⊢
    exact fun m hm => hwt m (by show _ ∈ DataW.weightsEach _ _ _; simp [Tryd.params4, DataW.weightsEach]; first | exact hm | exact .inl hm | exact .inr hm | exact .inr (.inl hm) | exact .inr (.inr hm) | exact .inr (.inr (.inl hm)) | exact .inr (.inr (.inr hm)))
  obtain ⟨sa0, sn0, sc0, rfl⟩ := okWide_slice Tryd.underlying22 (hval 0 _ v0 rfl rfl)
  obtain ⟨fu0, hf0⟩ := h0
  obtain ⟨u0, eu0, k0, x0, w0, o0, m0⟩ := arr_of_cells (P := Tryd.prog) (encS := encAx) (OK := Go.Ev.OkA) Tryd.underlying22 (show Tryd.prog.cellsOf 37 = 8 by kernel_rfl) (by omega) encAx_len op_dec hf0
  obtain rfl : Value.slice sa0 sn0 sc0 = u0 := by have := eu0; simp [Value.cells] at this; exact this
  replace m0 : x0.length * 72 ≤ reachBytes := by have := m0 z0; rwa [show Tryd.prog.bytesOf 37 = 72 by kernel_rfl] at this
  obtain ⟨x1, rfl, rfl, rfl, w1⟩ := open_int Tryd.underlying3 (hval 1 _ v1 rfl rfl) h1
  obtain ⟨x2, rfl, rfl, rfl, w2⟩ := open_int Tryd.underlying53 (hval 2 _ v2 rfl rfl) h2
  clear hA0 hval0
  refine (ev_Turned hT w0 o0 (by have := m0; unfold reachBytes at this; omega) x1 (i64_bounds w1) x2 (R := fun v w' => v = .bool true ∧ Fr [] W w') (fun w' hf => ⟨rfl, hf⟩)).calls.mono fun e W' he => ?_
  obtain ⟨v, rfl, rfl, hf⟩ := he
  have bel := hf.below
  exact ⟨_, rfl, _, _, _, [], _, [], hW', trodAll_mk1 (shut_bool Tryd.underlying4 _), trodAll_below laidOutK (by kernel_rfl) hall bel, rfl, bel.frame _, fun h => by cases h⟩

theorem EventsTurned : Rows.EventsTurnedSaid :=
  OpenClaim.holds_of_wide 4 Tryd.f4 rfl rfl rfl rfl rfl rfl rfl ⟨rfl, rfl, rfl, rfl, rfl⟩ rfl rfl rfl rfl rfl (by kernel_rfl) Tryd.func4 (by kernel_rfl)
    (of_decide_eq_true (by kernel_rfl)) (by unfold Func.isWrapper; first | (rw [if_pos (by decide +kernel)]; kernel_rfl) | (rw [if_neg (by decide +kernel)]; exact ⟨rfl, rfl⟩))
    (fun os started H enc _ => eventsTurned_lifted os started H enc)

theorem EventsTurnedCard : Rows.EventsTurnedCardSaid :=
  Claim7.holds_tied_plain_at .later [] Rows.eventsTurnedCard.laidKinds true Rows.eventsTurnedCard.stood.harness true
    EventsTurned (fun _ h => by cases h) (by kernel_rfl) (fun _ h => by cases h) eventsTurned_row_tie rfl ⟨rfl, rfl⟩ (by kernel_rfl) rfl
    (fun f fn hf hfn => by
      obtain rfl : f = 4 := Option.some.inj ((show Tryd.prog.funcNamed "tumbrel/tumbrellaw17.EventsTurned" = some 4 by kernel_rfl).symm.trans hf) |>.symm
      obtain rfl : fn = Tryd.f4 := (Option.some.inj (Tryd.func4.symm.trans hfn)).symm
      exact ⟨by kernel_rfl, fun j t ht => by
        have hm : t ∈ Tryd.f4.params.toList := by simpa using Array.mem_of_getElem? ht
        have hall : (Tryd.f4.params.toList.all fun u => !Tryd.prog.wantsStandIn u) = true := by kernel_rfl
        exact (show Tryd.prog.wantsStandIn t = false by simpa using List.all_eq_true.1 hall t hm)⟩)
    (by kernel_rfl)
#print axioms EventsTurnedCard

end Go.Proofs.YtmefbneoljpbgaaDoor
