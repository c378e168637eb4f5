
/- For every number, acts and tails tumbrellaw17.EventsSure returns true, and the arguments read behind the call as before. No condition but that the table of the powers of ten is laid, which the card ties to the program's text. -/
import Derived.Test.YtmefbneoljpbgaaGreatDoorRows
import Derived.Test.YtmefbneoljpbgaaGreatDoorGc
import Derived.Test.YtmefbneoljpbgaaGreatDoorEvRowK
import Derived.Test.YtmefbneoljpbgaaGreatDoorEvSureK
import Derived.ProofKit
import Derived.LaidMore
import Derived.Stop.Joined
import Derived.SevenTiedAt
import Derived.Test.YtmefbneoljpbgaaGreatDoorCards
import Derived.Test.YtmefbneoljpbgaaGreatDoorTie
namespace Go.Proofs.YtmefbneoljpbgaaGreatDoor
open Go.Den
open Go.ChangeShapes Go.WideShapes Go.ChangeAt Go.RowKit
set_option linter.unusedVariables false

set_option maxRecDepth 100000 in
theorem eventsSure_lifted (os : Os) (started : os.Started) (H : Type) (enc : TypeId × Value → H) :
    ReturnsInHanded {} Tryz.checked os 4 .any (fun w args => (Rows.eventsSureSpec.pre enc Tryz.prog Tryz.f4 [] false w args ∧ laidMetH Tryz.prog Rows.eventsSureRow.laid w) ∧ sizedMet enc Tryz.prog Tryz.f4 (OpenSpec.ofChange Rows.eventsSureSpec) false w args) (Rows.eventsSureSpec.post enc Tryz.prog Tryz.f4 false true false false) := by
  refine returnsInHanded_of_change_and (C := Tryz.checked) (X := fun w _ => laidMetH Tryz.prog Rows.eventsSureRow.laid w) (fun _ _ _ hh h => h.of_heap hh) ownK started (by kernel_rfl) Tryz.func4
    (ChangeSpec.witness_shaped (enc := enc) (C := Tryz.checked) (os := os) (X := fun w _ => laidMetH Tryz.prog Rows.eventsSureRow.laid w) false (World.doorLaid Tryz.prog 400 os) #[.int .u64 0, .slice none 0 0, .slice none 0 0, .slice none 0 0, .slice none 0 0] 8 rfl (World.shaped_of_RefB (by kernel_rfl) (by kernel_rfl)) (by kernel_rfl) (by kernel_rfl) (by kernel_rfl) (laidMetH_of_parts3 (fuel := 8) (laidMet_of_run' 8 (by kernel_rfl) (by kernel_rfl)) (by kernel_rfl) (by kernel_rfl))) ?_
  intro W base args ds gs before hval0 hW _ hwt hL _
  have hval : ∀ (j : Nat) t v, Tryz.f4.params[j]? = some t → args[j]? = some v → Value.okWide Tryz.prog W .any base t v := hval0
  have hW' := hW
  obtain ⟨p, q, hA0, hV, rfl, hfz, hnd⟩ := hW
  have hA : DataW.TrodAll enc Tryz.prog W 0 (fun _ => true) true Tryz.f4.params.toList args.toList ds p := hA0
  rw [Tryz.params4] at hA hval
  have hall := hA
  obtain ⟨v0, vs0, d0, ds0, p0, q0, hargs0, rfl, rfl, h0, r0⟩ := trodAll_cons hA
  obtain ⟨v1, vs1, d1, ds1, p1, q1, hargs1, rfl, rfl, h1, r1⟩ := trodAll_cons r0
  obtain ⟨v2, vs2, d2, ds2, p2, q2, hargs2, rfl, rfl, h2, r2⟩ := trodAll_cons r1
  obtain ⟨v3, vs3, d3, ds3, p3, q3, hargs3, rfl, rfl, h3, r3⟩ := trodAll_cons r2
  obtain ⟨v4, vs4, d4, ds4, p4, q4, hargs4, rfl, rfl, h4, r4⟩ := trodAll_cons r3
  obtain ⟨rfl, rfl, rfl⟩ := trodAll_nil r4
  obtain rfl : args = #[v0, v1, v2, v3, v4] := by cases args; simp_all
  obtain ⟨rfl, rfl⟩ := trodVars_none hV
  have hT : Tab W := tabl_at (l := Rows.eventsSureRow.laid) 2 (by kernel_rfl) (by kernel_rfl) hL
  simp only [List.append_nil] at hW'
  obtain ⟨x0, rfl, rfl, rfl, w0⟩ := open_int Tryz.underlying32 (hval 0 _ v0 rfl rfl) h0
  have z1 : (d1.weights Tryz.prog 33).all (· ≤ reachBytes) = true := by
    rw [List.all_eq_true] at hwt ⊢
    exact fun m hm => hwt m (by show _ ∈ DataW.weightsEach _ _ _; simp [Tryz.params4, DataW.weightsEach]; first | exact hm | exact .inl hm | exact .inr hm | exact .inr (.inl hm) | exact .inr (.inr hm) | exact .inr (.inr (.inl hm)) | exact .inr (.inr (.inr hm)) | exact .inr (.inr (.inr (.inl hm))) | exact .inr (.inr (.inr (.inr hm))) | exact .inr (.inr (.inr (.inr (.inl hm)))) | exact .inr (.inr (.inr (.inr (.inr hm)))))
  obtain ⟨sa1, sn1, sc1, rfl⟩ := okWide_slice Tryz.underlying33 (hval 1 _ v1 rfl rfl)
  obtain ⟨fu1, hf1⟩ := h1
  obtain ⟨u1, eu1, k1, x1, w1, o1, m1⟩ := arr_of_cells (P := Tryz.prog) (encS := encAx) (OK := Go.Ev.OkA) Tryz.underlying33 (show Tryz.prog.cellsOf 68 = 8 by kernel_rfl) (by omega) encAx_len op_dec hf1
  obtain rfl : Value.slice sa1 sn1 sc1 = u1 := by have := eu1; simp [Value.cells] at this; exact this
  replace m1 : x1.length * 72 ≤ reachBytes := by have := m1 z1; rwa [show Tryz.prog.bytesOf 68 = 72 by kernel_rfl] at this
  have z2 : (d2.weights Tryz.prog 33).all (· ≤ reachBytes) = true := by
    rw [List.all_eq_true] at hwt ⊢
    exact fun m hm => hwt m (by show _ ∈ DataW.weightsEach _ _ _; simp [Tryz.params4, DataW.weightsEach]; first | exact hm | exact .inl hm | exact .inr hm | exact .inr (.inl hm) | exact .inr (.inr hm) | exact .inr (.inr (.inl hm)) | exact .inr (.inr (.inr hm)) | exact .inr (.inr (.inr (.inl hm))) | exact .inr (.inr (.inr (.inr hm))) | exact .inr (.inr (.inr (.inr (.inl hm)))) | exact .inr (.inr (.inr (.inr (.inr hm)))))
  obtain ⟨sa2, sn2, sc2, rfl⟩ := okWide_slice Tryz.underlying33 (hval 2 _ v2 rfl rfl)
  obtain ⟨fu2, hf2⟩ := h2
  obtain ⟨u2, eu2, k2, x2, w2, o2, m2⟩ := arr_of_cells (P := Tryz.prog) (encS := encAx) (OK := Go.Ev.OkA) Tryz.underlying33 (show Tryz.prog.cellsOf 68 = 8 by kernel_rfl) (by omega) encAx_len op_dec hf2
  obtain rfl : Value.slice sa2 sn2 sc2 = u2 := by have := eu2; simp [Value.cells] at this; exact this
  replace m2 : x2.length * 72 ≤ reachBytes := by have := m2 z2; rwa [show Tryz.prog.bytesOf 68 = 72 by kernel_rfl] at this
  have z3 : (d3.weights Tryz.prog 33).all (· ≤ reachBytes) = true := by
    rw [List.all_eq_true] at hwt ⊢
    exact fun m hm => hwt m (by show _ ∈ DataW.weightsEach _ _ _; simp [Tryz.params4, DataW.weightsEach]; first | exact hm | exact .inl hm | exact .inr hm | exact .inr (.inl hm) | exact .inr (.inr hm) | exact .inr (.inr (.inl hm)) | exact .inr (.inr (.inr hm)) | exact .inr (.inr (.inr (.inl hm))) | exact .inr (.inr (.inr (.inr hm))) | exact .inr (.inr (.inr (.inr (.inl hm)))) | exact .inr (.inr (.inr (.inr (.inr hm)))))
  obtain ⟨sa3, sn3, sc3, rfl⟩ := okWide_slice Tryz.underlying33 (hval 3 _ v3 rfl rfl)
  obtain ⟨fu3, hf3⟩ := h3
  obtain ⟨u3, eu3, k3, x3, w3, o3, m3⟩ := arr_of_cells (P := Tryz.prog) (encS := encAx) (OK := Go.Ev.OkA) Tryz.underlying33 (show Tryz.prog.cellsOf 68 = 8 by kernel_rfl) (by omega) encAx_len op_dec hf3
  obtain rfl : Value.slice sa3 sn3 sc3 = u3 := by have := eu3; simp [Value.cells] at this; exact this
  replace m3 : x3.length * 72 ≤ reachBytes := by have := m3 z3; rwa [show Tryz.prog.bytesOf 68 = 72 by kernel_rfl] at this
  have z4 : (d4.weights Tryz.prog 34).all (· ≤ reachBytes) = true := by
    rw [List.all_eq_true] at hwt ⊢
    exact fun m hm => hwt m (by show _ ∈ DataW.weightsEach _ _ _; simp [Tryz.params4, DataW.weightsEach]; first | exact hm | exact .inl hm | exact .inr hm | exact .inr (.inl hm) | exact .inr (.inr hm) | exact .inr (.inr (.inl hm)) | exact .inr (.inr (.inr hm)) | exact .inr (.inr (.inr (.inl hm))) | exact .inr (.inr (.inr (.inr hm))) | exact .inr (.inr (.inr (.inr (.inl hm)))) | exact .inr (.inr (.inr (.inr (.inr hm)))))
  obtain ⟨sa4, sn4, sc4, rfl⟩ := okWide_slice Tryz.underlying34 (hval 4 _ v4 rfl rfl)
  obtain ⟨fu4, hf4⟩ := h4
  obtain ⟨u4, eu4, k4, x4, w4, o4, m4⟩ := arr_of_cells (P := Tryz.prog) (encS := encI) (OK := (fun _ => True)) Tryz.underlying34 (show Tryz.prog.cellsOf 3 = 1 by kernel_rfl) (by omega) encIz_len int_dec hf4
  obtain rfl : Value.slice sa4 sn4 sc4 = u4 := by have := eu4; simp [Value.cells] at this; exact this
  replace m4 : x4.length * 8 ≤ reachBytes := by have := m4 z4; rwa [show Tryz.prog.bytesOf 3 = 8 by kernel_rfl] at this
  clear hA0 hval0
  refine (ev_SureZ hT x0 w0 w1 w2 w3 w4 o1 o2 o3 m1 m2 m3 (R := fun v w' => v = .bool true ∧ Fr [] W w') (fun w' hf => ⟨rfl, hf⟩)).calls.mono fun e W' he => ?_
  obtain ⟨v, rfl, rfl, hf⟩ := he
  have bel := hf.below
  exact ⟨_, rfl, _, _, _, [], _, [], hW', trodAll_mk1 (shut_bool Tryz.underlying4 _), trodAll_below laidOutK (by kernel_rfl) hall bel, rfl, bel.frame _, fun h => by cases h⟩

theorem EventsSure : Rows.EventsSureSaid :=
  OpenClaim.holds_of_wide 4 Tryz.f4 rfl rfl rfl rfl rfl rfl rfl ⟨rfl, rfl, rfl, rfl, rfl⟩ rfl rfl rfl rfl rfl (by kernel_rfl) Tryz.func4 (by kernel_rfl)
    (of_decide_eq_true (by kernel_rfl)) (by unfold Func.isWrapper; first | (rw [if_pos (by decide +kernel)]; kernel_rfl) | (rw [if_neg (by decide +kernel)]; exact ⟨rfl, rfl⟩))
    (fun os started H enc _ => eventsSure_lifted os started H enc)

theorem EventsSureCard : Rows.EventsSureCardSaid :=
  Claim7.holds_tied_plain_at .later [] Rows.eventsSureCard.laidKinds true Rows.eventsSureCard.stood.harness true
    EventsSure (fun _ h => by cases h) (by kernel_rfl) (fun _ h => by cases h) eventsSure_row_tie rfl ⟨rfl, rfl⟩ (by kernel_rfl) rfl
    (fun f fn hf hfn => by
      obtain rfl : f = 4 := Option.some.inj ((show Tryz.prog.funcNamed "tumbrel/tumbrellaw17.EventsSure" = some 4 by kernel_rfl).symm.trans hf) |>.symm
      obtain rfl : fn = Tryz.f4 := (Option.some.inj (Tryz.func4.symm.trans hfn)).symm
      exact ⟨by kernel_rfl, fun j t ht => by
        have hm : t ∈ Tryz.f4.params.toList := by simpa using Array.mem_of_getElem? ht
        have hall : (Tryz.f4.params.toList.all fun u => !Tryz.prog.wantsStandIn u) = true := by kernel_rfl
        exact (show Tryz.prog.wantsStandIn t = false by simpa using List.all_eq_true.1 hall t hm)⟩)
    (by kernel_rfl)
#print axioms EventsSureCard

end Go.Proofs.YtmefbneoljpbgaaGreatDoor
