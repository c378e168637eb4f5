
/- The law of events, act by act, walked. Conditions: the table of the powers of ten is laid; numbers are of 64 bits; sizes. -/
import Derived.Test.YtmefbneoljpbgaaGreatDoorEvDoP
import Derived.Test.YtmefbneoljpbgaaGreatDoorMb
namespace Go.Proofs.YtmefbneoljpbgaaGreatDoor
open Go.Den Go.Disk Go.Vint Go.Crc Go.Frame Go.Rec Go.Ev Go.Nm
set_option linter.unusedSimpArgs false
set_option linter.unusedVariables false
set_option maxRecDepth 20000
set_option maxHeartbeats 4000000
attribute [local congr] BND_cg COND_cg GEF_cg
attribute [local irreducible] capl slicea load1 loadn iaddr iaddra faddr storev newslice binv lookv mupd mdel mlenv mentry mestore slicev slicev3 slices indexs indexav textv rangev nexts clearv shiftv eqaggv convi buildv pickv lens lenl unv nilchk extractv partn JOIN
section
variable {w : World} {R : Value → World → Prop}
structure EActs (w : World) (lv : Value) (xs : List FE) : Prop where
  arr : Arr encFE 6 w lv xs
  ins : ∀ x ∈ xs, ActE w x ∧ ActW x
theorem EActs.fr {w w' : World} {lv : Value} {xs : List FE} (h : EActs w lv xs) (f : Fr [] w w') : EActs w' lv xs := ⟨h.arr.fr f (by simp), fun x hx => ⟨(h.ins x hx).1.fr f, (h.ins x hx).2⟩⟩
theorem ev_large {lv : Value} {xs : List FE} (ha : EActs w lv xs) (hR : ∀ w', Fr [] w w' → R (.bool (largeE xs)) w') : CALL PR F_tumbrellaw17_large [lv] w R := by
  refine C_tumbrellaw17_large ?_
  unfold M_tumbrellaw17_large
  unfold largeE at hR
  have hlen := ha.arr.len
  by_cases h40 : 40 < xs.length
  · (repeat refine gg ?_)
    have := hR w (Fr.refl _ _)
    rwa [decide_eq_true h40, Bool.true_or] at this
  rw [decide_eq_false h40, Bool.false_or] at hR
  (repeat refine gg ?_)
  refine loop_up 0 xs.length (fun i w' => Fr [] w w' ∧ (xs.take i).any largeEx = false) ⟨Fr.refl _ _, rfl⟩ (by omega) ?_
  rintro i w1 - hi ⟨f1, e⟩ J m hJ
  by_cases hlt : i < xs.length
  · have hx := List.getElem?_eq_getElem hlt
    have hmem := List.getElem_mem hlt
    generalize xs[i] = x at hx hmem
    have ha1 := ha.fr f1
    obtain ⟨hk, hw⟩ := ha1.ins _ hmem
    obtain ⟨bb, oo, ia, ln, _, _⟩ := ha1.arr.spot hx rfl .i64
    (repeat refine gg ?_)
    refine box_step (n := 6) (zs := [_, _, _, _, _, _]) (vs := encFE x) rfl rfl (encFE_one x) (by simp [encFE]) fun w3 b3 f3 z3 => ?_
    have hw1 := hw.ops
    have hw2 := hw.tails
    have hw3 := hw.bytes
    (repeat refine gg ?_)
    refine ev_own (hk.ops.fr f3 (by simp)) hw1 fun w4 v4 G4 s4 g4 f4 => ?_
    have b4 := f4.some (by simp) b3
    have fin : Fr [] w w4 := (f1.trans' f3).trans' f4
    have hany : xs.any largeEx = true ↔ largeEx x = true ∨ xs.any largeEx = true := ⟨.inr, fun h => h.elim (fun h => List.any_eq_true.2 ⟨_, hmem, h⟩) id⟩
    have yes : largeEx x = true → R (.bool true) w4 := fun h => by
      have := hR w4 fin
      rwa [hany.2 (.inl h)] at this
    have no : largeEx x = false → J (.int .i64 ((i + 1 : Nat) : Int)) w4 ∧ m (.int .i64 ((i + 1 : Nat) : Int)) w4 < m (.int .i64 (i : Int)) w1 := fun h => hJ w4 hlt ⟨fin, by rw [List.take_add_one, hx, List.any_append, e]; simp [h]⟩
    (repeat refine gg ?_)
    refine ev_Large s4.arr 20 (by omega) ?_
    unfold largeEx at yes no
    cases hla : largeA x.ops 20 with
    | true =>
      (repeat refine gg ?_)
      exact yes (by simp [hla])
    | false =>
      have l1 := hk.tails.len
      have l2 := hk.bytes.len
      have e1 : binv .int .add (.int .i64 (x.tails.length : Int)) (.int .i64 (x.bytes.length : Int)) = some (.int .i64 ((x.tails.length + x.bytes.length : Nat) : Int)) := addn_ (by omega)
      by_cases q1 : 300 < x.tails.length + x.bytes.length
      · (repeat refine gg ?_)
        exact yes (by simp [q1])
      · (repeat refine gg ?_)
        exact no (by simp [hla, q1])
  · (repeat refine gg ?_)
    have := hR w1 f1
    rw [List.take_of_length_le (by omega)] at e
    rwa [e] at this
theorem ev_Do (hT : Tab w) {lv : Value} {xs : List FE} (room : Int) (ha : EActs w lv xs) (hR : ∀ w', Fr [] w w' → R (.bool true) w') : CALL PR F_tumbrellaw17_EventsDo [.int .i64 room, lv] w R := by
  refine C_tumbrellaw17_EventsDo ?_
  unfold M_tumbrellaw17_EventsDo
  refine ev_awake hT fun w1 f1 => ?_
  (repeat refine gg ?_)
  refine dk_New room (fun hno => ?_) fun hroom w3 d h3 => ?_
  · (repeat refine gg ?_)
    refine rf_New room (fun _ => ?_) fun hroom _ _ _ => by omega
    (repeat refine gg ?_)
    exact hR _ f1
  (repeat refine gg ?_)
  refine rf_New room (fun hno => by omega) fun _ w4 r h4 => ?_
  (repeat (first | refine BND_step ptr_nil ?_ | refine gg ?_))
  have hA : At w1 [] (stars [rfHP r (empty room), diskHP d (empty room)]) w4 := by
    obtain ⟨F, g1, g2, g3⟩ := h4
    exact (At.wrap h3).add g3 g1 (fun b hb => by have := g2 b hb; simpa using this)
  have hA4 := At.base f1 hA
  refine ev_large (ha.fr hA4.frame) fun w5 f5 => ?_
  have hA5 := hA4.fr0 f5
  cases hlg : largeE xs with
  | true =>
    (repeat refine gg ?_)
    exact hR _ hA5.frame
  | false =>
  obtain ⟨hlen, hsm⟩ := largeE_no hlg
  have hlx := ha.arr.len
  unfold ptrTo
  (repeat refine gg ?_)
  refine loop_up 0 xs.length (fun i w' => ∃ s, At w [] (stars [rfHP r s, diskHP d s]) w' ∧ Inv s ∧ s.dirs.length ≤ i + 1 ∧ s.files.length ≤ i) ⟨empty room, hA5, inv_empty hroom, by simp [empty], by simp [empty]⟩ (by omega) ?_
  clear hA hA4 hA5 h3 h4
  rintro i w5 - hi ⟨s, h5, inv, hd1, hd2⟩ J m hJ
  by_cases hlt : i < xs.length
  · have hx := List.getElem?_eq_getElem hlt
    have hmem := List.getElem_mem hlt
    generalize xs[i] = x at hx hmem
    have hk := (ha.ins _ hmem).1
    obtain ⟨ho, hb⟩ := hsm _ hmem
    have hg := hk.g
    obtain ⟨bb, oo, ia, ln, _, _⟩ := (ha.fr h5.frame).arr.spot hx rfl .i64
    (repeat refine gg ?_)
    refine box_step (n := 6) (zs := [_, _, _, _, _, _]) (vs := encFE x) rfl rfl (encFE_one x) (by simp [encFE]) fun w7 b7 f7 z7 => ?_
    obtain ⟨T, b7⟩ : ∃ T, blk w7 (hsz w5) = some (.cells (encFE x).toArray T (0, 0)) := ⟨_, b7⟩
    have inv' := inv_actE inv x hk.n
    have hmore := more_actE s x inv.wf.ne
    obtain ⟨Q, hQ⟩ : ∃ Q : Value → Value → World → Prop, Q = fun a b w' => a = .int .i64 (actE s x).2 ∧ b = .int .i64 (actE s x).2 ∧ At w [] (stars [rfHP r (actE s x).1, diskHP d (actE s x).1]) w' := ⟨_, rfl⟩
    have mk : ∀ s' e', actE s x = (s', e') → ∀ w', At w [] (stars [rfHP r s', diskHP d s']) w' → Q (.int .i64 e') (.int .i64 e') w' := fun s' e' he w' hw => by rw [hQ]; simp only [he]; exact ⟨trivial, trivial, hw⟩
    have b7d : blk w7.drew (hsz w5) = some (.cells (encFE x).toArray T (0, 0)) := b7
    obtain ⟨B, zB, hTB, f07, hB, fB, back⟩ := pairE hT h5 f7
    obtain ⟨Bd, zBd, hTBd, f07d, hBd, fBd, backd⟩ := pairE hT h5 (f7.trans' (Fr.drew [] w7))
    have keep : ∀ {A w1 w2}, Fr A w1 w2 → (∀ b ∈ A, b < hsz w5) → blk w1 (hsz w5) = some (.cells (encFE x).toArray T (0, 0)) → blk w2 (hsz w5) = some (.cells (encFE x).toArray T (0, 0)) := fun f hA hb => f.some (fun h => by have := hA _ h; omega) hb
    (repeat refine gg ?_)
    refine join_v2 Q (fun K hK => ?_) ?_
    · by_cases q0 : x.dn = 0
      · (repeat refine gg ?_)
        refine ⟨fun _ w' => blk w' (hsz w5) = some (.cells (encFE x).toArray T (0, 0)), b7d, ?_⟩
        (repeat refine gg ?_)
        refine ev_Begin hTBd zBd inv (by omega) x.g hg fun w8 z8 => ?_
        obtain ⟨f8, A, zA, hA, _, fin⟩ := backd _ _ z8
        refine ⟨keep z8.frame hBd b7d, ?_⟩
        refine rv_Begin zA inv (by omega) (by omega) x.g hg fun w9 z9 => ?_
        exact hK _ _ _ (mk _ _ (by unfold actE; rw [if_pos q0]) _ (fin _ _ z9))
      (repeat refine gg ?_)
      refine join_v2 Q (fun K1 hK1 => ?_) hK
      by_cases q1 : x.dn = 1
      · (repeat refine gg ?_)
        refine ⟨fun _ w' => blk w' (hsz w5) = some (.cells (encFE x).toArray T (0, 0)), b7d, b7d, ?_⟩
        (repeat refine gg ?_)
        refine ev_Append hTBd zBd inv (by omega) (by omega) x.g hg (hk.ops.fr f07d (by simp)) hk.ok (by omega) fun w8 z8 => ?_
        obtain ⟨f8, A, zA, hA, _, fin⟩ := backd _ _ z8
        have b8 := keep z8.frame hBd b7d
        refine ⟨b8, b8, ?_⟩
        refine ev_own (hk.ops.fr f8 (by simp)) (by omega) fun w9 v9 G9 s9 g9 f9 => ?_
        refine ⟨f9.some (by simp) b8, ?_⟩
        refine rv_Append (zA.fr0 f9) inv (by omega) (by omega) x.g hg s9.arr hk.ok (by omega) fun w10 z10 => ?_
        exact hK1 _ _ _ (mk _ _ (by unfold actE; rw [if_neg q0, if_pos q1]) _ (fin _ _ z10))
      (repeat refine gg ?_)
      refine join_v2 Q (fun K2 hK2 => ?_) hK1
      by_cases q2 : x.dn = 2
      · (repeat refine gg ?_)
        refine ⟨fun _ w' => blk w' (hsz w5) = some (.cells (encFE x).toArray T (0, 0)), b7d, ?_⟩
        (repeat refine gg ?_)
        refine ev_Sync hTBd zBd inv (by omega) x.g hg fun w8 z8 => ?_
        obtain ⟨f8, A, zA, hA, _, fin⟩ := backd _ _ z8
        refine ⟨keep z8.frame hBd b7d, ?_⟩
        refine rv_Sync zA inv (by omega) x.g hg fun w9 z9 => ?_
        exact hK2 _ _ _ (mk _ _ (by unfold actE; rw [if_neg q0, if_neg q1, if_pos q2]) _ (fin _ _ z9))
      (repeat refine gg ?_)
      refine join_v2 Q (fun K3 hK3 => ?_) hK2
      by_cases q3 : x.dn = 3
      · (repeat refine gg ?_)
        refine ev_Load hTB zB inv (by omega) x.g hg fun w8 v8 e8 G8 E8 s8 se8 gG8 gE8 f8 => ?_
        have b8 := f8.some (by simp) b7
        obtain ⟨_, A, zA, hA, _, fin⟩ := back _ _ (zB.fr0 f8)
        obtain ⟨ll1, ll2⟩ := evLoad_len inv x.g
        (repeat refine gg ?_)
        refine rv_Load zA inv (by omega) x.g hg fun w9 v9 e9 G9 E9 s9 se9 gG9 gE9 f9 => ?_
        (repeat refine gg ?_)
        refine ev_own (s8.fr f9 (by simp)).arr (by omega) fun w10 v10 G10 s10 g10 f10 => ?_
        (repeat refine gg ?_)
        refine ev_same s10.arr (s9.fr f10 (by simp)).arr (by omega) fun w11 f11 => ?_
        rw [decide_eq_true rfl]
        (repeat refine gg ?_)
        refine r5_Ints (((se8.fr f9 (by simp)).fr f10 (by simp)).fr f11 (by simp)).arr ((se9.fr f10 (by simp)).fr f11 (by simp)).arr (by omega) fun w12 f12 => ?_
        rw [decide_eq_true rfl]
        (repeat refine gg ?_)
        exact hK3 _ _ _ (mk _ _ (by unfold actE; rw [if_neg q0, if_neg q1, if_neg q2, if_pos q3]) _ (fin _ _ (zA.fr0 (((f9.trans' f10).trans' f11).trans' f12))))
      (repeat refine gg ?_)
      refine join_v2 Q (fun K4 hK4 => ?_) hK3
      by_cases q4 : x.dn = 4
      · (repeat refine gg ?_)
        refine ⟨fun _ w' => blk w' (hsz w5) = some (.cells (encFE x).toArray T (0, 0)), b7d, b7d, ?_⟩
        (repeat refine gg ?_)
        refine ev_Cut hTBd zBd inv (by omega) x.g hg x.n fun w8 z8 => ?_
        obtain ⟨f8, A, zA, hA, _, fin⟩ := backd _ _ z8
        have b8 := keep z8.frame hBd b7d
        refine ⟨b8, b8, ?_⟩
        refine rv_Cut zA inv (by omega) x.g hg x.n fun w9 z9 => ?_
        exact hK4 _ _ _ (mk _ _ (by unfold actE; rw [if_neg q0, if_neg q1, if_neg q2, if_neg q3, if_pos q4]) _ (fin _ _ z9))
      (repeat refine gg ?_)
      refine join_v2 Q (fun K5 hK5 => ?_) hK4
      by_cases q5 : x.dn = 5
      · (repeat refine gg ?_)
        refine dk_Fuse zB x.n fun w8 z8 => ?_
        obtain ⟨f8, A, zA, hA, _, fin⟩ := back _ _ z8
        have b8 := keep z8.frame hB b7
        (repeat refine gg ?_)
        refine rf_Fuse zA x.n fun w9 z9 => ?_
        exact hK5 _ _ _ (mk _ _ (by unfold actE; rw [if_neg q0, if_neg q1, if_neg q2, if_neg q3, if_neg q4, if_pos q5]) _ (fin _ _ z9))
      (repeat refine gg ?_)
      refine join_v2 Q (fun K6 hK6 => ?_) hK5
      by_cases q6 : x.dn = 6
      · (repeat refine gg ?_)
        refine dk_Crash zB inv.wf (by omega) x.n (tails := x.tails) (fun w' f => hk.tails.fr (fB _ f) (by simp)) fun w8 z8 => ?_
        obtain ⟨f8, A, zA, hA, fA, fin⟩ := back _ _ z8
        have b8 := keep z8.frame hB b7
        (repeat refine gg ?_)
        refine rf_Crash zA inv.wf (by omega) x.n (tails := x.tails) (fun w' f => hk.tails.fr (fA _ f) (by simp)) fun w9 z9 => ?_
        exact hK6 _ _ _ (mk _ _ (by unfold actE; rw [if_neg q0, if_neg q1, if_neg q2, if_neg q3, if_neg q4, if_neg q5, if_pos q6]) _ (fin _ _ z9))
      (repeat refine gg ?_)
      refine ⟨fun _ w' => blk w' (hsz w5) = some (.cells (encFE x).toArray T (0, 0)), b7d, ?_⟩
      (repeat refine gg ?_)
      refine dk_Append zBd inv.wf (by omega) (by omega) _ (by omega) hk.bytes.len (fun w' f => (hk.bytes.fr (fBd _ f) (by simp)).src encB_len (by omega)) fun w8 z8 => ?_
      obtain ⟨f8, A, zA, hA, fA, fin⟩ := backd _ _ z8
      refine ⟨keep z8.frame hBd b7d, ?_⟩
      refine rf_Append zA inv.wf (by omega) (by omega) _ (by omega) hk.bytes.len (fun w' f => (hk.bytes.fr (fA _ f) (by simp)).src encB_len (by omega)) fun w9 z9 => ?_
      exact hK6 _ _ _ (mk _ _ (by unfold actE; rw [if_neg q0, if_neg q1, if_neg q2, if_neg q3, if_neg q4, if_neg q5, if_neg q6]) _ (fin _ _ z9))
    rw [hQ]
    rintro _ _ w8 ⟨rfl, rfl, h8⟩
    clear back backd zB zBd hTB hTBd mk hQ keep
    obtain ⟨⟨s', e'⟩, hact⟩ : ∃ y, actE s x = y := ⟨_, rfl⟩
    simp only [hact] at h8 inv' hmore ⊢
    have hwf := inv'.wf
    have h60 := hwf.many _ (now_mem hwf)
    have h10 := h8.fr0 (Fr.drew [] w8)
    obtain ⟨Az, hz, _⟩ := At.zoom h10 0 rfl
    obtain ⟨fv, dv, fc, es, hs⟩ := rf_open hz
    obtain ⟨T2, c⟩ := hs.cell (i := 0) rfl
    unfold rfC at c
    refine ⟨fun _ w' => blk w' r = some (.cells [.int .i64 s'.room, fv, dv, .int .i64 s'.burn, .bool s'.gone].toArray T2 (0, 0)), c, ?_⟩
    (repeat refine gg ?_)
    obtain ⟨A11, z11, _⟩ := At.zoom h10 1 rfl
    refine dk_Names z11 hwf (by omega) fun w11 v11 G11 _ s11 g11 f11 => ?_
    have c11 := f11.some (by simp) c
    refine ⟨c11, ?_⟩
    have h12 := h10.fr0 f11
    obtain ⟨A12, z12, _⟩ := At.zoom h12 0 rfl
    (repeat refine gg ?_)
    refine rf_Names z12 hwf (by omega) fun w12 v12 G12 _ s12 g12 f12 => ?_
    have c12 := f12.some (by simp) c11
    refine ⟨c12, ?_⟩
    have h13 := h12.fr0 f12
    (repeat refine gg ?_)
    refine r6_Same (s11.fr f12 (by simp)).arr s12.arr (by simp; omega) fun w13 f13 => ?_
    rw [decide_eq_true rfl]
    have c13 := f13.some (by simp) c12
    refine ⟨c13, ?_⟩
    have h14 := h13.fr0 f13
    obtain ⟨A14, z14, _⟩ := At.zoom h14 1 rfl
    (repeat refine gg ?_)
    refine dk_Held z14 hwf (by omega) (by omega) fun w14 f14 => ?_
    have c14 := f14.some (by simp) c13
    refine ⟨c14, ?_⟩
    have h15 := h14.fr0 f14
    obtain ⟨A15, z15, _⟩ := At.zoom h15 0 rfl
    (repeat refine gg ?_)
    refine rf_Held z15 hwf (by omega) (by omega) fun w15 f15 => ?_
    have c15 := f15.some (by simp) c14
    refine ⟨c15, ?_⟩
    have h16 := h15.fr0 f15
    (repeat refine gg ?_)
    obtain ⟨A16, z16, _⟩ := At.zoom h16 1 rfl
    refine dk_Down z16 ?_
    refine ⟨c15, ?_⟩
    have eb : binv .bool .neq (.bool s'.gone) (.bool s'.gone) = some (.bool false) := (binv_neb _ _).trans (by simp)
    (repeat refine gg ?_)
    exact hJ _ hlt ⟨s', h16, inv', by omega, by omega⟩
  · (repeat refine gg ?_)
    exact hR _ h5.frame
end
end Go.Proofs.YtmefbneoljpbgaaGreatDoor
