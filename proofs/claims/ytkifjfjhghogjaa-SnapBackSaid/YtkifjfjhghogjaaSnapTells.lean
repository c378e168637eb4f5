/- SnapTells, SnapSegs: the laws' walks. No condition but that numbers are those of their kinds. -/
import Derived.Test.YtkifjfjhghogjaaSnapSegs2
import Derived.Test.YtkifjfjhghogjaaMa
namespace Go.Proofs.Ytkifjfjhghogjaa
open Go.Den
set_option linter.unusedSimpArgs false
set_option linter.unusedVariables false
set_option maxRecDepth 20000
set_option maxHeartbeats 4000000
attribute [local congr] BND_cg COND_cg GEF_cg
attribute [local irreducible] load1 loadn iaddr iaddra faddr storev newslice binv lookv mupd mdel mlenv mentry mestore slicev slicev3 slices indexs indexav textv rangev nexts clearv shiftv eqaggv convi buildv pickv lens lenl unv nilchk extractv partn JOIN
def svL (s : SnapL) : List LRec := if okS s then saveL s else []
def svE (s : SnapL) : Int := if okS s then 0 else 1
open Classical in
noncomputable def ldS (ls : List LRec) : SnapL := if refOk ls then gotL ls else emptyS
open Classical in
noncomputable def ldE (ls : List LRec) : Int := if refOk ls then 0 else 2
theorem RecsR.nil (w : World) : RecsR w (.slice none 0 0) [] := ⟨[], ⟨none, 0, rfl, .inl rfl⟩, rfl, by simp, ⟨none, 0, 0, rfl, Nat.le_refl _⟩⟩
theorem SnV.empty (w : World) : SnV w emptyS (.slice none 0 0) (.slice none 0 0) (.slice none 0 0) := ⟨⟨none, 0, rfl, .inl rfl⟩, ⟨none, 0, rfl, .inl rfl⟩, ⟨none, 0, rfl, .inl rfl⟩⟩
theorem svL_len (s : SnapL) : (svL s).length ≤ s.items.length + s.dead.length + s.curs.length + 2 := by
  unfold svL; split
  · rw [saveL_len]; omega
  · simp
theorem ldS_len (ls : List LRec) : (ldS ls).items.length ≤ ls.length ∧ (ldS ls).dead.length ≤ ls.length ∧ (ldS ls).curs.length ≤ ls.length := by
  unfold ldS; split
  · have h := midL_len ls
    refine ⟨?_, ?_, ?_⟩
    · have := List.length_filter_le (fun l : LRec => decide (l.k = 14)) (midL ls); simp only [gotL, gath, gathI, List.length_map]; omega
    · have := List.length_filter_le (fun l : LRec => decide (l.k = 15)) (midL ls); simp only [gotL, gath, gathD, List.length_map]; omega
    · have := List.length_filter_le (fun l : LRec => decide (l.k = 16)) (midL ls); simp only [gotL, gath, gathC, List.length_map]; omega
  · simp [emptyS]
section
variable {w : World} {R : Value → World → Prop}
theorem sn_Save2 {s : SnapL} {iv dv cv : Value} (h : SnV w s iv dv cv) (hi : s.items.length < 100000) (hd : s.dead.length < 100000) (hc : s.curs.length < 100000) (hR : ∀ w' v, Fr [] w w' → RecsR w' v (svL s) → R (.tuple #[v, .int .i64 (svE s)]) w') :
    CALL PR F_snap_Save [.agg (snC s iv dv cv).toArray] w R := by
  unfold svL svE at hR
  refine sn_Save h hi hd hc (fun w' f e => ?_) (fun w' v f e hr => ?_)
  · rw [e] at hR; exact hR w' _ f (RecsR.nil w')
  · rw [e] at hR; exact hR w' v f hr
theorem r13_Save2 {s : SnapL} {iv dv cv : Value} (h : SnV w s iv dv cv) (hi : s.items.length < 100000) (hd : s.dead.length < 100000) (hc : s.curs.length < 100000) (hR : ∀ w' v, Fr [] w w' → RecsR w' v (svL s) → R (.tuple #[v, .int .i64 (svE s)]) w') :
    CALL PR F_tumbrelref13_Save [.agg (snC s iv dv cv).toArray] w R := by
  unfold svL svE at hR
  refine r13_Save h hi hd hc (fun w' f e => ?_) (fun w' v f e hr => ?_)
  · rw [e] at hR; exact hR w' _ f (RecsR.nil w')
  · rw [e] at hR; exact hR w' v f hr
theorem sn_Load2 {a : Value} {ls : List LRec} (h : RecsR w a ls) (hn : ls.length < 100000) (hs : ∀ l ∈ ls, l.ns.length < 1000000) (hu : NsU ls) (hR : ∀ w' iv dv cv, Fr [] w w' → SnV w' (ldS ls) iv dv cv → R (.tuple #[.agg (snC (ldS ls) iv dv cv).toArray, .int .i64 (ldE ls)]) w') :
    CALL PR F_snap_Load [a] w R := by
  unfold ldS ldE at hR
  refine sn_Load h hn hs hu (fun w' f hno => ?_) (fun w' s iv dv cv f hl sv => ?_)
  · have : ¬ refOk ls := fun h => hno _ (refOk_of hu h)
    rw [if_neg this, if_neg this] at hR
    exact hR w' _ _ _ f (SnV.empty w')
  · obtain ⟨h1, h2⟩ := refOk_conv hl
    rw [if_pos h1, if_pos h1] at hR
    rw [h2] at sv ⊢
    exact hR w' _ _ _ f sv
theorem r13_Load2 {a : Value} {ls : List LRec} (h : RecsR w a ls) (hn : ls.length < 100000) (hu : NsU ls) (hR : ∀ w' iv dv cv, Fr [] w w' → SnV w' (ldS ls) iv dv cv → R (.tuple #[.agg (snC (ldS ls) iv dv cv).toArray, .int .i64 (ldE ls)]) w') :
    CALL PR F_tumbrelref13_Load [a] w R := by
  unfold ldS ldE at hR
  refine r13_Load h hn hu (fun w' f hno => ?_) (fun w' iv dv cv f hl sv => ?_)
  · rw [if_neg hno, if_neg hno] at hR
    exact hR w' _ _ _ f (SnV.empty w')
  · rw [if_pos hl, if_pos hl] at hR
    exact hR w' _ _ _ f sv

/-! ## awake -/
def s45 : SnapL := { emptyS with seg := 4, at_ := 5 }
def sBad : SnapL := { emptyS with items := [⟨0, -1, 0, 0, 0, 0, 0, 0, 0, 0⟩] }
theorem ldS_s45 : ldS (saveL s45) = s45 ∧ ldE (saveL s45) = 0 := by
  have h : refOk (saveL s45) := by
    refine ⟨⟨by decide, by decide, by decide⟩, by decide, by decide, fun i h1 h2 => ?_, by decide⟩
    have : (saveL s45).length = 2 := by decide
    omega
  unfold ldS ldE
  rw [if_pos h, if_pos h]
  exact ⟨by decide, rfl⟩
theorem ldS_nil : ldS [] = emptyS ∧ ldE [] = 2 := by
  have h : ¬ refOk [] := fun h => by have := h.1.1; simp at this
  unfold ldS ldE
  rw [if_neg h, if_neg h]
  exact ⟨rfl, rfl⟩
theorem nsU_s45 : NsU (saveL s45) := by
  intro l hl n hn
  have : saveL s45 = [⟨13, [0, 0, 0, 0, 0, 4, 5], ⟨#[]⟩⟩, ⟨17, [1], ⟨#[]⟩⟩] := by decide
  rw [this] at hl
  simp only [List.mem_cons, List.not_mem_nil, or_false] at hl
  rcases hl with rfl | rfl <;> simp at hn
  · rcases hn with rfl | rfl | rfl <;> exact ⟨by omega, by omega⟩
  · subst hn; exact ⟨by omega, by omega⟩
theorem small_s45 : ∀ l ∈ saveL s45, l.ns.length < 1000000 := by
  intro l hl
  have : saveL s45 = [⟨13, [0, 0, 0, 0, 0, 4, 5], ⟨#[]⟩⟩, ⟨17, [1], ⟨#[]⟩⟩] := by decide
  rw [this] at hl
  simp only [List.mem_cons, List.not_mem_nil, or_false] at hl
  rcases hl with rfl | rfl <;> simp
theorem lw_awake (hR : ∀ w', Fr [] w w' → R (.bool true) w') : CALL PR F_tumbrellaw13_awake [] w R := by
  refine C_tumbrellaw13_awake ?_
  unfold M_tumbrellaw13_awake
  (repeat (first | (apply BND_build (snC s45 (.slice none 0 0) (.slice none 0 0) (.slice none 0 0)); exact rfl) | refine stp ?_ | (apply BND_inc; omega) | (apply BND_dec; omega) | refine BND_step (rfl : some _ = some _) ?_ | (apply cyes; first | assumption | omega) | (apply cno; first | assumption | omega) | refine (COND_true _ _).2 ?_ | refine (COND_false _ _).2 ?_ | simp (disch := first | assumption | omega) only [gs1, gs2, decide_true, decide_false, eq_self, beq_self_eq_true, Bool.not_true, Bool.not_false]))
  refine sn_Save2 (s := s45) ⟨⟨none, 0, rfl, .inl rfl⟩, ⟨none, 0, rfl, .inl rfl⟩, ⟨none, 0, rfl, .inl rfl⟩⟩ (by decide) (by decide) (by decide) fun w1 v1 f1 h1 => ?_
  have e1 : svL s45 = saveL s45 := by decide
  have e2 : svE s45 = 0 := by decide
  rw [e1] at h1
  rw [e2]
  (repeat (first | refine stp ?_ | (apply BND_inc; omega) | (apply BND_dec; omega) | refine BND_step (rfl : some _ = some _) ?_ | (apply cyes; first | assumption | omega) | (apply cno; first | assumption | omega) | refine (COND_true _ _).2 ?_ | refine (COND_false _ _).2 ?_ | simp (disch := first | assumption | omega) only [gs1, gs2, decide_true, decide_false, eq_self, beq_self_eq_true, Bool.not_true, Bool.not_false]))
  refine sn_Load2 h1 (by decide) small_s45 nsU_s45 fun w2 iv dv cv f2 sv2 => ?_
  rw [ldS_s45.1] at sv2 ⊢
  rw [ldS_s45.2]
  (repeat (first | refine stp ?_ | (apply BND_inc; omega) | (apply BND_dec; omega) | refine BND_step (rfl : some _ = some _) ?_ | (apply cyes; first | assumption | omega) | (apply cno; first | assumption | omega) | refine (COND_true _ _).2 ?_ | refine (COND_false _ _).2 ?_ | simp (disch := first | assumption | omega) only [gs1, gs2, decide_true, decide_false, eq_self, beq_self_eq_true, Bool.not_true, Bool.not_false]))
  refine box_step rfl (vs := snC s45 iv dv cv) rfl (snC_one sv2) (by simp [snC, stC]) fun w4 b4 f4 z4 => ?_
  refine sn_Load2 (RecsR.nil w4) (by decide) (by simp) (fun l hl => by simp at hl) fun w5 iv5 dv5 cv5 f5 sv5 => ?_
  rw [ldS_nil.1] at sv5 ⊢
  rw [ldS_nil.2]
  (repeat (first | refine stp ?_ | (apply BND_inc; omega) | (apply BND_dec; omega) | refine BND_step (rfl : some _ = some _) ?_ | (apply cyes; first | assumption | omega) | (apply cno; first | assumption | omega) | refine (COND_true _ _).2 ?_ | refine (COND_false _ _).2 ?_ | simp (disch := first | assumption | omega) only [gs1, gs2, decide_true, decide_false, eq_self, beq_self_eq_true, Bool.not_true, Bool.not_false]))
  refine box_step rfl (vs := snC emptyS iv5 dv5 cv5) rfl (snC_one sv5) (by simp [snC, stC]) fun w7 b7 f7 z7 => ?_
  (repeat (first | (apply BND_build (encI ⟨0, -1, 0, 0, 0, 0, 0, 0, 0, 0⟩); exact rfl) | refine stp ?_ | (apply BND_inc; omega) | (apply BND_dec; omega) | refine BND_step (rfl : some _ = some _) ?_ | (apply cyes; first | assumption | omega) | (apply cno; first | assumption | omega) | refine (COND_true _ _).2 ?_ | refine (COND_false _ _).2 ?_ | simp (disch := first | assumption | omega) only [gs1, gs2, decide_true, decide_false, eq_self, beq_self_eq_true, Bool.not_true, Bool.not_false]))
  refine newone_step (enc := encI) (x := ⟨0, -1, 0, 0, 0, 0, 0, 0, 0, 0⟩) encI_len rfl fun t8 w8 s8 f8 z8 => ?_
  obtain ⟨a8, c8, e8⟩ := s8.arr.le
  have sv8 : SnV w8 sBad t8 (.slice none 0 0) (.slice none 0 0) := ⟨s8.arr, ⟨none, 0, rfl, .inl rfl⟩, ⟨none, 0, rfl, .inl rfl⟩⟩
  subst e8
  (repeat (first | (apply BND_build ([.int .u64 0, .int .u64 0, .int .u64 0, .int .u64 0, .int .u64 0, .slice a8 1 c8, .slice none 0 0, .slice none 0 0]); exact rfl) | (apply BND_build (snC sBad (.slice a8 1 c8) (.slice none 0 0) (.slice none 0 0)); exact rfl) | refine stp ?_ | (apply BND_inc; omega) | (apply BND_dec; omega) | refine BND_step (rfl : some _ = some _) ?_ | (apply cyes; first | assumption | omega) | (apply cno; first | assumption | omega) | refine (COND_true _ _).2 ?_ | refine (COND_false _ _).2 ?_ | simp (disch := first | assumption | omega) only [gs1, gs2, decide_true, decide_false, eq_self, beq_self_eq_true, Bool.not_true, Bool.not_false]))
  refine sn_Save2 (s := sBad) sv8 (by decide) (by decide) (by decide) fun w9 v9 f9 h9 => ?_
  have e9 : svE sBad = 1 := by decide
  rw [e9]
  (repeat (first | refine stp ?_ | (apply BND_inc; omega) | (apply BND_dec; omega) | refine BND_step (rfl : some _ = some _) ?_ | (apply cyes; first | assumption | omega) | (apply cno; first | assumption | omega) | refine (COND_true _ _).2 ?_ | refine (COND_false _ _).2 ?_ | simp (disch := first | assumption | omega) only [gs1, gs2, decide_true, decide_false, eq_self, beq_self_eq_true, Bool.not_true, Bool.not_false]))
  have r9 := ((((((h1.fr0 f2).fr0 f4).fr0 f5).fr0 f7).fr0 f8).fr0 f9)
  refine lw_owns r9 (by decide) fun v10 w10 h10 f10 => ?_
  (repeat (first | refine stp ?_ | (apply BND_inc; omega) | (apply BND_dec; omega) | refine BND_step (rfl : some _ = some _) ?_ | (apply cyes; first | assumption | omega) | (apply cno; first | assumption | omega) | refine (COND_true _ _).2 ?_ | refine (COND_false _ _).2 ?_ | simp (disch := first | assumption | omega) only [gs1, gs2, decide_true, decide_false, eq_self, beq_self_eq_true, Bool.not_true, Bool.not_false]))
  refine newparts_step (enc := encU) encU_len (val := fun x : Int => Value.int .u64 x) (fun _ => rfl) [0, 0, 0, 0, 0, 4, 5] rfl rfl fun n1 w11 s11 f11 z11 => ?_
  obtain ⟨r1, er1, ek1, et1, _, eb1⟩ := mkRec s11 13 ⟨#[]⟩
  (repeat (first | refine BND_step eb1 ?_ | refine stp ?_ | (apply BND_inc; omega) | (apply BND_dec; omega) | refine BND_step (rfl : some _ = some _) ?_ | (apply cyes; first | assumption | omega) | (apply cno; first | assumption | omega) | refine (COND_true _ _).2 ?_ | refine (COND_false _ _).2 ?_ | simp (disch := first | assumption | omega) only [gs1, gs2, decide_true, decide_false, eq_self, beq_self_eq_true, Bool.not_true, Bool.not_false]))
  refine newparts_step (enc := encU) encU_len (val := fun x : Int => Value.int .u64 x) (fun _ => rfl) [1] rfl rfl fun n2 w12 s12 f12 z12 => ?_
  obtain ⟨r2, er2, ek2, et2, _, eb2⟩ := mkRec s12 17 ⟨#[]⟩
  (repeat (first | refine BND_step eb2 ?_ | refine stp ?_ | (apply BND_inc; omega) | (apply BND_dec; omega) | refine BND_step (rfl : some _ = some _) ?_ | (apply cyes; first | assumption | omega) | (apply cno; first | assumption | omega) | refine (COND_true _ _).2 ?_ | refine (COND_false _ _).2 ?_ | simp (disch := first | assumption | omega) only [gs1, gs2, decide_true, decide_false, eq_self, beq_self_eq_true, Bool.not_true, Bool.not_false]))
  refine newparts_step (enc := encR) encR_len (val := fun x : Rec => Value.agg (encR x).toArray) (fun _ => rfl) [r1, r2] rfl rfl fun v13 w13 s13 f13 z13 => ?_
  have h13 : RecsR w13 v13 (saveL s45) := by
    have : saveL s45 = [⟨13, [0, 0, 0, 0, 0, 4, 5], ⟨#[]⟩⟩, ⟨17, [1], ⟨#[]⟩⟩] := by decide
    rw [this]
    refine ⟨[r1, r2], s13.arr, rfl, fun i r l hr hl => ?_, s13.capd⟩
    match i with
    | 0 =>
      simp at hr hl; subst hr; subst hl
      exact ⟨ek1, et1, by rw [er1]; exact (s11.fr (f12.trans' f13) (by simp)).arr⟩
    | 1 =>
      simp at hr hl; subst hr; subst hl
      exact ⟨ek2, et2, by rw [er2]; exact (s12.fr f13 (by simp)).arr⟩
    | i + 2 => simp at hr
  refine r5_Same (((h10.fr0 f11).fr0 f12).fr0 f13) h13 (by decide) (saveL_small _) fun w14 f14 => ?_
  have f4e : Fr [] w4 w14 := ((((((((f5.trans' f7).trans' f8).trans' f9).trans' f10).trans' f11).trans' f12).trans' f13).trans' f14)
  have b4' := f4e.some (by simp) b4
  have q4 : s45.seg = 4 := rfl
  have q5 : s45.at_ = 5 := rfl
  (repeat (first | (apply BND_ld b4'; exact rfl) | (apply BND_build ([.int .u64 3, .int .u64 0, .int .i64 0]); exact rfl) | (apply BND_build ([.int .u64 1, .int .u64 0, .int .i64 0]); exact rfl) | (apply BND_build (encI ⟨0, 0, 0, 0, 0, 0, 0, 3, 0, 0⟩); exact rfl) | (apply BND_build (encI ⟨0, 0, 0, 0, 0, 0, 0, 1, 0, 0⟩); exact rfl) | refine stp ?_ | (apply BND_inc; omega) | (apply BND_dec; omega) | refine BND_step (rfl : some _ = some _) ?_ | (apply cyes; first | assumption | omega) | (apply cno; first | assumption | omega) | refine (COND_true _ _).2 ?_ | refine (COND_false _ _).2 ?_ | simp (disch := first | assumption | omega) only [gs1, gs2, decide_true, decide_false, eq_self, beq_self_eq_true, Bool.not_true, Bool.not_false]))
  refine newparts_step (enc := encI) encI_len (val := fun x : Itm => Value.agg (encI x).toArray) (fun _ => rfl) [⟨0, 0, 0, 0, 0, 0, 0, 3, 0, 0⟩, ⟨0, 0, 0, 0, 0, 0, 0, 1, 0, 0⟩] rfl rfl fun v15 w15 s15 f15 z15 => ?_
  (repeat (first | refine stp ?_ | (apply BND_inc; omega) | (apply BND_dec; omega) | refine BND_step (rfl : some _ = some _) ?_ | (apply cyes; first | assumption | omega) | (apply cno; first | assumption | omega) | refine (COND_true _ _).2 ?_ | refine (COND_false _ _).2 ?_ | simp (disch := first | assumption | omega) only [gs1, gs2, decide_true, decide_false, eq_self, beq_self_eq_true, Bool.not_true, Bool.not_false]))
  refine sn_Segs s15.arr (by simp) fun w16 v16 ys h16 hr hm _ _ f16 => ?_
  have hys : ys = [1, 3] := rise_same hr (by simp) fun x => by rw [hm]; simp [or_comm]
  subst hys
  (repeat (first | refine stp ?_ | (apply BND_inc; omega) | (apply BND_dec; omega) | refine BND_step (rfl : some _ = some _) ?_ | (apply cyes; first | assumption | omega) | (apply cno; first | assumption | omega) | refine (COND_true _ _).2 ?_ | refine (COND_false _ _).2 ?_ | simp (disch := first | assumption | omega) only [gs1, gs2, decide_true, decide_false, eq_self, beq_self_eq_true, Bool.not_true, Bool.not_false]))
  refine newparts_step (enc := encU) encU_len (val := fun x : Int => Value.int .u64 x) (fun _ => rfl) [1, 3] rfl rfl fun v17 w17 s17 f17 z17 => ?_
  (repeat (first | refine stp ?_ | (apply BND_inc; omega) | (apply BND_dec; omega) | refine BND_step (rfl : some _ = some _) ?_ | (apply cyes; first | assumption | omega) | (apply cno; first | assumption | omega) | refine (COND_true _ _).2 ?_ | refine (COND_false _ _).2 ?_ | simp (disch := first | assumption | omega) only [gs1, gs2, decide_true, decide_false, eq_self, beq_self_eq_true, Bool.not_true, Bool.not_false]))
  refine r2_Same (h16.fr f17 (by simp)) s17.arr (by simp) fun w18 f18 => ?_
  (repeat (first | refine stp ?_ | (apply BND_inc; omega) | (apply BND_dec; omega) | refine BND_step (rfl : some _ = some _) ?_ | (apply cyes; first | assumption | omega) | (apply cno; first | assumption | omega) | refine (COND_true _ _).2 ?_ | refine (COND_false _ _).2 ?_ | simp (disch := first | assumption | omega) only [gs1, gs2, decide_true, decide_false, eq_self, beq_self_eq_true, Bool.not_true, Bool.not_false]))
  exact hR _ (((((((f1.trans' f2).trans' f4).trans' f4e).trans' f15).trans' f16).trans' f17).trans' f18)

/-! ## SnapSegs -/
theorem snap_segs {a : Value} {xs : List Itm} {g : Int} (h : Arr encI 10 w a xs) (hR : ∀ w', Fr [] w w' → R (.bool true) w') : CALL PR F_tumbrellaw13_SnapSegs [a, .int .u64 g] w R := by
  refine C_tumbrellaw13_SnapSegs ?_
  unfold M_tumbrellaw13_SnapSegs
  refine lw_awake fun w1 f1 => ?_
  have h1 := h.fr f1 (by simp)
  (repeat (first | refine BND_step h1.len ?_ | refine stp ?_ | (apply BND_inc; omega) | (apply BND_dec; omega) | refine BND_step (rfl : some _ = some _) ?_ | (apply cyes; first | assumption | omega) | (apply cno; first | assumption | omega) | refine (COND_true _ _).2 ?_ | refine (COND_false _ _).2 ?_ | simp (disch := first | assumption | omega) only [gs1, gs2, decide_true, decide_false, eq_self, beq_self_eq_true, Bool.not_true, Bool.not_false]))
  by_cases h220 : 220 < xs.length
  · (repeat (first | refine stp ?_ | (apply BND_inc; omega) | (apply BND_dec; omega) | refine BND_step (rfl : some _ = some _) ?_ | (apply cyes; first | assumption | omega) | (apply cno; first | assumption | omega) | refine (COND_true _ _).2 ?_ | refine (COND_false _ _).2 ?_ | simp (disch := first | assumption | omega) only [gs1, gs2, decide_true, decide_false, eq_self, beq_self_eq_true, Bool.not_true, Bool.not_false]))
    exact hR _ f1
  (repeat (first | refine stp ?_ | (apply BND_inc; omega) | (apply BND_dec; omega) | refine BND_step (rfl : some _ = some _) ?_ | (apply cyes; first | assumption | omega) | (apply cno; first | assumption | omega) | refine (COND_true _ _).2 ?_ | refine (COND_false _ _).2 ?_ | simp (disch := first | assumption | omega) only [gs1, gs2, decide_true, decide_false, eq_self, beq_self_eq_true, Bool.not_true, Bool.not_false]))
  refine sn_Segs h1 (by omega) fun w2 v2 ys s2 hr hm hl hl0 f2 => ?_
  have f02 := f1.trans' f2
  have h2 := h.fr f02 (by simp)
  (repeat (first | refine BND_step h2.len ?_ | refine stp ?_ | (apply BND_inc; omega) | (apply BND_dec; omega) | refine BND_step (rfl : some _ = some _) ?_ | (apply cyes; first | assumption | omega) | (apply cno; first | assumption | omega) | refine (COND_true _ _).2 ?_ | refine (COND_false _ _).2 ?_ | simp (disch := first | assumption | omega) only [gs1, gs2, decide_true, decide_false, eq_self, beq_self_eq_true, Bool.not_true, Bool.not_false]))
  refine loop_up2 0 xs.length (fun o i w' => ∃ B, o = .bool B ∧ (B = true ↔ g ∈ (xs.take i).map Itm.seg) ∧ Fr [] w2 w') ⟨false, rfl, by simp, Fr.refl _ _⟩ (by omega) ?_
  rintro _ i w3 - hi ⟨B, rfl, hB, f3⟩ J m hJ
  by_cases hlt : i < xs.length
  · have hx := List.getElem?_eq_getElem hlt
    generalize xs[i] = x at hx
    obtain ⟨b, oo, ia, ln, _, _⟩ := (h2.fr f3 (by simp)).spot hx rfl .i64
    (repeat (first | refine BND_step ia ?_ | refine BND_step ln ?_ | refine stp ?_ | (apply BND_inc; omega) | (apply BND_dec; omega) | refine BND_step (rfl : some _ = some _) ?_ | (apply cyes; first | assumption | omega) | (apply cno; first | assumption | omega) | refine (COND_true _ _).2 ?_ | refine (COND_false _ _).2 ?_ | simp (disch := first | assumption | omega) only [gs1, gs2, decide_true, decide_false, eq_self, beq_self_eq_true, Bool.not_true, Bool.not_false]))
    refine box_step rfl rfl (encI_one x) (by simp [encI]) fun w4 b4 f4 z4 => ?_
    obtain ⟨TB, b4⟩ : ∃ T, blk w4 (hsz w3) = some (.cells (encI x).toArray T (0, 0)) := ⟨_, b4⟩
    cases B with
    | true =>
      (repeat (first | (apply BND_ld b4; exact rfl) | refine stp ?_ | (apply BND_inc; omega) | (apply BND_dec; omega) | refine BND_step (rfl : some _ = some _) ?_ | (apply cyes; first | assumption | omega) | (apply cno; first | assumption | omega) | refine (COND_true _ _).2 ?_ | refine (COND_false _ _).2 ?_ | simp (disch := first | assumption | omega) only [gs1, gs2, decide_true, decide_false, eq_self, beq_self_eq_true, Bool.not_true, Bool.not_false]))
      exact hJ _ _ hlt ⟨true, rfl, by rw [map_take_mem hx]; exact ⟨fun _ => .inr (hB.1 rfl), fun _ => rfl⟩, f3.trans' f4⟩
    | false =>
      (repeat (first | (apply BND_ld b4; exact rfl) | refine stp ?_ | (apply BND_inc; omega) | (apply BND_dec; omega) | refine BND_step (rfl : some _ = some _) ?_ | (apply cyes; first | assumption | omega) | (apply cno; first | assumption | omega) | refine (COND_true _ _).2 ?_ | refine (COND_false _ _).2 ?_ | simp (disch := first | assumption | omega) only [gs1, gs2, decide_true, decide_false, eq_self, beq_self_eq_true, Bool.not_true, Bool.not_false]))
      refine hJ _ _ hlt ⟨_, rfl, ?_, f3.trans' f4⟩
      rw [map_take_mem hx, decide_eq_true_eq]
      exact ⟨fun h => .inl h.symm, fun h => h.elim (fun h => h.symm) fun h => absurd (hB.2 h) (by simp)⟩
  rw [List.take_of_length_le (by omega)] at hB
  (repeat (first | refine BND_step s2.len ?_ | refine stp ?_ | (apply BND_inc; omega) | (apply BND_dec; omega) | refine BND_step (rfl : some _ = some _) ?_ | (apply cyes; first | assumption | omega) | (apply cno; first | assumption | omega) | refine (COND_true _ _).2 ?_ | refine (COND_false _ _).2 ?_ | simp (disch := first | assumption | omega) only [gs1, gs2, decide_true, decide_false, eq_self, beq_self_eq_true, Bool.not_true, Bool.not_false]))
  refine loop_up2 0 ys.length (fun o i w' => ∃ C, o = .bool C ∧ (C = true ↔ g ∈ ys.take i) ∧ Fr [] w2 w') ⟨false, rfl, by simp, f3⟩ (by omega) ?_
  rintro _ i w4 - hi2 ⟨C, rfl, hC, f4⟩ J m hJ
  have s4 := s2.fr f4 (by simp)
  have h4 := h2.fr f4 (by simp)
  by_cases hlt2 : i < ys.length
  · have hx := List.getElem?_eq_getElem hlt2
    generalize hyi : ys[i] = y at hx
    obtain ⟨b, oo, ia, _, _, l4⟩ := s4.spot hx rfl .i64
    have l4' := l4 (w' := w4) rfl (j := 0) rfl
    have htk : g ∈ ys.take (i + 1) ↔ g ∈ ys.take i ∨ g = y := by rw [List.take_add_one, hx]; simp
    have done1 : C = true → ∀ w', Fr [] w2 w' → (∃ C', (Value.bool true) = .bool C' ∧ (C' = true ↔ g ∈ ys.take (i + 1)) ∧ Fr [] w2 w') := fun h w' f => ⟨true, rfl, by rw [htk]; exact ⟨fun _ => .inl (hC.1 h), fun _ => rfl⟩, f⟩
    have done2 : C = false → ∀ w', Fr [] w2 w' → (∃ C', (Value.bool (decide (y = g))) = .bool C' ∧ (C' = true ↔ g ∈ ys.take (i + 1)) ∧ Fr [] w2 w') := fun h w' f => ⟨_, rfl, by
      rw [htk, decide_eq_true_eq]
      exact ⟨fun h => .inr h.symm, fun h2 => h2.elim (fun h2 => absurd (hC.2 h2) (by simp [h])) fun h => h.symm⟩, f⟩
    rcases Nat.eq_zero_or_pos i with h0 | h0
    · cases C with
      | true =>
        (repeat (first | refine BND_step ia ?_ | (apply BND_step; exact l4') | refine stp ?_ | (apply BND_inc; omega) | (apply BND_dec; omega) | refine BND_step (rfl : some _ = some _) ?_ | (apply cyes; first | assumption | omega) | (apply cno; first | assumption | omega) | refine (COND_true _ _).2 ?_ | refine (COND_false _ _).2 ?_ | simp (disch := first | assumption | omega) only [gs1, gs2, decide_true, decide_false, eq_self, beq_self_eq_true, Bool.not_true, Bool.not_false]))
        exact hJ _ _ hlt2 (done1 rfl _ f4)
      | false =>
        (repeat (first | refine BND_step ia ?_ | (apply BND_step; exact l4') | refine stp ?_ | (apply BND_inc; omega) | (apply BND_dec; omega) | refine BND_step (rfl : some _ = some _) ?_ | (apply cyes; first | assumption | omega) | (apply cno; first | assumption | omega) | refine (COND_true _ _).2 ?_ | refine (COND_false _ _).2 ?_ | simp (disch := first | assumption | omega) only [gs1, gs2, decide_true, decide_false, eq_self, beq_self_eq_true, Bool.not_true, Bool.not_false]))
        exact hJ _ _ hlt2 (done2 rfl _ f4)
    · have hp := List.getElem?_eq_getElem (l := ys) (i := i - 1) (by omega)
      have hlt3 : ys[i - 1] < y := by rw [← hyi]; exact List.pairwise_iff_getElem.1 hr (i - 1) i (by omega) hlt2 (by omega)
      generalize ys[i - 1] = z at hp hlt3
      obtain ⟨b', oo', ia', _, _, l5⟩ := s4.spot hp rfl .i64
      have l5' := l5 (w' := w4) rfl (j := 0) rfl
      cases C with
      | true =>
        (repeat (first | refine BND_step ia ?_ | (apply BND_step; exact l4') | refine BND_step ia' ?_ | (apply BND_step; exact l5') | refine stp ?_ | (apply BND_inc; omega) | (apply BND_dec; omega) | refine BND_step (rfl : some _ = some _) ?_ | (apply cyes; first | assumption | omega) | (apply cno; first | assumption | omega) | refine (COND_true _ _).2 ?_ | refine (COND_false _ _).2 ?_ | simp (disch := first | assumption | omega) only [gs1, gs2, decide_true, decide_false, eq_self, beq_self_eq_true, Bool.not_true, Bool.not_false]))
        exact hJ _ _ hlt2 (done1 rfl _ f4)
      | false =>
        (repeat (first | refine BND_step ia ?_ | (apply BND_step; exact l4') | refine BND_step ia' ?_ | (apply BND_step; exact l5') | refine stp ?_ | (apply BND_inc; omega) | (apply BND_dec; omega) | refine BND_step (rfl : some _ = some _) ?_ | (apply cyes; first | assumption | omega) | (apply cno; first | assumption | omega) | refine (COND_true _ _).2 ?_ | refine (COND_false _ _).2 ?_ | simp (disch := first | assumption | omega) only [gs1, gs2, decide_true, decide_false, eq_self, beq_self_eq_true, Bool.not_true, Bool.not_false]))
        exact hJ _ _ hlt2 (done2 rfl _ f4)
  rw [List.take_of_length_le (by omega)] at hC
  have hBC : B = C := by
    have : (B = true ↔ C = true) := by rw [hB, hC, hm]
    cases B <;> cases C <;> simp_all
  subst hBC
  have hle : ys.length ≤ xs.length := hl
  have h1 := hR _ (f02.trans' f4)
  by_cases hx0 : xs.length = 0
  · (repeat (first | refine BND_step s4.len ?_ | refine BND_step h4.len ?_ | refine stp ?_ | (apply BND_inc; omega) | (apply BND_dec; omega) | refine BND_step (rfl : some _ = some _) ?_ | (apply cyes; first | assumption | omega) | (apply cno; first | assumption | omega) | refine (COND_true _ _).2 ?_ | refine (COND_false _ _).2 ?_ | simp (disch := first | assumption | omega) only [gs1, gs2, decide_true, decide_false, eq_self, beq_self_eq_true, Bool.not_true, Bool.not_false]))
    exact h1
  · have := hl0 (by omega)
    (repeat (first | refine BND_step s4.len ?_ | refine BND_step h4.len ?_ | refine stp ?_ | (apply BND_inc; omega) | (apply BND_dec; omega) | refine BND_step (rfl : some _ = some _) ?_ | (apply cyes; first | assumption | omega) | (apply cno; first | assumption | omega) | refine (COND_true _ _).2 ?_ | refine (COND_false _ _).2 ?_ | simp (disch := first | assumption | omega) only [gs1, gs2, decide_true, decide_false, eq_self, beq_self_eq_true, Bool.not_true, Bool.not_false]))
    exact h1

/-! ## SnapTells -/
theorem large_small {ls : List LRec} (h : largeL ls = false) : ls.length ≤ 300 ∧ (∀ l ∈ ls, l.ns.length ≤ 100 ∧ l.t.size ≤ 300) := by
  unfold largeL at h
  rw [Bool.or_eq_false_iff] at h
  refine ⟨by simpa using h.1, fun l hl => ?_⟩
  have := List.any_eq_false.1 h.2 l hl
  simp only [Bool.or_eq_true, decide_eq_true_eq, not_or, Nat.not_lt] at this
  exact this
theorem largeS_small {s : SnapL} (h : LargeS s = false) : s.items.length ≤ 220 ∧ s.dead.length ≤ 220 ∧ s.curs.length ≤ 20 := by
  unfold LargeS at h
  simp only [Bool.or_eq_false_iff, decide_eq_false_iff_not, Nat.not_lt] at h
  exact ⟨h.1.1.1, h.1.1.2, h.1.2⟩
theorem snap_tells {a iv dv cv : Value} {s : SnapL} {ls : List LRec} (hs : SnV w s iv dv cv) (hl : RecsR w a ls) (hu : NsU ls) (hbig : s.items.length * 80 ≤ 140737488351232 ∧ s.dead.length * 16 ≤ 140737488351232 ∧ s.curs.length * 24 ≤ 140737488351232) (hR : ∀ w', Fr [] w w' → R (.bool true) w') :
    CALL PR F_tumbrellaw13_SnapTells [.agg (snC s iv dv cv).toArray, a] w R := by
  refine C_tumbrellaw13_SnapTells ?_
  unfold M_tumbrellaw13_SnapTells
  refine NEW_intro fun w1 b1 f1 z1 => ?_
  obtain ⟨TS, b1⟩ : ∃ T, blk w1 (hsz w) = some (.cells (snC s iv dv cv).toArray T (0, 0)) := ⟨_, b1⟩
  refine lw_awake fun w2 f2 => ?_
  have f02 := f1.trans' f2
  have b2 := f2.some (by simp) b1
  (repeat (first | (apply BND_step; exact (loadn_all b2 rfl)) | refine stp ?_ | (apply BND_inc; omega) | (apply BND_dec; omega) | refine BND_step (rfl : some _ = some _) ?_ | (apply cyes; first | assumption | omega) | (apply cno; first | assumption | omega) | refine (COND_true _ _).2 ?_ | refine (COND_false _ _).2 ?_ | simp (disch := first | assumption | omega) only [gs1, gs2, decide_true, decide_false, eq_self, beq_self_eq_true, Bool.not_true, Bool.not_false]))
  refine lw_own (hs.fr0 f02) hbig.1 hbig.2.1 hbig.2.2 fun w3 i3 d3 c3 sv3 f3 => ?_
  have f03 := f02.trans' f3
  (repeat (first | (apply BND_part (stC s i3 d3 c3); exact rfl) | refine stp ?_ | (apply BND_inc; omega) | (apply BND_dec; omega) | refine BND_step (rfl : some _ = some _) ?_ | (apply cyes; first | assumption | omega) | (apply cno; first | assumption | omega) | refine (COND_true _ _).2 ?_ | refine (COND_false _ _).2 ?_ | simp (disch := first | assumption | omega) only [gs1, gs2, decide_true, decide_false, eq_self, beq_self_eq_true, Bool.not_true, Bool.not_false]))
  refine r13_Large sv3 fun w4 f4 => ?_
  have f04 := f03.trans' f4
  cases hL : LargeS s with
  | true =>
    (repeat (first | refine stp ?_ | (apply BND_inc; omega) | (apply BND_dec; omega) | refine BND_step (rfl : some _ = some _) ?_ | (apply cyes; first | assumption | omega) | (apply cno; first | assumption | omega) | refine (COND_true _ _).2 ?_ | refine (COND_false _ _).2 ?_ | simp (disch := first | assumption | omega) only [gs1, gs2, decide_true, decide_false, eq_self, beq_self_eq_true, Bool.not_true, Bool.not_false]))
    exact hR _ f04
  | false =>
  obtain ⟨li, ld, lc⟩ := largeS_small hL
  (repeat (first | refine stp ?_ | (apply BND_inc; omega) | (apply BND_dec; omega) | refine BND_step (rfl : some _ = some _) ?_ | (apply cyes; first | assumption | omega) | (apply cno; first | assumption | omega) | refine (COND_true _ _).2 ?_ | refine (COND_false _ _).2 ?_ | simp (disch := first | assumption | omega) only [gs1, gs2, decide_true, decide_false, eq_self, beq_self_eq_true, Bool.not_true, Bool.not_false]))
  refine lw_large (hl.fr0 f04) fun w5 f5 => ?_
  have f05 := f04.trans' f5
  cases hL2 : largeL ls with
  | true =>
    (repeat (first | refine stp ?_ | (apply BND_inc; omega) | (apply BND_dec; omega) | refine BND_step (rfl : some _ = some _) ?_ | (apply cyes; first | assumption | omega) | (apply cno; first | assumption | omega) | refine (COND_true _ _).2 ?_ | refine (COND_false _ _).2 ?_ | simp (disch := first | assumption | omega) only [gs1, gs2, decide_true, decide_false, eq_self, beq_self_eq_true, Bool.not_true, Bool.not_false]))
    exact hR _ f05
  | false =>
  obtain ⟨ll, lns⟩ := large_small hL2
  have b5 := (f3.trans' (f4.trans' f5)).some (by simp) b2
  (repeat (first | (apply BND_step; exact (loadn_all b5 rfl)) | refine stp ?_ | (apply BND_inc; omega) | (apply BND_dec; omega) | refine BND_step (rfl : some _ = some _) ?_ | (apply cyes; first | assumption | omega) | (apply cno; first | assumption | omega) | refine (COND_true _ _).2 ?_ | refine (COND_false _ _).2 ?_ | simp (disch := first | assumption | omega) only [gs1, gs2, decide_true, decide_false, eq_self, beq_self_eq_true, Bool.not_true, Bool.not_false]))
  refine sn_Save2 (hs.fr0 f05) (by omega) (by omega) (by omega) fun w6 v6 f6 h6 => ?_
  have f06 := f05.trans' f6
  (repeat (first | (apply BND_step; exact (loadn_all (f6.some (by simp) b5) rfl)) | refine stp ?_ | (apply BND_inc; omega) | (apply BND_dec; omega) | refine BND_step (rfl : some _ = some _) ?_ | (apply cyes; first | assumption | omega) | (apply cno; first | assumption | omega) | refine (COND_true _ _).2 ?_ | refine (COND_false _ _).2 ?_ | simp (disch := first | assumption | omega) only [gs1, gs2, decide_true, decide_false, eq_self, beq_self_eq_true, Bool.not_true, Bool.not_false]))
  refine lw_own (hs.fr0 f06) hbig.1 hbig.2.1 hbig.2.2 fun w7 i7 d7 c7 sv7 f7 => ?_
  refine r13_Save2 sv7 (by omega) (by omega) (by omega) fun w8 v8 f8 h8 => ?_
  have f08 := (f06.trans' f7).trans' f8
  (repeat (first | refine stp ?_ | (apply BND_inc; omega) | (apply BND_dec; omega) | refine BND_step (rfl : some _ = some _) ?_ | (apply cyes; first | assumption | omega) | (apply cno; first | assumption | omega) | refine (COND_true _ _).2 ?_ | refine (COND_false _ _).2 ?_ | simp (disch := first | assumption | omega) only [gs1, gs2, decide_true, decide_false, eq_self, beq_self_eq_true, Bool.not_true, Bool.not_false]))
  refine sn_Load2 (hl.fr0 f08) (by omega) (fun l hl => by have := (lns l hl).1; omega) hu fun w9 i9 d9 c9 f9 sv9 => ?_
  (repeat (first | refine stp ?_ | (apply BND_inc; omega) | (apply BND_dec; omega) | refine BND_step (rfl : some _ = some _) ?_ | (apply cyes; first | assumption | omega) | (apply cno; first | assumption | omega) | refine (COND_true _ _).2 ?_ | refine (COND_false _ _).2 ?_ | simp (disch := first | assumption | omega) only [gs1, gs2, decide_true, decide_false, eq_self, beq_self_eq_true, Bool.not_true, Bool.not_false]))
  refine box_step rfl (vs := snC (ldS ls) i9 d9 c9) rfl (snC_one sv9) (by simp [snC, stC]) fun w11 b11 f11 z11 => ?_
  have f011 := (f08.trans' f9).trans' f11
  refine lw_owns (hl.fr0 f011) (by omega) fun v12 w12 h12 f12 => ?_
  refine r13_Load2 h12 (by omega) hu fun w13 i13 d13 c13 f13 sv13 => ?_
  (repeat (first | refine stp ?_ | (apply BND_inc; omega) | (apply BND_dec; omega) | refine BND_step (rfl : some _ = some _) ?_ | (apply cyes; first | assumption | omega) | (apply cno; first | assumption | omega) | refine (COND_true _ _).2 ?_ | refine (COND_false _ _).2 ?_ | simp (disch := first | assumption | omega) only [gs1, gs2, decide_true, decide_false, eq_self, beq_self_eq_true, Bool.not_true, Bool.not_false]))
  refine box_step rfl (vs := snC (ldS ls) i13 d13 c13) rfl (snC_one sv13) (by simp [snC, stC]) fun w15 b15 f15 z15 => ?_
  have f11e := (f12.trans' f13).trans' f15
  have f015 := f011.trans' f11e
  have f5e := (((((f6.trans' f7).trans' f8).trans' f9).trans' f11).trans' f11e)
  have c15 : blk w15.drew (hsz w) = some (.cells (snC s iv dv cv).toArray TS (0, 0)) := f5e.some (by simp) b5
  have c11 : blk w15.drew (hsz w9) = some (.cells (snC (ldS ls) i9 d9 c9).toArray _ (0, 0)) := f11e.some (by simp) b11
  have c13' : blk w15.drew (hsz w13) = some (.cells (snC (ldS ls) i13 d13 c13).toArray _ (0, 0)) := b15
  have f6d : Fr [] w6 w15.drew := (((((f7.trans' f8).trans' f9).trans' f11).trans' f11e).trans' (Fr.drew _ _))
  have f8d : Fr [] w8 w15.drew := (((f9.trans' f11).trans' f11e).trans' (Fr.drew _ _))
  have f9d : Fr [] w9 w15.drew := ((f11.trans' f11e).trans' (Fr.drew _ _))
  have f13d : Fr [] w13 w15.drew := (f15.trans' (Fr.drew _ _))
  have f0d : Fr [] w w15.drew := f015.trans' (Fr.drew _ _)
  generalize w15.drew = wd at *
  have SS : ∀ {w'}, Fr [] wd w' → blk w' (hsz w13) = some (.cells (snC (ldS ls) i13 d13 c13).toArray _ (0, 0)) ∧ blk w' (hsz w) = some (.cells (snC s iv dv cv).toArray TS (0, 0)) := fun f => ⟨f.some (by simp) c13', f.some (by simp) c15⟩
  refine ⟨fun k w' => blk w' (hsz w13) = some (.cells (snC (ldS ls) i13 d13 c13).toArray _ (0, 0)) ∧ blk w' (hsz w) = some (.cells (snC s iv dv cv).toArray TS (0, 0)), SS (Fr.refl _ _), SS (Fr.refl _ _), ?_⟩
  have lsv : (svL s).length < 1000000 := by have := svL_len s; omega
  refine lw_owns (h6.fr0 f6d) lsv fun v16 w16 h16 f16 => ⟨SS f16, SS f16, ?_⟩
  refine r5_Same h16 ((h8.fr0 f8d).fr0 f16) (by omega) (fun l hl => ?_) fun w17 f17 => ⟨SS (f16.trans' f17), SS (f16.trans' f17), ?_⟩
  · unfold svL at hl; split at hl
    · exact saveL_small s l hl
    · simp at hl
  have f17' := f16.trans' f17
  have lld := ldS_len ls
  (repeat (first | refine FLT.mk _ (fun _ hw_ => (loadn_all hw_.1 rfl)) ?_ | (apply BND_step; exact (loadn_all (f17'.some (by simp) c11) rfl)) | refine stp ?_ | (apply BND_inc; omega) | (apply BND_dec; omega) | refine BND_step (rfl : some _ = some _) ?_ | (apply cyes; first | assumption | omega) | (apply cno; first | assumption | omega) | refine (COND_true _ _).2 ?_ | refine (COND_false _ _).2 ?_ | simp (disch := first | assumption | omega) only [gs1, gs2, decide_true, decide_false, eq_self, beq_self_eq_true, Bool.not_true, Bool.not_false]))
  refine lw_own ((sv9.fr0 f9d).fr0 f17') (by omega) (by omega) (by omega) fun w18 i18 d18 c18 sv18 f18 => ⟨SS (f17'.trans' f18), SS (f17'.trans' f18), ?_⟩
  (repeat (first | refine stp ?_ | (apply BND_inc; omega) | (apply BND_dec; omega) | refine BND_step (rfl : some _ = some _) ?_ | (apply cyes; first | assumption | omega) | (apply cno; first | assumption | omega) | refine (COND_true _ _).2 ?_ | refine (COND_false _ _).2 ?_ | simp (disch := first | assumption | omega) only [gs1, gs2, decide_true, decide_false, eq_self, beq_self_eq_true, Bool.not_true, Bool.not_false]))
  refine r13_Same sv18 (((sv13.fr0 f13d).fr0 f17').fr0 f18) (by omega) (by omega) (by omega) fun w19 f19 => ⟨SS ((f17'.trans' f18).trans' f19), ?_⟩
  have f19' := (f17'.trans' f18).trans' f19
  have c19 := f19'.some (by simp) c15
  (repeat (first | (apply BND_ld c19; exact rfl) | refine FLT.mk _ (fun _ hw_ => (load1_at hw_.2 rfl)) ?_ | refine stp ?_ | (apply BND_inc; omega) | (apply BND_dec; omega) | refine BND_step (rfl : some _ = some _) ?_ | (apply cyes; first | assumption | omega) | (apply cno; first | assumption | omega) | refine (COND_true _ _).2 ?_ | refine (COND_false _ _).2 ?_ | simp (disch := first | assumption | omega) only [gs1, gs2, decide_true, decide_false, eq_self, beq_self_eq_true, Bool.not_true, Bool.not_false]))
  refine sn_Segs (hs.fr0 (f0d.trans' f19')).i (by omega) fun w20 v20 ys h20 hr hm hyl _ f20 => ⟨SS (f19'.trans' f20), ?_⟩
  (repeat (first | refine stp ?_ | (apply BND_inc; omega) | (apply BND_dec; omega) | refine BND_step (rfl : some _ = some _) ?_ | (apply cyes; first | assumption | omega) | (apply cno; first | assumption | omega) | refine (COND_true _ _).2 ?_ | refine (COND_false _ _).2 ?_ | simp (disch := first | assumption | omega) only [gs1, gs2, decide_true, decide_false, eq_self, beq_self_eq_true, Bool.not_true, Bool.not_false]))
  refine lw_items (hs.fr0 ((f0d.trans' f19').trans' f20)).i (by omega) fun v21 w21 F21 h21 _ f21 => ?_
  (repeat (first | refine stp ?_ | (apply BND_inc; omega) | (apply BND_dec; omega) | refine BND_step (rfl : some _ = some _) ?_ | (apply cyes; first | assumption | omega) | (apply cno; first | assumption | omega) | refine (COND_true _ _).2 ?_ | refine (COND_false _ _).2 ?_ | simp (disch := first | assumption | omega) only [gs1, gs2, decide_true, decide_false, eq_self, beq_self_eq_true, Bool.not_true, Bool.not_false]))
  refine r13_Segs h21.arr (by omega) fun w22 v22 zs h22 hr2 hm2 f22 => ?_
  have hyz : ys = zs := rise_same hr hr2 fun x => by rw [hm, hm2]
  subst hyz
  (repeat (first | refine stp ?_ | (apply BND_inc; omega) | (apply BND_dec; omega) | refine BND_step (rfl : some _ = some _) ?_ | (apply cyes; first | assumption | omega) | (apply cno; first | assumption | omega) | refine (COND_true _ _).2 ?_ | refine (COND_false _ _).2 ?_ | simp (disch := first | assumption | omega) only [gs1, gs2, decide_true, decide_false, eq_self, beq_self_eq_true, Bool.not_true, Bool.not_false]))
  refine r2_Same ((h20.fr f21 (by simp)).fr f22 (by simp)) h22 (by omega) fun w23 f23 => ?_
  (repeat (first | refine stp ?_ | (apply BND_inc; omega) | (apply BND_dec; omega) | refine BND_step (rfl : some _ = some _) ?_ | (apply cyes; first | assumption | omega) | (apply cno; first | assumption | omega) | refine (COND_true _ _).2 ?_ | refine (COND_false _ _).2 ?_ | simp (disch := first | assumption | omega) only [gs1, gs2, decide_true, decide_false, eq_self, beq_self_eq_true, Bool.not_true, Bool.not_false]))
  exact hR _ (((((f0d.trans' f19').trans' f20).trans' f21).trans' f22).trans' f23)
end
end Go.Proofs.Ytkifjfjhghogjaa
