/- Records compared, and looked through, by the library's own words; a message out of ten numbers. No condition but sizes. -/
import Derived.Test.YtkifjfjhghogjaaSnapSave2
import Derived.Test.YtkifjfjhghogjaaWalk
import Derived.Test.YtkifjfjhghogjaaMa
namespace Go.Proofs.Ytkifjfjhghogjaa
open Go.Den
set_option linter.unusedSimpArgs false
set_option linter.unusedVariables false
set_option maxRecDepth 20000
set_option maxHeartbeats 4000000
attribute [local congr] BND_cg COND_cg GEF_cg
attribute [local irreducible] load1 loadn iaddr iaddra faddr storev newslice binv lookv mupd mdel mlenv mentry mestore slicev slicev3 slices indexs indexav textv rangev nexts clearv shiftv eqaggv convi buildv pickv lens lenl unv nilchk extractv partn JOIN
section
variable {w : World} {R : Value → World → Prop}
theorem ge_Equal {a b : Value} {xs ys : List Int} (ha : Arr encU 1 w a xs) (hb : Arr encU 1 w b ys) (hn : xs.length < 1000000000) (hR : ∀ w', Fr [] w w' → R (.bool (decide (xs = ys))) w') :
    CALL PR F_slices_Equal_uint64_uint64 [a, b] w R := by
  refine C_slices_Equal_uint64_uint64 ?_
  unfold M_slices_Equal_uint64_uint64
  by_cases hl : xs.length = ys.length
  · (repeat (first | refine BND_step ha.len ?_ | refine BND_step hb.len ?_ | refine stp ?_ | (apply BND_inc; omega) | (apply BND_dec; omega) | refine BND_step rfl ?_ | (apply cyes; first | assumption | omega) | (apply cno; first | assumption | omega) | refine (COND_true _ _).2 ?_ | refine (COND_false _ _).2 ?_ | simp (disch := first | assumption | omega) only [gs1, gs2, decide_true, decide_false, eq_self, beq_self_eq_true, Bool.not_true, Bool.not_false]))
    refine loop_up 0 xs.length (fun i w' => Fr [] w w' ∧ xs.take i = ys.take i) ⟨Fr.refl _ _, rfl⟩ (by omega) ?_
    rintro i w1 - hi ⟨f1, e⟩ J m hJ
    by_cases hlt : i < xs.length
    · have hx := List.getElem?_eq_getElem hlt
      have hy := List.getElem?_eq_getElem (l := ys) (i := i) (by omega)
      obtain ⟨b1, o1, i1, _, _, l1⟩ := (ha.fr f1 (by simp)).spot hx rfl .i64
      obtain ⟨b2, o2, i2, _, _, l2⟩ := (hb.fr f1 (by simp)).spot hy rfl .i64
      (repeat (first | refine BND_step i1 ?_ | refine BND_step i2 ?_ | refine BND_step (l1 (w' := w1.drew) rfl (j := 0) rfl) ?_ | refine BND_step (l2 (w' := w1.drew) rfl (j := 0) rfl) ?_ | refine stp ?_ | (apply BND_inc; omega) | (apply BND_dec; omega) | refine BND_step rfl ?_ | (apply cyes; first | assumption | omega) | (apply cno; first | assumption | omega) | refine (COND_true _ _).2 ?_ | refine (COND_false _ _).2 ?_ | simp (disch := first | assumption | omega) only [gs1, gs2, decide_true, decide_false, eq_self, beq_self_eq_true, Bool.not_true, Bool.not_false]))
      by_cases he : xs[i] = ys[i]
      · (repeat (first | refine stp ?_ | (apply BND_inc; omega) | (apply BND_dec; omega) | refine BND_step rfl ?_ | (apply cyes; first | assumption | omega) | (apply cno; first | assumption | omega) | refine (COND_true _ _).2 ?_ | refine (COND_false _ _).2 ?_ | simp (disch := first | assumption | omega) only [gs1, gs2, decide_true, decide_false, eq_self, beq_self_eq_true, Bool.not_true, Bool.not_false]))
        refine hJ _ hlt ⟨f1.trans' (Fr.drew _ _), ?_⟩
        rw [List.take_add_one, List.take_add_one, hx, hy, e, he]
      · (repeat (first | refine stp ?_ | (apply BND_inc; omega) | (apply BND_dec; omega) | refine BND_step rfl ?_ | (apply cyes; first | assumption | omega) | (apply cno; first | assumption | omega) | refine (COND_true _ _).2 ?_ | refine (COND_false _ _).2 ?_ | simp (disch := first | assumption | omega) only [gs1, gs2, decide_true, decide_false, eq_self, beq_self_eq_true, Bool.not_true, Bool.not_false]))
        have := hR _ (f1.trans' (Fr.drew _ _))
        rwa [decide_eq_false (fun h => he (by subst h; rfl))] at this
    · (repeat (first | refine stp ?_ | (apply BND_inc; omega) | (apply BND_dec; omega) | refine BND_step rfl ?_ | (apply cyes; first | assumption | omega) | (apply cno; first | assumption | omega) | refine (COND_true _ _).2 ?_ | refine (COND_false _ _).2 ?_ | simp (disch := first | assumption | omega) only [gs1, gs2, decide_true, decide_false, eq_self, beq_self_eq_true, Bool.not_true, Bool.not_false]))
      have := hR _ f1
      rw [List.take_of_length_le (by omega), List.take_of_length_le (by omega)] at e
      rwa [decide_eq_true e] at this
  · (repeat (first | refine BND_step ha.len ?_ | refine BND_step hb.len ?_ | refine stp ?_ | (apply BND_inc; omega) | (apply BND_dec; omega) | refine BND_step rfl ?_ | (apply cyes; first | assumption | omega) | (apply cno; first | assumption | omega) | refine (COND_true _ _).2 ?_ | refine (COND_false _ _).2 ?_ | simp (disch := first | assumption | omega) only [gs1, gs2, decide_true, decide_false, eq_self, beq_self_eq_true, Bool.not_true, Bool.not_false]))
    have := hR _ (Fr.refl _ _)
    rwa [decide_eq_false (fun h => hl (by rw [h]))] at this
theorem lrec_dec (a b : LRec) : decide (a = b) = (decide (a.k = b.k) && decide (a.ns = b.ns) && decide (a.t = b.t)) := by
  obtain ⟨a1, a2, a3⟩ := a
  obtain ⟨b1, b2, b3⟩ := b
  simp only [LRec.mk.injEq, Bool.decide_and, Bool.and_assoc]
theorem rc_Same {r1 r2 : Rec} {l1 l2 : LRec} (h1 : RecOf w r1 l1) (h2 : RecOf w r2 l2) (hn : l1.ns.length < 1000000000) (hR : ∀ w', Fr [] w w' → R (.bool (decide (l1 = l2))) w') :
    CALL PR F_record_Same [.agg (encR r1).toArray, .agg (encR r2).toArray] w R := by
  refine C_record_Same ?_
  unfold M_record_Same
  refine NEW_intro fun w1 b1 f1 z1 => NEW_intro fun w2 b2 f2 z2 => ?_
  obtain ⟨T1, b1⟩ : ∃ T, blk w2 (hsz w) = some (.cells #[.int .i64 r1.k, r1.nv, .string r1.t] T (0, 0)) := ⟨_, f2.some (by simp) b1⟩
  obtain ⟨T2, b2⟩ : ∃ T, blk w2 (hsz w1) = some (.cells #[.int .i64 r2.k, r2.nv, .string r2.t] T (0, 0)) := ⟨_, b2⟩
  have f12 := f1.trans' f2
  obtain ⟨k1, t1, n1⟩ := h1.fr f12 (by simp)
  obtain ⟨k2, t2, n2⟩ := h2.fr f12 (by simp)
  rw [lrec_dec, ← k1, ← k2, ← t1, ← t2] at hR
  (repeat (first | (apply BND_ld b1; exact rfl) | (apply BND_ld b2; exact rfl) | refine stp ?_ | (apply BND_inc; omega) | (apply BND_dec; omega) | refine BND_step rfl ?_ | (apply cyes; first | assumption | omega) | (apply cno; first | assumption | omega) | refine (COND_true _ _).2 ?_ | refine (COND_false _ _).2 ?_ | simp (disch := first | assumption | omega) only [gs1, gs2, decide_true, decide_false, eq_self, beq_self_eq_true, Bool.not_true, Bool.not_false]))
  by_cases hk : r1.k = r2.k
  · simp only [hk, decide_true, decide_false, isB_tf, isB_ft, isB_tt, isB_ff, eq_self, beq_self_eq_true, grd_false, grd_true, GEF_false, GEF_true, pickv_true, pickv_false, COND_true, COND_false, Bool.not_true, Bool.not_false, Bool.true_and] at hR ⊢
    (repeat (first | (apply BND_ld b1; exact rfl) | (apply BND_ld b2; exact rfl) | refine stp ?_ | (apply BND_inc; omega) | (apply BND_dec; omega) | refine BND_step rfl ?_ | (apply cyes; first | assumption | omega) | (apply cno; first | assumption | omega) | refine (COND_true _ _).2 ?_ | refine (COND_false _ _).2 ?_ | simp (disch := first | assumption | omega) only [gs1, gs2, decide_true, decide_false, eq_self, beq_self_eq_true, Bool.not_true, Bool.not_false]))
    refine ge_Equal n1 n2 hn fun w3 f3 => ?_
    have c1 := f3.some (by simp) b1
    have c2 := f3.some (by simp) b2
    by_cases hns : l1.ns = l2.ns
    · simp only [hns, decide_true, decide_false, isB_tf, isB_ft, isB_tt, isB_ff, eq_self, beq_self_eq_true, grd_false, grd_true, GEF_false, GEF_true, pickv_true, pickv_false, COND_true, COND_false, Bool.not_true, Bool.not_false, Bool.true_and] at hR ⊢
      (repeat (first | (apply BND_ld c1; exact rfl) | (apply BND_ld c2; exact rfl) | refine stp ?_ | (apply BND_inc; omega) | (apply BND_dec; omega) | refine BND_step rfl ?_ | (apply cyes; first | assumption | omega) | (apply cno; first | assumption | omega) | refine (COND_true _ _).2 ?_ | refine (COND_false _ _).2 ?_ | simp (disch := first | assumption | omega) only [gs1, gs2, decide_true, decide_false, eq_self, beq_self_eq_true, Bool.not_true, Bool.not_false]))
      exact hR _ (f12.trans' f3)
    · simp only [hns, decide_true, decide_false, isB_tf, isB_ft, isB_tt, isB_ff, eq_self, beq_self_eq_true, grd_false, grd_true, GEF_false, GEF_true, pickv_true, pickv_false, COND_true, COND_false, Bool.not_true, Bool.not_false, Bool.false_and] at hR ⊢
      (repeat (first | (apply BND_ld c1; exact rfl) | (apply BND_ld c2; exact rfl) | refine stp ?_ | (apply BND_inc; omega) | (apply BND_dec; omega) | refine BND_step rfl ?_ | (apply cyes; first | assumption | omega) | (apply cno; first | assumption | omega) | refine (COND_true _ _).2 ?_ | refine (COND_false _ _).2 ?_ | simp (disch := first | assumption | omega) only [gs1, gs2, decide_true, decide_false, eq_self, beq_self_eq_true, Bool.not_true, Bool.not_false]))
      exact hR _ (f12.trans' f3)
  · simp only [hk, decide_true, decide_false, isB_tf, isB_ft, isB_tt, isB_ff, eq_self, beq_self_eq_true, grd_false, grd_true, GEF_false, GEF_true, pickv_true, pickv_false, COND_true, COND_false, Bool.not_true, Bool.not_false, Bool.false_and] at hR ⊢
    (repeat (first | (apply BND_ld b1; exact rfl) | (apply BND_ld b2; exact rfl) | refine stp ?_ | (apply BND_inc; omega) | (apply BND_dec; omega) | refine BND_step rfl ?_ | (apply cyes; first | assumption | omega) | (apply cno; first | assumption | omega) | refine (COND_true _ _).2 ?_ | refine (COND_false _ _).2 ?_ | simp (disch := first | assumption | omega) only [gs1, gs2, decide_true, decide_false, eq_self, beq_self_eq_true, Bool.not_true, Bool.not_false]))
    exact hR _ f12
theorem RecsR.spot {v : Value} {ls : List LRec} (h : RecsR w v ls) {i : Nat} {l : LRec} (hl : ls[i]? = some l) : ∃ r b o, RecOf w r l ∧ iaddr 3 v (.int .i64 (i : Int)) = some (.pointer (some ⟨b, o, none⟩)) ∧ loadn 3 w (.pointer (some ⟨b, o, none⟩)) = some (.agg (encR r).toArray) ∧ b < hsz w ∧
    ∀ {w'}, blk w' b = blk w b → ∀ {j u}, (encR r)[j]? = some u → load1 w' (.pointer (some ⟨b, o + j, none⟩)) = some u := by
  obtain ⟨rs, h1, h2, h3, h4⟩ := h
  have hi : i < rs.length := by have := (List.getElem?_eq_some_iff.1 hl).1; omega
  have hx := List.getElem?_eq_getElem hi
  obtain ⟨b, o, e⟩ := h1.spot hx rfl .i64
  exact ⟨rs[i], b, o, h3 i _ _ hx hl, e⟩
def NsSmall (ls : List LRec) : Prop := ∀ l ∈ ls, l.ns.length < 1000000000
theorem sl_EqualRec {a b : Value} {xs ys : List LRec} (ha : RecsR w a xs) (hb : RecsR w b ys) (hn : xs.length < 1000000000) (hns : NsSmall xs) (hR : ∀ w', Fr [] w w' → R (.bool (decide (xs = ys))) w') :
    CALL PR F_slices_EqualFunc_record_Record_record_Record_record_Record_record_Record [a, b, .func (.func F_record_Same) #[] #[]] w R := by
  refine C_slices_EqualFunc_record_Record_record_Record_record_Record_record_Record ?_
  unfold M_slices_EqualFunc_record_Record_record_Record_record_Record_record_Record
  by_cases hl : xs.length = ys.length
  · (repeat (first | refine BND_step ha.len ?_ | refine BND_step hb.len ?_ | refine stp ?_ | (apply BND_inc; omega) | (apply BND_dec; omega) | refine BND_step rfl ?_ | (apply cyes; first | assumption | omega) | (apply cno; first | assumption | omega) | refine (COND_true _ _).2 ?_ | refine (COND_false _ _).2 ?_ | simp (disch := first | assumption | omega) only [gs1, gs2, decide_true, decide_false, eq_self, beq_self_eq_true, Bool.not_true, Bool.not_false]))
    refine loop_up 0 xs.length (fun i w' => Fr [] w w' ∧ xs.take i = ys.take i) ⟨Fr.refl _ _, rfl⟩ (by omega) ?_
    rintro i w1 - hi ⟨f1, e⟩ J m hJ
    by_cases hlt : i < xs.length
    · have hx := List.getElem?_eq_getElem hlt
      have hy := List.getElem?_eq_getElem (l := ys) (i := i) (by omega)
      obtain ⟨r1, b1, o1, g1, i1, n1, _⟩ := (ha.fr0 f1).spot hx
      (repeat (first | refine BND_step i1 ?_ | refine BND_step n1 ?_ | refine stp ?_ | (apply BND_inc; omega) | (apply BND_dec; omega) | refine BND_step rfl ?_ | (apply cyes; first | assumption | omega) | (apply cno; first | assumption | omega) | refine (COND_true _ _).2 ?_ | refine (COND_false _ _).2 ?_ | simp (disch := first | assumption | omega) only [gs1, gs2, decide_true, decide_false, eq_self, beq_self_eq_true, Bool.not_true, Bool.not_false]))
      refine box_step rfl rfl (encR_one r1) (by simp [encR]) fun w3 b3 f3 z3 => ?_
      obtain ⟨r2, b2, o2, g2, i2, n2, _⟩ := (hb.fr0 (f1.trans' f3)).spot hy
      (repeat (first | refine BND_step i2 ?_ | refine BND_step n2 ?_ | refine stp ?_ | (apply BND_inc; omega) | (apply BND_dec; omega) | refine BND_step rfl ?_ | (apply cyes; first | assumption | omega) | (apply cno; first | assumption | omega) | refine (COND_true _ _).2 ?_ | refine (COND_false _ _).2 ?_ | simp (disch := first | assumption | omega) only [gs1, gs2, decide_true, decide_false, eq_self, beq_self_eq_true, Bool.not_true, Bool.not_false]))
      refine box_step rfl rfl (encR_one r2) (by simp [encR]) fun w5 b5 f5 z5 => ?_
      have b3' := f5.some (by simp) b3
      (repeat (first | refine BND_step (loadn_all b3' rfl) ?_ | refine BND_step (loadn_all b5 rfl) ?_ | refine stp ?_ | (apply BND_inc; omega) | (apply BND_dec; omega) | refine BND_step rfl ?_ | (apply cyes; first | assumption | omega) | (apply cno; first | assumption | omega) | refine (COND_true _ _).2 ?_ | refine (COND_false _ _).2 ?_ | simp (disch := first | assumption | omega) only [gs1, gs2, decide_true, decide_false, eq_self, beq_self_eq_true, Bool.not_true, Bool.not_false]))
      refine (CALLV_func (by kernel_rfl)).2 <| rc_Same ((g1.fr f3 (by simp)).fr f5 (by simp)) (g2.fr f5 (by simp)) (hns _ (List.mem_of_getElem? hx)) fun w6 f6 => ?_
      have fe := ((f1.trans' f3).trans' f5).trans' f6
      by_cases he : xs[i] = ys[i]
      · (repeat (first | refine stp ?_ | (apply BND_inc; omega) | (apply BND_dec; omega) | refine BND_step rfl ?_ | (apply cyes; first | assumption | omega) | (apply cno; first | assumption | omega) | refine (COND_true _ _).2 ?_ | refine (COND_false _ _).2 ?_ | simp (disch := first | assumption | omega) only [gs1, gs2, decide_true, decide_false, eq_self, beq_self_eq_true, Bool.not_true, Bool.not_false]))
        refine hJ _ hlt ⟨fe, ?_⟩
        rw [List.take_add_one, List.take_add_one, hx, hy, e, he]
      · (repeat (first | refine stp ?_ | (apply BND_inc; omega) | (apply BND_dec; omega) | refine BND_step rfl ?_ | (apply cyes; first | assumption | omega) | (apply cno; first | assumption | omega) | refine (COND_true _ _).2 ?_ | refine (COND_false _ _).2 ?_ | simp (disch := first | assumption | omega) only [gs1, gs2, decide_true, decide_false, eq_self, beq_self_eq_true, Bool.not_true, Bool.not_false]))
        have := hR _ fe
        rwa [decide_eq_false (fun h => he (by subst h; rfl))] at this
    · (repeat (first | refine stp ?_ | (apply BND_inc; omega) | (apply BND_dec; omega) | refine BND_step rfl ?_ | (apply cyes; first | assumption | omega) | (apply cno; first | assumption | omega) | refine (COND_true _ _).2 ?_ | refine (COND_false _ _).2 ?_ | simp (disch := first | assumption | omega) only [gs1, gs2, decide_true, decide_false, eq_self, beq_self_eq_true, Bool.not_true, Bool.not_false]))
      have := hR _ f1
      rw [List.take_of_length_le (by omega), List.take_of_length_le (by omega)] at e
      rwa [decide_eq_true e] at this
  · (repeat (first | refine BND_step ha.len ?_ | refine BND_step hb.len ?_ | refine stp ?_ | (apply BND_inc; omega) | (apply BND_dec; omega) | refine BND_step rfl ?_ | (apply cyes; first | assumption | omega) | (apply cno; first | assumption | omega) | refine (COND_true _ _).2 ?_ | refine (COND_false _ _).2 ?_ | simp (disch := first | assumption | omega) only [gs1, gs2, decide_true, decide_false, eq_self, beq_self_eq_true, Bool.not_true, Bool.not_false]))
    have := hR _ (Fr.refl _ _)
    rwa [decide_eq_false (fun h => hl (by rw [h]))] at this
def rightL (l : LRec) : Bool := rightR l.k l.ns.length l.t.size
theorem RecOf.right {r : Rec} {l : LRec} (h : RecOf w r l) : rightR r.k r.n r.t.size = rightL l := by
  unfold rightL
  rw [h.nlen, h.1, h.2.1]
theorem sn_Load1 {r : Rec} {l : LRec} (h : RecOf w r l) (hR : ∀ w', Fr [] w w' → R (.bool (!rightL l)) w') : CALL PR F_snap_Load_1 [.agg (encR r).toArray] w R := by
  refine C_snap_Load_1 ?_
  unfold M_snap_Load_1
  refine NEW_intro fun w1 b1 f1 z1 => ?_
  (repeat (first | refine BND_step (loadn_all b1 rfl) ?_ | refine stp ?_ | (apply BND_inc; omega) | (apply BND_dec; omega) | refine BND_step rfl ?_ | (apply cyes; first | assumption | omega) | (apply cno; first | assumption | omega) | refine (COND_true _ _).2 ?_ | refine (COND_false _ _).2 ?_ | simp (disch := first | assumption | omega) only [gs1, gs2, decide_true, decide_false, eq_self, beq_self_eq_true, Bool.not_true, Bool.not_false]))
  refine rc_Right r fun w2 f2 => ?_
  (repeat (first | refine stp ?_ | (apply BND_inc; omega) | (apply BND_dec; omega) | refine BND_step rfl ?_ | (apply cyes; first | assumption | omega) | (apply cno; first | assumption | omega) | refine (COND_true _ _).2 ?_ | refine (COND_false _ _).2 ?_ | simp (disch := first | assumption | omega) only [gs1, gs2, decide_true, decide_false, eq_self, beq_self_eq_true, Bool.not_true, Bool.not_false]))
  have := hR _ (f1.trans' f2)
  rwa [← h.right] at this
/-- are there records that may not be? -/
theorem sl_Contains {a : Value} {xs : List LRec} (ha : RecsR w a xs) (hn : xs.length < 1000000000) (hR : ∀ w', Fr [] w w' → R (.bool (!xs.all rightL)) w') :
    CALL PR F_slices_ContainsFunc_record_Record_record_Record [a, .func (.func F_snap_Load_1) #[] #[]] w R := by
  refine C_slices_ContainsFunc_record_Record_record_Record ?_
  unfold M_slices_ContainsFunc_record_Record_record_Record
  refine C_slices_IndexFunc_record_Record_record_Record ?_
  unfold M_slices_IndexFunc_record_Record_record_Record
  (repeat (first | refine BND_step ha.len ?_ | refine stp ?_ | (apply BND_inc; omega) | (apply BND_dec; omega) | refine BND_step rfl ?_ | (apply cyes; first | assumption | omega) | (apply cno; first | assumption | omega) | refine (COND_true _ _).2 ?_ | refine (COND_false _ _).2 ?_ | simp (disch := first | assumption | omega) only [gs1, gs2, decide_true, decide_false, eq_self, beq_self_eq_true, Bool.not_true, Bool.not_false]))
  refine loop_up 0 xs.length (fun i w' => Fr [] w w' ∧ (xs.take i).all rightL = true) ⟨Fr.refl _ _, rfl⟩ (by omega) ?_
  rintro i w1 - hi ⟨f1, e⟩ J m hJ
  by_cases hlt : i < xs.length
  · have hx := List.getElem?_eq_getElem hlt
    obtain ⟨r1, b1, o1, g1, i1, n1, _⟩ := (ha.fr0 f1).spot hx
    (repeat (first | refine BND_step i1 ?_ | refine BND_step n1 ?_ | refine stp ?_ | (apply BND_inc; omega) | (apply BND_dec; omega) | refine BND_step rfl ?_ | (apply cyes; first | assumption | omega) | (apply cno; first | assumption | omega) | refine (COND_true _ _).2 ?_ | refine (COND_false _ _).2 ?_ | simp (disch := first | assumption | omega) only [gs1, gs2, decide_true, decide_false, eq_self, beq_self_eq_true, Bool.not_true, Bool.not_false]))
    refine (CALLV_func (by kernel_rfl)).2 <| sn_Load1 g1 fun w2 f2 => ?_
    cases hr : rightL xs[i] with
    | true =>
      simp only [decide_true, decide_false, isB_tf, isB_ft, isB_tt, isB_ff, eq_self, beq_self_eq_true, grd_false, grd_true, GEF_false, GEF_true, pickv_true, pickv_false, COND_true, COND_false, Bool.not_true, Bool.not_false]
      (repeat (first | refine stp ?_ | (apply BND_inc; omega) | (apply BND_dec; omega) | refine BND_step rfl ?_ | (apply cyes; first | assumption | omega) | (apply cno; first | assumption | omega) | refine (COND_true _ _).2 ?_ | refine (COND_false _ _).2 ?_ | simp (disch := first | assumption | omega) only [gs1, gs2, decide_true, decide_false, eq_self, beq_self_eq_true, Bool.not_true, Bool.not_false]))
      refine hJ _ hlt ⟨f1.trans' f2, ?_⟩
      rw [List.take_add_one, List.all_append, hx, e]
      simp [hr]
    | false =>
      simp only [decide_true, decide_false, isB_tf, isB_ft, isB_tt, isB_ff, eq_self, beq_self_eq_true, grd_false, grd_true, GEF_false, GEF_true, pickv_true, pickv_false, COND_true, COND_false, Bool.not_true, Bool.not_false]
      (repeat (first | refine stp ?_ | (apply BND_inc; omega) | (apply BND_dec; omega) | refine BND_step rfl ?_ | (apply cyes; first | assumption | omega) | (apply cno; first | assumption | omega) | refine (COND_true _ _).2 ?_ | refine (COND_false _ _).2 ?_ | simp (disch := first | assumption | omega) only [gs1, gs2, decide_true, decide_false, eq_self, beq_self_eq_true, Bool.not_true, Bool.not_false]))
      have := hR _ (f1.trans' f2)
      have h2 : xs.all rightL = false := by
        rw [List.all_eq_false]
        exact ⟨xs[i], List.getElem_mem hlt, by simp [hr]⟩
      rw [h2] at this
      simpa using this
  · (repeat (first | refine stp ?_ | (apply BND_inc; omega) | (apply BND_dec; omega) | refine BND_step rfl ?_ | (apply cyes; first | assumption | omega) | (apply cno; first | assumption | omega) | refine (COND_true _ _).2 ?_ | refine (COND_false _ _).2 ?_ | simp (disch := first | assumption | omega) only [gs1, gs2, decide_true, decide_false, eq_self, beq_self_eq_true, Bool.not_true, Bool.not_false]))
    have := hR _ f1
    rw [List.take_of_length_le (by omega)] at e
    rw [e] at this
    simpa using this
def itemL (ns : List Int) : Itm := ⟨ns.getD 0 0, ns.getD 1 0, ns.getD 2 0, ns.getD 3 0, ns.getD 4 0, ns.getD 5 0, ns.getD 6 0, ns.getD 7 0, ns.getD 8 0, ns.getD 9 0⟩
end
end Go.Proofs.Ytkifjfjhghogjaa
