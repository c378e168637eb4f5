/- A snapshot made the document's own; the document's comparisons of states. No condition but sizes. -/
import Derived.Test.YtkifjfjhghogjaaSnapOwn
import Derived.Test.YtkifjfjhghogjaaMa
namespace Go.Proofs.Ytkifjfjhghogjaa
open Go.Den
theorem eq_row (x y : Row) : eqaggv [(0, .int .u64), (1, .int .u64)] .neq (.agg (encRow x).toArray) (.agg (encRow y).toArray) = some (.bool !(decide (x = y))) := by
  obtain ⟨a, b⟩ := x
  obtain ⟨c, d⟩ := y
  refine eqagg_ne ?_
  rw [eqCells_int rfl rfl, eqCells_int rfl rfl, eqCells_nil]
  simp only [ite_and_d, Prod.mk.injEq, and_true]
theorem eq_cur (x y : Cur) : eqaggv [(0, .string), (1, .int .u64)] .neq (.agg (encC x).toArray) (.agg (encC y).toArray) = some (.bool !(decide (x = y))) := by
  obtain ⟨a, b⟩ := x
  obtain ⟨c, d⟩ := y
  refine eqagg_ne ?_
  rw [eqCells_str rfl rfl, eqCells_int rfl rfl, eqCells_nil]
  simp only [ite_and_d, Prod.mk.injEq, and_true]
theorem eq_itm (x y : Itm) : eqaggv [(0, .int .u64), (1, .int .i64), (2, .int .i64), (3, .int .i64), (4, .int .u64), (5, .int .u64), (6, .int .u64), (7, .int .u64), (8, .int .u64), (9, .int .i64)] .neq (.agg (encI x).toArray) (.agg (encI y).toArray) = some (.bool !(decide (x = y))) := by
  obtain ⟨a, b, c, d, e, f, g, i, j, k⟩ := x
  obtain ⟨a', b', c', d', e', f', g', i', j', k'⟩ := y
  refine eqagg_ne ?_
  rw [eqCells_int rfl rfl, eqCells_int rfl rfl, eqCells_int rfl rfl, eqCells_int rfl rfl, eqCells_int rfl rfl, eqCells_int rfl rfl, eqCells_int rfl rfl, eqCells_int rfl rfl, eqCells_int rfl rfl, eqCells_int rfl rfl, eqCells_nil]
  simp only [ite_and_d, Itm.mk.injEq, and_true]
set_option linter.unusedSimpArgs false
set_option linter.unusedVariables false
set_option maxRecDepth 20000
set_option maxHeartbeats 4000000
attribute [local congr] BND_cg COND_cg GEF_cg
attribute [local irreducible] load1 loadn iaddr iaddra faddr storev newslice binv lookv mupd mdel mlenv mentry mestore slicev slicev3 slices indexs indexav textv rangev nexts clearv shiftv eqaggv convi buildv pickv lens lenl unv nilchk extractv partn JOIN
section
variable {w : World} {R : Value → World → Prop}
theorem r10_Rows {a b : Value} {xs ys : List Row} (ha : Arr encRow 2 w a xs) (hb : Arr encRow 2 w b ys) (hn : xs.length < 1000000000) (hR : ∀ w', Fr [] w w' → R (.bool (decide (xs = ys))) w') :
    CALL PR F_tumbrelref10_Rows [a, b] w R := by
  refine C_tumbrelref10_Rows ?_
  unfold M_tumbrelref10_Rows
  by_cases hl : xs.length = ys.length
  · (repeat (first | refine BND_step ha.len ?_ | refine BND_step hb.len ?_ | refine stp ?_ | (apply BND_inc; omega) | (apply BND_dec; omega) | refine BND_step rfl ?_ | (apply cyes; first | assumption | omega) | (apply cno; first | assumption | omega) | refine (COND_true _ _).2 ?_ | refine (COND_false _ _).2 ?_ | simp (disch := first | assumption | omega) only [gs1, gs2, decide_true, decide_false, eq_self, beq_self_eq_true, Bool.not_true, Bool.not_false]))
    refine loop_up 0 xs.length (fun i w' => Fr [] w w' ∧ xs.take i = ys.take i) ⟨Fr.refl _ _, rfl⟩ (by omega) ?_
    rintro i w1 - hi ⟨f1, e⟩ J m hJ
    by_cases hlt : i < xs.length
    · have hx := List.getElem?_eq_getElem hlt
      have hy := List.getElem?_eq_getElem (l := ys) (i := i) (by omega)
      have fd := f1.trans' (Fr.drew [] w1)
      obtain ⟨b1, o1, i1, n1, _, _⟩ := (ha.fr fd (by simp)).spot hx rfl .i64
      obtain ⟨b2, o2, i2, n2, _, _⟩ := (hb.fr fd (by simp)).spot hy rfl .i64
      (repeat (first | refine BND_step ha.len ?_ | refine BND_step i1 ?_ | refine BND_step i2 ?_ | refine BND_step n1 ?_ | refine BND_step n2 ?_ | refine BND_step (eq_row _ _) ?_ | refine stp ?_ | (apply BND_inc; omega) | (apply BND_dec; omega) | refine BND_step rfl ?_ | (apply cyes; first | assumption | omega) | (apply cno; first | assumption | omega) | refine (COND_true _ _).2 ?_ | refine (COND_false _ _).2 ?_ | simp (disch := first | assumption | omega) only [gs1, gs2, decide_true, decide_false, eq_self, beq_self_eq_true, Bool.not_true, Bool.not_false]))
      by_cases he : xs[i] = ys[i]
      · (repeat (first | refine stp ?_ | (apply BND_inc; omega) | (apply BND_dec; omega) | refine BND_step rfl ?_ | (apply cyes; first | assumption | omega) | (apply cno; first | assumption | omega) | refine (COND_true _ _).2 ?_ | refine (COND_false _ _).2 ?_ | simp (disch := first | assumption | omega) only [gs1, gs2, decide_true, decide_false, eq_self, beq_self_eq_true, Bool.not_true, Bool.not_false]))
        refine hJ _ hlt ⟨fd, ?_⟩
        rw [List.take_add_one, List.take_add_one, hx, hy, e, he]
      · (repeat (first | refine stp ?_ | (apply BND_inc; omega) | (apply BND_dec; omega) | refine BND_step rfl ?_ | (apply cyes; first | assumption | omega) | (apply cno; first | assumption | omega) | refine (COND_true _ _).2 ?_ | refine (COND_false _ _).2 ?_ | simp (disch := first | assumption | omega) only [gs1, gs2, decide_true, decide_false, eq_self, beq_self_eq_true, Bool.not_true, Bool.not_false]))
        have := hR _ fd
        rwa [decide_eq_false (fun h => he (by subst h; rfl))] at this
    · (repeat (first | refine BND_step ha.len ?_ | refine stp ?_ | (apply BND_inc; omega) | (apply BND_dec; omega) | refine BND_step rfl ?_ | (apply cyes; first | assumption | omega) | (apply cno; first | assumption | omega) | refine (COND_true _ _).2 ?_ | refine (COND_false _ _).2 ?_ | simp (disch := first | assumption | omega) only [gs1, gs2, decide_true, decide_false, eq_self, beq_self_eq_true, Bool.not_true, Bool.not_false]))
      have := hR _ f1
      rw [List.take_of_length_le (by omega), List.take_of_length_le (by omega)] at e
      rwa [decide_eq_true e] at this
  · (repeat (first | refine BND_step ha.len ?_ | refine BND_step hb.len ?_ | refine stp ?_ | (apply BND_inc; omega) | (apply BND_dec; omega) | refine BND_step rfl ?_ | (apply cyes; first | assumption | omega) | (apply cno; first | assumption | omega) | refine (COND_true _ _).2 ?_ | refine (COND_false _ _).2 ?_ | simp (disch := first | assumption | omega) only [gs1, gs2, decide_true, decide_false, eq_self, beq_self_eq_true, Bool.not_true, Bool.not_false]))
    have := hR _ (Fr.refl _ _)
    rwa [decide_eq_false (fun h => hl (by rw [h]))] at this
theorem r10_Cursors {a b : Value} {xs ys : List Cur} (ha : Arr encC 2 w a xs) (hb : Arr encC 2 w b ys) (hn : xs.length < 1000000000) (hR : ∀ w', Fr [] w w' → R (.bool (decide (xs = ys))) w') :
    CALL PR F_tumbrelref10_Cursors [a, b] w R := by
  refine C_tumbrelref10_Cursors ?_
  unfold M_tumbrelref10_Cursors
  by_cases hl : xs.length = ys.length
  · (repeat (first | refine BND_step ha.len ?_ | refine BND_step hb.len ?_ | refine stp ?_ | (apply BND_inc; omega) | (apply BND_dec; omega) | refine BND_step rfl ?_ | (apply cyes; first | assumption | omega) | (apply cno; first | assumption | omega) | refine (COND_true _ _).2 ?_ | refine (COND_false _ _).2 ?_ | simp (disch := first | assumption | omega) only [gs1, gs2, decide_true, decide_false, eq_self, beq_self_eq_true, Bool.not_true, Bool.not_false]))
    refine loop_up 0 xs.length (fun i w' => Fr [] w w' ∧ xs.take i = ys.take i) ⟨Fr.refl _ _, rfl⟩ (by omega) ?_
    rintro i w1 - hi ⟨f1, e⟩ J m hJ
    by_cases hlt : i < xs.length
    · have hx := List.getElem?_eq_getElem hlt
      have hy := List.getElem?_eq_getElem (l := ys) (i := i) (by omega)
      have fd := f1.trans' (Fr.drew [] w1)
      obtain ⟨b1, o1, i1, n1, _, _⟩ := (ha.fr fd (by simp)).spot hx rfl .i64
      obtain ⟨b2, o2, i2, n2, _, _⟩ := (hb.fr fd (by simp)).spot hy rfl .i64
      (repeat (first | refine BND_step ha.len ?_ | refine BND_step i1 ?_ | refine BND_step i2 ?_ | refine BND_step n1 ?_ | refine BND_step n2 ?_ | refine BND_step (eq_cur _ _) ?_ | refine stp ?_ | (apply BND_inc; omega) | (apply BND_dec; omega) | refine BND_step rfl ?_ | (apply cyes; first | assumption | omega) | (apply cno; first | assumption | omega) | refine (COND_true _ _).2 ?_ | refine (COND_false _ _).2 ?_ | simp (disch := first | assumption | omega) only [gs1, gs2, decide_true, decide_false, eq_self, beq_self_eq_true, Bool.not_true, Bool.not_false]))
      by_cases he : xs[i] = ys[i]
      · (repeat (first | refine stp ?_ | (apply BND_inc; omega) | (apply BND_dec; omega) | refine BND_step rfl ?_ | (apply cyes; first | assumption | omega) | (apply cno; first | assumption | omega) | refine (COND_true _ _).2 ?_ | refine (COND_false _ _).2 ?_ | simp (disch := first | assumption | omega) only [gs1, gs2, decide_true, decide_false, eq_self, beq_self_eq_true, Bool.not_true, Bool.not_false]))
        refine hJ _ hlt ⟨fd, ?_⟩
        rw [List.take_add_one, List.take_add_one, hx, hy, e, he]
      · (repeat (first | refine stp ?_ | (apply BND_inc; omega) | (apply BND_dec; omega) | refine BND_step rfl ?_ | (apply cyes; first | assumption | omega) | (apply cno; first | assumption | omega) | refine (COND_true _ _).2 ?_ | refine (COND_false _ _).2 ?_ | simp (disch := first | assumption | omega) only [gs1, gs2, decide_true, decide_false, eq_self, beq_self_eq_true, Bool.not_true, Bool.not_false]))
        have := hR _ fd
        rwa [decide_eq_false (fun h => he (by subst h; rfl))] at this
    · (repeat (first | refine BND_step ha.len ?_ | refine stp ?_ | (apply BND_inc; omega) | (apply BND_dec; omega) | refine BND_step rfl ?_ | (apply cyes; first | assumption | omega) | (apply cno; first | assumption | omega) | refine (COND_true _ _).2 ?_ | refine (COND_false _ _).2 ?_ | simp (disch := first | assumption | omega) only [gs1, gs2, decide_true, decide_false, eq_self, beq_self_eq_true, Bool.not_true, Bool.not_false]))
      have := hR _ f1
      rw [List.take_of_length_le (by omega), List.take_of_length_le (by omega)] at e
      rwa [decide_eq_true e] at this
  · (repeat (first | refine BND_step ha.len ?_ | refine BND_step hb.len ?_ | refine stp ?_ | (apply BND_inc; omega) | (apply BND_dec; omega) | refine BND_step rfl ?_ | (apply cyes; first | assumption | omega) | (apply cno; first | assumption | omega) | refine (COND_true _ _).2 ?_ | refine (COND_false _ _).2 ?_ | simp (disch := first | assumption | omega) only [gs1, gs2, decide_true, decide_false, eq_self, beq_self_eq_true, Bool.not_true, Bool.not_false]))
    have := hR _ (Fr.refl _ _)
    rwa [decide_eq_false (fun h => hl (by rw [h]))] at this
theorem snap_ext {s t : SnapL} : s = t ↔ s.now = t.now ∧ s.next = t.next ∧ s.leases = t.leases ∧ s.turns = t.turns ∧ s.deaths = t.deaths ∧ s.items = t.items ∧ s.dead = t.dead ∧ s.curs = t.curs ∧ s.seg = t.seg ∧ s.at_ = t.at_ := by
  cases s; cases t; simp [SnapL.mk.injEq]
theorem r11_Same {s t : SnapL} {iv dv cv iv' dv' cv' : Value} (h : SnV w s iv dv cv) (h' : SnV w t iv' dv' cv') (hi : s.items.length < 1000000) (hd : s.dead.length < 1000000) (hc : s.curs.length < 1000000)
    (hR : ∀ w', Fr [] w w' → ∀ B : Bool, (s.seg = t.seg → s.at_ = t.at_ → B = decide (s = t)) → (B = false → s ≠ t) → R (.bool B) w') :
    CALL PR F_tumbrelref11_Same [.agg (stC s iv dv cv).toArray, .agg (stC t iv' dv' cv').toArray] w R := by
  refine C_tumbrelref11_Same ?_
  unfold M_tumbrelref11_Same
  refine NEW_intro fun w1 b1 f1 z1 => NEW_intro fun w2 b2 f2 z2 => ?_
  obtain ⟨T1, b1⟩ : ∃ T, blk w2 (hsz w) = some (.cells (stC s iv dv cv).toArray T (0, 0)) := ⟨_, f2.some (by simp) b1⟩
  obtain ⟨T2, b2⟩ : ∃ T, blk w2 (hsz w1) = some (.cells (stC t iv' dv' cv').toArray T (0, 0)) := ⟨_, b2⟩
  have f02 := f1.trans' f2
  have h2 := h.fr0 f02
  have h2' := h'.fr0 f02
  have no : ∀ w', Fr [] w w' → s ≠ t → R (.bool false) w' := fun w' f hne => hR w' f false (fun _ _ => by simp [hne]) (fun _ => hne)
  (repeat (first | (apply BND_ld b1; exact rfl) | (apply BND_ld b2; exact rfl) | refine stp ?_ | (apply BND_inc; omega) | (apply BND_dec; omega) | refine BND_step rfl ?_ | (apply cyes; first | assumption | omega) | (apply cno; first | assumption | omega) | refine (COND_true _ _).2 ?_ | refine (COND_false _ _).2 ?_ | simp (disch := first | assumption | omega) only [gs1, gs2, decide_true, decide_false, eq_self, beq_self_eq_true, Bool.not_true, Bool.not_false]))
  by_cases q1 : s.now = t.now
  rotate_left
  · (repeat (first | refine stp ?_ | (apply BND_inc; omega) | (apply BND_dec; omega) | refine BND_step rfl ?_ | (apply cyes; first | assumption | omega) | (apply cno; first | assumption | omega) | refine (COND_true _ _).2 ?_ | refine (COND_false _ _).2 ?_ | simp (disch := first | assumption | omega) only [gs1, gs2, decide_true, decide_false, eq_self, beq_self_eq_true, Bool.not_true, Bool.not_false]))
    exact no _ f02 fun e => q1 (by rw [e])
  (repeat (first | (apply BND_ld b1; exact rfl) | (apply BND_ld b2; exact rfl) | refine stp ?_ | (apply BND_inc; omega) | (apply BND_dec; omega) | refine BND_step rfl ?_ | (apply cyes; first | assumption | omega) | (apply cno; first | assumption | omega) | refine (COND_true _ _).2 ?_ | refine (COND_false _ _).2 ?_ | simp (disch := first | assumption | omega) only [gs1, gs2, decide_true, decide_false, eq_self, beq_self_eq_true, Bool.not_true, Bool.not_false]))
  by_cases q2 : s.next = t.next
  rotate_left
  · (repeat (first | refine stp ?_ | (apply BND_inc; omega) | (apply BND_dec; omega) | refine BND_step rfl ?_ | (apply cyes; first | assumption | omega) | (apply cno; first | assumption | omega) | refine (COND_true _ _).2 ?_ | refine (COND_false _ _).2 ?_ | simp (disch := first | assumption | omega) only [gs1, gs2, decide_true, decide_false, eq_self, beq_self_eq_true, Bool.not_true, Bool.not_false]))
    exact no _ f02 fun e => q2 (by rw [e])
  (repeat (first | (apply BND_ld b1; exact rfl) | (apply BND_ld b2; exact rfl) | refine stp ?_ | (apply BND_inc; omega) | (apply BND_dec; omega) | refine BND_step rfl ?_ | (apply cyes; first | assumption | omega) | (apply cno; first | assumption | omega) | refine (COND_true _ _).2 ?_ | refine (COND_false _ _).2 ?_ | simp (disch := first | assumption | omega) only [gs1, gs2, decide_true, decide_false, eq_self, beq_self_eq_true, Bool.not_true, Bool.not_false]))
  by_cases q3 : s.leases = t.leases
  rotate_left
  · (repeat (first | refine stp ?_ | (apply BND_inc; omega) | (apply BND_dec; omega) | refine BND_step rfl ?_ | (apply cyes; first | assumption | omega) | (apply cno; first | assumption | omega) | refine (COND_true _ _).2 ?_ | refine (COND_false _ _).2 ?_ | simp (disch := first | assumption | omega) only [gs1, gs2, decide_true, decide_false, eq_self, beq_self_eq_true, Bool.not_true, Bool.not_false]))
    exact no _ f02 fun e => q3 (by rw [e])
  (repeat (first | (apply BND_ld b1; exact rfl) | (apply BND_ld b2; exact rfl) | refine stp ?_ | (apply BND_inc; omega) | (apply BND_dec; omega) | refine BND_step rfl ?_ | (apply cyes; first | assumption | omega) | (apply cno; first | assumption | omega) | refine (COND_true _ _).2 ?_ | refine (COND_false _ _).2 ?_ | simp (disch := first | assumption | omega) only [gs1, gs2, decide_true, decide_false, eq_self, beq_self_eq_true, Bool.not_true, Bool.not_false]))
  by_cases q4 : s.turns = t.turns
  rotate_left
  · (repeat (first | refine stp ?_ | (apply BND_inc; omega) | (apply BND_dec; omega) | refine BND_step rfl ?_ | (apply cyes; first | assumption | omega) | (apply cno; first | assumption | omega) | refine (COND_true _ _).2 ?_ | refine (COND_false _ _).2 ?_ | simp (disch := first | assumption | omega) only [gs1, gs2, decide_true, decide_false, eq_self, beq_self_eq_true, Bool.not_true, Bool.not_false]))
    exact no _ f02 fun e => q4 (by rw [e])
  (repeat (first | (apply BND_ld b1; exact rfl) | (apply BND_ld b2; exact rfl) | refine stp ?_ | (apply BND_inc; omega) | (apply BND_dec; omega) | refine BND_step rfl ?_ | (apply cyes; first | assumption | omega) | (apply cno; first | assumption | omega) | refine (COND_true _ _).2 ?_ | refine (COND_false _ _).2 ?_ | simp (disch := first | assumption | omega) only [gs1, gs2, decide_true, decide_false, eq_self, beq_self_eq_true, Bool.not_true, Bool.not_false]))
  by_cases q5 : s.deaths = t.deaths
  rotate_left
  · (repeat (first | refine stp ?_ | (apply BND_inc; omega) | (apply BND_dec; omega) | refine BND_step rfl ?_ | (apply cyes; first | assumption | omega) | (apply cno; first | assumption | omega) | refine (COND_true _ _).2 ?_ | refine (COND_false _ _).2 ?_ | simp (disch := first | assumption | omega) only [gs1, gs2, decide_true, decide_false, eq_self, beq_self_eq_true, Bool.not_true, Bool.not_false]))
    exact no _ f02 fun e => q5 (by rw [e])
  (repeat (first | (apply BND_ld b1; exact rfl) | (apply BND_ld b2; exact rfl) | refine BND_step h2.i.len ?_ | refine BND_step h2'.i.len ?_ | refine stp ?_ | (apply BND_inc; omega) | (apply BND_dec; omega) | refine BND_step rfl ?_ | (apply cyes; first | assumption | omega) | (apply cno; first | assumption | omega) | refine (COND_true _ _).2 ?_ | refine (COND_false _ _).2 ?_ | simp (disch := first | assumption | omega) only [gs1, gs2, decide_true, decide_false, eq_self, beq_self_eq_true, Bool.not_true, Bool.not_false]))
  by_cases q6 : s.items.length = t.items.length
  rotate_left
  · (repeat (first | refine stp ?_ | (apply BND_inc; omega) | (apply BND_dec; omega) | refine BND_step rfl ?_ | (apply cyes; first | assumption | omega) | (apply cno; first | assumption | omega) | refine (COND_true _ _).2 ?_ | refine (COND_false _ _).2 ?_ | simp (disch := first | assumption | omega) only [gs1, gs2, decide_true, decide_false, eq_self, beq_self_eq_true, Bool.not_true, Bool.not_false]))
    exact no _ f02 fun e => q6 (by rw [e])
  (repeat (first | refine stp ?_ | (apply BND_inc; omega) | (apply BND_dec; omega) | refine BND_step rfl ?_ | (apply cyes; first | assumption | omega) | (apply cno; first | assumption | omega) | refine (COND_true _ _).2 ?_ | refine (COND_false _ _).2 ?_ | simp (disch := first | assumption | omega) only [gs1, gs2, decide_true, decide_false, eq_self, beq_self_eq_true, Bool.not_true, Bool.not_false]))
  refine loop_up 0 s.items.length (fun i w' => Fr [] w2 w' ∧ s.items.take i = t.items.take i) ⟨Fr.refl _ _, rfl⟩ (by omega) ?_
  rintro i w3 - hil ⟨f3, e⟩ J m hJ
  have c1 := f3.some (by simp) b1
  have c2 := f3.some (by simp) b2
  (repeat (first | (apply BND_ld c1; exact rfl) | refine BND_step h2.i.len ?_ | refine stp ?_ | (apply BND_inc; omega) | (apply BND_dec; omega) | refine BND_step rfl ?_ | (apply cyes; first | assumption | omega) | (apply cno; first | assumption | omega) | refine (COND_true _ _).2 ?_ | refine (COND_false _ _).2 ?_ | simp (disch := first | assumption | omega) only [gs1, gs2, decide_true, decide_false, eq_self, beq_self_eq_true, Bool.not_true, Bool.not_false]))
  by_cases hlt : i < s.items.length
  · have hx := List.getElem?_eq_getElem hlt
    have hy := List.getElem?_eq_getElem (l := t.items) (i := i) (by omega)
    have fd := f3.trans' (Fr.drew [] w3)
    have c1d := fd.some (by simp) b1
    have c2d := fd.some (by simp) b2
    obtain ⟨B1, o1, i1, n1, _, _⟩ := (h2.i.fr fd (by simp)).spot hx rfl .i64
    obtain ⟨B2, o2, i2, n2, _, _⟩ := (h2'.i.fr fd (by simp)).spot hy rfl .i64
    (repeat (first | (apply BND_ld c1d; exact rfl) | (apply BND_ld c2d; exact rfl) | refine BND_step i1 ?_ | refine BND_step i2 ?_ | refine BND_step n1 ?_ | refine BND_step n2 ?_ | refine BND_step (eq_itm _ _) ?_ | refine stp ?_ | (apply BND_inc; omega) | (apply BND_dec; omega) | refine BND_step rfl ?_ | (apply cyes; first | assumption | omega) | (apply cno; first | assumption | omega) | refine (COND_true _ _).2 ?_ | refine (COND_false _ _).2 ?_ | simp (disch := first | assumption | omega) only [gs1, gs2, decide_true, decide_false, eq_self, beq_self_eq_true, Bool.not_true, Bool.not_false]))
    by_cases he : s.items[i] = t.items[i]
    · (repeat (first | refine stp ?_ | (apply BND_inc; omega) | (apply BND_dec; omega) | refine BND_step rfl ?_ | (apply cyes; first | assumption | omega) | (apply cno; first | assumption | omega) | refine (COND_true _ _).2 ?_ | refine (COND_false _ _).2 ?_ | simp (disch := first | assumption | omega) only [gs1, gs2, decide_true, decide_false, eq_self, beq_self_eq_true, Bool.not_true, Bool.not_false]))
      refine hJ _ hlt ⟨fd, ?_⟩
      rw [List.take_add_one, List.take_add_one, hx, hy, e, he]
    · (repeat (first | refine stp ?_ | (apply BND_inc; omega) | (apply BND_dec; omega) | refine BND_step rfl ?_ | (apply cyes; first | assumption | omega) | (apply cno; first | assumption | omega) | refine (COND_true _ _).2 ?_ | refine (COND_false _ _).2 ?_ | simp (disch := first | assumption | omega) only [gs1, gs2, decide_true, decide_false, eq_self, beq_self_eq_true, Bool.not_true, Bool.not_false]))
      refine no _ (f02.trans' fd) fun h => he ?_
      have hh : s.items[i]? = t.items[i]? := by rw [h]
      rw [hx, hy] at hh
      exact Option.some.inj hh
  · rw [List.take_of_length_le (by omega), List.take_of_length_le (by omega)] at e
    (repeat (first | (apply BND_ld c1; exact rfl) | (apply BND_ld c2; exact rfl) | refine stp ?_ | (apply BND_inc; omega) | (apply BND_dec; omega) | refine BND_step rfl ?_ | (apply cyes; first | assumption | omega) | (apply cno; first | assumption | omega) | refine (COND_true _ _).2 ?_ | refine (COND_false _ _).2 ?_ | simp (disch := first | assumption | omega) only [gs1, gs2, decide_true, decide_false, eq_self, beq_self_eq_true, Bool.not_true, Bool.not_false]))
    have h3 := h2.fr0 f3
    have h3' := h2'.fr0 f3
    refine r10_Rows h3.d h3'.d (by omega) fun w4 f4 => ?_
    have d1 := f4.some (by simp) c1
    have d2 := f4.some (by simp) c2
    have f04 := (f02.trans' f3).trans' f4
    by_cases q7 : s.dead = t.dead
    rotate_left
    · (repeat (first | refine stp ?_ | (apply BND_inc; omega) | (apply BND_dec; omega) | refine BND_step rfl ?_ | (apply cyes; first | assumption | omega) | (apply cno; first | assumption | omega) | refine (COND_true _ _).2 ?_ | refine (COND_false _ _).2 ?_ | simp (disch := first | assumption | omega) only [gs1, gs2, decide_true, decide_false, eq_self, beq_self_eq_true, Bool.not_true, Bool.not_false]))
      exact no _ f04 fun e => q7 (by rw [e])
    (repeat (first | (apply BND_ld d1; exact rfl) | (apply BND_ld d2; exact rfl) | refine stp ?_ | (apply BND_inc; omega) | (apply BND_dec; omega) | refine BND_step rfl ?_ | (apply cyes; first | assumption | omega) | (apply cno; first | assumption | omega) | refine (COND_true _ _).2 ?_ | refine (COND_false _ _).2 ?_ | simp (disch := first | assumption | omega) only [gs1, gs2, decide_true, decide_false, eq_self, beq_self_eq_true, Bool.not_true, Bool.not_false]))
    refine r10_Cursors (h3.fr0 f4).c (h3'.fr0 f4).c (by omega) fun w5 f5 => ?_
    (repeat (first | refine stp ?_ | (apply BND_inc; omega) | (apply BND_dec; omega) | refine BND_step rfl ?_ | (apply cyes; first | assumption | omega) | (apply cno; first | assumption | omega) | refine (COND_true _ _).2 ?_ | refine (COND_false _ _).2 ?_ | simp (disch := first | assumption | omega) only [gs1, gs2, decide_true, decide_false, eq_self, beq_self_eq_true, Bool.not_true, Bool.not_false]))
    refine hR _ (f04.trans' f5) _ (fun hs ha => ?_) fun hf => ?_
    · rw [decide_eq_decide, snap_ext]
      simp [q1, q2, q3, q4, q5, e, q7, hs, ha]
    · intro hst
      simp [hst] at hf
theorem r13_Same {s t : SnapL} {iv dv cv iv' dv' cv' : Value} (h : SnV w s iv dv cv) (h' : SnV w t iv' dv' cv') (hi : s.items.length < 1000000) (hd : s.dead.length < 1000000) (hc : s.curs.length < 1000000) (hR : ∀ w', Fr [] w w' → R (.bool (decide (s = t))) w') :
    CALL PR F_tumbrelref13_Same [.agg (snC s iv dv cv).toArray, .agg (snC t iv' dv' cv').toArray] w R := by
  refine C_tumbrelref13_Same ?_
  unfold M_tumbrelref13_Same
  refine NEW_intro fun w1 b1 f1 z1 => NEW_intro fun w2 b2 f2 z2 => ?_
  obtain ⟨T1, b1⟩ : ∃ T, blk w2 (hsz w) = some (.cells (snC s iv dv cv).toArray T (0, 0)) := ⟨_, f2.some (by simp) b1⟩
  obtain ⟨T2, b2⟩ : ∃ T, blk w2 (hsz w1) = some (.cells (snC t iv' dv' cv').toArray T (0, 0)) := ⟨_, b2⟩
  have f02 := f1.trans' f2
  have l1 : loadn 8 w2 (.pointer (some ⟨hsz w, 0 + 0, none⟩)) = some (.agg (stC s iv dv cv).toArray) := by
    rw [loadn_blk b1 (by simp [snC, stC])]; rfl
  have l2 : loadn 8 w2 (.pointer (some ⟨hsz w1, 0 + 0, none⟩)) = some (.agg (stC t iv' dv' cv').toArray) := by
    rw [loadn_blk b2 (by simp [snC, stC])]; rfl
  (repeat (first | refine BND_step l1 ?_ | refine BND_step l2 ?_ | refine stp ?_ | (apply BND_inc; omega) | (apply BND_dec; omega) | refine BND_step rfl ?_ | (apply cyes; first | assumption | omega) | (apply cno; first | assumption | omega) | refine (COND_true _ _).2 ?_ | refine (COND_false _ _).2 ?_ | simp (disch := first | assumption | omega) only [gs1, gs2, decide_true, decide_false, eq_self, beq_self_eq_true, Bool.not_true, Bool.not_false]))
  refine r11_Same (h.fr0 f02) (h'.fr0 f02) hi hd hc fun w3 f3 B hB1 hB0 => ?_
  have c1 := f3.some (by simp) b1
  have c2 := f3.some (by simp) b2
  have f03 := f02.trans' f3
  cases B with
  | false =>
    (repeat (first | refine stp ?_ | (apply BND_inc; omega) | (apply BND_dec; omega) | refine BND_step rfl ?_ | (apply cyes; first | assumption | omega) | (apply cno; first | assumption | omega) | refine (COND_true _ _).2 ?_ | refine (COND_false _ _).2 ?_ | simp (disch := first | assumption | omega) only [gs1, gs2, decide_true, decide_false, eq_self, beq_self_eq_true, Bool.not_true, Bool.not_false]))
    have := hR _ f03
    rwa [decide_eq_false (hB0 rfl)] at this
  | true =>
    (repeat (first | (apply BND_ld c1; exact rfl) | (apply BND_ld c2; exact rfl) | refine stp ?_ | (apply BND_inc; omega) | (apply BND_dec; omega) | refine BND_step rfl ?_ | (apply cyes; first | assumption | omega) | (apply cno; first | assumption | omega) | refine (COND_true _ _).2 ?_ | refine (COND_false _ _).2 ?_ | simp (disch := first | assumption | omega) only [gs1, gs2, decide_true, decide_false, eq_self, beq_self_eq_true, Bool.not_true, Bool.not_false]))
    by_cases q8 : s.seg = t.seg
    rotate_left
    · (repeat (first | refine stp ?_ | (apply BND_inc; omega) | (apply BND_dec; omega) | refine BND_step rfl ?_ | (apply cyes; first | assumption | omega) | (apply cno; first | assumption | omega) | refine (COND_true _ _).2 ?_ | refine (COND_false _ _).2 ?_ | simp (disch := first | assumption | omega) only [gs1, gs2, decide_true, decide_false, eq_self, beq_self_eq_true, Bool.not_true, Bool.not_false]))
      have := hR _ f03
      rwa [decide_eq_false (fun e => q8 (by rw [e]))] at this
    (repeat (first | (apply BND_ld c1; exact rfl) | (apply BND_ld c2; exact rfl) | refine stp ?_ | (apply BND_inc; omega) | (apply BND_dec; omega) | refine BND_step rfl ?_ | (apply cyes; first | assumption | omega) | (apply cno; first | assumption | omega) | refine (COND_true _ _).2 ?_ | refine (COND_false _ _).2 ?_ | simp (disch := first | assumption | omega) only [gs1, gs2, decide_true, decide_false, eq_self, beq_self_eq_true, Bool.not_true, Bool.not_false]))
    have := hR _ f03
    by_cases q9 : s.at_ = t.at_
    · rw [← hB1 q8 q9] at this
      simpa [q9] using this
    · rw [decide_eq_false (fun e => q9 (by rw [e]))] at this
      simpa [q9] using this
end
end Go.Proofs.Ytkifjfjhghogjaa
