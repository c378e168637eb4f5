/- What the laws make of records and snapshots: the document's own ones. No condition but sizes. -/
import Derived.Test.YtkifjfjhghogjaaSnapPlain
import Derived.Test.YtkifjfjhghogjaaMa
namespace Go.Proofs.Ytkifjfjhghogjaa
open Go.Den
set_option linter.unusedSimpArgs false
set_option linter.unusedVariables false
set_option maxRecDepth 20000
set_option maxHeartbeats 4000000
attribute [local congr] BND_cg COND_cg GEF_cg
attribute [local irreducible] load1 loadn iaddr iaddra faddr storev newslice binv lookv mupd mdel mlenv mentry mestore slicev slicev3 slices indexs indexav textv rangev nexts clearv shiftv eqaggv convi buildv pickv lens lenl unv nilchk extractv partn JOIN
section
variable {w : World} {R : Value → World → Prop}
theorem lw_owns {a : Value} {ls : List LRec} (h : RecsR w a ls) (hn : ls.length < 1000000) (hR : ∀ v w', RecsR w' v ls → Fr [] w w' → R v w') : CALL PR F_tumbrellaw13_owns [a] w R := by
  refine C_tumbrellaw13_owns ?_
  unfold M_tumbrellaw13_owns
  have hl := h.len
  obtain ⟨rs, h1, h2, h3, h4⟩ := h
  refine newnil_step encR fun v0 w1 s1 f1 z1 => ?_
  (repeat (first | refine BND_step hl ?_ | refine stp ?_ | (apply BND_inc; omega) | (apply BND_dec; omega) | refine BND_step rfl ?_ | (apply cyes; first | assumption | omega) | (apply cno; first | assumption | omega) | refine (COND_true _ _).2 ?_ | refine (COND_false _ _).2 ?_ | simp (disch := first | assumption | omega) only [gs1, gs2, decide_true, decide_false, eq_self, beq_self_eq_true, Bool.not_true, Bool.not_false]))
  have st1 : At w [] (stars [slc encR 3 v0 (rs.take 0)]) w1 := (At.nothing w).add f1 (P := slc encR 3 v0 (rs.take 0)) s1 (by simp)
  refine loop_up2 0 ls.length (fun o i w' => At w [] (stars [slc encR 3 o (rs.take i)]) w') st1 (by omega) ?_
  rintro o i w2 - hi st J m hJ
  by_cases hlt : i < ls.length
  · have hx := List.getElem?_eq_getElem (l := rs) (i := i) (by omega)
    generalize rs[i] = r at hx
    obtain ⟨b, oo, ia, ln, _, _⟩ := (h1.fr st.frame (by simp)).spot hx rfl .i64
    (repeat (first | refine BND_step ia ?_ | refine BND_step ln ?_ | refine stp ?_ | (apply BND_inc; omega) | (apply BND_dec; omega) | refine BND_step rfl ?_ | (apply cyes; first | assumption | omega) | (apply cno; first | assumption | omega) | refine (COND_true _ _).2 ?_ | refine (COND_false _ _).2 ?_ | simp (disch := first | assumption | omega) only [gs1, gs2, decide_true, decide_false, eq_self, beq_self_eq_true, Bool.not_true, Bool.not_false]))
    refine box_step rfl rfl (encR_one r) (by simp [encR]) fun w4 b4 f4 z4 => ?_
    (repeat (first | (apply BND_step; exact (loadn_all b4 rfl)) | refine stp ?_ | (apply BND_inc; omega) | (apply BND_dec; omega) | refine BND_step rfl ?_ | (apply cyes; first | assumption | omega) | (apply cno; first | assumption | omega) | refine (COND_true _ _).2 ?_ | refine (COND_false _ _).2 ?_ | simp (disch := first | assumption | omega) only [gs1, gs2, decide_true, decide_false, eq_self, beq_self_eq_true, Bool.not_true, Bool.not_false]))
    refine newone_step encR_len rfl fun u w5 s5 f5 z5 => ?_
    refine ((st.fr0 f4).fr0 f5).append (i := 0) rfl (s5.loads encR_len) encR_len encR_one rfl (by omega) (by simp; omega) fun v6 w6 st6 _ => ?_
    (repeat (first | refine stp ?_ | (apply BND_inc; omega) | (apply BND_dec; omega) | refine BND_step rfl ?_ | (apply cyes; first | assumption | omega) | (apply cno; first | assumption | omega) | refine (COND_true _ _).2 ?_ | refine (COND_false _ _).2 ?_ | simp (disch := first | assumption | omega) only [gs1, gs2, decide_true, decide_false, eq_self, beq_self_eq_true, Bool.not_true, Bool.not_false]))
    refine hJ _ _ hlt ?_
    rw [List.take_add_one, hx]; exact st6
  · (repeat (first | refine stp ?_ | (apply BND_inc; omega) | (apply BND_dec; omega) | refine BND_step rfl ?_ | (apply cyes; first | assumption | omega) | (apply cno; first | assumption | omega) | refine (COND_true _ _).2 ?_ | refine (COND_false _ _).2 ?_ | simp (disch := first | assumption | omega) only [gs1, gs2, decide_true, decide_false, eq_self, beq_self_eq_true, Bool.not_true, Bool.not_false]))
    rw [List.take_of_length_le (by omega)] at st
    obtain ⟨F, s, _⟩ := st.slc1 (i := 0) rfl
    exact hR _ _ ⟨rs, s.arr, h2, fun i r l hr hl => (h3 i r l hr hl).fr st.frame (by simp), s.capd⟩ st.frame
theorem lw_items {a : Value} {xs : List Itm} (h : Arr encI 10 w a xs) (hn : xs.length * 80 ≤ 140737488351232) (hR : ∀ v w' F, Slc encI 10 w' v xs F → (∀ b ∈ F, hsz w ≤ b) → Fr [] w w' → R v w') : CALL PR F_tumbrellaw13_items [a] w R := by
  refine C_tumbrellaw13_items ?_
  unfold M_tumbrellaw13_items
  (repeat (first | refine BND_step h.len ?_ | refine stp ?_ | (apply BND_inc; omega) | (apply BND_dec; omega) | refine BND_step rfl ?_ | (apply cyes; first | assumption | omega) | (apply cno; first | assumption | omega) | refine (COND_true _ _).2 ?_ | refine (COND_false _ _).2 ?_ | simp (disch := first | assumption | omega) only [gs1, gs2, decide_true, decide_false, eq_self, beq_self_eq_true, Bool.not_true, Bool.not_false]))
  have st1 : At w [] (stars [slc encI 10 (.slice none 0 0) (xs.take 0)]) w := (At.nothing w).add0 (P := slc encI 10 (.slice none 0 0) []) (Slc.nil _ _ _)
  refine loop_up2 0 xs.length (fun o i w' => At w [] (stars [slc encI 10 o (xs.take i)]) w') st1 (by omega) ?_
  rintro o i w2 - hi st J m hJ
  by_cases hlt : i < xs.length
  · have hx := List.getElem?_eq_getElem hlt
    generalize xs[i] = x at hx
    obtain ⟨b, oo, ia, ln, _, _⟩ := (h.fr st.frame (by simp)).spot hx rfl .i64
    (repeat (first | refine BND_step ia ?_ | refine BND_step ln ?_ | refine stp ?_ | (apply BND_inc; omega) | (apply BND_dec; omega) | refine BND_step rfl ?_ | (apply cyes; first | assumption | omega) | (apply cno; first | assumption | omega) | refine (COND_true _ _).2 ?_ | refine (COND_false _ _).2 ?_ | simp (disch := first | assumption | omega) only [gs1, gs2, decide_true, decide_false, eq_self, beq_self_eq_true, Bool.not_true, Bool.not_false]))
    refine box_step rfl rfl (encI_one x) (by simp [encI]) fun w4 b4 f4 z4 => ?_
    obtain ⟨TB, b4⟩ : ∃ T, blk w4 (hsz w2) = some (.cells (encI x).toArray T (0, 0)) := ⟨_, b4⟩
    have hl4 : loadn 4 w4 (.pointer (some ⟨hsz w2, 0 + 2, none⟩)) = some (.agg [.int .i64 x.status, .int .i64 x.count, .int .u64 x.due, .int .u64 x.token].toArray) := by
      rw [loadn_blk b4 (by simp [encI])]
      rfl
    have hl3 : loadn 3 w4 (.pointer (some ⟨hsz w2, 0 + 7, none⟩)) = some (.agg [.int .u64 x.seg, .int .u64 x.at_, .int .i64 x.size].toArray) := by
      rw [loadn_blk b4 (by simp [encI])]
      rfl
    (repeat (first | (apply BND_ld b4; exact rfl) | refine BND_step hl4 ?_ | refine BND_step hl3 ?_ | (apply BND_build (encI x); exact rfl) | refine stp ?_ | (apply BND_inc; omega) | (apply BND_dec; omega) | refine BND_step rfl ?_ | (apply cyes; first | assumption | omega) | (apply cno; first | assumption | omega) | refine (COND_true _ _).2 ?_ | refine (COND_false _ _).2 ?_ | simp (disch := first | assumption | omega) only [gs1, gs2, decide_true, decide_false, eq_self, beq_self_eq_true, Bool.not_true, Bool.not_false]))
    refine newone_step encI_len rfl fun u w5 s5 f5 z5 => ?_
    refine ((st.fr0 f4).fr0 f5).append2 (i := 0) rfl (s5.loads encI_len) encI_len encI_one rfl (by simp; omega) (by simp; omega) fun v6 w6 st6 _ => ?_
    (repeat (first | refine stp ?_ | (apply BND_inc; omega) | (apply BND_dec; omega) | refine BND_step rfl ?_ | (apply cyes; first | assumption | omega) | (apply cno; first | assumption | omega) | refine (COND_true _ _).2 ?_ | refine (COND_false _ _).2 ?_ | simp (disch := first | assumption | omega) only [gs1, gs2, decide_true, decide_false, eq_self, beq_self_eq_true, Bool.not_true, Bool.not_false]))
    refine hJ _ _ hlt ?_
    rw [List.take_add_one, hx]; exact st6
  · (repeat (first | refine stp ?_ | (apply BND_inc; omega) | (apply BND_dec; omega) | refine BND_step rfl ?_ | (apply cyes; first | assumption | omega) | (apply cno; first | assumption | omega) | refine (COND_true _ _).2 ?_ | refine (COND_false _ _).2 ?_ | simp (disch := first | assumption | omega) only [gs1, gs2, decide_true, decide_false, eq_self, beq_self_eq_true, Bool.not_true, Bool.not_false]))
    rw [List.take_of_length_le (by omega)] at st
    obtain ⟨F, s, hF⟩ := st.slc1 (i := 0) rfl
    exact hR _ _ F s (fun b hb => (hF b hb).resolve_left (by simp)) st.frame
def largeL (ls : List LRec) : Bool := decide (300 < ls.length) || ls.any fun l => decide (100 < l.ns.length) || decide (300 < l.t.size)
theorem lw_large {a : Value} {ls : List LRec} (h : RecsR w a ls) (hR : ∀ w', Fr [] w w' → R (.bool (largeL ls)) w') : CALL PR F_tumbrellaw13_large [a] w R := by
  refine C_tumbrellaw13_large ?_
  unfold M_tumbrellaw13_large
  unfold largeL at hR
  (repeat (first | refine BND_step h.len ?_ | refine stp ?_ | (apply BND_inc; omega) | (apply BND_dec; omega) | refine BND_step rfl ?_ | (apply cyes; first | assumption | omega) | (apply cno; first | assumption | omega) | refine (COND_true _ _).2 ?_ | refine (COND_false _ _).2 ?_ | simp (disch := first | assumption | omega) only [gs1, gs2, decide_true, decide_false, eq_self, beq_self_eq_true, Bool.not_true, Bool.not_false]))
  by_cases h3 : 300 < ls.length
  · (repeat (first | refine stp ?_ | (apply BND_inc; omega) | (apply BND_dec; omega) | refine BND_step rfl ?_ | (apply cyes; first | assumption | omega) | (apply cno; first | assumption | omega) | refine (COND_true _ _).2 ?_ | refine (COND_false _ _).2 ?_ | simp (disch := first | assumption | omega) only [gs1, gs2, decide_true, decide_false, eq_self, beq_self_eq_true, Bool.not_true, Bool.not_false]))
    have := hR _ (Fr.refl _ _)
    simpa [h3] using this
  · (repeat (first | refine BND_step h.len ?_ | refine stp ?_ | (apply BND_inc; omega) | (apply BND_dec; omega) | refine BND_step rfl ?_ | (apply cyes; first | assumption | omega) | (apply cno; first | assumption | omega) | refine (COND_true _ _).2 ?_ | refine (COND_false _ _).2 ?_ | simp (disch := first | assumption | omega) only [gs1, gs2, decide_true, decide_false, eq_self, beq_self_eq_true, Bool.not_true, Bool.not_false]))
    simp only [h3, decide_false, Bool.false_or] at hR
    refine loop_up 0 ls.length (fun i w' => Fr [] w w' ∧ ((ls.take i).any fun l => decide (100 < l.ns.length) || decide (300 < l.t.size)) = false) ⟨Fr.refl _ _, rfl⟩ (by omega) ?_
    rintro i w1 - hi ⟨f1, e⟩ J m hJ
    by_cases hlt : i < ls.length
    · have hx := List.getElem?_eq_getElem hlt
      generalize ls[i] = l at hx
      obtain ⟨r, b, oo, g, ia, ln, _, _⟩ := (h.fr0 f1).spot hx
      (repeat (first | refine BND_step ia ?_ | refine BND_step ln ?_ | refine stp ?_ | (apply BND_inc; omega) | (apply BND_dec; omega) | refine BND_step rfl ?_ | (apply cyes; first | assumption | omega) | (apply cno; first | assumption | omega) | refine (COND_true _ _).2 ?_ | refine (COND_false _ _).2 ?_ | simp (disch := first | assumption | omega) only [gs1, gs2, decide_true, decide_false, eq_self, beq_self_eq_true, Bool.not_true, Bool.not_false]))
      refine box_step rfl rfl (encR_one r) (by simp [encR]) fun w4 b4 f4 z4 => ?_
      (repeat (first | (apply BND_step; exact (loadn_all b4 rfl)) | refine stp ?_ | (apply BND_inc; omega) | (apply BND_dec; omega) | refine BND_step rfl ?_ | (apply cyes; first | assumption | omega) | (apply cno; first | assumption | omega) | refine (COND_true _ _).2 ?_ | refine (COND_false _ _).2 ?_ | simp (disch := first | assumption | omega) only [gs1, gs2, decide_true, decide_false, eq_self, beq_self_eq_true, Bool.not_true, Bool.not_false]))
      refine r5_Large r fun w5 f5 => ?_
      rw [g.nlen, g.2.1]
      have f15 := (f1.trans' f4).trans' f5
      cases hb : (decide (100 < l.ns.length) || decide (300 < l.t.size)) with
      | true =>
        (repeat (first | refine stp ?_ | (apply BND_inc; omega) | (apply BND_dec; omega) | refine BND_step rfl ?_ | (apply cyes; first | assumption | omega) | (apply cno; first | assumption | omega) | refine (COND_true _ _).2 ?_ | refine (COND_false _ _).2 ?_ | simp (disch := first | assumption | omega) only [gs1, gs2, decide_true, decide_false, eq_self, beq_self_eq_true, Bool.not_true, Bool.not_false]))
        have := hR _ f15
        have he : (ls.any fun l => decide (100 < l.ns.length) || decide (300 < l.t.size)) = true := by
          rw [List.any_eq_true]; exact ⟨l, List.mem_of_getElem? hx, hb⟩
        rwa [he] at this
      | false =>
        (repeat (first | refine stp ?_ | (apply BND_inc; omega) | (apply BND_dec; omega) | refine BND_step rfl ?_ | (apply cyes; first | assumption | omega) | (apply cno; first | assumption | omega) | refine (COND_true _ _).2 ?_ | refine (COND_false _ _).2 ?_ | simp (disch := first | assumption | omega) only [gs1, gs2, decide_true, decide_false, eq_self, beq_self_eq_true, Bool.not_true, Bool.not_false]))
        refine hJ _ hlt ⟨f15, ?_⟩
        rw [List.take_add_one, hx, List.any_append, e]
        simp only [Option.toList, List.any_cons, List.any_nil, hb, Bool.or_false]
    · (repeat (first | refine stp ?_ | (apply BND_inc; omega) | (apply BND_dec; omega) | refine BND_step rfl ?_ | (apply cyes; first | assumption | omega) | (apply cno; first | assumption | omega) | refine (COND_true _ _).2 ?_ | refine (COND_false _ _).2 ?_ | simp (disch := first | assumption | omega) only [gs1, gs2, decide_true, decide_false, eq_self, beq_self_eq_true, Bool.not_true, Bool.not_false]))
      have := hR _ f1
      rw [List.take_of_length_le (by omega)] at e
      rwa [e] at this
def LargeS (s : SnapL) : Bool := decide (220 < s.items.length) || decide (220 < s.dead.length) || decide (20 < s.curs.length) || s.curs.any fun c => decide (300 < c.1.size)
theorem r13_Large {s : SnapL} {iv dv cv : Value} (h : SnV w s iv dv cv) (hR : ∀ w', Fr [] w w' → R (.bool (LargeS s)) w') : CALL PR F_tumbrelref13_Large [.agg (stC s iv dv cv).toArray] w R := by
  refine C_tumbrelref13_Large ?_
  unfold M_tumbrelref13_Large
  unfold LargeS at hR
  refine NEW_intro fun w1 b1 f1 z1 => ?_
  obtain ⟨TB, b1⟩ : ∃ T, blk w1 (hsz w) = some (.cells (stC s iv dv cv).toArray T (0, 0)) := ⟨_, b1⟩
  have h1 := h.fr0 f1
  (repeat (first | (apply BND_ld b1; exact rfl) | refine BND_step h1.i.len ?_ | refine stp ?_ | (apply BND_inc; omega) | (apply BND_dec; omega) | refine BND_step rfl ?_ | (apply cyes; first | assumption | omega) | (apply cno; first | assumption | omega) | refine (COND_true _ _).2 ?_ | refine (COND_false _ _).2 ?_ | simp (disch := first | assumption | omega) only [gs1, gs2, decide_true, decide_false, eq_self, beq_self_eq_true, Bool.not_true, Bool.not_false]))
  by_cases q1 : 220 < s.items.length
  · (repeat (first | refine stp ?_ | (apply BND_inc; omega) | (apply BND_dec; omega) | refine BND_step rfl ?_ | (apply cyes; first | assumption | omega) | (apply cno; first | assumption | omega) | refine (COND_true _ _).2 ?_ | refine (COND_false _ _).2 ?_ | simp (disch := first | assumption | omega) only [gs1, gs2, decide_true, decide_false, eq_self, beq_self_eq_true, Bool.not_true, Bool.not_false]))
    have := hR _ f1
    simpa [q1] using this
  simp only [q1, decide_false, Bool.false_or] at hR
  (repeat (first | (apply BND_ld b1; exact rfl) | refine BND_step h1.d.len ?_ | refine stp ?_ | (apply BND_inc; omega) | (apply BND_dec; omega) | refine BND_step rfl ?_ | (apply cyes; first | assumption | omega) | (apply cno; first | assumption | omega) | refine (COND_true _ _).2 ?_ | refine (COND_false _ _).2 ?_ | simp (disch := first | assumption | omega) only [gs1, gs2, decide_true, decide_false, eq_self, beq_self_eq_true, Bool.not_true, Bool.not_false]))
  by_cases q2 : 220 < s.dead.length
  · (repeat (first | refine stp ?_ | (apply BND_inc; omega) | (apply BND_dec; omega) | refine BND_step rfl ?_ | (apply cyes; first | assumption | omega) | (apply cno; first | assumption | omega) | refine (COND_true _ _).2 ?_ | refine (COND_false _ _).2 ?_ | simp (disch := first | assumption | omega) only [gs1, gs2, decide_true, decide_false, eq_self, beq_self_eq_true, Bool.not_true, Bool.not_false]))
    have := hR _ f1
    simpa [q2] using this
  simp only [q2, decide_false, Bool.false_or] at hR
  (repeat (first | (apply BND_ld b1; exact rfl) | refine BND_step h1.c.len ?_ | refine stp ?_ | (apply BND_inc; omega) | (apply BND_dec; omega) | refine BND_step rfl ?_ | (apply cyes; first | assumption | omega) | (apply cno; first | assumption | omega) | refine (COND_true _ _).2 ?_ | refine (COND_false _ _).2 ?_ | simp (disch := first | assumption | omega) only [gs1, gs2, decide_true, decide_false, eq_self, beq_self_eq_true, Bool.not_true, Bool.not_false]))
  by_cases q3 : 20 < s.curs.length
  · (repeat (first | refine stp ?_ | (apply BND_inc; omega) | (apply BND_dec; omega) | refine BND_step rfl ?_ | (apply cyes; first | assumption | omega) | (apply cno; first | assumption | omega) | refine (COND_true _ _).2 ?_ | refine (COND_false _ _).2 ?_ | simp (disch := first | assumption | omega) only [gs1, gs2, decide_true, decide_false, eq_self, beq_self_eq_true, Bool.not_true, Bool.not_false]))
    have := hR _ f1
    simpa [q3] using this
  simp only [q3, decide_false, Bool.false_or] at hR
  (repeat (first | refine stp ?_ | (apply BND_inc; omega) | (apply BND_dec; omega) | refine BND_step rfl ?_ | (apply cyes; first | assumption | omega) | (apply cno; first | assumption | omega) | refine (COND_true _ _).2 ?_ | refine (COND_false _ _).2 ?_ | simp (disch := first | assumption | omega) only [gs1, gs2, decide_true, decide_false, eq_self, beq_self_eq_true, Bool.not_true, Bool.not_false]))
  refine loop_up 0 s.curs.length (fun i w' => Fr [] w1 w' ∧ ((s.curs.take i).any fun c => decide (300 < c.1.size)) = false) ⟨Fr.refl _ _, rfl⟩ (by omega) ?_
  rintro i w2 - hi ⟨f2, e⟩ J m hJ
  have b2 := f2.some (by simp) b1
  have h2 := h1.fr0 f2
  (repeat (first | (apply BND_ld b2; exact rfl) | refine BND_step h2.c.len ?_ | refine stp ?_ | (apply BND_inc; omega) | (apply BND_dec; omega) | refine BND_step rfl ?_ | (apply cyes; first | assumption | omega) | (apply cno; first | assumption | omega) | refine (COND_true _ _).2 ?_ | refine (COND_false _ _).2 ?_ | simp (disch := first | assumption | omega) only [gs1, gs2, decide_true, decide_false, eq_self, beq_self_eq_true, Bool.not_true, Bool.not_false]))
  by_cases hlt : i < s.curs.length
  · have hx := List.getElem?_eq_getElem hlt
    generalize s.curs[i] = x at hx
    obtain ⟨b, oo, ia, ln, _, l2⟩ := h2.c.spot hx rfl .i64
    (repeat (first | (apply BND_ld b2; exact rfl) | refine BND_step ia ?_ | refine BND_step (l2 rfl (j := 0) rfl) ?_ | refine stp ?_ | (apply BND_inc; omega) | (apply BND_dec; omega) | refine BND_step rfl ?_ | (apply cyes; first | assumption | omega) | (apply cno; first | assumption | omega) | refine (COND_true _ _).2 ?_ | refine (COND_false _ _).2 ?_ | simp (disch := first | assumption | omega) only [gs1, gs2, decide_true, decide_false, eq_self, beq_self_eq_true, Bool.not_true, Bool.not_false]))
    by_cases hb : 300 < x.1.size
    · (repeat (first | refine stp ?_ | (apply BND_inc; omega) | (apply BND_dec; omega) | refine BND_step rfl ?_ | (apply cyes; first | assumption | omega) | (apply cno; first | assumption | omega) | refine (COND_true _ _).2 ?_ | refine (COND_false _ _).2 ?_ | simp (disch := first | assumption | omega) only [gs1, gs2, decide_true, decide_false, eq_self, beq_self_eq_true, Bool.not_true, Bool.not_false]))
      have := hR _ (f1.trans' f2)
      have he : (s.curs.any fun c => decide (300 < c.1.size)) = true := by
        rw [List.any_eq_true]; exact ⟨x, List.mem_of_getElem? hx, by simp [hb]⟩
      rwa [he] at this
    · (repeat (first | refine stp ?_ | (apply BND_inc; omega) | (apply BND_dec; omega) | refine BND_step rfl ?_ | (apply cyes; first | assumption | omega) | (apply cno; first | assumption | omega) | refine (COND_true _ _).2 ?_ | refine (COND_false _ _).2 ?_ | simp (disch := first | assumption | omega) only [gs1, gs2, decide_true, decide_false, eq_self, beq_self_eq_true, Bool.not_true, Bool.not_false]))
      refine hJ _ hlt ⟨f2, ?_⟩
      rw [List.take_add_one, hx, List.any_append, e]
      simp [hb]
  · (repeat (first | refine stp ?_ | (apply BND_inc; omega) | (apply BND_dec; omega) | refine BND_step rfl ?_ | (apply cyes; first | assumption | omega) | (apply cno; first | assumption | omega) | refine (COND_true _ _).2 ?_ | refine (COND_false _ _).2 ?_ | simp (disch := first | assumption | omega) only [gs1, gs2, decide_true, decide_false, eq_self, beq_self_eq_true, Bool.not_true, Bool.not_false]))
    have := hR _ (f1.trans' f2)
    rw [List.take_of_length_le (by omega)] at e
    rwa [e] at this
end
end Go.Proofs.Ytkifjfjhghogjaa
