/- By the document: Save: the records of any snapshot, or that there are none. No condition but sizes. -/
import Derived.Test.YtkifjfjhghogjaaSnapRef
namespace Go.Proofs.Ytkifjfjhghogjaa
open Go.Den
set_option linter.unusedSimpArgs false
set_option linter.unusedVariables false
set_option maxRecDepth 20000
set_option maxHeartbeats 4000000
attribute [local congr] BND_cg COND_cg GEF_cg
attribute [local irreducible] load1 loadn iaddr iaddra faddr storev newslice binv lookv mupd mdel mlenv mentry mestore slicev slicev3 slices indexs indexav textv rangev nexts clearv shiftv eqaggv convi buildv pickv lens lenl unv nilchk extractv partn JOIN
theorem take_all {α : Type} {p : α → Bool} {xs : List α} {i : Nat} {x : α} (hx : xs[i]? = some x) (h : (xs.take i).all p = true) (hp : p x = true) : (xs.take (i + 1)).all p = true := by
  rw [List.take_add_one, hx, List.all_append, h]; simp [hp]
theorem take_map {α β : Type} {g : α → β} {xs : List α} {i : Nat} {x : α} (hx : xs[i]? = some x) : (xs.take (i + 1)).map g = (xs.take i).map g ++ [g x] := by
  rw [List.take_add_one, hx, List.map_append]; rfl
theorem not_all {α : Type} {p : α → Bool} {xs : List α} {i : Nat} {x : α} (hx : xs[i]? = some x) (hp : p x = false) : xs.all p = false := by
  rw [List.all_eq_false]; exact ⟨x, List.mem_of_getElem? hx, by simp [hp]⟩
section
variable {w : World} {R : Value → World → Prop}
theorem r13_Save {s : SnapL} {iv dv cv : Value} (h : SnV w s iv dv cv) (hi : s.items.length < 100000) (hd : s.dead.length < 100000) (hc : s.curs.length < 100000)
    (hno : ∀ w', Fr [] w w' → okS s = false → R (.tuple #[.slice none 0 0, .int .i64 1]) w') (hyes : ∀ w' v, Fr [] w w' → okS s = true → RecsR w' v (saveL s) → R (.tuple #[v, .int .i64 0]) w') :
    CALL PR F_tumbrelref13_Save [.agg (snC s iv dv cv).toArray] w R := by
  refine C_tumbrelref13_Save ?_
  unfold M_tumbrelref13_Save
  refine NEW_intro fun w1 b1 f1 z1 => ?_
  have bI : blk w1 (hsz w) = some (.cells (snC s iv dv cv).toArray _ (0, 0)) := b1
  have hl8 : loadn 8 w1 (.pointer (some ⟨hsz w, 0, none⟩)) = some (.agg (stC s iv dv cv).toArray) := by
    rw [loadn_blk bI (by simp [snC, stC])]
    rfl
  (repeat (first | refine BND_step hl8 ?_ | refine stp ?_ | (apply BND_inc; omega) | (apply BND_dec; omega) | refine BND_step rfl ?_ | (apply cyes; first | assumption | omega) | (apply cno; first | assumption | omega) | refine (COND_true _ _).2 ?_ | refine (COND_false _ _).2 ?_ | simp (disch := first | assumption | omega) only [gs1, gs2, decide_true, decide_false, eq_self, beq_self_eq_true, Bool.not_true, Bool.not_false]))
  refine box_step rfl (vs := stC s iv dv cv) rfl (stC_one h) (by simp [stC]) fun w3 b3 f3 z3 => ?_
  have bI3 := f3.some (by simp) bI
  obtain ⟨TA, b3⟩ : ∃ T, blk w3 (hsz w1) = some (.cells (stC s iv dv cv).toArray T (0, 0)) := ⟨_, b3⟩
  (repeat (first | (apply BND_ld b3; exact rfl) | (apply BND_ld bI3; exact rfl) | refine stp ?_ | (apply BND_inc; omega) | (apply BND_dec; omega) | refine BND_step rfl ?_ | (apply cyes; first | assumption | omega) | (apply cno; first | assumption | omega) | refine (COND_true _ _).2 ?_ | refine (COND_false _ _).2 ?_ | simp (disch := first | assumption | omega) only [gs1, gs2, decide_true, decide_false, eq_self, beq_self_eq_true, Bool.not_true, Bool.not_false]))
  have f03 := f1.trans' f3
  refine newparts_step (enc := encU) encU_len (val := fun x : Int => Value.int .u64 x) (fun _ => rfl) [s.now, s.next, s.leases, s.turns, s.deaths, s.seg, s.at_] rfl rfl fun nv w4 s4 f4 z4 => ?_
  obtain ⟨r, er, ek, et, _, ebd⟩ := mkRec s4 13 ⟨#[]⟩
  refine BND_step ebd <| newone_step encR_len rfl fun ov w5 s5 f5 z5 => ?_
  have o5 : OutR w3 w5 ov [recB s] := OutR.one (w := w4) (G := [hsz w3]) (f4.trans' f5) ⟨ek, et⟩ (by rw [er]; exact s4.fr f5 (by simp)) s5 (by omega) (by simp; omega)
  have A : ∀ {w'}, Fr [] w3 w' → blk w' (hsz w1) = some (.cells (stC s iv dv cv).toArray TA (0, 0)) := fun f => f.some (by simp) b3
  have V : ∀ {w'}, Fr [] w3 w' → SnV w' s iv dv cv := fun f => h.fr0 (f03.trans' f)
  refine loop_up2 0 s.items.length (fun o i w' => OutR w3 w' o (recB s :: (s.items.take i).map recI) ∧ (s.items.take i).all okI = true) ⟨o5, rfl⟩ (by omega) ?_
  rintro o i w6 - hil ⟨o6, k6⟩ J m hJ
  have A6 := A o6.fr
  have V6 := V o6.fr
  (repeat (first | (apply BND_ld A6; exact rfl) | refine BND_step V6.i.len ?_ | refine stp ?_ | (apply BND_inc; omega) | (apply BND_dec; omega) | refine BND_step rfl ?_ | (apply cyes; first | assumption | omega) | (apply cno; first | assumption | omega) | refine (COND_true _ _).2 ?_ | refine (COND_false _ _).2 ?_ | simp (disch := first | assumption | omega) only [gs1, gs2, decide_true, decide_false, eq_self, beq_self_eq_true, Bool.not_true, Bool.not_false]))
  by_cases hlt : i < s.items.length
  · have hx := List.getElem?_eq_getElem hlt
    generalize s.items[i] = x at hx
    obtain ⟨b, oo, ia, ln, _, _⟩ := V6.i.spot hx rfl .i64
    (repeat (first | (apply BND_ld A6; exact rfl) | refine BND_step ia ?_ | refine BND_step ln ?_ | refine stp ?_ | (apply BND_inc; omega) | (apply BND_dec; omega) | refine BND_step rfl ?_ | (apply cyes; first | assumption | omega) | (apply cno; first | assumption | omega) | refine (COND_true _ _).2 ?_ | refine (COND_false _ _).2 ?_ | simp (disch := first | assumption | omega) only [gs1, gs2, decide_true, decide_false, eq_self, beq_self_eq_true, Bool.not_true, Bool.not_false]))
    refine box_step rfl rfl (encI_one x) (by simp [encI]) fun w8 b8 f8 z8 => ?_
    have fo8 : Fr [] w w8 := (f03.trans' o6.fr).trans' f8
    have no : okI x = false → ∀ w', Fr [] w w' → R (.tuple #[.slice none 0 0, .int .i64 1]) w' := fun hx' w' f => hno w' f (by unfold okS; rw [not_all hx hx']; rfl)
    obtain ⟨TB, b8⟩ : ∃ T, blk w8 (hsz w6) = some (.cells (encI x).toArray T (0, 0)) := ⟨_, b8⟩
    (repeat (first | (apply BND_ld b8; exact rfl) | refine stp ?_ | (apply BND_inc; omega) | (apply BND_dec; omega) | refine BND_step rfl ?_ | (apply cyes; first | assumption | omega) | (apply cno; first | assumption | omega) | refine (COND_true _ _).2 ?_ | refine (COND_false _ _).2 ?_ | simp (disch := first | assumption | omega) only [gs1, gs2, decide_true, decide_false, eq_self, beq_self_eq_true, Bool.not_true, Bool.not_false]))
    refine r13_small x.lane ?_
    cases h1 : smallI x.lane with
    | false =>
      (repeat (first | refine stp ?_ | (apply BND_inc; omega) | (apply BND_dec; omega) | refine BND_step rfl ?_ | (apply cyes; first | assumption | omega) | (apply cno; first | assumption | omega) | refine (COND_true _ _).2 ?_ | refine (COND_false _ _).2 ?_ | simp (disch := first | assumption | omega) only [gs1, gs2, decide_true, decide_false, eq_self, beq_self_eq_true, Bool.not_true, Bool.not_false]))
      exact no (by simp [okI, h1]) _ fo8
    | true =>
    (repeat (first | (apply BND_ld b8; exact rfl) | refine stp ?_ | (apply BND_inc; omega) | (apply BND_dec; omega) | refine BND_step rfl ?_ | (apply cyes; first | assumption | omega) | (apply cno; first | assumption | omega) | refine (COND_true _ _).2 ?_ | refine (COND_false _ _).2 ?_ | simp (disch := first | assumption | omega) only [gs1, gs2, decide_true, decide_false, eq_self, beq_self_eq_true, Bool.not_true, Bool.not_false]))
    refine r13_small x.status ?_
    cases h2 : smallI x.status with
    | false =>
      (repeat (first | refine stp ?_ | (apply BND_inc; omega) | (apply BND_dec; omega) | refine BND_step rfl ?_ | (apply cyes; first | assumption | omega) | (apply cno; first | assumption | omega) | refine (COND_true _ _).2 ?_ | refine (COND_false _ _).2 ?_ | simp (disch := first | assumption | omega) only [gs1, gs2, decide_true, decide_false, eq_self, beq_self_eq_true, Bool.not_true, Bool.not_false]))
      exact no (by simp [okI, h2]) _ fo8
    | true =>
    (repeat (first | (apply BND_ld b8; exact rfl) | refine stp ?_ | (apply BND_inc; omega) | (apply BND_dec; omega) | refine BND_step rfl ?_ | (apply cyes; first | assumption | omega) | (apply cno; first | assumption | omega) | refine (COND_true _ _).2 ?_ | refine (COND_false _ _).2 ?_ | simp (disch := first | assumption | omega) only [gs1, gs2, decide_true, decide_false, eq_self, beq_self_eq_true, Bool.not_true, Bool.not_false]))
    refine r13_small x.count ?_
    cases h3 : smallI x.count with
    | false =>
      (repeat (first | refine stp ?_ | (apply BND_inc; omega) | (apply BND_dec; omega) | refine BND_step rfl ?_ | (apply cyes; first | assumption | omega) | (apply cno; first | assumption | omega) | refine (COND_true _ _).2 ?_ | refine (COND_false _ _).2 ?_ | simp (disch := first | assumption | omega) only [gs1, gs2, decide_true, decide_false, eq_self, beq_self_eq_true, Bool.not_true, Bool.not_false]))
      exact no (by simp [okI, h3]) _ fo8
    | true =>
    (repeat (first | (apply BND_ld b8; exact rfl) | refine stp ?_ | (apply BND_inc; omega) | (apply BND_dec; omega) | refine BND_step rfl ?_ | (apply cyes; first | assumption | omega) | (apply cno; first | assumption | omega) | refine (COND_true _ _).2 ?_ | refine (COND_false _ _).2 ?_ | simp (disch := first | assumption | omega) only [gs1, gs2, decide_true, decide_false, eq_self, beq_self_eq_true, Bool.not_true, Bool.not_false]))
    refine r13_small x.size ?_
    cases h4 : smallI x.size with
    | false =>
      (repeat (first | refine stp ?_ | (apply BND_inc; omega) | (apply BND_dec; omega) | refine BND_step rfl ?_ | (apply cyes; first | assumption | omega) | (apply cno; first | assumption | omega) | refine (COND_true _ _).2 ?_ | refine (COND_false _ _).2 ?_ | simp (disch := first | assumption | omega) only [gs1, gs2, decide_true, decide_false, eq_self, beq_self_eq_true, Bool.not_true, Bool.not_false]))
      exact no (by simp [okI, h4]) _ fo8
    | true =>
    have cv' : ∀ n : Int, convi .u64 (.int .i64 n) = some (.int .u64 (u64w n)) := fun n => by unfold convi; rfl
    (repeat (first | (apply BND_ld b8; exact rfl) | refine BND_step (cv' _) ?_ | refine stp ?_ | (apply BND_inc; omega) | (apply BND_dec; omega) | refine BND_step rfl ?_ | (apply cyes; first | assumption | omega) | (apply cno; first | assumption | omega) | refine (COND_true _ _).2 ?_ | refine (COND_false _ _).2 ?_ | simp (disch := first | assumption | omega) only [gs1, gs2, decide_true, decide_false, eq_self, beq_self_eq_true, Bool.not_true, Bool.not_false]))
    refine newparts_step (enc := encU) encU_len (val := fun x : Int => Value.int .u64 x) (fun _ => rfl) (recI x).ns rfl rfl fun nv w9 s9 f9 z9 => ?_
    obtain ⟨r, er, ek, et, _, ebd⟩ := mkRec s9 14 ⟨#[]⟩
    refine BND_step ebd <| (o6.fr0 f8).push f9 (by simp; omega) (l := recI x) ⟨ek, et⟩ (by rw [er]; exact s9) (by simp) rfl (by omega) fun o' w10 g10 => ?_
    (repeat (first | refine stp ?_ | (apply BND_inc; omega) | (apply BND_dec; omega) | refine BND_step rfl ?_ | (apply cyes; first | assumption | omega) | (apply cno; first | assumption | omega) | refine (COND_true _ _).2 ?_ | refine (COND_false _ _).2 ?_ | simp (disch := first | assumption | omega) only [gs1, gs2, decide_true, decide_false, eq_self, beq_self_eq_true, Bool.not_true, Bool.not_false]))
    refine hJ _ _ hlt ⟨?_, take_all hx k6 (by simp [okI, h1, h2, h3, h4])⟩
    rw [take_map hx]; exact g10
  rw [List.take_of_length_le (by omega)] at o6 k6
  (repeat (first | refine stp ?_ | (apply BND_inc; omega) | (apply BND_dec; omega) | refine BND_step rfl ?_ | (apply cyes; first | assumption | omega) | (apply cno; first | assumption | omega) | refine (COND_true _ _).2 ?_ | refine (COND_false _ _).2 ?_ | simp (disch := first | assumption | omega) only [gs1, gs2, decide_true, decide_false, eq_self, beq_self_eq_true, Bool.not_true, Bool.not_false]))
  refine loop_up2 0 s.dead.length (fun o i w' => OutR w3 w' o (recB s :: (s.items.map recI ++ (s.dead.take i).map recD))) (by simpa using o6) (by omega) ?_
  rintro o i w6 - hil o6 J m hJ
  have A6 := A o6.fr
  have V6 := V o6.fr
  (repeat (first | (apply BND_ld A6; exact rfl) | refine BND_step V6.d.len ?_ | refine stp ?_ | (apply BND_inc; omega) | (apply BND_dec; omega) | refine BND_step rfl ?_ | (apply cyes; first | assumption | omega) | (apply cno; first | assumption | omega) | refine (COND_true _ _).2 ?_ | refine (COND_false _ _).2 ?_ | simp (disch := first | assumption | omega) only [gs1, gs2, decide_true, decide_false, eq_self, beq_self_eq_true, Bool.not_true, Bool.not_false]))
  by_cases hlt : i < s.dead.length
  · have hx := List.getElem?_eq_getElem hlt
    generalize s.dead[i] = x at hx
    have o7 := o6.fr0 (Fr.drew [] w6)
    have A7 := A o7.fr
    obtain ⟨b, oo, ia, ln, _, l7⟩ := (V o7.fr).d.spot hx rfl .i64
    (repeat (first | (apply BND_ld A7; exact rfl) | refine BND_step ia ?_ | refine BND_step (l7 rfl (j := 0) rfl) ?_ | refine BND_step (l7 rfl (j := 1) rfl) ?_ | refine stp ?_ | (apply BND_inc; omega) | (apply BND_dec; omega) | refine BND_step rfl ?_ | (apply cyes; first | assumption | omega) | (apply cno; first | assumption | omega) | refine (COND_true _ _).2 ?_ | refine (COND_false _ _).2 ?_ | simp (disch := first | assumption | omega) only [gs1, gs2, decide_true, decide_false, eq_self, beq_self_eq_true, Bool.not_true, Bool.not_false]))
    refine newparts_step (enc := encU) encU_len (val := fun x : Int => Value.int .u64 x) (fun _ => rfl) [x.1, x.2] rfl rfl fun nv w9 s9 f9 z9 => ?_
    obtain ⟨r, er, ek, et, _, ebd⟩ := mkRec s9 15 ⟨#[]⟩
    refine BND_step ebd <| o7.push f9 (by simp; omega) (l := recD x) ⟨ek, et⟩ (by rw [er]; exact s9) (by simp) rfl (by omega) fun o' w10 g10 => ?_
    (repeat (first | refine stp ?_ | (apply BND_inc; omega) | (apply BND_dec; omega) | refine BND_step rfl ?_ | (apply cyes; first | assumption | omega) | (apply cno; first | assumption | omega) | refine (COND_true _ _).2 ?_ | refine (COND_false _ _).2 ?_ | simp (disch := first | assumption | omega) only [gs1, gs2, decide_true, decide_false, eq_self, beq_self_eq_true, Bool.not_true, Bool.not_false]))
    refine hJ _ _ hlt ?_
    rw [take_map hx, ← List.append_assoc]; exact g10
  rw [List.take_of_length_le (by omega)] at o6
  (repeat (first | refine stp ?_ | (apply BND_inc; omega) | (apply BND_dec; omega) | refine BND_step rfl ?_ | (apply cyes; first | assumption | omega) | (apply cno; first | assumption | omega) | refine (COND_true _ _).2 ?_ | refine (COND_false _ _).2 ?_ | simp (disch := first | assumption | omega) only [gs1, gs2, decide_true, decide_false, eq_self, beq_self_eq_true, Bool.not_true, Bool.not_false]))
  refine loop_up2 0 s.curs.length (fun o i w' => OutR w3 w' o (recB s :: (s.items.map recI ++ (s.dead.map recD ++ (s.curs.take i).map recC))) ∧ (s.curs.take i).all (fun c => decide (c.1.size ≤ 64)) = true) ⟨by simpa using o6, rfl⟩ (by omega) ?_
  rintro o i w6 - hil ⟨o6, k6'⟩ J m hJ
  have A6 := A o6.fr
  have V6 := V o6.fr
  (repeat (first | (apply BND_ld A6; exact rfl) | refine BND_step V6.c.len ?_ | refine stp ?_ | (apply BND_inc; omega) | (apply BND_dec; omega) | refine BND_step rfl ?_ | (apply cyes; first | assumption | omega) | (apply cno; first | assumption | omega) | refine (COND_true _ _).2 ?_ | refine (COND_false _ _).2 ?_ | simp (disch := first | assumption | omega) only [gs1, gs2, decide_true, decide_false, eq_self, beq_self_eq_true, Bool.not_true, Bool.not_false]))
  by_cases hlt : i < s.curs.length
  · have hx := List.getElem?_eq_getElem hlt
    generalize s.curs[i] = x at hx
    obtain ⟨b, oo, ia, ln, _, l6⟩ := V6.c.spot hx rfl .i64
    (repeat (first | (apply BND_ld A6; exact rfl) | refine BND_step ia ?_ | refine BND_step (l6 rfl (j := 0) rfl) ?_ | refine stp ?_ | (apply BND_inc; omega) | (apply BND_dec; omega) | refine BND_step rfl ?_ | (apply cyes; first | assumption | omega) | (apply cno; first | assumption | omega) | refine (COND_true _ _).2 ?_ | refine (COND_false _ _).2 ?_ | simp (disch := first | assumption | omega) only [gs1, gs2, decide_true, decide_false, eq_self, beq_self_eq_true, Bool.not_true, Bool.not_false]))
    by_cases h64 : 64 < x.1.size
    · (repeat (first | refine stp ?_ | (apply BND_inc; omega) | (apply BND_dec; omega) | refine BND_step rfl ?_ | (apply cyes; first | assumption | omega) | (apply cno; first | assumption | omega) | refine (COND_true _ _).2 ?_ | refine (COND_false _ _).2 ?_ | simp (disch := first | assumption | omega) only [gs1, gs2, decide_true, decide_false, eq_self, beq_self_eq_true, Bool.not_true, Bool.not_false]))
      exact hno _ (f03.trans' o6.fr) (by unfold okS; rw [not_all (p := fun c : Cur => decide (c.1.size ≤ 64)) hx (by simp; omega)]; simp)
    · (repeat (first | refine stp ?_ | (apply BND_inc; omega) | (apply BND_dec; omega) | refine BND_step rfl ?_ | (apply cyes; first | assumption | omega) | (apply cno; first | assumption | omega) | refine (COND_true _ _).2 ?_ | refine (COND_false _ _).2 ?_ | simp (disch := first | assumption | omega) only [gs1, gs2, decide_true, decide_false, eq_self, beq_self_eq_true, Bool.not_true, Bool.not_false]))
      have o7 := o6.fr0 (Fr.drew [] w6)
      have A7 := A o7.fr
      obtain ⟨b, oo, ia, ln, hb, l7⟩ := (V o7.fr).c.spot hx rfl .i64
      generalize w6.drew = wd at o7 A7 ia ln l7 hb
      refine ⟨fun k w' => if k = 9 then blk w' (hsz w1) = some (.cells (stC s iv dv cv).toArray TA (0, 0)) else blk w' b = blk wd b, ?_⟩
      simp only [Nat.reduceEqDiff, if_true, if_false]
      refine ⟨A7, trivial, ?_⟩
      (repeat (first | (apply BND_ld A7; exact rfl) | refine BND_step ia ?_ | (apply FLT_ld (fun _ h_ => h_); exact rfl) | refine FLT.mk _ (fun _ hw_ => (l7 hw_ (j := 0) rfl)) ?_ | refine BND_step (l7 rfl (j := 1) rfl) ?_ | refine stp ?_ | (apply BND_inc; omega) | (apply BND_dec; omega) | refine BND_step rfl ?_ | (apply cyes; first | assumption | omega) | (apply cno; first | assumption | omega) | refine (COND_true _ _).2 ?_ | refine (COND_false _ _).2 ?_ | simp (disch := first | assumption | omega) only [gs1, gs2, decide_true, decide_false, eq_self, beq_self_eq_true, Bool.not_true, Bool.not_false]))
      refine newparts_step (enc := encU) encU_len (val := fun x : Int => Value.int .u64 x) (fun _ => rfl) [x.2] rfl rfl fun nv w9 s9 f9 z9 => ?_
      refine ⟨f9.some (by simp) A7, f9.keep _ hb (by simp), ?_⟩
      obtain ⟨r, er, ek, et, ebd, _⟩ := mkRec s9 16 x.1
      refine BND_step (ebd _) <| o7.push f9 (by simp; omega) (l := recC x) ⟨ek, et⟩ (by rw [er]; exact s9) (by simp) rfl (by omega) fun o' w10 g10 => ?_
      (repeat (first | refine stp ?_ | (apply BND_inc; omega) | (apply BND_dec; omega) | refine BND_step rfl ?_ | (apply cyes; first | assumption | omega) | (apply cno; first | assumption | omega) | refine (COND_true _ _).2 ?_ | refine (COND_false _ _).2 ?_ | simp (disch := first | assumption | omega) only [gs1, gs2, decide_true, decide_false, eq_self, beq_self_eq_true, Bool.not_true, Bool.not_false]))
      refine hJ _ _ hlt ⟨?_, take_all hx k6' (by simp; omega)⟩
      rw [take_map hx, ← List.append_assoc, ← List.append_assoc]
      rw [List.append_assoc (s.items.map recI)]; exact g10
  rw [List.take_of_length_le (by omega)] at o6 k6'
  have hok : okS s = true := by unfold okS; rw [k6, k6']; rfl
  have o6' : OutR w3 w6 o (headL s) := o6
  have hlen : (headL s).length = 1 + s.items.length + s.dead.length + s.curs.length := by simp [headL]; omega
  have hcv : convi .u64 (.int .i64 ((headL s).length : Int)) = some (.int .u64 ((headL s).length : Int)) := by
    unfold convi
    simp only
    rw [wrap_u64 (by omega) (by omega)]
  (repeat (first | refine BND_step o6'.recs.len ?_ | refine BND_step hcv ?_ | refine stp ?_ | (apply BND_inc; omega) | (apply BND_dec; omega) | refine BND_step rfl ?_ | (apply cyes; first | assumption | omega) | (apply cno; first | assumption | omega) | refine (COND_true _ _).2 ?_ | refine (COND_false _ _).2 ?_ | simp (disch := first | assumption | omega) only [gs1, gs2, decide_true, decide_false, eq_self, beq_self_eq_true, Bool.not_true, Bool.not_false]))
  refine newparts_step (enc := encU) encU_len (val := fun x : Int => Value.int .u64 x) (fun _ => rfl) [((headL s).length : Int)] rfl rfl fun nv w9 s9 f9 z9 => ?_
  obtain ⟨r, er, ek, et, _, ebd⟩ := mkRec s9 17 ⟨#[]⟩
  refine BND_step ebd <| o6'.push f9 (by omega) (l := recE (headL s).length) ⟨ek, et⟩ (by rw [er]; exact s9) (by simp) rfl (by omega) fun o' w10 g10 => ?_
  exact hyes _ _ (f03.trans' g10.fr) hok g10.recs
end
end Go.Proofs.Ytkifjfjhghogjaa
