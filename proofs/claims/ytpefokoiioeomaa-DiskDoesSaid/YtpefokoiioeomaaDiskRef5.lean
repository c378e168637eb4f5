/- The document's disk: Held, Append, Cut. No condition but sizes. -/
import Derived.Test.YtpefokoiioeomaaDiskRef4
namespace Go.Proofs.Ytpefokoiioeomaa
open Go.Den Go.Disk
theorem heldG_le {s : Dk} (hw : s.Wf) (i : Nat) : heldG s i ≤ 1048576 := by
  unfold heldG
  split
  · unfold fileAt
    rw [List.getD_eq_getElem?_getD]
    cases h : s.files[i]? with
    | none => simp
    | some x =>
      have := hw.small _ (List.mem_of_getElem? h)
      have := hw.room
      simp; omega
  · omega
theorem sumTo_small {s : Dk} (hw : s.Wf) : ∀ i, sumTo i (heldG s) ≤ i * 1048576
  | 0 => by simp [sumTo]
  | i + 1 => by
    rw [sumTo_succ]
    have := sumTo_small hw i
    have := heldG_le hw i
    rw [Nat.add_mul]; omega
set_option linter.unusedSimpArgs false
set_option linter.unusedVariables false
set_option maxRecDepth 20000
set_option maxHeartbeats 4000000
attribute [local congr] BND_cg COND_cg GEF_cg
attribute [local irreducible] load1 loadn iaddr iaddra faddr storev newslice binv lookv mupd mdel mlenv mentry mestore slicev slicev3 slices indexs indexav textv rangev nexts clearv shiftv eqaggv convi buildv pickv lens lenl unv nilchk extractv partn JOIN
section
variable {w0 w w' : World} {F0 : List Nat} {d : Nat} {s : Dk} {R : Value → World → Prop}
theorem rf_Held (h : At w0 F0 (rfHP d s) w) (hw : s.Wf) (hn : s.dirs.length < 1000000000) (hn2 : s.files.length < 1000000000) (hR : ∀ w', Fr [] w w' → R (.int .i64 (held s : Nat)) w') : CALL PR F_tumbrelref06_Disk_Held [ptrTo d] w R := by
  obtain ⟨fv, dv, fc, es, hs⟩ := rf_open h
  refine C_tumbrelref06_Disk_Held ?_
  unfold M_tumbrelref06_Disk_Held
  obtain ⟨T, c⟩ := hs.cell (i := 0) rfl
  obtain ⟨F, ⟨_, ⟨Gd, sd, _⟩, ⟨hel, hE⟩, ⟨hfl, hF⟩⟩, _⟩ := hs.get 2 rfl
  obtain ⟨Ff, sf, _⟩ := hs.slc1 (i := 1) rfl
  have lf := sf.len
  have ldl := sd.len
  rw [hfl] at lf
  rw [hel] at ldl
  unfold ptrTo
  refine loop_up2 (o := .int .i64 0) 0 s.files.length (fun o i w' => o = .int .i64 ((sumTo i (heldG s) : Nat) : Int) ∧ w' = w) ⟨rfl, rfl⟩ (by omega) ?_
  rintro o f w1 - hi ⟨rfl, rfl⟩ J m hJ
  have hsmall := sumTo_small hw f
  by_cases hlt : f < s.files.length
  · have hx := List.getElem?_eq_getElem hlt
    generalize s.files[f] = x at hx
    have hfx : fileAt s f = x := by unfold fileAt; rw [List.getD_eq_getElem?_getD, hx]; rfl
    have hxs := hw.small _ (List.mem_of_getElem? hx)
    have hrm := hw.room
    obtain ⟨v, Gb, hv, sb, _⟩ := hF f x hx
    (repeat (first | (apply BND_ld c; exact rfl) | refine BND_step lf ?_ | refine stp ?_ | (apply BND_inc; omega) | (apply BND_dec; omega) | refine BND_step (rfl : some _ = some _) ?_ | (apply cyes; first | assumption | omega) | (apply cno; first | assumption | omega) | refine (COND_true _ _).2 ?_ | refine (COND_false _ _).2 ?_ | simp (disch := first | assumption | omega) only [gs1, gs2, decide_true, decide_false, eq_self, beq_self_eq_true, Bool.not_true, Bool.not_false]))
    refine loop_up2 (o := .bool false) 0 s.dirs.length (fun o k w' => o = .bool ((s.dirs.take k).any fun l => l.any fun y => decide (y.2 = f)) ∧ w' = w1) ⟨rfl, rfl⟩ (by omega) ?_
    rintro o k w2 - hk ⟨rfl, rfl⟩ J2 m2 hJ2
    by_cases hlt2 : k < s.dirs.length
    · have hl := List.getElem?_eq_getElem hlt2
      have hlm := List.getElem_mem hlt2
      generalize s.dirs[k] = l at hl hlm
      obtain ⟨e, Ge, he, se, _⟩ := hE k l hl
      obtain ⟨b1, o1, i1, _, _, l1⟩ := sd.arr.spot he rfl .i64
      have h60 := hw.many _ hlm
      (repeat (first | (apply BND_ld c; exact rfl) | refine BND_step ldl ?_ | refine stp ?_ | (apply BND_inc; omega) | (apply BND_dec; omega) | refine BND_step (rfl : some _ = some _) ?_ | (apply cyes; first | assumption | omega) | (apply cno; first | assumption | omega) | refine (COND_true _ _).2 ?_ | refine (COND_false _ _).2 ?_ | simp (disch := first | assumption | omega) only [gs1, gs2, decide_true, decide_false, eq_self, beq_self_eq_true, Bool.not_true, Bool.not_false]))
      refine loop_up2 (o := .bool ((s.dirs.take k).any fun l => l.any fun y => decide (y.2 = f))) 0 l.length (fun o a w' => o = .bool (((s.dirs.take k).any fun l => l.any fun y => decide (y.2 = f)) || (l.take a).any fun y => decide (y.2 = f)) ∧ w' = w2) ⟨by simp, rfl⟩ (by omega) ?_
      rintro o a w3 - ha ⟨rfl, rfl⟩ J3 m3 hJ3
      by_cases hlt3 : a < l.length
      · have hy := List.getElem?_eq_getElem hlt3
        generalize l[a] = y at hy
        obtain ⟨b2, o2, i2, _, _, l2⟩ := se.arr.spot hy rfl .i64
        have hst : (((s.dirs.take k).any fun l => l.any fun y => decide (y.2 = f)) || (l.take (a + 1)).any (fun y => decide (y.2 = f))) = ((((s.dirs.take k).any fun l => l.any fun y => decide (y.2 = f)) || (l.take a).any fun y => decide (y.2 = f)) || decide (y.2 = f)) := by
          rw [List.take_add_one, hy, List.any_append]; simp [Bool.or_assoc]
        cases hp : (((s.dirs.take k).any fun l => l.any fun y => decide (y.2 = f)) || (l.take a).any fun y => decide (y.2 = f)) with
        | true =>
          rw [hp] at hst hJ3
          (repeat (first | (apply BND_ld c; exact rfl) | refine BND_step i1 ?_ | (apply BND_step; exact (l1 (w' := w3) rfl (j := 0) rfl)) | refine BND_step se.len ?_ | refine stp ?_ | (apply BND_inc; omega) | (apply BND_dec; omega) | refine BND_step (rfl : some _ = some _) ?_ | (apply cyes; first | assumption | omega) | (apply cno; first | assumption | omega) | refine (COND_true _ _).2 ?_ | refine (COND_false _ _).2 ?_ | simp (disch := first | assumption | omega) only [gs1, gs2, decide_true, decide_false, eq_self, beq_self_eq_true, Bool.not_true, Bool.not_false]))
          exact hJ3 (.bool true) _ hlt3 ⟨by rw [hst]; rfl, rfl⟩
        | false =>
          rw [hp, Bool.false_or] at hst
          rw [hp] at hJ3
          (repeat (first | (apply BND_ld c; exact rfl) | refine BND_step i1 ?_ | (apply BND_step; exact (l1 (w' := w3) rfl (j := 0) rfl)) | refine BND_step se.len ?_ | refine BND_step i2 ?_ | (apply BND_step; exact (l2 (w' := w3) rfl (j := 1) rfl)) | refine stp ?_ | (apply BND_inc; omega) | (apply BND_dec; omega) | refine BND_step (rfl : some _ = some _) ?_ | (apply cyes; first | assumption | omega) | (apply cno; first | assumption | omega) | refine (COND_true _ _).2 ?_ | refine (COND_false _ _).2 ?_ | simp (disch := first | assumption | omega) only [gs1, gs2, decide_true, decide_false, eq_self, beq_self_eq_true, Bool.not_true, Bool.not_false]))
          exact hJ3 (.bool (decide ((y.2 : Int) = (f : Int)))) _ hlt3 ⟨by rw [hst]; congr 1; simp [Int.ofNat_inj], rfl⟩
      · (repeat (first | (apply BND_ld c; exact rfl) | refine BND_step i1 ?_ | (apply BND_step; exact (l1 (w' := w3) rfl (j := 0) rfl)) | refine BND_step se.len ?_ | refine stp ?_ | (apply BND_inc; omega) | (apply BND_dec; omega) | refine BND_step (rfl : some _ = some _) ?_ | (apply cyes; first | assumption | omega) | (apply cno; first | assumption | omega) | refine (COND_true _ _).2 ?_ | refine (COND_false _ _).2 ?_ | simp (disch := first | assumption | omega) only [gs1, gs2, decide_true, decide_false, eq_self, beq_self_eq_true, Bool.not_true, Bool.not_false]))
        refine hJ2 _ _ hlt2 ⟨?_, rfl⟩
        rw [List.take_of_length_le (by omega : l.length ≤ a), List.take_add_one, hl, List.any_append]
        simp
    · (repeat (first | (apply BND_ld c; exact rfl) | refine BND_step ldl ?_ | refine stp ?_ | (apply BND_inc; omega) | (apply BND_dec; omega) | refine BND_step (rfl : some _ = some _) ?_ | (apply cyes; first | assumption | omega) | (apply cno; first | assumption | omega) | refine (COND_true _ _).2 ?_ | refine (COND_false _ _).2 ?_ | simp (disch := first | assumption | omega) only [gs1, gs2, decide_true, decide_false, eq_self, beq_self_eq_true, Bool.not_true, Bool.not_false]))
      rw [List.take_of_length_le (by omega)]
      have hst : sumTo (f + 1) (heldG s) = sumTo f (heldG s) + (if (s.dirs.any fun l => l.any fun y => decide (y.2 = f)) = true then x.b.length else 0) := by
        rw [sumTo_succ]; unfold heldG isHeld; rw [hfx]
      cases hp : s.dirs.any fun l => l.any fun y => decide (y.2 = f) with
      | true =>
        rw [hp] at hst
        simp only [if_true] at hst
        refine join_v (Q := fun v w' => v = .int .i64 ((sumTo (f + 1) (heldG s) : Nat) : Int) ∧ w' = w2) (fun k hk => ?_) ?_
        · obtain ⟨b1, o1, i1, _, _, l1⟩ := sf.arr.spot hv rfl .i64
          (repeat (first | (apply BND_ld c; exact rfl) | refine BND_step i1 ?_ | (apply BND_step; exact (l1 (w' := w2) rfl (j := 0) rfl)) | refine BND_step sb.len ?_ | refine BND_step (addn_ (n := sumTo f (heldG s)) (m := x.b.length) (by omega)) ?_ | refine stp ?_ | (apply BND_inc; omega) | (apply BND_dec; omega) | refine BND_step (rfl : some _ = some _) ?_ | (apply cyes; first | assumption | omega) | (apply cno; first | assumption | omega) | refine (COND_true _ _).2 ?_ | refine (COND_false _ _).2 ?_ | simp (disch := first | assumption | omega) only [gs1, gs2, decide_true, decide_false, eq_self, beq_self_eq_true, Bool.not_true, Bool.not_false]))
          exact hk _ _ ⟨by rw [hst], rfl⟩
        · rintro v w' ⟨rfl, rfl⟩
          (repeat (first | refine stp ?_ | (apply BND_inc; omega) | (apply BND_dec; omega) | refine BND_step (rfl : some _ = some _) ?_ | (apply cyes; first | assumption | omega) | (apply cno; first | assumption | omega) | refine (COND_true _ _).2 ?_ | refine (COND_false _ _).2 ?_ | simp (disch := first | assumption | omega) only [gs1, gs2, decide_true, decide_false, eq_self, beq_self_eq_true, Bool.not_true, Bool.not_false]))
          exact hJ _ _ hlt ⟨rfl, rfl⟩
      | false =>
        rw [hp] at hst
        simp only [Bool.false_eq_true, if_false, Nat.add_zero] at hst
        refine join_v (Q := fun v w' => v = .int .i64 ((sumTo (f + 1) (heldG s) : Nat) : Int) ∧ w' = w2) (fun k hk => ?_) ?_
        · (repeat (first | refine stp ?_ | (apply BND_inc; omega) | (apply BND_dec; omega) | refine BND_step (rfl : some _ = some _) ?_ | (apply cyes; first | assumption | omega) | (apply cno; first | assumption | omega) | refine (COND_true _ _).2 ?_ | refine (COND_false _ _).2 ?_ | simp (disch := first | assumption | omega) only [gs1, gs2, decide_true, decide_false, eq_self, beq_self_eq_true, Bool.not_true, Bool.not_false]))
          exact hk _ _ ⟨by rw [hst], rfl⟩
        · rintro v w' ⟨rfl, rfl⟩
          (repeat (first | refine stp ?_ | (apply BND_inc; omega) | (apply BND_dec; omega) | refine BND_step (rfl : some _ = some _) ?_ | (apply cyes; first | assumption | omega) | (apply cno; first | assumption | omega) | refine (COND_true _ _).2 ?_ | refine (COND_false _ _).2 ?_ | simp (disch := first | assumption | omega) only [gs1, gs2, decide_true, decide_false, eq_self, beq_self_eq_true, Bool.not_true, Bool.not_false]))
          exact hJ _ _ hlt ⟨rfl, rfl⟩
  · obtain rfl : f = s.files.length := by omega
    (repeat (first | (apply BND_ld c; exact rfl) | refine BND_step lf ?_ | refine stp ?_ | (apply BND_inc; omega) | (apply BND_dec; omega) | refine BND_step (rfl : some _ = some _) ?_ | (apply cyes; first | assumption | omega) | (apply cno; first | assumption | omega) | refine (COND_true _ _).2 ?_ | refine (COND_false _ _).2 ?_ | simp (disch := first | assumption | omega) only [gs1, gs2, decide_true, decide_false, eq_self, beq_self_eq_true, Bool.not_true, Bool.not_false]))
    exact hR _ (Fr.refl _ _)
theorem rf_Append (h : At w0 F0 (rfHP d s) w) (hw : s.Wf) (hn : s.dirs.length < 1000000000) (hn2 : s.files.length < 1000000000) (n : ByteArray) {u : Value} {bs : List UInt8} (hbs : bs.length < 1000000000) (hul : lenl u = some (.int .i64 bs.length))
    (hu : ∀ w', Fr F0 w0 w' → cellsOfArg w' 1 u = some (flat encB bs, bs.length)) (hR : ∀ w', At w0 F0 (rfHP d (append s n bs).1) w' → R (.int .i64 (append s n bs).2) w') : CALL PR F_tumbrelref06_Disk_Append [ptrTo d, .string n, u] w R := by
  refine C_tumbrelref06_Disk_Append ?_
  unfold M_tumbrelref06_Disk_Append
  refine rf_find h hw hn n fun w1 f1 => ?_
  have h1 := h.fr0 f1
  have hsmall := sumTo_small hw s.files.length
  rw [← held_sum] at hsmall
  have hrm := hw.room
  (repeat (first | refine stp ?_ | (apply BND_inc; omega) | (apply BND_dec; omega) | refine BND_step (rfl : some _ = some _) ?_ | (apply cyes; first | assumption | omega) | (apply cno; first | assumption | omega) | refine (COND_true _ _).2 ?_ | refine (COND_false _ _).2 ?_ | simp (disch := first | assumption | omega) only [gs1, gs2, decide_true, decide_false, eq_self, beq_self_eq_true, Bool.not_true, Bool.not_false]))
  refine join_v (Q := fun v w' => v = .int .i64 (appendE s n bs.length) ∧ Fr [] w1 w') (fun k hk => ?_) ?_
  · unfold appendE at hk
    cases hf : s.find n with
    | none =>
      rw [hf] at hk
      have e1 : numOf (none : Option Nat) = -1 := rfl
      rw [e1]
      (repeat (first | refine stp ?_ | (apply BND_inc; omega) | (apply BND_dec; omega) | refine BND_step (rfl : some _ = some _) ?_ | (apply cyes; first | assumption | omega) | (apply cno; first | assumption | omega) | refine (COND_true _ _).2 ?_ | refine (COND_false _ _).2 ?_ | simp (disch := first | assumption | omega) only [gs1, gs2, decide_true, decide_false, eq_self, beq_self_eq_true, Bool.not_true, Bool.not_false]))
      exact hk _ _ ⟨rfl, Fr.refl _ _⟩
    | some f =>
      rw [hf] at hk
      simp only [Option.isSome_some, if_true] at hk
      have e1 : numOf (some f) = (f : Int) := rfl
      rw [e1]
      obtain ⟨fv, dv, fc, es, hs⟩ := rf_open h1
      obtain ⟨T, c⟩ := hs.cell (i := 0) rfl
      have cd : blk w1.drew d = some (.cells (rfC s fv dv).toArray T (0, 0)) := c
      unfold ptrTo
      (repeat (first | refine stp ?_ | (apply BND_inc; omega) | (apply BND_dec; omega) | refine BND_step (rfl : some _ = some _) ?_ | (apply cyes; first | assumption | omega) | (apply cno; first | assumption | omega) | refine (COND_true _ _).2 ?_ | refine (COND_false _ _).2 ?_ | simp (disch := first | assumption | omega) only [gs1, gs2, decide_true, decide_false, eq_self, beq_self_eq_true, Bool.not_true, Bool.not_false]))
      refine ⟨fun _ w' => blk w' d = some (.cells (rfC s fv dv).toArray T (0, 0)), cd, ?_⟩
      (repeat (first | refine BND_step hul ?_ | (apply FLT_ld (fun _ h_ => h_); exact rfl) | refine stp ?_ | (apply BND_inc; omega) | (apply BND_dec; omega) | refine BND_step (rfl : some _ = some _) ?_ | (apply cyes; first | assumption | omega) | (apply cno; first | assumption | omega) | refine (COND_true _ _).2 ?_ | refine (COND_false _ _).2 ?_ | simp (disch := first | assumption | omega) only [gs1, gs2, decide_true, decide_false, eq_self, beq_self_eq_true, Bool.not_true, Bool.not_false]))
      refine rf_Held (h1.fr0 (Fr.drew _ _)) hw hn hn2 fun w9 f9 => ?_
      refine ⟨f9.some (by simp) cd, ?_⟩
      (repeat (first | refine BND_step (addn_ (n := held s) (m := bs.length) (by omega)) ?_ | refine stp ?_ | (apply BND_inc; omega) | (apply BND_dec; omega) | refine BND_step (rfl : some _ = some _) ?_ | (apply cyes; first | assumption | omega) | (apply cno; first | assumption | omega) | refine (COND_true _ _).2 ?_ | refine (COND_false _ _).2 ?_ | simp (disch := first | assumption | omega) only [gs1, gs2, decide_true, decide_false, eq_self, beq_self_eq_true, Bool.not_true, Bool.not_false]))
      have f19 := (Fr.drew [] w1).trans' f9
      by_cases hq : s.room < ((held s + bs.length : Nat) : Int)
      · rw [if_pos hq] at hk
        (repeat (first | refine stp ?_ | (apply BND_inc; omega) | (apply BND_dec; omega) | refine BND_step (rfl : some _ = some _) ?_ | (apply cyes; first | assumption | omega) | (apply cno; first | assumption | omega) | refine (COND_true _ _).2 ?_ | refine (COND_false _ _).2 ?_ | simp (disch := first | assumption | omega) only [gs1, gs2, decide_true, decide_false, eq_self, beq_self_eq_true, Bool.not_true, Bool.not_false]))
        refine join_v (Q := fun v w' => v = .int .i64 4 ∧ w' = w9) (fun k2 hk2 => ?_) ?_
        · (repeat (first | refine stp ?_ | (apply BND_inc; omega) | (apply BND_dec; omega) | refine BND_step (rfl : some _ = some _) ?_ | (apply cyes; first | assumption | omega) | (apply cno; first | assumption | omega) | refine (COND_true _ _).2 ?_ | refine (COND_false _ _).2 ?_ | simp (disch := first | assumption | omega) only [gs1, gs2, decide_true, decide_false, eq_self, beq_self_eq_true, Bool.not_true, Bool.not_false]))
          exact hk2 _ _ ⟨rfl, rfl⟩
        · rintro _ _ ⟨rfl, rfl⟩
          exact hk _ _ ⟨rfl, f19⟩
      · rw [if_neg hq] at hk
        (repeat (first | refine stp ?_ | (apply BND_inc; omega) | (apply BND_dec; omega) | refine BND_step (rfl : some _ = some _) ?_ | (apply cyes; first | assumption | omega) | (apply cno; first | assumption | omega) | refine (COND_true _ _).2 ?_ | refine (COND_false _ _).2 ?_ | simp (disch := first | assumption | omega) only [gs1, gs2, decide_true, decide_false, eq_self, beq_self_eq_true, Bool.not_true, Bool.not_false]))
        refine join_v (Q := fun v w' => v = .int .i64 0 ∧ w' = w9) (fun k2 hk2 => ?_) ?_
        · (repeat (first | refine stp ?_ | (apply BND_inc; omega) | (apply BND_dec; omega) | refine BND_step (rfl : some _ = some _) ?_ | (apply cyes; first | assumption | omega) | (apply cno; first | assumption | omega) | refine (COND_true _ _).2 ?_ | refine (COND_false _ _).2 ?_ | simp (disch := first | assumption | omega) only [gs1, gs2, decide_true, decide_false, eq_self, beq_self_eq_true, Bool.not_true, Bool.not_false]))
          exact hk2 _ _ ⟨rfl, rfl⟩
        · rintro _ _ ⟨rfl, rfl⟩
          exact hk _ _ ⟨rfl, f19⟩
  rintro _ w2 ⟨rfl, f2⟩
  refine rf_can (h1.fr0 f2) _ hw.burn fun w3 h3 => ?_
  unfold append at hR
  by_cases hc : (can s (appendE s n bs.length)).2 = 0
  · simp only [hc, if_true] at hR
    rw [hc]
    obtain ⟨f, hf⟩ : ∃ f, s.find n = some f := by
      have h0 := can_zero hc
      unfold appendE at h0
      cases hq : s.find n with
      | none => rw [hq] at h0; simp at h0
      | some f => exact ⟨f, rfl⟩
    rw [hf] at hR ⊢
    have e1 : numOf (some f) = (f : Int) := rfl
    rw [e1]
    simp only [Option.getD_some] at hR
    obtain ⟨k1, k2, k3⟩ := can_keep s (appendE s n bs.length)
    have hx := wf_pick hw hf
    have hsm := hw.small _ (List.mem_of_getElem? hx)
    generalize (can s (appendE s n bs.length)).1 = s1 at *
    (repeat (first | refine stp ?_ | (apply BND_inc; omega) | (apply BND_dec; omega) | refine BND_step (rfl : some _ = some _) ?_ | (apply cyes; first | assumption | omega) | (apply cno; first | assumption | omega) | refine (COND_true _ _).2 ?_ | refine (COND_false _ _).2 ?_ | simp (disch := first | assumption | omega) only [gs1, gs2, decide_true, decide_false, eq_self, beq_self_eq_true, Bool.not_true, Bool.not_false]))
    refine join_w (fun w' => At w0 F0 (rfHP d (setF s1 f { fileAt s f with b := (fileAt s f).b ++ bs })) w') (fun K hK => ?_) (fun w' hw' => hR w' hw')
    obtain ⟨fv, dv, fc, es, hs⟩ := rf_open h3
    obtain ⟨b, v, ia, rd, st, _⟩ := rf_spot hs (f := f) (by rw [k1]; exact hx)
    have e3 : hsz w3.drew = hsz w3 := rfl
    refine ⟨fun _ w' => Fr [] w3.drew w', Fr.refl _ _, Fr.refl _ _, Fr.refl _ _, ?_⟩
    have rd' : ∀ w', Fr [] w3.drew w' → _ := fun w' hw => rd w' ((Fr.drew [] w3).trans' hw)
    unfold ptrTo
    (repeat (first | refine FLT.mk _ (fun _ hw_ => (rd' _ hw_).1) ?_ | refine BND_step ia ?_ | refine stp ?_ | (apply BND_inc; omega) | (apply BND_dec; omega) | refine BND_step (rfl : some _ = some _) ?_ | (apply cyes; first | assumption | omega) | (apply cno; first | assumption | omega) | refine (COND_true _ _).2 ?_ | refine (COND_false _ _).2 ?_ | simp (disch := first | assumption | omega) only [gs1, gs2, decide_true, decide_false, eq_self, beq_self_eq_true, Bool.not_true, Bool.not_false]))
    refine FLT.mk _ (fun _ hw_ => (rd' _ hw_).2.1) ?_
    refine newnil_step encB fun t w5 s5 f5 z5 => ?_
    refine ⟨f5, f5, f5, ?_⟩
    obtain ⟨_, _, _, _, Gb, sb⟩ := rd' w5 f5
    refine APPEND_slc s5 (sb.loads encB_len) encB_len encB_one rfl (by simp; omega) (by simp; omega) fun v6 w6 G6 s6 f6 sub6 => ?_
    rw [List.nil_append] at s6
    have f56 := f5.trans f6 fun b hb => .inr (by simp at hb; omega)
    have g6 : ∀ b ∈ G6, hsz w3 ≤ b := fun b hb => by
      rcases sub6 b hb with hq | hq
      · simp at hq; omega
      · omega
    refine ⟨f56, ?_⟩
    have fw6 : Fr F0 w0 w6 := (h3.frame.trans' (Fr.drew [] w3).nil).trans' f56.nil
    refine APPEND_slc s6 (hu w6 fw6) encB_len encB_one rfl (by omega) (by omega) fun v7 w7 G7 s7 f7 sub7 => ?_
    have f57 := f56.trans f7 fun b hb => .inr (g6 b hb)
    refine ⟨f57, ?_⟩
    obtain ⟨e7, rfl⟩ := slc_sv s7
    (repeat (first | refine BND_step ia ?_ | refine stp ?_ | (apply BND_inc; omega) | (apply BND_dec; omega) | refine BND_step (rfl : some _ = some _) ?_ | (apply cyes; first | assumption | omega) | (apply cno; first | assumption | omega) | refine (COND_true _ _).2 ?_ | refine (COND_false _ _).2 ?_ | simp (disch := first | assumption | omega) only [gs1, gs2, decide_true, decide_false, eq_self, beq_self_eq_true, Bool.not_true, Bool.not_false]))
    refine st w7 e7 G7 _ _ ((Fr.drew [] w3).trans' f57) s7 (fun b hb => ?_) fun w8 h8 => hK _ (rf_shut h8)
    have := f56.grow
    rcases sub7 b hb with hq | hq
    · exact g6 b hq
    · omega
  · simp only [hc, if_false] at hR
    (repeat (first | refine stp ?_ | (apply BND_inc; omega) | (apply BND_dec; omega) | refine BND_step (rfl : some _ = some _) ?_ | (apply cyes; first | assumption | omega) | (apply cno; first | assumption | omega) | refine (COND_true _ _).2 ?_ | refine (COND_false _ _).2 ?_ | simp (disch := first | assumption | omega) only [gs1, gs2, decide_true, decide_false, eq_self, beq_self_eq_true, Bool.not_true, Bool.not_false]))
    refine join_w (fun w' => At w0 F0 (rfHP d (can s (appendE s n bs.length)).1) w') (fun K hK => ?_) (fun w' hw' => hR w' hw')
    (repeat (first | refine stp ?_ | (apply BND_inc; omega) | (apply BND_dec; omega) | refine BND_step (rfl : some _ = some _) ?_ | (apply cyes; first | assumption | omega) | (apply cno; first | assumption | omega) | refine (COND_true _ _).2 ?_ | refine (COND_false _ _).2 ?_ | simp (disch := first | assumption | omega) only [gs1, gs2, decide_true, decide_false, eq_self, beq_self_eq_true, Bool.not_true, Bool.not_false]))
    exact hK _ h3
theorem rf_Cut (h : At w0 F0 (rfHP d s) w) (hw : s.Wf) (hn : s.dirs.length < 1000000000) (n : ByteArray) (k : Int) (hR : ∀ w', At w0 F0 (rfHP d (cut s n k).1) w' → R (.int .i64 (cut s n k).2) w') : CALL PR F_tumbrelref06_Disk_Cut [ptrTo d, .string n, .int .i64 k] w R := by
  refine C_tumbrelref06_Disk_Cut ?_
  unfold M_tumbrelref06_Disk_Cut
  refine rf_find h hw hn n fun w1 f1 => ?_
  have h1 := h.fr0 f1
  (repeat (first | refine stp ?_ | (apply BND_inc; omega) | (apply BND_dec; omega) | refine BND_step (rfl : some _ = some _) ?_ | (apply cyes; first | assumption | omega) | (apply cno; first | assumption | omega) | refine (COND_true _ _).2 ?_ | refine (COND_false _ _).2 ?_ | simp (disch := first | assumption | omega) only [gs1, gs2, decide_true, decide_false, eq_self, beq_self_eq_true, Bool.not_true, Bool.not_false]))
  refine join_v (Q := fun v w' => v = .int .i64 (cutE s n k) ∧ w' = w1) (fun q hk => ?_) ?_
  · unfold cutE at hk
    cases hf : s.find n with
    | none =>
      rw [hf] at hk
      have e1 : numOf (none : Option Nat) = -1 := rfl
      rw [e1]
      (repeat (first | refine stp ?_ | (apply BND_inc; omega) | (apply BND_dec; omega) | refine BND_step (rfl : some _ = some _) ?_ | (apply cyes; first | assumption | omega) | (apply cno; first | assumption | omega) | refine (COND_true _ _).2 ?_ | refine (COND_false _ _).2 ?_ | simp (disch := first | assumption | omega) only [gs1, gs2, decide_true, decide_false, eq_self, beq_self_eq_true, Bool.not_true, Bool.not_false]))
      exact hk _ _ ⟨rfl, rfl⟩
    | some f =>
      rw [hf] at hk
      simp only at hk
      have e1 : numOf (some f) = (f : Int) := rfl
      rw [e1]
      have hx := wf_pick hw hf
      obtain ⟨fv, dv, fc, es, hs⟩ := rf_open h1
      obtain ⟨b, v, ia, rd, _⟩ := rf_spot hs hx
      obtain ⟨l1, l2, _, _, Gb, sb⟩ := rd w1 (Fr.refl _ _)
      unfold ptrTo
      by_cases q1 : k < 0
      · rw [if_pos (.inl q1)] at hk
        (repeat (first | refine stp ?_ | (apply BND_inc; omega) | (apply BND_dec; omega) | refine BND_step (rfl : some _ = some _) ?_ | (apply cyes; first | assumption | omega) | (apply cno; first | assumption | omega) | refine (COND_true _ _).2 ?_ | refine (COND_false _ _).2 ?_ | simp (disch := first | assumption | omega) only [gs1, gs2, decide_true, decide_false, eq_self, beq_self_eq_true, Bool.not_true, Bool.not_false]))
        refine join_v (Q := fun v w' => v = .int .i64 1 ∧ w' = w1) (fun k2 hk2 => ?_) ?_
        · (repeat (first | refine stp ?_ | (apply BND_inc; omega) | (apply BND_dec; omega) | refine BND_step (rfl : some _ = some _) ?_ | (apply cyes; first | assumption | omega) | (apply cno; first | assumption | omega) | refine (COND_true _ _).2 ?_ | refine (COND_false _ _).2 ?_ | simp (disch := first | assumption | omega) only [gs1, gs2, decide_true, decide_false, eq_self, beq_self_eq_true, Bool.not_true, Bool.not_false]))
          exact hk2 _ _ ⟨rfl, rfl⟩
        · rintro _ _ ⟨rfl, rfl⟩
          exact hk _ _ ⟨rfl, rfl⟩
      · by_cases q2 : ((fileAt s f).b.length : Int) < k
        · rw [if_pos (.inr q2)] at hk
          (repeat (first | refine BND_step l1 ?_ | refine BND_step ia ?_ | refine BND_step l2 ?_ | refine BND_step sb.len ?_ | refine stp ?_ | (apply BND_inc; omega) | (apply BND_dec; omega) | refine BND_step (rfl : some _ = some _) ?_ | (apply cyes; first | assumption | omega) | (apply cno; first | assumption | omega) | refine (COND_true _ _).2 ?_ | refine (COND_false _ _).2 ?_ | simp (disch := first | assumption | omega) only [gs1, gs2, decide_true, decide_false, eq_self, beq_self_eq_true, Bool.not_true, Bool.not_false]))
          refine join_v (Q := fun v w' => v = .int .i64 1 ∧ w' = w1) (fun k2 hk2 => ?_) ?_
          · (repeat (first | refine stp ?_ | (apply BND_inc; omega) | (apply BND_dec; omega) | refine BND_step (rfl : some _ = some _) ?_ | (apply cyes; first | assumption | omega) | (apply cno; first | assumption | omega) | refine (COND_true _ _).2 ?_ | refine (COND_false _ _).2 ?_ | simp (disch := first | assumption | omega) only [gs1, gs2, decide_true, decide_false, eq_self, beq_self_eq_true, Bool.not_true, Bool.not_false]))
            exact hk2 _ _ ⟨rfl, rfl⟩
          · rintro _ _ ⟨rfl, rfl⟩
            exact hk _ _ ⟨rfl, rfl⟩
        · rw [if_neg (by omega)] at hk
          (repeat (first | refine BND_step l1 ?_ | refine BND_step ia ?_ | refine BND_step l2 ?_ | refine BND_step sb.len ?_ | refine stp ?_ | (apply BND_inc; omega) | (apply BND_dec; omega) | refine BND_step (rfl : some _ = some _) ?_ | (apply cyes; first | assumption | omega) | (apply cno; first | assumption | omega) | refine (COND_true _ _).2 ?_ | refine (COND_false _ _).2 ?_ | simp (disch := first | assumption | omega) only [gs1, gs2, decide_true, decide_false, eq_self, beq_self_eq_true, Bool.not_true, Bool.not_false]))
          refine join_v (Q := fun v w' => v = .int .i64 0 ∧ w' = w1) (fun k2 hk2 => ?_) ?_
          · (repeat (first | refine stp ?_ | (apply BND_inc; omega) | (apply BND_dec; omega) | refine BND_step (rfl : some _ = some _) ?_ | (apply cyes; first | assumption | omega) | (apply cno; first | assumption | omega) | refine (COND_true _ _).2 ?_ | refine (COND_false _ _).2 ?_ | simp (disch := first | assumption | omega) only [gs1, gs2, decide_true, decide_false, eq_self, beq_self_eq_true, Bool.not_true, Bool.not_false]))
            exact hk2 _ _ ⟨rfl, rfl⟩
          · rintro _ _ ⟨rfl, rfl⟩
            exact hk _ _ ⟨rfl, rfl⟩
  rintro _ _ ⟨rfl, rfl⟩
  refine rf_can h1 _ hw.burn fun w3 h3 => ?_
  unfold cut at hR
  by_cases hc : (can s (cutE s n k)).2 = 0
  · simp only [hc, if_true] at hR
    rw [hc]
    have h0 := can_zero hc
    unfold cutE at h0
    obtain ⟨f, hf⟩ : ∃ f, s.find n = some f := by
      cases hq : s.find n with
      | none => rw [hq] at h0; simp at h0
      | some f => exact ⟨f, rfl⟩
    rw [hf] at hR h0 ⊢
    have e1 : numOf (some f) = (f : Int) := rfl
    rw [e1]
    simp only [Option.getD_some] at hR h0
    have hk : 0 ≤ k ∧ k ≤ (fileAt s f).b.length := by
      by_cases hh : k < 0 ∨ ((fileAt s f).b.length : Int) < k
      · rw [if_pos hh] at h0; omega
      · omega
    obtain ⟨k1, k2, k3⟩ := can_keep s (cutE s n k)
    have hx := wf_pick hw hf
    have hsm := hw.small _ (List.mem_of_getElem? hx)
    have hrm := hw.room
    generalize (can s (cutE s n k)).1 = s1 at *
    obtain ⟨kn, rfl⟩ : ∃ kn : Nat, k = (kn : Int) := ⟨k.toNat, by omega⟩
    simp only [Int.toNat_natCast] at hR
    generalize fileAt s f = x at *
    (repeat (first | refine stp ?_ | (apply BND_inc; omega) | (apply BND_dec; omega) | refine BND_step (rfl : some _ = some _) ?_ | (apply cyes; first | assumption | omega) | (apply cno; first | assumption | omega) | refine (COND_true _ _).2 ?_ | refine (COND_false _ _).2 ?_ | simp (disch := first | assumption | omega) only [gs1, gs2, decide_true, decide_false, eq_self, beq_self_eq_true, Bool.not_true, Bool.not_false]))
    refine join_w (fun w' => At w0 F0 (rfHP d (setF s1 f ⟨x.b.take kn, min x.sure kn⟩)) w') (fun K hK => ?_) (fun w' hw' => hR w' hw')
    obtain ⟨fv, dv, fc, es, hs⟩ := rf_open h3
    obtain ⟨b, v, ia, rd, st, _⟩ := rf_spot hs (f := f) (x := x) (by rw [k1]; exact hx)
    have e3 : hsz w3.drew = hsz w3 := rfl
    refine ⟨fun _ w' => Fr [] w3.drew w', Fr.refl _ _, Fr.refl _ _, Fr.refl _ _, ?_⟩
    have rd' : ∀ w', Fr [] w3.drew w' → _ := fun w' hw => rd w' ((Fr.drew [] w3).trans' hw)
    obtain ⟨_, _, _, _, Gb, sb⟩ := rd' w3.drew (Fr.refl _ _)
    obtain ⟨va, ea, ca⟩ := sb.upto encB_len (n := kn) (by omega) .i64
    unfold ptrTo
    (repeat (first | refine FLT.mk _ (fun _ hw_ => (rd' _ hw_).1) ?_ | refine BND_step ia ?_ | refine stp ?_ | (apply BND_inc; omega) | (apply BND_dec; omega) | refine BND_step (rfl : some _ = some _) ?_ | (apply cyes; first | assumption | omega) | (apply cno; first | assumption | omega) | refine (COND_true _ _).2 ?_ | refine (COND_false _ _).2 ?_ | simp (disch := first | assumption | omega) only [gs1, gs2, decide_true, decide_false, eq_self, beq_self_eq_true, Bool.not_true, Bool.not_false]))
    refine FLT.mk _ (fun _ hw_ => (rd' _ hw_).2.1) ?_
    (repeat (first | refine BND_step ea ?_ | refine stp ?_ | (apply BND_inc; omega) | (apply BND_dec; omega) | refine BND_step (rfl : some _ = some _) ?_ | (apply cyes; first | assumption | omega) | (apply cno; first | assumption | omega) | refine (COND_true _ _).2 ?_ | refine (COND_false _ _).2 ?_ | simp (disch := first | assumption | omega) only [gs1, gs2, decide_true, decide_false, eq_self, beq_self_eq_true, Bool.not_true, Bool.not_false]))
    refine newnil_step encB fun t w5 s5 f5 z5 => ?_
    refine ⟨f5, f5, f5, ?_⟩
    refine APPEND_slc s5 (ca w5 fun b hb => f5.keep b (sb.lt b hb) (by simp)) encB_len encB_one rfl (by simp; omega) (by simp; omega) fun v6 w6 G6 s6 f6 sub6 => ?_
    rw [List.nil_append] at s6
    have f56 := f5.trans f6 fun b hb => .inr (by simp at hb; omega)
    have g6 : ∀ b ∈ G6, hsz w3 ≤ b := fun b hb => by
      rcases sub6 b hb with hq | hq
      · simp at hq; omega
      · omega
    refine ⟨f56, ?_⟩
    obtain ⟨e6, rfl⟩ := slc_sv s6
    (repeat (first | refine BND_step ia ?_ | refine stp ?_ | (apply BND_inc; omega) | (apply BND_dec; omega) | refine BND_step (rfl : some _ = some _) ?_ | (apply cyes; first | assumption | omega) | (apply cno; first | assumption | omega) | refine (COND_true _ _).2 ?_ | refine (COND_false _ _).2 ?_ | simp (disch := first | assumption | omega) only [gs1, gs2, decide_true, decide_false, eq_self, beq_self_eq_true, Bool.not_true, Bool.not_false]))
    refine st w6 e6 G6 _ _ ((Fr.drew [] w3).trans' f56) s6 g6 fun w7 h7 => ?_
    have hfl : f < s1.files.length := by rw [k1]; exact (List.getElem?_eq_some_iff.1 hx).1
    obtain ⟨b2, v2, ia2, rd2, _, st2, _⟩ := rf_spot h7 (f := f) (x := ⟨x.b.take kn, x.sure⟩) (by show (s1.files.set f _)[f]? = _; rw [List.getElem?_set_self hfl])
    obtain ⟨l1, l2, l3, _⟩ := rd2 w7.drew (Fr.drew _ _)
    have em : min2v (.int .i64 (x.sure : Int)) (.int .i64 (kn : Int)) = some (.int .i64 ((min x.sure kn : Nat) : Int)) := by
      have : min2v (.int .i64 (x.sure : Int)) (.int .i64 (kn : Int)) = some (.int .i64 (if (kn : Int) < (x.sure : Int) then (kn : Int) else (x.sure : Int))) := rfl
      rw [this]
      congr 2
      split <;> omega
    (repeat (first | refine BND_step l1 ?_ | refine BND_step ia2 ?_ | refine BND_step l3 ?_ | refine BND_step em ?_ | refine stp ?_ | (apply BND_inc; omega) | (apply BND_dec; omega) | refine BND_step (rfl : some _ = some _) ?_ | (apply cyes; first | assumption | omega) | (apply cno; first | assumption | omega) | refine (COND_true _ _).2 ?_ | refine (COND_false _ _).2 ?_ | simp (disch := first | assumption | omega) only [gs1, gs2, decide_true, decide_false, eq_self, beq_self_eq_true, Bool.not_true, Bool.not_false]))
    refine st2 w7.drew _ _ (Fr.drew _ _) fun w8 h8 => ?_
    (repeat (first | refine stp ?_ | (apply BND_inc; omega) | (apply BND_dec; omega) | refine BND_step (rfl : some _ = some _) ?_ | (apply cyes; first | assumption | omega) | (apply cno; first | assumption | omega) | refine (COND_true _ _).2 ?_ | refine (COND_false _ _).2 ?_ | simp (disch := first | assumption | omega) only [gs1, gs2, decide_true, decide_false, eq_self, beq_self_eq_true, Bool.not_true, Bool.not_false]))
    refine hK _ (rf_shut (fv := fv) (dv := dv) (fc := (fc.set f (e6, x.sure)).set f (v2, min x.sure kn)) (es := es) ?_)
    have e : setF (setF s1 f ⟨x.b.take kn, x.sure⟩) f ⟨x.b.take kn, min x.sure kn⟩ = setF s1 f ⟨x.b.take kn, min x.sure kn⟩ := by unfold setF; simp
    rw [← e]; exact h8
  · simp only [hc, if_false] at hR
    (repeat (first | refine stp ?_ | (apply BND_inc; omega) | (apply BND_dec; omega) | refine BND_step (rfl : some _ = some _) ?_ | (apply cyes; first | assumption | omega) | (apply cno; first | assumption | omega) | refine (COND_true _ _).2 ?_ | refine (COND_false _ _).2 ?_ | simp (disch := first | assumption | omega) only [gs1, gs2, decide_true, decide_false, eq_self, beq_self_eq_true, Bool.not_true, Bool.not_false]))
    refine join_w (fun w' => At w0 F0 (rfHP d (can s (cutE s n k)).1) w') (fun K hK => ?_) (fun w' hw' => hR w' hw')
    (repeat (first | refine stp ?_ | (apply BND_inc; omega) | (apply BND_dec; omega) | refine BND_step (rfl : some _ = some _) ?_ | (apply cyes; first | assumption | omega) | (apply cno; first | assumption | omega) | refine (COND_true _ _).2 ?_ | refine (COND_false _ _).2 ?_ | simp (disch := first | assumption | omega) only [gs1, gs2, decide_true, decide_false, eq_self, beq_self_eq_true, Bool.not_true, Bool.not_false]))
    exact hK _ h3
end
end Go.Proofs.Ytpefokoiioeomaa
