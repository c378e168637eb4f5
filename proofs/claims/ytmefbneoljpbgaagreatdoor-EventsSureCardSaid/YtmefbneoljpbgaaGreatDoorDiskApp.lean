
/- A disk's calls: Append. No condition but sizes. -/
import Derived.Test.YtmefbneoljpbgaaGreatDoorDiskHeld
import Derived.Test.YtmefbneoljpbgaaGreatDoorMa
namespace Go.Proofs.YtmefbneoljpbgaaGreatDoor
open Go.Den Go.Disk
theorem held_small {s : Dk} (hw : s.Wf) : held s ≤ s.files.length * 1048576 := by
  unfold held
  have := sum_small (fs := List.range s.files.length) (g := fun f => if isHeld s f = true then (fileAt s f).b.length else 0) (b := 1048576) fun f hf => by
    split
    · have hf := List.mem_range.1 hf
      have hx : fileAt s f ∈ s.files := by
        unfold fileAt; rw [List.getD_eq_getElem?_getD, List.getElem?_eq_getElem hf]; exact List.getElem_mem hf
      have := hw.small _ hx
      have := hw.room
      omega
    · omega
  simpa using this
set_option linter.unusedSimpArgs false
set_option linter.unusedVariables false
set_option maxRecDepth 20000
set_option maxHeartbeats 4000000
attribute [local congr] BND_cg COND_cg GEF_cg
attribute [local irreducible] capl slicea load1 loadn iaddr iaddra faddr storev newslice binv lookv mupd mdel mlenv mentry mestore slicev slicev3 slices indexs indexav textv rangev nexts clearv shiftv eqaggv convi buildv pickv lens lenl unv nilchk extractv partn JOIN
section
variable {w0 w : World} {F0 : List Nat} {d : Nat} {s : Dk} {R : Value → World → Prop}
theorem dk_Append (h : At w0 F0 (diskHP d s) w) (hw : s.Wf) (hn : s.dirs.length < 1000000000) (hn2 : s.files.length < 1000000000) (n : ByteArray) {u : Value} {bs : List UInt8} (hbs : bs.length < 1000000000) (hul : lenl u = some (.int .i64 bs.length))
    (hu : ∀ w', Fr F0 w0 w' → cellsOfArg w' 1 u = some (flat encB bs, bs.length)) (hR : ∀ w', At w0 F0 (diskHP d (append s n bs).1) w' → R (.int .i64 (append s n bs).2) w') :
    CALL PR F_disk_Disk_Append [ptrTo d, .string n, u] w R := by
  refine C_disk_Disk_Append ?_
  unfold M_disk_Disk_Append
  refine dk_there h hw hn n ?_
  have hr : riseD s.now := hw.rise _ (List.mem_of_getElem? (dk_now_get hw.ne))
  have rest : ∀ w2, At w0 F0 (diskHP d s) w2 → ∀ e, e = appendE s n bs.length → (CALL PR F_disk_Disk_can [ptrTo d, .int .i64 e] w2 fun t28_16 w4 =>
      BND (binv .int .eql t28_16 (Value.int .i64 0)) fun t30_17 =>
      JOIN (α := World → Prop) (fun k_32 => COND t30_17
      (CALL PR F_disk_Disk_now [ptrTo d] w4 fun t32_33 w6 =>
      BND (lookv .string (Value.pointer none) false w6 t32_33 (.string n)) fun t34_34 =>
      BND (nilchk t34_34) fun t37_35 =>
      BND (faddr 0 t37_35) fun t38_36 =>
      BND (load1 w6 t38_36) fun t39_37 =>
      APPEND 5 1 1 (Value.int .u8 0) t39_37 u w6 fun t41_38 w7 =>
      BND (nilchk t34_34) fun t42_39 =>
      BND (faddr 0 t42_39) fun t43_40 =>
      BND (storev 1 w7 t43_40 t41_38) fun w8 =>
      k_32 w8)
      (k_32 w4))
      (fun w5 => R t28_16 w5)) := by
    rintro w2 h2 _ rfl
    refine dk_can h2 _ hw.burn fun w4 h4 => ?_
    unfold append at hR
    by_cases hc : (can s (appendE s n bs.length)).2 = 0
    · simp only [hc, if_true] at hR
      rw [hc]
      have hcz := can_zero hc
      obtain ⟨f, hfd⟩ : ∃ f, findD s.now n = some f := by
        unfold appendE Dk.find at hcz
        cases hq : findD s.now n with
        | some f => exact ⟨f, rfl⟩
        | none => rw [hq] at hcz; simp at hcz
      rw [(isSome_find hfd).2] at hR
      (repeat (first | refine stp ?_ | (apply BND_inc; omega) | (apply BND_dec; omega) | refine BND_step (rfl : some _ = some _) ?_ | (apply cyes; first | assumption | omega) | (apply cno; first | assumption | omega) | refine (COND_true _ _).2 ?_ | refine (COND_false _ _).2 ?_ | simp (disch := first | assumption | omega) only [gs1, gs2, decide_true, decide_false, eq_self, beq_self_eq_true, Bool.not_true, Bool.not_false]))
      refine join_w (fun w' => At w0 F0 (diskHP d (setF (can s (appendE s n bs.length)).1 f { fileAt s f with b := (fileAt s f).b ++ bs })) w') (fun K hK => ?_) (fun w' hw' => hR w' hw')
      obtain ⟨k1, k2, k3⟩ := can_keep s (appendE s n bs.length)
      (repeat (first | refine stp ?_ | (apply BND_inc; omega) | (apply BND_dec; omega) | refine BND_step (rfl : some _ = some _) ?_ | (apply cyes; first | assumption | omega) | (apply cno; first | assumption | omega) | refine (COND_true _ _).2 ?_ | refine (COND_false _ _).2 ?_ | simp (disch := first | assumption | omega) only [gs1, gs2, decide_true, decide_false, eq_self, beq_self_eq_true, Bool.not_true, Bool.not_false]))
      refine dk_now h4 (by rw [k2]; exact hw.ne) (by rw [k2]; exact hn) fun sv ms fb m es ck L hs hm hf hmm b1 b2 b3 => ?_
      rw [can_now] at b3
      have lk1 := dk_lookup b1 b2 b3 hr n
      rw [hfd] at lk1
      have hx0 := wf_pick hw hfd
      have hx : (can s (appendE s n bs.length)).1.files[f]? = some (fileAt s f) := by rw [k1]; exact hx0
      have hsm := hw.small _ (List.mem_of_getElem? hx0)
      have hrm := hw.room
      have hi : f < fb.length := by rw [hf]; exact (List.getElem?_eq_some_iff.1 hx).1
      have hb := List.getElem?_eq_getElem hi
      have hgd : fb.getD f 0 = fb[f] := by rw [List.getD_eq_getElem?_getD, hb]; rfl
      simp only [hgd] at lk1
      generalize fb[f] = b at hb lk1
      simp only [ptrTo] at lk1
      obtain ⟨A, bv, ha, back⟩ := dk_fupd hs hb hx
      obtain ⟨T, c⟩ := ha.cell (i := 0) rfl
      (repeat (first | refine BND_step lk1 ?_ | (apply BND_ld c; exact rfl) | refine stp ?_ | (apply BND_inc; omega) | (apply BND_dec; omega) | refine BND_step (rfl : some _ = some _) ?_ | (apply cyes; first | assumption | omega) | (apply cno; first | assumption | omega) | refine (COND_true _ _).2 ?_ | refine (COND_false _ _).2 ?_ | simp (disch := first | assumption | omega) only [gs1, gs2, decide_true, decide_false, eq_self, beq_self_eq_true, Bool.not_true, Bool.not_false]))
      refine ha.append (i := 1) rfl (hu _ hs.frame) encB_len encB_one rfl (by omega) (by omega) fun v' w7 h7 one7 => ?_
      (repeat (first | refine stp ?_ | (apply BND_inc; omega) | (apply BND_dec; omega) | refine BND_step (rfl : some _ = some _) ?_ | (apply cyes; first | assumption | omega) | (apply cno; first | assumption | omega) | refine (COND_true _ _).2 ?_ | refine (COND_false _ _).2 ?_ | simp (disch := first | assumption | omega) only [gs1, gs2, decide_true, decide_false, eq_self, beq_self_eq_true, Bool.not_true, Bool.not_false]))
      refine h7.store (i := 0) rfl one7 (by simp) fun w8 h8 f8 => hK _ ?_
      exact dk_shut (back w8 v' { fileAt s f with b := (fileAt s f).b ++ bs } h8)
    · simp only [hc, if_false] at hR
      (repeat (first | refine stp ?_ | (apply BND_inc; omega) | (apply BND_dec; omega) | refine BND_step (rfl : some _ = some _) ?_ | (apply cyes; first | assumption | omega) | (apply cno; first | assumption | omega) | refine (COND_true _ _).2 ?_ | refine (COND_false _ _).2 ?_ | simp (disch := first | assumption | omega) only [gs1, gs2, decide_true, decide_false, eq_self, beq_self_eq_true, Bool.not_true, Bool.not_false]))
      refine join_w (fun w' => At w0 F0 (diskHP d (can s (appendE s n bs.length)).1) w') (fun K hK => ?_) (fun w' hw' => hR w' hw')
      (repeat (first | refine stp ?_ | (apply BND_inc; omega) | (apply BND_dec; omega) | refine BND_step (rfl : some _ = some _) ?_ | (apply cyes; first | assumption | omega) | (apply cno; first | assumption | omega) | refine (COND_true _ _).2 ?_ | refine (COND_false _ _).2 ?_ | simp (disch := first | assumption | omega) only [gs1, gs2, decide_true, decide_false, eq_self, beq_self_eq_true, Bool.not_true, Bool.not_false]))
      exact hK w4 h4
  obtain ⟨sv, ms, fb, hs, hm, hf⟩ := dk_open h
  obtain ⟨T, c⟩ := hs.cell (i := 1) rfl
  refine ⟨fun _ w' => blk w' d = some (.cells (dkC s (ms.headD 0) sv).toArray T (0, 0)), c, ?_⟩
  cases hfd : findD s.now n with
  | none =>
    have e1 : there s n = 5 := by unfold there Dk.find; rw [hfd]; rfl
    have e : appendE s n bs.length = 5 := by unfold appendE Dk.find; rw [hfd]; rfl
    rw [e1]
    (repeat (first | refine FLT.mk _ (fun _ hw_ => rfl) ?_ | refine stp ?_ | (apply BND_inc; omega) | (apply BND_dec; omega) | refine BND_step (rfl : some _ = some _) ?_ | (apply cyes; first | assumption | omega) | (apply cno; first | assumption | omega) | refine (COND_true _ _).2 ?_ | refine (COND_false _ _).2 ?_ | simp (disch := first | assumption | omega) only [gs1, gs2, decide_true, decide_false, eq_self, beq_self_eq_true, Bool.not_true, Bool.not_false]))
    refine ⟨c, ?_⟩
    (repeat (first | refine stp ?_ | (apply BND_inc; omega) | (apply BND_dec; omega) | refine BND_step (rfl : some _ = some _) ?_ | (apply cyes; first | assumption | omega) | (apply cno; first | assumption | omega) | refine (COND_true _ _).2 ?_ | refine (COND_false _ _).2 ?_ | simp (disch := first | assumption | omega) only [gs1, gs2, decide_true, decide_false, eq_self, beq_self_eq_true, Bool.not_true, Bool.not_false]))
    refine join_v (fun e w' => e = .int .i64 (appendE s n bs.length) ∧ w' = w.drew) (fun K hK => ?_) ?_
    · (repeat (first | refine stp ?_ | (apply BND_inc; omega) | (apply BND_dec; omega) | refine BND_step (rfl : some _ = some _) ?_ | (apply cyes; first | assumption | omega) | (apply cno; first | assumption | omega) | refine (COND_true _ _).2 ?_ | refine (COND_false _ _).2 ?_ | simp (disch := first | assumption | omega) only [gs1, gs2, decide_true, decide_false, eq_self, beq_self_eq_true, Bool.not_true, Bool.not_false]))
      exact hK _ _ ⟨by rw [e], rfl⟩
    · rintro _ _ ⟨rfl, rfl⟩
      exact rest _ (h.fr0 (Fr.drew [] _)) _ rfl
  | some f =>
    have e1 : there s n = 0 := by unfold there Dk.find; rw [hfd]; rfl
    have e : appendE s n bs.length = if s.room < ((held s + bs.length : Nat) : Int) then 4 else 0 := by unfold appendE Dk.find; rw [hfd]; rfl
    have hhs : held s ≤ 1000000000 * 1048576 := Nat.le_trans (held_small hw) (Nat.mul_le_mul_right _ (by omega))
    rw [e1]
    unfold ptrTo
    (repeat (first | refine BND_step hul ?_ | (apply FLT_ld (fun _ h_ => h_); exact rfl) | refine stp ?_ | (apply BND_inc; omega) | (apply BND_dec; omega) | refine BND_step (rfl : some _ = some _) ?_ | (apply cyes; first | assumption | omega) | (apply cno; first | assumption | omega) | refine (COND_true _ _).2 ?_ | refine (COND_false _ _).2 ?_ | simp (disch := first | assumption | omega) only [gs1, gs2, decide_true, decide_false, eq_self, beq_self_eq_true, Bool.not_true, Bool.not_false]))
    refine dk_Held (h.fr0 (Fr.drew [] _)) hw hn hn2 fun w2 f2 => ?_
    refine ⟨f2.some (by simp) c, ?_⟩
    have h2 := (h.fr0 (Fr.drew [] _)).fr0 f2
    (repeat (first | refine BND_step (addn_ (by omega)) ?_ | refine stp ?_ | (apply BND_inc; omega) | (apply BND_dec; omega) | refine BND_step (rfl : some _ = some _) ?_ | (apply cyes; first | assumption | omega) | (apply cno; first | assumption | omega) | refine (COND_true _ _).2 ?_ | refine (COND_false _ _).2 ?_ | simp (disch := first | assumption | omega) only [gs1, gs2, decide_true, decide_false, eq_self, beq_self_eq_true, Bool.not_true, Bool.not_false]))
    by_cases hbig : s.room < ((held s + bs.length : Nat) : Int)
    · (repeat (first | refine stp ?_ | (apply BND_inc; omega) | (apply BND_dec; omega) | refine BND_step (rfl : some _ = some _) ?_ | (apply cyes; first | assumption | omega) | (apply cno; first | assumption | omega) | refine (COND_true _ _).2 ?_ | refine (COND_false _ _).2 ?_ | simp (disch := first | assumption | omega) only [gs1, gs2, decide_true, decide_false, eq_self, beq_self_eq_true, Bool.not_true, Bool.not_false]))
      refine join_v (fun e w' => e = .int .i64 (appendE s n bs.length) ∧ w' = w2) (fun K hK => ?_) ?_
      · (repeat (first | refine stp ?_ | (apply BND_inc; omega) | (apply BND_dec; omega) | refine BND_step (rfl : some _ = some _) ?_ | (apply cyes; first | assumption | omega) | (apply cno; first | assumption | omega) | refine (COND_true _ _).2 ?_ | refine (COND_false _ _).2 ?_ | simp (disch := first | assumption | omega) only [gs1, gs2, decide_true, decide_false, eq_self, beq_self_eq_true, Bool.not_true, Bool.not_false]))
        exact hK _ _ ⟨by rw [e, if_pos hbig], rfl⟩
      · rintro _ _ ⟨rfl, rfl⟩
        exact rest _ h2 _ rfl
    · (repeat (first | refine stp ?_ | (apply BND_inc; omega) | (apply BND_dec; omega) | refine BND_step (rfl : some _ = some _) ?_ | (apply cyes; first | assumption | omega) | (apply cno; first | assumption | omega) | refine (COND_true _ _).2 ?_ | refine (COND_false _ _).2 ?_ | simp (disch := first | assumption | omega) only [gs1, gs2, decide_true, decide_false, eq_self, beq_self_eq_true, Bool.not_true, Bool.not_false]))
      refine join_v (fun e w' => e = .int .i64 (appendE s n bs.length) ∧ w' = w2) (fun K hK => ?_) ?_
      · (repeat (first | refine stp ?_ | (apply BND_inc; omega) | (apply BND_dec; omega) | refine BND_step (rfl : some _ = some _) ?_ | (apply cyes; first | assumption | omega) | (apply cno; first | assumption | omega) | refine (COND_true _ _).2 ?_ | refine (COND_false _ _).2 ?_ | simp (disch := first | assumption | omega) only [gs1, gs2, decide_true, decide_false, eq_self, beq_self_eq_true, Bool.not_true, Bool.not_false]))
        exact hK _ _ ⟨by rw [e, if_neg hbig], rfl⟩
      · rintro _ _ ⟨rfl, rfl⟩
        exact rest _ h2 _ rfl
end
end Go.Proofs.YtmefbneoljpbgaaGreatDoor
