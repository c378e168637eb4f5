/- A disk's calls: Delete, Rename, DirSync, Names, New. No condition but sizes. -/
import Derived.Test.YthlmkjkjebcpfaaDiskDo2
namespace Go.Proofs.Ythlmkjkjebcpfaa
open Go.Den Go.Disk
theorem there_zero {s : Dk} {n : ByteArray} (h : there s n = 0) : ∃ f, findD s.now n = some f := by
  unfold there Dk.find at h
  cases hq : findD s.now n with
  | some f => exact ⟨f, rfl⟩
  | none => rw [hq] at h; simp at h
set_option linter.unusedSimpArgs false
set_option linter.unusedVariables false
set_option maxRecDepth 20000
set_option maxHeartbeats 4000000
attribute [local congr] BND_cg COND_cg GEF_cg
attribute [local irreducible] capl slicea load1 loadn iaddr iaddra faddr storev newslice binv lookv mupd mdel mlenv mentry mestore slicev slicev3 slices indexs indexav textv rangev nexts clearv shiftv eqaggv convi buildv pickv lens lenl unv nilchk extractv partn JOIN
section
variable {w0 w : World} {F0 : List Nat} {d : Nat} {s : Dk} {R : Value → World → Prop}
theorem dk_Delete (h : At w0 F0 (diskHP d s) w) (hw : s.Wf) (hn : s.dirs.length < 1000000000) (n : ByteArray) (hR : ∀ w', At w0 F0 (diskHP d (delete s n).1) w' → R (.int .i64 (delete s n).2) w') :
    CALL PR F_disk_Disk_Delete [ptrTo d, .string n] w R := by
  refine C_disk_Disk_Delete ?_
  unfold M_disk_Disk_Delete
  refine dk_there h hw hn n ?_
  refine dk_can h _ hw.burn fun w4 h4 => ?_
  have hr : riseD s.now := hw.rise _ (List.mem_of_getElem? (dk_now_get hw.ne))
  unfold delete at hR
  by_cases hc : (can s (there s n)).2 = 0
  · simp only [hc, if_true] at hR
    rw [hc]
    (repeat (first | refine stp ?_ | (apply BND_inc; omega) | (apply BND_dec; omega) | refine BND_step (rfl : some _ = some _) ?_ | (apply cyes; first | assumption | omega) | (apply cno; first | assumption | omega) | refine (COND_true _ _).2 ?_ | refine (COND_false _ _).2 ?_ | simp (disch := first | assumption | omega) only [gs1, gs2, decide_true, decide_false, eq_self, beq_self_eq_true, Bool.not_true, Bool.not_false]))
    refine join_w (fun w' => At w0 F0 (diskHP d { (can s (there s n)).1 with dirs := s.dirs ++ [without s.now n] }) w') (fun K hK => ?_) (fun w' hw' => hR w' hw')
    obtain ⟨k1, k2, k3⟩ := can_keep s (there s n)
    (repeat (first | refine stp ?_ | (apply BND_inc; omega) | (apply BND_dec; omega) | refine BND_step (rfl : some _ = some _) ?_ | (apply cyes; first | assumption | omega) | (apply cno; first | assumption | omega) | refine (COND_true _ _).2 ?_ | refine (COND_false _ _).2 ?_ | simp (disch := first | assumption | omega) only [gs1, gs2, decide_true, decide_false, eq_self, beq_self_eq_true, Bool.not_true, Bool.not_false]))
    refine dk_change h4 (wf_can hw _) (by rw [k2]; exact hn) fun w6 sv6 ms6 fb6 m6 hs6 hm6 na6 _ => ?_
    rw [can_now, k2] at hs6
    rw [k2] at hm6
    rw [can_now] at na6
    obtain ⟨es6, ck6, L6, q1, q2, q3⟩ := na6.h
    obtain ⟨es8, ck8, e8, m8⟩ := mdel_B keyStr q1 q2 n
    refine BND_step e8 <| hK _ ?_
    have hperm := del_dir hr q3 q2.l.once n
    have h9 := dk_setdir hs6 (i := s.dirs.length) (l := s.now) (l' := without s.now n) hm6 (by simp) (Fr.setB (F := [m6]) (.inl (by simp)) _) (blk_setB_same q1) m8 hperm
    simp only [set_snoc] at h9
    exact dk_shut h9
  · simp only [hc, if_false] at hR
    (repeat (first | refine stp ?_ | (apply BND_inc; omega) | (apply BND_dec; omega) | refine BND_step (rfl : some _ = some _) ?_ | (apply cyes; first | assumption | omega) | (apply cno; first | assumption | omega) | refine (COND_true _ _).2 ?_ | refine (COND_false _ _).2 ?_ | simp (disch := first | assumption | omega) only [gs1, gs2, decide_true, decide_false, eq_self, beq_self_eq_true, Bool.not_true, Bool.not_false]))
    refine join_w (fun w' => At w0 F0 (diskHP d (can s (there s n)).1) w') (fun K hK => ?_) (fun w' hw' => hR w' hw')
    (repeat (first | refine stp ?_ | (apply BND_inc; omega) | (apply BND_dec; omega) | refine BND_step (rfl : some _ = some _) ?_ | (apply cyes; first | assumption | omega) | (apply cno; first | assumption | omega) | refine (COND_true _ _).2 ?_ | refine (COND_false _ _).2 ?_ | simp (disch := first | assumption | omega) only [gs1, gs2, decide_true, decide_false, eq_self, beq_self_eq_true, Bool.not_true, Bool.not_false]))
    exact hK w4 h4
theorem dk_Rename (h : At w0 F0 (diskHP d s) w) (hw : s.Wf) (hn : s.dirs.length < 1000000000) (a b : ByteArray) (hR : ∀ w', At w0 F0 (diskHP d (rename s a b).1) w' → R (.int .i64 (rename s a b).2) w') :
    CALL PR F_disk_Disk_Rename [ptrTo d, .string a, .string b] w R := by
  refine C_disk_Disk_Rename ?_
  unfold M_disk_Disk_Rename
  refine dk_there h hw hn a ?_
  have hr : riseD s.now := hw.rise _ (List.mem_of_getElem? (dk_now_get hw.ne))
  have rest : ∀ w2, At w0 F0 (diskHP d s) w2 → ∀ e, e = renameE s a b → (CALL PR F_disk_Disk_can [ptrTo d, .int .i64 e] w2 fun t22_8 w4 =>
      BND (binv .int .eql t22_8 (Value.int .i64 0)) fun t24_9 =>
      JOIN (α := World → Prop) (fun k_22 => COND t24_9
      (CALL PR F_disk_Disk_change [ptrTo d] w4 fun t26_23 w6 =>
      BND (lookv .string (Value.pointer none) false w6 t26_23 (.string a)) fun t29_24 =>
      BND (mdel .string w6 t26_23 (.string a)) fun w7 =>
      BND (mupd .string w7 t26_23 (.string b) t29_24) fun w8 =>
      k_22 w8)
      (k_22 w4))
      (fun w5 => R t22_8 w5)) := by
    rintro w2 h2 _ rfl
    refine dk_can h2 _ hw.burn fun w4 h4 => ?_
    unfold rename at hR
    by_cases hc : (can s (renameE s a b)).2 = 0
    · simp only [hc, if_true] at hR
      rw [hc]
      have hcz := can_zero hc
      obtain ⟨f, hfd⟩ : ∃ f, findD s.now a = some f := by
        unfold renameE Dk.find at hcz
        cases hq : findD s.now a with
        | some f => exact ⟨f, rfl⟩
        | none => rw [hq] at hcz; simp at hcz
      have hff : (s.find a).getD 0 = f := by unfold Dk.find; rw [hfd]; rfl
      rw [hff] at hR
      (repeat (first | refine stp ?_ | (apply BND_inc; omega) | (apply BND_dec; omega) | refine BND_step (rfl : some _ = some _) ?_ | (apply cyes; first | assumption | omega) | (apply cno; first | assumption | omega) | refine (COND_true _ _).2 ?_ | refine (COND_false _ _).2 ?_ | simp (disch := first | assumption | omega) only [gs1, gs2, decide_true, decide_false, eq_self, beq_self_eq_true, Bool.not_true, Bool.not_false]))
      refine join_w (fun w' => At w0 F0 (diskHP d { (can s (renameE s a b)).1 with dirs := s.dirs ++ [withD (without (without s.now a) b) (b, f)] }) w') (fun K hK => ?_) (fun w' hw' => hR w' hw')
      obtain ⟨k1, k2, k3⟩ := can_keep s (renameE s a b)
      (repeat (first | refine stp ?_ | (apply BND_inc; omega) | (apply BND_dec; omega) | refine BND_step (rfl : some _ = some _) ?_ | (apply cyes; first | assumption | omega) | (apply cno; first | assumption | omega) | refine (COND_true _ _).2 ?_ | refine (COND_false _ _).2 ?_ | simp (disch := first | assumption | omega) only [gs1, gs2, decide_true, decide_false, eq_self, beq_self_eq_true, Bool.not_true, Bool.not_false]))
      refine dk_change h4 (wf_can hw _) (by rw [k2]; exact hn) fun w6 sv6 ms6 fb6 m6 hs6 hm6 na6 _ => ?_
      rw [can_now, k2] at hs6
      rw [k2] at hm6
      rw [can_now] at na6
      obtain ⟨es6, ck6, L6, q1, q2, q3⟩ := na6.h
      have lk1 := dk_lookup q1 q2 q3 hr a
      rw [hfd] at lk1
      simp only at lk1
      refine BND_step lk1 ?_
      obtain ⟨es7, ck7, e7, m7⟩ := mdel_B keyStr q1 q2 a
      refine BND_step e7 ?_
      obtain ⟨es8, ck8, e8, m8⟩ := mupd_B keyStr (blk_setB_same q1) m7 b (ptrTo (fb6.getD f 0))
      refine BND_step e8 <| hK _ ?_
      have p1 := del_dir hr q3 q2.l.once a
      have p2 := ins_dir (rise_without hr a) p1 m7.l.once b f
      have fr1 : Fr [m6] w6 (setB w6 m6 (.map es7 ck7)) := Fr.setB (.inl (by simp)) _
      have fr2 : Fr [m6] (setB w6 m6 (.map es7 ck7)) (setB (setB w6 m6 (.map es7 ck7)) m6 (.map es8 ck8)) := Fr.setB (.inl (by simp)) _
      have h9 := dk_setdir hs6 (i := s.dirs.length) (l := s.now) (l' := withD (without (without s.now a) b) (b, f)) hm6 (by simp) (fr1.trans' fr2) (blk_setB_same (blk_setB_same q1)) m8 p2
      simp only [set_snoc] at h9
      exact dk_shut h9
    · simp only [hc, if_false] at hR
      (repeat (first | refine stp ?_ | (apply BND_inc; omega) | (apply BND_dec; omega) | refine BND_step (rfl : some _ = some _) ?_ | (apply cyes; first | assumption | omega) | (apply cno; first | assumption | omega) | refine (COND_true _ _).2 ?_ | refine (COND_false _ _).2 ?_ | simp (disch := first | assumption | omega) only [gs1, gs2, decide_true, decide_false, eq_self, beq_self_eq_true, Bool.not_true, Bool.not_false]))
      refine join_w (fun w' => At w0 F0 (diskHP d (can s (renameE s a b)).1) w') (fun K hK => ?_) (fun w' hw' => hR w' hw')
      (repeat (first | refine stp ?_ | (apply BND_inc; omega) | (apply BND_dec; omega) | refine BND_step (rfl : some _ = some _) ?_ | (apply cyes; first | assumption | omega) | (apply cno; first | assumption | omega) | refine (COND_true _ _).2 ?_ | refine (COND_false _ _).2 ?_ | simp (disch := first | assumption | omega) only [gs1, gs2, decide_true, decide_false, eq_self, beq_self_eq_true, Bool.not_true, Bool.not_false]))
      exact hK w4 h4
  have hte : there s a = if (s.find a).isSome then 0 else 5 := rfl
  cases hfd : (s.find a).isSome with
  | false =>
    have e1 : there s a = 5 := by rw [hte, hfd]; rfl
    have e : renameE s a b = 5 := by unfold renameE; rw [hfd]; rfl
    rw [e1]
    (repeat (first | refine stp ?_ | (apply BND_inc; omega) | (apply BND_dec; omega) | refine BND_step (rfl : some _ = some _) ?_ | (apply cyes; first | assumption | omega) | (apply cno; first | assumption | omega) | refine (COND_true _ _).2 ?_ | refine (COND_false _ _).2 ?_ | simp (disch := first | assumption | omega) only [gs1, gs2, decide_true, decide_false, eq_self, beq_self_eq_true, Bool.not_true, Bool.not_false]))
    refine join_v (fun e w' => e = .int .i64 (renameE s a b) ∧ w' = w) (fun K hK => ?_) ?_
    · (repeat (first | refine stp ?_ | (apply BND_inc; omega) | (apply BND_dec; omega) | refine BND_step (rfl : some _ = some _) ?_ | (apply cyes; first | assumption | omega) | (apply cno; first | assumption | omega) | refine (COND_true _ _).2 ?_ | refine (COND_false _ _).2 ?_ | simp (disch := first | assumption | omega) only [gs1, gs2, decide_true, decide_false, eq_self, beq_self_eq_true, Bool.not_true, Bool.not_false]))
      exact hK _ _ ⟨by rw [e], rfl⟩
    · rintro _ _ ⟨rfl, rfl⟩
      exact rest _ h _ rfl
  | true =>
    have e1 : there s a = 0 := by rw [hte, hfd]; rfl
    have e : renameE s a b = if named b then 0 else 1 := by unfold renameE; rw [hfd]; rfl
    rw [e1]
    (repeat (first | refine stp ?_ | (apply BND_inc; omega) | (apply BND_dec; omega) | refine BND_step (rfl : some _ = some _) ?_ | (apply cyes; first | assumption | omega) | (apply cno; first | assumption | omega) | refine (COND_true _ _).2 ?_ | refine (COND_false _ _).2 ?_ | simp (disch := first | assumption | omega) only [gs1, gs2, decide_true, decide_false, eq_self, beq_self_eq_true, Bool.not_true, Bool.not_false]))
    refine dk_named b fun w2 f2 => ?_
    have h2 := h.fr0 f2
    cases hnm : named b with
    | true =>
      rw [hnm] at e
      (repeat (first | refine stp ?_ | (apply BND_inc; omega) | (apply BND_dec; omega) | refine BND_step (rfl : some _ = some _) ?_ | (apply cyes; first | assumption | omega) | (apply cno; first | assumption | omega) | refine (COND_true _ _).2 ?_ | refine (COND_false _ _).2 ?_ | simp (disch := first | assumption | omega) only [gs1, gs2, decide_true, decide_false, eq_self, beq_self_eq_true, Bool.not_true, Bool.not_false]))
      refine join_v (fun e w' => e = .int .i64 (renameE s a b) ∧ w' = w2) (fun K hK => ?_) ?_
      · (repeat (first | refine stp ?_ | (apply BND_inc; omega) | (apply BND_dec; omega) | refine BND_step (rfl : some _ = some _) ?_ | (apply cyes; first | assumption | omega) | (apply cno; first | assumption | omega) | refine (COND_true _ _).2 ?_ | refine (COND_false _ _).2 ?_ | simp (disch := first | assumption | omega) only [gs1, gs2, decide_true, decide_false, eq_self, beq_self_eq_true, Bool.not_true, Bool.not_false]))
        exact hK _ _ ⟨by rw [e]; rfl, rfl⟩
      · rintro _ _ ⟨rfl, rfl⟩
        exact rest _ h2 _ rfl
    | false =>
      rw [hnm] at e
      (repeat (first | refine stp ?_ | (apply BND_inc; omega) | (apply BND_dec; omega) | refine BND_step (rfl : some _ = some _) ?_ | (apply cyes; first | assumption | omega) | (apply cno; first | assumption | omega) | refine (COND_true _ _).2 ?_ | refine (COND_false _ _).2 ?_ | simp (disch := first | assumption | omega) only [gs1, gs2, decide_true, decide_false, eq_self, beq_self_eq_true, Bool.not_true, Bool.not_false]))
      refine join_v (fun e w' => e = .int .i64 (renameE s a b) ∧ w' = w2) (fun K hK => ?_) ?_
      · (repeat (first | refine stp ?_ | (apply BND_inc; omega) | (apply BND_dec; omega) | refine BND_step (rfl : some _ = some _) ?_ | (apply cyes; first | assumption | omega) | (apply cno; first | assumption | omega) | refine (COND_true _ _).2 ?_ | refine (COND_false _ _).2 ?_ | simp (disch := first | assumption | omega) only [gs1, gs2, decide_true, decide_false, eq_self, beq_self_eq_true, Bool.not_true, Bool.not_false]))
        exact hK _ _ ⟨by rw [e]; rfl, rfl⟩
      · rintro _ _ ⟨rfl, rfl⟩
        exact rest _ h2 _ rfl
theorem dk_DirSync (h : At w0 F0 (diskHP d s) w) (hw : s.Wf) (hn : s.dirs.length < 1000000000) (hR : ∀ w', At w0 F0 (diskHP d (dirsync s).1) w' → R (.int .i64 (dirsync s).2) w') :
    CALL PR F_disk_Disk_DirSync [ptrTo d] w R := by
  refine C_disk_Disk_DirSync ?_
  unfold M_disk_Disk_DirSync
  refine dk_can h _ hw.burn fun w4 h4 => ?_
  unfold dirsync at hR
  by_cases hc : (can s 0).2 = 0
  · simp only [hc, if_true] at hR
    rw [hc]
    (repeat (first | refine stp ?_ | (apply BND_inc; omega) | (apply BND_dec; omega) | refine BND_step (rfl : some _ = some _) ?_ | (apply cyes; first | assumption | omega) | (apply cno; first | assumption | omega) | refine (COND_true _ _).2 ?_ | refine (COND_false _ _).2 ?_ | simp (disch := first | assumption | omega) only [gs1, gs2, decide_true, decide_false, eq_self, beq_self_eq_true, Bool.not_true, Bool.not_false]))
    refine join_w (fun w' => At w0 F0 (diskHP d { (can s 0).1 with dirs := [s.now] }) w') (fun K hK => ?_) (fun w' hw' => hR w' hw')
    obtain ⟨k1, k2, k3⟩ := can_keep s 0
    (repeat (first | refine stp ?_ | (apply BND_inc; omega) | (apply BND_dec; omega) | refine BND_step (rfl : some _ = some _) ?_ | (apply cyes; first | assumption | omega) | (apply cno; first | assumption | omega) | refine (COND_true _ _).2 ?_ | refine (COND_false _ _).2 ?_ | simp (disch := first | assumption | omega) only [gs1, gs2, decide_true, decide_false, eq_self, beq_self_eq_true, Bool.not_true, Bool.not_false]))
    refine dk_now h4 (by rw [k2]; exact hw.ne) (by rw [k2]; exact hn) fun sv ms fb m es ck L hs hm hf hmm b1 b2 b3 => ?_
    rw [can_now] at b3
    unfold ptrTo
    (repeat (first | refine stp ?_ | (apply BND_inc; omega) | (apply BND_dec; omega) | refine BND_step (rfl : some _ = some _) ?_ | (apply cyes; first | assumption | omega) | (apply cno; first | assumption | omega) | refine (COND_true _ _).2 ?_ | refine (COND_false _ _).2 ?_ | simp (disch := first | assumption | omega) only [gs1, gs2, decide_true, decide_false, eq_self, beq_self_eq_true, Bool.not_true, Bool.not_false]))
    refine hs.store (i := 1) rfl ⟨rfl, rfl⟩ (by simp [dkC]) fun w1 h1 f1 => ?_
    (repeat (first | refine stp ?_ | (apply BND_inc; omega) | (apply BND_dec; omega) | refine BND_step (rfl : some _ = some _) ?_ | (apply cyes; first | assumption | omega) | (apply cno; first | assumption | omega) | refine (COND_true _ _).2 ?_ | refine (COND_false _ _).2 ?_ | simp (disch := first | assumption | omega) only [gs1, gs2, decide_true, decide_false, eq_self, beq_self_eq_true, Bool.not_true, Bool.not_false]))
    refine h1.store (i := 1) rfl ⟨rfl, rfl⟩ (by simp [dkC]) fun w2 h2 f2 => hK _ ?_
    obtain ⟨A, a1, upd⟩ := h2.upd 2 rfl
    have h3 := upd w2 [] (slc encM 1 (.slice none 0 0) []) (Slc.nil _ _ _) (Fr.refl _ _) (by simp)
    obtain ⟨A3, a3, upd3⟩ := h3.upd 3 rfl
    obtain ⟨B, ⟨b4, rfl⟩, hmA⟩ := stars_get (dirHPs fb ms (can s 0).1.dirs) ((can s 0).1.dirs.length - 1) (dirHP fb m s.now) (by
      unfold dirHPs; rw [List.getElem?_zipWith, hmm, dk_now_get (by rw [k2]; exact hw.ne), can_now]) a3
    have h5 := upd3 w2 [m] (stars [dirHP fb m s.now]) ⟨[m], [], ⟨b4, rfl⟩, ⟨trivial, rfl⟩, rfl, by simp⟩ (Fr.refl _ _) (fun c hc => .inl (hmA c hc))
    have h6 := At.pure0 (b := [m].length = [s.now].length ∧ fb.length = (can s 0).1.files.length) h5 ⟨rfl, hf⟩
    exact dk_shut (s := { (can s 0).1 with dirs := [s.now] }) (sv := .slice none 0 0) (ms := [m]) (fb := fb) h6
  · simp only [hc, if_false] at hR
    (repeat (first | refine stp ?_ | (apply BND_inc; omega) | (apply BND_dec; omega) | refine BND_step (rfl : some _ = some _) ?_ | (apply cyes; first | assumption | omega) | (apply cno; first | assumption | omega) | refine (COND_true _ _).2 ?_ | refine (COND_false _ _).2 ?_ | simp (disch := first | assumption | omega) only [gs1, gs2, decide_true, decide_false, eq_self, beq_self_eq_true, Bool.not_true, Bool.not_false]))
    refine join_w (fun w' => At w0 F0 (diskHP d (can s 0).1) w') (fun K hK => ?_) (fun w' hw' => hR w' hw')
    (repeat (first | refine stp ?_ | (apply BND_inc; omega) | (apply BND_dec; omega) | refine BND_step (rfl : some _ = some _) ?_ | (apply cyes; first | assumption | omega) | (apply cno; first | assumption | omega) | refine (COND_true _ _).2 ?_ | refine (COND_false _ _).2 ?_ | simp (disch := first | assumption | omega) only [gs1, gs2, decide_true, decide_false, eq_self, beq_self_eq_true, Bool.not_true, Bool.not_false]))
    exact hK w4 h4
theorem dk_Names (h : At w0 F0 (diskHP d s) w) (hw : s.Wf) (hn : s.dirs.length < 1000000000) (hR : ∀ w' v G, At w0 F0 (diskHP d s) w' → Slc encN 1 w' v (s.now.map (·.1)) G → (∀ b ∈ G, hsz w ≤ b) → Fr [] w w' → R v w') :
    CALL PR F_disk_Disk_Names [ptrTo d] w R := by
  refine C_disk_Disk_Names ?_
  unfold M_disk_Disk_Names
  have hmem : s.now ∈ s.dirs := List.mem_of_getElem? (dk_now_get hw.ne)
  refine dk_now h hw.ne hn fun sv ms fb m es ck L hs hm hf hmm b1 b2 b3 => ?_
  exact dk_keys b1 b2 b3 (hw.rise _ hmem) (hw.many _ hmem) (hw.nm _ hmem) fun w' v G h1 h2 h3 => hR w' v G (h.fr0 h3) h1 h2 h3
end
end Go.Proofs.Ythlmkjkjebcpfaa
