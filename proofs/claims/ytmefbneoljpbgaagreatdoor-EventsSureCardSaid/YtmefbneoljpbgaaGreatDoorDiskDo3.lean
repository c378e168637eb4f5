
/- A disk's calls: Delete, Rename, DirSync, Names, New. No condition but sizes. -/
import Derived.Test.YtmefbneoljpbgaaGreatDoorDiskDo2
namespace Go.Proofs.YtmefbneoljpbgaaGreatDoor
open Go.Den Go.Disk
theorem there_zero {s : Dk} {n : ByteArray} (h : there s n = 0) : ∃ f, findD s.now n = some f := by
  unfold there Dk.find at h
  cases hq : findD s.now n with
  | some f => exact ⟨f, rfl⟩
  | none => rw [hq] at h; simp at h
set_option linter.unusedSimpArgs false
set_option linter.unusedVariables false
set_option maxRecDepth 20000
set_option maxHeartbeats 4000000
attribute [local congr] BND_cg COND_cg GEF_cg
attribute [local irreducible] capl slicea load1 loadn iaddr iaddra faddr storev newslice binv lookv mupd mdel mlenv mentry mestore slicev slicev3 slices indexs indexav textv rangev nexts clearv shiftv eqaggv convi buildv pickv lens lenl unv nilchk extractv partn JOIN
section
variable {w0 w : World} {F0 : List Nat} {d : Nat} {s : Dk} {R : Value → World → Prop}
theorem dk_DirSync (h : At w0 F0 (diskHP d s) w) (hw : s.Wf) (hn : s.dirs.length < 1000000000) (hR : ∀ w', At w0 F0 (diskHP d (dirsync s).1) w' → R (.int .i64 (dirsync s).2) w') :
    CALL PR F_disk_Disk_DirSync [ptrTo d] w R := by
  refine C_disk_Disk_DirSync ?_
  unfold M_disk_Disk_DirSync
  refine dk_can h _ hw.burn fun w4 h4 => ?_
  unfold dirsync at hR
  by_cases hc : (can s 0).2 = 0
  · simp only [hc, if_true] at hR
    rw [hc]
    (repeat (first | refine stp ?_ | (apply BND_inc; omega) | (apply BND_dec; omega) | refine BND_step (rfl : some _ = some _) ?_ | (apply cyes; first | assumption | omega) | (apply cno; first | assumption | omega) | refine (COND_true _ _).2 ?_ | refine (COND_false _ _).2 ?_ | simp (disch := first | assumption | omega) only [gs1, gs2, decide_true, decide_false, eq_self, beq_self_eq_true, Bool.not_true, Bool.not_false]))
    refine join_w (fun w' => At w0 F0 (diskHP d { (can s 0).1 with dirs := [s.now] }) w') (fun K hK => ?_) (fun w' hw' => hR w' hw')
    obtain ⟨k1, k2, k3⟩ := can_keep s 0
    (repeat (first | refine stp ?_ | (apply BND_inc; omega) | (apply BND_dec; omega) | refine BND_step (rfl : some _ = some _) ?_ | (apply cyes; first | assumption | omega) | (apply cno; first | assumption | omega) | refine (COND_true _ _).2 ?_ | refine (COND_false _ _).2 ?_ | simp (disch := first | assumption | omega) only [gs1, gs2, decide_true, decide_false, eq_self, beq_self_eq_true, Bool.not_true, Bool.not_false]))
    refine dk_now h4 (by rw [k2]; exact hw.ne) (by rw [k2]; exact hn) fun sv ms fb m es ck L hs hm hf hmm b1 b2 b3 => ?_
    rw [can_now] at b3
    unfold ptrTo
    (repeat (first | refine stp ?_ | (apply BND_inc; omega) | (apply BND_dec; omega) | refine BND_step (rfl : some _ = some _) ?_ | (apply cyes; first | assumption | omega) | (apply cno; first | assumption | omega) | refine (COND_true _ _).2 ?_ | refine (COND_false _ _).2 ?_ | simp (disch := first | assumption | omega) only [gs1, gs2, decide_true, decide_false, eq_self, beq_self_eq_true, Bool.not_true, Bool.not_false]))
    refine hs.store (i := 1) rfl ⟨rfl, rfl⟩ (by simp [dkC]) fun w1 h1 f1 => ?_
    (repeat (first | refine stp ?_ | (apply BND_inc; omega) | (apply BND_dec; omega) | refine BND_step (rfl : some _ = some _) ?_ | (apply cyes; first | assumption | omega) | (apply cno; first | assumption | omega) | refine (COND_true _ _).2 ?_ | refine (COND_false _ _).2 ?_ | simp (disch := first | assumption | omega) only [gs1, gs2, decide_true, decide_false, eq_self, beq_self_eq_true, Bool.not_true, Bool.not_false]))
    refine h1.store (i := 1) rfl ⟨rfl, rfl⟩ (by simp [dkC]) fun w2 h2 f2 => hK _ ?_
    obtain ⟨A, a1, upd⟩ := h2.upd 2 rfl
    have h3 := upd w2 [] (slc encM 1 (.slice none 0 0) []) (Slc.nil _ _ _) (Fr.refl _ _) (by simp)
    obtain ⟨A3, a3, upd3⟩ := h3.upd 3 rfl
    obtain ⟨B, ⟨b4, rfl⟩, hmA⟩ := stars_get (dirHPs fb ms (can s 0).1.dirs) ((can s 0).1.dirs.length - 1) (dirHP fb m s.now) (by
      unfold dirHPs; rw [List.getElem?_zipWith, hmm, dk_now_get (by rw [k2]; exact hw.ne), can_now]) a3
    have h5 := upd3 w2 [m] (stars [dirHP fb m s.now]) ⟨[m], [], ⟨b4, rfl⟩, ⟨trivial, rfl⟩, rfl, by simp⟩ (Fr.refl _ _) (fun c hc => .inl (hmA c hc))
    have h6 := At.pure0 (b := [m].length = [s.now].length ∧ fb.length = (can s 0).1.files.length) h5 ⟨rfl, hf⟩
    exact dk_shut (s := { (can s 0).1 with dirs := [s.now] }) (sv := .slice none 0 0) (ms := [m]) (fb := fb) h6
  · simp only [hc, if_false] at hR
    (repeat (first | refine stp ?_ | (apply BND_inc; omega) | (apply BND_dec; omega) | refine BND_step (rfl : some _ = some _) ?_ | (apply cyes; first | assumption | omega) | (apply cno; first | assumption | omega) | refine (COND_true _ _).2 ?_ | refine (COND_false _ _).2 ?_ | simp (disch := first | assumption | omega) only [gs1, gs2, decide_true, decide_false, eq_self, beq_self_eq_true, Bool.not_true, Bool.not_false]))
    refine join_w (fun w' => At w0 F0 (diskHP d (can s 0).1) w') (fun K hK => ?_) (fun w' hw' => hR w' hw')
    (repeat (first | refine stp ?_ | (apply BND_inc; omega) | (apply BND_dec; omega) | refine BND_step (rfl : some _ = some _) ?_ | (apply cyes; first | assumption | omega) | (apply cno; first | assumption | omega) | refine (COND_true _ _).2 ?_ | refine (COND_false _ _).2 ?_ | simp (disch := first | assumption | omega) only [gs1, gs2, decide_true, decide_false, eq_self, beq_self_eq_true, Bool.not_true, Bool.not_false]))
    exact hK w4 h4
theorem dk_Names (h : At w0 F0 (diskHP d s) w) (hw : s.Wf) (hn : s.dirs.length < 1000000000) (hR : ∀ w' v G, At w0 F0 (diskHP d s) w' → Slc encN 1 w' v (s.now.map (·.1)) G → (∀ b ∈ G, hsz w ≤ b) → Fr [] w w' → R v w') :
    CALL PR F_disk_Disk_Names [ptrTo d] w R := by
  refine C_disk_Disk_Names ?_
  unfold M_disk_Disk_Names
  have hmem : s.now ∈ s.dirs := List.mem_of_getElem? (dk_now_get hw.ne)
  refine dk_now h hw.ne hn fun sv ms fb m es ck L hs hm hf hmm b1 b2 b3 => ?_
  exact dk_keys b1 b2 b3 (hw.rise _ hmem) (hw.many _ hmem) (hw.nm _ hmem) fun w' v G h1 h2 h3 => hR w' v G (h.fr0 h3) h1 h2 h3
end
end Go.Proofs.YtmefbneoljpbgaaGreatDoor
