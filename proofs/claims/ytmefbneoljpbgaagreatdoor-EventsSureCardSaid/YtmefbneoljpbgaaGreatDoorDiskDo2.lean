
/- A disk's calls: Create, Delete, Rename, DirSync, Names, New. No condition but sizes. -/
import Derived.Test.YtmefbneoljpbgaaGreatDoorDiskDo
namespace Go.Proofs.YtmefbneoljpbgaaGreatDoor
open Go.Den Go.Disk
/-! ## Plain -/
theorem can_keep (s : Dk) (e : Int) : (can s e).1.files = s.files ∧ (can s e).1.dirs = s.dirs ∧ (can s e).1.room = s.room := by
  unfold can
  split
  · exact ⟨rfl, rfl, rfl⟩
  · split
    · exact ⟨rfl, rfl, rfl⟩
    · split
      · exact ⟨rfl, rfl, rfl⟩
      · split <;> exact ⟨rfl, rfl, rfl⟩
theorem can_zero {s : Dk} {e : Int} (h : (can s e).2 = 0) : e = 0 := by
  unfold can at h
  split at h
  · simp at h
  · split at h
    · exact h
    · rename_i h2; simpa using h2
theorem wf_can {s : Dk} (h : s.Wf) (e : Int) : (can s e).1.Wf := by
  obtain ⟨h1, h2, h3⟩ := can_keep s e
  refine ⟨by rw [h2]; exact h.ne, by rw [h2]; exact h.rise, by rw [h1, h2]; exact h.idx, by rw [h2]; exact h.many, by rw [h2]; exact h.nm, by rw [h1]; exact h.sure, by rw [h1, h3]; exact h.small, by rw [h3]; exact h.room, ?_⟩
  have hb := h.burn
  unfold can
  split
  · exact hb
  · split
    · exact hb
    · split
      · exact hb
      · split
        · show -1 ≤ s.burn - 1 ∧ s.burn - 1 ≤ _; omega
        · exact hb
theorem can_now (s : Dk) (e : Int) : (can s e).1.now = s.now := by unfold Dk.now; rw [(can_keep s e).2.1]
theorem findD_withD {l : Dir} (hr : riseD l) {x : ByteArray × Nat} (hn : ∀ y ∈ l, y.1 ≠ x.1) (k : ByteArray) : findD (withD l x) k = if k = x.1 then some x.2 else findD l k := by
  have hr' := rise_withD hr hn
  by_cases hk : k = x.1
  · rw [if_pos hk, hk]
    exact findD_of_mem hr' (mem_withD.2 (.inl rfl))
  · rw [if_neg hk]
    cases hf : findD l k with
    | none =>
      rw [findD_none]
      intro y hy
      rcases mem_withD.1 hy with rfl | hy
      · exact fun e => hk e.symm
      · exact findD_none.1 hf y hy
    | some f => exact findD_of_mem hr' (mem_withD.2 (.inr (findD_mem hf)))
theorem findD_without {l : Dir} (hr : riseD l) (n k : ByteArray) : findD (without l n) k = if k = n then none else findD l k := by
  by_cases hk : k = n
  · rw [if_pos hk, findD_none]
    intro y hy e
    exact (mem_without.1 hy).2 (by rw [e, hk])
  · rw [if_neg hk]
    cases hf : findD l k with
    | none =>
      rw [findD_none]
      intro y hy
      exact findD_none.1 hf y (mem_without.1 hy).1
    | some f => exact findD_of_mem (rise_without hr n) (mem_without.2 ⟨findD_mem hf, hk⟩)
theorem without_id {l : Dir} {n : ByteArray} (h : findD l n = none) : without l n = l := by
  unfold without
  refine List.filter_eq_self.2 fun x hx => ?_
  have := findD_none.1 h x hx
  simp [this]
theorem keys_dir {fb : List Nat} {l : Dir} (hr : riseD l) : ((dirL fb l).map (·.1)).Nodup := by
  unfold dirL
  rw [List.map_map, List.nodup_iff_pairwise_ne]
  exact (rise_names hr).imp fun {a b} h e => by subst e; rw [bl_irr] at h; cases h
theorem lk_dirL {fb : List Nat} {l : Dir} (hr : riseD l) (k : ByteArray) : lk (dirL fb l) k = (findD l k).map fun f => ptrTo (fb.getD f 0) := lk_dir hr (.refl _) (keys_dir hr) k
theorem ins_dir {fb : List Nat} {l : Dir} {L : List (ByteArray × Value)} (hr : riseD l) (hp : L.Perm (dirL fb l)) (hL : (L.map (·.1)).Nodup) (n : ByteArray) (f : Nat) : (insL L n (ptrTo (fb.getD f 0))).Perm (dirL fb (withD (without l n) (n, f))) := by
  have hnn : ∀ y ∈ without l n, y.1 ≠ n := fun y hy => (mem_without.1 hy).2
  have hr2 : riseD (withD (without l n) (n, f)) := rise_withD (rise_without hr n) hnn
  refine ins_perm (once_ins hL n _) (keys_dir hr2) fun k => ?_
  rw [lk_ins, lk_dirL hr2, findD_withD (rise_without hr n) hnn, findD_without hr, lk_dir hr hp hL]
  by_cases hk : k = n
  · simp [hk]
  · simp [hk]
theorem del_dir {fb : List Nat} {l : Dir} {L : List (ByteArray × Value)} (hr : riseD l) (hp : L.Perm (dirL fb l)) (hL : (L.map (·.1)).Nodup) (n : ByteArray) : (delL L n).Perm (dirL fb (without l n)) := by
  refine ins_perm (once_del hL n) (keys_dir (rise_without hr n)) fun k => ?_
  rw [lk_del hL, lk_dirL (rise_without hr n), findD_without hr, lk_dir hr hp hL]
  by_cases hk : k = n
  · simp [hk]
  · simp [hk]
theorem set_snoc {α : Type} (l : List α) (a b : α) : (l ++ [a]).set l.length b = l ++ [b] := by
  induction l with
  | nil => rfl
  | cons x l ih => simp only [List.cons_append, List.length_cons, List.set_cons_succ, ih]
set_option linter.unusedSimpArgs false
set_option linter.unusedVariables false
set_option maxRecDepth 20000
set_option maxHeartbeats 4000000
attribute [local congr] BND_cg COND_cg GEF_cg
attribute [local irreducible] capl slicea load1 loadn iaddr iaddra faddr storev newslice binv lookv mupd mdel mlenv mentry mestore slicev slicev3 slices indexs indexav textv rangev nexts clearv shiftv eqaggv convi buildv pickv lens lenl unv nilchk extractv partn JOIN
section
variable {w0 w : World} {F0 : List Nat} {d : Nat} {s : Dk} {R : Value → World → Prop}
theorem dk_Create (h : At w0 F0 (diskHP d s) w) (hw : s.Wf) (hn : s.dirs.length < 1000000000) (n : ByteArray) (hR : ∀ w', At w0 F0 (diskHP d (create s n).1) w' → R (.int .i64 (create s n).2) w') :
    CALL PR F_disk_Disk_Create [ptrTo d, .string n] w R := by
  refine C_disk_Disk_Create ?_
  unfold M_disk_Disk_Create
  refine dk_now h hw.ne hn fun sv ms fb m es ck L hs hm hf hmm b1 b2 b3 => ?_
  have hr : riseD s.now := hw.rise _ (List.mem_of_getElem? (dk_now_get hw.ne))
  refine dk_named n fun w2 f2 => ?_
  have h2 := h.fr0 f2
  have c1 := f2.some (by simp) b1
  have lk1 := dk_lookup c1 b2 b3 hr n
  have ml := mlenv_L c1 b2.l
  have hLl : L.length = s.now.length := by rw [b3.length_eq]; simp [dirL]
  rw [hLl] at ml
  (repeat (first | refine stp ?_ | (apply BND_inc; omega) | (apply BND_dec; omega) | refine BND_step (rfl : some _ = some _) ?_ | (apply cyes; first | assumption | omega) | (apply cno; first | assumption | omega) | refine (COND_true _ _).2 ?_ | refine (COND_false _ _).2 ?_ | simp (disch := first | assumption | omega) only [gs1, gs2, decide_true, decide_false, eq_self, beq_self_eq_true, Bool.not_true, Bool.not_false]))
  refine join_v (fun e w' => e = .int .i64 (createE s n) ∧ w' = w2) (fun K hK => ?_) ?_
  · cases hnm : named n with
    | false =>
      have e : createE s n = 1 := by simp [createE, hnm]
      (repeat (first | refine stp ?_ | (apply BND_inc; omega) | (apply BND_dec; omega) | refine BND_step (rfl : some _ = some _) ?_ | (apply cyes; first | assumption | omega) | (apply cno; first | assumption | omega) | refine (COND_true _ _).2 ?_ | refine (COND_false _ _).2 ?_ | simp (disch := first | assumption | omega) only [gs1, gs2, decide_true, decide_false, eq_self, beq_self_eq_true, Bool.not_true, Bool.not_false]))
      exact hK _ _ ⟨by rw [e], rfl⟩
    | true =>
    cases hfd : findD s.now n with
    | some f =>
      rw [hfd] at lk1
      simp only [ptrTo] at lk1
      have e : createE s n = 6 := by simp [createE, hnm, Dk.find, hfd]
      (repeat (first | refine BND_step lk1 ?_ | refine stp ?_ | (apply BND_inc; omega) | (apply BND_dec; omega) | refine BND_step (rfl : some _ = some _) ?_ | (apply cyes; first | assumption | omega) | (apply cno; first | assumption | omega) | refine (COND_true _ _).2 ?_ | refine (COND_false _ _).2 ?_ | simp (disch := first | assumption | omega) only [gs1, gs2, decide_true, decide_false, eq_self, beq_self_eq_true, Bool.not_true, Bool.not_false]))
      refine join_v (fun e w' => e = .int .i64 (createE s n) ∧ w' = w2) (fun K2 hK2 => ?_) (fun e w' hq => hK e w' hq)
      (repeat (first | refine stp ?_ | (apply BND_inc; omega) | (apply BND_dec; omega) | refine BND_step (rfl : some _ = some _) ?_ | (apply cyes; first | assumption | omega) | (apply cno; first | assumption | omega) | refine (COND_true _ _).2 ?_ | refine (COND_false _ _).2 ?_ | simp (disch := first | assumption | omega) only [gs1, gs2, decide_true, decide_false, eq_self, beq_self_eq_true, Bool.not_true, Bool.not_false]))
      exact hK2 _ _ ⟨by rw [e], rfl⟩
    | none =>
      rw [hfd] at lk1
      simp only at lk1
      (repeat (first | refine BND_step lk1 ?_ | refine stp ?_ | (apply BND_inc; omega) | (apply BND_dec; omega) | refine BND_step (rfl : some _ = some _) ?_ | (apply cyes; first | assumption | omega) | (apply cno; first | assumption | omega) | refine (COND_true _ _).2 ?_ | refine (COND_false _ _).2 ?_ | simp (disch := first | assumption | omega) only [gs1, gs2, decide_true, decide_false, eq_self, beq_self_eq_true, Bool.not_true, Bool.not_false]))
      refine join_v (fun e w' => e = .int .i64 (createE s n) ∧ w' = w2) (fun K2 hK2 => ?_) (fun e w' hq => hK e w' hq)
      by_cases h60 : 60 ≤ s.now.length
      · have e : createE s n = 4 := by simp [createE, hnm, Dk.find, hfd, h60]
        (repeat (first | refine BND_step ml ?_ | refine stp ?_ | (apply BND_inc; omega) | (apply BND_dec; omega) | refine BND_step (rfl : some _ = some _) ?_ | (apply cyes; first | assumption | omega) | (apply cno; first | assumption | omega) | refine (COND_true _ _).2 ?_ | refine (COND_false _ _).2 ?_ | simp (disch := first | assumption | omega) only [gs1, gs2, decide_true, decide_false, eq_self, beq_self_eq_true, Bool.not_true, Bool.not_false]))
        refine join_v (fun e w' => e = .int .i64 (createE s n) ∧ w' = w2) (fun K3 hK3 => ?_) (fun e w' hq => hK2 e w' hq)
        (repeat (first | refine stp ?_ | (apply BND_inc; omega) | (apply BND_dec; omega) | refine BND_step (rfl : some _ = some _) ?_ | (apply cyes; first | assumption | omega) | (apply cno; first | assumption | omega) | refine (COND_true _ _).2 ?_ | refine (COND_false _ _).2 ?_ | simp (disch := first | assumption | omega) only [gs1, gs2, decide_true, decide_false, eq_self, beq_self_eq_true, Bool.not_true, Bool.not_false]))
        exact hK3 _ _ ⟨by rw [e], rfl⟩
      · have e : createE s n = 0 := by simp [createE, hnm, Dk.find, hfd, h60]
        (repeat (first | refine BND_step ml ?_ | refine stp ?_ | (apply BND_inc; omega) | (apply BND_dec; omega) | refine BND_step (rfl : some _ = some _) ?_ | (apply cyes; first | assumption | omega) | (apply cno; first | assumption | omega) | refine (COND_true _ _).2 ?_ | refine (COND_false _ _).2 ?_ | simp (disch := first | assumption | omega) only [gs1, gs2, decide_true, decide_false, eq_self, beq_self_eq_true, Bool.not_true, Bool.not_false]))
        refine join_v (fun e w' => e = .int .i64 (createE s n) ∧ w' = w2) (fun K3 hK3 => ?_) (fun e w' hq => hK2 e w' hq)
        (repeat (first | refine stp ?_ | (apply BND_inc; omega) | (apply BND_dec; omega) | refine BND_step (rfl : some _ = some _) ?_ | (apply cyes; first | assumption | omega) | (apply cno; first | assumption | omega) | refine (COND_true _ _).2 ?_ | refine (COND_false _ _).2 ?_ | simp (disch := first | assumption | omega) only [gs1, gs2, decide_true, decide_false, eq_self, beq_self_eq_true, Bool.not_true, Bool.not_false]))
        exact hK3 _ _ ⟨by rw [e], rfl⟩
  · rintro _ _ ⟨rfl, rfl⟩
    refine dk_can h2 _ hw.burn fun w4 h4 => ?_
    unfold create at hR
    by_cases hc : (can s (createE s n)).2 = 0
    · simp only [hc, if_true] at hR
      rw [hc]
      (repeat (first | refine stp ?_ | (apply BND_inc; omega) | (apply BND_dec; omega) | refine BND_step (rfl : some _ = some _) ?_ | (apply cyes; first | assumption | omega) | (apply cno; first | assumption | omega) | refine (COND_true _ _).2 ?_ | refine (COND_false _ _).2 ?_ | simp (disch := first | assumption | omega) only [gs1, gs2, decide_true, decide_false, eq_self, beq_self_eq_true, Bool.not_true, Bool.not_false]))
      refine join_w (fun w' => At w0 F0 (diskHP d { (can s (createE s n)).1 with files := s.files ++ [⟨[], 0⟩], dirs := s.dirs ++ [withD s.now (n, s.files.length)] }) w') (fun K hK => ?_) (fun w' hw' => hR w' hw')
      obtain ⟨k1, k2, k3⟩ := can_keep s (createE s n)
      have hcz := can_zero hc
      have hfd : findD s.now n = none := by
        cases hq : findD s.now n with
        | none => rfl
        | some f =>
          exfalso
          unfold createE Dk.find at hcz
          rw [hq] at hcz
          split at hcz <;> simp at hcz
      (repeat (first | refine stp ?_ | (apply BND_inc; omega) | (apply BND_dec; omega) | refine BND_step (rfl : some _ = some _) ?_ | (apply cyes; first | assumption | omega) | (apply cno; first | assumption | omega) | refine (COND_true _ _).2 ?_ | refine (COND_false _ _).2 ?_ | simp (disch := first | assumption | omega) only [gs1, gs2, decide_true, decide_false, eq_self, beq_self_eq_true, Bool.not_true, Bool.not_false]))
      refine dk_change h4 (wf_can hw _) (by rw [k2]; exact hn) fun w6 sv6 ms6 fb6 m6 hs6 hm6 na6 _ => ?_
      rw [can_now, k2] at hs6
      rw [k2] at hm6
      rw [can_now] at na6
      have g6 := hs6.get 0 rfl
      obtain ⟨_, ⟨hlen6, _⟩, _⟩ := g6
      have hfb : fb6.length = s.files.length := by rw [← k1]; exact hlen6.2
      (repeat (first | (apply BND_build ([.slice none 0 0, .int .i64 0]); exact rfl) | refine stp ?_ | (apply BND_inc; omega) | (apply BND_dec; omega) | refine BND_step (rfl : some _ = some _) ?_ | (apply cyes; first | assumption | omega) | (apply cno; first | assumption | omega) | refine (COND_true _ _).2 ?_ | refine (COND_false _ _).2 ?_ | simp (disch := first | assumption | omega) only [gs1, gs2, decide_true, decide_false, eq_self, beq_self_eq_true, Bool.not_true, Bool.not_false]))
      refine NEW_intro fun w7 b7 f7 z7 => ?_
      have hidx : ∀ l ∈ s.dirs ++ [s.now], ∀ x ∈ l, x.2 < s.files.length := fun l hl x hx => by
        rcases List.mem_append.1 hl with hl | hl
        · exact hw.idx l hl x hx
        · simp at hl; subst hl; exact hw.idx _ (List.mem_of_getElem? (dk_now_get hw.ne)) x hx
      have h7 := dk_newfile hs6 f7 (Nat.le_refl _) b7 (by rw [k1]; exact hidx)
      rw [k1] at h7
      obtain ⟨es6, ck6, L6, q1, q2, q3⟩ := na6.h
      have q1' := f7.some (by simp) q1
      obtain ⟨es8, ck8, e8, m8⟩ := mupd_B keyStr q1' q2 n (ptrTo (hsz w6))
      refine BND_step e8 <| hK _ ?_
      have hget : (fb6 ++ [hsz w6]).getD s.files.length 0 = hsz w6 := by
        rw [List.getD_eq_getElem?_getD, ← hfb, List.getElem?_append_right (Nat.le_refl _)]; simp
      have q3' : L6.Perm (dirL (fb6 ++ [hsz w6]) s.now) := by
        rw [dirL_more _ (fun x hx => by rw [hfb]; exact hw.idx _ (List.mem_of_getElem? (dk_now_get hw.ne)) x hx)]; exact q3
      have hperm := ins_dir (fb := fb6 ++ [hsz w6]) hr q3' q2.l.once n s.files.length
      rw [hget, without_id hfd] at hperm
      have h9 := dk_setdir h7 (i := s.dirs.length) (l := s.now) (l' := withD s.now (n, s.files.length)) hm6 (by simp) (Fr.setB (F := [m6]) (.inl (by simp)) _) (blk_setB_same q1') m8 hperm
      simp only [set_snoc] at h9
      exact dk_shut h9
    · simp only [hc, if_false] at hR
      (repeat (first | refine stp ?_ | (apply BND_inc; omega) | (apply BND_dec; omega) | refine BND_step (rfl : some _ = some _) ?_ | (apply cyes; first | assumption | omega) | (apply cno; first | assumption | omega) | refine (COND_true _ _).2 ?_ | refine (COND_false _ _).2 ?_ | simp (disch := first | assumption | omega) only [gs1, gs2, decide_true, decide_false, eq_self, beq_self_eq_true, Bool.not_true, Bool.not_false]))
      refine join_w (fun w' => At w0 F0 (diskHP d (can s (createE s n)).1) w') (fun K hK => ?_) (fun w' hw' => hR w' hw')
      (repeat (first | refine stp ?_ | (apply BND_inc; omega) | (apply BND_dec; omega) | refine BND_step (rfl : some _ = some _) ?_ | (apply cyes; first | assumption | omega) | (apply cno; first | assumption | omega) | refine (COND_true _ _).2 ?_ | refine (COND_false _ _).2 ?_ | simp (disch := first | assumption | omega) only [gs1, gs2, decide_true, decide_false, eq_self, beq_self_eq_true, Bool.not_true, Bool.not_false]))
      exact hK w4 h4
end
end Go.Proofs.YtmefbneoljpbgaaGreatDoor
