
/- A disk, in plain words: each act keeps what always holds; what is held behind a crash. No condition. -/
import Derived.Test.YtmefbneoljpbgaaGreatDoorDiskInv
set_option linter.unusedSimpArgs false
set_option linter.unusedVariables false
namespace Go.Proofs.YtmefbneoljpbgaaGreatDoor
open Go.Den Go.Disk
section
variable {s : Dk}
theorem inv_create (h : Inv s) (n : ByteArray) : Inv (create s n).1 := by
  have hwf := wf_create h.wf n
  unfold create at *
  obtain ⟨k1, k2, k3⟩ := can_keep s (createE s n)
  have hc := inv_can h (createE s n)
  by_cases hz : (can s (createE s n)).2 = 0
  · simp only [hz, if_true] at hwf ⊢
    have hm := now_mem h.wf
    generalize hs1 : (can s (createE s n)).1 = s1 at *
    have hi1 : Inv { s1 with files := s1.files ++ [⟨[], 0⟩] } := by
      refine ⟨wf_files hc.wf, Int.le_trans (Int.ofNat_le.2 ?_) hc.roomy, hc.one⟩
      rw [held_sum, held_sum]
      have e : ({ s1 with files := s1.files ++ [⟨[], 0⟩] } : Dk).files.length = s1.files.length + 1 := by simp
      rw [e, sumTo_succ]
      have e1 : heldG { s1 with files := s1.files ++ [⟨[], 0⟩] } s1.files.length = 0 := by
        unfold heldG fileAt
        simp
      rw [e1, Nat.add_zero]
      refine sumTo_le fun f hf => ?_
      unfold heldG fileAt
      have e2 : isHeld { s1 with files := s1.files ++ [⟨[], 0⟩] } f = isHeld s1 f := rfl
      rw [e2]
      simp only [List.getD_eq_getElem?_getD, List.getElem?_append_left hf]
      exact Nat.le_refl _
    have hw2 : ({ ({ s1 with files := s1.files ++ [⟨[], 0⟩] } : Dk) with dirs := ({ s1 with files := s1.files ++ [⟨[], 0⟩] } : Dk).dirs ++ [withD s.now (n, s.files.length)] } : Dk).Wf := by
      have := hwf
      rw [← k1, ← k2] at this
      rw [← k1]
      exact this
    have := inv_dirs hi1 hw2 (by
      refine (map2_withD _ _).nodup_iff.2 (List.nodup_cons.2 ⟨fun hx => ?_, h.one _ hm⟩)
      obtain ⟨x, hx, e⟩ := List.mem_map.1 hx
      have := h.wf.idx _ hm x hx
      simp only at e
      omega) (fun x hx => by
      rcases mem_withD.1 hx with rfl | hx
      · right
        show (List.getD (s1.files ++ [Fl.mk [] 0]) s.files.length (Fl.mk [] 0)).b = []
        rw [← k1, List.getD_eq_getElem?_getD, List.getElem?_append_right (Nat.le_refl _)]; simp
      · exact .inl ⟨s.now, by show s.now ∈ s1.dirs; rw [k2]; exact hm, x, hx, rfl⟩)
    show Inv (Dk.mk s1.room (s.files ++ [Fl.mk [] 0]) (s.dirs ++ [withD s.now (n, s.files.length)]) s1.burn s1.gone)
    rw [← k1, ← k2]
    rw [← k1] at this
    exact this
  · simp only [hz, if_false] at hwf ⊢
    exact hc
theorem fileAt_can (s : Dk) (e : Int) (f : Nat) : fileAt (can s e).1 f = fileAt s f := by unfold fileAt; rw [(can_keep s e).1]
theorem pick_lt (h : s.Wf) {n : ByteArray} {f : Nat} (hf : findD s.now n = some f) : f < s.files.length := (List.getElem?_eq_some_iff.1 (wf_pick h hf)).1
theorem inv_append (h : Inv s) (n : ByteArray) (bs : List UInt8) : Inv (append s n bs).1 := by
  have hwf := wf_append h.wf n bs
  unfold append at *
  obtain ⟨k1, k2, k3⟩ := can_keep s (appendE s n bs.length)
  have hc := inv_can h (appendE s n bs.length)
  by_cases hz : (can s (appendE s n bs.length)).2 = 0
  · simp only [hz, if_true] at hwf ⊢
    have he := can_zero hz
    obtain ⟨f, hfd⟩ : ∃ f, findD s.now n = some f := by
      unfold appendE Dk.find at he
      cases hq : findD s.now n with
      | some f => exact ⟨f, rfl⟩
      | none => rw [hq] at he; simp at he
    rw [(isSome_find hfd).2] at hwf ⊢
    have hr : ((held s + bs.length : Nat) : Int) ≤ s.room := by
      unfold appendE Dk.find at he
      rw [hfd] at he
      simp only [Option.isSome_some, if_true] at he
      split at he
      · simp at he
      · omega
    exact inv_setF hc hwf (by rw [k1]; exact pick_lt h.wf hfd) (k := bs.length) (by rw [fileAt_can]; simp) (by rw [can_held, k3]; exact hr)
  · simp only [hz, if_false] at hwf ⊢
    exact hc
theorem inv_sync (h : Inv s) (n : ByteArray) : Inv (sync s n).1 := by
  have hwf := wf_sync h.wf n
  unfold sync at *
  obtain ⟨k1, k2, k3⟩ := can_keep s (there s n)
  have hc := inv_can h (there s n)
  by_cases hz : (can s (there s n)).2 = 0
  · simp only [hz, if_true] at hwf ⊢
    obtain ⟨f, hfd⟩ := there_zero (can_zero hz)
    rw [(isSome_find hfd).2] at hwf ⊢
    exact inv_setF hc hwf (by rw [k1]; exact pick_lt h.wf hfd) (k := 0) (by rw [fileAt_can]; simp) (by rw [Nat.add_zero]; exact hc.roomy)
  · simp only [hz, if_false] at hwf ⊢
    exact hc
theorem inv_cut (h : Inv s) (n : ByteArray) (k : Int) : Inv (cut s n k).1 := by
  have hwf := wf_cut h.wf n k
  unfold cut at *
  obtain ⟨k1, k2, k3⟩ := can_keep s (cutE s n k)
  have hc := inv_can h (cutE s n k)
  by_cases hz : (can s (cutE s n k)).2 = 0
  · simp only [hz, if_true] at hwf ⊢
    have he := can_zero hz
    obtain ⟨f, hfd⟩ : ∃ f, findD s.now n = some f := by
      unfold cutE Dk.find at he
      cases hq : findD s.now n with
      | some f => exact ⟨f, rfl⟩
      | none => rw [hq] at he; simp at he
    rw [(isSome_find hfd).2] at hwf ⊢
    exact inv_setF hc hwf (by rw [k1]; exact pick_lt h.wf hfd) (k := 0) (by rw [fileAt_can]; simp only [List.length_take]; omega) (by rw [Nat.add_zero]; exact hc.roomy)
  · simp only [hz, if_false] at hwf ⊢
    exact hc
theorem inv_rename (h : Inv s) (a b : ByteArray) : Inv (rename s a b).1 := by
  have hwf := wf_rename h.wf a b
  unfold rename at *
  obtain ⟨k1, k2, k3⟩ := can_keep s (renameE s a b)
  have hc := inv_can h (renameE s a b)
  by_cases hz : (can s (renameE s a b)).2 = 0
  · simp only [hz, if_true] at hwf ⊢
    have he := can_zero hz
    obtain ⟨f, hfd⟩ : ∃ f, findD s.now a = some f := by
      unfold renameE Dk.find at he
      cases hq : findD s.now a with
      | some f => exact ⟨f, rfl⟩
      | none => rw [hq] at he; simp at he
    rw [(isSome_find hfd).2] at hwf ⊢
    have hm := now_mem h.wf
    rw [← k2] at hwf ⊢
    refine inv_dirs hc hwf ?_ fun x hx => .inl ⟨s.now, by rw [k2]; exact hm, ?_⟩
    · refine (map2_withD _ _).nodup_iff.2 (List.nodup_cons.2 ⟨fun hx => ?_, one_without (one_without (h.one _ hm) a) b⟩)
      obtain ⟨x, hx, e⟩ := List.mem_map.1 hx
      exact one_gone (h.one _ hm) (findD_mem hfd) x (mem_without.1 hx).1 e
    · rcases mem_withD.1 hx with rfl | hx
      · exact ⟨_, findD_mem hfd, rfl⟩
      · exact ⟨x, (mem_without.1 (mem_without.1 hx).1).1, rfl⟩
  · simp only [hz, if_false] at hwf ⊢
    exact hc
theorem inv_delete (h : Inv s) (n : ByteArray) : Inv (delete s n).1 := by
  have hwf := wf_delete h.wf n
  unfold delete at *
  obtain ⟨k1, k2, k3⟩ := can_keep s (there s n)
  have hc := inv_can h (there s n)
  by_cases hz : (can s (there s n)).2 = 0
  · simp only [hz, if_true] at hwf ⊢
    have hm := now_mem h.wf
    rw [← k2] at hwf ⊢
    exact inv_dirs hc hwf (one_without (h.one _ hm) n) fun x hx => .inl ⟨s.now, by rw [k2]; exact hm, x, (mem_without.1 hx).1, rfl⟩
  · simp only [hz, if_false] at hwf ⊢
    exact hc
theorem inv_dir1 (h : Inv s) {l : Dir} (hl : l ∈ s.dirs) : Inv { s with dirs := [l] } := by
  refine ⟨wf_dir1 h.wf hl, Int.le_trans (Int.ofNat_le.2 (held_mono (s := s) (s' := { s with dirs := [l] }) rfl (isHeld_dirs (s := s) (s' := { s with dirs := [l] }) fun k hk x hx => ⟨l, hl, x, ?_, rfl⟩) fun f _ => Nat.le_refl _)) h.roomy, fun k hk => ?_⟩
  · have : k = l := by simpa using hk
    subst this; exact hx
  · have : k = l := by simpa using hk
    subst this; exact h.one k hl
theorem inv_dirsync (h : Inv s) : Inv (dirsync s).1 := by
  unfold dirsync
  obtain ⟨k1, k2, k3⟩ := can_keep s 0
  have hc := inv_can h 0
  by_cases hz : (can s 0).2 = 0
  · simp only [hz, if_true]
    exact inv_dir1 hc (by rw [k2]; exact now_mem h.wf)
  · simp only [hz, if_false]
    exact hc
theorem inv_fuse (h : Inv s) {n : Int} (hn : n ≤ 9223372036854775807) : Inv (fuse s n) := ⟨wf_fuse h.wf hn, h.roomy, h.one⟩
theorem crashF_less {tails : List Int} : ∀ (l : Dir) (i : Nat) (fs : List Fl) (f : Nat), ((crashF tails l i fs).getD f ⟨[], 0⟩).b.length ≤ (fs.getD f ⟨[], 0⟩).b.length
  | [], _, _, _ => Nat.le_refl _
  | (k, g) :: r, i, fs, f => by
    refine Nat.le_trans (crashF_less (tails := tails) r (i + 1) (crash1 tails g i fs) f) ?_
    unfold crash1
    simp only [List.getD_eq_getElem?_getD, List.getElem?_set]
    split
    · rename_i h
      subst h
      split
      · simp only [Option.getD_some, List.length_take]; omega
      · rename_i h2
        rw [List.getElem?_eq_none (by omega)]; simp
    · exact Nat.le_refl _
theorem inv_crash (h : Inv s) (op : Int) (tails : List Int) : Inv (crash s op tails) := by
  have hwf := wf_crash h.wf op tails
  have hpos : 0 < s.dirs.length := List.length_pos_iff.2 h.wf.ne
  have hl : s.dirs.getD (min op.toNat (s.dirs.length - 1)) [] ∈ s.dirs := by
    rw [List.getD_eq_getElem?_getD, List.getElem?_eq_getElem (by omega)]; exact List.getElem_mem _
  unfold crash at *
  generalize s.dirs.getD (min op.toNat (s.dirs.length - 1)) [] = l at hl hwf ⊢
  refine ⟨hwf, Int.le_trans (Int.ofNat_le.2 (held_mono (crashF_len tails l 0 s.files) (isHeld_dirs (s := s) fun k hk x hx => ⟨l, hl, x, ?_, rfl⟩) fun f _ => crashF_less l 0 s.files f)) h.roomy, fun k hk => ?_⟩
  · have : k = l := by simpa using hk
    subst this; exact hx
  · have : k = l := by simpa using hk
    subst this; exact h.one k hl
theorem inv_act (h : Inv s) (a : Act) (b : List UInt8) (tails : List Int) (hn : a.n ≤ 9223372036854775807) : Inv (act s a b tails).1 := by
  unfold act
  split; exact inv_create h _
  split; exact inv_append h _ _
  split; exact inv_sync h _
  split; exact inv_cut h _ _
  split; exact inv_rename h _ _
  split; exact inv_delete h _
  split; exact inv_dirsync h
  split; exact inv_fuse h hn
  split; exact inv_crash h _ _
  exact h
/-- of one directory alone, what is held is what its names' files have. -/
theorem held_one (h : Inv s) {l : Dir} (hd : s.dirs = [l]) : held s = (l.map fun x => (fileAt s x.2).b.length).sum := by
  have hl : l ∈ s.dirs := by rw [hd]; simp
  have := sum_held (s := s) (fs := l.map (·.2)) (h.one l hl) (fun f => by
    rw [isHeld_iff, hd]
    simp [List.mem_map]) (fun f hf => by
    obtain ⟨x, hx, rfl⟩ := List.mem_map.1 hf
    exact h.wf.idx l hl x hx)
  rw [← this, List.map_map]; rfl
/-- without power nothing changes. -/
theorem can_gone (hg : s.gone = true) (e : Int) : can s e = (s, 7) := by unfold can; rw [if_pos hg]
theorem act_gone (hg : s.gone = true) (a : Act) (b : List UInt8) (tails : List Int) (h7 : a.dn ≠ 7) (h8 : a.dn ≠ 8) : act s a b tails = (s, [], 7) := by
  unfold act
  split; simp [create, can_gone hg]
  split; simp [append, can_gone hg]
  split; simp [sync, can_gone hg]
  split; simp [cut, can_gone hg]
  split; simp [rename, can_gone hg]
  split; simp [delete, can_gone hg]
  split; simp [dirsync, can_gone hg]
  simp [h7, h8, Disk.read, hg]
end
end Go.Proofs.YtmefbneoljpbgaaGreatDoor
