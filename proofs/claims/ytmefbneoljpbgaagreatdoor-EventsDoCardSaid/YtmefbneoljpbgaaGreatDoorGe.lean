/- A disk, in plain words: never more held than there is room; a file has one name at a time. No condition. A disk, in plain words: each act keeps what always holds; what is held behind a crash. No condition. Helps for walks upon disks. No condition. A disk: a fuse. No condition. A disk: is the power gone? No condition. Bytes compared. No condition but sizes. Names compared. No condition but sizes. -/
import Derived.Test.YtmefbneoljpbgaaGreatDoorGd
import Derived.Test.YtmefbneoljpbgaaGreatDoorGb
import Derived.Test.YtmefbneoljpbgaaGreatDoorMb
section
set_option linter.unusedSimpArgs false
set_option linter.unusedVariables false
namespace Go.Proofs.YtmefbneoljpbgaaGreatDoor
open Go.Den Go.Disk
def sumTo (n : Nat) (g : Nat → Nat) : Nat := ((List.range n).map g).sum
theorem sumTo_succ (n : Nat) (g : Nat → Nat) : sumTo (n + 1) g = sumTo n g + g n := by unfold sumTo; rw [List.range_succ]; simp
theorem sumTo_le {n : Nat} {g g' : Nat → Nat} (h : ∀ i, i < n → g i ≤ g' i) : sumTo n g ≤ sumTo n g' := by
  induction n with
  | zero => simp [sumTo]
  | succ n ih =>
    rw [sumTo_succ, sumTo_succ]
    have := ih fun i hi => h i (by omega)
    have := h n (by omega)
    omega
theorem sumTo_one {n f k : Nat} {g g' : Nat → Nat} (hf : f < n) (h : ∀ i, i < n → i ≠ f → g' i ≤ g i) (h1 : g' f ≤ g f + k) : sumTo n g' ≤ sumTo n g + k := by
  induction n with
  | zero => omega
  | succ n ih =>
    rw [sumTo_succ, sumTo_succ]
    by_cases hfn : f = n
    · subst hfn
      have := sumTo_le (n := f) (g := g') (g' := g) fun i hi => h i (by omega) (by omega)
      omega
    · have := ih (by omega) fun i hi hne => h i (by omega) hne
      have := h n (by omega) (fun e => hfn e.symm)
      omega
def heldG (s : Dk) (f : Nat) : Nat := if isHeld s f = true then (fileAt s f).b.length else 0
theorem held_sum (s : Dk) : held s = sumTo s.files.length (heldG s) := rfl
/-- less held. -/
theorem held_mono {s s' : Dk} (hl : s'.files.length = s.files.length) (h1 : ∀ f, isHeld s' f = true → isHeld s f = true) (h2 : ∀ f, f < s.files.length → (fileAt s' f).b.length ≤ (fileAt s f).b.length) : held s' ≤ held s := by
  rw [held_sum, held_sum, hl]
  refine sumTo_le fun f hf => ?_
  unfold heldG
  by_cases q : isHeld s' f = true
  · rw [if_pos q, if_pos (h1 f q)]; exact h2 f hf
  · rw [if_neg q]; omega
theorem fileAt_set {s : Dk} {f : Nat} (hf : f < s.files.length) (x : Fl) (g : Nat) : fileAt (setF s f x) g = if g = f then x else fileAt s g := by
  unfold fileAt setF
  simp only [List.getD_eq_getElem?_getD, List.getElem?_set]
  by_cases h : f = g
  · subst h; simp [hf]
  · rw [if_neg h, if_neg (fun e => h e.symm)]
structure Inv (s : Dk) : Prop where
  wf : s.Wf
  roomy : (held s : Int) ≤ s.room
  one : ∀ l ∈ s.dirs, (l.map (·.2)).Nodup
theorem isHeld_dirs {s s' : Dk} (h : ∀ l' ∈ s'.dirs, ∀ x ∈ l', ∃ l ∈ s.dirs, ∃ y ∈ l, y.2 = x.2) (f : Nat) (hf : isHeld s' f = true) : isHeld s f = true := by
  rw [isHeld_iff] at *
  obtain ⟨l', hl', x, hx, rfl⟩ := hf
  exact h l' hl' x hx
theorem map2_withD (l : Dir) (x : ByteArray × Nat) : ((withD l x).map (·.2)).Perm (x.2 :: l.map (·.2)) := by
  induction l with
  | nil => simp [withD]
  | cons y l ih =>
    simp only [withD]
    split
    · simp only [List.map_cons]
      exact (ih.cons _).trans (List.Perm.swap _ _ _)
    · simp
theorem one_without {l : Dir} (h : (l.map (·.2)).Nodup) (n : ByteArray) : ((without l n).map (·.2)).Nodup := h.sublist ((List.filter_sublist).map _)
theorem one_gone {l : Dir} (h : (l.map (·.2)).Nodup) {n : ByteArray} {f : Nat} (hm : (n, f) ∈ l) : ∀ x ∈ without l n, x.2 ≠ f := by
  intro x hx e
  obtain ⟨h1, h2⟩ := mem_without.1 hx
  have := (List.nodup_iff_pairwise_ne.1 h)
  clear hx
  induction l with
  | nil => simp at hm
  | cons y l ih =>
    simp only [List.map_cons, List.nodup_cons] at h
    rcases List.mem_cons.1 hm with hm | hm
    · rcases List.mem_cons.1 h1 with h1 | h1
      · exact h2 (by rw [h1, ← hm])
      · exact h.1 (by rw [← hm]; exact List.mem_map.2 ⟨x, h1, e⟩)
    · rcases List.mem_cons.1 h1 with h1 | h1
      · exact h.1 (List.mem_map.2 ⟨_, hm, by rw [← h1, e]⟩)
      · exact ih h.2 hm h1 (List.nodup_iff_pairwise_ne.1 h.2)
section
variable {s : Dk}
theorem can_held (s : Dk) (e : Int) : held (can s e).1 = held s := by
  obtain ⟨k1, k2, k3⟩ := can_keep s e
  unfold held isHeld fileAt
  rw [k1, k2]
theorem inv_can (h : Inv s) (e : Int) : Inv (can s e).1 := by
  obtain ⟨k1, k2, k3⟩ := can_keep s e
  exact ⟨wf_can h.wf e, by rw [can_held, k3]; exact h.roomy, by rw [k2]; exact h.one⟩
theorem inv_empty {room : Int} (h : 16 ≤ room ∧ room ≤ 1048576) : Inv (empty room) := by
  refine ⟨wf_empty h, ?_, by simp [empty]⟩
  show ((0 : Nat) : Int) ≤ room
  omega
/-- a directory put behind, of files that are there, or of no bytes. -/
theorem inv_dirs (h : Inv s) {l : Dir} (hw : ({ s with dirs := s.dirs ++ [l] } : Dk).Wf) (ho : (l.map (·.2)).Nodup) (hl : ∀ x ∈ l, (∃ k ∈ s.dirs, ∃ y ∈ k, y.2 = x.2) ∨ (fileAt s x.2).b = []) : Inv { s with dirs := s.dirs ++ [l] } := by
  refine ⟨hw, Int.le_trans ?_ h.roomy, fun k hk => ?_⟩
  · rw [held_sum, held_sum]
    refine Int.ofNat_le.2 (sumTo_le fun f hf => ?_)
    unfold heldG
    by_cases q : isHeld s f = true
    · rw [if_pos q]
      split
      · exact Nat.le_refl _
      · omega
    · split
      · rename_i q2
        rw [isHeld_iff] at q2
        obtain ⟨k, hk, x, hx, rfl⟩ := q2
        rcases List.mem_append.1 (show k ∈ s.dirs ++ [l] from hk) with hk | hk
        · exact absurd ((isHeld_iff s x.2).2 ⟨k, hk, x, hx, rfl⟩) q
        · simp at hk; subst hk
          rcases hl x hx with h1 | h1
          · exact absurd ((isHeld_iff s x.2).2 h1) q
          · show (fileAt s x.2).b.length ≤ _
            rw [h1]; simp
      · omega
  · rcases List.mem_append.1 (show k ∈ s.dirs ++ [l] from hk) with hk | hk
    · exact h.one k hk
    · simp at hk; subst hk; exact ho
theorem inv_setF (h : Inv s) {f : Nat} {x : Fl} (hw : (setF s f x).Wf) (hf : f < s.files.length) {k : Nat} (hx : x.b.length ≤ (fileAt s f).b.length + k) (hk : ((held s + k : Nat) : Int) ≤ s.room) : Inv (setF s f x) := by
  refine ⟨hw, Int.le_trans (Int.ofNat_le.2 ?_) hk, h.one⟩
  rw [held_sum, held_sum]
  have e : (setF s f x).files.length = s.files.length := by unfold setF; simp
  have e2 : ∀ g, isHeld (setF s f x) g = isHeld s g := fun g => rfl
  rw [e]
  refine sumTo_one hf (fun i hi hne => ?_) ?_
  · unfold heldG; rw [e2, fileAt_set hf, if_neg hne]; exact Nat.le_refl _
  · unfold heldG; rw [e2, fileAt_set hf, if_pos rfl]
    split <;> omega
end
end Go.Proofs.YtmefbneoljpbgaaGreatDoor
end

section
set_option linter.unusedSimpArgs false
set_option linter.unusedVariables false
namespace Go.Proofs.YtmefbneoljpbgaaGreatDoor
open Go.Den Go.Disk
section
variable {s : Dk}
theorem inv_create (h : Inv s) (n : ByteArray) : Inv (create s n).1 := by
  have hwf := wf_create h.wf n
  unfold create at *
  obtain ⟨k1, k2, k3⟩ := can_keep s (createE s n)
  have hc := inv_can h (createE s n)
  by_cases hz : (can s (createE s n)).2 = 0
  · simp only [hz, if_true] at hwf ⊢
    have hm := now_mem h.wf
    generalize hs1 : (can s (createE s n)).1 = s1 at *
    have hi1 : Inv { s1 with files := s1.files ++ [⟨[], 0⟩] } := by
      refine ⟨wf_files hc.wf, Int.le_trans (Int.ofNat_le.2 ?_) hc.roomy, hc.one⟩
      rw [held_sum, held_sum]
      have e : ({ s1 with files := s1.files ++ [⟨[], 0⟩] } : Dk).files.length = s1.files.length + 1 := by simp
      rw [e, sumTo_succ]
      have e1 : heldG { s1 with files := s1.files ++ [⟨[], 0⟩] } s1.files.length = 0 := by
        unfold heldG fileAt
        simp
      rw [e1, Nat.add_zero]
      refine sumTo_le fun f hf => ?_
      unfold heldG fileAt
      have e2 : isHeld { s1 with files := s1.files ++ [⟨[], 0⟩] } f = isHeld s1 f := rfl
      rw [e2]
      simp only [List.getD_eq_getElem?_getD, List.getElem?_append_left hf]
      exact Nat.le_refl _
    have hw2 : ({ ({ s1 with files := s1.files ++ [⟨[], 0⟩] } : Dk) with dirs := ({ s1 with files := s1.files ++ [⟨[], 0⟩] } : Dk).dirs ++ [withD s.now (n, s.files.length)] } : Dk).Wf := by
      have := hwf
      rw [← k1, ← k2] at this
      rw [← k1]
      exact this
    have := inv_dirs hi1 hw2 (by
      refine (map2_withD _ _).nodup_iff.2 (List.nodup_cons.2 ⟨fun hx => ?_, h.one _ hm⟩)
      obtain ⟨x, hx, e⟩ := List.mem_map.1 hx
      have := h.wf.idx _ hm x hx
      simp only at e
      omega) (fun x hx => by
      rcases mem_withD.1 hx with rfl | hx
      · right
        show (List.getD (s1.files ++ [Fl.mk [] 0]) s.files.length (Fl.mk [] 0)).b = []
        rw [← k1, List.getD_eq_getElem?_getD, List.getElem?_append_right (Nat.le_refl _)]; simp
      · exact .inl ⟨s.now, by show s.now ∈ s1.dirs; rw [k2]; exact hm, x, hx, rfl⟩)
    show Inv (Dk.mk s1.room (s.files ++ [Fl.mk [] 0]) (s.dirs ++ [withD s.now (n, s.files.length)]) s1.burn s1.gone)
    rw [← k1, ← k2]
    rw [← k1] at this
    exact this
  · simp only [hz, if_false] at hwf ⊢
    exact hc
theorem fileAt_can (s : Dk) (e : Int) (f : Nat) : fileAt (can s e).1 f = fileAt s f := by unfold fileAt; rw [(can_keep s e).1]
theorem pick_lt (h : s.Wf) {n : ByteArray} {f : Nat} (hf : findD s.now n = some f) : f < s.files.length := (List.getElem?_eq_some_iff.1 (wf_pick h hf)).1
theorem inv_append (h : Inv s) (n : ByteArray) (bs : List UInt8) : Inv (append s n bs).1 := by
  have hwf := wf_append h.wf n bs
  unfold append at *
  obtain ⟨k1, k2, k3⟩ := can_keep s (appendE s n bs.length)
  have hc := inv_can h (appendE s n bs.length)
  by_cases hz : (can s (appendE s n bs.length)).2 = 0
  · simp only [hz, if_true] at hwf ⊢
    have he := can_zero hz
    obtain ⟨f, hfd⟩ : ∃ f, findD s.now n = some f := by
      unfold appendE Dk.find at he
      cases hq : findD s.now n with
      | some f => exact ⟨f, rfl⟩
      | none => rw [hq] at he; simp at he
    rw [(isSome_find hfd).2] at hwf ⊢
    have hr : ((held s + bs.length : Nat) : Int) ≤ s.room := by
      unfold appendE Dk.find at he
      rw [hfd] at he
      simp only [Option.isSome_some, if_true] at he
      split at he
      · simp at he
      · omega
    exact inv_setF hc hwf (by rw [k1]; exact pick_lt h.wf hfd) (k := bs.length) (by rw [fileAt_can]; simp) (by rw [can_held, k3]; exact hr)
  · simp only [hz, if_false] at hwf ⊢
    exact hc
theorem inv_sync (h : Inv s) (n : ByteArray) : Inv (sync s n).1 := by
  have hwf := wf_sync h.wf n
  unfold sync at *
  obtain ⟨k1, k2, k3⟩ := can_keep s (there s n)
  have hc := inv_can h (there s n)
  by_cases hz : (can s (there s n)).2 = 0
  · simp only [hz, if_true] at hwf ⊢
    obtain ⟨f, hfd⟩ := there_zero (can_zero hz)
    rw [(isSome_find hfd).2] at hwf ⊢
    exact inv_setF hc hwf (by rw [k1]; exact pick_lt h.wf hfd) (k := 0) (by rw [fileAt_can]; simp) (by rw [Nat.add_zero]; exact hc.roomy)
  · simp only [hz, if_false] at hwf ⊢
    exact hc
theorem inv_cut (h : Inv s) (n : ByteArray) (k : Int) : Inv (cut s n k).1 := by
  have hwf := wf_cut h.wf n k
  unfold cut at *
  obtain ⟨k1, k2, k3⟩ := can_keep s (cutE s n k)
  have hc := inv_can h (cutE s n k)
  by_cases hz : (can s (cutE s n k)).2 = 0
  · simp only [hz, if_true] at hwf ⊢
    have he := can_zero hz
    obtain ⟨f, hfd⟩ : ∃ f, findD s.now n = some f := by
      unfold cutE Dk.find at he
      cases hq : findD s.now n with
      | some f => exact ⟨f, rfl⟩
      | none => rw [hq] at he; simp at he
    rw [(isSome_find hfd).2] at hwf ⊢
    exact inv_setF hc hwf (by rw [k1]; exact pick_lt h.wf hfd) (k := 0) (by rw [fileAt_can]; simp only [List.length_take]; omega) (by rw [Nat.add_zero]; exact hc.roomy)
  · simp only [hz, if_false] at hwf ⊢
    exact hc
theorem inv_rename (h : Inv s) (a b : ByteArray) : Inv (rename s a b).1 := by
  have hwf := wf_rename h.wf a b
  unfold rename at *
  obtain ⟨k1, k2, k3⟩ := can_keep s (renameE s a b)
  have hc := inv_can h (renameE s a b)
  by_cases hz : (can s (renameE s a b)).2 = 0
  · simp only [hz, if_true] at hwf ⊢
    have he := can_zero hz
    obtain ⟨f, hfd⟩ : ∃ f, findD s.now a = some f := by
      unfold renameE Dk.find at he
      cases hq : findD s.now a with
      | some f => exact ⟨f, rfl⟩
      | none => rw [hq] at he; simp at he
    rw [(isSome_find hfd).2] at hwf ⊢
    have hm := now_mem h.wf
    rw [← k2] at hwf ⊢
    refine inv_dirs hc hwf ?_ fun x hx => .inl ⟨s.now, by rw [k2]; exact hm, ?_⟩
    · refine (map2_withD _ _).nodup_iff.2 (List.nodup_cons.2 ⟨fun hx => ?_, one_without (one_without (h.one _ hm) a) b⟩)
      obtain ⟨x, hx, e⟩ := List.mem_map.1 hx
      exact one_gone (h.one _ hm) (findD_mem hfd) x (mem_without.1 hx).1 e
    · rcases mem_withD.1 hx with rfl | hx
      · exact ⟨_, findD_mem hfd, rfl⟩
      · exact ⟨x, (mem_without.1 (mem_without.1 hx).1).1, rfl⟩
  · simp only [hz, if_false] at hwf ⊢
    exact hc
theorem inv_delete (h : Inv s) (n : ByteArray) : Inv (delete s n).1 := by
  have hwf := wf_delete h.wf n
  unfold delete at *
  obtain ⟨k1, k2, k3⟩ := can_keep s (there s n)
  have hc := inv_can h (there s n)
  by_cases hz : (can s (there s n)).2 = 0
  · simp only [hz, if_true] at hwf ⊢
    have hm := now_mem h.wf
    rw [← k2] at hwf ⊢
    exact inv_dirs hc hwf (one_without (h.one _ hm) n) fun x hx => .inl ⟨s.now, by rw [k2]; exact hm, x, (mem_without.1 hx).1, rfl⟩
  · simp only [hz, if_false] at hwf ⊢
    exact hc
theorem inv_dir1 (h : Inv s) {l : Dir} (hl : l ∈ s.dirs) : Inv { s with dirs := [l] } := by
  refine ⟨wf_dir1 h.wf hl, Int.le_trans (Int.ofNat_le.2 (held_mono (s := s) (s' := { s with dirs := [l] }) rfl (isHeld_dirs (s := s) (s' := { s with dirs := [l] }) fun k hk x hx => ⟨l, hl, x, ?_, rfl⟩) fun f _ => Nat.le_refl _)) h.roomy, fun k hk => ?_⟩
  · have : k = l := by simpa using hk
    subst this; exact hx
  · have : k = l := by simpa using hk
    subst this; exact h.one k hl
theorem inv_dirsync (h : Inv s) : Inv (dirsync s).1 := by
  unfold dirsync
  obtain ⟨k1, k2, k3⟩ := can_keep s 0
  have hc := inv_can h 0
  by_cases hz : (can s 0).2 = 0
  · simp only [hz, if_true]
    exact inv_dir1 hc (by rw [k2]; exact now_mem h.wf)
  · simp only [hz, if_false]
    exact hc
theorem inv_fuse (h : Inv s) {n : Int} (hn : n ≤ 9223372036854775807) : Inv (fuse s n) := ⟨wf_fuse h.wf hn, h.roomy, h.one⟩
theorem crashF_less {tails : List Int} : ∀ (l : Dir) (i : Nat) (fs : List Fl) (f : Nat), ((crashF tails l i fs).getD f ⟨[], 0⟩).b.length ≤ (fs.getD f ⟨[], 0⟩).b.length
  | [], _, _, _ => Nat.le_refl _
  | (k, g) :: r, i, fs, f => by
    refine Nat.le_trans (crashF_less (tails := tails) r (i + 1) (crash1 tails g i fs) f) ?_
    unfold crash1
    simp only [List.getD_eq_getElem?_getD, List.getElem?_set]
    split
    · rename_i h
      subst h
      split
      · simp only [Option.getD_some, List.length_take]; omega
      · rename_i h2
        rw [List.getElem?_eq_none (by omega)]; simp
    · exact Nat.le_refl _
theorem inv_crash (h : Inv s) (op : Int) (tails : List Int) : Inv (crash s op tails) := by
  have hwf := wf_crash h.wf op tails
  have hpos : 0 < s.dirs.length := List.length_pos_iff.2 h.wf.ne
  have hl : s.dirs.getD (min op.toNat (s.dirs.length - 1)) [] ∈ s.dirs := by
    rw [List.getD_eq_getElem?_getD, List.getElem?_eq_getElem (by omega)]; exact List.getElem_mem _
  unfold crash at *
  generalize s.dirs.getD (min op.toNat (s.dirs.length - 1)) [] = l at hl hwf ⊢
  refine ⟨hwf, Int.le_trans (Int.ofNat_le.2 (held_mono (crashF_len tails l 0 s.files) (isHeld_dirs (s := s) fun k hk x hx => ⟨l, hl, x, ?_, rfl⟩) fun f _ => crashF_less l 0 s.files f)) h.roomy, fun k hk => ?_⟩
  · have : k = l := by simpa using hk
    subst this; exact hx
  · have : k = l := by simpa using hk
    subst this; exact h.one k hl
theorem inv_act (h : Inv s) (a : Act) (b : List UInt8) (tails : List Int) (hn : a.n ≤ 9223372036854775807) : Inv (act s a b tails).1 := by
  unfold act
  split; exact inv_create h _
  split; exact inv_append h _ _
  split; exact inv_sync h _
  split; exact inv_cut h _ _
  split; exact inv_rename h _ _
  split; exact inv_delete h _
  split; exact inv_dirsync h
  split; exact inv_fuse h hn
  split; exact inv_crash h _ _
  exact h
/-- of one directory alone, what is held is what its names' files have. -/
theorem held_one (h : Inv s) {l : Dir} (hd : s.dirs = [l]) : held s = (l.map fun x => (fileAt s x.2).b.length).sum := by
  have hl : l ∈ s.dirs := by rw [hd]; simp
  have := sum_held (s := s) (fs := l.map (·.2)) (h.one l hl) (fun f => by
    rw [isHeld_iff, hd]
    simp [List.mem_map]) (fun f hf => by
    obtain ⟨x, hx, rfl⟩ := List.mem_map.1 hf
    exact h.wf.idx l hl x hx)
  rw [← this, List.map_map]; rfl
/-- without power nothing changes. -/
theorem can_gone (hg : s.gone = true) (e : Int) : can s e = (s, 7) := by unfold can; rw [if_pos hg]
theorem act_gone (hg : s.gone = true) (a : Act) (b : List UInt8) (tails : List Int) (h7 : a.dn ≠ 7) (h8 : a.dn ≠ 8) : act s a b tails = (s, [], 7) := by
  unfold act
  split; simp [create, can_gone hg]
  split; simp [append, can_gone hg]
  split; simp [sync, can_gone hg]
  split; simp [cut, can_gone hg]
  split; simp [rename, can_gone hg]
  split; simp [delete, can_gone hg]
  split; simp [dirsync, can_gone hg]
  simp [h7, h8, Disk.read, hg]
end
end Go.Proofs.YtmefbneoljpbgaaGreatDoor
end

section
namespace Go.Proofs.YtmefbneoljpbgaaGreatDoor
open Go.Den Go.Disk
theorem newB_step (xs : List UInt8) {E n : Nat} {zero : Array Value} {ps : List (Nat × Nat × Value)} {w : World} {k : Value → World → Prop} (hn : n = xs.length) (hp : ps = partsAt 1 (fun x : UInt8 => Value.int .u8 (x.toNat : Int)) 0 xs)
    (h : ∀ t w1, Slc encB 1 w1 t xs [hsz w] → Fr [] w w1 → hsz w1 = hsz w + 1 → k t w1) : BND (newslice E zero 1 n ps w) fun p => NEW p k := newparts_step encB_len (fun _ => rfl) xs hn hp h
theorem At.re2 {w0 w w' : World} {F0 : List Nat} {P : HP} (h : At w0 F0 P w) (f : Fr [] w w') : ∃ A, At w' A P w' ∧ (∀ b ∈ A, b < hsz w) ∧ ∀ w2 P', At w' A P' w2 → At w0 F0 P' w2 := by
  obtain ⟨F, h1, h2, h3⟩ := h
  have f' : Fr F0 w0 w' := h3.trans' f.nil
  have gr := f'.grow
  refine ⟨F, At.start (P.fr h1 f (by simp)), P.lt h1, fun w2 P' ⟨F', p1, p2, p3⟩ => ⟨F', p1, fun b hb => ?_, f'.trans p3 h2⟩⟩
  rcases p2 b hb with hb | hb
  · exact h2 b hb
  · exact .inr (by omega)
theorem mkB (n : Nat) (hn : n ≤ 1000000) (E : Nat) (w : World) {k : Value → World → Prop} (h : ∀ t w1, Slc encB 1 w1 t (List.replicate n 0) [hsz w] → Fr [] w w1 → hsz w1 = hsz w + 1 → k t w1) : BND (mkslice E 1 1 (.int .u8 0) w (.int .i64 (n : Int)) (.int .i64 (n : Int))) fun p => NEW p k := by
  have hc : ((Array.range ((n : Int).toNat * 1)).map fun i => (Value.cells (.int .u8 0))[i % (Value.cells (.int .u8 0)).size]!) = (List.replicate n (Value.int .u8 0)).toArray := by
    apply Array.ext
    · simp
    · intro i h1 h2
      simp [Value.cells, Nat.mod_one]
  have e : mkslice E 1 1 (.int .u8 0) w (.int .i64 (n : Int)) (.int .i64 (n : Int)) = some (.slice (some ⟨hsz w, 0, none⟩) n n, w.alloc (.cells (List.replicate n (Value.int .u8 0)).toArray E)) := by
    show (if 0 ≤ (n : Int) ∧ (n : Int) ≤ (n : Int) ∧ (n : Int) * ((1 : Nat) : Int) ≤ 281474976710656 ∧ (n : Int) ≤ 9223372036854775807 then
      some (Value.slice (some ⟨w.heap.size, 0, none⟩) (n : Int).toNat (n : Int).toNat, w.alloc (.cells ((Array.range ((n : Int).toNat * 1)).map fun i => (Value.cells (.int .u8 0))[i % (Value.cells (.int .u8 0)).size]!) E)) else none) = _
    rw [if_pos (by omega), hc]; rfl
  refine BND_step e <| (NEW_pair _ _ _).2 ?_
  refine h _ _ (.inr ⟨hsz w, n, _, E, by simp, blk_alloc_new _ _, by simp, by simp, rfl, fun i x hx j hj => ?_⟩) (Fr.alloc _ _ _) (by simp)
  obtain rfl : j = 0 := by omega
  have hi := (List.getElem?_eq_some_iff.1 hx).1
  have hi' : i < n := by simpa using hi
  rw [List.getElem?_replicate, if_pos hi'] at hx
  cases hx
  rw [List.getElem?_toArray, Nat.mul_one, Nat.add_zero, List.getElem?_replicate, if_pos hi']
  rfl
theorem loadn_all {w : World} {b n : Nat} {c : List Value} {T : Nat} {f : Nat × Nat} (h : blk w b = some (.cells c.toArray T f)) (hn : c.length = n) : loadn n w (.pointer (some ⟨b, 0, none⟩)) = some (.agg c.toArray) := by
  subst hn
  rw [loadn_blk h (by simp)]
  simp
theorem At.re3 {w0 w w' : World} {F0 : List Nat} {P : HP} (h : At w0 F0 P w) (f : Fr [] w w') : ∃ A, At w' A P w' ∧ (∀ b ∈ A, b < hsz w) ∧ (∀ b ∈ A, b ∈ F0 ∨ hsz w0 ≤ b) ∧ ∀ w2 P', At w' A P' w2 → At w0 F0 P' w2 := by
  obtain ⟨F, h1, h2, h3⟩ := h
  have f' : Fr F0 w0 w' := h3.trans' f.nil
  have gr := f'.grow
  refine ⟨F, At.start (P.fr h1 f (by simp)), P.lt h1, h2, fun w2 P' ⟨F', p1, p2, p3⟩ => ⟨F', p1, fun b hb => ?_, f'.trans p3 h2⟩⟩
  rcases p2 b hb with hb | hb
  · exact h2 b hb
  · exact .inr (by omega)
theorem ptr_nil {d : Nat} : binv .ptr .eql (ptrTo d) (.pointer none) = some (.bool false) := rfl
theorem At.zoom3 {w0 w w' : World} {F0 : List Nat} {ps : List HP} (h : At w0 F0 (stars ps) w) (f : Fr [] w w') (i : Nat) {P : HP} (hi : ps[i]? = some P) :
    ∃ A, At w' A P w' ∧ (∀ b ∈ A, b < hsz w) ∧ (∀ b ∈ A, b ∈ F0 ∨ hsz w0 ≤ b) ∧ ∀ w2 P', At w' A P' w2 → At w0 F0 (stars (ps.set i P')) w2 := by
  obtain ⟨F, h1, h2, h3⟩ := h
  have hlt := (stars ps).lt h1
  have h1' := (stars ps).fr h1 f (by simp)
  have h3' : Fr F0 w0 w' := h3.trans' f.nil
  obtain ⟨A, h4, h5, h6⟩ := stars_upd ps i P hi h1'
  have gr := h3'.grow
  refine ⟨A, At.start h4, fun b hb => hlt b (h5 b hb), fun b hb => h2 b (h5 b hb), fun w2 P' ⟨F', p1, p2, p3⟩ => ?_⟩
  obtain ⟨F2, h7, h8⟩ := h6 w2 F' P' p1 p3 p2
  refine ⟨F2, h7, fun b hb => ?_, h3'.trans p3 fun b hb => h2 b (h5 b hb)⟩
  rcases h8 b hb with hx | hx
  · exact h2 b hx
  · exact .inr (by omega)
set_option linter.unusedSimpArgs false
set_option linter.unusedVariables false
set_option maxRecDepth 20000
set_option maxHeartbeats 4000000
attribute [local congr] BND_cg COND_cg GEF_cg
attribute [local irreducible] capl slicea load1 loadn iaddr iaddra faddr storev newslice binv lookv mupd mdel mlenv mentry mestore slicev slicev3 slices indexs indexav textv rangev nexts clearv shiftv eqaggv convi buildv pickv lens lenl unv nilchk extractv partn JOIN
section
variable {w0 w w' : World} {F0 : List Nat} {d : Nat} {s : Dk} {R : Value → World → Prop}
theorem app_step (h : At w0 F0 (diskHP d s) w) (f : Fr [] w w') (hw : s.Wf) (hn : s.dirs.length < 1000000000) (hn2 : s.files.length < 1000000000) (n : ByteArray) {u : Value} {bs : List UInt8} {G : List Nat} (su : Slc encB 1 w' u bs G) (hG : ∀ b ∈ G, hsz w ≤ b) (hbs : bs.length < 1000000000)
    (hR : ∀ w2, At w0 F0 (diskHP d (append s n bs).1) w2 → R (.int .i64 (append s n bs).2) w2) : CALL PR F_disk_Disk_Append [ptrTo d, .string n, u] w' R := by
  obtain ⟨A, ha, hA, back⟩ := At.re2 h f
  exact dk_Append ha hw hn hn2 n hbs su.len (fun w2 f2 => (su.fr f2 fun b hb hb' => by have := hG b hb; have := hA b hb'; omega).loads encB_len) fun w2 h2 => hR w2 (back w2 _ h2)
end
end Go.Proofs.YtmefbneoljpbgaaGreatDoor
end

section
namespace Go.Proofs.YtmefbneoljpbgaaGreatDoor
open Go.Den Go.Disk
set_option linter.unusedSimpArgs false
set_option linter.unusedVariables false
set_option maxRecDepth 20000
set_option maxHeartbeats 4000000
attribute [local congr] BND_cg COND_cg GEF_cg
attribute [local irreducible] capl slicea load1 loadn iaddr iaddra faddr storev newslice binv lookv mupd mdel mlenv mentry mestore slicev slicev3 slices indexs indexav textv rangev nexts clearv shiftv eqaggv convi buildv pickv lens lenl unv nilchk extractv partn JOIN
section
variable {w0 w : World} {F0 : List Nat} {d : Nat} {s : Dk} {R : Value → World → Prop}
theorem dk_Fuse (h : At w0 F0 (diskHP d s) w) (n : Int) (hR : ∀ w', At w0 F0 (diskHP d (fuse s n)) w' → R (.tuple #[]) w') : CALL PR F_disk_Disk_Fuse [ptrTo d, .int .i64 n] w R := by
  obtain ⟨sv, ms, fb, hs, hm, hf⟩ := dk_open h
  refine C_disk_Disk_Fuse ?_
  unfold M_disk_Disk_Fuse ptrTo
  have e : max2v (.int .i64 n) (.int .i64 (-1)) = some (.int .i64 (if n < -1 then -1 else n)) := rfl
  (repeat refine gg ?_)
  refine hs.store (i := 1) rfl ⟨rfl, rfl⟩ (by simp [dkC]) fun w1 h1 f1 => ?_
  exact hR w1 (dk_shut (s := fuse s n) (sv := sv) (ms := ms) (fb := fb) h1)
end
end Go.Proofs.YtmefbneoljpbgaaGreatDoor
end

section
namespace Go.Proofs.YtmefbneoljpbgaaGreatDoor
open Go.Den Go.Disk
set_option linter.unusedSimpArgs false
set_option linter.unusedVariables false
set_option maxRecDepth 20000
set_option maxHeartbeats 4000000
attribute [local congr] BND_cg COND_cg GEF_cg
attribute [local irreducible] capl slicea load1 loadn iaddr iaddra faddr storev newslice binv lookv mupd mdel mlenv mentry mestore slicev slicev3 slices indexs indexav textv rangev nexts clearv shiftv eqaggv convi buildv pickv lens lenl unv nilchk extractv partn JOIN
section
variable {w0 w : World} {F0 : List Nat} {d : Nat} {s : Dk} {R : Value → World → Prop}
theorem dk_Down (h : At w0 F0 (diskHP d s) w) (hR : R (.bool s.gone) w) : CALL PR F_disk_Disk_Down [ptrTo d] w R := by
  obtain ⟨sv, ms, fb, hs, hm, hf⟩ := dk_open h
  refine C_disk_Disk_Down ?_
  unfold M_disk_Disk_Down ptrTo
  obtain ⟨T, c⟩ := hs.cell (i := 1) rfl
  (repeat refine gg ?_)
  exact hR
theorem dk_Down' {w0 : World} {F0 : List Nat} {d : Nat} {s : Dk} {g : Bool} (h : At w0 F0 (diskHP d s) w) (hg : s.gone = g) (hR : R (.bool g) w) : CALL PR F_disk_Disk_Down [ptrTo d] w R := dk_Down h (hg ▸ hR)
end
end Go.Proofs.YtmefbneoljpbgaaGreatDoor
end

section
namespace Go.Proofs.YtmefbneoljpbgaaGreatDoor
open Go.Den Go.Disk
set_option linter.unusedSimpArgs false
set_option linter.unusedVariables false
set_option maxRecDepth 20000
set_option maxHeartbeats 4000000
attribute [local congr] BND_cg COND_cg GEF_cg
attribute [local irreducible] capl slicea load1 loadn iaddr iaddra faddr storev newslice binv lookv mupd mdel mlenv mentry mestore slicev slicev3 slices indexs indexav textv rangev nexts clearv shiftv eqaggv convi buildv pickv lens lenl unv nilchk extractv partn JOIN
section
variable {w : World} {R : Value → World → Prop}
theorem r1_Same {a b : Value} {xs ys : List UInt8} (ha : Arr encB 1 w a xs) (hb : Arr encB 1 w b ys) (hn : xs.length < 1000000000) (hR : ∀ w', Fr [] w w' → R (.bool (decide (xs = ys))) w') :
    CALL PR F_tumbrelref01_Same [a, b] w R := by
  refine C_tumbrelref01_Same ?_
  unfold M_tumbrelref01_Same
  by_cases hl : xs.length = ys.length
  · (repeat (first | refine BND_step ha.len ?_ | refine BND_step hb.len ?_ | refine gg ?_))
    refine loop_up 0 xs.length (fun i w' => Fr [] w w' ∧ xs.take i = ys.take i) ⟨Fr.refl _ _, rfl⟩ (by omega) ?_
    rintro i w1 - hi ⟨f1, e⟩ J m hJ
    by_cases hlt : i < xs.length
    · have hx := List.getElem?_eq_getElem hlt
      have hy := List.getElem?_eq_getElem (l := ys) (i := i) (by omega)
      obtain ⟨b1, o1, i1, _, _, l1⟩ := (ha.fr f1 (by simp)).spot hx rfl .i64
      obtain ⟨b2, o2, i2, _, _, l2⟩ := (hb.fr f1 (by simp)).spot hy rfl .i64
      (repeat (first | refine BND_step ha.len ?_ | refine BND_step (l1 (w' := w1.drew) rfl (j := 0) rfl) ?_ | refine BND_step (l2 (w' := w1.drew) rfl (j := 0) rfl) ?_ | refine gg ?_))
      have hu : ((xs[i].toNat : Nat) : Int) = ((ys[i].toNat : Nat) : Int) ↔ xs[i] = ys[i] := by rw [Int.ofNat_inj, UInt8.toNat_inj]
      by_cases he : ((xs[i].toNat : Nat) : Int) = ((ys[i].toNat : Nat) : Int)
      · (repeat refine gg ?_)
        refine hJ _ hlt ⟨f1.trans' (Fr.drew _ _), ?_⟩
        rw [List.take_add_one, List.take_add_one, hx, hy, e, hu.1 he]
      · (repeat refine gg ?_)
        have := hR _ (f1.trans' (Fr.drew _ _))
        rwa [decide_eq_false (fun h => he (by subst h; rfl))] at this
    · (repeat (first | refine BND_step ha.len ?_ | refine gg ?_))
      have := hR _ f1
      rw [List.take_of_length_le (by omega), List.take_of_length_le (by omega)] at e
      rwa [decide_eq_true e] at this
  · (repeat (first | refine BND_step ha.len ?_ | refine BND_step hb.len ?_ | refine gg ?_))
    have := hR _ (Fr.refl _ _)
    rwa [decide_eq_false (fun h => hl (by rw [h]))] at this
end
end Go.Proofs.YtmefbneoljpbgaaGreatDoor
end

section
namespace Go.Proofs.YtmefbneoljpbgaaGreatDoor
open Go.Den Go.Disk
set_option linter.unusedSimpArgs false
set_option linter.unusedVariables false
set_option maxRecDepth 20000
set_option maxHeartbeats 4000000
attribute [local congr] BND_cg COND_cg GEF_cg
attribute [local irreducible] capl slicea load1 loadn iaddr iaddra faddr storev newslice binv lookv mupd mdel mlenv mentry mestore slicev slicev3 slices indexs indexav textv rangev nexts clearv shiftv eqaggv convi buildv pickv lens lenl unv nilchk extractv partn JOIN
section
variable {w : World} {R : Value → World → Prop}
theorem r6_Same {a b : Value} {xs ys : List ByteArray} (ha : Arr encN 1 w a xs) (hb : Arr encN 1 w b ys) (hn : xs.length < 1000000000) (hR : ∀ w', Fr [] w w' → R (.bool (decide (xs = ys))) w') :
    CALL PR F_tumbrelref06_Same [a, b] w R := by
  refine C_tumbrelref06_Same ?_
  unfold M_tumbrelref06_Same
  by_cases hl : xs.length = ys.length
  · (repeat (first | refine BND_step ha.len ?_ | refine BND_step hb.len ?_ | refine gg ?_))
    refine loop_up 0 xs.length (fun i w' => Fr [] w w' ∧ xs.take i = ys.take i) ⟨Fr.refl _ _, rfl⟩ (by omega) ?_
    rintro i w1 - hi ⟨f1, e⟩ J m hJ
    by_cases hlt : i < xs.length
    · have hx := List.getElem?_eq_getElem hlt
      have hy := List.getElem?_eq_getElem (l := ys) (i := i) (by omega)
      obtain ⟨b1, o1, i1, _, _, l1⟩ := (ha.fr f1 (by simp)).spot hx rfl .i64
      obtain ⟨b2, o2, i2, _, _, l2⟩ := (hb.fr f1 (by simp)).spot hy rfl .i64
      (repeat (first | refine BND_step ha.len ?_ | refine BND_step (l1 (w' := w1.drew) rfl (j := 0) rfl) ?_ | refine BND_step (l2 (w' := w1.drew) rfl (j := 0) rfl) ?_ | refine gg ?_))
      by_cases he : xs[i] = ys[i]
      · (repeat refine gg ?_)
        refine hJ _ hlt ⟨f1.trans' (Fr.drew _ _), ?_⟩
        rw [List.take_add_one, List.take_add_one, hx, hy, e, he]
      · (repeat refine gg ?_)
        have := hR _ (f1.trans' (Fr.drew _ _))
        rwa [decide_eq_false (fun h => he (by subst h; rfl))] at this
    · (repeat (first | refine BND_step ha.len ?_ | refine gg ?_))
      have := hR _ f1
      rw [List.take_of_length_le (by omega), List.take_of_length_le (by omega)] at e
      rwa [decide_eq_true e] at this
  · (repeat (first | refine BND_step ha.len ?_ | refine BND_step hb.len ?_ | refine gg ?_))
    have := hR _ (Fr.refl _ _)
    rwa [decide_eq_false (fun h => hl (by rw [h]))] at this
end
end Go.Proofs.YtmefbneoljpbgaaGreatDoor
end
