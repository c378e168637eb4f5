
/- A disk, in plain words: what always holds is kept by each call. No condition. -/
import Derived.Test.YtmefbneoljpbgaaGreatDoorDiskCrash
set_option linter.unusedSimpArgs false
set_option linter.unusedVariables false
namespace Go.Proofs.YtmefbneoljpbgaaGreatDoor
open Go.Den Go.Disk
section
variable {s : Dk}
theorem now_mem (h : s.Wf) : s.now ∈ s.dirs := List.mem_of_getElem? (dk_now_get h.ne)
theorem wf_empty {room : Int} (h : 16 ≤ room ∧ room ≤ 1048576) : (empty room).Wf := by
  refine ⟨by simp [empty], by simp [empty, riseD], by simp [empty], by simp [empty], by simp [empty], by simp [empty], by simp [empty], h, ?_⟩
  show (-1 : Int) ≤ -1 ∧ (-1 : Int) ≤ _
  omega
theorem wf_setF (h : s.Wf) (f : Nat) {x : Fl} (h1 : x.sure ≤ x.b.length) (h2 : (x.b.length : Int) ≤ s.room) : (setF s f x).Wf := by
  refine ⟨h.ne, h.rise, fun l hl y hy => ?_, h.many, h.nm, fun y hy => ?_, fun y hy => ?_, h.room, h.burn⟩
  · show y.2 < (s.files.set f x).length
    rw [List.length_set]; exact h.idx l hl y hy
  · rcases List.mem_or_eq_of_mem_set (show y ∈ s.files.set f x from hy) with hy | rfl
    · exact h.sure y hy
    · exact h1
  · rcases List.mem_or_eq_of_mem_set (show y ∈ s.files.set f x from hy) with hy | rfl
    · exact h.small y hy
    · exact h2
theorem wf_dirs (h : s.Wf) {l : Dir} (hr : riseD l) (hi : ∀ x ∈ l, x.2 < s.files.length) (hm : l.length ≤ 60) (hn : ∀ x ∈ l, named x.1 = true) : ({ s with dirs := s.dirs ++ [l] } : Dk).Wf := by
  refine ⟨by simp, fun k hk => ?_, fun k hk => ?_, fun k hk => ?_, fun k hk => ?_, h.sure, h.small, h.room, h.burn⟩
  all_goals rcases List.mem_append.1 (show k ∈ s.dirs ++ [l] from hk) with hk | hk
  · exact h.rise k hk
  · simp at hk; subst hk; exact hr
  · exact h.idx k hk
  · simp at hk; subst hk; exact hi
  · exact h.many k hk
  · simp at hk; subst hk; exact hm
  · exact h.nm k hk
  · simp at hk; subst hk; exact hn
theorem wf_dir1 (h : s.Wf) {l : Dir} (hl : l ∈ s.dirs) : ({ s with dirs := [l] } : Dk).Wf := by
  refine ⟨by simp, fun k hk => ?_, fun k hk => ?_, fun k hk => ?_, fun k hk => ?_, h.sure, h.small, h.room, h.burn⟩
  all_goals (have hk' : k = l := by simpa using hk); subst hk'
  · exact h.rise k hl
  · exact h.idx k hl
  · exact h.many k hl
  · exact h.nm k hl
theorem wf_files (h : s.Wf) : ({ s with files := s.files ++ [⟨[], 0⟩] } : Dk).Wf := by
  refine ⟨h.ne, h.rise, fun l hl y hy => ?_, h.many, h.nm, fun y hy => ?_, fun y hy => ?_, h.room, h.burn⟩
  · have := h.idx l hl y hy
    simp; omega
  · rcases List.mem_append.1 hy with hy | hy
    · exact h.sure y hy
    · simp at hy; subst hy; simp
  · rcases List.mem_append.1 hy with hy | hy
    · exact h.small y hy
    · simp at hy; subst hy
      have := h.room
      show (0 : Int) ≤ s.room
      omega
theorem held_of (h : s.Wf) {f : Nat} (hf : isHeld s f = true) (hl : f < s.files.length) : (fileAt s f).b.length ≤ held s := by
  unfold held
  have : ∀ (l : List Nat) (g : Nat → Nat), f ∈ l → g f ≤ (l.map g).sum := by
    intro l g
    induction l with
    | nil => intro h; simp at h
    | cons a l ih =>
      intro h
      simp only [List.map_cons, List.sum_cons]
      rcases List.mem_cons.1 h with rfl | h
      · omega
      · have := ih h; omega
  have h1 := this (List.range s.files.length) (fun f => if isHeld s f = true then (fileAt s f).b.length else 0) (List.mem_range.2 hl)
  simpa [hf] using h1
theorem can_e {e : Int} (h : (can s e).2 = 0) : e = 0 := can_zero h
theorem wf_create (h : s.Wf) (n : ByteArray) : (create s n).1.Wf := by
  unfold create
  have hc := wf_can h (createE s n)
  obtain ⟨k1, k2, k3⟩ := can_keep s (createE s n)
  by_cases hz : (can s (createE s n)).2 = 0
  · simp only [hz, if_true]
    have he := can_zero hz
    have hnm : named n = true := by
      cases hq : named n with
      | true => rfl
      | false => simp [createE, hq] at he
    have hfd : findD s.now n = none := by
      cases hq : findD s.now n with
      | none => rfl
      | some f => simp [createE, hnm, Dk.find, hq] at he
    have h60 : s.now.length < 60 := by
      unfold createE Dk.find at he
      rw [hfd] at he
      simp only [hnm, Bool.true_eq_false, if_false, Option.isSome_none, Bool.false_eq_true] at he
      split at he
      · simp at he
      · omega
    have h1 := wf_files hc
    have hnn : ∀ y ∈ s.now, y.1 ≠ n := findD_none.1 hfd
    have h2 := wf_dirs h1 (l := withD s.now (n, s.files.length)) (rise_withD (h.rise _ (now_mem h)) hnn) (fun x hx => by
      rcases mem_withD.1 hx with rfl | hx
      · simp [k1]
      · have := h.idx _ (now_mem h) x hx
        simp [k1]; omega) (by rw [len_withD]; omega) (fun x hx => by
      rcases mem_withD.1 hx with rfl | hx
      · exact hnm
      · exact h.nm _ (now_mem h) x hx)
    rw [k1, k2] at h2
    exact h2
  · simp only [hz, if_false]
    exact hc
theorem wf_append (h : s.Wf) (n : ByteArray) (bs : List UInt8) : (append s n bs).1.Wf := by
  unfold append
  have hc := wf_can h (appendE s n bs.length)
  obtain ⟨k1, k2, k3⟩ := can_keep s (appendE s n bs.length)
  by_cases hz : (can s (appendE s n bs.length)).2 = 0
  · simp only [hz, if_true]
    have he := can_zero hz
    obtain ⟨f, hfd⟩ : ∃ f, findD s.now n = some f := by
      unfold appendE Dk.find at he
      cases hq : findD s.now n with
      | some f => exact ⟨f, rfl⟩
      | none => rw [hq] at he; simp at he
    rw [(isSome_find hfd).2]
    have hx := List.mem_of_getElem? (wf_pick h hfd)
    have hfl : f < s.files.length := (List.getElem?_eq_some_iff.1 (wf_pick h hfd)).1
    have hh := held_of h (f := f) ((isHeld_iff s f).2 ⟨_, now_mem h, _, findD_mem hfd, rfl⟩) hfl
    have hr : ((held s + bs.length : Nat) : Int) ≤ s.room := by
      unfold appendE Dk.find at he
      rw [hfd] at he
      simp only [Option.isSome_some, if_true] at he
      split at he
      · simp at he
      · omega
    have hs := h.sure _ hx
    refine wf_setF hc f (by simp; omega) ?_
    rw [k3]
    simp only [List.length_append]
    omega
  · simp only [hz, if_false]
    exact hc
theorem wf_sync (h : s.Wf) (n : ByteArray) : (sync s n).1.Wf := by
  unfold sync
  have hc := wf_can h (there s n)
  obtain ⟨k1, k2, k3⟩ := can_keep s (there s n)
  by_cases hz : (can s (there s n)).2 = 0
  · simp only [hz, if_true]
    obtain ⟨f, hfd⟩ := there_zero (can_zero hz)
    rw [(isSome_find hfd).2]
    have hx := List.mem_of_getElem? (wf_pick h hfd)
    refine wf_setF hc f (by simp) ?_
    rw [k3]
    have := h.small _ hx
    exact this
  · simp only [hz, if_false]
    exact hc
theorem wf_cut (h : s.Wf) (n : ByteArray) (k : Int) : (cut s n k).1.Wf := by
  unfold cut
  have hc := wf_can h (cutE s n k)
  obtain ⟨k1, k2, k3⟩ := can_keep s (cutE s n k)
  by_cases hz : (can s (cutE s n k)).2 = 0
  · simp only [hz, if_true]
    have he := can_zero hz
    obtain ⟨f, hfd⟩ : ∃ f, findD s.now n = some f := by
      unfold cutE Dk.find at he
      cases hq : findD s.now n with
      | some f => exact ⟨f, rfl⟩
      | none => rw [hq] at he; simp at he
    rw [(isSome_find hfd).2]
    have hx := List.mem_of_getElem? (wf_pick h hfd)
    have hs := h.small _ hx
    have hu := h.sure _ hx
    refine wf_setF hc f (by simp only [List.length_take]; omega) ?_
    rw [k3]
    simp only [List.length_take]
    omega
  · simp only [hz, if_false]
    exact hc
theorem wf_rename (h : s.Wf) (a b : ByteArray) : (rename s a b).1.Wf := by
  unfold rename
  have hc := wf_can h (renameE s a b)
  obtain ⟨k1, k2, k3⟩ := can_keep s (renameE s a b)
  by_cases hz : (can s (renameE s a b)).2 = 0
  · simp only [hz, if_true]
    have he := can_zero hz
    obtain ⟨f, hfd⟩ : ∃ f, findD s.now a = some f := by
      unfold renameE Dk.find at he
      cases hq : findD s.now a with
      | some f => exact ⟨f, rfl⟩
      | none => rw [hq] at he; simp at he
    have hnm : named b = true := by
      unfold renameE Dk.find at he
      rw [hfd] at he
      cases hq : named b with
      | true => rfl
      | false => rw [hq] at he; simp at he
    rw [(isSome_find hfd).2]
    have hm := now_mem h
    have hfl : f < s.files.length := (List.getElem?_eq_some_iff.1 (wf_pick h hfd)).1
    have hl1 := len_without_lt hfd
    have hl2 := len_without (without s.now a) b
    have h60 := h.many _ hm
    have h2 := wf_dirs hc (l := withD (without (without s.now a) b) (b, f)) (rise_withD (rise_without (rise_without (h.rise _ hm) a) b) fun y hy => (mem_without.1 hy).2) (fun x hx => by
      rw [k1]
      rcases mem_withD.1 hx with rfl | hx
      · exact hfl
      · exact h.idx _ hm x (mem_without.1 (mem_without.1 hx).1).1) (by rw [len_withD]; omega) (fun x hx => by
      rcases mem_withD.1 hx with rfl | hx
      · exact hnm
      · exact h.nm _ hm x (mem_without.1 (mem_without.1 hx).1).1)
    rw [k2] at h2
    exact h2
  · simp only [hz, if_false]
    exact hc
theorem wf_delete (h : s.Wf) (n : ByteArray) : (delete s n).1.Wf := by
  unfold delete
  have hc := wf_can h (there s n)
  obtain ⟨k1, k2, k3⟩ := can_keep s (there s n)
  by_cases hz : (can s (there s n)).2 = 0
  · simp only [hz, if_true]
    have hm := now_mem h
    have hl := len_without s.now n
    have h60 := h.many _ hm
    have h2 := wf_dirs hc (l := without s.now n) (rise_without (h.rise _ hm) n) (fun x hx => by rw [k1]; exact h.idx _ hm x (mem_without.1 hx).1) (by omega) (fun x hx => h.nm _ hm x (mem_without.1 hx).1)
    rw [k2] at h2
    exact h2
  · simp only [hz, if_false]
    exact hc
theorem wf_dirsync (h : s.Wf) : (dirsync s).1.Wf := by
  unfold dirsync
  have hc := wf_can h 0
  obtain ⟨k1, k2, k3⟩ := can_keep s 0
  by_cases hz : (can s 0).2 = 0
  · simp only [hz, if_true]
    exact wf_dir1 hc (by rw [k2]; exact now_mem h)
  · simp only [hz, if_false]
    exact hc
theorem wf_fuse (h : s.Wf) {n : Int} (hn : n ≤ 9223372036854775807) : (fuse s n).Wf := by
  refine ⟨h.ne, h.rise, h.idx, h.many, h.nm, h.sure, h.small, h.room, ?_⟩
  show -1 ≤ (if n < -1 then -1 else n) ∧ (if n < -1 then -1 else n) ≤ _
  split <;> omega
theorem crashF_keep {tails : List Int} {m : Nat} : ∀ (l : Dir) (i : Nat) (fs : List Fl), (∀ x ∈ l, x.2 < fs.length) → FilesOk m fs → (crashF tails l i fs).length = fs.length ∧ FilesOk m (crashF tails l i fs)
  | [], _, fs, _, h => ⟨rfl, h⟩
  | (k, f) :: r, i, fs, hl, h => by
    have h1 := crash1_ok (tails := tails) (i := i) h (hl (k, f) (by simp))
    have h2 := crash1_len tails f i fs
    obtain ⟨a, b⟩ := crashF_keep (tails := tails) (m := m) r (i + 1) (crash1 tails f i fs) (fun x hx => by rw [h2]; exact hl x (by simp [hx])) h1
    exact ⟨by rw [← h2]; exact a, b⟩
theorem wf_crash (h : s.Wf) (op : Int) (tails : List Int) : (crash s op tails).Wf := by
  unfold crash
  have hpos : 0 < s.dirs.length := List.length_pos_iff.2 h.ne
  have hl : s.dirs.getD (min op.toNat (s.dirs.length - 1)) [] ∈ s.dirs := by
    rw [List.getD_eq_getElem?_getD, List.getElem?_eq_getElem (by omega)]; exact List.getElem_mem _
  generalize s.dirs.getD (min op.toNat (s.dirs.length - 1)) [] = l at hl
  have hrm := h.room
  obtain ⟨a, b⟩ := crashF_keep (tails := tails) (m := s.room.toNat) l 0 s.files (h.idx l hl) (fun x hx => ⟨h.sure x hx, by have := h.small x hx; omega⟩)
  refine ⟨by simp, fun k hk => ?_, fun k hk => ?_, fun k hk => ?_, fun k hk => ?_, fun x hx => (b x hx).1, fun x hx => ?_, h.room, ?_⟩
  · have hk' : k = l := by simpa using hk
    subst hk'; exact h.rise k hl
  · have hk' : k = l := by simpa using hk
    subst hk'
    show ∀ x ∈ k, x.2 < (crashF tails k 0 s.files).length
    rw [a]; exact h.idx k hl
  · have hk' : k = l := by simpa using hk
    subst hk'; exact h.many k hl
  · have hk' : k = l := by simpa using hk
    subst hk'; exact h.nm k hl
  · have := (b x hx).2
    show (x.b.length : Int) ≤ s.room
    omega
  · show (-1 : Int) ≤ -1 ∧ (-1 : Int) ≤ _
    omega
end
end Go.Proofs.YtmefbneoljpbgaaGreatDoor
