
/- A disk, in plain words: never more held than there is room; a file has one name at a time. No condition. -/
import Derived.Test.YtmefbneoljpbgaaGreatDoorDiskActP
set_option linter.unusedSimpArgs false
set_option linter.unusedVariables false
namespace Go.Proofs.YtmefbneoljpbgaaGreatDoor
open Go.Den Go.Disk
def sumTo (n : Nat) (g : Nat → Nat) : Nat := ((List.range n).map g).sum
theorem sumTo_succ (n : Nat) (g : Nat → Nat) : sumTo (n + 1) g = sumTo n g + g n := by unfold sumTo; rw [List.range_succ]; simp
theorem sumTo_le {n : Nat} {g g' : Nat → Nat} (h : ∀ i, i < n → g i ≤ g' i) : sumTo n g ≤ sumTo n g' := by
  induction n with
  | zero => simp [sumTo]
  | succ n ih =>
    rw [sumTo_succ, sumTo_succ]
    have := ih fun i hi => h i (by omega)
    have := h n (by omega)
    omega
theorem sumTo_one {n f k : Nat} {g g' : Nat → Nat} (hf : f < n) (h : ∀ i, i < n → i ≠ f → g' i ≤ g i) (h1 : g' f ≤ g f + k) : sumTo n g' ≤ sumTo n g + k := by
  induction n with
  | zero => omega
  | succ n ih =>
    rw [sumTo_succ, sumTo_succ]
    by_cases hfn : f = n
    · subst hfn
      have := sumTo_le (n := f) (g := g') (g' := g) fun i hi => h i (by omega) (by omega)
      omega
    · have := ih (by omega) fun i hi hne => h i (by omega) hne
      have := h n (by omega) (fun e => hfn e.symm)
      omega
def heldG (s : Dk) (f : Nat) : Nat := if isHeld s f = true then (fileAt s f).b.length else 0
theorem held_sum (s : Dk) : held s = sumTo s.files.length (heldG s) := rfl
/-- less held. -/
theorem held_mono {s s' : Dk} (hl : s'.files.length = s.files.length) (h1 : ∀ f, isHeld s' f = true → isHeld s f = true) (h2 : ∀ f, f < s.files.length → (fileAt s' f).b.length ≤ (fileAt s f).b.length) : held s' ≤ held s := by
  rw [held_sum, held_sum, hl]
  refine sumTo_le fun f hf => ?_
  unfold heldG
  by_cases q : isHeld s' f = true
  · rw [if_pos q, if_pos (h1 f q)]; exact h2 f hf
  · rw [if_neg q]; omega
theorem fileAt_set {s : Dk} {f : Nat} (hf : f < s.files.length) (x : Fl) (g : Nat) : fileAt (setF s f x) g = if g = f then x else fileAt s g := by
  unfold fileAt setF
  simp only [List.getD_eq_getElem?_getD, List.getElem?_set]
  by_cases h : f = g
  · subst h; simp [hf]
  · rw [if_neg h, if_neg (fun e => h e.symm)]
structure Inv (s : Dk) : Prop where
  wf : s.Wf
  roomy : (held s : Int) ≤ s.room
  one : ∀ l ∈ s.dirs, (l.map (·.2)).Nodup
theorem isHeld_dirs {s s' : Dk} (h : ∀ l' ∈ s'.dirs, ∀ x ∈ l', ∃ l ∈ s.dirs, ∃ y ∈ l, y.2 = x.2) (f : Nat) (hf : isHeld s' f = true) : isHeld s f = true := by
  rw [isHeld_iff] at *
  obtain ⟨l', hl', x, hx, rfl⟩ := hf
  exact h l' hl' x hx
theorem map2_withD (l : Dir) (x : ByteArray × Nat) : ((withD l x).map (·.2)).Perm (x.2 :: l.map (·.2)) := by
  induction l with
  | nil => simp [withD]
  | cons y l ih =>
    simp only [withD]
    split
    · simp only [List.map_cons]
      exact (ih.cons _).trans (List.Perm.swap _ _ _)
    · simp
theorem one_without {l : Dir} (h : (l.map (·.2)).Nodup) (n : ByteArray) : ((without l n).map (·.2)).Nodup := h.sublist ((List.filter_sublist).map _)
theorem one_gone {l : Dir} (h : (l.map (·.2)).Nodup) {n : ByteArray} {f : Nat} (hm : (n, f) ∈ l) : ∀ x ∈ without l n, x.2 ≠ f := by
  intro x hx e
  obtain ⟨h1, h2⟩ := mem_without.1 hx
  have := (List.nodup_iff_pairwise_ne.1 h)
  clear hx
  induction l with
  | nil => simp at hm
  | cons y l ih =>
    simp only [List.map_cons, List.nodup_cons] at h
    rcases List.mem_cons.1 hm with hm | hm
    · rcases List.mem_cons.1 h1 with h1 | h1
      · exact h2 (by rw [h1, ← hm])
      · exact h.1 (by rw [← hm]; exact List.mem_map.2 ⟨x, h1, e⟩)
    · rcases List.mem_cons.1 h1 with h1 | h1
      · exact h.1 (List.mem_map.2 ⟨_, hm, by rw [← h1, e]⟩)
      · exact ih h.2 hm h1 (List.nodup_iff_pairwise_ne.1 h.2)
section
variable {s : Dk}
theorem can_held (s : Dk) (e : Int) : held (can s e).1 = held s := by
  obtain ⟨k1, k2, k3⟩ := can_keep s e
  unfold held isHeld fileAt
  rw [k1, k2]
theorem inv_can (h : Inv s) (e : Int) : Inv (can s e).1 := by
  obtain ⟨k1, k2, k3⟩ := can_keep s e
  exact ⟨wf_can h.wf e, by rw [can_held, k3]; exact h.roomy, by rw [k2]; exact h.one⟩
theorem inv_empty {room : Int} (h : 16 ≤ room ∧ room ≤ 1048576) : Inv (empty room) := by
  refine ⟨wf_empty h, ?_, by simp [empty]⟩
  show ((0 : Nat) : Int) ≤ room
  omega
/-- a directory put behind, of files that are there, or of no bytes. -/
theorem inv_dirs (h : Inv s) {l : Dir} (hw : ({ s with dirs := s.dirs ++ [l] } : Dk).Wf) (ho : (l.map (·.2)).Nodup) (hl : ∀ x ∈ l, (∃ k ∈ s.dirs, ∃ y ∈ k, y.2 = x.2) ∨ (fileAt s x.2).b = []) : Inv { s with dirs := s.dirs ++ [l] } := by
  refine ⟨hw, Int.le_trans ?_ h.roomy, fun k hk => ?_⟩
  · rw [held_sum, held_sum]
    refine Int.ofNat_le.2 (sumTo_le fun f hf => ?_)
    unfold heldG
    by_cases q : isHeld s f = true
    · rw [if_pos q]
      split
      · exact Nat.le_refl _
      · omega
    · split
      · rename_i q2
        rw [isHeld_iff] at q2
        obtain ⟨k, hk, x, hx, rfl⟩ := q2
        rcases List.mem_append.1 (show k ∈ s.dirs ++ [l] from hk) with hk | hk
        · exact absurd ((isHeld_iff s x.2).2 ⟨k, hk, x, hx, rfl⟩) q
        · simp at hk; subst hk
          rcases hl x hx with h1 | h1
          · exact absurd ((isHeld_iff s x.2).2 h1) q
          · show (fileAt s x.2).b.length ≤ _
            rw [h1]; simp
      · omega
  · rcases List.mem_append.1 (show k ∈ s.dirs ++ [l] from hk) with hk | hk
    · exact h.one k hk
    · simp at hk; subst hk; exact ho
theorem inv_setF (h : Inv s) {f : Nat} {x : Fl} (hw : (setF s f x).Wf) (hf : f < s.files.length) {k : Nat} (hx : x.b.length ≤ (fileAt s f).b.length + k) (hk : ((held s + k : Nat) : Int) ≤ s.room) : Inv (setF s f x) := by
  refine ⟨hw, Int.le_trans (Int.ofNat_le.2 ?_) hk, h.one⟩
  rw [held_sum, held_sum]
  have e : (setF s f x).files.length = s.files.length := by unfold setF; simp
  have e2 : ∀ g, isHeld (setF s f x) g = isHeld s g := fun g => rfl
  rw [e]
  refine sumTo_one hf (fun i hi hne => ?_) ?_
  · unfold heldG; rw [e2, fileAt_set hf, if_neg hne]; exact Nat.le_refl _
  · unfold heldG; rw [e2, fileAt_set hf, if_pos rfl]
    split <;> omega
end
end Go.Proofs.YtmefbneoljpbgaaGreatDoor
