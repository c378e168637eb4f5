/- Plain laws of a tree of entries in a list: to rise, to sink. No condition. -/
import Derived.Test.YtmjiohgdoienmaaDue
namespace Go.Proofs.Ytmjiohgdoienmaa
open Go.Den

abbrev get (l : List E) (i : Nat) : E := l.getD i (0, 0)
def leE (a b : E) : Prop := ltE b a = false
theorem ltE_iff (a b : E) : ltE a b = true ↔ a.1 < b.1 ∨ (a.1 = b.1 ∧ a.2 < b.2) := by simp [ltE]
theorem leE_iff (a b : E) : leE a b ↔ a.1 < b.1 ∨ (a.1 = b.1 ∧ a.2 ≤ b.2) := by
  unfold leE
  rw [← Bool.not_eq_true, ltE_iff]
  omega
theorem leE_refl (a : E) : leE a a := by rw [leE_iff]; omega
theorem leE_trans {a b c : E} (h : leE a b) (h' : leE b c) : leE a c := by rw [leE_iff] at *; omega
theorem leE_of_lt {a b : E} (h : ltE a b = true) : leE a b := by rw [ltE_iff] at h; rw [leE_iff]; omega
theorem leE_total (a b : E) : leE a b ∨ leE b a := by rw [leE_iff, leE_iff]; omega
theorem leE_antisymm {a b : E} (h : leE a b) (h' : leE b a) : a = b := by
  rw [leE_iff] at *
  exact Prod.ext (by omega) (by omega)
theorem ltE_le {a b : E} : ltE a b = true ↔ leE a b ∧ a ≠ b := by
  rw [ltE_iff, leE_iff]
  constructor
  · intro h; exact ⟨by omega, fun e => by subst e; omega⟩
  · rintro ⟨h, hne⟩
    rcases h with h | h
    · exact .inl h
    · refine .inr ⟨h.1, ?_⟩
      have : a.2 ≠ b.2 := fun e => hne (Prod.ext h.1 e)
      omega

theorem get_swap (l : List E) {i k : Nat} (hi : i < l.length) (hk : k < l.length) (j : Nat) : get (swapL l i k) j = if j = k then get l i else if j = i then get l k else get l j := by
  simp only [get, swapL, List.getD_eq_getElem?_getD, List.getElem?_set, List.length_set]
  by_cases h1 : j = k
  · subst h1; simp [hk]
  · by_cases h2 : j = i
    · subst h2; simp [hi, Ne.symm h1, h1]
    · simp [Ne.symm h1, h1, Ne.symm h2, h2]

def par (j : Nat) : Nat := (j - 1) / 2
def IsHeap (l : List E) : Prop := ∀ j, 0 < j → j < l.length → leE (get l (par j)) (get l j)
structure UpInv (l : List E) (i : Nat) : Prop where
  s : ∀ j, 0 < j → j < l.length → j ≠ i → par j ≠ i → leE (get l (par j)) (get l j)
  g : 0 < i → ∀ j, 0 < j → j < l.length → par j = i → leE (get l (par i)) (get l j)
structure DownInv (l : List E) (i : Nat) : Prop where
  s : ∀ j, 0 < j → j < l.length → par j ≠ i → leE (get l (par j)) (get l j)
  g : 0 < i → ∀ j, 0 < j → j < l.length → par j = i → leE (get l (par i)) (get l j)

theorem UpInv.stop {l : List E} {i : Nat} (h : UpInv l i) (hp : 0 < i → leE (get l (par i)) (get l i)) : DownInv l i :=
  ⟨fun j h0 h1 h2 => if e : j = i then by subst e; exact hp h0 else h.s j h0 h1 e h2, h.g⟩
theorem UpInv.step {l : List E} {i : Nat} (h : UpInv l i) (h0 : 0 < i) (hi : i < l.length) (hlt : ltE (get l i) (get l (par i)) = true) : UpInv (swapL l i (par i)) (par i) := by
  have hpi : par i < i := by unfold par; omega
  have hp : par i < l.length := by omega
  have hle := leE_of_lt hlt
  refine ⟨fun j j0 j1 j2 j3 => ?_, fun p0 j j0 j1 j2 => ?_⟩
  · rw [swapL_len] at j1
    rw [get_swap l hi hp, get_swap l hi hp, if_neg j3, if_neg j2]
    by_cases e : j = i
    · subst e; exact absurd rfl j3
    · rw [if_neg e]
      by_cases e2 : par j = i
      · rw [if_pos e2]; exact h.g h0 j j0 j1 e2
      · rw [if_neg e2]; exact h.s j j0 j1 e e2
  · rw [swapL_len] at j1
    have hpp : par (par i) ≠ par i := by unfold par at *; omega
    have hppi : par (par i) ≠ i := by unfold par at *; omega
    have hpj : j ≠ par i := by unfold par at *; omega
    rw [get_swap l hi hp, get_swap l hi hp, if_neg hpp, if_neg hppi, if_neg hpj]
    have hgp : leE (get l (par (par i))) (get l (par i)) := h.s (par i) p0 (by omega) (by omega) hppi
    by_cases e : j = i
    · rw [if_pos e]; exact hgp
    · rw [if_neg e]
      have := h.s j j0 j1 e (by omega)
      rw [j2] at this
      exact leE_trans hgp this
theorem DownInv.stop {l : List E} {i : Nat} (h : DownInv l i) (hc : ∀ j, 0 < j → j < l.length → par j = i → leE (get l i) (get l j)) : IsHeap l :=
  fun j h0 h1 => if e : par j = i then by rw [e]; exact hc j h0 h1 e else h.s j h0 h1 e
theorem DownInv.step {l : List E} {i k : Nat} (h : DownInv l i) (hi : i < l.length) (hk : k < l.length) (k0 : 0 < k) (hki : par k = i) (hmin : ∀ j, 0 < j → j < l.length → par j = i → leE (get l k) (get l j))
    (hlt : ltE (get l k) (get l i) = true) : DownInv (swapL l i k) k := by
  have hik : i < k := by unfold par at hki; omega
  have hle := leE_of_lt hlt
  refine ⟨fun j j0 j1 j2 => ?_, fun _ j j0 j1 j2 => ?_⟩
  · rw [swapL_len] at j1
    rw [get_swap l hi hk, get_swap l hi hk, if_neg j2]
    by_cases e : par j = i
    · rw [if_pos e]
      by_cases e2 : j = k
      · rw [if_pos e2]; exact hle
      · have e3 : j ≠ i := by unfold par at e; omega
        rw [if_neg e2, if_neg e3]; exact hmin j j0 j1 e
    · rw [if_neg e]
      by_cases e2 : j = k
      · subst e2; exact absurd hki e
      · rw [if_neg e2]
        by_cases e3 : j = i
        · rw [if_pos e3]
          subst e3
          exact h.g j0 k k0 hk hki
        · rw [if_neg e3]; exact h.s j j0 j1 e
  · rw [swapL_len] at j1
    have e1 : par k ≠ k := by omega
    have e2 : j ≠ k := by unfold par at j2; omega
    have e3 : j ≠ i := by unfold par at j2; omega
    rw [get_swap l hi hk, get_swap l hi hk, if_neg e1, if_pos hki, if_neg e2, if_neg e3]
    have := h.s j j0 j1 (by omega)
    rw [j2] at this
    exact this
theorem IsHeap.min {l : List E} (h : IsHeap l) : ∀ j, j < l.length → leE (get l 0) (get l j) := by
  intro j
  induction j using Nat.strongRecOn with
  | _ j ih =>
    intro hj
    by_cases h0 : j = 0
    · subst h0; exact leE_refl _
    · have : par j < j := by unfold par; omega
      exact leE_trans (ih (par j) this (by omega)) (h j (by omega) hj)

theorem swap_perm (l : List E) {i k : Nat} (hi : i < l.length) (hk : k < l.length) : (swapL l i k).Perm l := by
  have : swapL l i k = (l.set i l[k]).set k l[i] := by simp [swapL, List.getD_eq_getElem?_getD, hi, hk]
  rw [this]
  exact List.set_set_perm hi hk

/-! ## Ids, and where they stand -/
structure Sync (l : List E) (L : List (Int × Value)) : Prop where
  ids : (l.map (·.2)).Nodup
  stand : ∀ i, i < l.length → lk L (get l i).2 = some (.int .i64 i)
  only : ∀ k v, lk L k = some v → ∃ i, i < l.length ∧ (get l i).2 = k
theorem ids_inj {l : List E} (h : (l.map (·.2)).Nodup) {i j : Nat} (hi : i < l.length) (hj : j < l.length) (e : (get l i).2 = (get l j).2) : i = j := by
  have h1 : (l.map (·.2))[i]'(by simpa using hi) = (l.map (·.2))[j]'(by simpa using hj) := by
    simpa [get, List.getD_eq_getElem?_getD, hi, hj] using e
  exact (List.getElem_inj h).1 h1
theorem Sync.swap {l : List E} {L : List (Int × Value)} (h : Sync l L) {i k : Nat} (hi : i < l.length) (hk : k < l.length) :
    Sync (swapL l i k) (insL (insL L (get (swapL l i k) i).2 (.int .i64 i)) (get (swapL l i k) k).2 (.int .i64 k)) := by
  have hids : ((swapL l i k).map (·.2)).Nodup := ((swap_perm l hi hk).map _).nodup_iff.2 h.ids
  refine ⟨hids, fun j hj => ?_, fun q v hq => ?_⟩
  · rw [lk_ins, lk_ins]
    by_cases e : j = k
    · subst e; simp
    · have n1 : (get (swapL l i k) j).2 ≠ (get (swapL l i k) k).2 := fun e' => e (ids_inj hids hj (by simpa using hk) e')
      rw [if_neg n1]
      by_cases e2 : j = i
      · subst e2; simp
      · have n2 : (get (swapL l i k) j).2 ≠ (get (swapL l i k) i).2 := fun e' => e2 (ids_inj hids hj (by simpa using hi) e')
        rw [if_neg n2, get_swap l hi hk, if_neg e, if_neg e2]
        exact h.stand j (by simpa using hj)
  · rw [lk_ins, lk_ins] at hq
    by_cases e : q = (get (swapL l i k) k).2
    · exact ⟨k, by simpa using hk, e.symm⟩
    · rw [if_neg e] at hq
      by_cases e2 : q = (get (swapL l i k) i).2
      · exact ⟨i, by simpa using hi, e2.symm⟩
      · rw [if_neg e2] at hq
        obtain ⟨j, hj, rfl⟩ := h.only q v hq
        have h1 := get_swap l hi hk
        by_cases e3 : j = k
        · subst e3
          refine absurd ?_ e2
          rw [h1]; by_cases e4 : i = j
          · subst e4; simp
          · simp [e4]
        · by_cases e4 : j = i
          · subst e4
            refine absurd ?_ e
            rw [h1]; simp
          · exact ⟨j, by simpa using hj, by rw [h1, if_neg e3, if_neg e4]⟩

/-- a heap in memory whose map tells where each id stands. -/
def DueI (w : World) (hb : Nat) (l : List E) (F : List Nat) : Prop := ∃ L, DueR w hb l L F ∧ Sync l L
theorem DueI.fr {w w' : World} {hb : Nat} {l : List E} {F G : List Nat} (h : DueI w hb l F) (hf : Fr G w w') (hd : ∀ b ∈ F, b ∉ G) : DueI w' hb l F := by
  obtain ⟨L, h1, h2⟩ := h; exact ⟨L, h1.fr hf hd, h2⟩
theorem due_swapI {w : World} {hb : Nat} {l : List E} {F : List Nat} (h : DueI w hb l F) {i k : Nat} (hi : i < l.length) (hk : k < l.length) {R : Value → World → Prop}
    (hR : ∀ w', DueI w' hb (swapL l i k) F → Fr F w w' → R (.tuple #[]) w') : CALL PR F_due_tree_entry_swap [.pointer (some ⟨hb, 0, none⟩), .int .i64 i, .int .i64 k] w R := by
  obtain ⟨L, h1, h2⟩ := h
  exact due_swap h1 hi hk fun w' h3 h4 => hR w' ⟨_, h3, h2.swap hi hk⟩ h4

end Go.Proofs.Ytmjiohgdoienmaa
