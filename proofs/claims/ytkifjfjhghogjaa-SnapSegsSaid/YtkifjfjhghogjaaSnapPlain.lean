/- Load, by the program and by the document: the same records have one; records come back. No condition. -/
import Derived.Test.YtkifjfjhghogjaaSnapRef3
namespace Go.Proofs.Ytkifjfjhghogjaa
open Go.Den
set_option linter.unusedSimpArgs false
set_option linter.unusedVariables false

theorem filter_all {α : Type} {p : α → Bool} {xs : List α} (h : ∀ x ∈ xs, p x = true) : xs.filter p = xs := List.filter_eq_self.2 h
theorem filter_none {α : Type} {p : α → Bool} {xs : List α} (h : ∀ x ∈ xs, p x = false) : xs.filter p = [] := by
  rw [List.filter_eq_nil_iff]; intro x hx; simp [h x hx]
/-- kinds that don't fall, from 14 to 16: the parts stand one behind the other. -/
theorem parts_of (ls : List LRec) (h1 : ∀ l ∈ ls, 14 ≤ l.k ∧ l.k ≤ 16) (h2 : ls.Pairwise fun a b => a.k ≤ b.k) :
    ls = ls.filter (fun l => decide (l.k = 14)) ++ (ls.filter (fun l => decide (l.k = 15)) ++ ls.filter (fun l => decide (l.k = 16))) := by
  induction ls with
  | nil => rfl
  | cons l ls ih =>
    obtain ⟨p1, p2⟩ := List.pairwise_cons.1 h2
    have ih' := ih (fun x hx => h1 x (by simp [hx])) p2
    have hl := h1 l (by simp)
    by_cases k14 : l.k = 14
    · simp only [List.filter_cons, k14]
      simp only [decide_true, if_true, show ¬ ((14 : Int) = 15) by omega, show ¬ ((14 : Int) = 16) by omega, decide_false, Bool.false_eq_true, if_false, List.cons_append]
      rw [← ih']
    · have hn14 : ls.filter (fun l => decide (l.k = 14)) = [] := filter_none fun x hx => by have := p1 x hx; simp; omega
      rw [hn14, List.nil_append] at ih'
      by_cases k15 : l.k = 15
      · simp only [List.filter_cons, k15, hn14]
        simp only [decide_true, if_true, show ¬ ((15 : Int) = 14) by omega, show ¬ ((15 : Int) = 16) by omega, decide_false, Bool.false_eq_true, if_false, List.nil_append, List.cons_append]
        rw [← ih']
      · have k16 : l.k = 16 := by omega
        have hn15 : ls.filter (fun l => decide (l.k = 15)) = [] := filter_none fun x hx => by have := p1 x hx; simp; omega
        rw [hn15, List.nil_append] at ih'
        simp only [List.filter_cons, k16, hn14, hn15]
        simp only [decide_true, if_true, show ¬ ((16 : Int) = 14) by omega, show ¬ ((16 : Int) = 15) by omega, decide_false, Bool.false_eq_true, if_false, List.nil_append]
        rw [← ih']
theorem right_t {l : LRec} (h : rightL l = true) (hk : l.k = 13 ∨ l.k = 14 ∨ l.k = 15 ∨ l.k = 17) : l.t = ⟨#[]⟩ := by
  unfold rightL rightR worded at h
  simp only [Bool.and_eq_true, Bool.or_eq_true, decide_eq_true_eq] at h
  have h0 : l.t.size = 0 := by
    rcases h.2 with h | h
    · exact h
    · omega
  exact ByteArray.ext (Array.eq_empty_of_size_eq_zero h0)
theorem u64w_id {n : Int} (h : U64 n) : u64w n = n := wrap_u64 h.1 h.2
theorem recI_item {l : LRec} (hr : rightL l = true) (hk : l.k = 14) (hu : ∀ n ∈ l.ns, U64 n) : recI (itemL l.ns) = l := by
  obtain ⟨k, ns, t⟩ := l
  obtain ⟨a, b, c, d, e, f, g, i, j, m, e10⟩ := ten (NsU.len10 hr hk)
  simp only at e10 hk hu
  subst e10; subst hk
  have ht := right_t hr (.inr (.inl rfl))
  simp only at ht; subst ht
  simp only [recI, itemL, List.getD_cons_zero, List.getD_cons_succ, LRec.mk.injEq, true_and, and_true]
  rw [u64w_id (hu b (by simp)), u64w_id (hu c (by simp)), u64w_id (hu d (by simp)), u64w_id (hu m (by simp))]
theorem recD_row {l : LRec} (hr : rightL l = true) (hk : l.k = 15) : recD (l.ns.getD 0 0, l.ns.getD 1 0) = l := by
  obtain ⟨k, ns, t⟩ := l
  obtain ⟨a, b, e⟩ := two (NsU.len2 hr hk)
  simp only at e hk
  subst e; subst hk
  have ht := right_t hr (.inr (.inr (.inl rfl)))
  simp only at ht; subst ht
  rfl
theorem recC_cur {l : LRec} (hr : rightL l = true) (hk : l.k = 16) : recC (l.t, l.ns.getD 0 0) = l := by
  obtain ⟨k, ns, t⟩ := l
  obtain ⟨a, e⟩ := one (NsU.len1 hr hk)
  simp only at e hk
  subst e; subst hk
  rfl
theorem recB_base {l : LRec} (hr : rightL l = true) (hk : l.k = 13) (ms : List LRec) : recB (gath l.ns ms) = l := by
  obtain ⟨k, ns, t⟩ := l
  obtain ⟨a, b, c, d, e, f, g, e7⟩ := seven (NsU.len7 hr hk)
  simp only at e7 hk
  subst e7; subst hk
  have ht := right_t hr (.inl rfl)
  simp only at ht; subst ht
  rfl
theorem map_filter_id {α β : Type} (p : α → Bool) (f : α → β) (g : β → α) (xs : List α) (h : ∀ x ∈ xs, p x = true → g (f x) = x) : ((xs.filter p).map f).map g = xs.filter p := by
  rw [List.map_map]
  conv => rhs; rw [← List.map_id (xs.filter p)]
  exact List.map_congr_left fun x hx => h x (List.mem_filter.1 hx).1 (List.mem_filter.1 hx).2
/-- the records out of their ends and what stands between. -/
theorem split_ls {ls : List LRec} (h : 2 ≤ ls.length) : ls = baseL ls :: (midL ls ++ [lastL ls]) := by
  apply List.ext_getElem?
  intro i
  have hm := midL_len ls
  cases i with
  | zero =>
    simp only [List.getElem?_cons_zero, baseL]
    rw [List.getD_eq_getElem?_getD, List.getElem?_eq_getElem (by omega)]; rfl
  | succ i =>
    rw [List.getElem?_cons_succ]
    by_cases hi : i < (midL ls).length
    · rw [List.getElem?_append_left hi, midL_get (by omega)]
    · rw [List.getElem?_append_right (by omega)]
      by_cases hi2 : i = (midL ls).length
      · subst hi2
        rw [Nat.sub_self, hm, show ls.length - 2 + 1 = ls.length - 1 by omega]
        simp only [List.getElem?_cons_zero, lastL]
        rw [List.getD_eq_getElem?_getD, List.getElem?_eq_getElem (by omega)]; rfl
      · rw [List.getElem?_eq_none (by omega), List.getElem?_eq_none (by simp; omega)]
theorem pair_adj {ls : List LRec} (h : ∀ i, i + 1 < ls.length → kAt ls i ≤ kAt ls (i + 1)) : ls.Pairwise fun a b => a.k ≤ b.k := by
  induction ls with
  | nil => exact List.Pairwise.nil
  | cons l ls ih =>
    have h1 : ls.Pairwise fun a b => a.k ≤ b.k := ih fun i hi => by
      have := h (i + 1) (by simp; omega)
      simpa [kAt] using this
    refine List.pairwise_cons.2 ⟨fun x hx => ?_, h1⟩
    cases ls with
    | nil => simp at hx
    | cons m ms =>
      have h0 := h 0 (by simp)
      simp [kAt] at h0
      rcases List.mem_cons.1 hx with rfl | hx
      · exact h0
      · exact Int.le_trans h0 ((List.pairwise_cons.1 h1).1 x hx)
theorem refOk_of {ls : List LRec} (hu : NsU ls) (h : refOk ls) : loadsL ls (gotL ls) := by
  obtain ⟨⟨h2, hall, hb⟩, hl, hq, hg, ht⟩ := h
  have hR : ∀ l ∈ ls, rightL l = true := fun l hl => List.all_eq_true.1 hall l hl
  have hsp := split_ls h2
  have hm := midL_len ls
  have mem_mid : ∀ l ∈ midL ls, l ∈ ls := fun l hl => by rw [hsp]; simp [hl]
  have mem_b : baseL ls ∈ ls := by
    have h : baseL ls ∈ baseL ls :: (midL ls ++ [lastL ls]) := by simp
    rwa [← hsp] at h
  have mem_l : lastL ls ∈ ls := by
    have h : lastL ls ∈ baseL ls :: (midL ls ++ [lastL ls]) := by simp
    rwa [← hsp] at h
  have kmid : ∀ i, i < (midL ls).length → kAt (midL ls) i = kAt ls (i + 1) := fun i hi => by
    unfold kAt; rw [midL_get (by omega)]
  have hk : ∀ l ∈ midL ls, 14 ≤ l.k ∧ l.k ≤ 16 := fun l hl => by
    obtain ⟨i, hi⟩ := List.mem_iff_getElem?.1 hl
    have hi' : i < (midL ls).length := (List.getElem?_eq_some_iff.1 hi).1
    have := hg (i + 1) (by omega) (by omega)
    rw [← kAt_get hi, kmid i hi']
    exact ⟨this.1, this.2.1⟩
  have hp : (midL ls).Pairwise fun a b => a.k ≤ b.k := pair_adj fun i hi => by
    rw [kmid i (by omega), kmid (i + 1) hi]
    exact (hg (i + 2) (by omega) (by omega)).2.2
  have hmid : (gotL ls).items.map recI ++ ((gotL ls).dead.map recD ++ (gotL ls).curs.map recC) = midL ls := by
    conv => rhs; rw [parts_of _ hk hp]
    show (gathI (midL ls)).map recI ++ ((gathD (midL ls)).map recD ++ (gathC (midL ls)).map recC) = _
    unfold gathI gathD gathC
    rw [map_filter_id _ _ _ _ fun x hx h => recI_item (hR x (mem_mid x hx)) (by simpa using h) (hu x (mem_mid x hx)),
      map_filter_id _ _ _ _ fun x hx h => recD_row (hR x (mem_mid x hx)) (by simpa using h),
      map_filter_id _ _ _ _ fun x hx h => recC_cur (hR x (mem_mid x hx)) (by simpa using h)]
  have hbase : recB (gotL ls) = baseL ls := recB_base (hR _ mem_b) hb _
  have hlast : recE (headL (gotL ls)).length = lastL ls := by
    have h1 : (headL (gotL ls)).length = ls.length - 1 := by
      unfold headL
      rw [hmid]
      simp; omega
    rw [h1]
    have hr := hR _ mem_l
    have ht := right_t hr (.inr (.inr (.inr hl)))
    have hl1 : (lastL ls).ns.length = 1 := by
      unfold rightL rightR at hr
      rw [hl] at hr
      simp only [Bool.and_eq_true, decide_eq_true_eq] at hr
      simpa [numsT] using hr.1.2
    obtain ⟨q, e⟩ := one hl1
    unfold recE
    rw [← hq]
    generalize lastL ls = l at *
    obtain ⟨k, ns, t⟩ := l
    simp only at hl ht e
    subst hl; subst ht; subst e
    rfl
  have hsave : saveL (gotL ls) = ls := by
    unfold saveL
    rw [hlast]
    unfold headL
    rw [hmid, hbase]
    exact hsp.symm
  have hok : okS (gotL ls) = true := by
    unfold okS
    rw [Bool.and_eq_true, List.all_eq_true, List.all_eq_true]
    constructor
    · intro x hx
      obtain ⟨l, hl, rfl⟩ := List.mem_map.1 (show x ∈ (midL ls |>.filter fun l => decide (l.k = 14)).map fun l => itemL l.ns from hx)
      obtain ⟨hl1, hl2⟩ := List.mem_filter.1 hl
      simp only [decide_eq_true_eq] at hl2
      have h1 := List.all_eq_true.1 ht l hl1
      unfold tightL at h1
      simp only [decide_eq_true_eq] at h1
      have h1 := h1 hl2
      have hu1 := hu l (mem_mid l hl1)
      obtain ⟨a, b, c, d, e, f, g, i, j, m, e10⟩ := ten (NsU.len10 (hR l (mem_mid l hl1)) hl2)
      rw [e10] at h1 hu1 ⊢
      simp only [List.getD_cons_zero, List.getD_cons_succ] at h1
      have u1 := (hu1 b (by simp)).1
      have u2 := (hu1 c (by simp)).1
      have u3 := (hu1 d (by simp)).1
      have u9 := (hu1 m (by simp)).1
      simp only [okI, itemL, smallI, List.getD_cons_zero, List.getD_cons_succ, Bool.and_eq_true, decide_eq_true_eq]
      omega
    · intro x hx
      obtain ⟨l, hl, rfl⟩ := List.mem_map.1 (show x ∈ (midL ls |>.filter fun l => decide (l.k = 16)).map fun l => (l.t, l.ns.getD 0 0) from hx)
      obtain ⟨hl1, hl2⟩ := List.mem_filter.1 hl
      simp only [decide_eq_true_eq] at hl2
      have hr := hR l (mem_mid l hl1)
      unfold rightL rightR at hr
      simp only [Bool.and_eq_true, Bool.or_eq_true, decide_eq_true_eq] at hr
      simp only [decide_eq_true_eq]
      omega
  exact ⟨⟨h2, hall, hb⟩, ht, rfl, hok, hsave⟩
theorem saveL_k {s : SnapL} : (∀ l ∈ s.items.map recI, l.k = 14) ∧ (∀ l ∈ s.dead.map recD, l.k = 15) ∧ (∀ l ∈ s.curs.map recC, l.k = 16) := by
  refine ⟨?_, ?_, ?_⟩ <;>
  · intro l hl
    obtain ⟨x, _, rfl⟩ := List.mem_map.1 hl
    rfl
theorem refOk_conv {ls : List LRec} {s : SnapL} (h : loadsL ls s) : refOk ls ∧ s = gotL ls := by
  obtain ⟨⟨h2, hall, hb⟩, ht, hs, hok, hsave⟩ := h
  refine ⟨⟨⟨h2, hall, hb⟩, ?_, ?_, ?_, ht⟩, hs⟩
  · have : lastL ls = recE (headL s).length := by
      rw [← hsave]
      unfold lastL saveL
      rw [List.getD_eq_getElem?_getD, List.getElem?_append_right (by simp)]
      simp
    rw [this]; rfl
  · have : lastL ls = recE (headL s).length := by
      rw [← hsave]
      unfold lastL saveL
      rw [List.getD_eq_getElem?_getD, List.getElem?_append_right (by simp)]
      simp
    rw [this, ← hsave]
    simp [recE, saveL]
  · intro i h1 h3
    have hlen : (headL s).length = ls.length - 1 := by rw [← hsave]; simp [saveL]
    have hget : ∀ j, j < (headL s).length → kAt ls j = kAt (headL s) j := fun j hj => by
      rw [← hsave]
      unfold kAt saveL
      rw [List.getElem?_append_left hj]
    have hpw : (headL s).Pairwise fun a b => a.k ≤ b.k := by
      obtain ⟨q1, q2, q3⟩ := saveL_k (s := s)
      unfold headL
      refine List.pairwise_cons.2 ⟨fun x hx => ?_, List.pairwise_append.2 ⟨?_, List.pairwise_append.2 ⟨?_, ?_, ?_⟩, ?_⟩⟩
      · simp only [recB]
        rcases List.mem_append.1 hx with hx | hx
        · rw [q1 x hx]; omega
        · rcases List.mem_append.1 hx with hx | hx
          · rw [q2 x hx]; omega
          · rw [q3 x hx]; omega
      · exact List.pairwise_iff_getElem.2 fun a b ha hb' hab => by rw [q1 _ (List.getElem_mem ha), q1 _ (List.getElem_mem hb')]; omega
      · exact List.pairwise_iff_getElem.2 fun a b ha hb' hab => by rw [q2 _ (List.getElem_mem ha), q2 _ (List.getElem_mem hb')]; omega
      · exact List.pairwise_iff_getElem.2 fun a b ha hb' hab => by rw [q3 _ (List.getElem_mem ha), q3 _ (List.getElem_mem hb')]; omega
      · intro a ha b hb'
        rw [q2 a ha, q3 b hb']; omega
      · intro a ha b hb'
        rw [q1 a ha]
        rcases List.mem_append.1 hb' with hx | hx
        · rw [q2 b hx]; omega
        · rw [q3 b hx]; omega
    have hkk : 14 ≤ kAt (headL s) i ∧ kAt (headL s) i ≤ 16 := by
      obtain ⟨q1, q2, q3⟩ := saveL_k (s := s)
      cases i with
      | zero => omega
      | succ i =>
        have hi : i < (s.items.map recI ++ (s.dead.map recD ++ s.curs.map recC)).length := by
          unfold headL at hlen
          simp only [List.length_cons] at hlen
          omega
        have hx := List.getElem?_eq_getElem hi
        have : kAt (headL s) (i + 1) = ((s.items.map recI ++ (s.dead.map recD ++ s.curs.map recC))[i]).k := by
          unfold kAt headL
          rw [List.getElem?_cons_succ, hx]; rfl
        rw [this]
        rcases List.mem_append.1 (List.getElem_mem hi) with hx | hx
        · rw [q1 _ hx]; omega
        · rcases List.mem_append.1 hx with hx | hx
          · rw [q2 _ hx]; omega
          · rw [q3 _ hx]; omega
    have hi1 : i < (headL s).length := by omega
    refine ⟨by rw [hget i hi1]; exact hkk.1, by rw [hget i hi1]; exact hkk.2, ?_⟩
    rw [hget i hi1, hget (i - 1) (by omega)]
    have := List.pairwise_iff_getElem.1 hpw (i - 1) i (by omega) hi1 (by omega)
    unfold kAt
    rw [List.getElem?_eq_getElem hi1, List.getElem?_eq_getElem (by omega)]
    exact this
end Go.Proofs.Ytkifjfjhghogjaa
