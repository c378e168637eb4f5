/- Plain law: what holds of a list of the dead behind any acts; that it is made again of what it tells. No condition. -/
import Derived.Test.YthcbcolnahbihaaDeadMade
import Derived.Test.YthcbcolnahbihaaDeadOnce
namespace Go.Proofs.Ythcbcolnahbihaa
open Go.Den

theorem mem_putI {k : ByteArray} {v : Int} {p : ByteArray × Int} : ∀ {S : Seen}, p ∈ putI S k v → p = (k, v) ∨ p ∈ S
  | [], h => by simp [putI] at h; exact .inl h
  | (k', v') :: S, h => by
    simp only [putI] at h
    split at h
    · rcases List.mem_cons.1 h with h | h
      · exact .inl h
      · exact .inr (by simp [h])
    · rcases List.mem_cons.1 h with h | h
      · exact .inr (by simp [h])
      · exact (mem_putI h).imp_right fun h => by simp [h]
theorem atI_none {k : ByteArray} : ∀ {S : Seen}, atI S k = none ↔ k ∉ S.map (·.1)
  | [] => by simp [atI]
  | (k', v') :: S => by
    have ih := atI_none (k := k) (S := S)
    simp only [atI, List.map_cons, List.mem_cons, not_or]
    split
    · rename_i h; simp [h]
    · rename_i h; rw [ih]; simp [h]
theorem atI_iff {S : Seen} (hn : (S.map (·.1)).Nodup) (k : ByteArray) (v : Int) : atI S k = some v ↔ (k, v) ∈ S := by
  refine ⟨fun h => ?_, fun h => atI_mem hn (k, v) h⟩
  clear hn
  induction S with
  | nil => simp [atI] at h
  | cons p S ih =>
    obtain ⟨k', v'⟩ := p
    simp only [atI] at h
    split at h
    · rename_i e; subst e; simp at h; subst h; simp
    · simp [ih h]
theorem keys_putI (k : ByteArray) (v : Int) : ∀ S : Seen, (putI S k v).map (·.1) = if atI S k = none then S.map (·.1) ++ [k] else S.map (·.1)
  | [] => by simp [putI, atI]
  | (k', v') :: S => by
    have ih := keys_putI k v S
    by_cases h : k = k'
    · subst h; simp [putI, atI]
    · have ha : atI ((k', v') :: S) k = atI S k := by simp [atI, h]
      simp only [putI, if_neg h, List.map_cons, ih, ha]
      split <;> simp
theorem once_putI {S : Seen} (hn : (S.map (·.1)).Nodup) (k : ByteArray) (v : Int) : ((putI S k v).map (·.1)).Nodup := by
  rw [keys_putI]
  split
  · rename_i h
    rw [List.nodup_append]
    exact ⟨hn, by simp, fun a ha b hb e => by simp at hb; subst hb; subst e; exact atI_none.1 h ha⟩
  · exact hn
theorem len_putI {S : Seen} (k : ByteArray) (v : Int) : (putI S k v).length = if atI S k = none then S.length + 1 else S.length := by
  have h := congrArg List.length (keys_putI k v S)
  rw [List.length_map] at h
  rw [h]
  split <;> simp
theorem nodup_of_map {α β : Type} {f : α → β} {l : List α} (h : (l.map f).Nodup) : l.Nodup :=
  (List.pairwise_map.1 h).imp (fun h e => h (congrArg f e))
theorem seen_perm {S S' : Seen} (h : (S.map (·.1)).Nodup) (h' : (S'.map (·.1)).Nodup) (he : ∀ k, atI S k = atI S' k) : S.Perm S' := by
  have n : S.Nodup := nodup_of_map h
  have n' : S'.Nodup := nodup_of_map h'
  refine (List.perm_ext_iff_of_nodup n n').2 fun p => ?_
  obtain ⟨k, v⟩ := p
  rw [← atI_iff h, ← atI_iff h', he]
theorem perm_at {S S' : Seen} (h : (S.map (·.1)).Nodup) (hp : S.Perm S') (k : ByteArray) : atI S k = atI S' k := by
  have h' : (S'.map (·.1)).Nodup := (hp.map _).nodup_iff.1 h
  cases hs : atI S k with
  | some v => exact ((atI_iff h' k v).2 (hp.mem_iff.1 ((atI_iff h k v).1 hs))).symm
  | none =>
    cases hs' : atI S' k with
    | none => rfl
    | some v =>
      have := (atI_iff h k v).2 (hp.mem_iff.2 ((atI_iff h' k v).1 hs'))
      rw [hs] at this; cases this

structure InvS (s : St) (k : Nat) : Prop where
  len : s.rows.length ≤ k
  l0 : 0 ≤ s.last
  l1 : s.last ≤ k
  rise : s.rows.Pairwise (fun a b => a.2 < b.2)
  place : ∀ r ∈ s.rows, 1 ≤ r.2 ∧ r.2 ≤ s.last
  ids : (s.rows.map (·.1)).Nodup
  names : ∀ p ∈ s.seen, rightB p.1.data.toList = true ∧ txt (foldB p.1.data.toList) = p.1 ∧ p.2 ≤ s.last ∧ p.1.size ≤ 400
  few : s.seen.length ≤ 8
  once : (s.seen.map (·.1)).Nodup
theorem takeI_le {n l : Int} : ∀ (rs : List Row) (p : Int) (out : List Int), (∀ r ∈ rs, r.2 ≤ l) → p ≤ l → (takeI n rs p out).2 ≤ l
  | [], p, out, _, hp => hp
  | r :: rs, p, out, h, hp => by
    unfold takeI
    split
    · exact takeI_le rs _ _ (fun x hx => h x (by simp [hx])) (h r (by simp))
    · exact takeI_le rs _ _ (fun x hx => h x (by simp [hx])) hp
theorem key_ok {name : ByteArray} (hr : rightB (foldB name.data.toList) = true) (hs : name.size ≤ 100) : rightB (txt (foldB name.data.toList)).data.toList = true ∧ txt (foldB (txt (foldB name.data.toList)).data.toList) = txt (foldB name.data.toList) ∧ (txt (foldB name.data.toList)).size ≤ 400 := by
  rw [txt_list]
  refine ⟨hr, by rw [fold_fold], ?_⟩
  rw [txt_size]
  have := foldB_len name.data.toList
  rw [list_len] at this
  omega
theorem inv_start : InvS ⟨[], 0, []⟩ 0 := ⟨by simp, by simp, by simp, .nil, by simp, by simp, by simp, by simp, by simp⟩
theorem hasI_false {rows : List Row} {id : Int} (h : hasI rows id = false) : id ∉ rows.map (·.1) := by
  intro hm
  obtain ⟨r, hr, rfl⟩ := List.mem_map.1 hm
  unfold hasI at h
  rw [List.any_eq_false] at h
  exact h r hr (by simp)
theorem inv_do {s : St} {k : Nat} (h : InvS s k) {x : Act} (hx : x.2.2.1.size ≤ 100) : InvS (doS s x).1 (k + 1) := by
  have hk : InvS s (k + 1) := ⟨by have := h.len; omega, h.l0, by have := h.l1; omega, h.rise, h.place, h.ids, h.names, h.few, h.once⟩
  unfold doS
  by_cases e0 : x.1 = 0
  · rw [if_pos e0]
    unfold addR addL
    cases hh : hasI s.rows x.2.1 with
    | true => exact hk
    | false =>
      simp only [cond_false]
      refine ⟨by have := h.len; simp; omega, by have := h.l0; simp; omega, by have := h.l1; simp; omega, ?_, ?_, ?_, ?_, h.few, h.once⟩
      · rw [List.pairwise_append]
        refine ⟨h.rise, by simp, fun a ha b hb => ?_⟩
        simp at hb; subst hb
        have := (h.place a ha).2
        show a.2 < s.last + 1
        omega
      · intro r hr
        have := h.l0
        rcases List.mem_append.1 hr with hr | hr
        · have := h.place r hr
          show 1 ≤ r.2 ∧ r.2 ≤ s.last + 1
          omega
        · simp at hr; subst hr
          show 1 ≤ s.last + 1 ∧ s.last + 1 ≤ s.last + 1
          omega
      · rw [List.map_append, List.nodup_append]
        refine ⟨h.ids, by simp, fun a ha b hb e => ?_⟩
        simp at hb; subst hb; subst e
        exact hasI_false hh ha
      · intro p hp
        obtain ⟨a, b, c, d⟩ := h.names p hp
        exact ⟨a, b, by show p.2 ≤ s.last + 1; omega, d⟩
  rw [if_neg e0]
  by_cases e1 : x.1 = 1
  · rw [if_pos e1]
    have hsub : (dropR s.rows x.2.1).Sublist s.rows := List.eraseP_sublist
    refine ⟨?_, h.l0, by have := h.l1; simp; omega, h.rise.sublist hsub, fun r hr => h.place r (hsub.subset hr), h.ids.sublist (hsub.map _), h.names, h.few, h.once⟩
    have := hsub.length_le
    have := h.len
    show (dropR s.rows x.2.1).length ≤ k + 1
    omega
  rw [if_neg e1]
  by_cases e2 : x.1 = 2
  · rw [if_pos e2]
    unfold nextA
    dsimp only
    split
    · exact hk
    · rename_i hb
      simp only [not_or, Bool.not_eq_false] at hb
      split
      · exact hk
      · rename_i h8
        have hko := key_ok hb.2 hx
        refine ⟨hk.len, hk.l0, hk.l1, hk.rise, hk.place, hk.ids, fun p hp => ?_, ?_, once_putI h.once _ _⟩
        · rcases mem_putI hp with rfl | hp
          · refine ⟨hko.1, hko.2.1, takeI_le _ _ _ (fun r hr => (h.place r hr).2) ?_, hko.2.2⟩
            cases ha : atI s.seen (txt (foldB x.2.2.1.data.toList)) with
            | none => exact h.l0
            | some v => exact (h.names _ ((atI_iff h.once _ _).1 ha)).2.2.1
          · exact h.names p hp
        · show (putI s.seen _ _).length ≤ 8
          rw [len_putI]
          have := h.few
          split
          · rename_i hn
            have : ¬ 8 ≤ s.seen.length := fun h => h8 ⟨hn, h⟩
            omega
          · exact h.few
  · rw [if_neg e2]
    exact hk

/-! ## Made again -/
theorem fromR_ok {last : Int} : ∀ (rows acc : List Row) (l : Int), rows.Pairwise (fun a b => a.2 < b.2) → (∀ r ∈ rows, l < r.2 ∧ r.2 ≤ last) → (rows.map (·.1)).Nodup → (∀ r ∈ rows, hasI acc r.1 = false) → fromR last rows acc l = true
  | [], _, _, _, _, _, _ => rfl
  | r :: rows, acc, l, h1, h2, h3, h4 => by
    have hr := h2 r (by simp)
    simp only [fromR]
    rw [if_neg (by have := h4 r (by simp); simp [this]; omega)]
    refine fromR_ok rows _ _ (List.pairwise_cons.1 h1).2 (fun x hx => ⟨(List.pairwise_cons.1 h1).1 x hx, (h2 x (by simp [hx])).2⟩) (by simp only [List.map_cons, List.nodup_cons] at h3; exact h3.2) fun x hx => ?_
    simp only [List.map_cons, List.nodup_cons] at h3
    have := h4 x (by simp [hx])
    unfold hasI at this ⊢
    rw [List.any_append, this]
    have hne : r.1 ≠ x.1 := fun e => h3.1 (e ▸ List.mem_map.2 ⟨x, hx, rfl⟩)
    simp [hne]
theorem fromC_some {last : Int} : ∀ (cs : Seen) (i : Nat) (a : ByteArray) (S : Seen), i + cs.length ≤ 8 → (∀ c ∈ cs, rightB c.1.data.toList = true ∧ txt (foldB c.1.data.toList) = c.1 ∧ c.2 ≤ last ∧ lessZ (rz a) (rz c.1) = true) →
    cs.Pairwise (fun x y => lessZ (rz x.1) (rz y.1) = true) → ∃ T, fromC last cs i a S = some T
  | [], i, a, S, _, _, _ => ⟨S, rfl⟩
  | c :: cs, i, a, S, hl, h, hp => by
    obtain ⟨h1, h2, h3, h4⟩ := h c (by simp)
    simp only [fromC]
    rw [if_neg (by
      unfold badC
      simp only [not_or]
      simp at hl
      exact ⟨by omega, by simp [h1], fun hh => hh h2, by simp [h4], by omega⟩)]
    refine fromC_some cs (i + 1) _ _ (by simp at hl ⊢; omega) (fun x hx => ?_) (List.pairwise_cons.1 hp).2
    obtain ⟨x1, x2, x3, _⟩ := h x (by simp [hx])
    exact ⟨x1, x2, x3, (List.pairwise_cons.1 hp).1 x hx⟩
theorem rise_strict : ∀ {cs : Seen}, Rise cs → (∀ p ∈ cs, rightB p.1.data.toList = true) → (cs.map (·.1)).Nodup → cs.Pairwise (fun x y => lessZ (rz x.1) (rz y.1) = true)
  | [], _, _, _ => .nil
  | c :: cs, h, hr, hn => by
    simp only [List.map_cons, List.nodup_cons] at hn
    refine .cons (fun y hy => ?_) (rise_strict (List.pairwise_cons.1 h).2 (fun p hp => hr p (by simp [hp])) hn.2)
    have hle := (List.pairwise_cons.1 h).1 y hy
    have hne : c.1 ≠ y.1 := fun e => hn.1 (e ▸ List.mem_map.2 ⟨y, hy, rfl⟩)
    cases hl : lessZ (rz c.1) (rz y.1) with
    | true => rfl
    | false => exact absurd (le_anti (hr c (by simp)) (hr y (by simp [hy])) hle hl) hne
theorem from_inv {s : St} {k : Nat} (h : InvS s k) {cs : Seen} (hp : cs.Perm s.seen) (hr : Rise cs) : fromI s.last s.rows cs = some cs := by
  have hn : (cs.map (·.1)).Nodup := (hp.map _).nodup_iff.2 h.once
  have hnm : ∀ p ∈ cs, rightB p.1.data.toList = true ∧ txt (foldB p.1.data.toList) = p.1 ∧ p.2 ≤ s.last := fun p hpm => by
    obtain ⟨a, b, c, _⟩ := h.names p (hp.mem_iff.1 hpm)
    exact ⟨a, b, c⟩
  have h1 := fromR_ok (last := s.last) s.rows [] 0 h.rise (fun r hr => by have := h.place r hr; omega) h.ids (fun r _ => rfl)
  obtain ⟨T, h2⟩ := fromC_some (last := s.last) cs 0 ⟨#[]⟩ [] (by have := hp.length_eq; have := h.few; omega) (fun c hc => ⟨(hnm c hc).1, (hnm c hc).2.1, (hnm c hc).2.2, less_empty (hnm c hc).1⟩) (rise_strict hr (fun p hp => (hnm p hp).1) hn)
  have h3 : fromI s.last s.rows cs = some T := by unfold fromI; rw [if_pos h1]; exact h2
  rw [h3, fromI_same h3]

/-! ## The same acts on lists of like places -/
structure Like (s t : St) : Prop where
  rows : s.rows = t.rows
  last : s.last = t.last
  seen : ∀ k, atI s.seen k = atI t.seen k
  len : s.seen.length = t.seen.length
theorem like_do {s t : St} (h : Like s t) (x : Act) : Like (doS s x).1 (doS t x).1 ∧ (doS s x).2 = (doS t x).2 := by
  obtain ⟨rows, last, seen⟩ := s
  obtain ⟨rows', last', seen'⟩ := t
  obtain ⟨rfl, rfl, h3, h4⟩ := h
  dsimp only at h3 h4
  unfold doS
  dsimp only
  split
  · exact ⟨⟨rfl, rfl, h3, h4⟩, rfl⟩
  split
  · exact ⟨⟨rfl, rfl, h3, h4⟩, rfl⟩
  split
  · unfold nextA
    dsimp only
    rw [← h3, ← h4]
    split
    · exact ⟨⟨rfl, rfl, h3, h4⟩, rfl⟩
    split
    · exact ⟨⟨rfl, rfl, h3, h4⟩, rfl⟩
    · refine ⟨⟨rfl, rfl, fun k => ?_, ?_⟩, rfl⟩
      · show atI (putI seen _ _) k = atI (putI seen' _ _) k
        rw [atI_put, atI_put]
        simp only [h3]
      · show (putI seen _ _).length = (putI seen' _ _).length
        rw [len_putI, len_putI, ← h3, h4]
  · exact ⟨⟨rfl, rfl, h3, h4⟩, rfl⟩
end Go.Proofs.Ythcbcolnahbihaa
