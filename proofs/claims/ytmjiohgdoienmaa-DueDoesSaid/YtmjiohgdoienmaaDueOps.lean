/- due.Heap's methods, as operations on a sorted list of entries. No condition. -/
import Derived.Test.YtmjiohgdoienmaaDueSift
import Derived.Test.YtmjiohgdoienmaaM7
import Derived.Test.YtmjiohgdoienmaaM8
import Derived.Test.YtmjiohgdoienmaaM9
import Derived.Test.YtmjiohgdoienmaaM10
import Derived.Test.YtmjiohgdoienmaaM11
import Derived.Test.YtmjiohgdoienmaaM12
import Derived.Test.YtmjiohgdoienmaaM13
import Derived.Test.YtmjiohgdoienmaaM19
namespace Go.Proofs.Ytmjiohgdoienmaa
open Go.Den

theorem Sync.find {l : List E} {L : List (Int × Value)} (h : Sync l L) (id : Int) : (lk L id = none ∧ id ∉ l.map (·.2)) ∨ ∃ i, i < l.length ∧ (get l i).2 = id ∧ lk L id = some (.int .i64 i) := by
  cases hl : lk L id with
  | none =>
    refine .inl ⟨rfl, fun hm => ?_⟩
    obtain ⟨x, hx, rfl⟩ := List.mem_map.1 hm
    obtain ⟨i, hi, rfl⟩ := List.getElem_of_mem hx
    have := h.stand i hi
    simp only [get, List.getD_eq_getElem?_getD, List.getElem?_eq_getElem hi, Option.getD_some] at this
    rw [hl] at this; cases this
  | some v =>
    obtain ⟨i, hi, rfl⟩ := h.only id v hl
    exact .inr ⟨i, hi, rfl, by rw [← hl]; exact h.stand i hi⟩
theorem get_mem {l : List E} {i : Nat} (h : i < l.length) : get l i ∈ l := by
  simp [get, List.getD_eq_getElem?_getD, h]

/-! ## in terms of the entries as they stand -/
def DueH (w : World) (hb : Nat) (l : List E) (F : List Nat) : Prop := DueI w hb l F ∧ IsHeap l
theorem DueH.fr {w w' : World} {hb : Nat} {l : List E} {F G : List Nat} (h : DueH w hb l F) (hf : Fr G w w') (hd : ∀ b ∈ F, b ∉ G) : DueH w' hb l F := ⟨h.1.fr hf hd, h.2⟩
theorem DueI.ltF {w : World} {hb : Nat} {l : List E} {F : List Nat} (h : DueI w hb l F) : ∀ b ∈ F, b < hsz w := by obtain ⟨L, h1, _⟩ := h; exact h1.lt

theorem due_NewH {w : World} {R : Value → World → Prop} (hR : ∀ w' hb F, DueH w' hb [] F → Fr [] w w' → (∀ b ∈ F, hsz w ≤ b) → R (.pointer (some ⟨hb, 0, none⟩)) w') : CALL PR F_due_New [] w R := by
  refine C_due_New ?_
  unfold M_due_New
  refine NEWMAP_intro fun w1 b1 f1 z1 => ?_
  refine BND_step (v := .agg #[.slice none 0 0, .nilFunc, .map (some (hsz w))]) rfl ?_
  refine NEW_intro fun w2 b2 f2 z2 => ?_
  have b1' := f2.some (by simp) b1
  refine BND_step (nilchk_ptr _) <| BND_step (faddr_ptr _ _ _) <| BND_step (faddr_ptr _ _ _) <| BND_step (storev1_blk b2 (by simp) rfl rfl) ?_
  refine hR _ (hsz w1) [hsz w1, hsz w] ⟨⟨[], ⟨.slice none 0 0, hsz w, #[], 0, _, [], blk_setB_same b2, ?_, ⟨rfl, by simp⟩, .inl ⟨rfl, rfl, rfl⟩, rfl, by simp; omega⟩, ⟨by simp, fun i hi => by simp at hi, fun k v h => by simp [lk_nil] at h⟩⟩, fun j _ hj => by simp at hj⟩
    ((f1.trans' f2).trans (Fr.setB (F := [hsz w1]) (.inl (by simp)) _) (by simp; omega)) (by simp; omega)
  rw [blk_setB_other (by omega)]; exact b1'

theorem UpInv.app {l : List E} (h : IsHeap l) (e : E) : UpInv (l ++ [e]) l.length := by
  have hg : ∀ j, j < l.length → get (l ++ [e]) j = get l j := fun j hj => by
    simp only [get, List.getD_eq_getElem?_getD, List.getElem?_append_left hj]
  refine ⟨fun j j0 j1 j2 _ => ?_, fun _ j j0 j1 j2 => ?_⟩
  · simp at j1
    have : par j < j := by unfold par; omega
    rw [hg _ (by omega), hg _ (by omega)]
    exact h j j0 (by omega)
  · simp at j1; unfold par at j2; omega
theorem Sync.app {l : List E} {L : List (Int × Value)} (h : Sync l L) {e : E} (hn : e.2 ∉ l.map (·.2)) : Sync (l ++ [e]) (insL L e.2 (.int .i64 l.length)) := by
  have hg : ∀ j, j < l.length → get (l ++ [e]) j = get l j := fun j hj => by
    simp only [get, List.getD_eq_getElem?_getD, List.getElem?_append_left hj]
  have hl : get (l ++ [e]) l.length = e := by simp [get, List.getD_eq_getElem?_getD]
  refine ⟨?_, fun i hi => ?_, fun k v hk => ?_⟩
  · rw [List.map_append, List.nodup_append]
    exact ⟨h.ids, by simp, fun a ha b hb => by simp at hb; subst hb; exact fun e' => hn (e' ▸ ha)⟩
  · simp at hi
    rw [lk_ins]
    by_cases e' : i = l.length
    · subst e'; rw [hl]; simp
    · have hi' : i < l.length := by omega
      rw [hg i hi', if_neg, h.stand i hi']
      intro e2
      exact hn (e2 ▸ List.mem_map.2 ⟨_, get_mem hi', rfl⟩)
  · rw [lk_ins] at hk
    by_cases e' : k = e.2
    · exact ⟨l.length, by simp, by rw [hl, e']⟩
    · rw [if_neg e'] at hk
      obtain ⟨i, hi, rfl⟩ := h.only k v hk
      exact ⟨i, by simp; omega, by rw [hg i hi]⟩

theorem due_PutH {w : World} {hb : Nat} {l : List E} {F : List Nat} (h : DueH w hb l F) (hn : l.length < 1000000000) (id t : Int) {R : Value → World → Prop}
    (hno : id ∈ l.map (·.2) → R (.bool false) w)
    (hyes : id ∉ l.map (·.2) → ∀ w' l' F', DueH w' hb l' F' → l'.Perm ((t, id) :: l) → Fr F w w' → (∀ b ∈ F', b ∈ F ∨ hsz w ≤ b) → R (.bool true) w') :
    CALL PR F_due_Heap_Put [.pointer (some ⟨hb, 0, none⟩), .int .u64 id, .int .u64 t] w R := by
  obtain ⟨⟨L, ⟨sv, mb, es, ck, T, Fa, h1, h2, h3, h4, rfl, h5⟩, hS⟩, hH⟩ := h
  have hlt : ∀ b ∈ hb :: mb :: Fa, b < hsz w := DueR.lt (L := L) ⟨sv, mb, es, ck, T, Fa, h1, h2, h3, h4, rfl, h5⟩
  refine C_due_Heap_Put ?_
  unfold M_due_Heap_Put
  refine BND_step (nilchk_ptr _) <| BND_step (faddr_ptr _ _ _) <| BND_step (load1_blk h1) <| BND_step (lookv_L (keyInt .u64) h2 h3 _ id) ?_
  rcases hS.find id with ⟨hl, hni⟩ | ⟨i, hi, hid, hl⟩
  · refine BND_step (by rw [hl]; rfl) <| BND_step (by rw [hl]; rfl) <| (COND_false _ _).2 ?_
    refine BND_step (nilchk_ptr _) <| BND_step (faddr_ptr _ _ _) <| BND_step (faddr_ptr _ _ _) <| BND_step (load1_blk h1) <| BND_step (v := .agg (encE (t, id)).toArray) rfl ?_
    refine BND_step (v := (.slice (some ⟨hsz w, 0, none⟩) 1 1, w.alloc (.cells (encE (t, id)).toArray 53))) (newslice_one _ _ _ _ rfl _) <| (NEW_pair _ _ _).2 ?_
    have fa : Fr [] w (w.alloc (.cells (encE (t, id)).toArray 53)) := Fr.alloc _ _ _
    have ba := blk_alloc_new w (.cells (encE (t, id)).toArray 53)
    generalize w.alloc (.cells (encE (t, id)).toArray 53) = w1 at fa ba
    have hu : cellsOfArg w1 2 (.slice (some ⟨hsz w, 0, none⟩) 1 1) = some (flat encE [(t, id)], [(t, id)].length) := by
      simp [cellsOfArg, loads_blk (o := 0) ba 2 0 (by simp [encE]), flat, encE]
    have h4' := h4.fr fa (by simp)
    refine APPEND_slc h4' hu encE_len encE_one rfl (by simp; omega) (by simp; omega) fun sv' w2 Fa' s2 f2 sub2 => ?_
    have hFa : ∀ b ∈ Fa, b ≠ hb ∧ b ≠ mb := fun b hb' => ⟨fun e => by subst e; simp [hb'] at h5, fun e => by subst e; simp [hb'] at h5⟩
    have hhb : hb ∉ Fa := fun hb' => (hFa _ hb').1 rfl
    have hmb : mb ∉ Fa := fun hb' => (hFa _ hb').2 rfl
    have hne : hb ≠ mb := fun e => by simp [e] at h5
    have g1 := f2.some hhb (fa.some (by simp) h1)
    have g2 := f2.some hmb (fa.some (by simp) h2)
    refine BND_step (nilchk_ptr _) <| BND_step (faddr_ptr _ _ _) <| BND_step (faddr_ptr _ _ _) <| BND_step (storev1_blk g1 (by simp) s2.one.1 s2.one.2) ?_
    have b3 := blk_setB_same (o := .cells (#[sv, .func (.func F_due_Heap_stands) #[.pointer (some ⟨hb, 0, none⟩)] #[], .map (some mb)].setIfInBounds (0 + 0 + 0) sv') T (0, 0)) g1
    have f3 : Fr [hb] w2 (setB w2 hb (.cells (#[sv, .func (.func F_due_Heap_stands) #[.pointer (some ⟨hb, 0, none⟩)] #[], .map (some mb)].setIfInBounds (0 + 0 + 0) sv') T (0, 0))) := Fr.setB (.inl (by simp)) _
    generalize setB w2 hb (.cells (#[sv, .func (.func F_due_Heap_stands) #[.pointer (some ⟨hb, 0, none⟩)] #[], .map (some mb)].setIfInBounds (0 + 0 + 0) sv') T (0, 0)) = w3 at b3 f3
    have b3' : blk w3.drew hb = some (.cells #[sv', .func (.func F_due_Heap_stands) #[.pointer (some ⟨hb, 0, none⟩)] #[], .map (some mb)] T (0, 0)) := b3
    have hlt2 : ∀ b ∈ Fa', b < hsz w2 := s2.lt
    have hF2 : ∀ b ∈ Fa', b ≠ hb ∧ b ≠ mb := fun b hb' => by
      rcases sub2 b hb' with h | h
      · exact hFa b h
      · have := hlt hb (by simp); have := hlt mb (by simp); have := fa.grow; omega
    have s3' : Slc encE 2 w3 sv' (l ++ [(t, id)]) Fa' := s2.fr f3 (fun b hb' => by simpa using (hF2 b hb').1)
    have s3 : Slc encE 2 w3.drew sv' (l ++ [(t, id)]) Fa' := s3'
    have g3' := f3.some (b := mb) (by simpa using hne.symm) g2
    have g3 : blk w3.drew mb = some (.map es ck) := g3'
    have hwr : IntKind.i64.wrap (((l ++ [(t, id)]).length : Int) - 1) = (l.length : Int) := by
      have hlen : (l ++ [(t, id)]).length = l.length + 1 := by simp
      rw [hlen, wrap_i64 (by omega) (by omega)]; omega
    obtain ⟨es', ck', hm, h3'⟩ := mupd_L (keyInt .u64) g3 h3 id (.int .i64 (l.length : Int))
    refine BND_step (nilchk_ptr _) <| BND_step (faddr_ptr _ _ _) <| BND_step (nilchk_ptr _) <| BND_step (faddr_ptr _ _ _) <| BND_step (faddr_ptr _ _ _) <| BND_step (load1_blk b3') <|
      BND_step (load1_blk b3') <| BND_step s3.len <| BND_step (by rw [binv_sub, hwr]) <| BND_step hm ?_
    have f4 : Fr [mb] w3.drew (setB w3.drew mb (.map es' ck')) := Fr.setB (.inl (by simp)) _
    have b4 := blk_setB_same (o := .map es' ck') g3
    generalize setB w3.drew mb (.map es' ck') = w4 at f4 b4
    have s4 : Slc encE 2 w4 sv' (l ++ [(t, id)]) Fa' := s3.fr f4 (fun b hb' => by simpa using (hF2 b hb').2)
    have g4 := f4.some (by simpa using hne) b3'
    have hnd : (hb :: mb :: Fa').Nodup := by
      have : Fa'.Nodup := by
        rcases s2 with ⟨_, _, rfl⟩ | ⟨b, _, _, _, _, _, _, _, rfl, _⟩ <;> simp
      simp only [List.nodup_cons, List.mem_cons, not_or]
      exact ⟨⟨hne, fun h => (hF2 _ h).1 rfl⟩, fun h => (hF2 _ h).2 rfl, this⟩
    have D4 : DueI w4 hb (l ++ [(t, id)]) (hb :: mb :: Fa') := ⟨_, ⟨sv', mb, es', ck', T, Fa', g4, b4, h3', s4, rfl, hnd⟩, hS.app hni⟩
    refine BND_step (nilchk_ptr _) <| BND_step (faddr_ptr _ _ _) <| BND_step (faddr_ptr _ _ _) <| BND_step (load1_blk g4) <| BND_step s4.len <| BND_step (by rw [binv_sub, hwr]) ?_
    refine due_settle D4 (by simp) (by simp; omega) (UpInv.app hH _) fun w5 l5 D5 f5 p5 hh5 => ?_
    have sub : ∀ b ∈ hb :: mb :: Fa', b ∈ hb :: mb :: Fa ∨ hsz w ≤ b := fun b hb' => by
      simp only [List.mem_cons] at hb' ⊢
      rcases hb' with rfl | rfl | hb'
      · exact .inl (.inl rfl)
      · exact .inl (.inr (.inl rfl))
      · rcases sub2 b hb' with h | h
        · exact .inl (.inr (.inr h))
        · exact .inr (by have := fa.grow; omega)
    refine hyes hni w5 l5 _ ⟨D5, hh5⟩ (p5.trans (List.perm_append_comm (l₂ := [(t, id)]))) ?_ sub
    have e1 : Fr (hb :: mb :: Fa) w w2 := (Fr.nil fa).trans' (f2.wider (by intro b hb'; simp [hb']))
    have e2 := (e1.trans' (f3.wider (by simp))).trans' ((Fr.drew _ _).trans' (f4.wider (by simp)))
    exact e2.trans f5 sub
  · refine BND_step (by rw [hl]; rfl) <| BND_step (by rw [hl]; rfl) <| (COND_true _ _).2 ?_
    exact hno (hid ▸ List.mem_map.2 ⟨_, get_mem hi, rfl⟩)

theorem UpInv.at {l l2 : List E} {i : Nat} (h : IsHeap l) (hl : l2.length ≤ l.length) (hi : i < l.length) (hg : ∀ j, j < l2.length → j ≠ i → get l2 j = get l j) : UpInv l2 i := by
  refine ⟨fun j j0 j1 j2 j3 => ?_, fun i0 j j0 j1 j2 => ?_⟩
  · have : par j < j := by unfold par; omega
    rw [hg _ (by omega) j3, hg _ j1 j2]
    exact h j j0 (by omega)
  · have h1 : par i < i := by unfold par; omega
    have h2 : i < j := by unfold par at j2; omega
    rw [hg _ (by omega) (by omega), hg _ j1 (by omega)]
    have := h j j0 (by omega)
    rw [j2] at this
    exact leE_trans (h i i0 hi) this

theorem erase_perm {α : Type} {l : List α} {i : Nat} (hi : i < l.length) : (l[i] :: l.eraseIdx i).Perm l := by
  rw [List.eraseIdx_eq_take_drop_succ]
  refine List.perm_middle.symm.trans ?_
  rw [← List.drop_eq_getElem_cons hi, List.take_append_drop]
theorem take_swap {l : List E} {i : Nat} (hi : i < l.length) : ((swapL l i (l.length - 1)).take (l.length - 1)).Perm (l.eraseIdx i) ∧ ((swapL l i (l.length - 1)).take (l.length - 1)).length = l.length - 1 ∧
    (∀ j, j < l.length - 1 → j ≠ i → get ((swapL l i (l.length - 1)).take (l.length - 1)) j = get l j) := by
  have hlast : l.length - 1 < l.length := by omega
  have hlen : ((swapL l i (l.length - 1)).take (l.length - 1)).length = l.length - 1 := by simp
  refine ⟨?_, hlen, fun j hj hji => ?_⟩
  · have hp := swap_perm l hi hlast
    have hsplit : swapL l i (l.length - 1) = (swapL l i (l.length - 1)).take (l.length - 1) ++ [get l i] := by
      apply List.ext_getElem?
      intro n
      by_cases hn : n < l.length - 1
      · rw [List.getElem?_append_left (by omega), List.getElem?_take, if_pos hn]
      · rw [List.getElem?_append_right (by omega), hlen]
        by_cases he : n = l.length - 1
        · subst he
          have h1 := get_swap l hi hlast (l.length - 1)
          rw [if_pos rfl] at h1
          have h2 : l.length - 1 < (swapL l i (l.length - 1)).length := by simp; omega
          simp only [get, List.getD_eq_getElem?_getD, List.getElem?_eq_getElem h2, Option.getD_some] at h1
          rw [List.getElem?_eq_getElem h2, h1]
          simp
        · rw [List.getElem?_eq_none (by simp; omega), List.getElem?_eq_none (by simp; omega)]
    have hp2 : ((swapL l i (l.length - 1)).take (l.length - 1) ++ [get l i]).Perm (get l i :: l.eraseIdx i) := by
      rw [← hsplit]
      refine hp.trans ?_
      have : get l i = l[i] := by simp [get, List.getD_eq_getElem?_getD, hi]
      rw [this]
      exact (erase_perm hi).symm
    have hp3 : (get l i :: (swapL l i (l.length - 1)).take (l.length - 1)).Perm (get l i :: l.eraseIdx i) := (List.perm_append_comm (l₁ := [get l i])).trans hp2
    exact (List.perm_cons _).1 hp3
  · have h1 := get_swap l hi hlast j
    rw [if_neg (by omega), if_neg hji] at h1
    rw [← h1]
    simp only [get, List.getD_eq_getElem?_getD, List.getElem?_take, if_pos hj]

theorem due_DropH {w : World} {hb : Nat} {l : List E} {F : List Nat} (h : DueH w hb l F) (hn : l.length < 1000000000) (id : Int) {R : Value → World → Prop}
    (hno : id ∉ l.map (·.2) → R (.bool false) w)
    (hyes : ∀ i, i < l.length → (get l i).2 = id → ∀ w' l', DueH w' hb l' F → l'.Perm (l.eraseIdx i) → Fr F w w' → R (.bool true) w') :
    CALL PR F_due_Heap_Drop [.pointer (some ⟨hb, 0, none⟩), .int .u64 id] w R := by
  obtain ⟨⟨L, hD, hS⟩, hH⟩ := h
  obtain ⟨sv, mb, es, ck, T, Fa, h1, h2, h3, h4, rfl, h5⟩ := hD
  have hD : DueR w hb l L (hb :: mb :: Fa) := ⟨sv, mb, es, ck, T, Fa, h1, h2, h3, h4, rfl, h5⟩
  refine C_due_Heap_Drop ?_
  unfold M_due_Heap_Drop
  refine BND_step (nilchk_ptr _) <| BND_step (faddr_ptr _ _ _) <| BND_step (load1_blk h1) <| BND_step (lookv_L (keyInt .u64) h2 h3 _ id) ?_
  rcases hS.find id with ⟨hl, hni⟩ | ⟨i, hi, hid, hl⟩
  · refine BND_step (v := .int .i64 0) (by rw [hl]; rfl) <| BND_step (v := .bool false) (by rw [hl]; rfl) <| BND_step (unv_not _) <| (COND_true _ _).2 ?_
    exact hno hni
  · have hlast : l.length - 1 < l.length := by omega
    have hwr : IntKind.i64.wrap ((l.length : Int) - 1) = ((l.length - 1 : Nat) : Int) := by rw [wrap_i64 (by omega) (by omega)]; omega
    refine BND_step (v := .int .i64 i) (by rw [hl]; rfl) <| BND_step (v := .bool true) (by rw [hl]; rfl) <| BND_step (unv_not _) <| (COND_false _ _).2 ?_
    refine BND_step (nilchk_ptr _) <| BND_step (faddr_ptr _ _ _) <| BND_step (faddr_ptr _ _ _) <| BND_step (load1_blk h1) <| BND_step h4.len <| BND_step (by rw [binv_sub, hwr]) <|
      BND_step (nilchk_ptr _) <| BND_step (faddr_ptr _ _ _) ?_
    refine due_swap hD hi hlast fun w1 D1 f1 => ?_
    have hS1 := hS.swap hi hlast
    generalize hL1 : insL (insL L ((swapL l i (l.length - 1)).getD i (0, 0)).2 (.int .i64 i)) ((swapL l i (l.length - 1)).getD (l.length - 1) (0, 0)).2 (.int .i64 (l.length - 1 : Nat)) = L1 at D1 hS1
    obtain ⟨sv1, mb1, es1, ck1, T1, Fa1, g1, g2, g3, g4, g5, g6⟩ := D1
    have g5' : mb = mb1 ∧ Fa = Fa1 := by simpa using g5
    obtain ⟨rfl, rfl⟩ := g5'
    obtain ⟨hperm, hlen2, hget⟩ := take_swap hi
    obtain ⟨sv2, hs2, s2⟩ := g4.take (n := l.length - 1) (by simp) (by simp; omega) .i64
    refine BND_step (nilchk_ptr _) <| BND_step (faddr_ptr _ _ _) <| BND_step (faddr_ptr _ _ _) <| BND_step (load1_blk g1) <| BND_step hs2 <| BND_step (nilchk_ptr _) <| BND_step (faddr_ptr _ _ _) <|
      BND_step (faddr_ptr _ _ _) <| BND_step (storev1_blk g1 (by simp) s2.one.1 s2.one.2) ?_
    have b2 := blk_setB_same (o := .cells (#[sv1, .func (.func F_due_Heap_stands) #[.pointer (some ⟨hb, 0, none⟩)] #[], .map (some mb)].setIfInBounds (0 + 0 + 0) sv2) T1 (0, 0)) g1
    have f2 : Fr [hb] w1 (setB w1 hb (.cells (#[sv1, .func (.func F_due_Heap_stands) #[.pointer (some ⟨hb, 0, none⟩)] #[], .map (some mb)].setIfInBounds (0 + 0 + 0) sv2) T1 (0, 0))) := Fr.setB (.inl (by simp)) _
    generalize setB w1 hb (.cells (#[sv1, .func (.func F_due_Heap_stands) #[.pointer (some ⟨hb, 0, none⟩)] #[], .map (some mb)].setIfInBounds (0 + 0 + 0) sv2) T1 (0, 0)) = w2 at b2 f2
    have b2' : blk w2 hb = some (.cells #[sv2, .func (.func F_due_Heap_stands) #[.pointer (some ⟨hb, 0, none⟩)] #[], .map (some mb)] T1 (0, 0)) := b2
    have hne : hb ≠ mb := fun e => by simp [e] at h5
    have hFa : ∀ b ∈ Fa, b ≠ hb ∧ b ≠ mb := fun b hb' => ⟨fun e => by subst e; simp [hb'] at h5, fun e => by subst e; simp [hb'] at h5⟩
    have m2 := f2.some (b := mb) (by simpa using hne.symm) g2
    have s2' := s2.fr f2 (fun b hb' => by simpa using (hFa b hb').1)
    obtain ⟨es3, ck3, hm, g3'⟩ := mdel_L (keyInt .u64) m2 g3 id
    refine BND_step (nilchk_ptr _) <| BND_step (faddr_ptr _ _ _) <| BND_step (load1_blk b2') <| BND_step hm ?_
    have f3 : Fr [mb] w2 (setB w2 mb (.map es3 ck3)) := Fr.setB (.inl (by simp)) _
    have b3 := blk_setB_same (o := .map es3 ck3) m2
    generalize setB w2 mb (.map es3 ck3) = w3 at f3 b3
    have b3' := f3.some (by simpa using hne) b2'
    have s3 := s2'.fr f3 (fun b hb' => by simpa using (hFa b hb').2)
    -- the map, behind the delete
    have hgi : get (swapL l i (l.length - 1)) (l.length - 1) = get l i := by rw [get_swap l hi hlast, if_pos rfl]
    have hS3 : Sync ((swapL l i (l.length - 1)).take (l.length - 1)) (delL L1 id) := by
      have hget2 : ∀ j, j < l.length - 1 → get ((swapL l i (l.length - 1)).take (l.length - 1)) j = get (swapL l i (l.length - 1)) j := fun j hj => by
        simp only [get, List.getD_eq_getElem?_getD, List.getElem?_take, if_pos hj]
      refine ⟨?_, fun j hj => ?_, fun k v hk => ?_⟩
      · exact hS1.ids.sublist ((List.take_sublist _ _).map _)
      · rw [hlen2] at hj
        have hne2 : (get (swapL l i (l.length - 1)) j).2 ≠ id := fun e => by
          rw [← hid, ← hgi] at e
          have := ids_inj hS1.ids (by simp; omega) (by simp; omega) e
          omega
        rw [hget2 j hj, lk_del g3.once, if_neg hne2]
        exact hS1.stand j (by simp; omega)
      · rw [lk_del g3.once] at hk
        by_cases e : k = id
        · rw [if_pos e] at hk; cases hk
        · rw [if_neg e] at hk
          obtain ⟨j, hj, rfl⟩ := hS1.only k v hk
          have hj' : j ≠ l.length - 1 := fun e' => by subst e'; rw [hgi, hid] at e; exact e rfl
          have hj2 : j < l.length - 1 := by simp at hj; omega
          exact ⟨j, by rw [hlen2]; exact hj2, by rw [hget2 j hj2]⟩
    have D3 : DueI w3 hb ((swapL l i (l.length - 1)).take (l.length - 1)) (hb :: mb :: Fa) := ⟨_, ⟨sv2, mb, es3, ck3, T1, Fa, b3', b3, g3', s3, rfl, h5⟩, hS3⟩
    have fr : Fr (hb :: mb :: Fa) w w3 := (f1.trans' (f2.wider (by simp))).trans' (f3.wider (by simp))
    refine BND_step (binv_lss _ _ _ _) ?_
    unfold JOIN
    by_cases hil : i < l.length - 1
    · have hd : decide ((i : Int) < ((l.length - 1 : Nat) : Int)) = true := by simp only [decide_eq_true_eq]; omega
      refine (show COND (.bool (decide ((i : Int) < ((l.length - 1 : Nat) : Int)))) _ _ from ?_)
      rw [hd]
      refine (COND_true _ _).2 ?_
      refine due_settle D3 (by rw [hlen2]; exact hil) (by rw [hlen2]; omega) (UpInv.at hH (by rw [hlen2]; omega) hi fun j hj hji => hget j (by rwa [hlen2] at hj) hji) fun w4 l4 D4 f4 p4 hh4 => ?_
      exact hyes i hi hid w4 l4 ⟨D4, hh4⟩ (p4.trans hperm) (fr.trans' f4)
    · have hd : decide ((i : Int) < ((l.length - 1 : Nat) : Int)) = false := by simp only [decide_eq_false_iff_not]; omega
      refine (show COND (.bool (decide ((i : Int) < ((l.length - 1 : Nat) : Int)))) _ _ from ?_)
      rw [hd]
      refine (COND_false _ _).2 ?_
      refine hyes i hi hid w3 _ ⟨D3, fun j j0 j1 => ?_⟩ hperm fr
      rw [hlen2] at j1
      have : par j < j := by unfold par; omega
      rw [hget j j1 (by omega), hget (par j) (by omega) (by omega)]
      exact hH j j0 (by omega)

theorem due_MoveH {w : World} {hb : Nat} {l : List E} {F : List Nat} (h : DueH w hb l F) (hn : l.length < 1000000000) (id t : Int) {R : Value → World → Prop}
    (hno : id ∉ l.map (·.2) → R (.bool false) w)
    (hyes : ∀ i, i < l.length → (get l i).2 = id → ∀ w' l', DueH w' hb l' F → l'.Perm ((t, id) :: l.eraseIdx i) → Fr F w w' → R (.bool true) w') :
    CALL PR F_due_Heap_Move [.pointer (some ⟨hb, 0, none⟩), .int .u64 id, .int .u64 t] w R := by
  obtain ⟨⟨L, hD, hS⟩, hH⟩ := h
  obtain ⟨sv, mb, es, ck, T, Fa, h1, h2, h3, h4, rfl, h5⟩ := hD
  refine C_due_Heap_Move ?_
  unfold M_due_Heap_Move
  refine BND_step (nilchk_ptr _) <| BND_step (faddr_ptr _ _ _) <| BND_step (load1_blk h1) <| BND_step (lookv_L (keyInt .u64) h2 h3 _ id) ?_
  rcases hS.find id with ⟨hl, hni⟩ | ⟨i, hi, hid, hl⟩
  · refine BND_step (v := .int .i64 0) (by rw [hl]; rfl) <| BND_step (v := .bool false) (by rw [hl]; rfl) ?_
    unfold JOIN
    exact (COND_false _ _).2 (hno hni)
  · refine BND_step (v := .int .i64 i) (by rw [hl]; rfl) <| BND_step (v := .bool true) (by rw [hl]; rfl) ?_
    unfold JOIN
    refine (COND_true _ _).2 ?_
    obtain ⟨ab, rfl, ei⟩ := h4.iaddr hi .i64
    have hgi : get l i = l[i] := by simp [get, List.getD_eq_getElem?_getD, hi]
    obtain ⟨w1, hs1, s1, z1, o1⟩ := h4.set1 (i := i) (j := 0) (x := l[i]) (y := (t, id)) (u := .int .u64 t) (List.getElem?_eq_getElem hi) (by omega)
      (fun m hm => by rw [← hid, hgi]; have : m = 0 ∨ m = 1 := (by omega); rcases this with rfl | rfl <;> rfl) rfl rfl
    refine BND_step (nilchk_ptr _) <| BND_step (faddr_ptr _ _ _) <| BND_step (faddr_ptr _ _ _) <| BND_step (load1_blk h1) <| BND_step ei <| BND_step (faddr_ptr _ _ _) <| BND_step hs1 ?_
    have n1 : hb ≠ ab := fun e => by simp [e] at h5
    have n2 : mb ≠ ab := fun e => by simp [e] at h5
    have g1 := (o1 hb n1).trans h1
    have g2 := (o1 mb n2).trans h2
    have hget : ∀ j, j ≠ i → get (l.set i (t, id)) j = get l j := fun j hj => by simp [get, List.getD_eq_getElem?_getD, List.getElem?_set_ne (Ne.symm hj)]
    have hgeti : get (l.set i (t, id)) i = (t, id) := by simp [get, List.getD_eq_getElem?_getD, hi]
    have hids : (l.set i (t, id)).map (·.2) = l.map (·.2) := by
      rw [List.map_set]
      apply List.ext_getElem?
      intro n
      rw [List.getElem?_set]
      split
      · rename_i e; subst e
        simp [hi]
        rw [← hid, hgi]
      · rfl
    have hS1 : Sync (l.set i (t, id)) L := by
      refine ⟨hids ▸ hS.ids, fun j hj => ?_, fun k v hk => ?_⟩
      · by_cases e : j = i
        · subst e; rw [hgeti, hl]
        · rw [hget j e]; exact hS.stand j (by simpa using hj)
      · obtain ⟨j, hj, rfl⟩ := hS.only k v hk
        by_cases e : j = i
        · subst e; exact ⟨j, by simpa using hj, by rw [hgeti, ← hid]⟩
        · exact ⟨j, by simpa using hj, by rw [hget j e]⟩
    have D1 : DueI w1 hb (l.set i (t, id)) [hb, mb, ab] := ⟨L, ⟨sv, mb, es, ck, T, [ab], g1, g2, h3, s1, rfl, h5⟩, hS1⟩
    refine due_settle D1 (by simpa using hi) (by simp; omega) (UpInv.at hH (by simp) hi fun j _ hj => hget j hj) fun w2 l2 D2 f2 p2 hh2 => ?_
    refine hyes i hi hid w2 l2 ⟨D2, hh2⟩ (p2.trans ?_) (((Fr.of_set z1 o1).wider (by simp)).trans' f2)
    have := erase_perm (l := l.set i (t, id)) (i := i) (by simpa using hi)
    have he : (l.set i (t, id)).eraseIdx i = l.eraseIdx i := by
      apply List.ext_getElem?
      intro n
      rw [List.getElem?_eraseIdx, List.getElem?_eraseIdx]
      split
      · rw [List.getElem?_set_ne (by omega)]
      · rw [List.getElem?_set_ne (by omega)]
    rw [he] at this
    simpa using this.symm

theorem due_AtH {w : World} {hb : Nat} {l : List E} {F : List Nat} (h : DueH w hb l F) (id : Int) {R : Value → World → Prop}
    (hno : id ∉ l.map (·.2) → R (.tuple #[.int .u64 0, .bool false]) w)
    (hyes : ∀ i, i < l.length → (get l i).2 = id → R (.tuple #[.int .u64 (get l i).1, .bool true]) w) :
    CALL PR F_due_Heap_At [.pointer (some ⟨hb, 0, none⟩), .int .u64 id] w R := by
  obtain ⟨⟨L, hD, hS⟩, hH⟩ := h
  obtain ⟨sv, mb, es, ck, T, Fa, h1, h2, h3, h4, rfl, h5⟩ := hD
  refine C_due_Heap_At ?_
  unfold M_due_Heap_At
  refine BND_step (nilchk_ptr _) <| BND_step (faddr_ptr _ _ _) <| BND_step (load1_blk h1) <| BND_step (lookv_L (keyInt .u64) h2 h3 _ id) ?_
  rcases hS.find id with ⟨hl, hni⟩ | ⟨i, hi, hid, hl⟩
  · refine BND_step (v := .int .i64 0) (by rw [hl]; rfl) <| BND_step (v := .bool false) (by rw [hl]; rfl) <| BND_step (unv_not _) <| (COND_true _ _).2 ?_
    exact hno hni
  · refine BND_step (v := .int .i64 i) (by rw [hl]; rfl) <| BND_step (v := .bool true) (by rw [hl]; rfl) <| BND_step (unv_not _) <| (COND_false _ _).2 ?_
    obtain ⟨ab, rfl, ei⟩ := h4.iaddr hi .i64
    have hgi : get l i = l[i] := by simp [get, List.getD_eq_getElem?_getD, hi]
    refine BND_step (nilchk_ptr _) <| BND_step (faddr_ptr _ _ _) <| BND_step (faddr_ptr _ _ _) <| BND_step (load1_blk h1) <| BND_step ei <| BND_step (faddr_ptr _ _ _) <|
      BND_step (h4.load1 (j := 0) (List.getElem?_eq_getElem hi) (by omega)) ?_
    rw [← hgi]
    exact hyes i hi hid

theorem due_FirstH {w : World} {hb : Nat} {l : List E} {F : List Nat} (h : DueH w hb l F) {R : Value → World → Prop}
    (hno : l = [] → R (.tuple #[.int .u64 0, .int .u64 0, .bool false]) w)
    (hyes : 0 < l.length → R (.tuple #[.int .u64 (get l 0).2, .int .u64 (get l 0).1, .bool true]) w.drew) :
    CALL PR F_due_Heap_First [.pointer (some ⟨hb, 0, none⟩)] w R := by
  obtain ⟨⟨L, hD, hS⟩, hH⟩ := h
  obtain ⟨sv, mb, es, ck, T, Fa, h1, h2, h3, h4, rfl, h5⟩ := hD
  refine C_due_Heap_First ?_
  unfold M_due_Heap_First
  refine BND_step (nilchk_ptr _) <| BND_step (faddr_ptr _ _ _) <| BND_step (faddr_ptr _ _ _) <| BND_step (load1_blk h1) <| BND_step h4.len <| BND_step (binv_eql _ _ _ _) ?_
  by_cases h0 : l = []
  · subst h0
    exact (COND_true _ _).2 (hno rfl)
  · have hp : 0 < l.length := by cases l with
      | nil => exact absurd rfl h0
      | cons _ _ => simp
    have hd : decide ((l.length : Int) = 0) = false := by simp only [decide_eq_false_iff_not]; omega
    rw [hd]
    refine (COND_false _ _).2 ?_
    obtain ⟨ab, rfl, ei⟩ := h4.iaddr hp .i64
    have hgi : get l 0 = l[0] := by simp [get, List.getD_eq_getElem?_getD, hp]
    have h1' : blk w.drew hb = _ := h1
    have h4' : Slc encE 2 w.drew sv l [ab] := h4
    refine BND_step (nilchk_ptr _) <| BND_step (faddr_ptr _ _ _) <| BND_step (faddr_ptr _ _ _) <| BND_step (nilchk_ptr _) <| BND_step (faddr_ptr _ _ _) <| BND_step (faddr_ptr _ _ _) <|
      BND_step (load1_blk h1') <| BND_step ei <| BND_step (faddr_ptr _ _ _) <| BND_step (h4'.load1 (j := 1) (List.getElem?_eq_getElem hp) (by omega)) <| BND_step (load1_blk h1') <|
      BND_step ei <| BND_step (faddr_ptr _ _ _) <| BND_step (h4'.load1 (j := 0) (List.getElem?_eq_getElem hp) (by omega)) ?_
    have := hyes hp
    rw [hgi] at this
    exact this

theorem due_LenH {w : World} {hb : Nat} {l : List E} {F : List Nat} (h : DueH w hb l F) {R : Value → World → Prop} (hR : R (.int .i64 l.length) w) : CALL PR F_due_Heap_Len [.pointer (some ⟨hb, 0, none⟩)] w R := by
  obtain ⟨⟨L, hD, hS⟩, hH⟩ := h
  obtain ⟨sv, mb, es, ck, T, Fa, h1, h2, h3, h4, rfl, h5⟩ := hD
  refine C_due_Heap_Len ?_
  unfold M_due_Heap_Len
  exact BND_step (nilchk_ptr _) <| BND_step (faddr_ptr _ _ _) <| BND_step (faddr_ptr _ _ _) <| BND_step (load1_blk h1) <| BND_step h4.len hR

/-! ## in terms of a sorted list -/
def ltEP (a b : E) : Prop := ltE a b = true
def insS : List E → E → List E
  | [], e => [e]
  | x :: r, e => if ltE x e = true then x :: insS r e else e :: x :: r
def remS (S : List E) (id : Int) : List E := S.filter fun e => !decide (e.2 = id)
def timeS (S : List E) (id : Int) : Option Int := (S.find? fun e => decide (e.2 = id)).map (·.1)
structure DueOwn (w : World) (hb : Nat) (S : List E) (F : List Nat) : Prop where
  ex : ∃ l, DueH w hb l F ∧ l.Perm S
  sorted : S.Pairwise ltEP
  ids : (S.map (·.2)).Nodup
theorem DueOwn.fr {w w' : World} {hb : Nat} {S : List E} {F G : List Nat} (h : DueOwn w hb S F) (hf : Fr G w w') (hd : ∀ b ∈ F, b ∉ G) : DueOwn w' hb S F := by
  obtain ⟨⟨l, h1, h2⟩, h3, h4⟩ := h; exact ⟨⟨l, h1.fr hf hd, h2⟩, h3, h4⟩
theorem DueOwn.lt {w : World} {hb : Nat} {S : List E} {F : List Nat} (h : DueOwn w hb S F) : ∀ b ∈ F, b < hsz w := by
  obtain ⟨⟨l, h1, h2⟩, h3, h4⟩ := h; exact h1.1.ltF

theorem ltEP_trans {a b c : E} (h : ltEP a b) (h' : ltEP b c) : ltEP a c := by unfold ltEP at *; rw [ltE_iff] at *; omega
theorem insS_perm (S : List E) (e : E) : (insS S e).Perm (e :: S) := by
  induction S with
  | nil => exact .refl _
  | cons x r ih =>
    simp only [insS]
    split
    · exact (ih.cons x).trans (.swap e x r)
    · exact .refl _
theorem insS_sorted {S : List E} (h : S.Pairwise ltEP) {e : E} (hn : ∀ x ∈ S, x ≠ e) : (insS S e).Pairwise ltEP := by
  induction S with
  | nil => simp [insS]
  | cons x r ih =>
    rw [List.pairwise_cons] at h
    simp only [insS]
    split
    · rename_i hlt
      rw [List.pairwise_cons]
      refine ⟨fun y hy => ?_, ih h.2 fun y hy => hn y (by simp [hy])⟩
      rcases List.mem_cons.1 ((insS_perm r e).mem_iff.1 hy) with rfl | hy
      · exact hlt
      · exact h.1 y hy
    · rename_i hlt
      have hxe : ltEP e x := ltE_le.2 ⟨leE_of_not (by simpa using hlt), fun e' => hn x (by simp) e'.symm⟩
      rw [List.pairwise_cons]
      refine ⟨fun y hy => ?_, List.pairwise_cons.2 h⟩
      rcases List.mem_cons.1 hy with rfl | hy
      · exact hxe
      · exact ltEP_trans hxe (h.1 y hy)
theorem remS_sorted {S : List E} (h : S.Pairwise ltEP) (id : Int) : (remS S id).Pairwise ltEP := h.sublist List.filter_sublist
theorem remS_ids {S : List E} (h : (S.map (·.2)).Nodup) (id : Int) : ((remS S id).map (·.2)).Nodup := h.sublist (List.filter_sublist.map _)
theorem remS_notin (S : List E) (id : Int) : id ∉ (remS S id).map (·.2) := by
  intro h
  obtain ⟨x, hx, rfl⟩ := List.mem_map.1 h
  simp [remS] at hx
theorem erase_remS {l S : List E} (hp : l.Perm S) (hids : (S.map (·.2)).Nodup) {i : Nat} (hi : i < l.length) : (l.eraseIdx i).Perm (remS S (get l i).2) := by
  have hl : (l.map (·.2)).Nodup := ((hp.map _).nodup_iff).2 hids
  have hgi : get l i = l[i] := by simp [get, List.getD_eq_getElem?_getD, hi]
  have h1 : (l.eraseIdx i) = l.filter fun e => !decide (e.2 = (get l i).2) := by
    have key : ∀ (l : List E) (i : Nat) (hi : i < l.length), (l.map (·.2)).Nodup → l.eraseIdx i = l.filter fun e => !decide (e.2 = l[i].2) := by
      intro l
      induction l with
      | nil => intro i hi; simp at hi
      | cons x r ih =>
        intro i hi hn
        simp only [List.map_cons, List.nodup_cons] at hn
        cases i with
        | zero =>
          simp only [List.eraseIdx_cons_zero, List.getElem_cons_zero, List.filter_cons, decide_true, Bool.not_true, Bool.false_eq_true, if_false]
          refine (List.filter_eq_self.2 fun y hy => ?_).symm
          simp only [Bool.not_eq_true', decide_eq_false_iff_not]
          exact fun e => hn.1 (e ▸ List.mem_map.2 ⟨y, hy, rfl⟩)
        | succ i =>
          have hi' : i < r.length := by simpa using hi
          have hx : x.2 ≠ r[i].2 := fun e => hn.1 (e ▸ List.mem_map.2 ⟨_, List.getElem_mem hi', rfl⟩)
          simp only [List.eraseIdx_cons_succ, List.getElem_cons_succ, List.filter_cons]
          rw [if_pos (by simpa using hx), ih i hi' hn.2]
    rw [hgi]; exact key l i hi hl
  rw [h1]
  exact hp.filter _

theorem due_New {w : World} {R : Value → World → Prop} (hR : ∀ w' hb F, DueOwn w' hb [] F → Fr [] w w' → (∀ b ∈ F, hsz w ≤ b) → R (.pointer (some ⟨hb, 0, none⟩)) w') : CALL PR F_due_New [] w R :=
  due_NewH fun w' hb F h1 h2 h3 => hR w' hb F ⟨⟨[], h1, .refl _⟩, .nil, by simp⟩ h2 h3
theorem due_Put {w : World} {hb : Nat} {S : List E} {F : List Nat} (h : DueOwn w hb S F) (hn : S.length < 1000000000) (id t : Int) {R : Value → World → Prop}
    (hno : id ∈ S.map (·.2) → R (.bool false) w)
    (hyes : id ∉ S.map (·.2) → ∀ w' F', DueOwn w' hb (insS S (t, id)) F' → Fr F w w' → (∀ b ∈ F', b ∈ F ∨ hsz w ≤ b) → R (.bool true) w') :
    CALL PR F_due_Heap_Put [.pointer (some ⟨hb, 0, none⟩), .int .u64 id, .int .u64 t] w R := by
  obtain ⟨⟨l, h1, h2⟩, h3, h4⟩ := h
  refine due_PutH h1 (by rw [h2.length_eq]; exact hn) id t (fun h => hno ((h2.map _).mem_iff.1 h)) fun hni w' l' F' h5 h6 h7 h8 => ?_
  have hni' : id ∉ S.map (·.2) := fun h => hni ((h2.map _).mem_iff.2 h)
  refine hyes hni' w' F' ⟨⟨l', h5, h6.trans ((h2.cons _).trans (insS_perm S _).symm)⟩, insS_sorted h3 fun x hx e => hni' (List.mem_map.2 ⟨x, hx, by rw [e]⟩), ?_⟩ h7 h8
  refine (((insS_perm S (t, id)).map (·.2)).nodup_iff).2 ?_
  rw [List.map_cons, List.nodup_cons]
  exact ⟨hni', h4⟩
theorem due_Drop {w : World} {hb : Nat} {S : List E} {F : List Nat} (h : DueOwn w hb S F) (hn : S.length < 1000000000) (id : Int) {R : Value → World → Prop}
    (hno : id ∉ S.map (·.2) → R (.bool false) w)
    (hyes : id ∈ S.map (·.2) → ∀ w', DueOwn w' hb (remS S id) F → Fr F w w' → R (.bool true) w') :
    CALL PR F_due_Heap_Drop [.pointer (some ⟨hb, 0, none⟩), .int .u64 id] w R := by
  obtain ⟨⟨l, h1, h2⟩, h3, h4⟩ := h
  refine due_DropH h1 (by rw [h2.length_eq]; exact hn) id (fun h => hno fun h' => h ((h2.map _).mem_iff.2 h')) fun i hi hid w' l' h5 h6 h7 => ?_
  refine hyes ((h2.map _).mem_iff.1 (hid ▸ List.mem_map.2 ⟨_, get_mem hi, rfl⟩)) w' ⟨⟨l', h5, h6.trans (hid ▸ erase_remS h2 h4 hi)⟩, remS_sorted h3 id, remS_ids h4 id⟩ h7
theorem due_Move {w : World} {hb : Nat} {S : List E} {F : List Nat} (h : DueOwn w hb S F) (hn : S.length < 1000000000) (id t : Int) {R : Value → World → Prop}
    (hno : id ∉ S.map (·.2) → R (.bool false) w)
    (hyes : id ∈ S.map (·.2) → ∀ w', DueOwn w' hb (insS (remS S id) (t, id)) F → Fr F w w' → R (.bool true) w') :
    CALL PR F_due_Heap_Move [.pointer (some ⟨hb, 0, none⟩), .int .u64 id, .int .u64 t] w R := by
  obtain ⟨⟨l, h1, h2⟩, h3, h4⟩ := h
  refine due_MoveH h1 (by rw [h2.length_eq]; exact hn) id t (fun h => hno fun h' => h ((h2.map _).mem_iff.2 h')) fun i hi hid w' l' h5 h6 h7 => ?_
  have hni := remS_notin S id
  refine hyes ((h2.map _).mem_iff.1 (hid ▸ List.mem_map.2 ⟨_, get_mem hi, rfl⟩)) w' ⟨⟨l', h5, h6.trans (((hid ▸ erase_remS h2 h4 hi).cons _).trans (insS_perm _ _).symm)⟩,
    insS_sorted (remS_sorted h3 id) fun x hx e => hni (List.mem_map.2 ⟨x, hx, by rw [e]⟩), ?_⟩ h7
  refine (((insS_perm (remS S id) (t, id)).map (·.2)).nodup_iff).2 ?_
  rw [List.map_cons, List.nodup_cons]
  exact ⟨hni, remS_ids h4 id⟩
theorem head_get {l S : List E} (hp : l.Perm S) (hs : S.Pairwise ltEP) (hh : IsHeap l) (h0 : 0 < l.length) : ∃ r, S = get l 0 :: r := by
  cases S with
  | nil => rw [hp.length_eq] at h0; simp at h0
  | cons x r =>
    refine ⟨r, ?_⟩
    rw [List.pairwise_cons] at hs
    obtain ⟨i, hi, hx⟩ := List.getElem_of_mem (hp.mem_iff.2 (by simp : x ∈ x :: r))
    have h1 : leE (get l 0) x := by
      have := hh.min i hi
      rwa [show get l i = x by simp [get, List.getD_eq_getElem?_getD, hi, hx]] at this
    have h2 : leE x (get l 0) := by
      rcases List.mem_cons.1 (hp.mem_iff.1 (get_mem h0)) with h | h
      · rw [h]; exact leE_refl _
      · exact leE_of_lt (hs.1 _ h)
    rw [leE_antisymm h1 h2]
theorem due_First {w : World} {hb : Nat} {S : List E} {F : List Nat} (h : DueOwn w hb S F) {R : Value → World → Prop}
    (hno : S = [] → R (.tuple #[.int .u64 0, .int .u64 0, .bool false]) w)
    (hyes : ∀ e r, S = e :: r → R (.tuple #[.int .u64 e.2, .int .u64 e.1, .bool true]) w.drew) : CALL PR F_due_Heap_First [.pointer (some ⟨hb, 0, none⟩)] w R := by
  obtain ⟨⟨l, h1, h2⟩, h3, h4⟩ := h
  refine due_FirstH h1 (fun h => hno (by subst h; exact h2.nil_eq.symm)) fun h0 => ?_
  obtain ⟨r, hr⟩ := head_get h2 h3 h1.2 h0
  exact hyes _ r hr
theorem due_Len {w : World} {hb : Nat} {S : List E} {F : List Nat} (h : DueOwn w hb S F) {R : Value → World → Prop} (hR : R (.int .i64 S.length) w) : CALL PR F_due_Heap_Len [.pointer (some ⟨hb, 0, none⟩)] w R := by
  obtain ⟨⟨l, h1, h2⟩, h3, h4⟩ := h
  exact due_LenH h1 (by rw [h2.length_eq]; exact hR)
theorem due_At {w : World} {hb : Nat} {S : List E} {F : List Nat} (h : DueOwn w hb S F) (id : Int) {R : Value → World → Prop}
    (hno : id ∉ S.map (·.2) → R (.tuple #[.int .u64 0, .bool false]) w)
    (hyes : ∀ e ∈ S, e.2 = id → R (.tuple #[.int .u64 e.1, .bool true]) w) : CALL PR F_due_Heap_At [.pointer (some ⟨hb, 0, none⟩), .int .u64 id] w R := by
  obtain ⟨⟨l, h1, h2⟩, h3, h4⟩ := h
  exact due_AtH h1 id (fun h => hno fun h' => h ((h2.map _).mem_iff.2 h')) fun i hi hid => hyes _ (h2.mem_iff.1 (get_mem hi)) hid
theorem remS_head {e : E} {r : List E} (h : ((e :: r).map (·.2)).Nodup) : remS (e :: r) e.2 = r := by
  simp only [List.map_cons, List.nodup_cons] at h
  simp only [remS, List.filter_cons, decide_true, Bool.not_true, Bool.false_eq_true, if_false]
  refine List.filter_eq_self.2 fun y hy => ?_
  simp only [Bool.not_eq_true', decide_eq_false_iff_not]
  exact fun e' => h.1 (e' ▸ List.mem_map.2 ⟨y, hy, rfl⟩)
theorem due_Take {w : World} {hb : Nat} {S : List E} {F : List Nat} (h : DueOwn w hb S F) (hn : S.length < 1000000000) (now : Int) {R : Value → World → Prop}
    (hno : ∀ w', (S = [] ∨ ∃ e r, S = e :: r ∧ now < e.1) → DueOwn w' hb S F → Fr F w w' → R (.tuple #[.int .u64 0, .int .u64 0, .bool false]) w')
    (hyes : ∀ e r, S = e :: r → e.1 ≤ now → ∀ w', DueOwn w' hb r F → Fr F w w' → R (.tuple #[.int .u64 e.2, .int .u64 e.1, .bool true]) w') :
    CALL PR F_due_Heap_Take [.pointer (some ⟨hb, 0, none⟩), .int .u64 now] w R := by
  refine C_due_Heap_Take ?_
  unfold M_due_Heap_Take
  refine due_First h (fun h0 => ?_) fun e r hS => ?_
  · refine BND_step rfl <| BND_step rfl <| BND_step rfl <| BND_step (unv_not _) <| BND_step rfl <| BND_step rfl <| BND_step rfl <| BND_step rfl <| (COND_true _ _).2 ?_
    exact hno w (.inl h0) h (Fr.refl _ _)
  · have hO : DueOwn w.drew hb S F := h.fr (Fr.drew [] w) (by simp)
    by_cases hlt : now < e.1
    · have hd : decide (now < e.1) = true := by simpa using hlt
      refine BND_step (v := .int .u64 e.2) rfl <| BND_step (v := .int .u64 e.1) rfl <| BND_step (v := .bool true) rfl <| BND_step (unv_not _) <| BND_step (v := .int .u64 e.1) rfl <| BND_step (v := .int .u64 now) rfl <| BND_step (v := .bool true) (by rw [show isB (.bool !true) false = true from rfl, grd_true, binv_gtr, hd]) <| BND_step rfl <| (COND_true _ _).2 ?_
      exact hno _ (.inr ⟨e, r, hS, hlt⟩) hO (Fr.drew _ _)
    · have hd : decide (now < e.1) = false := by simpa using hlt
      refine BND_step (v := .int .u64 e.2) rfl <| BND_step (v := .int .u64 e.1) rfl <| BND_step (v := .bool true) rfl <| BND_step (unv_not _) <| BND_step (v := .int .u64 e.1) rfl <| BND_step (v := .int .u64 now) rfl <| BND_step (v := .bool false) (by rw [show isB (.bool !true) false = true from rfl, grd_true, binv_gtr, hd]) <| BND_step rfl <| (COND_false _ _).2 ?_
      refine due_Drop hO hn e.2 (fun hni => absurd (by rw [hS]; simp) hni) fun _ w' h1 h2 => ?_
      have hr : remS S e.2 = r := by rw [hS]; exact remS_head (hS ▸ h.ids)
      rw [hr] at h1
      exact hyes e r hS (by omega) w' h1 ((Fr.drew _ _).trans' h2)

end Go.Proofs.Ytmjiohgdoienmaa
