/- A queue in plain words: who is first, who waits, what each call keeps. No condition. Lanes: the first one, as a call. No condition. A queue's calls: what fits, Put, Peek, Get, Seen. No condition but sizes. A queue's calls: Peek, Get, Seen, Lease. No condition but sizes. A queue's calls: Ack, Nack, Extend, Requeue, Purge. No condition but sizes. A queue's calls: Tick. No condition but sizes. A queue's calls: Reset. No condition but sizes. Sorting a slice of uint64: swaps, what stands where; cmp.Less; insertionSort, reverseRange, the pivot's choice, breakPatterns. No condition but sizes. Sorting a slice of uint64: breakPatterns, siftDown, heapSort. No condition but sizes. Sorting a slice of uint64: partition, partitionEqual, partialInsertionSort. No condition but sizes. Sorting a slice of uint64: partialInsertionSort, pdqsort, slices.Sort. No condition but that there are less than 256. Short rows of texts, sorted by a comparison of runes (slices.SortFunc); a map's keys, collected (maps.Keys, slices.Collect). No condition but sizes. Cursors of the list of the dead: all consumers, by their names' runes, rising. No condition but sizes. A queue's messages by their ids; its state. No condition but sizes. From: the list of any rows and cursors, or that there is none. No condition but sizes. -/
import Derived.Test.YtpgflmjeedbimaaGreatGi
import Derived.Test.YtpgflmjeedbimaaGreatGd
import Derived.Test.YtpgflmjeedbimaaGreatMa
import Derived.Test.YtpgflmjeedbimaaGreatGh
import Derived.Test.YtpgflmjeedbimaaGreatMb
set_option linter.unusedVariables false
set_option linter.unusedSimpArgs false
section
namespace Go.Proofs.YtpgflmjeedbimaaGreat
open Go.Den Go.Ix
set_option linter.unusedSimpArgs false
set_option linter.unusedVariables false
theorem sub_len {α : Type} [DecidableEq α] : ∀ {l m : List α}, l.Nodup → (∀ x ∈ l, x ∈ m) → l.length ≤ m.length
  | [], _, _, _ => by simp
  | x :: l, m, hn, h => by
    obtain ⟨h1, h2⟩ := List.nodup_cons.1 hn
    have hx := h x (by simp)
    have := sub_len (l := l) (m := m.erase x) h2 fun y hy => by
      have hne : y ≠ x := fun e => h1 (e ▸ hy)
      exact (List.mem_erase_of_ne hne).2 (h y (by simp [hy]))
    have := List.length_erase_of_mem hx
    have := List.length_pos_of_mem hx
    simp only [List.length_cons]; omega
theorem rows_len {s : Px} {cut B : Nat} (h : QInv s cut B) : s.rows.length ≤ 200 := by
  have := sub_len (l := s.rows.map (·.1)) (m := s.items.map fun y => (y.id : Int)) h.rowsN fun x hx => by
    obtain ⟨r, hr, rfl⟩ := List.mem_map.1 hx
    obtain ⟨y, hy, e⟩ := h.rows r hr
    exact List.mem_map.2 ⟨y, hy, e⟩
  rw [List.length_map, List.length_map] at this
  have := h.len; omega
theorem ready_of {s : Px} {cut B : Nat} (h : QInv s cut B) {y : It} (hy : y ∈ s.items) : 0 ≤ y.lane ∧ y.lane < 8 := by
  have := (h.fit y hy).1
  have := h.right
  unfold fitsP at *; unfold rightC at *; omega
theorem ahd_asym {a b : It} (h : ahd a b) : ¬ ahd b a := by unfold ahd at *; omega
theorem best_min {lane : Int} {y : It} (hc : cand lane y) : ∀ (l : List It) (b : Option It), (b = some y ∨ (y ∈ l ∧ ∀ x, b = some x → ahd y x)) → (∀ z ∈ l, cand lane z → z = y ∨ ahd y z) → bestF lane b l = some y
  | [], b, h, _ => by
    rcases h with h | h
    · exact h
    · simp at h
  | z :: r, b, h, hz => by
    rw [bestF]
    have hz1 := hz z (by simp)
    have hz2 : ∀ x ∈ r, cand lane x → x = y ∨ ahd y x := fun x hx => hz x (by simp [hx])
    by_cases hb : cand lane z ∧ betterB b z
    · rw [if_pos hb]
      rcases hz1 hb.1 with rfl | ha
      · exact best_min hc r _ (.inl rfl) hz2
      · refine best_min hc r _ (.inr ⟨?_, fun x hx => by cases hx; exact ha⟩) hz2
        rcases h with h | h
        · rw [h] at hb
          exact absurd hb.2 (ahd_asym ha)
        · rcases List.mem_cons.1 h.1 with e | e
          · subst e; exact absurd ha (by unfold ahd; omega)
          · exact e
    · rw [if_neg hb]
      refine best_min hc r _ ?_ hz2
      rcases h with h | h
      · exact .inl h
      · refine .inr ⟨?_, h.2⟩
        rcases List.mem_cons.1 h.1 with e | e
        · subst e
          refine absurd ⟨hc, ?_⟩ hb
          cases b with
          | none => trivial
          | some x => exact h.2 x rfl
        · exact e
theorem best_none {lane : Int} : ∀ (l : List It), (∀ z ∈ l, ¬ cand lane z) → bestF lane none l = none
  | [], _ => rfl
  | z :: r, h => by
    rw [bestF, if_neg fun hb => h z (by simp) hb.1]
    exact best_none r fun x hx => h x (by simp [hx])
theorem best_mem {lane : Int} {y : It} : ∀ {l : List It} {b : Option It}, bestF lane b l = some y → b = some y ∨ (y ∈ l ∧ cand lane y)
  | [], b, h => .inl h
  | z :: r, b, h => by
    rw [bestF] at h
    rcases best_mem h with g | g
    · split at g
      · rename_i hb
        cases g
        exact .inr ⟨by simp, hb.1⟩
      · exact .inl g
    · exact .inr ⟨by simp [g.1], g.2⟩
theorem peek_first {s : Px} {r : Rx} {cut B : Nat} (h : QInv s cut B) (hr : Rep s r) {lane : Int} {i : Nat} (hi : i < 8) (hl : lane = -1 ∨ lane = i) (hb : ∀ k, k < i → r.qs k = [] ∨ ¬ (lane = -1 ∨ lane = k)) {id : Int} {rest : List Int} (hq : r.qs i = id :: rest) :
    ∃ y, findIt s.items id = some y ∧ bestF lane none s.items = some y := by
  obtain ⟨L, h1, h2, h3⟩ := hr.st.qs i hi
  cases L with
  | nil => rw [h1] at hq; simp at hq
  | cons y L =>
    rw [h1] at hq
    simp only [List.map_cons, List.cons.injEq] at hq
    have hm := List.mem_filter.1 (h2.mem_iff.1 (by simp : y ∈ y :: L))
    have hrd := hm.2
    unfold rdy at hrd
    simp only [Bool.and_eq_true, decide_eq_true_eq] at hrd
    refine ⟨y, by rw [← hq.1]; exact findIt_mem h.rise hm.1, best_min ⟨hrd.1, by rcases hl with e | e; exact .inl e; exact .inr (by omega)⟩ _ _ (.inr ⟨hm.1, by simp⟩) fun z hz hc => ?_⟩
    have hzl := ready_of h hz
    by_cases e : z = y
    · exact .inl e
    refine .inr ?_
    unfold ahd
    have hzf : ∀ k : Nat, z.lane = k → k < 8 → ∃ Lk : List It, r.qs k = Lk.map (fun y => (y.id : Int)) ∧ z ∈ Lk := fun k hk hk8 => by
      obtain ⟨Lk, g1, g2, _⟩ := hr.st.qs k hk8
      refine ⟨Lk, g1, g2.mem_iff.2 (List.mem_filter.2 ⟨hz, ?_⟩)⟩
      unfold rdy
      simp [hc.1, hk]
    by_cases h4 : z.lane = i
    · obtain ⟨L', g1, g2⟩ := hzf i h4 hi
      have : z ∈ y :: L := h2.mem_iff.2 (List.mem_filter.2 ⟨hz, by unfold rdy; simp [hc.1, h4]⟩)
      rcases List.mem_cons.1 this with e2 | e2
      · exact absurd e2 e
      · have := (List.pairwise_cons.1 h3).1 z e2
        omega
    · by_cases h5 : z.lane < i
      · exfalso
        obtain ⟨L', g1, g2⟩ := hzf z.lane.toNat (by omega) (by omega)
        rcases hb z.lane.toNat (by omega) with g | g
        · rw [g1] at g
          have : L' = [] := by simpa using g
          rw [this] at g2; simp at g2
        · refine g ?_
          rcases hc.2 with e3 | e3
          · exact .inl e3
          · exact .inr (by omega)
      · omega
theorem peek_none {s : Px} {r : Rx} {cut B : Nat} (h : QInv s cut B) (hr : Rep s r) {lane : Int} (hb : ∀ k, k < 8 → r.qs k = [] ∨ ¬ (lane = -1 ∨ lane = (k : Int))) : bestF lane none s.items = none := by
  refine best_none _ fun z hz hc => ?_
  have hzl := ready_of h hz
  obtain ⟨L, g1, g2, _⟩ := hr.st.qs z.lane.toNat (by omega)
  rcases hb z.lane.toNat (by omega) with g | g
  · have : z ∈ L := g2.mem_iff.2 (List.mem_filter.2 ⟨hz, by unfold rdy; simp [hc.1]; omega⟩)
    rw [g1] at g
    have e : L = [] := by simpa using g
    rw [e] at this; simp at this
  · refine g ?_
    rcases hc.2 with e3 | e3
    · exact .inl e3
    · exact .inr (by omega)
theorem soon_min {p : It → Bool} {by_ : Nat} {y : It} (hp : p y = true) (hb : y.lf.due ≤ by_) : ∀ (l : List It) (b : Option It), (l.Pairwise fun a b => a.id < b.id) → (b = some y ∨ (y ∈ l ∧ ∀ x, b = some x → y.lf.due < x.lf.due)) →
    (∀ z ∈ l, p z = true → z.lf.due ≤ by_ → (y.lf.due < z.lf.due ∨ (y.lf.due = z.lf.due ∧ y.id ≤ z.id))) → soonF p by_ b l = some y
  | [], b, _, h, _ => by
    rcases h with h | h
    · exact h
    · simp at h
  | z :: r, b, hr, h, hz => by
    obtain ⟨r1, r2⟩ := List.pairwise_cons.1 hr
    rw [soonF]
    have hz2 : ∀ x ∈ r, p x = true → x.lf.due ≤ by_ → (y.lf.due < x.lf.due ∨ (y.lf.due = x.lf.due ∧ y.id ≤ x.id)) := fun x hx => hz x (by simp [hx])
    by_cases hc : p z = true ∧ z.lf.due ≤ by_ ∧ sooner b z
    · rw [if_pos hc]
      by_cases e : z = y
      · subst e
        exact soon_min hp hb r _ r2 (.inl rfl) hz2
      · have hd := hz z (by simp) hc.1 hc.2.1
        rcases h with h | h
        · rw [h] at hc
          have : z.lf.due < y.lf.due := hc.2.2
          omega
        · have hyr : y ∈ r := by
            rcases List.mem_cons.1 h.1 with e2 | e2
            · exact absurd e2.symm e
            · exact e2
          have := r1 y hyr
          refine soon_min hp hb r _ r2 (.inr ⟨hyr, fun x hx => ?_⟩) hz2
          cases hx
          omega
    · rw [if_neg hc]
      refine soon_min hp hb r _ r2 ?_ hz2
      rcases h with h | h
      · exact .inl h
      · refine .inr ⟨?_, h.2⟩
        rcases List.mem_cons.1 h.1 with e | e
        · subst e
          refine absurd ⟨hp, hb, ?_⟩ hc
          cases b with
          | none => trivial
          | some x => exact h.2 x rfl
        · exact e
theorem soon_none {p : It → Bool} {by_ : Nat} : ∀ (l : List It), (∀ z ∈ l, p z = true → by_ < z.lf.due) → soonF p by_ none l = none
  | [], _ => rfl
  | z :: r, h => by
    rw [soonF, if_neg fun hb => by have := h z (by simp) hb.1; omega]
    exact soon_none r fun x hx => h x (by simp [hx])
theorem soon_mem {p : It → Bool} {by_ : Nat} {y : It} : ∀ {l : List It} {b : Option It}, soonF p by_ b l = some y → b = some y ∨ (y ∈ l ∧ p y = true ∧ y.lf.due ≤ by_)
  | [], b, h => .inl h
  | z :: r, b, h => by
    rw [soonF] at h
    rcases soon_mem h with g | g
    · split at g
      · rename_i hb
        cases g
        exact .inr ⟨by simp, hb.1, hb.2.1⟩
      · exact .inl g
    · exact .inr ⟨by simp [g.1], g.2⟩
theorem soon_head {p : It → Bool} {items : List It} {W : List E} (hr : items.Pairwise fun a b => a.id < b.id) (hw : W.Perm ((items.filter p).map ew)) (hs : W.Pairwise ltEP) (by_ : Nat) :
    (∀ e rest, W = e :: rest → e.1 ≤ (by_ : Int) → ∃ y ∈ items, p y = true ∧ ew y = e ∧ soonF p by_ none items = some y) ∧ ((W = [] ∨ ∃ e rest, W = e :: rest ∧ (by_ : Int) < e.1) → soonF p by_ none items = none) := by
  have mem : ∀ z ∈ items, p z = true → ew z ∈ W := fun z hz hp => hw.mem_iff.2 (List.mem_map.2 ⟨z, List.mem_filter.2 ⟨hz, hp⟩, rfl⟩)
  constructor
  · rintro e rest rfl he
    obtain ⟨y, hy, rfl⟩ := List.mem_map.1 (hw.mem_iff.1 (by simp : e ∈ e :: rest))
    obtain ⟨hy1, hy2⟩ := List.mem_filter.1 hy
    refine ⟨y, hy1, hy2, rfl, soon_min hy2 (by simp only [ew] at he; omega) _ _ hr (.inr ⟨hy1, by simp⟩) fun z hz hp hd => ?_⟩
    have hm := mem z hz hp
    rcases List.mem_cons.1 hm with e2 | e2
    · simp only [ew, Prod.mk.injEq, Int.natCast_inj] at e2
      omega
    · have := (List.pairwise_cons.1 hs).1 _ e2
      unfold ltEP at this
      rw [ltE_iff] at this
      simp only [ew] at this
      omega
  · intro h
    refine soon_none _ fun z hz hp => ?_
    have hm := mem z hz hp
    rcases h with rfl | ⟨e, rest, rfl, he⟩
    · simp at hm
    · rcases List.mem_cons.1 hm with e2 | e2
      · rw [← e2] at he
        simp only [ew] at he; omega
      · have := (List.pairwise_cons.1 hs).1 _ e2
        unfold ltEP at this
        rw [ltE_iff] at this
        simp only [ew] at this
        omega
theorem bornL_ok {s : Px} {cut B : Nat} (h : QInv s cut B) {delay id : Nat} (he : (bornL s.now delay).2 = 0) : NewOk s cut id (bornL s.now delay).1 := by
  have hd := h.right
  unfold rightC at hd
  have hn := h.now
  unfold bornL laterL at he ⊢
  by_cases h0 : delay = 0
  · rw [if_pos h0]
    exact .inl ⟨rfl, rfl, rfl, Int.le_refl _, by show (0 : Int) < s.c.del; omega⟩
  · rw [if_neg h0] at he ⊢
    by_cases h1 : s.now + delay < 18446744073709551616
    · rw [if_pos h1]
      exact .inr (.inl ⟨rfl, by show cut < s.now + delay; omega, h1, rfl, Int.le_refl _, by show (0 : Int) < s.c.del; omega⟩)
    · rw [if_neg h1] at he
      simp at he
theorem next_inv {s : Px} {cut B : Nat} (h : QInv s cut B) (h0 : s.next ≠ 0) : QInv { s with next := (s.next + 1) % 18446744073709551616 } cut B := by
  have hn := h.next
  refine ⟨h.right, h.rise, fun y hy => ?_, h.len, h.fit, h.live, h.turn, h.tok, h.dead, h.rows, h.rowsN, h.rowsR, h.place, h.now, Nat.mod_lt _ (by omega), h.nums, h.seen⟩
  obtain ⟨a, b, c⟩ := h.ids y hy
  refine ⟨a, b, fun hne => ?_⟩
  have := c h0
  simp only at hne ⊢
  omega
theorem putP_inv {s : Px} {cut B : Nat} (h : QInv s cut B) (lane : Int) {delay seg at_ : Nat} (size : Int) (hs : seg < 18446744073709551616) (ha : at_ < 18446744073709551616) : QInv (putP s lane delay seg at_ size).1 cut (B + 1) := by
  unfold putP
  split
  · exact h.more (by omega)
  · rename_i hf
    split
    · exact h.more (by omega)
    · rename_i hl
      split
      · exact h.more (by omega)
      · rename_i he
        rw [not_or] at he
        have hn := h.next
        refine isP_inv (next_inv h he.1) (.inr ⟨fun y hy => (h.ids y hy).2.2 he.1, by simp only; omega, hn, by simp only; omega⟩) (fun hne => by simp only at hne ⊢; omega) ⟨Classical.not_not.1 hf, hs, ha⟩ ?_
        have := bornL_ok (id := s.next) h (Classical.not_not.1 he.2)
        exact this
end Go.Proofs.YtpgflmjeedbimaaGreat
end
section
namespace Go.Proofs.YtpgflmjeedbimaaGreat
open Go.Den Go.Shelf
set_option linter.unusedSimpArgs false
set_option linter.unusedVariables false
theorem isR_of {w : World} {lb : Nat} {P N : Nat → Nat} : ∀ (xs : List (Int × Nat)) (a : Nat), Ring P N (a :: (xs.map (·.2) ++ [lb])) → (∀ x ∈ xs, ∃ T, blk w x.2 = some (.cells #[pb (P x.2), pb (N x.2), .int .u64 x.1] T (0, 0))) → (∀ x ∈ xs, x.2 ≠ lb) →
    IsR w.heap.size lb w (N a) (xs.map (·.1))
  | [], a, h, _, _ => h.1
  | x :: xs, a, h, hl, hn => by
    obtain ⟨h1, h2, h3⟩ := h
    obtain ⟨T, hb⟩ := hl x (by simp)
    rw [h1]
    exact ⟨hn x (by simp), blk_lt hb, ⟨_, T, hb⟩, cell?_blk hb 2, N x.2, cell?_blk hb 1, isR_of xs x.2 h3 (fun y hy => hl y (by simp [hy])) fun y hy => hn y (by simp [hy])⟩
section
variable {w : World} {lb : Nat} {ids : List Int} {R : Value → World → Prop} {F : List Nat}
theorem ln_First (h : (laneHP lb ids).p w F) (hR : ∀ w', Fr [] w w' → R (.tuple #[.int .u64 (ids.headD 0), .bool (!ids.isEmpty)]) w') : CALL PR F_lane_Lane_First [pb lb] w R := by
  obtain ⟨xs, P, N, mb, h, rfl, _⟩ := h
  obtain ⟨T, h1⟩ := h.head
  obtain ⟨hn1, _, _⟩ := nd_swap h.nd
  have hr := isR_of xs lb h.ring h.link fun x hx e => (List.nodup_cons.1 hn1).1 (e ▸ List.mem_map.2 ⟨x, hx, rfl⟩)
  refine ⟨(callsIn_wide.1 (first_in Fence.wide 3 trivial trivial trivial rfl (by omega) lb (N lb) (xs.map (·.1)) w (blk_lt h1) ⟨_, T, h1⟩ (cell?_blk h1 1) hr)).mono ?_⟩
  rintro e w' ⟨rfl, hb⟩
  exact ⟨_, rfl, hR w' (fr_of_below hb)⟩
end
end Go.Proofs.YtpgflmjeedbimaaGreat
end
section
namespace Go.Proofs.YtpgflmjeedbimaaGreat
open Go.Den Go.Ix
set_option linter.unusedSimpArgs false
set_option linter.unusedVariables false
theorem small_of {s : Px} {r : Rx} {cut B : Nat} (h : QInv s cut B) (hr : Rep s r) : Small r := by
  have hl := h.len
  refine ⟨fun k hk => ?_, ?_, ?_⟩
  · have := (hr.st.qs k hk).len; omega
  · rw [hr.st.ws.length_eq, List.length_map]
    have := List.length_filter_le wts s.items
    omega
  · rw [hr.rows]
    have := rows_len h; omega
theorem lk_items (v : It → Value) (k : Int) : ∀ l : List It, lk (l.map fun y => ((y.id : Int), v y)) k = (findIt l k).map v
  | [] => rfl
  | y :: l => by
    have ih := lk_items v k l
    unfold findIt at ih ⊢
    rw [List.map_cons, lk_cons, List.find?_cons]
    by_cases h : k = y.id
    · simp [h]
    · have h2 : decide ((y.id : Int) = k) = false := by simp; exact fun e => h e.symm
      rw [if_neg h, h2, ih]
theorem keys_items {l : List It} (h : l.Pairwise fun a b => a.id < b.id) (v : It → Value) : ((l.map fun y => ((y.id : Int), v y)).map (·.1)).Nodup := by
  rw [List.map_map, List.nodup_iff_pairwise_ne, List.pairwise_map]
  exact h.imp fun h e => by simp only [Function.comp, Int.natCast_inj] at e; omega
theorem its_list {w : World} {mb : Nat} {f : Int → Option It} {l : List It} {F : List Nat} (h : (mapF mb (itsV f)).p w F) (hf : ∀ k, f k = findIt l k) (hr : l.Pairwise fun a b => a.id < b.id) :
    ∃ es ck L, blk w mb = some (.map es ck) ∧ MapB encK es ck L ∧ L.Perm (l.map fun y => ((y.id : Int), Value.agg (encIt y).toArray)) := by
  obtain ⟨⟨es, ck, L, h1, h2, h3⟩, _⟩ := h
  refine ⟨es, ck, L, h1, h2, ins_perm h2.l.once (keys_items hr _) fun k => ?_⟩
  rw [h3 k, lk_items, itsV, hf]
def whC (seg at_ : Nat) (size : Int) : List Value := [.int .u64 (seg : Int), .int .u64 (at_ : Int), .int .i64 size]
theorem wrap_next (n : Nat) : IntKind.u64.wrap ((n : Int) + 1) = (((n + 1) % 18446744073709551616 : Nat) : Int) := by
  simp only [IntKind.wrap, IntKind.bits, IntKind.signed]
  simp
set_option linter.unusedSimpArgs false
set_option linter.unusedVariables false
set_option maxRecDepth 20000
set_option maxHeartbeats 4000000
attribute [local congr] BND_cg COND_cg GEF_cg
attribute [local irreducible] capl slicea load1 loadn iaddr iaddra faddr storev newslice binv lookv mupd mdel mlenv mentry mestore slicev slicev3 slices indexs indexav textv rangev nexts clearv shiftv eqaggv convi buildv pickv lens lenl unv nilchk extractv partn JOIN
section
variable {w0 w : World} {F0 : List Nat} {xb : Nat} {m : Mx} {r : Rx} {bs : List HP} {s : Px} {cut B : Nat} {R : Value → World → Prop}
theorem ixa_mlen (h : At w0 F0 (stars (ixL xb m r ++ bs)) w) (hr : Rep s r) (hI : QInv s cut B) : mlenv w (.map (some m.mb)) = some (.int .i64 s.items.length) := by
  obtain ⟨A, hA, _⟩ := h.get 1 rfl
  obtain ⟨es, ck, L, h1, h2, h3⟩ := its_list hA hr.its hI.rise
  rw [mlenv_L h1 h2.l, h3.length_eq, List.length_map]
theorem ixa_find (h : At w0 F0 (stars (ixL xb m r ++ bs)) w) (hr : Rep s r) (zero : Value) (k : Int) : lookv (.int .u64) zero true w (.map (some m.mb)) (.int .u64 k) = some (.tuple #[((findIt s.items k).map fun y => Value.agg (encIt y).toArray).getD zero, .bool (findIt s.items k).isSome]) := by
  have := At.look (i := 1) h rfl zero k
  rw [this, itsV, hr.its]
  cases findIt s.items k <;> rfl
theorem ixa_find1 (h : At w0 F0 (stars (ixL xb m r ++ bs)) w) (hr : Rep s r) (zero : Value) (k : Int) {y : It} (hy : findIt s.items k = some y) : lookv (.int .u64) zero false w (.map (some m.mb)) (.int .u64 k) = some (.agg (encIt y).toArray) := by
  have := At.look1 (i := 1) h rfl zero k
  rw [this, itsV, hr.its, hy]
  rfl
theorem ix_fits (h : At w0 F0 (stars (ixL xb m r ++ bs)) w) (lane size : Int) (hR : R (.bool (decide (fitsP r.c lane size))) w) : CALL PR F_index_Index_fits [pp xb, .int .i64 lane, .int .i64 size] w R := by
  refine C_index_Index_fits ?_
  unfold M_index_Index_fits
  obtain ⟨T, c⟩ := ixa_cell h
  have key : ∀ b : Bool, (b = true ↔ fitsP r.c lane size) → R (.bool b) w := fun b hb => by
    have e : decide (fitsP r.c lane size) = b := by
      cases b
      · exact decide_eq_false fun h => by simpa using hb.2 h
      · exact decide_eq_true (hb.1 rfl)
    rwa [e] at hR
  by_cases h1 : 0 ≤ lane
  · by_cases h2 : lane < r.c.lanes
    · by_cases h3 : 0 ≤ size
      · (repeat refine gg ?_)
        refine key _ ?_
        simp only [decide_eq_true_eq, fitsP]; omega
      · (repeat refine gg ?_)
        refine key _ ?_
        simp only [fitsP]; simp; omega
    · (repeat refine gg ?_)
      refine key _ ?_
      simp only [fitsP]; simp; omega
  · (repeat refine gg ?_)
    refine key _ ?_
    simp only [fitsP]; simp; omega
theorem ix_Put (h : At w0 F0 (indexHP xb s) w) (hI : QInv s cut B) (hB : B < 8000000000000000000) (lane : Int) {delay seg at_ : Nat} (size : Int) (hd : delay < 18446744073709551616)
    (hR : ∀ w', At w0 F0 (indexHP xb (putP s lane delay seg at_ size).1) w' → R (.tuple #[.int .u64 ((putP s lane delay seg at_ size).2.1 : Int), .int .i64 (putP s lane delay seg at_ size).2.2]) w') :
    CALL PR F_index_Index_Put [pp xb, .int .i64 lane, .int .u64 (delay : Int), .agg (whC seg at_ size).toArray] w R := by
  obtain ⟨m, r, hr, ha⟩ := ix_open h
  refine C_index_Index_Put ?_
  unfold M_index_Index_Put
  refine ixa_new ha fun w1 h1 f1 z1 => ?_
  obtain ⟨T1, c1⟩ := ixa_cell h1
  have hnow := hI.now
  (repeat refine gg ?_)
  refine lf_Born (by rw [hr.now]; omega) hd fun w2 f2 => ?_
  have h2 := h1.fr0 f2
  (repeat refine gg ?_)
  refine ixa_new (vs := encLf lf0) h2 fun w3 h3 f3 z3 => ?_
  refine h3.put (i := 13) (n := 4) rfl rfl rfl (encLf_one _) (by simp [encLf]) fun w4 h4 _ => ?_
  replace h4 : At w0 F0 (stars (ixL xb m r ++ [pts (hsz w2) (encLf (bornL r.now delay).1), pts (hsz w) (whC seg at_ size)])) w4 := h4
  obtain ⟨Tw, cw⟩ := h4.cell (i := 14) rfl
  (repeat refine gg ?_)
  refine ix_fits h4 lane size ?_
  rw [hr.c]
  unfold putP at hR
  have shut : ∀ {w' : World}, At w0 F0 (stars (ixL xb m r ++ [pts (hsz w2) (encLf (bornL r.now delay).1), pts (hsz w) (whC seg at_ size)])) w' → At w0 F0 (indexHP xb s) w' := fun h => ix_shut hr (ixa_pop (ixa_pop h))
  by_cases hf : fitsP s.c lane size
  · rw [if_neg (by simpa using hf)] at hR
    obtain ⟨T4, c4⟩ := ixa_cell h4
    have hml := ixa_mlen h4 hr hI
    (repeat refine gg ?_)
    by_cases hlen : 200 ≤ s.items.length
    · rw [if_pos hlen] at hR
      (repeat refine gg ?_)
      exact hR w4 (shut h4)
    · rw [if_neg hlen] at hR
      by_cases hn0 : s.next = 0
      · rw [if_pos (.inl hn0)] at hR
        have hrn : (r.next : Int) = 0 := by rw [hr.next, hn0]; rfl
        (repeat refine gg ?_)
        exact hR w4 (shut h4)
      · have hrn : ¬ (r.next : Int) = 0 := by rw [hr.next]; omega
        by_cases he : (bornL s.now delay).2 = 0
        · rw [if_neg (by rw [not_or]; exact ⟨hn0, by simpa using he⟩)] at hR
          have he2 : (bornL r.now delay).2 = 0 := by rw [hr.now]; exact he
          (repeat refine gg ?_)
          have h4d := At.drew h4
          refine ⟨fun _ w' => At w0 F0 (stars (ixL xb m r ++ [pts (hsz w2) (encLf (bornL r.now delay).1), pts (hsz w) (whC seg at_ size)])) w', h4d, h4d, ?_⟩
          have hx : ∀ w', At w0 F0 (stars (ixL xb m r ++ [pts (hsz w2) (encLf (bornL r.now delay).1), pts (hsz w) (whC seg at_ size)])) w' → load1 w' (.pointer (some ⟨xb, 0 + 4, none⟩)) = some (.int .u64 (r.next : Int)) := fun w' h => by
            obtain ⟨T, c⟩ := ixa_cell h
            exact load1_at c rfl
          have hwh : ∀ w', At w0 F0 (stars (ixL xb m r ++ [pts (hsz w2) (encLf (bornL r.now delay).1), pts (hsz w) (whC seg at_ size)])) w' → loadn 3 w' (.pointer (some ⟨hsz w, 0, none⟩)) = some (.agg (whC seg at_ size).toArray) := fun w' h => by
            obtain ⟨T, c⟩ := h.cell (i := 14) rfl
            exact loadn_all c rfl
          (repeat (first | refine gg ?_ | refine FLT.mk _ (fun _ hw_ => (hx _ hw_)) ?_ | refine FLT.mk _ (fun _ hw_ => (hwh _ hw_)) ?_ | (apply BND_build (encIt ⟨r.next, lane, lf0, 0, seg, at_, size⟩); exact rfl)))
          refine ixa_new (vs := encIt it0) h4d fun w5 h5 f5 z5 => ⟨ixa_pop h5, ixa_pop h5, ?_⟩
          refine h5.put (i := 13) (n := 10) rfl rfl rfl (encIt_one _) (by simp [encIt]) fun w6 h6 _ => ?_
          obtain ⟨T6, c6⟩ := ixa_cell h6
          have ea : binv .int .add (.int .u64 (r.next : Int)) (.int .u64 1) = some (.int .u64 (((r.next + 1) % 18446744073709551616 : Nat) : Int)) := by rw [binv_add, wrap_next]
          (repeat refine gg ?_)
          refine h6.store (i := 0) (j := 4) rfl ⟨rfl, rfl⟩ (by simp [ixC]) fun w7 h7 _ => ?_
          replace h7 : At w0 F0 (stars (ixL xb m { r with next := (r.next + 1) % 18446744073709551616 } ++ [pts (hsz w4.drew) (encIt ⟨r.next, lane, lf0, 0, seg, at_, size⟩), pts (hsz w2) (encLf (bornL r.now delay).1), pts (hsz w) (whC seg at_ size)])) w7 := h7
          obtain ⟨Ti, ci⟩ := h7.cell (i := 13) rfl
          obtain ⟨Tl, cl⟩ := h7.cell (i := 14) rfl
          (repeat (first | refine BND_step (loadn_all ci (encIt_len _)) ?_ | refine BND_step (loadn_all cl (encLf_len _)) ?_ | refine gg ?_))
          have hr7 : Rep { s with next := (s.next + 1) % 18446744073709551616 } { r with next := (r.next + 1) % 18446744073709551616 } := ⟨hr.c, hr.now, by show (r.next + 1) % 18446744073709551616 = _; rw [hr.next], hr.leases, hr.turns, hr.rows, hr.last, hr.seen, hr.its, hr.st⟩
          have hI7 := next_inv hI hn0
          have hlane : 0 ≤ lane ∧ lane < 8 := by
            have := hI.right
            unfold fitsP at hf; unfold rightC at this; omega
          have hnums := hI.nums
          refine ix_is h7 (small_of hI7 hr7) (by show 0 ≤ r.last ∧ r.last < _; rw [hr.last]; omega) (by show r.turns < _; rw [hr.turns]; omega) _ _ hlane fun w8 h8 => ?_
          obtain ⟨Tj, cj⟩ := h8.cell (i := 13) rfl
          (repeat refine gg ?_)
          have hrep := rep_is (it := ⟨r.next, lane, lf0, 0, seg, at_, size⟩) (l := (bornL r.now delay).1) hI7 hr7 (.inr ⟨fun y hy => by rw [hr.next]; exact (hI.ids y hy).2.2 hn0, rfl⟩) hlane (by rw [hr.now]; exact bornL_ok (id := r.next) hI he)
          have := hR w8 (by
            have g := ix_shut hrep.1 (ixa_pop (ixa_pop (ixa_pop h8)))
            rw [hr.now, hr.next] at g
            exact g)
          rw [hr.next]
          exact this
        · rw [if_pos (.inr he)] at hR
          have he2 : ¬ (bornL r.now delay).2 = 0 := by rw [hr.now]; exact he
          (repeat refine gg ?_)
          exact hR w4 (shut h4)
  · rw [if_pos hf] at hR
    (repeat refine gg ?_)
    exact hR w4 (shut h4)
end
end Go.Proofs.YtpgflmjeedbimaaGreat
end
section
namespace Go.Proofs.YtpgflmjeedbimaaGreat
open Go.Den Go.Ix
set_option linter.unusedSimpArgs false
set_option linter.unusedVariables false
theorem findIt_best {s : Px} {cut B : Nat} (hI : QInv s cut B) {lane : Int} {y : It} (h : bestF lane none s.items = some y) : y ∈ s.items ∧ cand lane y := (best_mem h).resolve_left (by simp)
def LaneIs (lane : Int) (k : Nat) : Prop := lane = -1 ∨ lane = (k : Int)
instance (lane : Int) (k : Nat) : Decidable (LaneIs lane k) := by unfold LaneIs; exact inferInstance
theorem leaseL_ok {s : Px} {cut B : Nat} (h : QInv s cut B) {y : It} (hy : y ∈ s.items) {span : Nat} (he : (leaseL y.lf s.now span (s.leases + 1)).2 = 0) : NewOk { s with leases := s.leases + 1 } cut y.id (leaseL y.lf s.now span (s.leases + 1)).1 := by
  have hl := h.live y hy
  have hn := h.now
  unfold leaseL spanL at he ⊢
  by_cases h1 : y.lf.st = 1
  · rw [if_neg (by simpa using h1)] at he ⊢
    by_cases h0 : span = 0
    · rw [if_pos h0] at he; simp at he
    · rw [if_neg h0] at he ⊢
      by_cases h2 : s.now + span < 18446744073709551616
      · rw [if_pos h2] at he ⊢
        unfold LiveOk at hl
        refine .inr (.inr (.inl ⟨rfl, by show cut < s.now + span; omega, h2, Nat.le_add_left _ _, Nat.le_refl _, by show 1 ≤ y.lf.cnt + 1; omega, by show y.lf.cnt + 1 ≤ s.c.del; omega, fun z hz hne h3 => ?_⟩))
        have := h.live z hz
        unfold LiveOk at this
        show z.lf.tok ≠ s.leases + 1
        omega
      · rw [if_neg h2] at he; simp at he
  · rw [if_pos (by simpa using h1)] at he; simp at he
theorem leases_inv {s : Px} {cut B : Nat} (h : QInv s cut B) : QInv { s with leases := s.leases + 1 } cut (B + 1) := by
  have := h.nums
  refine ⟨h.right, h.rise, h.ids, h.len, h.fit, fun y hy => ?_, h.turn, h.tok, h.dead, h.rows, h.rowsN, h.rowsR, h.place, h.now, h.next, by simp only; omega, h.seen⟩
  have := h.live y hy
  unfold LiveOk at this ⊢
  simp only
  omega
theorem peek_mem {s : Px} {cut B : Nat} (hI : QInv s cut B) {lane : Int} (h : (peekP s lane).2 = 0) : (peekP s lane).1 ∈ s.items ∧ bestF lane none s.items = some (peekP s lane).1 := by
  unfold peekP at h ⊢
  split at h
  · simp at h
  · rename_i hl
    rw [if_neg hl]
    cases hb : bestF lane none s.items with
    | none => rw [hb] at h; simp at h
    | some y => exact ⟨(findIt_best hI hb).1, rfl⟩
theorem leaseP_inv {s : Px} {cut B : Nat} (h : QInv s cut B) (lane : Int) (span : Nat) : QInv (leaseP s lane span).1 cut (B + 2) := by
  unfold leaseP
  split
  · exact h.more (by omega)
  · split
    · exact h.more (by omega)
    · rename_i hp
      split
      · exact h.more (by omega)
      · rename_i he
        have hm := (peek_mem h (Classical.not_not.1 hp)).1
        have g := leases_inv h
        exact isP_inv g (.inl hm) (h.ids _ hm).2.2 (h.fit _ hm) (leaseL_ok h hm (Classical.not_not.1 he))
def lbC (m : Mx) : List Value := [pp (m.lb 0), pp (m.lb 1), pp (m.lb 2), pp (m.lb 3), pp (m.lb 4), pp (m.lb 5), pp (m.lb 6), pp (m.lb 7)]
theorem indexav_lb {m : Mx} {i : Nat} (h : i < 8) : indexav false 8 1 (.agg (lbC m).toArray) (.int .i64 (i : Int)) = some (pp (m.lb i)) := by
  rcases lt8 h with rfl | rfl | rfl | rfl | rfl | rfl | rfl | rfl <;> rfl
theorem join_w2 {f : (Value → Value → World → Prop) → Prop} {k : Value → Value → World → Prop} (Q : Value → Value → World → Prop) (h : ∀ K, (∀ a b w', Q a b w' → K a b w') → f K) (hk : ∀ a b w', Q a b w' → k a b w') : JOIN f k := h k hk
set_option linter.unusedSimpArgs false
set_option linter.unusedVariables false
set_option maxRecDepth 20000
set_option maxHeartbeats 4000000
attribute [local congr] BND_cg COND_cg GEF_cg
attribute [local irreducible] capl slicea load1 loadn iaddr iaddra faddr storev newslice binv lookv mupd mdel mlenv mentry mestore slicev slicev3 slices indexs indexav textv rangev nexts clearv shiftv eqaggv convi buildv pickv lens lenl unv nilchk extractv partn JOIN
section
variable {w0 w : World} {F0 : List Nat} {xb : Nat} {m : Mx} {r : Rx} {bs : List HP} {s : Px} {cut B : Nat} {R : Value → World → Prop}
theorem ixa_first (h : At w0 F0 (stars (ixL xb m r ++ bs)) w) {k : Nat} (hk : k < 8) (hR : ∀ w', At w0 F0 (stars (ixL xb m r ++ bs)) w' → R (.tuple #[.int .u64 ((r.qs k).headD 0), .bool (!(r.qs k).isEmpty)]) w') : CALL PR F_lane_Lane_First [pp (m.lb k)] w R := by
  obtain ⟨A, hA, _⟩ := h.get (5 + k) (ixL_lane hk)
  exact ln_First hA fun w' f' => hR w' (h.fr0 f')
theorem ix_Peek' (h : At w0 F0 (stars (ixL xb m r ++ bs)) w) (hr : Rep s r) (hI : QInv s cut B) (lane : Int) (hR : ∀ w', At w0 F0 (stars (ixL xb m r ++ bs)) w' → R (.tuple #[.agg (encIt (peekP s lane).1).toArray, .int .i64 (peekP s lane).2]) w') :
    CALL PR F_index_Index_Peek [pp xb, .int .i64 lane] w R := by
  refine C_index_Index_Peek ?_
  unfold M_index_Index_Peek
  refine ixa_new (vs := encIt it0) h fun w1 h1 f1 z1 => ?_
  obtain ⟨T1, c1⟩ := ixa_cell h1
  have hrc := hr.c
  have bad : ∀ e : Int, peekP s lane = (it0, e) → ∀ {w'}, At w0 F0 (stars (ixL xb m r ++ (pts (hsz w) (encIt it0) :: bs))) w' →
      BND (storev 10 w' (.pointer (some ⟨hsz w, 0, none⟩)) (.agg (encIt it0).toArray)) fun w2 => BND (loadn 10 w2 (.pointer (some ⟨hsz w, 0, none⟩))) fun v => R (.tuple #[v, .int .i64 e]) w2 := fun e he w' h' =>
    ret10 (K := fun v w' => R (.tuple #[v, .int .i64 e]) w') it0 h' rfl fun w3 h3 => by
      have := hR w3 (ixa_pop h3)
      rwa [he] at this
  by_cases hl1 : lane < -1
  · (repeat (first | refine gg ?_ | (apply BND_build (encIt it0); exact rfl)))
    exact bad 1 (by unfold peekP; rw [if_pos (.inl hl1)]) h1
  by_cases hl2 : r.c.lanes ≤ lane
  · (repeat (first | refine gg ?_ | (apply BND_build (encIt it0); exact rfl)))
    exact bad 1 (by unfold peekP; rw [if_pos (.inr (by rw [← hrc]; exact hl2))]) h1
  have hpk : peekP s lane = match bestF lane none s.items with
    | none => (it0, 11)
    | some y => (y, 0) := by
    unfold peekP
    rw [if_neg (by rw [not_or, ← hrc]; omega)]
    cases bestF lane none s.items <;> rfl
  have e8 : loadn 8 w1 (.pointer (some ⟨xb, 0 + 8, none⟩)) = some (.agg (lbC m).toArray) := by
    rw [loadn_blk c1 (by simp [ixC])]; rfl
  (repeat refine gg ?_)
  refine loop_up 0 8 (fun i w' => At w0 F0 (stars (ixL xb m r ++ (pts (hsz w) (encIt it0) :: bs))) w' ∧ ∀ k, k < i → r.qs k = [] ∨ ¬ (lane = -1 ∨ lane = (k : Int))) ⟨h1, fun k hk => by omega⟩ (by omega) ?_
  rintro i w2 - hi ⟨h2, hb⟩ J mm hJ
  by_cases hlt : i < 8
  · (repeat (first | refine BND_step (indexav_lb hlt) ?_ | refine gg ?_))
    refine ixa_first h2 hlt fun w3 h3 => ?_
    obtain ⟨T3, c3⟩ := ixa_cell h3
    cases hq : r.qs i with
    | nil =>
      simp only [List.isEmpty_nil, Bool.not_true, List.headD_nil]
      (repeat refine gg ?_)
      refine hJ _ hlt ⟨h3, fun k hk => ?_⟩
      by_cases e : k = i
      · subst e; exact .inl hq
      · exact hb k (by omega)
    | cons id rest =>
      simp only [List.isEmpty_cons, Bool.not_false, List.headD_cons]
      have found : LaneIs lane i → BND (lookv (.int .u64) (.agg (encIt it0).toArray) false w3 (.map (some m.mb)) (.int .u64 id)) fun t50 =>
          BND (storev 10 w3 (.pointer (some ⟨hsz w, 0, none⟩)) t50) fun w5 => BND (loadn 10 w5 (.pointer (some ⟨hsz w, 0, none⟩))) fun r_ => R (.tuple #[r_, .int .i64 0]) w5 := fun hli => by
        obtain ⟨y, hy1, hy2⟩ := peek_first hI hr hlt hli hb hq
        have hl := ixa_find1 h3 hr (.agg (encIt it0).toArray) id hy1
        (repeat refine gg ?_)
        refine ret10 (K := fun v w' => R (.tuple #[v, .int .i64 0]) w') y h3 rfl fun w4 h4 => ?_
        have := hR w4 (ixa_pop h4)
        rw [hpk, hy2] at this
        exact this
      by_cases e1 : lane = -1
      · (repeat refine gg ?_)
        exact found (.inl e1)
      · by_cases e2 : lane = (i : Int)
        · (repeat refine gg ?_)
          exact found (.inr e2)
        · (repeat refine gg ?_)
          refine hJ _ hlt ⟨h3, fun k hk => ?_⟩
          by_cases e : k = i
          · subst e; exact .inr (by omega)
          · exact hb k (by omega)
  · obtain rfl : i = 8 := by omega
    (repeat (first | refine gg ?_ | (apply BND_build (encIt it0); exact rfl)))
    exact bad 11 (by rw [hpk, peek_none hI hr hb]) h2
theorem ix_Get (h : At w0 F0 (indexHP xb s) w) (id : Int) (hR : ∀ w', At w0 F0 (indexHP xb s) w' → R (.tuple #[.agg (encIt (getP s id).1).toArray, .bool (getP s id).2]) w') :
    CALL PR F_index_Index_Get [pp xb, .int .u64 id] w R := by
  obtain ⟨m, r, hr, ha⟩ := ix_open h
  refine C_index_Index_Get ?_
  unfold M_index_Index_Get
  refine ixa_new (vs := encIt it0) ha fun w1 h1 f1 z1 => ?_
  obtain ⟨T1, c1⟩ := ixa_cell h1
  have hl := ixa_find h1 hr (.agg (encIt it0).toArray) id
  have key : ((findIt s.items id).map fun y => Value.agg (encIt y).toArray).getD (.agg (encIt it0).toArray) = .agg (encIt (getP s id).1).toArray ∧ (findIt s.items id).isSome = (getP s id).2 := by
    unfold getP
    cases findIt s.items id <;> exact ⟨rfl, rfl⟩
  rw [key.1, key.2] at hl
  (repeat refine gg ?_)
  refine ixa_new (vs := encIt it0) h1 fun w2 h2 f2 z2 => ?_
  refine h2.put (i := 13) (n := 10) rfl rfl rfl (encIt_one _) (by simp [encIt]) fun w3 h3 _ => ?_
  obtain ⟨T3, c3⟩ := h3.cell (i := 13) rfl
  (repeat (first | refine BND_step (loadn_all c3 (encIt_len _)) ?_ | refine gg ?_))
  have h3' : At w0 F0 (stars (ixL xb m r ++ (pts (hsz w) (encIt it0) :: []))) w3 := ixa_pop h3
  exact ret10 (K := fun v w' => R (.tuple #[v, .bool (getP s id).2]) w') _ h3' rfl fun w4 h4 => hR w4 (ix_shut hr (ixa_pop h4))
theorem seen_rep {s : Px} {r : Rx} (hr : Rep s r) (name : ByteArray) (n : Int) : Rep (seenP s name n).1 { r with seen := (nextA r.rows r.seen name n).seen } := ⟨hr.c, hr.now, hr.next, hr.leases, hr.turns, hr.rows, hr.last, by simp only [seenP, hr.rows, hr.seen], hr.its, hr.st⟩
theorem ix_Seen (h : At w0 F0 (indexHP xb s) w) (hI : QInv s cut B) {name : ByteArray} (hs : name.size < 100000) (n : Int)
    (hR : ∀ w' v G, At w0 F0 (indexHP xb (seenP s name n).1) w' → Slc encUd 1 w' v (seenP s name n).2.1 G → (∀ b ∈ G, hsz w ≤ b) → R (.tuple #[v, .int .i64 (seenP s name n).2.2]) w') :
    CALL PR F_index_Index_Seen [pp xb, .string name, .int .i64 n] w R := by
  obtain ⟨m, r, hr, ha⟩ := ix_open h
  refine C_index_Index_Seen ?_
  unfold M_index_Index_Seen
  obtain ⟨T1, c1⟩ := ixa_cell ha
  (repeat refine gg ?_)
  obtain ⟨A, hA, upd⟩ := ha.upd 4 rfl
  have hrl := (small_of hI hr).rows
  refine dd_Next hA (by omega) hs n fun w1 v G h1 s1 n1 f1 => ?_
  (repeat refine gg ?_)
  have := hR w1 v G (ix_shut (m := m) (seen_rep hr name n) (upd w1 A (deadHP m.db r.rows r.last (nextA r.rows r.seen name n).seen) h1 f1 fun b hb => .inl hb))
  simp only [seenP, ← hr.rows, ← hr.seen] at this
  exact this s1 n1
theorem ix_Lease (h : At w0 F0 (indexHP xb s) w) (hI : QInv s cut B) (hB : B < 8000000000000000000) (lane : Int) {span : Nat} (hsp : span < 18446744073709551616)
    (hR : ∀ w', At w0 F0 (indexHP xb (leaseP s lane span).1) w' → R (.tuple #[.agg (encIt (leaseP s lane span).2.1).toArray, .int .i64 (leaseP s lane span).2.2]) w') :
    CALL PR F_index_Index_Lease [pp xb, .int .i64 lane, .int .u64 (span : Int)] w R := by
  obtain ⟨m, r, hr, ha⟩ := ix_open h
  refine C_index_Index_Lease ?_
  unfold M_index_Index_Lease
  refine ixa_new (vs := encIt it0) ha fun w1 h1 f1 z1 => ?_
  refine ix_Peek' h1 hr hI lane fun w2 h2 => ?_
  (repeat refine gg ?_)
  refine ixa_new (vs := encIt it0) h2 fun w3 h3 f3 z3 => ?_
  refine h3.put (i := 13) (n := 10) rfl rfl rfl (encIt_one _) (by simp [encIt]) fun w4 h4 _ => ?_
  replace h4 : At w0 F0 (stars (ixL xb m r ++ [pts (hsz w2) (encIt (peekP s lane).1), pts (hsz w) (encIt it0)])) w4 := h4
  have hnums := hI.nums
  have hnow := hI.now
  have bad : ∀ e : Int, leaseP s lane span = (s, it0, e) → ∀ {w'}, At w0 F0 (stars (ixL xb m r ++ [pts (hsz w2) (encIt (peekP s lane).1), pts (hsz w) (encIt it0)])) w' →
      BND (storev 10 w' (.pointer (some ⟨hsz w, 0, none⟩)) (.agg (encIt it0).toArray)) fun w2 => BND (loadn 10 w2 (.pointer (some ⟨hsz w, 0, none⟩))) fun v => R (.tuple #[v, .int .i64 e]) w2 := fun e he w' h' =>
    ret10 (K := fun v w' => R (.tuple #[v, .int .i64 e]) w') it0 (ixa_pop h') rfl fun w3 h3 => by
      have := hR w3 (by rw [he]; exact ix_shut hr (ixa_pop h3))
      rwa [he] at this
  (repeat refine gg ?_)
  refine join_v (fun v w' => At w0 F0 (stars (ixL xb m r ++ [pts (hsz w2) (encIt (peekP s lane).1), pts (hsz w) (encIt it0)])) w' ∧ v = .int .i64 (if span = 0 then 1 else (peekP s lane).2)) ?_ ?_
  · intro K hK
    by_cases h0 : span = 0
    · have h0' : (span : Int) = 0 := by omega
      (repeat refine gg ?_)
      exact hK _ _ ⟨h4, by rw [if_pos h0]⟩
    · have h0' : ¬ (span : Int) = 0 := by omega
      (repeat refine gg ?_)
      exact hK _ _ ⟨h4, by rw [if_neg h0]⟩
  rintro v w5 ⟨h5, rfl⟩
  by_cases h0 : span = 0
  · rw [if_pos h0]
    (repeat (first | refine gg ?_ | (apply BND_build (encIt it0); exact rfl)))
    exact bad 1 (by unfold leaseP; rw [if_pos h0]) h5
  rw [if_neg h0]
  by_cases hp : (peekP s lane).2 = 0
  · (repeat refine gg ?_)
    have h5d := At.drew h5
    have hS : ∀ w', At w0 F0 (stars (ixL xb m r ++ [pts (hsz w2) (encIt (peekP s lane).1), pts (hsz w) (encIt it0)])) w' → ∃ T, blk w' xb = some (.cells (ixC m r).toArray T (0, 0)) := fun w' h => ixa_cell h
    refine ⟨fun _ w' => At w0 F0 (stars (ixL xb m r ++ [pts (hsz w2) (encIt (peekP s lane).1), pts (hsz w) (encIt it0)])) w', h5d, h5d, h5d, ?_⟩
    have hx3 : ∀ w', At w0 F0 (stars (ixL xb m r ++ [pts (hsz w2) (encIt (peekP s lane).1), pts (hsz w) (encIt it0)])) w' → load1 w' (.pointer (some ⟨xb, 0 + 3, none⟩)) = some (.int .u64 (s.now : Int)) := fun w' h => by
      obtain ⟨T, c⟩ := hS w' h
      rw [← hr.now]; exact load1_at c rfl
    have hx5 : ∀ w', At w0 F0 (stars (ixL xb m r ++ [pts (hsz w2) (encIt (peekP s lane).1), pts (hsz w) (encIt it0)])) w' → load1 w' (.pointer (some ⟨xb, 0 + 5, none⟩)) = some (.int .u64 (s.leases : Int)) := fun w' h => by
      obtain ⟨T, c⟩ := hS w' h
      rw [← hr.leases]; exact load1_at c rfl
    have hl4 : ∀ w', At w0 F0 (stars (ixL xb m r ++ [pts (hsz w2) (encIt (peekP s lane).1), pts (hsz w) (encIt it0)])) w' → loadn 4 w' (.pointer (some ⟨hsz w2, 0 + 2, none⟩)) = some (.agg (encLf (peekP s lane).1.lf).toArray) := fun w' h => by
      obtain ⟨T, c⟩ := h.cell (i := 13) rfl
      rw [loadn_blk c (by simp [encIt])]; rfl
    have ea : binv .int .add (.int .u64 (s.leases : Int)) (.int .u64 1) = some (.int .u64 ((s.leases + 1 : Nat) : Int)) := by rw [binv_add, wrap_u64 (by omega) (by omega)]; congr 2
    (repeat (first | refine gg ?_ | refine FLT.mk _ (fun _ hw_ => (hl4 _ hw_)) ?_ | refine FLT.mk _ (fun _ hw_ => (hx3 _ hw_)) ?_ | refine FLT.mk _ (fun _ hw_ => (hx5 _ hw_)) ?_))
    have hm := peek_mem hI hp
    have hlv := hI.live _ hm.1
    have hright := hI.right
    unfold rightC at hright
    have hcnt : -1000000000000000000 < (peekP s lane).1.lf.cnt ∧ (peekP s lane).1.lf.cnt < 1000000000000000000 := by unfold LiveOk at hlv; omega
    refine join_w2 (fun e l w' => ∃ b zs, e = .int .i64 (leaseL (peekP s lane).1.lf s.now span (s.leases + 1)).2 ∧ l = .pointer (some ⟨b, 0, none⟩) ∧ At w0 F0 (stars (ixL xb m r ++ [pts b (encLf (leaseL (peekP s lane).1.lf s.now span (s.leases + 1)).1), pts (hsz w2) (encIt (peekP s lane).1), pts (hsz w) (encIt it0)])) w' ∧ zs = ()) ?_ ?_
    · intro K hK
      refine ⟨?_, ?_⟩
      · refine lf_Lease _ (by omega) hsp hcnt fun w6 f6 => ?_
        (repeat refine gg ?_)
        refine ixa_new (vs := encLf lf0) (h5d.fr0 f6) fun w7 h7 f7 z7 => ⟨ixa_pop h7, ixa_pop h7, ixa_pop h7, ?_⟩
        refine h7.put (i := 13) (n := 4) rfl rfl rfl (encLf_one _) (by simp [encLf]) fun w8 h8 _ => ?_
        exact hK _ _ _ ⟨_, (), rfl, rfl, h8, rfl⟩
      · refine ixa_new (vs := encLf lf0) h5d fun w7 h7 f7 z7 => ⟨ixa_pop h7, ixa_pop h7, ixa_pop h7, ?_⟩
        refine lf_Lease _ (by omega) hsp hcnt fun w6 f6 => ?_
        (repeat refine gg ?_)
        refine (h7.fr0 f6).put (i := 13) (n := 4) rfl rfl rfl (encLf_one _) (by simp [encLf]) fun w8 h8 _ => ?_
        exact hK _ _ _ ⟨_, (), rfl, rfl, h8, rfl⟩
    · rintro _ _ w8 ⟨b, _, rfl, rfl, h8, _⟩
      by_cases he : (leaseL (peekP s lane).1.lf s.now span (s.leases + 1)).2 = 0
      · obtain ⟨T8, c8⟩ := ixa_cell h8
        have ea2 : binv .int .add (.int .u64 (r.leases : Int)) (.int .u64 1) = some (.int .u64 ((r.leases + 1 : Nat) : Int)) := by rw [hr.leases]; exact ea
        (repeat refine gg ?_)
        refine h8.store (i := 0) (j := 5) rfl ⟨rfl, rfl⟩ (by simp [ixC]) fun w9 h9 _ => ?_
        replace h9 : At w0 F0 (stars (ixL xb m { r with leases := r.leases + 1 } ++ [pts b (encLf (leaseL (peekP s lane).1.lf s.now span (s.leases + 1)).1), pts (hsz w2) (encIt (peekP s lane).1), pts (hsz w) (encIt it0)])) w9 := h9
        obtain ⟨Ti, ci⟩ := h9.cell (i := 14) rfl
        obtain ⟨Tl, cl⟩ := h9.cell (i := 13) rfl
        (repeat (first | refine BND_step (loadn_all ci (encIt_len _)) ?_ | refine BND_step (loadn_all cl (encLf_len _)) ?_ | refine gg ?_))
        have hr9 : Rep { s with leases := s.leases + 1 } { r with leases := r.leases + 1 } := ⟨hr.c, hr.now, hr.next, by show r.leases + 1 = _; rw [hr.leases], hr.turns, hr.rows, hr.last, hr.seen, hr.its, hr.st⟩
        have hI9 := leases_inv hI
        have hlane := ready_of hI hm.1
        refine ix_is h9 (small_of hI9 hr9) (by show 0 ≤ r.last ∧ r.last < _; rw [hr.last]; omega) (by show r.turns < _; rw [hr.turns]; omega) _ _ hlane fun w10 h10 => ?_
        have hrep := rep_is (it := (peekP s lane).1) hI9 hr9 (.inl hm.1) hlane (leaseL_ok hI hm.1 he)
        have el : leaseP s lane span = ((isP { s with leases := s.leases + 1 } (peekP s lane).1 (leaseL (peekP s lane).1.lf s.now span (s.leases + 1)).1).1, (isP { s with leases := s.leases + 1 } (peekP s lane).1 (leaseL (peekP s lane).1.lf s.now span (s.leases + 1)).1).2, 0) := by
          unfold leaseP
          rw [if_neg h0, if_neg (by simpa using hp), if_neg (by simpa using he)]
        rw [el] at hR
        rw [hrep.2]
        exact ret10 (K := fun v w' => R (.tuple #[v, .int .i64 0]) w') _ (ixa_pop (ixa_pop h10)) rfl fun w11 h11 => hR w11 (ix_shut hrep.1 (ixa_pop h11))
      · (repeat (first | refine gg ?_ | (apply BND_build (encIt it0); exact rfl)))
        exact bad _ (by unfold leaseP; rw [if_neg h0, if_neg (by simpa using hp), if_pos he]) (ixa_pop h8)
  · (repeat (first | refine gg ?_ | (apply BND_build (encIt it0); exact rfl)))
    exact bad _ (by unfold leaseP; rw [if_neg h0, if_pos hp]) h5
end
end Go.Proofs.YtpgflmjeedbimaaGreat
end
section
namespace Go.Proofs.YtpgflmjeedbimaaGreat
open Go.Den Go.Ix
set_option linter.unusedSimpArgs false
set_option linter.unusedVariables false
theorem hold_mem {l : List It} {tok : Int} {y : It} (h : l.find? (hold tok) = some y) : y ∈ l ∧ y.lf.st = 3 ∧ (y.lf.tok : Int) = tok := by
  have h1 := List.find?_some h
  unfold hold at h1
  simp only [Bool.and_eq_true, decide_eq_true_eq] at h1
  exact ⟨List.mem_of_find?_eq_some h, h1⟩
theorem onHeld_inv {s : Px} {cut B : Nat} (h : QInv s cut B) (tok : Nat) (f : Lf → Lf × Int) (hok : ∀ y ∈ s.items, y.lf.st = 3 → y.lf.tok = tok → (f y.lf).2 = 0 → NewOk s cut y.id (f y.lf).1) : QInv (onHeld s tok f).1 cut (B + 1) := by
  unfold onHeld
  split
  · exact h.more (by omega)
  · rename_i y hy
    split
    · exact h.more (by omega)
    · rename_i he
      obtain ⟨h1, h2, h3⟩ := hold_mem hy
      exact isP_inv h (.inl h1) (h.ids y h1).2.2 (h.fit y h1) (hok y h1 h2 (by omega) (Classical.not_not.1 he))
theorem ackL_ok {s : Px} {cut : Nat} {id tok : Nat} {l : Lf} (h : (ackL l tok).2 = 0) : NewOk s cut id (ackL l tok).1 := by
  unfold ackL at *
  split at h
  · rename_i hh; rw [if_pos hh]; exact .inr (.inr (.inr (.inr rfl)))
  · simp at h
theorem endL_ok {s : Px} {cut : Nat} {id : Nat} {l : Lf} (h1 : 0 ≤ l.cnt) (h2 : l.cnt ≤ s.c.del) : NewOk s cut id (endL l s.c.del) := by
  unfold endL
  by_cases h : s.c.del ≤ l.cnt
  · rw [if_pos h]; exact .inr (.inr (.inr (.inl ⟨rfl, rfl, rfl, by show l.cnt = _; omega⟩)))
  · rw [if_neg h]; exact .inl ⟨rfl, rfl, rfl, h1, by show l.cnt < _; omega⟩
theorem laterL_ok {s : Px} {cut : Nat} {id delay : Nat} {c : Int} (hn : cut ≤ s.now) (h1 : 0 ≤ c) (h2 : c < s.c.del) (he : (laterL c s.now delay).2 = 0) : NewOk s cut id (laterL c s.now delay).1 := by
  unfold laterL at he ⊢
  by_cases h0 : delay = 0
  · rw [if_pos h0]
    exact .inl ⟨rfl, rfl, rfl, h1, h2⟩
  · rw [if_neg h0] at he ⊢
    by_cases h3 : s.now + delay < 18446744073709551616
    · rw [if_pos h3]
      exact .inr (.inl ⟨rfl, by show cut < s.now + delay; omega, h3, rfl, h1, h2⟩)
    · rw [if_neg h3] at he
      simp at he
theorem nackL_ok {s : Px} {cut B : Nat} (hI : QInv s cut B) {tok delay : Nat} {y : It} (hy : y ∈ s.items) (h3 : y.lf.st = 3) (he : (nackL y.lf tok s.now delay s.c.del).2 = 0) : NewOk s cut y.id (nackL y.lf tok s.now delay s.c.del).1 := by
  have hl := hI.live y hy
  unfold LiveOk at hl
  unfold nackL at he ⊢
  split at he
  · rename_i hh
    rw [if_pos hh]
    split at he
    · rename_i hm; rw [if_pos hm]; exact endL_ok (by omega) (by omega)
    · rename_i hm; rw [if_neg hm]; exact laterL_ok hI.now.2 (by omega) (by omega) he
  · simp at he
theorem extendL_ok {s : Px} {cut B : Nat} (hI : QInv s cut B) {tok span : Nat} {y : It} (hy : y ∈ s.items) (h3 : y.lf.st = 3) (ht : y.lf.tok = tok) (he : (extendL y.lf tok s.now span).2 = 0) : NewOk s cut y.id (extendL y.lf tok s.now span).1 := by
  have hl := hI.live y hy
  unfold LiveOk at hl
  have hn := hI.now
  unfold extendL spanL at he ⊢
  split at he
  · rename_i hh
    rw [if_pos hh]
    split at he
    · simp at he
    · rename_i h0
      rw [if_neg h0]
      split at he
      · rename_i h2
        rw [if_pos h2]
        refine .inr (.inr (.inl ⟨rfl, by show cut < s.now + span; omega, h2, by show 1 ≤ tok; omega, by show tok ≤ s.leases; omega, by show 1 ≤ y.lf.cnt; omega, by show y.lf.cnt ≤ s.c.del; omega, fun z hz hne hz3 e => ?_⟩))
        have hzy : z ≠ y := fun e => hne (by rw [e])
        exact pair_all (fun a b g h1 h2 e => g h2 h1 e.symm) hI.tok z y hz hy hzy hz3 h3 (by show z.lf.tok = y.lf.tok; rw [ht]; exact e)
      · simp at he
  · simp at he
theorem reviveP_inv {s : Px} {cut B : Nat} (h : QInv s cut B) (id : Int) (f : Lf → Lf × Int) (hok : ∀ y ∈ s.items, (f y.lf).2 = 0 → NewOk s cut y.id (f y.lf).1) : QInv (reviveP s id f).1 cut (B + 1) := by
  unfold reviveP
  split
  · exact h.more (by omega)
  · rename_i y hy
    split
    · rename_i he
      obtain ⟨h1, h2⟩ := findIt_some hy
      exact isP_inv h (.inl h1) (h.ids y h1).2.2 (h.fit y h1) (hok y h1 he)
    · exact h.more (by omega)
theorem requeueL_ok {s : Px} {cut B : Nat} (hI : QInv s cut B) {id : Nat} {l : Lf} (he : (requeueL l).2 = 0) : NewOk s cut id (requeueL l).1 := by
  have := hI.right
  unfold rightC at this
  unfold requeueL at he ⊢
  split at he
  · rename_i h; rw [if_pos h]; exact .inl ⟨rfl, rfl, rfl, Int.le_refl _, by show (0 : Int) < s.c.del; omega⟩
  · simp at he
theorem purgeL_ok {s : Px} {cut : Nat} {id : Nat} {l : Lf} (he : (purgeL l).2 = 0) : NewOk s cut id (purgeL l).1 := by
  unfold purgeL at he ⊢
  split at he
  · rename_i h; rw [if_pos h]; exact .inr (.inr (.inr (.inr rfl)))
  · simp at he
set_option linter.unusedSimpArgs false
set_option linter.unusedVariables false
set_option maxRecDepth 20000
set_option maxHeartbeats 4000000
attribute [local congr] BND_cg COND_cg GEF_cg
attribute [local irreducible] capl slicea load1 loadn iaddr iaddra faddr storev newslice binv lookv mupd mdel mlenv mentry mestore slicev slicev3 slices indexs indexav textv rangev nexts clearv shiftv eqaggv convi buildv pickv lens lenl unv nilchk extractv partn JOIN
section
variable {w0 w : World} {F0 : List Nat} {xb : Nat} {m : Mx} {r : Rx} {bs : List HP} {s : Px} {cut B : Nat} {R : Value → World → Prop}
theorem ix_leased (h : At w0 F0 (stars (ixL xb m r ++ bs)) w) (hr : Rep s r) (hI : QInv s cut B) (hB : B < 8000000000000000000) (tok : Nat) (f : Lf → Lf × Int) {fv : Value}
    (hf : ∀ w1 y (K : Value → World → Prop), At w0 F0 (stars (ixL xb m r ++ bs)) w1 → y ∈ s.items → (∀ w2, Fr [] w1 w2 → K (.tuple #[.agg (encLf (f y.lf).1).toArray, .int .i64 (f y.lf).2]) w2) → CALLV PR fv [.agg (encLf y.lf).toArray] w1 K)
    (hok : ∀ y ∈ s.items, y.lf.st = 3 → y.lf.tok = tok → (f y.lf).2 = 0 → NewOk s cut y.id (f y.lf).1)
    (hR : ∀ w' r', Rep (onHeld s tok f).1 r' → At w0 F0 (stars (ixL xb m r' ++ bs)) w' → R (.tuple #[.agg (encIt (onHeld s tok f).2.1).toArray, .int .i64 (onHeld s tok f).2.2]) w') :
    CALL PR F_index_Index_leased [pp xb, .int .u64 (tok : Int), fv] w R := by
  refine C_index_Index_leased ?_
  unfold M_index_Index_leased
  refine ixa_new (vs := encIt it0) h fun w1 h1 f1 z1 => ?_
  obtain ⟨T1, c1⟩ := ixa_cell h1
  have hl := At.look (i := 3) h1 rfl (.int .u64 0) (tok : Int)
  unfold heldV at hl
  rw [hr.st.held] at hl
  unfold onHeld at hR
  cases hfd : s.items.find? (hold (tok : Int)) with
  | none =>
    rw [hfd] at hl hR
    dsimp only at hR
    (repeat (first | refine gg ?_ | (apply BND_build (encIt it0); exact rfl)))
    exact ret10 (K := fun v w' => R (.tuple #[v, .int .i64 9]) w') it0 h1 rfl fun w3 h3 => hR w3 r hr (ixa_pop h3)
  | some y =>
    rw [hfd] at hl hR
    dsimp only at hR
    obtain ⟨hy1, hy2, hy3⟩ := hold_mem hfd
    simp only [Option.map_some, Option.getD_some, Option.isSome_some] at hl
    have hfi := findIt_mem hI.rise hy1
    have hl2 := ixa_find1 h1 hr (.agg (encIt it0).toArray) _ hfi
    (repeat (first | refine gg ?_ | (apply BND_part (encLf y.lf); exact rfl)))
    refine hf w1 y _ (ixa_pop h1) hy1 fun w2 f2 => ?_
    (repeat refine gg ?_)
    refine ixa_new (vs := encLf lf0) (h1.fr0 f2) fun w3 h3 f3 z3 => ?_
    refine h3.put (i := 13) (n := 4) rfl rfl rfl (encLf_one _) (by simp [encLf]) fun w4 h4 _ => ?_
    replace h4 : At w0 F0 (stars (ixL xb m r ++ (pts (hsz w2) (encLf (f y.lf).1) :: pts (hsz w) (encIt it0) :: bs))) w4 := h4
    by_cases he : (f y.lf).2 = 0
    · rw [if_neg (by simpa using he)] at hR
      have h4d := At.drew h4
      obtain ⟨T4, c4⟩ := ixa_cell h4d
      obtain ⟨Tl, cl⟩ := h4d.cell (i := 13) rfl
      have hl4 := ixa_find1 h4d hr (.agg (encIt it0).toArray) _ hfi
      (repeat (first | refine BND_step (loadn_all cl (encLf_len _)) ?_ | refine gg ?_))
      have hnums := hI.nums
      have hlane := ready_of hI hy1
      refine ix_is h4d (small_of hI hr) (by rw [hr.last]; omega) (by rw [hr.turns]; omega) _ _ hlane fun w5 h5 => ?_
      have hrep := rep_is hI hr (.inl hy1) hlane (hok y hy1 hy2 (by omega) he)
      rw [hrep.2]
      exact ret10 (K := fun v w' => R (.tuple #[v, .int .i64 0]) w') _ (ixa_pop h5) rfl fun w6 h6 => hR w6 _ hrep.1 (ixa_pop h6)
    · rw [if_pos he] at hR
      (repeat (first | refine gg ?_ | (apply BND_build (encIt it0); exact rfl)))
      exact ret10 (K := fun v w' => R (.tuple #[v, .int .i64 (f y.lf).2]) w') it0 (ixa_pop h4) rfl fun w5 h5 => hR w5 r hr (ixa_pop h5)
theorem ix_Ack (h : At w0 F0 (indexHP xb s) w) (hI : QInv s cut B) (hB : B < 8000000000000000000) (tok : Nat)
    (hR : ∀ w', At w0 F0 (indexHP xb (ackP s tok).1) w' → R (.tuple #[.agg (encIt (ackP s tok).2.1).toArray, .int .i64 (ackP s tok).2.2]) w') : CALL PR F_index_Index_Ack [pp xb, .int .u64 (tok : Int)] w R := by
  obtain ⟨m, r, hr, ha⟩ := ix_open h
  refine C_index_Index_Ack ?_
  unfold M_index_Index_Ack
  refine NEW_intro fun w1 b1 f1 z1 => ?_
  have h1 : At w0 F0 (stars (ixL xb m r ++ [pts (hsz w) [.int .u64 (tok : Int)]])) w1 := At.perm (ha.add f1 (P := pts (hsz w) [.int .u64 (tok : Int)]) (A := [hsz w]) ⟨⟨_, b1⟩, rfl⟩ (by simp)) List.perm_middle.symm
  refine ixa_new (vs := encIt it0) h1 fun w2 h2 f2 z2 => ?_
  obtain ⟨T2, c2⟩ := h2.cell (i := 14) rfl
  (repeat refine gg ?_)
  refine ix_leased h2 hr hI hB tok (fun l => ackL l tok) (fun w3 y K h3 hy hK => ?_) (fun y hy _ _ he => ackL_ok he) fun w3 r' hr' h3 => ?_
  · rw [CALLV_func (by kernel_rfl)]
    refine C_index_Index_Ack_1 ?_
    unfold M_index_Index_Ack_1
    obtain ⟨T3, c3⟩ := h3.cell (i := 14) rfl
    refine NEW_intro fun w4 b4 f4 z4 => NEW_intro fun w5 b5 f5 z5 => ?_
    replace b4 : blk w4 (hsz w3) = some (.cells (encLf y.lf).toArray 73 (0, 0)) := b4
    replace b5 : blk w5 (hsz w4) = some (.cells (encLf lf0).toArray 73 (0, 0)) := b5
    have b45 := f5.some (by simp) b4
    have c5 := f5.some (by simp) (f4.some (by simp) c3)
    have g4 := f4.grow
    (repeat (first | refine BND_step (loadn_all b45 (encLf_len _)) ?_ | refine gg ?_))
    refine lf_Ack y.lf fun w6 f6 => ?_
    (repeat refine gg ?_)
    exact ret4 (K := fun v w' => K (.tuple #[v, .int .i64 (ackL y.lf tok).2]) w') _ (f6.some (by simp) b5) rfl ((f4.trans' f5).trans' f6) g4 hK
  · (repeat refine gg ?_)
    exact ret10 (K := fun v w' => R (.tuple #[v, .int .i64 (ackP s tok).2.2]) w') _ h3 rfl fun w4 h4 => hR w4 (ix_shut hr' (ixa_pop (ixa_pop h4)))
theorem ix_Nack (h : At w0 F0 (indexHP xb s) w) (hI : QInv s cut B) (hB : B < 8000000000000000000) (tok : Nat) {delay : Nat} (hd : delay < 18446744073709551616)
    (hR : ∀ w', At w0 F0 (indexHP xb (nackP s tok delay).1) w' → R (.tuple #[.agg (encIt (nackP s tok delay).2.1).toArray, .int .i64 (nackP s tok delay).2.2]) w') : CALL PR F_index_Index_Nack [pp xb, .int .u64 (tok : Int), .int .u64 (delay : Int)] w R := by
  obtain ⟨m, r, hr, ha⟩ := ix_open h
  refine C_index_Index_Nack ?_
  unfold M_index_Index_Nack
  have hnow := hI.now
  have box : ∀ {bs' : List HP} {T : Nat} {v : Value} {K : Value → World → Prop} {w : World}, v.cells = #[v] → At w0 F0 (stars (ixL xb m r ++ bs')) w → (∀ w', At w0 F0 (stars (ixL xb m r ++ (pts (hsz w) [v] :: bs'))) w' → K (.pointer (some ⟨hsz w, 0, none⟩)) w') → NEW (newv T w v) K := fun {bs' T v K w} hv h hK => by
    refine NEW_intro fun w1 b1 f1 z1 => hK w1 ?_
    rw [hv] at b1
    exact At.perm (h.add f1 (P := pts (hsz w) [v]) (A := [hsz w]) ⟨⟨_, b1⟩, rfl⟩ (by simp)) List.perm_middle.symm
  refine box rfl ha fun w1 h1 => box rfl h1 fun w2 h2 => box rfl h2 fun w3 h3 => ?_
  refine ixa_new (vs := encIt it0) h3 fun w4 h4 f4 z4 => ?_
  obtain ⟨T4, c4⟩ := h4.cell (i := 16) rfl
  obtain ⟨T5, c5⟩ := h4.cell (i := 15) rfl
  (repeat refine gg ?_)
  refine ix_leased h4 hr hI hB tok (fun l => nackL l tok s.now delay s.c.del) (fun w5 y K h5 hy hK => ?_) (fun y hy h3 ht he => nackL_ok hI hy h3 he) fun w5 r' hr' h5 => ?_
  · rw [CALLV_func (by kernel_rfl)]
    refine C_index_Index_Nack_1 ?_
    unfold M_index_Index_Nack_1
    obtain ⟨Tx, cx⟩ := h5.cell (i := 16) rfl
    obtain ⟨Tt, ct⟩ := h5.cell (i := 15) rfl
    obtain ⟨Td, cd⟩ := h5.cell (i := 14) rfl
    obtain ⟨Ti, ci⟩ := ixa_cell h5
    refine NEW_intro fun w6 b6 f6 z6 => NEW_intro fun w7 b7 f7 z7 => ?_
    replace b6 : blk w6 (hsz w5) = some (.cells (encLf y.lf).toArray 73 (0, 0)) := b6
    replace b7 : blk w7 (hsz w6) = some (.cells (encLf lf0).toArray 73 (0, 0)) := b7
    have f57 : Fr [] w5 w7.drew := (f6.trans' f7).trans' (Fr.drew _ _)
    have b67 : blk w7.drew (hsz w5) = some (.cells (encLf y.lf).toArray 73 (0, 0)) := f7.some (by simp) b6
    have b77 : blk w7.drew (hsz w6) = some (.cells (encLf lf0).toArray 73 (0, 0)) := b7
    have cx7 := f57.some (by simp) cx
    have ct7 := f57.some (by simp) ct
    have cd7 := f57.some (by simp) cd
    have ci7 := f57.some (by simp) ci
    have g6 := f6.grow
    (repeat (first | refine BND_step (loadn_all b67 (encLf_len _)) ?_ | refine gg ?_))
    rw [hr.now, hr.c]
    refine lf_Nack y.lf s.c.del (by omega) hd fun w8 f8 => ?_
    (repeat refine gg ?_)
    exact ret4 (K := fun v w' => K (.tuple #[v, .int .i64 (nackL y.lf tok s.now delay s.c.del).2]) w') _ (f8.some (by simp) b77) rfl (f57.trans' f8) g6 hK
  · (repeat refine gg ?_)
    exact ret10 (K := fun v w' => R (.tuple #[v, .int .i64 (nackP s tok delay).2.2]) w') _ h5 rfl fun w6 h6 => hR w6 (ix_shut hr' (ixa_pop (ixa_pop (ixa_pop (ixa_pop h6)))))
theorem ix_Extend (h : At w0 F0 (indexHP xb s) w) (hI : QInv s cut B) (hB : B < 8000000000000000000) (tok : Nat) {span : Nat} (hd : span < 18446744073709551616)
    (hR : ∀ w', At w0 F0 (indexHP xb (extendP s tok span).1) w' → R (.tuple #[.agg (encIt (extendP s tok span).2.1).toArray, .int .i64 (extendP s tok span).2.2]) w') : CALL PR F_index_Index_Extend [pp xb, .int .u64 (tok : Int), .int .u64 (span : Int)] w R := by
  obtain ⟨m, r, hr, ha⟩ := ix_open h
  refine C_index_Index_Extend ?_
  unfold M_index_Index_Extend
  have hnow := hI.now
  have box : ∀ {bs' : List HP} {T : Nat} {v : Value} {K : Value → World → Prop} {w : World}, v.cells = #[v] → At w0 F0 (stars (ixL xb m r ++ bs')) w → (∀ w', At w0 F0 (stars (ixL xb m r ++ (pts (hsz w) [v] :: bs'))) w' → K (.pointer (some ⟨hsz w, 0, none⟩)) w') → NEW (newv T w v) K := fun {bs' T v K w} hv h hK => by
    refine NEW_intro fun w1 b1 f1 z1 => hK w1 ?_
    rw [hv] at b1
    exact At.perm (h.add f1 (P := pts (hsz w) [v]) (A := [hsz w]) ⟨⟨_, b1⟩, rfl⟩ (by simp)) List.perm_middle.symm
  refine box rfl ha fun w1 h1 => box rfl h1 fun w2 h2 => box rfl h2 fun w3 h3 => ?_
  refine ixa_new (vs := encIt it0) h3 fun w4 h4 f4 z4 => ?_
  obtain ⟨T4, c4⟩ := h4.cell (i := 16) rfl
  obtain ⟨T5, c5⟩ := h4.cell (i := 15) rfl
  (repeat refine gg ?_)
  refine ix_leased h4 hr hI hB tok (fun l => extendL l tok s.now span) (fun w5 y K h5 hy hK => ?_) (fun y hy h3 ht he => extendL_ok hI hy h3 ht he) fun w5 r' hr' h5 => ?_
  · rw [CALLV_func (by kernel_rfl)]
    refine C_index_Index_Extend_1 ?_
    unfold M_index_Index_Extend_1
    obtain ⟨Tx, cx⟩ := h5.cell (i := 16) rfl
    obtain ⟨Tt, ct⟩ := h5.cell (i := 15) rfl
    obtain ⟨Td, cd⟩ := h5.cell (i := 14) rfl
    obtain ⟨Ti, ci⟩ := ixa_cell h5
    refine NEW_intro fun w6 b6 f6 z6 => NEW_intro fun w7 b7 f7 z7 => ?_
    replace b6 : blk w6 (hsz w5) = some (.cells (encLf y.lf).toArray 73 (0, 0)) := b6
    replace b7 : blk w7 (hsz w6) = some (.cells (encLf lf0).toArray 73 (0, 0)) := b7
    have f57 : Fr [] w5 w7.drew := (f6.trans' f7).trans' (Fr.drew _ _)
    have b67 : blk w7.drew (hsz w5) = some (.cells (encLf y.lf).toArray 73 (0, 0)) := f7.some (by simp) b6
    have b77 : blk w7.drew (hsz w6) = some (.cells (encLf lf0).toArray 73 (0, 0)) := b7
    have cx7 := f57.some (by simp) cx
    have ct7 := f57.some (by simp) ct
    have cd7 := f57.some (by simp) cd
    have ci7 := f57.some (by simp) ci
    have g6 := f6.grow
    (repeat (first | refine BND_step (loadn_all b67 (encLf_len _)) ?_ | refine gg ?_))
    rw [hr.now]
    refine lf_Extend y.lf (by omega) hd fun w8 f8 => ?_
    (repeat refine gg ?_)
    exact ret4 (K := fun v w' => K (.tuple #[v, .int .i64 (extendL y.lf tok s.now span).2]) w') _ (f8.some (by simp) b77) rfl (f57.trans' f8) g6 hK
  · (repeat refine gg ?_)
    exact ret10 (K := fun v w' => R (.tuple #[v, .int .i64 (extendP s tok span).2.2]) w') _ h5 rfl fun w6 h6 => hR w6 (ix_shut hr' (ixa_pop (ixa_pop (ixa_pop (ixa_pop h6)))))
theorem ix_revive (h : At w0 F0 (indexHP xb s) w) (hI : QInv s cut B) (hB : B < 8000000000000000000) (id : Int) (f : Lf → Lf × Int) {fv : Value}
    (hf : ∀ w1 y (K : Value → World → Prop), y ∈ s.items → (∀ w2, Fr [] w1 w2 → K (.tuple #[.agg (encLf (f y.lf).1).toArray, .int .i64 (f y.lf).2]) w2) → CALLV PR fv [.agg (encLf y.lf).toArray] w1 K)
    (hok : ∀ y ∈ s.items, (f y.lf).2 = 0 → NewOk s cut y.id (f y.lf).1)
    (hR : ∀ w', At w0 F0 (indexHP xb (reviveP s id f).1) w' → R (.int .i64 (reviveP s id f).2) w') : CALL PR F_index_Index_revive [pp xb, .int .u64 id, fv] w R := by
  obtain ⟨m, r, hr, ha⟩ := ix_open h
  refine C_index_Index_revive ?_
  unfold M_index_Index_revive
  obtain ⟨T0, c0⟩ := ixa_cell ha
  have hl := ixa_find ha hr (.agg (encIt it0).toArray) id
  unfold reviveP at hR
  cases hfd : findIt s.items id with
  | none =>
    rw [hfd] at hl hR
    dsimp only at hR
    (repeat refine gg ?_)
    refine ixa_new (vs := encIt it0) ha fun w1 h1 f1 z1 => ?_
    refine h1.put (i := 13) (n := 10) rfl rfl rfl (encIt_one it0) (by simp [encIt]) fun w2 h2 _ => ?_
    (repeat refine gg ?_)
    exact hR w2 (ix_shut hr (ixa_pop h2))
  | some y =>
    rw [hfd] at hl hR
    dsimp only at hR
    obtain ⟨hy1, hy2⟩ := findIt_some hfd
    simp only [Option.map_some, Option.getD_some, Option.isSome_some] at hl
    (repeat refine gg ?_)
    refine ixa_new (vs := encIt it0) ha fun w1 h1 f1 z1 => ?_
    refine h1.put (i := 13) (n := 10) rfl rfl rfl (encIt_one y) (by simp [encIt]) fun w2 h2 _ => ?_
    obtain ⟨T2, c2⟩ := h2.cell (i := 13) rfl
    have e2 : loadn 4 w2 (.pointer (some ⟨hsz w, 0 + 2, none⟩)) = some (.agg (encLf y.lf).toArray) := by
      rw [loadn_blk c2 (by simp [encIt])]; rfl
    (repeat refine gg ?_)
    refine hf w2 y _ hy1 fun w3 f3 => ?_
    (repeat refine gg ?_)
    refine ixa_new (vs := encLf lf0) (h2.fr0 f3) fun w4 h4 f4 z4 => ?_
    refine h4.put (i := 13) (n := 4) rfl rfl rfl (encLf_one _) (by simp [encLf]) fun w5 h5 _ => ?_
    replace h5 : At w0 F0 (stars (ixL xb m r ++ [pts (hsz w3) (encLf (f y.lf).1), pts (hsz w) (encIt y)])) w5 := h5
    (repeat refine gg ?_)
    refine join_w (fun w' => At w0 F0 (indexHP xb (if (f y.lf).2 = 0 then ((isP s y (f y.lf).1).1, (0 : Int)) else (s, (f y.lf).2)).1) w') ?_ ?_
    · intro K hK
      by_cases he : (f y.lf).2 = 0
      · rw [if_pos he] at hK
        obtain ⟨Ti, ci⟩ := h5.cell (i := 14) rfl
        obtain ⟨Tl, cl⟩ := h5.cell (i := 13) rfl
        (repeat (first | refine BND_step (loadn_all ci (encIt_len _)) ?_ | refine BND_step (loadn_all cl (encLf_len _)) ?_ | refine gg ?_))
        have hnums := hI.nums
        have hlane := ready_of hI hy1
        refine ix_is h5 (small_of hI hr) (by rw [hr.last]; omega) (by rw [hr.turns]; omega) _ _ hlane fun w6 h6 => ?_
        have hrep := rep_is hI hr (.inl hy1) hlane (hok y hy1 he)
        exact hK w6 (ix_shut hrep.1 (ixa_pop (ixa_pop h6)))
      · rw [if_neg he] at hK
        (repeat refine gg ?_)
        exact hK w5 (ix_shut hr (ixa_pop (ixa_pop h5)))
    · intro w6 h6
      have e : (f y.lf).2 = (if (f y.lf).2 = 0 then ((isP s y (f y.lf).1).1, (0 : Int)) else (s, (f y.lf).2)).2 := by
        split
        · assumption
        · rfl
      have := hR w6 h6
      rw [← e] at this
      exact this
theorem ix_Requeue (h : At w0 F0 (indexHP xb s) w) (hI : QInv s cut B) (hB : B < 8000000000000000000) (id : Int) (hR : ∀ w', At w0 F0 (indexHP xb (requeueP s id).1) w' → R (.int .i64 (requeueP s id).2) w') : CALL PR F_index_Index_Requeue [pp xb, .int .u64 id] w R := by
  refine C_index_Index_Requeue ?_
  unfold M_index_Index_Requeue
  refine ix_revive h hI hB id requeueL (fun w1 y K hy hK => ?_) (fun y hy he => requeueL_ok hI he) hR
  rw [CALLV_func (by kernel_rfl)]
  exact lf_Requeue y.lf hK
theorem ix_Purge (h : At w0 F0 (indexHP xb s) w) (hI : QInv s cut B) (hB : B < 8000000000000000000) (id : Int) (hR : ∀ w', At w0 F0 (indexHP xb (purgeP s id).1) w' → R (.int .i64 (purgeP s id).2) w') : CALL PR F_index_Index_Purge [pp xb, .int .u64 id] w R := by
  refine C_index_Index_Purge ?_
  unfold M_index_Index_Purge
  refine ix_revive h hI hB id purgeL (fun w1 y K hy hK => ?_) (fun y hy he => purgeL_ok he) hR
  rw [CALLV_func (by kernel_rfl)]
  exact lf_Purge y.lf hK
end
end Go.Proofs.YtpgflmjeedbimaaGreat
end
section
namespace Go.Proofs.YtpgflmjeedbimaaGreat
open Go.Den Go.Ix
set_option linter.unusedSimpArgs false
set_option linter.unusedVariables false
theorem soon_wts {s : Px} {by_ : Nat} {y : It} {p : It → Bool} (h : soonF p by_ none s.items = some y) : y ∈ s.items ∧ p y = true ∧ y.lf.due ≤ by_ := (soon_mem h).resolve_left (by simp)
theorem passL_ok {s : Px} {cut B : Nat} (hI : QInv s cut B) {y : It} (hy : y ∈ s.items) (hw : wts y = true) (hd : y.lf.due ≤ s.now) : NewOk s cut y.id (passL y.lf s.now s.c.del) ∧ ¬ wts { y with lf := passL y.lf s.now s.c.del } = true := by
  have hl := hI.live y hy
  have hr := hI.right
  unfold rightC at hr
  unfold LiveOk at hl
  unfold wts at hw
  simp only [Bool.or_eq_true, decide_eq_true_eq] at hw
  unfold passL
  rw [if_neg (by omega)]
  by_cases h2 : y.lf.st = 2
  · rw [if_pos h2]
    refine ⟨.inl ⟨rfl, rfl, by show y.lf.tok = 0; omega, by show 0 ≤ y.lf.cnt; omega, by show y.lf.cnt < _; omega⟩, ?_⟩
    simp [wts]
  · rw [if_neg h2, if_pos (by omega)]
    refine ⟨endL_ok (by omega) (by omega), ?_⟩
    unfold endL wts
    split <;> simp
theorem resetL_ok {s : Px} {cut B : Nat} (hI : QInv s cut B) {y : It} (hy : y ∈ s.items) (hw : lsd y = true) : NewOk s cut y.id (resetL y.lf s.c.del) ∧ ¬ lsd { y with lf := resetL y.lf s.c.del } = true := by
  have hl := hI.live y hy
  unfold LiveOk at hl
  unfold lsd at hw
  simp only [decide_eq_true_eq] at hw
  unfold resetL
  rw [if_pos hw]
  refine ⟨endL_ok (by omega) (by omega), ?_⟩
  unfold endL lsd
  split <;> simp
theorem isP_less {s : Px} (hr : s.items.Pairwise fun a b => a.id < b.id) {y : It} (hy : y ∈ s.items) {l : Lf} {p : It → Bool} (hp : p y = true) (h5 : l.st ≠ 5) (hn : ∀ t, ¬ p (atLife y l t) = true) : ((isP s y l).1.items.filter p).length + 1 = (s.items.filter p).length := by
  unfold isP
  simp only [if_neg h5]
  have h1 := ((insIt_perm hr (atLife y l (if l.st = 1 then s.turns + 1 else 0))).filter p).length_eq
  rw [List.filter_cons, if_neg (hn _)] at h1
  show ((insIt s.items (atLife y l (if l.st = 1 then s.turns + 1 else 0))).filter p).length + 1 = _
  rw [h1]
  -- y is taken out
  have hperm : s.items.Perm (y :: dropIt s.items y.id) := by
    have := insIt_perm hr y
    have e : insIt s.items y = s.items := by
      clear h1 hn hp this
      generalize s.items = l at hr hy
      induction l with
      | nil => simp at hy
      | cons z r ih =>
        obtain ⟨r1, r2⟩ := List.pairwise_cons.1 hr
        rw [insIt]
        rcases List.mem_cons.1 hy with e | e
        · rw [if_pos (by rw [e]), e]
        · have := r1 y e
          rw [if_neg (by omega), ih r2 e]
    rwa [e] at this
  have := (hperm.filter p).length_eq
  rw [List.filter_cons, if_pos hp, List.length_cons] at this
  exact this.symm
theorem passL_st {s : Px} {cut B : Nat} (hI : QInv s cut B) {y : It} (hy : y ∈ s.items) (hw : wts y = true) (hd : y.lf.due ≤ s.now) : (passL y.lf s.now s.c.del).st = 1 ∨ (passL y.lf s.now s.c.del).st = 4 := by
  unfold wts at hw
  simp only [Bool.or_eq_true, decide_eq_true_eq] at hw
  unfold passL
  rw [if_neg (by omega)]
  by_cases h2 : y.lf.st = 2
  · rw [if_pos h2]; exact .inl rfl
  · rw [if_neg h2, if_pos (by omega)]
    unfold endL
    split
    · exact .inr rfl
    · exact .inl rfl
theorem resetL_st {y : It} {d : Int} (hw : lsd y = true) : (resetL y.lf d).st = 1 ∨ (resetL y.lf d).st = 4 := by
  unfold lsd at hw
  simp only [decide_eq_true_eq] at hw
  unfold resetL
  rw [if_pos hw]
  unfold endL
  split
  · exact .inr rfl
  · exact .inl rfl
theorem tick_step {s : Px} {cut B : Nat} (hI : QInv s cut B) {y : It} (h : soonF wts s.now none s.items = some y) :
    QInv (isP s y (passL y.lf s.now s.c.del)).1 cut (B + 1) ∧ ((isP s y (passL y.lf s.now s.c.del)).1.items.filter wts).length + 1 = (s.items.filter wts).length := by
  obtain ⟨h1, h2, h3⟩ := soon_wts h
  obtain ⟨ok, nw⟩ := passL_ok hI h1 h2 h3
  have hst := passL_st hI h1 h2 h3
  refine ⟨isP_inv hI (.inl h1) (hI.ids y h1).2.2 (hI.fit y h1) ok, isP_less hI.rise h1 h2 (by omega) fun t => ?_⟩
  unfold wts atLife
  simp only [Bool.or_eq_true, decide_eq_true_eq]
  omega
theorem tickL_inv : ∀ (k : Nat) (s : Px) (n : Nat) {cut B : Nat}, QInv s cut B → QInv (tickL k s n).1 cut (B + (s.items.filter wts).length)
  | 0, s, n, cut, B, h => h.more (by omega)
  | k + 1, s, n, cut, B, h => by
    unfold tickL
    cases hs : soonF wts s.now none s.items with
    | none => exact h.more (by omega)
    | some y =>
      obtain ⟨h1, h2⟩ := tick_step h hs
      have := tickL_inv k _ (n + 1) h1
      exact this.more (by omega)
theorem tickL_done : ∀ (k : Nat) (s : Px) (n : Nat) {cut B : Nat}, QInv s cut B → (s.items.filter wts).length < k → soonF wts s.now none (tickL k s n).1.items = none ∧ (tickL k s n).1.now = s.now
  | 0, s, n, cut, B, h, hk => by omega
  | k + 1, s, n, cut, B, h, hk => by
    unfold tickL
    cases hs : soonF wts s.now none s.items with
    | none => exact ⟨hs, rfl⟩
    | some y =>
      obtain ⟨h1, h2⟩ := tick_step h hs
      exact tickL_done k (isP s y (passL y.lf s.now s.c.del)).1 (n + 1) h1 (by omega)
theorem soon_left {p : It → Bool} {by_ : Nat} : ∀ {l : List It}, soonF p by_ none l = none → ∀ z ∈ l, p z = true → by_ < z.lf.due
  | [], _, z, hz, _ => by simp at hz
  | x :: l, h, z, hz, hp => by
    rw [soonF] at h
    have stay : ∀ (l : List It) (b : It), soonF p by_ (some b) l ≠ none := by
      intro l
      induction l with
      | nil => intro b h; simp [soonF] at h
      | cons c r ih =>
        intro b h
        rw [soonF] at h
        split at h
        · exact ih _ h
        · exact ih _ h
    by_cases hc : p x = true ∧ x.lf.due ≤ by_ ∧ sooner none x
    · rw [if_pos hc] at h
      exact absurd h (stay l x)
    · rw [if_neg hc] at h
      rcases List.mem_cons.1 hz with e | e
      · subst e
        apply Nat.lt_of_not_le
        intro hd
        exact hc ⟨hp, hd, trivial⟩
      · exact soon_left h z e hp
theorem cut_inv {s : Px} {cut B : Nat} (h : QInv s cut B) (hs : soonF wts s.now none s.items = none) : QInv s s.now B := by
  have hl := soon_left hs
  refine ⟨h.right, h.rise, h.ids, h.len, h.fit, fun y hy => ?_, h.turn, h.tok, h.dead, h.rows, h.rowsN, h.rowsR, h.place, ⟨h.now.1, Nat.le_refl _⟩, h.next, h.nums, h.seen⟩
  have g := h.live y hy
  have k := hl y hy
  unfold wts at k
  simp only [Bool.or_eq_true, decide_eq_true_eq] at k
  unfold LiveOk at g ⊢
  rcases g with g | g | g | g
  · exact .inl g
  · have := k (.inl g.1)
    exact .inr (.inl ⟨g.1, this, g.2.2⟩)
  · have := k (.inr g.1)
    exact .inr (.inr (.inl ⟨g.1, this, g.2.2⟩))
  · exact .inr (.inr (.inr g))
theorem now_inv {s : Px} {cut B n : Nat} (h : QInv s cut B) (hn : s.now + n < 18446744073709551616) : QInv { s with now := s.now + n } cut B := by
  have := h.now
  exact ⟨h.right, h.rise, h.ids, h.len, h.fit, h.live, h.turn, h.tok, h.dead, h.rows, h.rowsN, h.rowsR, h.place, ⟨hn, by simp only; omega⟩, h.next, h.nums, h.seen⟩
theorem wts_len {s : Px} {cut B : Nat} (h : QInv s cut B) (p : It → Bool) : (s.items.filter p).length ≤ 200 := Nat.le_trans (List.length_filter_le _ _) h.len
theorem tickP_inv {s : Px} {cut B : Nat} (h : QInv s cut B) (hc : cut = s.now) (n : Nat) : QInv (tickP s n).1 (tickP s n).1.now (B + 200) := by
  unfold tickP
  split
  · rename_i hn
    have h1 := now_inv h hn
    have hl := List.length_filter_le wts s.items
    have h2 := tickL_inv (s.items.length + 1) { s with now := s.now + n } 0 h1
    obtain ⟨h3, h4⟩ := tickL_done (s.items.length + 1) { s with now := s.now + n } 0 h1 (by show (s.items.filter wts).length < _; omega)
    have h5 := wts_len h wts
    have h6 : QInv (tickL (s.items.length + 1) { s with now := s.now + n } 0).1 cut (B + 200) := h2.more (by show B + (s.items.filter wts).length ≤ _; omega)
    exact cut_inv h6 (by rw [h4]; exact h3)
  · subst hc
    exact h.more (by omega)
theorem remS_tail {e : E} {rest : List E} {id : Int} (he : e.2 = id) : remS (e :: rest) id = remS rest id := by
  unfold remS
  rw [List.filter_cons, if_neg (by simp [he])]
theorem isR_ws {r : Rx} {y : It} {l : Lf} {e : E} {rest : List E} (h : r.ws = e :: rest) (he : e.2 = (y.id : Int)) : isR { r with ws := rest } y l = isR r y l := by
  have hl : leaveR { r with ws := rest } y = leaveR r y := by
    unfold leaveR
    simp only [h, remS_tail he]
  unfold isR
  rw [hl]
set_option linter.unusedSimpArgs false
set_option linter.unusedVariables false
set_option maxRecDepth 20000
set_option maxHeartbeats 4000000
attribute [local congr] BND_cg COND_cg GEF_cg
attribute [local irreducible] capl slicea load1 loadn iaddr iaddra faddr storev newslice binv lookv mupd mdel mlenv mentry mestore slicev slicev3 slices indexs indexav textv rangev nexts clearv shiftv eqaggv convi buildv pickv lens lenl unv nilchk extractv partn JOIN
section
variable {w0 w : World} {F0 : List Nat} {xb : Nat} {m : Mx} {r : Rx} {bs : List HP} {s : Px} {cut B : Nat} {R : Value → World → Prop}
theorem ixa_wtake (h : At w0 F0 (stars (ixL xb m r ++ bs)) w) (hn : r.ws.length < 1000000) (now : Int)
    (hno : ∀ w', (r.ws = [] ∨ ∃ e rest, r.ws = e :: rest ∧ now < e.1) → At w0 F0 (stars (ixL xb m r ++ bs)) w' → R (.tuple #[.int .u64 0, .int .u64 0, .bool false]) w')
    (hyes : ∀ e rest, r.ws = e :: rest → e.1 ≤ now → ∀ w', At w0 F0 (stars (ixL xb m { r with ws := rest } ++ bs)) w' → R (.tuple #[.int .u64 e.2, .int .u64 e.1, .bool true]) w') :
    CALL PR F_due_Heap_Take [pp m.wb, .int .u64 now] w R := by
  obtain ⟨A, hA, upd⟩ := h.upd 2 rfl
  exact due_Take hA (by omega) now (fun w' hc h1 f1 => hno w' hc (upd w' A (dueHP m.wb r.ws) h1 f1 fun b hb => .inl hb)) fun e rest he hle w' h1 f1 => hyes e rest he hle w' (upd w' A (dueHP m.wb rest) h1 f1 fun b hb => .inl hb)
theorem ixa_wsorted (h : At w0 F0 (stars (ixL xb m r ++ bs)) w) : r.ws.Pairwise ltEP := by
  obtain ⟨A, hA, _⟩ := h.get 2 rfl
  have hA' : DueOwn w m.wb r.ws A := hA
  exact hA'.sorted
theorem ix_Tick (h : At w0 F0 (indexHP xb s) w) (hI : QInv s cut B) (hc : cut = s.now) (hB : B < 7000000000000000000) {n : Nat} (hn : n < 18446744073709551616)
    (hR : ∀ w', At w0 F0 (indexHP xb (tickP s n).1) w' → R (.tuple #[.int .i64 ((tickP s n).2.1 : Int), .int .i64 (tickP s n).2.2]) w') : CALL PR F_index_Index_Tick [pp xb, .int .u64 (n : Int)] w R := by
  obtain ⟨m, r, hr, ha⟩ := ix_open h
  refine C_index_Index_Tick ?_
  unfold M_index_Index_Tick
  obtain ⟨T0, c0⟩ := ixa_cell ha
  have hnow := hI.now
  have ea := add64_v (x := r.now) (y := n)
  unfold tickP at hR
  by_cases ho : s.now + n < 18446744073709551616
  · rw [if_pos ho] at hR
    have e1 : (r.now + n) % 18446744073709551616 = s.now + n := by rw [hr.now]; exact Nat.mod_eq_of_lt ho
    have e2 : (r.now + n) / 18446744073709551616 = 0 := by rw [hr.now]; exact Nat.div_eq_of_lt ho
    rw [e1, e2] at ea
    (repeat refine gg ?_)
    refine ha.store (i := 0) (j := 3) rfl ⟨rfl, rfl⟩ (by simp [ixC]) fun w1 h1 _ => ?_
    replace h1 : At w0 F0 (stars (ixL xb m { r with now := s.now + n } ++ [])) w1 := h1
    have hr1 : Rep { s with now := s.now + n } { r with now := s.now + n } := ⟨hr.c, rfl, hr.next, hr.leases, hr.turns, hr.rows, hr.last, hr.seen, hr.its, hr.st⟩
    have hI1 := now_inv hI ho
    have hws := wts_len hI wts
    refine loop_up 0 (s.items.filter wts).length (fun j w' => ∃ sK rK k, At w0 F0 (stars (ixL xb m rK ++ [])) w' ∧ Rep sK rK ∧ QInv sK cut (B + j) ∧ sK.now = s.now + n ∧ j + (sK.items.filter wts).length = (s.items.filter wts).length ∧ (sK.items.filter wts).length < k ∧
      tickL (s.items.length + 1) { s with now := s.now + n } 0 = tickL k sK j) ⟨_, _, s.items.length + 1, h1, hr1, hI1, rfl, Nat.zero_add _, by have := List.length_filter_le wts s.items; show (s.items.filter wts).length < _; omega, rfl⟩ (by omega) ?_
    rintro j w2 - hj ⟨sK, rK, k, h2, hr2, hI2, hnw, hcnt, hk, htl⟩ J mm hJ
    obtain ⟨T2, c2⟩ := ixa_cell h2
    have hsm := small_of hI2 hr2
    have hsoon := soon_head hI2.rise hr2.st.ws (ixa_wsorted h2) (s.now + n)
    (repeat refine gg ?_)
    refine ixa_wtake h2 (by have := hsm.ws; omega) _ (fun w3 hc3 h3 => ?_) fun e rest he hle w3 h3 => ?_
    · (repeat refine gg ?_)
      have hnone : soonF wts sK.now none sK.items = none := by rw [hnw]; exact hsoon.2 hc3
      have : tickL k sK j = (sK, j) := by
        cases k with
        | zero => omega
        | succ k => unfold tickL; rw [hnone]
      rw [htl, this] at hR
      exact hR w3 (ix_shut hr2 h3)
    · obtain ⟨y, hy, hw, hey, hsome⟩ := hsoon.1 e rest he hle
      rw [← hnw] at hsome
      have hfi := findIt_mem hI2.rise hy
      have he2 : e.2 = (y.id : Int) := by rw [← hey]; rfl
      rw [he2]
      obtain ⟨T3, c3⟩ := ixa_cell h3
      have hl3 : lookv (.int .u64) (.agg (encIt it0).toArray) false w3 (.map (some m.mb)) (.int .u64 (y.id : Int)) = some (.agg (encIt y).toArray) := by
        have := At.look1 (i := 1) h3 rfl (.agg (encIt it0).toArray) (y.id : Int)
        rw [this, itsV]
        show some (((rK.its (y.id : Int)).map fun y => Value.agg (encIt y).toArray).getD _) = _
        rw [hr2.its, hfi]; rfl
      (repeat refine gg ?_)
      refine ixa_new (vs := encIt it0) h3 fun w4 h4 f4 z4 => ?_
      refine h4.put (i := 13) (n := 10) rfl rfl rfl (encIt_one y) (by simp [encIt]) fun w5 h5 _ => ?_
      replace h5 : At w0 F0 (stars (ixL xb m { rK with ws := rest } ++ [pts (hsz w3) (encIt y)])) w5 := h5
      have h5d := At.drew h5
      refine ⟨fun _ w' => At w0 F0 (stars (ixL xb m { rK with ws := rest } ++ [pts (hsz w3) (encIt y)])) w', h5d, ?_⟩
      have hld : ∀ w', At w0 F0 (stars (ixL xb m { rK with ws := rest } ++ [pts (hsz w3) (encIt y)])) w' → loadn 10 w' (.pointer (some ⟨hsz w3, 0, none⟩)) = some (.agg (encIt y).toArray) := fun w' h => by
        obtain ⟨T, c⟩ := h.cell (i := 13) rfl
        exact loadn_all c rfl
      obtain ⟨T5, c5⟩ := h5d.cell (i := 13) rfl
      obtain ⟨Tx, cx⟩ := ixa_cell h5d
      have e4 : loadn 4 w5.drew (.pointer (some ⟨hsz w3, 0 + 2, none⟩)) = some (.agg (encLf y.lf).toArray) := by
        rw [loadn_blk c5 (by simp [encIt])]; rfl
      (repeat (first | refine gg ?_ | refine FLT.mk _ (fun _ hw_ => (hld _ hw_)) ?_))
      have hrc : rK.c.del = sK.c.del := by rw [hr2.c]
      rw [hrc]
      refine lf_Pass y.lf sK.c.del fun w6 f6 => ?_
      have h6 := h5d.fr0 f6
      refine ⟨h6, ?_⟩
      have hnums := hI2.nums
      have hlane := ready_of hI2 hy
      rw [← hnw]
      refine ix_is h6 ⟨hsm.qs, by have := hsm.ws; rw [he] at this; simp at this; show rest.length < _; omega, hsm.rows⟩ (by show 0 ≤ rK.last ∧ rK.last < _; rw [hr2.last]; omega) (by show rK.turns < _; rw [hr2.turns]; omega) _ _ hlane fun w7 h7 => ?_
      rw [isR_ws he he2] at h7
      obtain ⟨hI3, hlen3⟩ := tick_step hI2 hsome
      obtain ⟨s1, s2, s3⟩ := soon_wts hsome
      have hrep := rep_is hI2 hr2 (.inl hy) hlane (passL_ok hI2 s1 s2 s3).1
      (repeat refine gg ?_)
      refine hJ w7 (by omega) ⟨_, _, k - 1, ixa_pop h7, hrep.1, hI3.more (by omega), hnw, by omega, by omega, ?_⟩
      rw [htl]
      cases k with
      | zero => omega
      | succ k =>
        conv => lhs; unfold tickL
        rw [hsome]
        rfl
  · rw [if_neg ho] at hR
    have e2 : (r.now + n) / 18446744073709551616 = 1 := by rw [hr.now]; omega
    rw [e2] at ea
    (repeat refine gg ?_)
    exact hR w (ix_shut hr ha)
end
end Go.Proofs.YtpgflmjeedbimaaGreat
end
section
namespace Go.Proofs.YtpgflmjeedbimaaGreat
open Go.Den Go.Ix
set_option linter.unusedSimpArgs false
set_option linter.unusedVariables false
theorem reset_step {s : Px} {cut B : Nat} (hI : QInv s cut B) {y : It} (h : soonF lsd 18446744073709551615 none s.items = some y) :
    QInv (isP s y (resetL y.lf s.c.del)).1 cut (B + 1) ∧ ((isP s y (resetL y.lf s.c.del)).1.items.filter lsd).length + 1 = (s.items.filter lsd).length := by
  obtain ⟨h1, h2, h3⟩ := soon_wts h
  obtain ⟨ok, nw⟩ := resetL_ok hI h1 h2
  have hst := resetL_st (d := s.c.del) h2
  refine ⟨isP_inv hI (.inl h1) (hI.ids y h1).2.2 (hI.fit y h1) ok, isP_less hI.rise h1 h2 (by omega) fun t => ?_⟩
  unfold lsd atLife
  simp only [decide_eq_true_eq]
  omega
theorem resetF_inv : ∀ (k : Nat) (s : Px) {cut B : Nat}, QInv s cut B → QInv (resetF k s) cut (B + (s.items.filter lsd).length)
  | 0, s, cut, B, h => h.more (by omega)
  | k + 1, s, cut, B, h => by
    unfold resetF
    cases hs : soonF lsd 18446744073709551615 none s.items with
    | none => exact h.more (by omega)
    | some y =>
      obtain ⟨h1, h2⟩ := reset_step h hs
      have := resetF_inv k _ h1
      exact this.more (by omega)
theorem resetP_inv {s : Px} {cut B : Nat} (h : QInv s cut B) : QInv (resetP s) cut (B + 200) := (resetF_inv _ s h).more (by have := wts_len h lsd; omega)
theorem resetF_now : ∀ (k : Nat) (s : Px), (resetF k s).now = s.now ∧ (resetF k s).c = s.c
  | 0, s => ⟨rfl, rfl⟩
  | k + 1, s => by
    unfold resetF
    cases soonF lsd 18446744073709551615 none s.items with
    | none => exact ⟨rfl, rfl⟩
    | some y => exact resetF_now k (isP s y (resetL y.lf s.c.del)).1
def dueN (hb : Nat) (w : World) : Nat := match blk w hb with
  | some (.cells c _ _) => match c[0]? with
    | some (Value.slice _ n _) => n
    | _ => 0
  | _ => 0
theorem dueN_of {w : World} {hb : Nat} {S : List E} {F : List Nat} (h : DueOwn w hb S F) : dueN hb w = S.length := by
  obtain ⟨⟨l, ⟨⟨L, ⟨sv, mb, es, ck, T, Fa, h1, h2, h3, h4, rfl, h5⟩, h6⟩, h7⟩, h8⟩, h9, h10⟩ := h
  unfold dueN
  rw [h1]
  have : ∃ a c, sv = .slice a l.length c := by
    rcases h4 with ⟨rfl, rfl, _⟩ | ⟨b, cap, c, T, rfl, _⟩
    · exact ⟨_, _, rfl⟩
    · exact ⟨_, _, rfl⟩
  obtain ⟨a, c, rfl⟩ := this
  show l.length = _
  exact h8.length_eq
theorem loop_it0 {B : (World → Prop) → (World → Nat) → World → Prop} {w : World} (r n : Nat) (I : World → Prop) (h0 : I w)
    (h : ∀ w1, I w1 → ∀ J m, (∀ w', seenN r w1 < n → seenN r w' = seenN r w1 + 1 → I w' → J w' ∧ m w' < m w1) → B J m w1) :
    ∃ (J : World → Prop) (m : World → Nat), J w ∧ ∀ (_d : Env) (w1 : World), J w1 → B J m w1 := by
  refine ⟨I, fun w' => n - seenN r w', h0, ?_⟩
  intro _ w1 h3
  exact h w1 h3 _ _ fun w' h4 h5 h6 => ⟨h6, by show n - seenN r w' < n - seenN r w1; omega⟩
theorem held_list {s : Px} {r : Rx} {cut B : Nat} (hI : QInv s cut B) (hr : Rep s r) {w : World} {hb : Nat} {F : List Nat} (h : (mapF hb (heldV r.held)).p w F) :
    ∃ es ck L, blk w hb = some (.map es ck) ∧ MapB encK es ck L ∧ L.Perm ((s.items.filter lsd).map fun y => ((y.lf.tok : Int), Value.int .u64 (y.id : Int))) := by
  obtain ⟨⟨es, ck, L, h1, h2, h3⟩, _⟩ := h
  have tokd : (s.items.filter lsd).Pairwise fun a b => a.lf.tok ≠ b.lf.tok := by
    have h5 : (s.items.filter lsd).Pairwise fun a b => a.lf.st = 3 → b.lf.st = 3 → a.lf.tok ≠ b.lf.tok := hI.tok.sublist List.filter_sublist
    refine h5.imp_of_mem fun {a b} ha hb g => g ?_ ?_
    · simpa [lsd] using (List.mem_filter.1 ha).2
    · simpa [lsd] using (List.mem_filter.1 hb).2
  refine ⟨es, ck, L, h1, h2, ins_perm h2.l.once ?_ fun k => ?_⟩
  · rw [List.map_map, List.nodup_iff_pairwise_ne, List.pairwise_map]
    exact tokd.imp fun h e => h (by simp only [Function.comp, Int.natCast_inj] at e; exact e)
  · rw [h3 k, heldV, hr.st.held]
    have key : ∀ l : List It, lk ((l.filter lsd).map fun y => ((y.lf.tok : Int), Value.int .u64 (y.id : Int))) k = ((l.find? (hold k)).map fun y => (y.id : Int)).map fun y => Value.int .u64 y := by
      intro l
      induction l with
      | nil => rfl
      | cons y l ih =>
        rw [List.find?_cons, List.filter_cons]
        by_cases h3 : y.lf.st = 3
        · rw [if_pos (by simp [lsd, h3]), List.map_cons, lk_cons]
          by_cases hk : k = y.lf.tok
          · have : hold k y = true := by simp [hold, h3, hk]
            rw [if_pos hk, this]; rfl
          · have : hold k y = false := by
              unfold hold
              simp only [Bool.and_eq_false_iff, decide_eq_false_iff_not]
              exact .inr fun e => hk e.symm
            rw [if_neg hk, this, ih]
        · have : hold k y = false := by simp [hold, h3]
          rw [if_neg (by simp [lsd, h3]), this, ih]
    exact (key s.items).symm
def mapE (m : Nat) (es : Array MapEntry) (ck : Nat) : HP where
  p w F := blk w m = some (.map es ck) ∧ F = [m]
  lt := by rintro w F ⟨h, rfl⟩ c hc; simp at hc; subst hc; exact blk_lt h
  st := by rintro w w' F ⟨h, rfl⟩ hk; exact ⟨by rw [hk m (by simp), h], rfl⟩
def ixE (xb : Nat) (m : Mx) (r : Rx) (es : Array MapEntry) (ck : Nat) : List HP := [pts xb (ixC m r), mapF m.mb (itsV r.its), dueHP m.wb r.ws, mapE m.hb es ck, deadHP m.db r.rows r.last r.seen,
  laneHP (m.lb 0) (r.qs 0), laneHP (m.lb 1) (r.qs 1), laneHP (m.lb 2) (r.qs 2), laneHP (m.lb 3) (r.qs 3), laneHP (m.lb 4) (r.qs 4), laneHP (m.lb 5) (r.qs 5), laneHP (m.lb 6) (r.qs 6), laneHP (m.lb 7) (r.qs 7)]
theorem ixE_fix {w0 w : World} {F0 : List Nat} {xb : Nat} {m : Mx} {r : Rx} {bs : List HP} {s : Px} {cut B : Nat} (h : At w0 F0 (stars (ixL xb m r ++ bs)) w) (hI : QInv s cut B) (hr : Rep s r) :
    ∃ es ck L, MapB encK es ck L ∧ L.Perm ((s.items.filter lsd).map fun y => ((y.lf.tok : Int), Value.int .u64 (y.id : Int))) ∧ At w0 F0 (stars (ixE xb m r es ck ++ bs)) w ∧
      ∀ {bs' : List HP} {w' : World}, At w0 F0 (stars (ixE xb m r es ck ++ bs')) w' → At w0 F0 (stars (ixL xb m r ++ bs')) w' := by
  obtain ⟨A, hA, upd⟩ := h.upd 3 rfl
  obtain ⟨es, ck, L, h1, h2, h3⟩ := held_list hI hr hA
  have hf : ∀ k, lk L k = heldV r.held k := by
    obtain ⟨⟨es', ck', L', g1, g2, g3⟩, _⟩ := hA
    rw [h1] at g1; cases g1
    intro k
    rw [← g3 k]
    have e : L.map (fun p => (encK p.1, p.2)) = L'.map (fun p => (encK p.1, p.2)) := h2.l.ents.symm.trans g2.l.ents
    have : L = L' := List.map_inj_right (f := fun p : Int × Value => (encK p.1, p.2)) (fun a b e => by
      obtain ⟨a1, a2⟩ := a
      obtain ⟨b1, b2⟩ := b
      simp only [Prod.mk.injEq] at e
      simp only [encK, Value.int.injEq, true_and] at e
      rw [e.1, e.2]) |>.1 e
    rw [this]
  refine ⟨es, ck, L, h2, h3, ?_, fun {bs' w'} h' => ?_⟩
  · have hA1 : A = [m.hb] := hA.2
    exact upd w A (mapE m.hb es ck) ⟨h1, hA1⟩ (Fr.refl _ _) fun b hb => .inl hb
  · obtain ⟨A', ⟨g1, g2⟩, upd'⟩ := h'.upd 3 rfl
    exact upd' w' A' (mapF m.hb (heldV r.held)) ⟨⟨es, ck, L, g1, h2, hf⟩, g2⟩ (Fr.refl _ _) fun b hb => .inl hb
def valId (e : MapEntry) : Int := match e.val with
  | .int _ n => n
  | _ => 0
def ewOf (s : Px) (id : Int) : E := ew ((findIt s.items id).getD it0)
theorem remS_lsd {items : List It} {W : List E} {y : It} (hr : items.Pairwise fun a b => a.id < b.id) (hy : y ∈ items) (hp : lsd y = true) {rest : List E} (hw : (ew y :: rest).Perm ((items.filter lsd).map ew)) {it : It} (hid : it.id = y.id) (hn : ¬ lsd it = true) :
    rest.Perm (((insIt items it).filter lsd).map ew) := by
  have h1 := ((insIt_perm hr it).filter lsd).map ew
  rw [List.filter_cons, if_neg hn] at h1
  refine List.Perm.trans ?_ h1.symm
  have h2 : ((dropIt items it.id).filter lsd).map ew = ((items.filter lsd).map ew).filter fun e => !decide (e.2 = (y.id : Int)) := by
    unfold dropIt
    rw [List.filter_map, List.filter_filter, List.filter_filter, hid]
    refine congrArg _ (List.filter_congr fun x _ => ?_)
    simp only [Function.comp, ew, Int.natCast_inj]
    exact Bool.and_comm _ _
  rw [h2]
  have h3 := hw.filter fun e => !decide (e.2 = (y.id : Int))
  rw [List.filter_cons, if_neg (by simp [ew])] at h3
  refine List.Perm.trans ?_ h3
  have hnd : (((items.filter lsd).map ew).map (·.2)).Nodup := by
    rw [List.map_map, List.nodup_iff_pairwise_ne, List.pairwise_map]
    refine (hr.sublist (List.filter_sublist (p := lsd))).imp fun h e => ?_
    simp only [Function.comp, ew, Int.natCast_inj] at e
    omega
  have hnd2 := ((hw.map (·.2)).nodup_iff).2 hnd
  rw [List.map_cons, List.nodup_cons] at hnd2
  refine List.Perm.of_eq (List.filter_eq_self.2 fun e he => ?_).symm
  simp only [Bool.not_eq_true', decide_eq_false_iff_not]
  exact fun e2 => hnd2.1 (by show (ew y).2 ∈ _; rw [show (ew y).2 = (y.id : Int) from rfl, ← e2]; exact List.mem_map.2 ⟨e, he, rfl⟩)
set_option linter.unusedSimpArgs false
set_option linter.unusedVariables false
set_option maxRecDepth 20000
set_option maxHeartbeats 4000000
attribute [local congr] BND_cg COND_cg GEF_cg
attribute [local irreducible] capl slicea load1 loadn iaddr iaddra faddr storev newslice binv lookv mupd mdel mlenv mentry mestore slicev slicev3 slices indexs indexav textv rangev nexts clearv shiftv eqaggv convi buildv pickv lens lenl unv nilchk extractv partn JOIN
section
variable {w0 w : World} {F0 : List Nat} {xb : Nat} {m : Mx} {r : Rx} {bs : List HP} {s : Px} {cut B : Nat} {R : Value → World → Prop}
theorem ix_Reset (h : At w0 F0 (indexHP xb s) w) (hI : QInv s cut B) (hB : B < 7000000000000000000) (hR : ∀ w', At w0 F0 (indexHP xb (resetP s)) w' → R (.tuple #[]) w') : CALL PR F_index_Index_Reset [pp xb] w R := by
  obtain ⟨m, r, hr, ha⟩ := ix_open h
  refine C_index_Index_Reset ?_
  unfold M_index_Index_Reset
  refine due_New fun w1 hb F1 o1 f1 n1 => ?_
  have h1 : At w0 F0 (stars (ixL xb m r ++ [dueHP hb []])) w1 := At.push (by simpa using ha) f1 (P := dueHP hb []) o1 n1
  obtain ⟨T1, c1⟩ := ixa_cell h1
  obtain ⟨es, ck, L, hmb, hL, h1e, backE⟩ := ixE_fix h1 hI hr
  have hmE : ∀ {bs : List HP} {w' : World}, At w0 F0 (stars (ixE xb m r es ck ++ bs)) w' → blk w' m.hb = some (.map es ck) := fun h => by
    obtain ⟨A, hA, _⟩ := h.get 3 rfl
    exact hA.1
  have hb1 := hmE h1e
  (repeat refine gg ?_)
  refine RANGEM_step hb1 fun w2 b2 f2 z2 => ?_
  have h2 : At w0 F0 (stars (ixE xb m r es ck ++ [dueHP hb [], itHP (hsz w1) m.hb ck #[]])) w2 := by
    have := At.push h1e f2 (P := itHP (hsz w1) m.hb ck #[]) (A := [hsz w1]) ⟨b2, rfl⟩ (by simp)
    rwa [List.append_assoc] at this
  have hents := hmb.l.ents
  -- ids of the entries
  have hids : ∀ e ∈ es.toList, ∃ y ∈ s.items, lsd y = true ∧ e.val = .int .u64 (y.id : Int) := fun e he => by
    have hm : (e.key, e.val) ∈ L.map fun p => (encK p.1, p.2) := by rw [← hents]; exact List.mem_map.2 ⟨e, he, rfl⟩
    obtain ⟨p, hp, e1⟩ := List.mem_map.1 hm
    obtain ⟨y, hy, e2⟩ := List.mem_map.1 (hL.mem_iff.1 hp)
    obtain ⟨hy1, hy2⟩ := List.mem_filter.1 hy
    refine ⟨y, hy1, hy2, ?_⟩
    have : e.val = p.2 := (Prod.mk.inj e1).2.symm
    rw [this, ← e2]
  have hvals : (es.toList.map valId).Perm ((s.items.filter lsd).map fun y => (y.id : Int)) := by
    have e1 : es.toList.map valId = L.map fun p => (match p.2 with | .int _ n => n | _ => 0) := by
      have := congrArg (List.map fun q : Value × Value => (match q.2 with | .int _ n => n | _ => (0 : Int))) hents
      rw [List.map_map, List.map_map] at this
      exact this
    rw [e1]
    refine (hL.map _).trans ?_
    rw [List.map_map]
    exact .refl _
  have hnd : (es.toList.map valId).Nodup := by
    refine (hvals.nodup_iff).2 ?_
    rw [List.nodup_iff_pairwise_ne, List.pairwise_map]
    exact (hI.rise.sublist (List.filter_sublist (p := lsd))).imp fun h e => by simp only [Int.natCast_inj] at e; omega
  have hlen := wts_len hI lsd
  have hesl : es.toList.length ≤ 200 := by
    have := hvals.length_eq
    rw [List.length_map, List.length_map] at this
    omega
  refine loop_it0 (hsz w1) es.toList.length (fun w' => ∃ W sn A B', At w0 F0 (stars (ixE xb m r es ck ++ [dueHP hb W, itHP (hsz w1) m.hb ck sn])) w' ∧ ItAt es sn A B' ∧ W.Perm ((A.map valId).map (ewOf s)) ∧ W.length = A.length)
    ⟨[], #[], [], es.toList, h2, ItAt.start es, by simp, rfl⟩ ?_
  rintro w3 ⟨W, sn, A, B', h3, hit, hW, hWl⟩ J mm hJ
  have hm3 := hmE h3
  obtain ⟨G, ⟨hbit, hG⟩, updI⟩ := h3.upd 14 rfl
  subst hG
  refine NEXTM_step hm3 hmb.lt hmb.nd hbit hit (fun hB0 => ?_) fun e B1 B2 w4 hB f4 hit4p hit4 hent => ?_
  · -- all have come
    (repeat refine gg ?_)
    have hAll : A.Perm es.toList := by have := hit.all; rw [hB0, List.append_nil] at this; exact this
    have hWall : W.Perm ((s.items.filter lsd).map ew) := by
      refine hW.trans (((hAll.map valId).trans hvals).map (ewOf s) |>.trans ?_)
      rw [List.map_map]
      refine List.Perm.of_eq (List.map_congr_left fun y hy => ?_)
      have hy1 := (List.mem_filter.1 hy).1
      simp only [Function.comp, ewOf, findIt_mem hI.rise hy1, Option.getD_some]
    have h3' : At w0 F0 (stars (ixL xb m r ++ [dueHP hb W])) w3 := by
      have e : ixE xb m r es ck ++ [dueHP hb W, itHP (hsz w1) m.hb ck sn] = (ixE xb m r es ck ++ [dueHP hb W]) ++ [itHP (hsz w1) m.hb ck sn] := by simp
      rw [e] at h3
      exact backE (At.pop h3)
    refine ⟨fun w' => ∃ sK rK k j V, At w0 F0 (stars (ixL xb m rK ++ [dueHP hb V])) w' ∧ Rep sK rK ∧ QInv sK cut (B + j) ∧ V.Perm ((sK.items.filter lsd).map ew) ∧ j + V.length = (s.items.filter lsd).length ∧ V.length < k ∧ resetF (s.items.length + 1) s = resetF k sK,
      fun w' => dueN hb w', ⟨s, r, s.items.length + 1, 0, W, h3', hr, hI, hWall, by have := hWall.length_eq; rw [List.length_map] at this; omega, by have := hWall.length_eq; rw [List.length_map] at this; have := List.length_filter_le lsd s.items; omega, rfl⟩, ?_⟩
    rintro _ w5 ⟨sK, rK, k, j, V, h5, hr5, hI5, hV, hcnt, hk, hrf⟩
    obtain ⟨D, hD, updD⟩ := h5.upd 13 rfl
    have hD' : DueOwn w5 hb V D := hD
    have hN5 := dueN_of hD'
    have hsoon := soon_head hI5.rise hV hD'.sorted 18446744073709551615
    have hVl : V.length ≤ 200 := by omega
    refine due_Take hD' (by omega) 18446744073709551615 (fun w6 hc6 o6 f6 => ?_) fun e rest he hle w6 o6 f6 => ?_
    · have h6 := updD w6 D (dueHP hb V) o6 f6 fun b hb => .inl hb
      (repeat refine gg ?_)
      have hnone : soonF lsd 18446744073709551615 none sK.items = none := hsoon.2 hc6
      have : resetF k sK = sK := by
        cases k with
        | zero => omega
        | succ k => unfold resetF; rw [hnone]
      unfold resetP at hR
      rw [hrf, this] at hR
      exact hR w6 (ix_shut hr5 (At.pops h6 |> fun h => by simpa using h))
    · have h6 := updD w6 D (dueHP hb rest) o6 f6 fun b hb => .inl hb
      replace h6 : At w0 F0 (stars (ixL xb m rK ++ [dueHP hb rest])) w6 := h6
      obtain ⟨y, hy, hw, hey, hsome⟩ := hsoon.1 e rest he hle
      have hfi := findIt_mem hI5.rise hy
      have he2 : e.2 = (y.id : Int) := by rw [← hey]; rfl
      rw [he2]
      obtain ⟨T6, c6⟩ := ixa_cell h6
      have hl6 := ixa_find1 h6 hr5 (.agg (encIt it0).toArray) _ hfi
      (repeat refine gg ?_)
      refine ixa_new (vs := encIt it0) h6 fun w7 h7 f7 z7 => ?_
      refine h7.put (i := 13) (n := 10) rfl rfl rfl (encIt_one y) (by simp [encIt]) fun w8 h8 _ => ?_
      replace h8 : At w0 F0 (stars (ixL xb m rK ++ [pts (hsz w6) (encIt y), dueHP hb rest])) w8 := h8
      have h8d := At.drew h8
      refine ⟨fun _ w' => At w0 F0 (stars (ixL xb m rK ++ [pts (hsz w6) (encIt y), dueHP hb rest])) w', h8d, ?_⟩
      have hld : ∀ w', At w0 F0 (stars (ixL xb m rK ++ [pts (hsz w6) (encIt y), dueHP hb rest])) w' → loadn 10 w' (.pointer (some ⟨hsz w6, 0, none⟩)) = some (.agg (encIt y).toArray) := fun w' h => by
        obtain ⟨T, c⟩ := h.cell (i := 13) rfl
        exact loadn_all c rfl
      obtain ⟨T8, c8⟩ := h8d.cell (i := 13) rfl
      obtain ⟨Tx, cx⟩ := ixa_cell h8d
      have e4 : loadn 4 w8.drew (.pointer (some ⟨hsz w6, 0 + 2, none⟩)) = some (.agg (encLf y.lf).toArray) := by
        rw [loadn_blk c8 (by simp [encIt])]; rfl
      (repeat (first | refine gg ?_ | refine FLT.mk _ (fun _ hw_ => (hld _ hw_)) ?_))
      have hrc : rK.c.del = sK.c.del := by rw [hr5.c]
      rw [hrc]
      refine lf_Reset y.lf sK.c.del fun w9 f9 => ?_
      have h9 := h8d.fr0 f9
      refine ⟨h9, ?_⟩
      have hnums := hI5.nums
      have hlane := ready_of hI5 hy
      refine ix_is h9 (small_of hI5 hr5) (by rw [hr5.last]; omega) (by rw [hr5.turns]; omega) _ _ hlane fun w10 h10 => ?_
      obtain ⟨hI6, hlen6⟩ := reset_step hI5 hsome
      obtain ⟨s1, s2, s3⟩ := soon_wts hsome
      have hrep := rep_is hI5 hr5 (.inl hy) hlane (resetL_ok hI5 s1 s2).1
      have hst := resetL_st (d := sK.c.del) s2
      have hV2 : rest.Perm (((isP sK y (resetL y.lf sK.c.del)).1.items.filter lsd).map ew) := by
        have e5 : ¬ (resetL y.lf sK.c.del).st = 5 := by omega
        unfold isP
        simp only [if_neg e5]
        refine remS_lsd (W := V) hI5.rise hy s2 (rest := rest) (by rw [hey, ← he]; exact hV) rfl ?_
        unfold lsd
        simp only [decide_eq_true_eq]
        omega
      have h10' := ixa_pop h10
      have hlr : rest.length + 1 = V.length := by rw [he]; simp
      have hN10 : dueN hb w10 = rest.length := by
        obtain ⟨D2, hD2, _⟩ := h10'.get 13 rfl
        exact dueN_of (show DueOwn w10 hb rest D2 from hD2)
      refine ⟨⟨_, _, k - 1, j + 1, rest, h10', hrep.1, hI6.more (by omega), hV2, by omega, by omega, ?_⟩, by show dueN hb w10 < dueN hb w5; omega⟩
      rw [hrf]
      cases k with
      | zero => omega
      | succ k =>
        conv => lhs; unfold resetF
        rw [hsome]
        rfl
  · -- one more
    obtain ⟨hk4, _⟩ := hit4p
    have h4 := updI w4 [hsz w1] (itHP (hsz w1) m.hb ck (sn.push e.born)) ⟨hk4, rfl⟩ f4 (fun b hb => .inl hb)
    replace h4 : At w0 F0 (stars (ixE xb m r es ck ++ [dueHP hb W, itHP (hsz w1) m.hb ck (sn.push e.born)])) w4 := h4
    have heM : e ∈ es.toList := hit.all.mem_iff.1 (by rw [hB]; simp)
    obtain ⟨y, hy, hyl, hval⟩ := hids e heM
    rw [hval] at hent
    have hfi := findIt_mem hI.rise hy
    obtain ⟨T4, c4⟩ := h4.cell (i := 0) rfl
    have hl4 : lookv (.int .u64) (.agg (encIt it0).toArray) false w4 (.map (some m.mb)) (.int .u64 (y.id : Int)) = some (.agg (encIt y).toArray) := by
      have := At.look1 (i := 1) h4 rfl (.agg (encIt it0).toArray) (y.id : Int)
      rw [this, itsV, hr.its, hfi]
      rfl
    have hvid : valId e = (y.id : Int) := by unfold valId; rw [hval]
    (repeat (first | refine gg ?_ | (apply BND_part (encLf y.lf); exact rfl)))
    change CALL PR F_due_Heap_Put [.pointer (some ⟨hb, 0, none⟩), .int .u64 (y.id : Int), .int .u64 (y.lf.due : Int)] w4 _
    obtain ⟨D, hD, updD⟩ := h4.upd 13 rfl
    have hD' : DueOwn w4 hb W D := hD
    have hAl : A.length ≤ 200 := by
      have := hit.all.length_eq
      rw [List.length_append] at this
      omega
    refine due_Put hD' (by omega) (y.id : Int) (y.lf.due : Int) (fun hin => ?_) fun hni w5 F' o5 f5 sub5 => ?_
    · -- it can't be there
      exfalso
      have h5 := (hW.map (·.2)).mem_iff.1 hin
      rw [List.map_map] at h5
      obtain ⟨e1, he1, e2⟩ := List.mem_map.1 h5
      have hall := hit.all
      have hnd2 := ((hall.map valId).nodup_iff).2 hnd
      rw [List.map_append, List.nodup_append] at hnd2
      obtain ⟨e0, he0, rfl⟩ := List.mem_map.1 he1
      have he0M : e0 ∈ es.toList := hall.mem_iff.1 (by simp [he0])
      obtain ⟨y0, hy0, _, hval0⟩ := hids e0 he0M
      have hv0 : valId e0 = (y0.id : Int) := by unfold valId; rw [hval0]
      simp only [Function.comp, ewOf, hv0, findIt_mem hI.rise hy0, Option.getD_some, ew, Int.natCast_inj] at e2
      refine hnd2.2.2 (valId e0) (List.mem_map.2 ⟨e0, he0, rfl⟩) (valId e) (List.mem_map.2 ⟨e, by rw [hB]; simp, rfl⟩) ?_
      rw [hv0, hvid, e2]
    · have h5 := updD w5 F' (dueHP hb (insS W ((y.lf.due : Int), (y.id : Int)))) o5 f5 sub5
      replace h5 : At w0 F0 (stars (ixE xb m r es ck ++ [dueHP hb (insS W ((y.lf.due : Int), (y.id : Int))), itHP (hsz w1) m.hb ck (sn.push e.born)])) w5 := h5
      (repeat refine gg ?_)
      obtain ⟨_, ⟨hk5, _⟩, _⟩ := h5.get 14 rfl
      have hs3 := seenN_it hbit
      have hs5 := seenN_it hk5
      have hsn : sn.size = A.length := by
        have := congrArg List.length hit.seen
        simpa using this
      have hAB : A.length < es.toList.length := by
        have := hit.all.length_eq
        rw [hB, List.length_append, List.length_append, List.length_cons] at this
        omega
      exact hJ w5 (by rw [hs3, hsn]; exact hAB) (by rw [hs5, hs3]; simp) ⟨_, _, A ++ [e], B1 ++ B2, h5, hit4, by
        refine (insS_perm W _).trans ((hW.cons _).trans ?_)
        rw [List.map_append, List.map_append]
        refine List.Perm.trans ?_ List.perm_append_comm
        simp only [List.map_cons, List.map_nil, List.singleton_append, hvid, ewOf, findIt_mem hI.rise hy, Option.getD_some]
        exact .refl _, by rw [(insS_perm W _).length_eq, List.length_cons, hWl]; simp⟩
end
end Go.Proofs.YtpgflmjeedbimaaGreat
end
section
namespace Go.Proofs.YtpgflmjeedbimaaGreat.Sort64
open Go.Den
abbrev enU (n : Int) : List Value := [.int .u64 n]
def at0 (xs : List Int) (i : Nat) : Int := xs.getD i 0
def swp (xs : List Int) (i j : Nat) : List Int := (xs.set i (at0 xs j)).set j (at0 xs i)
theorem at0_get {xs : List Int} {i : Nat} (h : i < xs.length) : xs[i]? = some (at0 xs i) := by
  unfold at0
  rw [List.getD_eq_getElem?_getD, List.getElem?_eq_getElem h]; rfl
theorem len_swp (xs : List Int) (i j : Nat) : (swp xs i j).length = xs.length := by simp [swp]
theorem at0_swp {xs : List Int} {i j : Nat} (hi : i < xs.length) (hj : j < xs.length) (k : Nat) : at0 (swp xs i j) k = if k = j then at0 xs i else if k = i then at0 xs j else at0 xs k := by
  unfold swp
  have : ∀ (ys : List Int) (m : Nat) (x : Int), m < ys.length → at0 (ys.set m x) k = if k = m then x else at0 ys k := fun ys m x hm => by
    unfold at0
    rw [List.getD_eq_getElem?_getD, List.getD_eq_getElem?_getD, List.getElem?_set]
    by_cases h : m = k
    · subst h; simp [hm]
    · rw [if_neg h, if_neg (fun e => h e.symm)]
  rw [this _ j _ (by simpa using hj), this _ i _ hi]
theorem set_at0 (xs : List Int) (i : Nat) : xs.set i (at0 xs i) = xs := by
  apply List.ext_getElem?
  intro k
  rw [List.getElem?_set]
  split
  · rename_i h; subst h
    split
    · rename_i hl; exact (at0_get hl).symm
    · rename_i hl; exact (List.getElem?_eq_none (by omega)).symm
  · rfl
theorem swp_perm {xs : List Int} {i j : Nat} (hi : i < xs.length) (hj : j < xs.length) : (swp xs i j).Perm xs := by
  have key : ∀ {i j : Nat}, i < j → j < xs.length → ((xs.set i (at0 xs j)).set j (at0 xs i)).Perm xs := by
    intro i j hij hj
    have hi : i < xs.length := by omega
    have e1 : xs = xs.take i ++ at0 xs i :: (xs.drop (i + 1)) := by
      conv => lhs; rw [← List.take_append_drop i xs]
      congr 1
      have : xs[i]? = some (at0 xs i) := at0_get hi
      obtain ⟨h1, h2⟩ := List.getElem?_eq_some_iff.1 this
      rw [List.drop_eq_getElem_cons hi, h2]
    have e2 : xs.drop (i + 1) = (xs.drop (i + 1)).take (j - (i + 1)) ++ at0 xs j :: xs.drop (j + 1) := by
      conv => lhs; rw [← List.take_append_drop (j - (i + 1)) (xs.drop (i + 1))]
      congr 1
      rw [List.drop_drop, show i + 1 + (j - (i + 1)) = j by omega]
      have : xs[j]? = some (at0 xs j) := at0_get hj
      obtain ⟨h1, h2⟩ := List.getElem?_eq_some_iff.1 this
      rw [List.drop_eq_getElem_cons hj, h2]
    have hL : (xs.take i).length = i := by simp; omega
    have hM : ((xs.drop (i + 1)).take (j - (i + 1))).length = j - (i + 1) := by simp; omega
    generalize xs.take i = L at e1 hL
    generalize (xs.drop (i + 1)).take (j - (i + 1)) = M at e2 hM
    generalize xs.drop (j + 1) = N at e2
    rw [e2] at e1
    generalize at0 xs i = x at *
    generalize at0 xs j = y at *
    subst e1
    have s1 : (L ++ x :: (M ++ y :: N)).set i y = L ++ y :: (M ++ y :: N) := by
      rw [List.set_append_right _ _ (by omega), hL, Nat.sub_self, List.set_cons_zero]
    have s2 : (L ++ y :: (M ++ y :: N)).set j x = L ++ y :: (M ++ x :: N) := by
      rw [List.set_append_right _ _ (by omega), hL, show j - i = (j - (i + 1)) + 1 by omega, List.set_cons_succ, List.set_append_right _ _ (by omega), hM, Nat.sub_self, List.set_cons_zero]
    rw [s1, s2]
    refine List.Perm.append_left L ?_
    refine (List.perm_middle.cons y).trans ?_
    refine (List.Perm.swap x y (M ++ N)).trans ?_
    exact (List.perm_middle.symm).cons x
  unfold swp
  rcases Nat.lt_trichotomy i j with h | h | h
  · exact key h hj
  · subst h
    rw [List.set_set, set_at0]
  · have : (xs.set i (at0 xs j)).set j (at0 xs i) = (xs.set j (at0 xs i)).set i (at0 xs j) := List.set_comm _ _ (by omega)
    rw [this]
    exact key h hi
inductive Mix (a b : Nat) : List Int → List Int → Prop where
  | refl (xs : List Int) : Mix a b xs xs
  | swap {xs ys : List Int} (i j : Nat) (hi : a ≤ i) (hi' : i < b) (hj : a ≤ j) (hj' : j < b) (h : Mix a b xs ys) : Mix a b xs (swp ys i j)
section
variable {a b c d : Nat} {xs ys zs : List Int}
theorem Mix.trans (h : Mix a b xs ys) (h' : Mix a b ys zs) : Mix a b xs zs := by
  induction h' with
  | refl => exact h
  | swap i j h1 h2 h3 h4 _ ih => exact .swap i j h1 h2 h3 h4 ih
theorem Mix.wider (h : Mix a b xs ys) (h1 : c ≤ a) (h2 : b ≤ d) : Mix c d xs ys := by
  induction h with
  | refl => exact .refl _
  | swap i j _ _ _ _ _ ih => exact .swap i j (by omega) (by omega) (by omega) (by omega) ih
theorem Mix.len (h : Mix a b xs ys) : ys.length = xs.length := by
  induction h with
  | refl => rfl
  | swap i j _ _ _ _ _ ih => rw [len_swp, ih]
theorem Mix.perm (h : Mix a b xs ys) (hb : b ≤ xs.length) : ys.Perm xs := by
  induction h with
  | refl => exact .refl _
  | swap i j _ _ _ _ hm ih =>
    have := hm.len
    exact (swp_perm (by omega) (by omega)).trans (ih)
theorem Mix.out (h : Mix a b xs ys) (hb : b ≤ xs.length) (k : Nat) (hk : k < a ∨ b ≤ k) : at0 ys k = at0 xs k := by
  induction h with
  | refl => rfl
  | swap i j _ _ _ _ hm ih =>
    have := hm.len
    rw [at0_swp (by omega) (by omega), if_neg (by omega), if_neg (by omega), ih]
theorem Mix.pick (h : Mix a b xs ys) (hb : b ≤ xs.length) (k : Nat) (h1 : a ≤ k) (h2 : k < b) : ∃ m, a ≤ m ∧ m < b ∧ at0 ys k = at0 xs m := by
  induction h generalizing k with
  | refl => exact ⟨k, h1, h2, rfl⟩
  | swap i j _ _ _ _ hm ih =>
    have := hm.len
    rw [at0_swp (by omega) (by omega)]
    split
    · exact ih i (by omega) (by omega)
    split
    · exact ih j (by omega) (by omega)
    · exact ih k h1 h2
theorem Mix.all (h : Mix a b xs ys) (hb : b ≤ xs.length) {p : Int → Prop} (hp : ∀ k, a ≤ k → k < b → p (at0 xs k)) (k : Nat) (h1 : a ≤ k) (h2 : k < b) : p (at0 ys k) := by
  obtain ⟨m, m1, m2, e⟩ := h.pick hb k h1 h2
  rw [e]; exact hp m m1 m2
def Sorted (xs : List Int) (a b : Nat) : Prop := ∀ i j, a ≤ i → i ≤ j → j < b → at0 xs i ≤ at0 xs j
end
section
variable {w : World} {v : Value} {xs : List Int} {b : Nat} {R : Value → World → Prop}
theorem ia (s : Slc enU 1 w v xs [b]) {i : Nat} (hi : i < xs.length) : iaddr 1 v (.int .i64 (i : Int)) = some (.pointer (some ⟨b, i, none⟩)) := by
  obtain ⟨b', e, h⟩ := s.iaddr hi .i64
  simp at e; subst e
  rw [h, Nat.mul_one]
theorem ld (s : Slc enU 1 w v xs [b]) {i : Nat} (hi : i < xs.length) : load1 w (.pointer (some ⟨b, i, none⟩)) = some (.int .u64 (at0 xs i)) := by
  have := s.load1 (i := i) (j := 0) (at0_get hi) (by omega)
  rw [Nat.mul_one, Nat.add_zero] at this
  exact this
theorem st (s : Slc enU 1 w v xs [b]) {i : Nat} (hi : i < xs.length) (x : Int) : ∃ w', storev 1 w (.pointer (some ⟨b, i, none⟩)) (.int .u64 x) = some w' ∧ Slc enU 1 w' v (xs.set i x) [b] ∧ Fr [b] w w' := by
  obtain ⟨w', e, s', f, _⟩ := s.set1 (i := i) (j := 0) (y := x) (u := .int .u64 x) (at0_get hi) (by omega) (fun m hm => by
    obtain rfl : m = 0 := by omega
    rfl) rfl rfl
  rw [Nat.mul_one, Nat.add_zero] at e
  exact ⟨w', e, s', f⟩
end
end Go.Proofs.YtpgflmjeedbimaaGreat.Sort64
end
section
namespace Go.Proofs.YtpgflmjeedbimaaGreat.Sort64
open Go.Den
def bl (x : Nat) : Nat := if x = 0 then 0 else Nat.log2 x + 1
section
variable {w : World} {v : Value} {xs : List Int} {b : Nat} {R : Value → World → Prop}
def Heap (xs : List Int) (lo n p e : Nat) : Prop := ∀ k c, p ≤ k → k ≠ e → (c = 2 * k + 1 ∨ c = 2 * k + 2) → c < n → at0 xs (lo + c) ≤ at0 xs (lo + k)
end
end Go.Proofs.YtpgflmjeedbimaaGreat.Sort64
end
section
namespace Go.Proofs.YtpgflmjeedbimaaGreat.Sort64
open Go.Den
end Go.Proofs.YtpgflmjeedbimaaGreat.Sort64
end
section
namespace Go.Proofs.YtpgflmjeedbimaaGreat.Sort64
open Go.Den
section
variable {w : World} {v : Value} {xs : List Int} {b : Nat} {R : Value → World → Prop}
def But (xs : List Int) (A B lo hi : Nat) : Prop := ∀ i j, A ≤ i → i ≤ j → j < B → (i < lo ∨ hi ≤ j) → at0 xs i ≤ at0 xs j
theorem But.done {A B lo hi : Nat} (h : But xs A B lo hi) (hs : Sorted xs lo hi) : Sorted xs A B := fun i j h1 h2 h3 => by
  by_cases hc : i < lo ∨ hi ≤ j
  · exact h i j h1 h2 h3 hc
  · exact hs i j (by omega) h2 (by omega)
theorem But.left {A B lo hi m : Nat} (h : But xs A B lo hi) (hm1 : lo ≤ m) (hm2 : m < hi) (hs : Sorted xs lo m) (hl : ∀ k, lo ≤ k → k < m → at0 xs k ≤ at0 xs m) (hr : ∀ k, m < k → k < hi → at0 xs m ≤ at0 xs k) : But xs A B (m + 1) hi := by
  intro i j h1 h2 h3 h5
  by_cases hc : i < lo ∨ hi ≤ j
  · exact h i j h1 h2 h3 hc
  · rcases h5 with h5 | h5
    · by_cases him : i = m
      · subst him
        by_cases hj : j = i
        · subst hj; omega
        · exact hr j (by omega) (by omega)
      · by_cases hjm : j < m
        · exact hs i j (by omega) h2 hjm
        · have x1 := hl i (by omega) (by omega)
          by_cases hj : j = m
          · rw [hj]; exact x1
          · have x2 := hr j (by omega) (by omega); omega
    · omega
theorem But.right {A B lo hi m : Nat} (h : But xs A B lo hi) (hm1 : lo ≤ m) (hm2 : m < hi) (hs : Sorted xs (m + 1) hi) (hl : ∀ k, lo ≤ k → k < m → at0 xs k ≤ at0 xs m) (hr : ∀ k, m < k → k < hi → at0 xs m ≤ at0 xs k) : But xs A B lo m := by
  intro i j h1 h2 h3 h5
  by_cases hc : i < lo ∨ hi ≤ j
  · exact h i j h1 h2 h3 hc
  · have hj : m ≤ j := by omega
    by_cases hjm : j = m
    · subst hjm
      by_cases hi' : i = j
      · subst hi'; omega
      · exact hl i (by omega) (by omega)
    · by_cases him : m < i
      · exact hs i j (by omega) h2 (by omega)
      · have x2 := hr j (by omega) (by omega)
        by_cases hi' : i = m
        · subst hi'; exact x2
        · have x1 := hl i (by omega) (by omega); omega
theorem But.least {A B lo hi m : Nat} {p : Int} (h : But xs A B lo hi) (_ : lo ≤ m) (hge : ∀ k, lo ≤ k → k < hi → p ≤ at0 xs k) (hl : ∀ k, lo ≤ k → k < m → at0 xs k ≤ p) : But xs A B m hi := by
  intro i j h1 h2 h3 h5
  by_cases hc : i < lo ∨ hi ≤ j
  · exact h i j h1 h2 h3 hc
  · have x1 := hl i (by omega) (by omega)
    have x2 := hge j (by omega) (by omega)
    omega
end
end Go.Proofs.YtpgflmjeedbimaaGreat.Sort64
end
section
namespace Go.Proofs.YtpgflmjeedbimaaGreat
open Go.Den Go.RowKit
def encS (s : ByteArray) : List Value := [.string s]
def rz (s : ByteArray) : List Int := runesB s.data.toList
def LE (x y : ByteArray) : Prop := lessZ (rz y) (rz x) = false
theorem LE.refl (x : ByteArray) : LE x x := less_irr _
theorem LE.trans {x y z : ByteArray} (h : LE x y) (h' : LE y z) : LE x z := by
  unfold LE at *
  cases hzx : lessZ (rz z) (rz x) with
  | false => rfl
  | true =>
    by_cases e : rz x = rz y
    · rw [e] at hzx; rw [hzx] at h'; exact h'
    · rcases less_total _ _ e with h1 | h1
      · rw [less_trans _ _ _ hzx h1] at h'; exact h'
      · rw [h1] at h; cases h
theorem LE.of_less {x y : ByteArray} (h : lessZ (rz x) (rz y) = true) : LE x y := less_asym _ _ h
def Rises (ys : List ByteArray) (n j : Nat) : Prop := ∀ p q x y, p < q → q < n → q ≠ j → ys[p]? = some x → ys[q]? = some y → LE x y
theorem Rises.swap {ys : List ByteArray} {n j : Nat} {x y : ByteArray} (h : Rises ys n (j + 1)) (hx : ys[j]? = some x) (hy : ys[j + 1]? = some y) (hl : lessZ (rz y) (rz x) = true) (hn : j + 1 < n) :
    Rises ((ys.set (j + 1) x).set j y) n j := by
  have hj := (List.getElem?_eq_some_iff.1 hy).1
  have get : ∀ p, ((ys.set (j + 1) x).set j y)[p]? = if p = j then some y else if p = j + 1 then some x else ys[p]? := by
    intro p
    rw [List.getElem?_set, List.getElem?_set]
    simp only [List.length_set]
    by_cases h1 : j = p
    · subst h1; simp; omega
    · by_cases h2 : j + 1 = p
      · subst h2; simp [hj]
      · simp [h1, h2, Ne.symm h1, Ne.symm h2]
  intro p q a b hpq hqn hqj ha hb
  rw [get] at ha hb
  rw [if_neg hqj] at hb
  by_cases h1 : q = j + 1
  · rw [if_pos h1] at hb
    cases hb
    by_cases h2 : p = j
    · rw [if_pos h2] at ha; cases ha; exact LE.of_less hl
    · rw [if_neg h2, if_neg (by omega)] at ha
      exact h p j a x (by omega) (by omega) (by omega) ha hx
  · rw [if_neg h1] at hb
    by_cases h2 : p = j
    · rw [if_pos h2] at ha; cases ha
      exact h (j + 1) q y b (by omega) hqn h1 hy hb
    · rw [if_neg h2] at ha
      by_cases h3 : p = j + 1
      · rw [if_pos h3] at ha; cases ha
        exact h j q x b (by omega) hqn h1 hx hb
      · rw [if_neg h3] at ha
        exact h p q a b hpq hqn h1 ha hb
end Go.Proofs.YtpgflmjeedbimaaGreat
end
section
namespace Go.Proofs.YtpgflmjeedbimaaGreat
open Go.Den Go.RowKit Go.Maps Go.Sort Go.Shelf
section
variable {w : World} {F : List Nat} {R : Value → World → Prop}
theorem atI_mem : ∀ {S : Seen}, (S.map (·.1)).Nodup → ∀ p ∈ S, atI S p.1 = some p.2
  | [], _, p, hp => by simp at hp
  | (k, v) :: S, h, p, hp => by
    simp only [List.map_cons, List.nodup_cons] at h
    rcases List.mem_cons.1 hp with rfl | hp
    · simp [atI]
    · have hne : p.1 ≠ k := fun e => h.1 (e ▸ List.mem_map.2 ⟨p, hp, rfl⟩)
      rw [atI, if_neg hne]
      exact atI_mem h.2 p hp
theorem DeadOwn.once {w : World} {d : Nat} {rows : List RowD} {last : Int} {seen : Seen} {F : List Nat} (h : DeadOwn w d rows last seen F) : (seen.map (·.1)).Nodup := by
  obtain ⟨sv, Fa, T, mb, es, ck, h1, h2, h3, h4, rfl, h5, h6, h7⟩ := h
  have := h4.l.once
  simpa [toV, List.map_map, Function.comp_def] using this
end
end Go.Proofs.YtpgflmjeedbimaaGreat
end
section
namespace Go.Proofs.YtpgflmjeedbimaaGreat
open Go.Den Go.Ix Go.Shelf
set_option linter.unusedSimpArgs false
set_option linter.unusedVariables false
set_option linter.unusedSimpArgs false
set_option linter.unusedVariables false
set_option maxRecDepth 20000
set_option maxHeartbeats 4000000
attribute [local congr] BND_cg COND_cg GEF_cg
attribute [local irreducible] capl slicea load1 loadn iaddr iaddra faddr storev newslice binv lookv mupd mdel mlenv mentry mestore slicev slicev3 slices indexs indexav textv rangev nexts clearv shiftv eqaggv convi buildv pickv lens lenl unv nilchk extractv partn JOIN
end Go.Proofs.YtpgflmjeedbimaaGreat
end
section
namespace Go.Proofs.YtpgflmjeedbimaaGreat
open Go.Den
end Go.Proofs.YtpgflmjeedbimaaGreat
end
