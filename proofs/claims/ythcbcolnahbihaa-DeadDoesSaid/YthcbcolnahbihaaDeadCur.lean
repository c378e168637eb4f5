/- Cursors of the list of the dead: all consumers, by their names' runes, rising. No condition but sizes. -/
import Derived.Test.YthcbcolnahbihaaDeadSort
import Derived.Test.YthcbcolnahbihaaMa
namespace Go.Proofs.Ythcbcolnahbihaa
open Go.Den Go.RowKit Go.Maps Go.Sort Go.Shelf

section
variable {w : World} {F : List Nat} {R : Value → World → Prop}
theorem slc_of_owns {w : World} {base e : Nat} {v : Value} {ss : List (List UInt8)} (h : w.ownsRow base e 1 v ss.length (ss.map encStr)) : ∃ G, Slc encS 1 w v (ss.map txt) G ∧ ∀ b ∈ G, base ≤ b := by
  obtain ⟨_, h⟩ := h
  rcases h with ⟨rfl, h0⟩ | ⟨g, cap, cur, rfl, hb, hg, hn, hm, hs, ht⟩
  · have : ss = [] := List.eq_nil_of_length_eq_zero h0
    subst this
    exact ⟨[], Slc.nil _ _ _, by simp⟩
  · refine ⟨[g], .inr ⟨g, cap, cur, e, by simp, hg, by simpa using hn, hs, rfl, fun i x hx j hj => ?_⟩, by simpa using hb⟩
    obtain rfl : j = 0 := by omega
    rw [Nat.mul_one, Nat.add_zero]
    have hi : i < ss.length := by have := (List.getElem?_eq_some_iff.1 hx).1; simpa using this
    have h1 := congrArg (fun l : List Value => l[i]?) ht
    simp only [List.getElem?_take, Nat.mul_one, hi, if_true, Array.getElem?_toList] at h1
    rw [h1]
    simp only [List.getElem?_map] at hx ⊢
    cases hss : ss[i]? with
    | none => simp [hss] at hx
    | some l => simp [hss] at hx; subst hx; rfl

theorem dc_Sorted {mb : Nat} {es : Array MapEntry} {ck : Nat} {seen : Seen} (hb : blk w mb = some (.map es ck)) (h : MapB (fun s : ByteArray => Value.string s) es ck (toV seen)) (hs : seen.length ≤ 12) (hsmall : ∀ p ∈ seen, p.1.size < 1000000)
    (hR : ∀ w' v ys G, Slc encS 1 w' v ys G → ys.Perm (seen.map (·.1)) → Rises ys seen.length seen.length → (∀ b ∈ G, hsz w ≤ b) → Fr [] w w' → R v w') :
    CALL PR F_maps_Keys_map_stringuint64_string_uint64 [.map (some mb)] w fun t w1 => CALL PR F_slices_SortedFunc_string [t, (Value.func (.func F_dead_Dead_Cursors_1) #[] #[])] w1 R := by
  refine ⟨(callsIn_wide.1 (AnyZ.keys_in Try.keysA Fence.wide 5 trivial rfl (some mb) w)).mono ?_⟩
  rintro e w1 ⟨rfl, hw1⟩
  refine ⟨_, rfl, ?_⟩
  have b1 : blk w1 (hsz w) = some (.cells #[.map (some mb)] 65 (0, 0)) := by rw [hw1]; exact blk_alloc_new _ _
  have f1 : Fr [] w w1 := by rw [hw1]; exact Fr.alloc _ _ _
  have z1 : hsz w1 = hsz w + 1 := by rw [hw1]; simp
  clear hw1
  have hb1 := f1.some (by simp) hb
  obtain ⟨D, hown, hperm, hsiz⟩ := map_data h (by omega) hsmall hb1
  refine C_slices_SortedFunc_string ?_
  unfold M_slices_SortedFunc_string
  have hseq : SeqGives Fence.wide (3 - 1 - 1) Try.prog F_maps_Keys_map_stringuint64_string_uint64_1 #[.pointer (some ⟨hsz w, 0, none⟩)] encStr (fun ss => ss.Perm (strKeys D)) (Maps.size D) w1 :=
    AnyZ.keys_gives (ρ := Try.keysA_ren) { Try.keysA with } Fence.wide _ trivial rfl (by omega) (hsz w) mb seen.length D w1 (by rw [heap_size, z1]; omega) (by rw [cell?_blk b1]; rfl) hown
  refine ⟨(callsIn_wide.1 (AnyZ.collect_in Try.collectA Fence.wide 3 trivial trivial rfl (by omega) F_maps_Keys_map_stringuint64_string_uint64_1 #[.pointer (some ⟨hsz w, 0, none⟩)] trivial (enters_of Try.func48 (by kernel_rfl) rfl) _ (Maps.size D)
    (by rw [hsiz]; unfold maxLen; omega) (by rw [hsiz]; omega) w1 hseq)).mono ?_⟩
  rintro e w2 ⟨v, ss, rfl, hss, hrow, _, hbel⟩
  refine ⟨_, rfl, ?_⟩
  obtain ⟨G, hslc, hG⟩ := slc_of_owns hrow
  have f2 : Fr [] w1 w2 := fr_of_below hbel
  have hpm : (ss.map txt).Perm (seen.map (·.1)) := by
    have := (hss.trans hperm).map txt
    rw [List.map_map] at this
    refine this.trans ?_
    have e : seen.map (txt ∘ fun p => p.1.data.toList) = seen.map (·.1) := List.map_congr_left fun p _ => txt_of p.1
    rw [e]
  have hlen := hpm.length_eq
  rw [List.length_map (f := fun p : ByteArray × Int => p.1)] at hlen
  refine ds_SortFunc hslc (ds_cmp w2) (by omega) (fun x hx => ?_) fun w3 ys s3 pm3 r3 f3 => ?_
  · obtain ⟨p, hp, rfl⟩ := List.mem_map.1 (hpm.mem_iff.1 hx)
    exact hsmall p hp
  · rw [hlen] at r3
    have hG1 : ∀ b ∈ G, hsz w1 ≤ b := hG
    exact hR w3 v ys G s3 (pm3.trans hpm) r3 (fun b hb => by have := hG1 b hb; omega) ((f1.trans' f2).trans f3 fun b hb => .inr (by have := hG1 b hb; omega))

/-! ## What is told -/
def curOf (seen : Seen) (k : ByteArray) : ByteArray × Int := (k, (atI seen k).getD 0)
theorem atI_mem : ∀ {S : Seen}, (S.map (·.1)).Nodup → ∀ p ∈ S, atI S p.1 = some p.2
  | [], _, p, hp => by simp at hp
  | (k, v) :: S, h, p, hp => by
    simp only [List.map_cons, List.nodup_cons] at h
    rcases List.mem_cons.1 hp with rfl | hp
    · simp [atI]
    · have hne : p.1 ≠ k := fun e => h.1 (e ▸ List.mem_map.2 ⟨p, hp, rfl⟩)
      rw [atI, if_neg hne]
      exact atI_mem h.2 p hp
theorem cur_perm {seen : Seen} (h : (seen.map (·.1)).Nodup) {ys : List ByteArray} (hp : ys.Perm (seen.map (·.1))) : (ys.map (curOf seen)).Perm seen := by
  refine (hp.map (curOf seen)).trans ?_
  rw [List.map_map]
  have : seen.map (curOf seen ∘ fun p => p.1) = seen.map id := List.map_congr_left fun p hpm => by
    simp only [Function.comp, curOf, atI_mem h p hpm, Option.getD_some, id]
  rw [this, List.map_id]
/-- names rise by their runes. -/
def Rise (cs : Seen) : Prop := cs.Pairwise fun a b => LE a.1 b.1
theorem DeadOwn.once {w : World} {d : Nat} {rows : List Row} {last : Int} {seen : Seen} {F : List Nat} (h : DeadOwn w d rows last seen F) : (seen.map (·.1)).Nodup := by
  obtain ⟨sv, Fa, T, mb, es, ck, h1, h2, h3, h4, rfl, h5, h6, h7⟩ := h
  have := h4.l.once
  simpa [toV, List.map_map, Function.comp_def] using this

theorem dd_Cursors {d : Nat} {rows : List Row} {last : Int} {seen : Seen} (h : DeadOwn w d rows last seen F) (hs : seen.length ≤ 12) (hsmall : ∀ p ∈ seen, p.1.size < 1000000)
    (hR : ∀ w' v cs G, Slc encC 2 w' v cs G → cs.Perm seen → Rise cs → (∀ b ∈ G, hsz w ≤ b) → Fr [] w w' → R v w') : CALL PR F_dead_Dead_Cursors [.pointer (some ⟨d, 0, none⟩)] w R := by
  have honce := h.once
  refine C_dead_Dead_Cursors ?_
  unfold M_dead_Dead_Cursors
  obtain ⟨sv, Fa, T, mb, es, ck, b1, b2, b3, b4, rfl, c1, c2, c3⟩ := h
  refine BND_step (nilchk_ptr _) <| BND_step (faddr_ptr _ _ _) <| BND_step (v := .map (some mb)) (load1_blk b1) ?_
  refine dc_Sorted b3 b4 hs hsmall fun w2 v ys G s2 pm r2 hG f2 => ?_
  have hyl : ys.length = seen.length := by have := pm.length_eq; rw [List.length_map] at this; exact this
  refine BND_step s2.len ?_
  have b1' := f2.some (by simp) b1
  have b3' := f2.some (by simp) b3
  refine ⟨fun to t w' => ∃ (i : Nat) (H : List Nat), t = .int .i64 i ∧ Slc encC 2 w' to ((ys.take i).map (curOf seen)) H ∧ (∀ b ∈ H, hsz w2 ≤ b) ∧ Fr [] w2 w' ∧ i ≤ ys.length, fun _ t _ => match t with | .int _ n => ys.length - n.toNat | _ => 0,
    ⟨0, [], rfl, by simpa using Slc.nil _ _ _, by simp, Fr.refl _ _, by omega⟩, ?_⟩
  rintro _ _ _ w3 ⟨i, H, rfl, s3, hH, f3, hi⟩
  refine BND_step (binv_lss _ _ _ _) ?_
  by_cases hlt : i < ys.length
  · refine COND_dec_true (by omega) ?_
    have hx := List.getElem?_eq_getElem hlt
    generalize ys[i] = x at hx
    have s2' := s2.fr f3 (by simp)
    obtain ⟨b, rfl, ei⟩ := s2'.iaddr hlt .i64
    have elk := lookv_L1 keyStr (f3.some (by simp) b3') b4.l (.int .u64 0) x
    rw [lk_toV, show (Option.map (Value.int .u64 ·) (atI seen x)).getD (.int .u64 0) = .int .u64 ((atI seen x).getD 0) by cases atI seen x <;> rfl] at elk
    refine BND_step ei <| BND_step (show load1 w3 (.pointer (some ⟨b, i * 1, none⟩)) = some (.string x) from s2'.load1 (j := 0) hx (by omega)) <| BND_step (nilchk_ptr _) <| BND_step (faddr_ptr _ _ _) <| BND_step (v := .map (some mb)) (load1_blk (f3.some (by simp) b1')) <| BND_step elk <|
      BND_step (v := .agg (encC (curOf seen x)).toArray) rfl <| newone_step encC_len rfl fun t w4 s4 f4 z4 => ?_
    refine APPEND_slc (s3.fr f4 (by simp)) (s4.loads encC_len) encC_len encC_one rfl (by simp; omega) (by simp; omega) fun to w5 H' s5 f5 sub => ?_
    refine BND_step (add1 (by omega)) ⟨⟨i + 1, H', rfl, ?_, fun b hb => ?_, ?_, hlt⟩, by simp; omega⟩
    · rw [List.take_add_one, hx, List.map_append]; exact s5
    · have := f3.grow
      rcases sub b hb with h | h
      · exact hH b h
      · omega
    · exact (f3.trans' f4).trans f5 fun b hb => .inr (hH b hb)
  · refine COND_dec_false (by omega) ?_
    rw [List.take_of_length_le (by omega)] at s3
    have hg := f2.grow
    refine hR w3 _ _ H s3 (cur_perm honce pm) ?_ (fun b hb => by have := hH b hb; omega) (f2.trans' f3)
    unfold Rise
    rw [List.pairwise_map, List.pairwise_iff_getElem]
    intro p q hp hq hpq
    exact r2 p q _ _ hpq (by omega) (by omega) (List.getElem?_eq_getElem hp) (List.getElem?_eq_getElem hq)
end
end Go.Proofs.Ythcbcolnahbihaa
