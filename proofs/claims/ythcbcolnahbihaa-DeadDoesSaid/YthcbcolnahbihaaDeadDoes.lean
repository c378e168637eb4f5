/- tumbrellaw10.DeadDoes: for any acts it answers true: the list and the document's one agree, act by act. No condition. -/
import Derived.Test.YthcbcolnahbihaaDeadRefOps
import Derived.Test.YthcbcolnahbihaaMa
namespace Go.Proofs.Ythcbcolnahbihaa
open Go.Den

/-! ## Plain: the document's list is the same -/
theorem tk_take {n place : Int} : ∀ (rs : List Row) (p : Int) (out : List Int), place ≤ p → (p = place ∨ ∀ r ∈ rs, p < r.2) → rs.Pairwise (fun a b => a.2 < b.2) → tkR n place rs p out = takeI n rs p out
  | [], _, _, _, _, _ => rfl
  | r :: rs, p, out, h1, h2, h3 => by
    have hiff : place < r.2 ↔ p < r.2 := by
      rcases h2 with h | h
      · rw [h]
      · have := h r (by simp); omega
    simp only [tkR, takeI, hiff]
    split
    · rename_i hc
      exact tk_take rs _ _ (by have := hiff.2 hc.1; omega) (.inr fun x hx => (List.pairwise_cons.1 h3).1 x hx) (List.pairwise_cons.1 h3).2
    · exact tk_take rs _ _ h1 (h2.imp_right fun h x hx => h x (by simp [hx])) (List.pairwise_cons.1 h3).2
theorem drop_same {id : Int} : ∀ {rows : List Row}, (rows.map (·.1)).Nodup → dropR rows id = dropF rows id
  | [], _ => rfl
  | r :: rows, h => by
    simp only [List.map_cons, List.nodup_cons] at h
    unfold dropR dropF
    by_cases he : r.1 = id
    · rw [List.eraseP_cons_of_pos (by simpa using he), List.filter_cons_of_neg (by simp [he])]
      refine (List.filter_eq_self.2 fun x hx => ?_).symm
      have : x.1 ≠ id := fun e => h.1 (List.mem_map.2 ⟨x, hx, by rw [e, he]⟩)
      simp [this]
    · rw [List.eraseP_cons_of_neg (by simpa using he), List.filter_cons_of_pos (by simp [he])]
      congr 1
      exact drop_same h.2
abbrev Strict (S : Seen) : Prop := S.Pairwise (fun x y => lessZ (rz x.1) (rz y.1) = true)
theorem Strict.once : ∀ {S : Seen}, Strict S → (S.map (·.1)).Nodup
  | [], _ => by simp
  | c :: S, h => by
    simp only [List.map_cons, List.nodup_cons]
    refine ⟨fun hm => ?_, Strict.once (List.pairwise_cons.1 h).2⟩
    obtain ⟨x, hx, e⟩ := List.mem_map.1 hm
    have := (List.pairwise_cons.1 h).1 x hx
    rw [e, less_irr] at this
    cases this
theorem pos_mem {nm : ByteArray} {v : Int} : ∀ {S : Seen}, Strict S → (nm, v) ∈ S → S[posA nm S]? = some (nm, v)
  | [], _, h => by simp at h
  | c :: S, hs, h => by
    rcases List.mem_cons.1 h with h | h
    · subst h
      have : posA nm ((nm, v) :: S) = 0 := by rw [posA, if_neg (by rw [less_irr]; simp)]
      rw [this]; rfl
    · have hl := (List.pairwise_cons.1 hs).1 _ h
      have : posA nm (c :: S) = posA nm S + 1 := by rw [posA, if_pos hl]
      rw [this]
      simpa using pos_mem (List.pairwise_cons.1 hs).2 h
theorem has_at {nm : ByteArray} {S : Seen} (hs : Strict S) : hasA nm S ↔ atI S nm ≠ none := by
  unfold hasA
  constructor
  · intro h
    cases hg : S[posA nm S]? with
    | none => rw [hg] at h; cases h
    | some c =>
      rw [hg] at h
      have he : c.1 = nm := by simpa using h
      have hm := List.mem_of_getElem? hg
      have := atI_mem hs.once c hm
      rw [he] at this
      rw [this]; simp
  · intro h
    cases ha : atI S nm with
    | none => exact absurd ha h
    | some v =>
      have := pos_mem hs ((atI_iff hs.once nm v).1 ha)
      rw [this]; rfl
theorem pos_take {nm : ByteArray} : ∀ (S : Seen), ∀ c ∈ S.take (posA nm S), lessZ (rz c.1) (rz nm) = true
  | [], c, h => by simp at h
  | x :: S, c, h => by
    rw [posA] at h
    split at h
    · rename_i hl
      rw [List.take_succ_cons] at h
      rcases List.mem_cons.1 h with rfl | h
      · exact hl
      · exact pos_take S c h
    · simp at h
theorem pos_drop {nm : ByteArray} : ∀ {S : Seen}, Strict S → rightB nm.data.toList = true → (∀ p ∈ S, rightB p.1.data.toList = true) → (∀ p ∈ S, p.1 ≠ nm) → ∀ c ∈ S.drop (posA nm S), lessZ (rz nm) (rz c.1) = true
  | [], _, _, _, _, c, h => by simp at h
  | x :: S, hs, hr, hn, hne, c, h => by
    rw [posA] at h
    split at h
    · rw [List.drop_succ_cons] at h
      exact pos_drop (List.pairwise_cons.1 hs).2 hr (fun p hp => hn p (by simp [hp])) (fun p hp => hne p (by simp [hp])) c h
    · rename_i hl
      have hx : lessZ (rz nm) (rz x.1) = true := by
        have hz : rz x.1 ≠ rz nm := fun e => hne x (by simp) (ByteArray.ext (Array.ext' (right_runes (hn x (by simp)) hr e)))
        rcases less_total _ _ hz with h1 | h1
        · exact absurd h1 hl
        · exact h1
      rw [List.drop_zero] at h
      rcases List.mem_cons.1 h with rfl | h
      · exact hx
      · exact less_trans _ _ _ hx ((List.pairwise_cons.1 hs).1 c h)
theorem ins_strict {nm : ByteArray} {S : Seen} (hs : Strict S) (hr : rightB nm.data.toList = true) (hn : ∀ p ∈ S, rightB p.1.data.toList = true) : Strict (insA nm S) := by
  unfold insA
  split
  · exact hs
  · rename_i hh
    have hne : ∀ p ∈ S, p.1 ≠ nm := fun p hp e => hh (by
      have h1 := atI_mem hs.once p hp
      rw [e] at h1
      rw [has_at hs, h1]
      simp)
    unfold Strict
    rw [List.append_assoc, List.pairwise_append]
    refine ⟨hs.sublist (List.take_sublist _ _), ?_, fun a ha b hb => ?_⟩
    · refine .cons (fun c hc => pos_drop hs hr hn hne c hc) (hs.sublist (List.drop_sublist _ _))
    · have h1 := pos_take S a ha
      rcases List.mem_cons.1 hb with rfl | hb
      · exact h1
      · exact less_trans _ _ _ h1 (pos_drop hs hr hn hne b hb)
theorem ins_at {nm : ByteArray} {S : Seen} (hs : Strict S) (hr : rightB nm.data.toList = true) (hn : ∀ p ∈ S, rightB p.1.data.toList = true) (k : ByteArray) (hk : k ≠ nm) : atI (insA nm S) k = atI S k := by
  have h1 := (ins_strict hs hr hn).once
  have hmem : ∀ v, (k, v) ∈ insA nm S ↔ (k, v) ∈ S := fun v => by
    unfold insA
    split
    · exact Iff.rfl
    · have : (k, v) ∈ S ↔ (k, v) ∈ S.take (posA nm S) ++ S.drop (posA nm S) := by rw [List.take_append_drop]
      rw [this]
      simp only [List.mem_append, List.mem_singleton, Prod.mk.injEq, hk, false_and, or_false]
  cases ha : atI S k with
  | some v => exact (atI_iff h1 k v).2 ((hmem v).2 ((atI_iff hs.once k v).1 ha))
  | none =>
    cases hb : atI (insA nm S) k with
    | none => rfl
    | some v =>
      have := (atI_iff hs.once k v).2 ((hmem v).1 ((atI_iff h1 k v).1 hb))
      rw [ha] at this; cases this
theorem set_keys {S : Seen} {i : Nat} {nm : ByteArray} {p v : Int} (h : S[i]? = some (nm, p)) : (S.set i (nm, v)).map (·.1) = S.map (·.1) := by
  rw [List.map_set]
  apply List.ext_getElem?
  intro m
  rw [List.getElem?_set]
  split
  · rename_i e
    subst e
    obtain ⟨h1, h2⟩ := List.getElem?_eq_some_iff.1 h
    simp [h1, h2]
  · rfl
theorem atI_set {v p : Int} {nm : ByteArray} (k : ByteArray) : ∀ {S : Seen} {i : Nat}, (S.map (·.1)).Nodup → S[i]? = some (nm, p) → atI (S.set i (nm, v)) k = if k = nm then some v else atI S k
  | [], i, _, h => by simp at h
  | c :: S, 0, hn, h => by
    simp at h; subst h
    simp only [List.set_cons_zero, atI]
    split <;> simp
  | c :: S, i + 1, hn, h => by
    simp only [List.map_cons, List.nodup_cons] at hn
    have ih := atI_set (v := v) k (S := S) (i := i) hn.2 (by simpa using h)
    have hc : c.1 ≠ nm := fun e => hn.1 (by
      have := List.mem_of_getElem? (show S[i]? = some (nm, p) by simpa using h)
      exact e ▸ List.mem_map.2 ⟨_, this, rfl⟩)
    simp only [List.set_cons_succ]
    obtain ⟨c1, c2⟩ := c
    simp only [atI, ih]
    by_cases h1 : k = c1
    · subst h1
      have : k ≠ nm := hc
      simp [this]
    · simp [h1]
theorem strict_keys {S S' : Seen} (h : S'.map (·.1) = S.map (·.1)) (hs : Strict S) : Strict S' := by
  have h1 : (S.map (·.1)).Pairwise (fun x y => lessZ (rz x) (rz y) = true) := List.pairwise_map.2 hs
  rw [← h] at h1
  exact List.pairwise_map.1 h1

structure RefL (s : St) (S : Seen) : Prop where
  strict : Strict S
  seen : ∀ k, atI s.seen k = atI S k
theorem RefL.perm {s : St} {S : Seen} (h : RefL s S) (hn : (s.seen.map (·.1)).Nodup) : s.seen.Perm S := seen_perm hn h.strict.once h.seen
theorem ref_next {s : St} {S : Seen} {k : Nat} (h : RefL s S) (hi : InvS s k) {name : ByteArray} (hs : name.size ≤ 100) (n : Int) :
    (nextA s.rows s.seen name n).out = (refN s.rows S name n).out ∧ (nextA s.rows s.seen name n).err = (refN s.rows S name n).err ∧ RefL ⟨s.rows, s.last, (nextA s.rows s.seen name n).seen⟩ (refN s.rows S name n).seen := by
  have hp := h.perm hi.once
  have hl := hp.length_eq
  have hn : ∀ p ∈ S, rightB p.1.data.toList = true := fun p hpm => (hi.names p (hp.mem_iff.2 hpm)).1
  unfold nextA refN
  dsimp only
  split
  · exact ⟨rfl, rfl, h⟩
  rename_i hb
  simp only [not_or, Bool.not_eq_false] at hb
  have hko := key_ok hb.2 hs
  generalize hnm : txt (foldB name.data.toList) = nm at hko ⊢
  have hh : hasA nm S ↔ atI s.seen nm ≠ none := by rw [has_at h.strict, h.seen]
  have hcond : (atI s.seen nm = none ∧ 8 ≤ s.seen.length) ↔ (¬ hasA nm S ∧ 8 ≤ S.length) := by
    rw [hh, hl]; simp
  by_cases hc : atI s.seen nm = none ∧ 8 ≤ s.seen.length
  · rw [if_pos hc, if_pos (hcond.1 hc)]
    exact ⟨rfl, rfl, h⟩
  · rw [if_neg hc, if_neg (fun hx => hc (hcond.2 hx))]
    obtain ⟨p0, hp0⟩ := insA_at nm S
    have hpl : plA nm S = p0 := by unfold plA; rw [hp0]; rfl
    have hst := ins_strict h.strict hko.1 hn
    have hg : (atI s.seen nm).getD 0 = p0 := by
      rw [h.seen]
      by_cases hx : hasA nm S
      · have hins : insA nm S = S := by unfold insA; rw [if_pos hx]
        rw [hins] at hp0
        rw [atI_mem h.strict.once _ (List.mem_of_getElem? hp0)]
        rfl
      · have h0 : atI S nm = none := Classical.byContradiction fun hne => hx ((has_at h.strict).2 hne)
        rw [h0]
        have hins : insA nm S = S.take (posA nm S) ++ [(nm, 0)] ++ S.drop (posA nm S) := by unfold insA; rw [if_neg hx]
        have := posA_le nm S
        rw [hins, List.append_assoc, List.getElem?_append_right (by simp; omega)] at hp0
        simp [Nat.min_eq_left this] at hp0
        simpa using hp0
    rw [hpl, hg]
    have htk := tk_take (n := n) (place := p0) s.rows p0 [] (by omega) (.inl rfl) hi.rise
    rw [htk]
    refine ⟨rfl, rfl, strict_keys (set_keys hp0) hst, fun k => ?_⟩
    show atI (putI s.seen nm _) k = _
    rw [atI_put, atI_set k hst.once hp0]
    by_cases hk : k = nm
    · simp [hk]
    · rw [if_neg hk, if_neg hk, h.seen, ins_at h.strict hko.1 hn k hk]

section
variable {w : World} {R : Value → World → Prop}
theorem dead_does {v : Value} {xs : List Act} (hv : Arr encA 4 w v xs) (hR : ∀ w', Fr [] w w' → R (.bool true) w') : CALL PR F_tumbrellaw10_DeadDoes [v] w R := by
  refine C_tumbrellaw10_DeadDoes ?_
  unfold M_tumbrellaw10_DeadDoes
  refine lw_awake fun w1 f1 => BND_step (unv_not _) <| (COND_false _ _).2 <| lw_large (hv.fr f1 (by simp)) (fun w2 f2 => ?_) (fun w2 f2 hl hsm => ?_)
  · exact (COND_true _ _).2 (hR _ (f1.trans' f2))
  have f2' := f1.trans' f2
  refine (COND_false _ _).2 <| dd_New fun w3 d F0 o3 hF0 f3 => BND_step (v := .agg #[.slice none 0 0, .int .u64 0, .slice none 0 0]) rfl <| NEW_intro fun w4 b4 f4 z4 => ?_
  have f4' := f2'.trans' <| f3.trans' f4
  have hz2 := f2'.grow
  have hz3 := f3.grow
  refine BND_step hv.len ?_
  generalize ho : hsz w3 = o at b4
  have r4 : RefOwn w4 o [] 0 [] [o] := ⟨_, _, [], [], _, b4, Slc.nil _ _ _, Slc.nil _ _ _, rfl, by simp, by simp, by simp⟩
  refine ⟨fun t w' => ∃ (i : Nat) (s : St) (S : Seen) (F G : List Nat), t = .int .i64 i ∧ DeadOwn w' d s.rows s.last s.seen F ∧ RefOwn w' o s.rows s.last S G ∧ InvS s i ∧ RefL s S ∧ (∀ b ∈ F, b ∉ G) ∧ (∀ b ∈ F, hsz w ≤ b) ∧ (∀ b ∈ G, hsz w ≤ b) ∧ Fr [] w w' ∧ i ≤ xs.length,
    fun t _ => match t with | .int _ n => xs.length - n.toNat | _ => 0,
    ⟨0, ⟨[], 0, []⟩, [], F0, [o], rfl, o3.fr0 f4, r4, inv_start, ⟨.nil, fun _ => rfl⟩, fun b hb => by have := o3.lt b hb; simp; omega, fun b hb => by have := hF0 b hb; omega, by simp; omega, f4', by omega⟩, ?_⟩
  rintro _ _ w5 ⟨i, s, S, F, G, rfl, o5, r5, inv, rel, hFG, hF, hG, f5, hi⟩
  refine BND_step (binv_lss _ _ _ _) ?_
  by_cases hlt : i < xs.length
  · refine COND_dec_true (by omega) ?_
    have hx := List.getElem?_eq_getElem hlt
    have hxs := hsm _ (List.mem_of_getElem? hx)
    generalize xs[i] = x at hx hxs
    obtain ⟨p, ep, lp, _⟩ := (hv.fr f5 (by simp)).at hx rfl .i64
    refine BND_step ep <| BND_step lp <| box_step (zs := [.int .i64 0, .int .u64 0, .string ByteArray.empty, .int .i64 0]) (vs := encA x) rfl rfl (encA_one x) (by simp [encA]) fun w7 b7 f7 z7 => ?_
    have hlen := inv.len
    have hlast := inv.l1
    refine BND_step (v := .agg (encA x).toArray) (loadn_blk b7 (by simp [encA])) <| lw_do (o5.fr0 f7) (by omega) inv.l0 (by omega) x hxs fun w8 va F' Ga o8 sa sub hGa f8 => ?_
    refine BND_step (v := va) rfl <| BND_step (v := .int .i64 (doS s x).2.err) rfl <| BND_step (v := .bool (doS s x).2.is) rfl ?_
    have hxb : hsz w5 ∉ F := fun hb => by have := o5.lt _ hb; omega
    have b8 := f8.some hxb b7
    have hGF : ∀ b ∈ G, b ∉ F := fun b hb hb' => hFG b hb' hb
    have r8 := (r5.fr0 f7).fr f8 hGF
    have z5 := f5.grow
    have z8 := f8.grow
    have f58 : Fr [] w w8 := (f5.trans' f7).trans f8 fun b hb => .inr (hF b hb)
    have hF'G : ∀ b ∈ F', b ∉ G := fun b hb hb' => by
      rcases sub b hb with h | h
      · exact hFG b h hb'
      · have := r5.lt b hb'; omega
    have hF' : ∀ b ∈ F', hsz w ≤ b := fun b hb => by
      rcases sub b hb with h | h
      · exact hF b h
      · omega
    have hGaG : ∀ b ∈ Ga, b ∉ G := fun b hb hb' => by have := hGa b hb; have := r5.lt b hb'; omega
    have inv' := inv_do inv hxs
    have hout : (doS s x).2.out.length < 1000000000 := by
      unfold doS
      split
      · simp
      split
      · simp
      split
      · unfold nextA
        dsimp only
        split
        · simp
        split
        · simp
        · have := takeI_len x.2.2.2 s.rows ((atI s.seen (txt (foldB x.2.2.1.data.toList))).getD 0) []
          simp at this
          dsimp only
          omega
      · simp
    refine BND_step (faddr_ptr _ _ _) <| BND_step (v := .int .i64 x.1) (load1_blk b8) <| BND_step (binv_eql _ _ _ _) ?_
    refine JOIN_elim fun K hK => ?_
    -- what is compared behind both
    have fin : ∀ (w9 : World) (vb : Value) (S' : Seen) (G' Gb : List Nat), RefOwn w9 o (doS s x).1.rows (doS s x).1.last S' G' → RefL (doS s x).1 S' → Slc encU 1 w9 vb (doS s x).2.out Gb → (∀ b ∈ G', b ∈ G ∨ hsz w8 ≤ b) → Fr G w8 w9 →
        K vb (.int .i64 (doS s x).2.err) (.bool (doS s x).2.is) w9 := by
      intro w9 vb S' G' Gb r9 rel9 sb sub9 f9
      subst hK
      have o9 := o8.fr f9 hF'G
      have sa9 := sa.fr f9 hGaG
      have hG' : ∀ b ∈ G', hsz w ≤ b := fun b hb => by
        rcases sub9 b hb with h | h
        · exact hG b h
        · omega
      have f59 : Fr [] w w9 := f58.trans f9 fun b hb => .inr (hG b hb)
      refine r2_Same sa9.arr sb.arr hout fun w10 f10 => ?_
      simp only [decide_true, unv_not, Bool.not_true, isB_ff, grd_true, binv_neq, binv_neb, bne_self_eq_false, BND_some, pickv_false, GEF_true]
      refine lw_own (o9.fr0 f10) (by have := inv'.len; omega) (by have := inv'.few; omega) (fun p hp => by have := (inv'.names p hp).2.2.2; omega) fun w11 o1 cs G1 r1 pm rise _ f11 => ?_
      have hsame : cs = S' := by
        refine rise_perm rise (rel9.strict.imp fun h => LE.of_less h) (fun p hp => (inv'.names p (pm.mem_iff.1 hp)).1) ((pm.map _).nodup_iff.2 inv'.once) (pm.trans (rel9.perm inv'.once))
      have hcl : cs.length ≤ 8 := by have := pm.length_eq; have := inv'.few; omega
      refine lw_same r1 (r9.fr0 (f10.trans' f11)) (by have := inv'.len; omega) (by omega) fun w12 f12 => ?_
      rw [show decide ((doS s x).1.last = (doS s x).1.last ∧ (doS s x).1.rows = (doS s x).1.rows ∧ cs = S') = true by simp [hsame]]
      have f912 := f10.trans' <| f11.trans' f12
      refine BND_step (v := .bool false) rfl <| (COND_false _ _).2 <| BND_step (add1 (by omega)) ⟨⟨i + 1, (doS s x).1, S', F', G', rfl, o9.fr0 f912, r9.fr0 f912, inv', rel9, fun b hb hb' => ?_, hF', hG', f59.trans' f912, hlt⟩, by simp; omega⟩
      rcases sub9 b hb' with h | h
      · exact hF'G b hb h
      · have := o8.lt b hb; omega
    clear hK
    by_cases e0 : x.1 = 0
    · have hd : doS s x = (⟨addR s.rows s.last x.2.1, addL s.rows s.last x.2.1, s.seen⟩, ⟨[], 0, !(hasI s.rows x.2.1)⟩) := by unfold doS; rw [if_pos e0]
      rw [hd] at fin
      refine COND_dec_true e0 <| BND_step (faddr_ptr _ _ _) <| BND_step (v := .int .u64 x.2.1) (load1_blk b8) <| rf_Add r8 (by omega) inv.l0 (by omega) x.2.1 fun w9 G' r9 sub9 f9 => ?_
      exact fin w9 _ S G' [] r9 ⟨rel.strict, rel.seen⟩ (Slc.nil _ _ _) sub9 f9
    refine COND_dec_false e0 <| BND_step (binv_eql _ _ _ _) <| JOIN_elim fun K2 hK2 => ?_
    subst hK2
    by_cases e1 : x.1 = 1
    · have hd : doS s x = (⟨dropR s.rows x.2.1, s.last, s.seen⟩, ⟨[], 0, hasI s.rows x.2.1⟩) := by unfold doS; rw [if_neg e0, if_pos e1]
      rw [hd] at fin
      refine COND_dec_true e1 <| BND_step (faddr_ptr _ _ _) <| BND_step (v := .int .u64 x.2.1) (load1_blk b8) <| rf_Drop r8 (by omega) x.2.1 fun w9 G' r9 sub9 f9 => ?_
      rw [← drop_same inv.ids] at r9
      exact fin w9 _ S G' [] r9 ⟨rel.strict, rel.seen⟩ (Slc.nil _ _ _) sub9 f9
    refine COND_dec_false e1 <| BND_step (binv_eql _ _ _ _) <| JOIN_elim fun K2 hK2 => ?_
    subst hK2
    by_cases e2 : x.1 = 2
    · have hd : doS s x = (⟨s.rows, s.last, (nextA s.rows s.seen x.2.2.1 x.2.2.2).seen⟩, ⟨(nextA s.rows s.seen x.2.2.1 x.2.2.2).out, (nextA s.rows s.seen x.2.2.1 x.2.2.2).err, false⟩) := by unfold doS; rw [if_neg e0, if_neg e1, if_pos e2]
      rw [hd] at fin
      obtain ⟨n1, n2, n3⟩ := ref_next rel inv hxs x.2.2.2
      have hSp := rel.perm inv.once
      refine COND_dec_true e2 <| BND_step (faddr_ptr _ _ _) <| BND_step (v := .string x.2.2.1) (load1_blk b8) <| BND_step (faddr_ptr _ _ _) <| BND_step (v := .int .i64 x.2.2.2) (load1_blk b8) <|
        rf_Next r8 (by omega) (by have := hSp.length_eq; have := inv.few; omega) (fun p hp => by have := (inv.names p (hSp.mem_iff.2 hp)).2.2.2; omega) (by omega) x.2.2.2 fun w9 vb G' Gb r9 sb sub9 _ f9 => ?_
      refine BND_step (v := vb) rfl <| BND_step (v := .int .i64 (refN s.rows S x.2.2.1 x.2.2.2).err) rfl ?_
      rw [← n2]
      exact fin w9 vb _ G' Gb r9 n3 (by rw [n1]; exact sb) sub9 f9
    · have hd : doS s x = (s, ⟨[], 0, hasI s.rows x.2.1⟩) := by unfold doS; rw [if_neg e0, if_neg e1, if_neg e2]
      rw [hd] at fin
      refine COND_dec_false e2 <| BND_step (faddr_ptr _ _ _) <| BND_step (v := .int .u64 x.2.1) (load1_blk b8) <| rf_Has r8 (by omega) x.2.1 fun w9 f9 => ?_
      exact fin w9 _ S G [] (r8.fr0 f9) rel (Slc.nil _ _ _) (fun b hb => .inl hb) f9.nil
  · exact COND_dec_false (by omega) (hR w5 f5)
end
end Go.Proofs.Ythcbcolnahbihaa
