/- tumbrellaw10.DeadMade: for any rows and cursors it answers true. No condition but that a slice is no longer than memory. -/
import Derived.Test.YthcbcolnahbihaaDeadRef
import Derived.Test.YthcbcolnahbihaaMa
namespace Go.Proofs.Ythcbcolnahbihaa
open Go.Den

theorem pair_eq {a : Seen} (hn : (a.map (·.1)).Nodup) {p q : ByteArray × Int} (hp : p ∈ a) (hq : q ∈ a) (h : p.1 = q.1) : p = q := by
  have h1 := atI_mem hn p hp
  have h2 := atI_mem hn q hq
  rw [h, h2] at h1
  have : q.2 = p.2 := by simpa using h1
  exact Prod.ext h this.symm
theorem le_anti {x y : ByteArray} (hx : rightB x.data.toList = true) (hy : rightB y.data.toList = true) (h : LE x y) (h' : LE y x) : x = y := by
  have e : rz x = rz y := Classical.byContradiction fun hne => by
    rcases less_total _ _ hne with h1 | h1
    · rw [h'] at h1; cases h1
    · rw [h] at h1; cases h1
  have := right_runes hx hy e
  exact ByteArray.ext (Array.ext' this)
theorem rise_perm : ∀ {a b : Seen}, Rise a → Rise b → (∀ p ∈ a, rightB p.1.data.toList = true) → (a.map (·.1)).Nodup → a.Perm b → a = b
  | [], b, _, _, _, _, p => by have := p.symm.eq_nil; exact this.symm
  | x :: a, b, ha, hb, hr, hn, p => by
    cases b with
    | nil => have := p.eq_nil; cases this
    | cons y b =>
      have hxy : x = y := by
        have hx : x ∈ y :: b := p.mem_iff.1 (by simp)
        have hy : y ∈ x :: a := p.mem_iff.2 (by simp)
        rcases List.mem_cons.1 hx with h | h
        · exact h
        rcases List.mem_cons.1 hy with h' | h'
        · exact h'.symm
        have l1 : LE x.1 y.1 := (List.pairwise_cons.1 ha).1 y h'
        have l2 : LE y.1 x.1 := (List.pairwise_cons.1 hb).1 x h
        exact pair_eq hn (by simp) (by simp [h']) (le_anti (hr x (by simp)) (hr y (by simp [h'])) l1 l2)
      subst hxy
      have := rise_perm (List.pairwise_cons.1 ha).2 (List.pairwise_cons.1 hb).2 (fun q hq => hr q (by simp [hq])) (by simp only [List.map_cons, List.nodup_cons] at hn; exact hn.2) (List.perm_cons x |>.1 p)
      rw [this]

/-- what 'fromI' lets through is right, and rises. -/
theorem fromC_ok {last : Int} : ∀ (cs : Seen) (i : Nat) (a : ByteArray) (S T : Seen), fromC last cs i a S = some T → (∀ c ∈ cs, rightB c.1.data.toList = true ∧ txt (foldB c.1.data.toList) = c.1 ∧ c.2 ≤ last ∧ lessZ (rz a) (rz c.1) = true) ∧ cs.Pairwise (fun x y => lessZ (rz x.1) (rz y.1) = true)
  | [], _, _, _, _, _ => ⟨by simp, .nil⟩
  | c :: cs, i, a, S, T, h => by
    simp only [fromC] at h
    split at h
    · cases h
    · rename_i hb
      unfold badC at hb
      simp only [not_or] at hb
      have hl : lessZ (rz a) (rz c.1) = true := by simpa using hb.2.2.2.1
      obtain ⟨h1, h2⟩ := fromC_ok cs (i + 1) c.1 _ _ h
      refine ⟨fun x hx => ?_, .cons (fun y hy => (h1 y hy).2.2.2) h2⟩
      rcases List.mem_cons.1 hx with rfl | hx
      · exact ⟨by simpa using hb.2.1, by have := hb.2.2.1; simpa using this, by have := hb.2.2.2.2; omega, hl⟩
      · obtain ⟨x1, x2, x3, x4⟩ := h1 x hx
        exact ⟨x1, x2, x3, less_trans _ _ _ hl x4⟩
theorem fromI_ok {last : Int} {rows : List Row} {cs seen : Seen} (h : fromI last rows cs = some seen) : (∀ c ∈ cs, rightB c.1.data.toList = true) ∧ Rise cs ∧ cs.length ≤ 8 := by
  unfold fromI at h
  split at h
  · obtain ⟨h1, h2⟩ := fromC_ok _ _ _ _ _ h
    refine ⟨fun c hc => (h1 c hc).1, h2.imp fun h => LE.of_less h, ?_⟩
    rcases Nat.lt_or_ge 8 cs.length with h8 | h8
    · rw [fromC_long cs 0 _ _ (by omega) (by omega)] at h
      cases h
    · exact h8
  · cases h

section
variable {w : World} {R : Value → World → Prop}
theorem dead_made {rows : List Row} {last : Int} {cs : Seen} {ra ca : Value} (hra : Arr encRow 2 w ra rows) (hca : Arr encC 2 w ca cs) (hR : ∀ w', Fr [] w w' → R (.bool true) w') :
    CALL PR F_tumbrellaw10_DeadMade [.int .u64 last, ra, ca] w R := by
  refine C_tumbrellaw10_DeadMade ?_
  unfold M_tumbrellaw10_DeadMade
  refine lw_awake fun w1 f1 => BND_step (unv_not _) <| (COND_false _ _).2 <| BND_step hra.len <| BND_step (binv_gtr _ _ _ _) ?_
  by_cases hn : (200 : Int) < rows.length
  · simp only [hn, decide_true, isB_tf, grd_false, BND_some, pickv_true, COND_true]
    exact hR w1 f1
  simp only [hn, decide_false, isB_ff, grd_true, BND_some]
  refine BND_step hca.len <| BND_step (binv_gtr _ _ _ _) <| BND_step (pickv_false _ _) ?_
  by_cases hcn : (200 : Int) < cs.length
  · exact COND_dec_true hcn (hR w1 f1)
  refine COND_dec_false hcn <| newnil_step encRow fun tp w2 sp f2 z2 => newnil_step encC fun tq w3 sq f3 z3 => BND_step hra.len ?_
  have f13 : Fr [] w1 w3 := f2.trans' f3
  refine ⟨fun tA t w' => ∃ (i : Nat) (H : List Nat), t = .int .i64 i ∧ Slc encRow 2 w' tA (rows.take i) H ∧ (∀ b ∈ H, b = hsz w1 ∨ hsz w3 ≤ b) ∧ Fr [hsz w1] w3 w' ∧ i ≤ rows.length, fun _ t _ => match t with | .int _ n => rows.length - n.toNat | _ => 0,
    ⟨0, [hsz w1], rfl, by simpa using sp.fr f3 (by simp), by simp, Fr.refl _ _, by omega⟩, ?_⟩
  rintro _ _ _ w4 ⟨i, H, rfl, s4, hH, f4, hi⟩
  have f04 : Fr [] w w4 := (f1.trans' f13).trans f4 fun b hb => by simp at hb; subst hb; have := f1.grow; exact .inr (by omega)
  refine BND_step (binv_lss _ _ _ _) ?_
  by_cases hlt : i < rows.length
  · refine COND_dec_true (by omega) ?_
    have hx := List.getElem?_eq_getElem hlt
    generalize rows[i] = r at hx
    obtain ⟨p, ep, lp, _⟩ := (hra.fr f04 (by simp)).at hx rfl .i64
    refine BND_step ep <| BND_step lp <| box_step (zs := [.int .u64 0, .int .u64 0]) (vs := encRow r) rfl rfl (encRow_one r) (by simp [encRow]) fun w5 b5 f5 z5 => ?_
    refine BND_step (v := .agg (encRow r).toArray) (loadn_blk b5 (by simp [encRow])) <| newone_step encRow_len rfl fun t w7 s7 f7 z7 => ?_
    refine APPEND_slc (s4.fr (f5.trans' f7) (by simp)) (s7.loads encRow_len) encRow_len encRow_one rfl (by simp; omega) (by simp; omega) fun sv' w8 H' s8 f8 sub => ?_
    have g4 := f4.grow
    refine BND_step (add1 (by omega)) ⟨⟨i + 1, H', rfl, by rw [List.take_add_one, hx]; exact s8, fun b hb => ?_, ?_, hlt⟩, by simp; omega⟩
    · rcases sub b hb with h | h
      · exact hH b h
      · exact .inr (by omega)
    · refine (f4.trans' (f5.trans' f7).nil).trans f8 fun b hb => ?_
      rcases hH b hb with h | h
      · exact .inl (by simp [h])
      · exact .inr h
  refine COND_dec_false (by omega) <| BND_step hca.len ?_
  rw [List.take_of_length_le (by omega)] at s4
  have hHq : ∀ b ∈ H, b ≠ hsz w2 := fun b hb e => by
    rcases hH b hb with h | h <;> omega
  have g34 := f4.grow
  refine ⟨fun tC t w' => ∃ (i : Nat) (G : List Nat), t = .int .i64 i ∧ Slc encC 2 w' tC (cs.take i) G ∧ (∀ b ∈ G, b = hsz w2 ∨ hsz w4 ≤ b) ∧ Fr [hsz w2] w4 w' ∧ i ≤ cs.length ∧ (∀ c ∈ cs.take i, c.1.size ≤ 100), fun _ t _ => match t with | .int _ n => cs.length - n.toNat | _ => 0,
    ⟨0, [hsz w2], rfl, by simpa using sq.fr f4 (fun b hb => by simp at hb ⊢; omega), by simp, Fr.refl _ _, by omega, by simp⟩, ?_⟩
  rintro _ _ _ w9 ⟨k, G, rfl, s9, hG, f9, hk, hsm⟩
  have f09 : Fr [] w w9 := f04.trans f9 fun b hb => by simp at hb; subst hb; have := f1.grow; exact .inr (by omega)
  refine BND_step (binv_lss _ _ _ _) ?_
  by_cases hklt : k < cs.length
  · refine COND_dec_true (by omega) ?_
    have hx := List.getElem?_eq_getElem hklt
    generalize cs[k] = c at hx
    obtain ⟨p, ep, lp, _⟩ := (hca.fr f09 (by simp)).at hx rfl .i64
    refine BND_step ep <| BND_step lp <| box_step (zs := [.string ByteArray.empty, .int .u64 0]) (vs := encC c) rfl rfl (encC_one c) (by simp [encC]) fun w5 b5 f5 z5 => ?_
    refine BND_step (faddr_ptr _ _ _) <| BND_step (v := .string c.1) (load1_blk b5) <| BND_step (lens_string _) <| BND_step (binv_gtr _ _ _ _) ?_
    by_cases hbig : (100 : Int) < c.1.size
    · exact COND_dec_true hbig (hR _ (f09.trans' f5))
    refine COND_dec_false hbig ?_
    refine BND_step (v := .agg (encC c).toArray) (loadn_blk b5 (by simp [encC])) <| newone_step encC_len rfl fun t w7 s7 f7 z7 => ?_
    refine APPEND_slc (s9.fr (f5.trans' f7) (by simp)) (s7.loads encC_len) encC_len encC_one rfl (by simp; omega) (by simp; omega) fun sv' w8 G' s8 f8 sub => ?_
    have g9 := f9.grow
    refine BND_step (add1 (by omega)) ⟨⟨k + 1, G', rfl, by rw [List.take_add_one, hx]; exact s8, fun b hb => ?_, ?_, hklt, ?_⟩, by simp; omega⟩
    · rcases sub b hb with h | h
      · exact hG b h
      · exact .inr (by omega)
    · refine (f9.trans' (f5.trans' f7).nil).trans f8 fun b hb => ?_
      rcases hG b hb with h | h
      · exact .inl (by simp [h])
      · exact .inr h
    · intro c' hc'
      rw [List.take_add_one, hx] at hc'
      rcases List.mem_append.1 hc' with h | h
      · exact hsm c' h
      · simp at h; subst h; omega
  refine COND_dec_false (by omega) ?_
  rw [List.take_of_length_le (by omega)] at s9 hsm
  have s4' : Slc encRow 2 w9 _ rows H := s4.fr f9 (fun b hb => by simp; exact hHq b hb)
  have hsm' : ∀ c ∈ cs, c.1.size < 100000 := fun c hc => by have := hsm c hc; omega
  refine dd_From (hra.fr f09 (by simp)) (hca.fr f09 (by simp)) (by omega) (by omega) hsm' (fun w14 f14 hno => ?_) (fun w14 d F seen f14 hyes o14 hF => ?_)
  · refine BND_step (v := .pointer none) rfl <| BND_step (v := .int .i64 1) rfl <| rf_From (s4'.fr f14 (by simp)).arr (s9.fr f14 (by simp)).arr (by omega) (by omega) hsm' (fun w15 f15 _ => ?_) (fun w15 _ _ _ hyes _ _ => by rw [hno] at hyes; cases hyes)
    refine BND_step (v := .pointer none) rfl <| BND_step (v := .int .i64 1) rfl ?_
    simp only [binv_neq, binv_nil_nil, binv_neb, decide_true, Bool.not_true, isB_ff, isB_tf, grd_true, grd_false, BND_some, pickv_false, pickv_true, bne_self_eq_false, COND_false, GEF_false]
    exact hR _ (f09.trans' <| f14.trans' f15)
  · obtain rfl := fromI_same hyes
    obtain ⟨ok1, ok2, ok3⟩ := fromI_ok hyes
    refine BND_step (v := .pointer (some ⟨d, 0, none⟩)) rfl <| BND_step (v := .int .i64 0) rfl <| rf_From (s4'.fr f14 (by simp)).arr (s9.fr f14 (by simp)).arr (by omega) (by omega) hsm' (fun w15 _ hno => by rw [hyes] at hno; cases hno) (fun w15 r Gr f15 _ r15 _ => ?_)
    refine BND_step (v := .pointer (some ⟨r, 0, none⟩)) rfl <| BND_step (v := .int .i64 0) rfl ?_
    simp only [binv_neq, binv_ptr_nil, binv_neb, decide_true, Bool.not_true, isB_ff, isB_tf, grd_true, grd_false, BND_some, pickv_false, pickv_true, bne_self_eq_false, COND_false, GEF_true]
    have o15 := o14.fr0 f15
    refine lw_own o15 (by omega) (by omega) (fun p hp => by have := hsm' p hp; omega) fun w16 o cs' G' r16 pm rise _ f16 => ?_
    have hsame : cs' = seen := (rise_perm ok2 rise ok1 o14.once pm.symm).symm
    subst hsame
    refine lw_same r16 (r15.fr0 f16) (by omega) (by omega) fun w17 f17 => ?_
    simp only [and_self, decide_true, pickv_false, BND_some]
    exact hR _ (f09.trans' <| f14.trans' <| f15.trans' <| f16.trans' f17)
end
end Go.Proofs.Ythcbcolnahbihaa
