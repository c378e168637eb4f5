/- tumbrellaw10.DeadAgain: for any two lists of acts it answers true. No condition. -/
import Derived.Test.YthcbcolnahbihaaDeadState
import Derived.Test.YthcbcolnahbihaaMa
namespace Go.Proofs.Ythcbcolnahbihaa
open Go.Den

section
variable {w : World} {R : Value → World → Prop}
theorem dead_again {v v' : Value} {xs ys : List Act} (hv : Arr encA 4 w v xs) (hv' : Arr encA 4 w v' ys) (hR : ∀ w', Fr [] w w' → R (.bool true) w') : CALL PR F_tumbrellaw10_DeadAgain [v, v'] w R := by
  refine C_tumbrellaw10_DeadAgain ?_
  unfold M_tumbrellaw10_DeadAgain
  refine lw_awake fun w1 f1 => BND_step (unv_not _) <| (COND_false _ _).2 <| lw_large (hv.fr f1 (by simp)) (fun w2 f2 => ?_) (fun w2 f2 hl hsm => ?_)
  · simp only [isB_tf, grd_false, GEF_false, BND_some, pickv_true, COND_true]
    exact hR _ (f1.trans' f2)
  have f2' := f1.trans' f2
  simp only [isB_ff, grd_true, GEF_true]
  refine BND_step rfl <| lw_large (hv'.fr f2' (by simp)) (fun w3 f3 => ?_) (fun w3 f3 hl' hsm' => ?_)
  · exact BND_step (pickv_false _ _) <| (COND_true _ _).2 <| hR _ (f2'.trans' f3)
  have f3' := f2'.trans' f3
  refine BND_step (pickv_false _ _) <| (COND_false _ _).2 <| dd_New fun w4 d F0 o4 hF0 f4 => BND_step hv.len ?_
  have f4' := f3'.trans' f4
  have hz3 := f3'.grow
  refine ⟨fun t w' => ∃ (i : Nat) (s : St) (F : List Nat), t = .int .i64 i ∧ DeadOwn w' d s.rows s.last s.seen F ∧ InvS s i ∧ (∀ b ∈ F, hsz w ≤ b) ∧ Fr [] w w' ∧ i ≤ xs.length, fun t _ => match t with | .int _ n => xs.length - n.toNat | _ => 0,
    ⟨0, ⟨[], 0, []⟩, F0, rfl, o4, inv_start, fun b hb => by have := hF0 b hb; omega, f4', by omega⟩, ?_⟩
  rintro _ _ w5 ⟨i, s, F, rfl, o5, inv, hF, f5, hi⟩
  refine BND_step (binv_lss _ _ _ _) ?_
  by_cases hlt : i < xs.length
  · refine COND_dec_true (by omega) ?_
    have hx := List.getElem?_eq_getElem hlt
    have hxs := hsm _ (List.mem_of_getElem? hx)
    generalize xs[i] = x at hx hxs
    obtain ⟨p, ep, lp, _⟩ := (hv.fr f5 (by simp)).at hx rfl .i64
    refine BND_step ep <| BND_step lp <| box_step (zs := [.int .i64 0, .int .u64 0, .string ByteArray.empty, .int .i64 0]) (vs := encA x) rfl rfl (encA_one x) (by simp [encA]) fun w7 b7 f7 z7 => ?_
    refine BND_step (v := .agg (encA x).toArray) (loadn_blk b7 (by simp [encA])) <| lw_do (o5.fr0 f7) (by have := inv.len; omega) inv.l0 (by have := inv.l1; omega) x hxs fun w8 va F' G o8 s8 sub hG f8 => ?_
    have hz7 := (f5.trans' f7).grow
    refine BND_step (add1 (by omega)) ⟨⟨i + 1, _, F', rfl, o8, inv_do inv hxs, fun b hb => ?_, ?_, hlt⟩, by simp; omega⟩
    · rcases sub b hb with h | h
      · exact hF b h
      · omega
    · exact (f5.trans' f7).trans f8 fun b hb => .inr (hF b hb)
  refine COND_dec_false (by omega) <| dd_Last o5 <| dd_All o5 (by have := inv.len; omega) fun v10 w10 G10 s10 hG10 f10 => ?_
  have hsmall : ∀ p ∈ s.seen, p.1.size < 1000000 := fun p hp => by have := (inv.names p hp).2.2.2; omega
  refine dd_Cursors (o5.fr0 f10) (by have := inv.few; omega) hsmall fun w11 v11 cs G11 s11 pm rise hG11 f11 => ?_
  have f511 := f10.trans' f11
  have hfrom := from_inv inv pm rise
  have hcl : cs.length ≤ 8 := by have := pm.length_eq; have := inv.few; omega
  have honce : (cs.map (·.1)).Nodup := (pm.map _).nodup_iff.2 inv.once
  refine dd_From (s10.fr f11 (by simp)).arr s11.arr (by have := inv.len; omega) (by omega) (fun c hc => by have := (inv.names c (pm.mem_iff.1 hc)).2.2.2; omega) (fun w12 _ hno => by rw [hfrom] at hno; cases hno) (fun w12 c Fc seen f12 hyes o12 hFc => ?_)
  obtain rfl := fromI_same hyes
  refine BND_step (v := .pointer (some ⟨c, 0, none⟩)) rfl <| BND_step (v := .int .i64 0) rfl ?_
  simp only [binv_neq, binv_ptr_nil, decide_true, Bool.not_true, isB_ff, grd_true, BND_some, pickv_false, COND_false]
  refine BND_step hv'.len ?_
  have f512 := f511.trans' f12
  have hz5 := f5.grow
  have hz11 := f511.grow
  have hdc : ∀ b ∈ F, b ∉ Fc := fun b hb hb' => by have := o5.lt b hb; have := hFc b hb'; omega
  refine ⟨fun t w' => ∃ (k : Nat) (s' u : St) (Fd Fe : List Nat), t = .int .i64 k ∧ DeadOwn w' d s'.rows s'.last s'.seen Fd ∧ DeadOwn w' c u.rows u.last u.seen Fe ∧ InvS s' (i + k) ∧ InvS u (i + k) ∧ Like s' u ∧ (∀ b ∈ Fd, b ∉ Fe) ∧ (∀ b ∈ Fd, hsz w ≤ b) ∧ (∀ b ∈ Fe, hsz w ≤ b) ∧ Fr [] w w' ∧ k ≤ ys.length,
    fun t _ => match t with | .int _ n => ys.length - n.toNat | _ => 0, ⟨0, s, ⟨s.rows, s.last, seen⟩, F, Fc, rfl, o5.fr0 f512, o12, inv,
      ⟨inv.len, inv.l0, inv.l1, inv.rise, inv.place, inv.ids, fun p hp => inv.names p (pm.mem_iff.1 hp), hcl, honce⟩, ⟨rfl, rfl, fun k => (perm_at honce pm k).symm, pm.length_eq.symm⟩, hdc, hF, fun b hb => by have := hFc b hb; omega, f5.trans' f512, by omega⟩, ?_⟩
  rintro _ _ w13 ⟨k, s', u, Fd, Fe, rfl, od, oe, invd, inve, like, hde, hFd, hFe, f13, hk⟩
  refine BND_step (binv_lss _ _ _ _) ?_
  by_cases hklt : k < ys.length
  · refine COND_dec_true (by omega) ?_
    have hx := List.getElem?_eq_getElem hklt
    have hxs := hsm' _ (List.mem_of_getElem? hx)
    generalize ys[k] = x at hx hxs
    obtain ⟨p, ep, lp, _⟩ := (hv'.fr f13 (by simp)).at hx rfl .i64
    refine BND_step ep <| BND_step lp <| box_step (zs := [.int .i64 0, .int .u64 0, .string ByteArray.empty, .int .i64 0]) (vs := encA x) rfl rfl (encA_one x) (by simp [encA]) fun w15 b15 f15 z15 => ?_
    have hx15 : hsz w13 < hsz w15 := by omega
    refine BND_step (v := .agg (encA x).toArray) (loadn_blk b15 (by simp [encA])) <| lw_do (od.fr0 f15) (by have := invd.len; omega) invd.l0 (by have := invd.l1; omega) x hxs fun w16 va Fd' Ga od' sa subd hGa f16 => ?_
    refine BND_step (v := va) rfl <| BND_step (v := .int .i64 (doS s' x).2.err) rfl <| BND_step (v := .bool (doS s' x).2.is) rfl ?_
    have hxb : hsz w13 ∉ Fd := fun hb => by have := od.lt _ hb; omega
    have b16 := f16.some hxb b15
    have hFdFe : ∀ b ∈ Fe, b ∉ Fd := fun b hb hb' => hde b hb' hb
    have oe16 := (oe.fr0 f15).fr f16 hFdFe
    refine BND_step (v := .agg (encA x).toArray) (loadn_blk b16 (by simp [encA])) <| lw_do oe16 (by have := inve.len; omega) inve.l0 (by have := inve.l1; omega) x hxs fun w17 vb Fe' Gb oe' sb sube hGb f17 => ?_
    refine BND_step (v := vb) rfl <| BND_step (v := .int .i64 (doS u x).2.err) rfl <| BND_step (v := .bool (doS u x).2.is) rfl ?_
    obtain ⟨like', hans⟩ := like_do like x
    rw [← hans] at sb ⊢
    have hGaFe : ∀ b ∈ Ga, b ∉ Fe := fun b hb hb' => by have := hGa b hb; have := oe.lt b hb'; omega
    have z13 := f13.grow
    have z16 := f16.grow
    have z17 := f17.grow
    have hsa : (doS s' x).2.out.length < 1000000000 := by
      have hl := invd.len
      unfold doS
      split
      · simp
      split
      · simp
      split
      · unfold nextA
        dsimp only
        split
        · simp
        split
        · simp
        · have := takeI_len x.2.2.2 s'.rows ((atI s'.seen (txt (foldB x.2.2.1.data.toList))).getD 0) []
          simp at this
          dsimp only
          omega
      · simp
    refine r2_Same (sa.fr f17 hGaFe).arr sb.arr hsa fun w18 f18 => ?_
    simp only [decide_true, unv_not, Bool.not_true, isB_ff, grd_true, binv_neq, binv_neb, bne_self_eq_false, BND_some, pickv_false, COND_false]
    have fdd : ∀ b ∈ Fd', b ∉ Fe := fun b hb hb' => by
      rcases subd b hb with h | h
      · exact hde b h hb'
      · have := oe.lt b hb'; omega
    refine BND_step (add1 (by omega)) ⟨⟨k + 1, (doS s' x).1, (doS u x).1, Fd', Fe', rfl, (od'.fr f17 fdd).fr0 f18, oe'.fr0 f18, by have := inv_do invd hxs; rwa [Nat.add_assoc] at this, by have := inv_do inve hxs; rwa [Nat.add_assoc] at this, like', fun b hb hb' => ?_, fun b hb => ?_, fun b hb => ?_, ?_, hklt⟩, by simp; omega⟩
    · rcases sube b hb' with h | h
      · exact fdd b hb h
      · have := od'.lt b hb; omega
    · rcases subd b hb with h | h
      · exact hFd b h
      · omega
    · rcases sube b hb with h | h
      · exact hFe b h
      · omega
    · exact (((f13.trans' f15).trans f16 fun b hb => .inr (hFd b hb)).trans f17 fun b hb => .inr (hFe b hb)).trans' f18
  refine COND_dec_false (by omega) ?_
  have hsd : ∀ p ∈ s'.seen, p.1.size < 1000000 := fun p hp => by have := (invd.names p hp).2.2.2; omega
  have hse : ∀ p ∈ u.seen, p.1.size < 1000000 := fun p hp => by have := (inve.names p hp).2.2.2; omega
  refine lw_own od (by have := invd.len; omega) (by have := invd.few; omega) hsd fun w19 o1 c1 G1 r1 pm1 rise1 _ f19 => ?_
  refine lw_own (oe.fr0 f19) (by have := inve.len; omega) (by have := inve.few; omega) hse fun w20 o2 c2 G2 r2 pm2 rise2 _ f20 => ?_
  have hsame : c1 = c2 := by
    have hpm : c1.Perm c2 := pm1.trans ((seen_perm invd.once inve.once like.seen).trans pm2.symm)
    exact rise_perm rise1 rise2 (fun p hp => (invd.names p (pm1.mem_iff.1 hp)).1) ((pm1.map _).nodup_iff.2 invd.once) hpm
  have hc1 : c1.length ≤ 8 := by have := pm1.length_eq; have := invd.few; omega
  refine lw_same (r1.fr0 f20) r2 (by have := invd.len; omega) (by omega) fun w21 f21 => ?_
  have : decide (s'.last = u.last ∧ s'.rows = u.rows ∧ c1 = c2) = true := by simp [like.rows, like.last, hsame]
  rw [this]
  exact hR _ (f13.trans' <| f19.trans' <| f20.trans' f21)
end
end Go.Proofs.Ythcbcolnahbihaa
