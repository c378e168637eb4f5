/- tumbrellaw07.DueMoves: the walk. Condition: the list reads as acts whose numbers fit 64 bits. -/
import Derived.Test.YtmjiohgdoienmaaDueRises
import Derived.Test.YtmjiohgdoienmaaM4
namespace Go.Proofs.Ytmjiohgdoienmaa
open Go.Den

theorem due_moves {w : World} {v : Value} {xs : List Act} {id t : Int} (hA : Arr encA 3 w v xs) (hok : ∀ a ∈ xs, ActOk a) (ht : t ≤ 18446744073709551615) {R : Value → World → Prop}
    (hR : ∀ w', Fr [] w w' → R (.bool true) w') : CALL PR F_tumbrellaw07_DueMoves [v, .int .u64 id, .int .u64 t] w R := by
  refine C_tumbrellaw07_DueMoves ?_
  unfold M_tumbrellaw07_DueMoves
  refine due_awake fun w1 f1 => ?_
  refine BND_step (unv_not _) <| (COND_false _ _).2 ?_
  have hA1 := hA.fr f1 (by simp)
  refine BND_step hA.len <| BND_step (binv_gtr _ _ _ _) ?_
  by_cases hlen : 200 < xs.length
  · exact COND_dec_true (by omega) (hR w1 f1)
  refine COND_dec_false (by omega) ?_
  refine due_New fun w2 hb F2 O2 f2 n2 => ?_
  have n2' : ∀ b ∈ F2, hsz w ≤ b := fun b hb' => Nat.le_trans f1.grow (n2 b hb')
  refine due_New fun w3 hb' G3 P3 f3 m3 => ?_
  have m3' : ∀ b ∈ G3, hsz w ≤ b := fun b hb' => Nat.le_trans f1.grow (Nat.le_trans f2.grow (m3 b hb'))
  have dj3 : ∀ b ∈ G3, b ∉ F2 := fun b hb1 hb2 => by have := O2.lt b hb2; have := m3 b hb1; omega
  refine BND_step hA.len ?_
  -- both are filled alike
  refine ⟨fun u w4 => ∃ (i : Nat) (F G : List Nat), u = .int .i64 i ∧ i ≤ xs.length ∧ DueOwn w4 hb (putAll (xs.take i)) F ∧ DueOwn w4 hb' (putAll (xs.take i)) G ∧ Fr [] w w4 ∧ (∀ b ∈ F, hsz w ≤ b) ∧ (∀ b ∈ G, hsz w ≤ b) ∧ (∀ b ∈ G, b ∉ F),
    fun t _ => match t with | .int _ n => xs.length - n.toNat | _ => 0, ⟨0, F2, G3, rfl, by omega, O2.fr f3 (by simp), P3, (f1.trans' f2).trans' f3, n2', m3', dj3⟩, ?_⟩
  rintro _ _ w4 ⟨i, F, G, rfl, hi, O4, P4, f4, nF, nG, dj⟩
  have hSl := putAll_len (xs.take i)
  have hSl2 : (putAll (xs.take i)).length ≤ 200 := by simp at hSl; omega
  refine BND_step (binv_lss _ _ _ _) ?_
  by_cases hlt : i < xs.length
  · refine COND_dec_true (by omega) ?_
    have hx := List.getElem?_eq_getElem hlt
    generalize xs[i] = a at hx
    obtain ⟨p, hp1, hp2, _⟩ := (hA.fr f4 (by simp)).at hx rfl .i64
    refine BND_step hp1 <| BND_step hp2 ?_
    refine box_step (zs := [_, _, _]) (vs := encA a) rfl rfl (encA_one a) (by simp [encA]) fun w6 b6 f6 z6 => ?_
    have hAF : hsz w4 ∉ F := fun h => Nat.lt_irrefl _ (O4.lt _ h)
    have hAG : hsz w4 ∉ G := fun h => Nat.lt_irrefl _ (P4.lt _ h)
    have O6 := O4.fr f6 (by simp)
    have P6 := P4.fr f6 (by simp)
    have f46 := f4.trans' f6
    -- what one put comes to
    have hput : ∀ {w : World} {hb : Nat} {F : List Nat} {R : Value → World → Prop}, DueOwn w hb (putAll (xs.take i)) F → (∀ v w' F', DueOwn w' hb (putAll (xs.take (i + 1))) F' → Fr F w w' → (∀ b ∈ F', b ∈ F ∨ hsz w ≤ b) → R v w') →
        CALL PR F_due_Heap_Put [.pointer (some ⟨hb, 0, none⟩), .int .u64 a.2.1, .int .u64 a.2.2] w R := by
      intro w hb F R O hr
      refine due_Put O (by omega) a.2.1 a.2.2 (fun hin => ?_) (fun hni w' F' O' f' s' => ?_)
      · have hp : putAll (xs.take (i + 1)) = putAll (xs.take i) := by rw [take_snoc hx, putAll_snoc, put1, if_pos hin]
        exact hr _ w F (hp ▸ O) (Fr.refl _ _) (fun _ h => .inl h)
      · have hp : putAll (xs.take (i + 1)) = insS (putAll (xs.take i)) (a.2.2, a.2.1) := by rw [take_snoc hx, putAll_snoc, put1, if_neg hni]
        exact hr _ w' F' (hp ▸ O') f' s'
    refine BND_step (faddr_ptr _ _ _) <| BND_step (v := .int .u64 a.2.1) (by rw [load1_blk b6]; rfl) <| BND_step (faddr_ptr _ _ _) <| BND_step (v := .int .u64 a.2.2) (by rw [load1_blk b6]; rfl) ?_
    refine hput O6 fun _ w7 F7 O7 f7 s7 => ?_
    have b7 := f7.some hAF b6
    refine BND_step (faddr_ptr _ _ _) <| BND_step (v := .int .u64 a.2.1) (by rw [load1_blk b7]; rfl) <| BND_step (faddr_ptr _ _ _) <| BND_step (v := .int .u64 a.2.2) (by rw [load1_blk b7]; rfl) ?_
    have P7 := P6.fr f7 dj
    have dj7 : ∀ b ∈ G, b ∉ F7 := fun b h1 h2 => (s7 b h2).elim (dj b h1) (fun h => by have := P6.lt b h1; omega)
    have f47 : Fr [] w w7 := f46.trans f7 (fun b hb' => .inr (nF b hb'))
    have n7 : ∀ b ∈ F7, hsz w ≤ b := fun b hb' => (s7 b hb').elim (nF b) (fun h => Nat.le_trans f46.grow h)
    refine hput P7 fun _ w8 G8 P8 f8 s8 => ?_
    have O8 := O7.fr f8 (fun b h1 h2 => dj7 b h2 h1)
    refine BND_step (v := .int .i64 ((i + 1 : Nat) : Int)) (by rw [binv_add, add_one (by omega)]) ?_
    refine ⟨⟨i + 1, F7, G8, rfl, hlt, O8, P8, f47.trans f8 (fun b hb' => .inr (nG b hb')), n7, fun b hb' => (s8 b hb').elim (nG b) (fun h => Nat.le_trans f47.grow h),
      fun b h1 h2 => (s8 b h1).elim (fun h => dj7 b h h2) (fun h => by have := O7.lt b h2; omega)⟩, by simp; omega⟩
  refine COND_dec_false (by omega) ?_
  have hi' : i = xs.length := by omega
  subst hi'
  rw [List.take_length] at *
  have hmax : ∀ e ∈ putAll xs, e.1 ≤ 18446744073709551615 := fun e he => by
    obtain ⟨j, a, h1, _, h3, _⟩ := putAll_mem.1 he
    have := (hok a (List.mem_of_getElem? h1)).at1
    omega
  generalize hS : putAll xs = S at *
  have hSx : S.length ≤ xs.length := hSl
  -- they go on alike
  have fin : ∀ (T : List E) (w13 : World) (F G : List Nat), DueOwn w13 hb T F → DueOwn w13 hb' T G → Fr [] w w13 → (∀ b ∈ F, hsz w ≤ b) → (∀ b ∈ G, hsz w ≤ b) → (∀ b ∈ G, b ∉ F) → T.length ≤ xs.length → (∀ e ∈ T, e.1 ≤ 18446744073709551615) →
      (BND (lenl v) fun t73_60 =>
        ∃ (J_61 : Value → World → Prop) (m_61 : Value → World → Nat), J_61 (Value.int .i64 0) w13 ∧ ∀ (_d_61 : Env) (t74_69 : Value) (w14 : World), J_61 t74_69 w14 →
        (BND (binv .int .lss t74_69 t73_60) fun t75_97 =>
        COND t75_97
        (CALL PR F_due_Heap_Take [.pointer (some ⟨hb, 0, none⟩), (Value.int .u64 18446744073709551615)] w14 fun t78_98 w15 =>
        BND (extractv t78_98 0) fun t79_99 =>
        BND (extractv t78_98 1) fun t80_100 =>
        BND (extractv t78_98 2) fun t81_101 =>
        CALL PR F_due_Heap_Take [.pointer (some ⟨hb', 0, none⟩), (Value.int .u64 18446744073709551615)] w15 fun t84_102 w16 =>
        BND (extractv t84_102 0) fun t85_103 =>
        BND (extractv t84_102 1) fun t86_104 =>
        BND (extractv t84_102 2) fun t87_105 =>
        BND (binv .int .neq t79_99 t85_103) fun t90_106 =>
        BND (grd (isB t90_106 false) (some t80_100)) fun t92_107 =>
        BND (grd (isB t90_106 false) (some t86_104)) fun t93_108 =>
        BND (grd (isB t90_106 false) (binv .int .neq t92_107 t93_108)) fun t94_109 =>
        BND (pickv t90_106 (Value.bool true) t94_109) fun t95_110 =>
        BND (grd (isB t95_110 false) (some t81_101)) fun t97_111 =>
        BND (grd (isB t95_110 false) (some t87_105)) fun t98_112 =>
        BND (grd (isB t95_110 false) (binv .bool .neq t97_111 t98_112)) fun t99_113 =>
        BND (pickv t95_110 (Value.bool true) t99_113) fun t100_114 =>
        COND t100_114
        (R (Value.bool false) w16)
        (BND (binv .int .add t74_69 (Value.int .i64 1)) fun t101_115 =>
        (J_61 t101_115 w16 ∧ m_61 t101_115 w16 < m_61 t74_69 w14)))
        (CALL PR F_due_Heap_Len [.pointer (some ⟨hb, 0, none⟩)] w14 fun t103_116 w17 =>
        BND (binv .int .eql t103_116 (Value.int .i64 0)) fun t104_117 =>
        R t104_117 w17))) := by
    intro T w13 F G O13 P13 f13 nF nG dj hT hmx
    refine BND_step hA.len ?_
    refine ⟨fun u w14 => ∃ (i : Nat), u = .int .i64 i ∧ i ≤ xs.length ∧ DueOwn w14 hb (T.drop i) F ∧ DueOwn w14 hb' (T.drop i) G ∧ Fr [] w w14, fun t _ => match t with | .int _ n => xs.length - n.toNat | _ => 0,
      ⟨0, rfl, by omega, by simpa using O13, by simpa using P13, f13⟩, ?_⟩
    rintro _ _ w14 ⟨i, rfl, hi, O14, P14, f14⟩
    refine BND_step (binv_lss _ _ _ _) ?_
    by_cases hlt : i < xs.length
    · refine COND_dec_true (by omega) ?_
      have hTl : (T.drop i).length ≤ 200 := by simp; omega
      have hd : decide ((18446744073709551615 : Int) = 18446744073709551615) = true := by decide
      refine due_Take O14 (by omega) _ (fun w15 hno O15 f15 => ?_) (fun e r he _ w15 O15 f15 => ?_)
      · have h0 : T.drop i = [] := by
          rcases hno with h | ⟨e, r, he, hlt⟩
          · exact h
          · have := hmx e (List.mem_of_mem_drop (he ▸ List.mem_cons_self : e ∈ T.drop i)); omega
        have P15 := P14.fr f15 dj
        refine BND_step (v := .int .u64 0) rfl <| BND_step (v := .int .u64 0) rfl <| BND_step (v := .bool false) rfl ?_
        refine due_Take P15 (by omega) _ (fun w16 _ P16 f16 => ?_) (fun e r he => by rw [h0] at he; cases he)
        have O16 := O15.fr f16 (fun b h1 h2 => dj b h2 h1)
        simp only [extractv_tuple, List.getElem?_toArray, List.getElem?_cons_zero, List.getElem?_cons_succ, BND_some, binv_neq, decide_true, Bool.not_true, isB_ff, grd_true, pickv_false, binv_neb, bne_self_eq_false, COND_false, binv_add, add_one (show i < 1000000000 by omega)]
        have h1 : T.drop (i + 1) = [] := by
          rw [List.drop_eq_nil_iff] at h0 ⊢; omega
        exact ⟨⟨i + 1, rfl, hlt, by rw [h1, ← h0]; exact O16, by rw [h1, ← h0]; exact P16, (f14.trans f15 (fun b hb' => .inr (nF b hb'))).trans f16 (fun b hb' => .inr (nG b hb'))⟩, by simp; omega⟩
      · have P15 := P14.fr f15 dj
        have hr : T.drop (i + 1) = r := by
          have : T.drop (i + 1) = (T.drop i).drop 1 := by rw [List.drop_drop]
          rw [this, he]; rfl
        refine BND_step (v := .int .u64 e.2) rfl <| BND_step (v := .int .u64 e.1) rfl <| BND_step (v := .bool true) rfl ?_
        refine due_Take P15 (by omega) _ (fun w16 hno _ _ => ?_) (fun e' r' he' _ w16 P16 f16 => ?_)
        · exfalso
          rcases hno with h | ⟨e', r', he', hlt⟩
          · rw [he] at h; cases h
          · rw [he] at he'; cases he'; omega
        rw [he] at he'
        obtain ⟨rfl, rfl⟩ : e = e' ∧ r = r' := by simpa using he'
        have O16 := O15.fr f16 (fun b h1 h2 => dj b h2 h1)
        simp only [extractv_tuple, List.getElem?_toArray, List.getElem?_cons_zero, List.getElem?_cons_succ, BND_some, binv_neq, decide_true, Bool.not_true, isB_ff, grd_true, pickv_false, binv_neb, bne_self_eq_false, COND_false, binv_add, add_one (show i < 1000000000 by omega)]
        exact ⟨⟨i + 1, rfl, hlt, by rw [hr]; exact O16, by rw [hr]; exact P16, (f14.trans f15 (fun b hb' => .inr (nF b hb'))).trans f16 (fun b hb' => .inr (nG b hb'))⟩, by simp; omega⟩
    · refine COND_dec_false (by omega) ?_
      have h0 : T.drop i = [] := List.drop_eq_nil_of_le (by omega)
      rw [h0] at O14
      refine due_Len O14 ?_
      exact BND_step rfl (hR w14 f14)
  refine due_Move O4 (by omega) id t (fun hni => ?_) (fun hin w9 O9 f9 => ?_)
  · refine due_Drop P4 (by omega) id (fun _ => ?_) (fun hin => absurd hin hni)
    simp only [binv_neb, bne_self_eq_false, BND_some, isB_ff, isB_ft, grd_true, grd_false, GEF_false, pickv_false]
    refine (GEF_true _ _ _).2 <| due_Len O4 ?_
    refine (GEF_true _ _ _).2 <| due_Len P4 ?_
    simp only [binv_neq, decide_true, Bool.not_true, BND_some, COND_false]
    exact fin S w4 F G O4 P4 f4 nF nG dj hSx hmax
  · have P9 := P4.fr f9 dj
    have f49 : Fr [] w w9 := f4.trans f9 (fun b hb' => .inr (nF b hb'))
    refine due_Drop P9 (by omega) id (fun hni => absurd hin hni) (fun _ w10 P10 f10 => ?_)
    have O10 := O9.fr f10 (fun b h1 h2 => dj b h2 h1)
    have f410 : Fr [] w w10 := f49.trans f10 (fun b hb' => .inr (nG b hb'))
    simp only [binv_neb, bne_self_eq_false, BND_some, isB_ff, isB_tt, grd_true, GEF_true]
    have hrl : (remS S id).length ≤ S.length := List.length_filter_le _ _
    have hrl2 : (remS S id).length < S.length := by
      have h1 := List.length_filter_le (fun e : E => !decide (e.2 = id)) S
      obtain ⟨x, hx, he⟩ := List.mem_map.1 hin
      rcases Nat.lt_or_ge (remS S id).length S.length with h | h
      · exact h
      · have : remS S id = S := List.filter_sublist.eq_of_length (by unfold remS at h; omega)
        exact absurd hin (this ▸ remS_notin S id)
    refine due_Put P10 (by omega) id t (fun h => absurd h (remS_notin S id)) (fun _ w11 G11 P11 f11 s11 => ?_)
    have O11 := O10.fr f11 (fun b h1 h2 => dj b h2 h1)
    have f411 : Fr [] w w11 := f410.trans f11 (fun b hb' => .inr (nG b hb'))
    have dj11 : ∀ b ∈ G11, b ∉ F := fun b h1 h2 => (s11 b h1).elim (fun h => dj b h h2) (fun h => by have := O10.lt b h2; omega)
    have n11 : ∀ b ∈ G11, hsz w ≤ b := fun b hb' => (s11 b hb').elim (nG b) (fun h => Nat.le_trans f410.grow h)
    simp only [unv_not, Bool.not_true, BND_some, pickv_true, pickv_false, isB_ff, grd_true]
    refine (GEF_true _ _ _).2 <| due_Len O11 ?_
    refine (GEF_true _ _ _).2 <| due_Len P11 ?_
    simp only [binv_neq, decide_true, Bool.not_true, BND_some, COND_false]
    refine fin _ w11 F G11 O11 P11 f411 nF n11 dj11 (by rw [insS_len]; omega) fun e he => ?_
    rcases insS_mem.1 he with rfl | he
    · exact ht
    · exact hmax e (List.mem_filter.1 he).1

end Go.Proofs.Ytmjiohgdoienmaa
