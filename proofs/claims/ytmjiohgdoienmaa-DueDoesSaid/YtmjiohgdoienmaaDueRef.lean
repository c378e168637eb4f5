/- tumbrelref07.Heap's methods, as operations on a list of entries. No condition. -/
import Derived.Test.YtmjiohgdoienmaaDueRises
import Derived.Test.YtmjiohgdoienmaaLib2
import Derived.Test.YtmjiohgdoienmaaM24
import Derived.Test.YtmjiohgdoienmaaM14
import Derived.Test.YtmjiohgdoienmaaM18
import Derived.Test.YtmjiohgdoienmaaM16
import Derived.Test.YtmjiohgdoienmaaM15
import Derived.Test.YtmjiohgdoienmaaM17
import Derived.Test.YtmjiohgdoienmaaM20
namespace Go.Proofs.Ytmjiohgdoienmaa
open Go.Den

def encR (e : E) : List Value := [.int .u64 e.2, .int .u64 e.1]
theorem encR_len (e : E) : (encR e).length = 2 := rfl
theorem encR_one (e : E) : ∀ u ∈ encR e, u.oneCell' = true := by
  intro u hu; simp [encR] at hu; rcases hu with rfl | rfl <;> rfl

def RefOwn (w : World) (rb : Nat) (S : List E) (F : List Nat) : Prop :=
  ∃ sv Fa T, blk w rb = some (.cells #[sv] T (0, 0)) ∧ Slc encR 2 w sv S Fa ∧ F = rb :: Fa ∧ rb ∉ Fa
theorem RefOwn.fr {w w' : World} {rb : Nat} {S : List E} {F G : List Nat} (h : RefOwn w rb S F) (hf : Fr G w w') (hd : ∀ b ∈ F, b ∉ G) : RefOwn w' rb S F := by
  obtain ⟨sv, Fa, T, h1, h2, rfl, h3⟩ := h
  exact ⟨sv, Fa, T, hf.some (hd _ (by simp)) h1, h2.fr hf (fun b hb => hd b (by simp [hb])), rfl, h3⟩
theorem RefOwn.lt {w : World} {rb : Nat} {S : List E} {F : List Nat} (h : RefOwn w rb S F) : ∀ b ∈ F, b < hsz w := by
  obtain ⟨sv, Fa, T, h1, h2, rfl, h3⟩ := h
  intro b hb
  rcases List.mem_cons.1 hb with rfl | hb
  · exact blk_lt h1
  · exact h2.lt b hb

theorem ref_find {w : World} {rb : Nat} {S : List E} {F : List Nat} (h : RefOwn w rb S F) (hn : S.length < 1000000000) (id : Int) {R : Value → World → Prop}
    (hno : id ∉ S.map (·.2) → R (.int .i64 (-1)) w)
    (hyes : ∀ (k : Nat) (e : E), S[k]? = some e → e.2 = id → R (.int .i64 (k : Int)) w) :
    CALL PR F_tumbrelref07_Heap_find [.pointer (some ⟨rb, 0, none⟩), .int .u64 id] w R := by
  obtain ⟨sv, Fa, T, h1, h2, rfl, h3⟩ := h
  refine C_tumbrelref07_Heap_find ?_
  unfold M_tumbrelref07_Heap_find
  refine ⟨fun u w' => ∃ i : Nat, u = .int .i64 i ∧ i ≤ S.length ∧ w' = w ∧ ∀ (j : Nat) (x : E), j < i → S[j]? = some x → x.2 ≠ id, fun u _ => match u with | .int _ n => S.length - n.toNat | _ => 0,
    ⟨0, rfl, by omega, rfl, fun j x hj => by omega⟩, ?_⟩
  rintro _ _ w1 ⟨i, rfl, hi, rfl, hb⟩
  refine BND_step (nilchk_ptr _) <| BND_step (faddr_ptr _ _ _) <| BND_step (load1_blk h1) <| BND_step h2.len <| BND_step (binv_lss _ _ _ _) ?_
  by_cases hlt : i < S.length
  · refine COND_dec_true (by omega) ?_
    obtain ⟨ab, hF, ei⟩ := h2.iaddr hlt .i64
    subst hF
    have hx := List.getElem?_eq_getElem hlt
    refine BND_step (nilchk_ptr _) <| BND_step (faddr_ptr _ _ _) <| BND_step (load1_blk h1) <| BND_step ei <| BND_step (faddr_ptr _ _ _) <| BND_step (h2.load1 (j := 0) hx (by omega)) <| BND_step (binv_eql _ _ _ _) ?_
    by_cases he : S[i].2 = id
    · exact COND_dec_true he (hyes i _ hx he)
    · refine COND_dec_false he ?_
      refine BND_step (v := .int .i64 ((i + 1 : Nat) : Int)) (by rw [binv_add, add_one (by omega)]) ?_
      refine ⟨⟨i + 1, rfl, hlt, rfl, fun j x hj hjx => ?_⟩, by simp; omega⟩
      by_cases hji : j = i
      · subst hji; rw [hx] at hjx; cases hjx; exact he
      · exact hb j x (by omega) hjx
  · refine COND_dec_false (by omega) (hno fun hm => ?_)
    obtain ⟨x, hx, hxe⟩ := List.mem_map.1 hm
    obtain ⟨j, hj, rfl⟩ := List.getElem_of_mem hx
    exact hb j _ (by omega) (List.getElem?_eq_getElem hj) hxe

theorem ref_goesOn {w : World} {rb T i : Nat} {sv : Value} {S : List E} {Fa : List Nat} {id t : Int} {K : Value → Prop} (h1 : blk w rb = some (.cells #[sv] T (0, 0))) (h2 : Slc encR 2 w sv S Fa)
    (hK : ∀ b : Bool, b = (match S[i]? with | some e => ltE e (t, id) | none => false) → K (.bool b)) :
        BND (nilchk (.pointer (some ⟨rb, 0, none⟩))) fun t15_50 =>
        BND (faddr 0 t15_50) fun t16_51 =>
        BND (load1 w t16_51) fun t17_52 =>
        BND (lenl t17_52) fun t18_53 =>
        BND (binv .int .lss (.int .i64 (i : Int)) t18_53) fun t19_54 =>
        BND (grd (isB t19_54 true) (some (.pointer (some ⟨rb, 0, none⟩)))) fun t21_55 =>
        BND (grd (isB t19_54 true) (nilchk t21_55)) fun t22_56 =>
        BND (grd (isB t19_54 true) (faddr 0 t22_56)) fun t23_57 =>
        BND (grd (isB t19_54 true) (load1 w t23_57)) fun t24_58 =>
        BND (grd (isB t19_54 true) (some (.int .i64 (i : Int)))) fun t25_59 =>
        BND (grd (isB t19_54 true) (iaddr 2 t24_58 t25_59)) fun t26_60 =>
        BND (grd (isB t19_54 true) (faddr 1 t26_60)) fun t27_61 =>
        BND (grd (isB t19_54 true) (load1 w t27_61)) fun t28_62 =>
        BND (grd (isB t19_54 true) (some (.int .u64 t))) fun t29_63 =>
        BND (grd (isB t19_54 true) (binv .int .lss t28_62 t29_63)) fun t30_64 =>
        BND (grd (isB t19_54 true) (some t30_64)) fun t31_65 =>
        BND (grd (isB t31_65 false) (some (.pointer (some ⟨rb, 0, none⟩)))) fun t32_66 =>
        BND (grd (isB t31_65 false) (nilchk t32_66)) fun t33_67 =>
        BND (grd (isB t31_65 false) (faddr 0 t33_67)) fun t34_68 =>
        BND (grd (isB t31_65 false) (load1 w t34_68)) fun t35_69 =>
        BND (grd (isB t31_65 false) (some (.int .i64 (i : Int)))) fun t36_70 =>
        BND (grd (isB t31_65 false) (iaddr 2 t35_69 t36_70)) fun t37_71 =>
        BND (grd (isB t31_65 false) (faddr 1 t37_71)) fun t38_72 =>
        BND (grd (isB t31_65 false) (load1 w t38_72)) fun t39_73 =>
        BND (grd (isB t31_65 false) (some (.int .u64 t))) fun t40_74 =>
        BND (grd (isB t31_65 false) (binv .int .eql t39_73 t40_74)) fun t41_75 =>
        BND (grd (isB t31_65 false) (some t41_75)) fun t42_76 =>
        BND (grd (isB t42_76 true) (some (.pointer (some ⟨rb, 0, none⟩)))) fun t43_77 =>
        BND (grd (isB t42_76 true) (nilchk t43_77)) fun t44_78 =>
        BND (grd (isB t42_76 true) (faddr 0 t44_78)) fun t45_79 =>
        BND (grd (isB t42_76 true) (load1 w t45_79)) fun t46_80 =>
        BND (grd (isB t42_76 true) (some (.int .i64 (i : Int)))) fun t47_81 =>
        BND (grd (isB t42_76 true) (iaddr 2 t46_80 t47_81)) fun t48_82 =>
        BND (grd (isB t42_76 true) (faddr 0 t48_82)) fun t49_83 =>
        BND (grd (isB t42_76 true) (load1 w t49_83)) fun t50_84 =>
        BND (grd (isB t42_76 true) (some (.int .u64 id))) fun t51_85 =>
        BND (grd (isB t42_76 true) (binv .int .lss t50_84 t51_85)) fun t52_86 =>
        BND (grd (isB t31_65 false) (pickv t42_76 t52_86 (Value.bool false))) fun t53_87 =>
        BND (grd (isB t19_54 true) (pickv t31_65 (Value.bool true) t53_87)) fun t54_88 =>
        BND (pickv t19_54 t54_88 (Value.bool false)) fun t55_89 =>
      K t55_89 := by
  refine BND_step (nilchk_ptr _) <| BND_step (faddr_ptr _ _ _) <| BND_step (load1_blk h1) <| BND_step h2.len <| BND_step (binv_lss _ _ _ _) ?_
  by_cases hlt : i < S.length
  · have hd : decide ((i : Int) < (S.length : Int)) = true := by simpa using hlt
    rw [hd]
    have hx := List.getElem?_eq_getElem hlt
    obtain ⟨ab, hF, ei⟩ := h2.iaddr hlt .i64
    subst hF
    have hxx := hx
    generalize S[i] = x at hx
    rw [hx] at hK
    simp only [isB_tt, grd_true]
    refine BND_step rfl <| BND_step (nilchk_ptr _) <| BND_step (faddr_ptr _ _ _) <| BND_step (load1_blk h1) <| BND_step rfl <| BND_step ei <| BND_step (faddr_ptr _ _ _) <| BND_step (h2.load1 (j := 1) hx (by omega)) <|
      BND_step rfl <| BND_step (binv_lss _ _ _ _) <| BND_step rfl ?_
    by_cases ha : x.1 < t
    · have hd1 : decide (x.1 < t) = true := by simpa using ha
      rw [hd1]
      simp only [isB_tf, grd_false, BND_some, isB_undef, pickv_true]
      exact hK true (by simp [ltE, ha])
    · have hd1 : decide (x.1 < t) = false := by simpa using ha
      rw [hd1]
      simp only [isB_ff, grd_true]
      refine BND_step rfl <| BND_step (nilchk_ptr _) <| BND_step (faddr_ptr _ _ _) <| BND_step (load1_blk h1) <| BND_step rfl <| BND_step ei <| BND_step (faddr_ptr _ _ _) <| BND_step (h2.load1 (j := 1) hx (by omega)) <|
        BND_step rfl <| BND_step (binv_eql _ _ _ _) <| BND_step rfl ?_
      by_cases hb : x.1 = t
      · have hd2 : decide (x.1 = t) = true := by simpa using hb
        rw [hd2]
        simp only [isB_tt, grd_true]
        refine BND_step rfl <| BND_step (nilchk_ptr _) <| BND_step (faddr_ptr _ _ _) <| BND_step (load1_blk h1) <| BND_step rfl <| BND_step ei <| BND_step (faddr_ptr _ _ _) <| BND_step (h2.load1 (j := 0) hx (by omega)) <|
          BND_step rfl <| BND_step (binv_lss _ _ _ _) <| BND_step (pickv_true _ _) <| BND_step (pickv_false _ _) <| BND_step (pickv_true _ _) ?_
        exact hK _ (by simp [ltE, hb])
      · have hd2 : decide (x.1 = t) = false := by simpa using hb
        rw [hd2]
        simp only [isB_ft, grd_false, BND_some, pickv_false, pickv_true]
        exact hK false (by simp [ltE, hb]; omega)
  · have hd : decide ((i : Int) < (S.length : Int)) = false := by simpa using hlt
    rw [hd]
    simp only [isB_ft, grd_false, BND_some, isB_undef, pickv_false]
    exact hK false (by rw [List.getElem?_eq_none (by omega)])

theorem insS_step {S : List E} {i : Nat} {e x : E} (hx : S[i]? = some x) (h : ltE x e = true) (hi : insS S e = S.take i ++ insS (S.drop i) e) : insS S e = S.take (i + 1) ++ insS (S.drop (i + 1)) e := by
  have hlt : i < S.length := (List.getElem?_eq_some_iff.1 hx).1
  have hd : S.drop i = x :: S.drop (i + 1) := by
    rw [List.drop_eq_getElem_cons hlt]; congr 1; rw [List.getElem?_eq_getElem hlt] at hx; exact Option.some.inj hx
  rw [hi, take_snoc hx, hd]
  simp [insS, h]
theorem insS_stop {S : List E} {i : Nat} {e : E} (h : (match S[i]? with | some x => ltE x e | none => false) = false) : insS (S.drop i) e = e :: S.drop i := by
  cases hx : S[i]? with
  | none =>
    have : S.length ≤ i := List.getElem?_eq_none_iff.1 hx
    rw [List.drop_of_length_le this]; rfl
  | some x =>
    have hlt : i < S.length := (List.getElem?_eq_some_iff.1 hx).1
    have hd : S.drop i = x :: S.drop (i + 1) := by
      rw [List.drop_eq_getElem_cons hlt]; congr 1; rw [List.getElem?_eq_getElem hlt] at hx; exact Option.some.inj hx
    rw [hx] at h
    rw [hd]
    simp only at h
    simp [insS, h]
theorem eraseIdx_remS : ∀ {S : List E}, (S.map (·.2)).Nodup → ∀ {k : Nat} {e : E}, S[k]? = some e → S.eraseIdx k = remS S e.2
  | [], _, k, e, h => by simp at h
  | x :: r, hn, 0, e, h => by
    simp at h; subst h
    exact (remS_head hn).symm
  | x :: r, hn, k + 1, e, h => by
    have hr := hn
    simp only [List.map_cons, List.nodup_cons] at hr
    have h' : r[k]? = some e := by simpa using h
    have hx : x.2 ≠ e.2 := fun he => hr.1 (he ▸ List.mem_map.2 ⟨_, List.mem_of_getElem? h', rfl⟩)
    have ih := eraseIdx_remS hr.2 h'
    simp only [List.eraseIdx_cons_succ, ih]
    simp [remS, hx]

theorem ref_Put {w : World} {rb : Nat} {S : List E} {F : List Nat} (h : RefOwn w rb S F) (hn : S.length < 1000000000) (id t : Int) {R : Value → World → Prop}
    (hno : id ∈ S.map (·.2) → R (.bool false) w)
    (hyes : id ∉ S.map (·.2) → ∀ w' F', RefOwn w' rb (insS S (t, id)) F' → Fr F w w' → (∀ b ∈ F', b ∈ F ∨ hsz w ≤ b) → R (.bool true) w') :
    CALL PR F_tumbrelref07_Heap_Put [.pointer (some ⟨rb, 0, none⟩), .int .u64 id, .int .u64 t] w R := by
  refine C_tumbrelref07_Heap_Put ?_
  unfold M_tumbrelref07_Heap_Put
  refine ref_find h hn id (fun hni => ?_) (fun k e hk he => ?_)
  rotate_left
  · refine BND_step (binv_geq _ _ _ _) <| COND_dec_true (by omega) (hno (he ▸ List.mem_map.2 ⟨_, List.mem_of_getElem? hk, rfl⟩))
  refine BND_step (binv_geq _ _ _ _) <| COND_dec_false (by omega) ?_
  have hlt := h.lt
  obtain ⟨sv, Fa, T, h1, h2, rfl, h3⟩ := h
  refine ⟨fun u w' => ∃ i : Nat, u = .int .i64 i ∧ i ≤ S.length ∧ w' = w ∧ insS S (t, id) = S.take i ++ insS (S.drop i) (t, id), fun u _ => match u with | .int _ n => S.length - n.toNat | _ => 0,
    ⟨0, rfl, by omega, rfl, by simp⟩, ?_⟩
  rintro _ _ w1 ⟨i, rfl, hi, rfl, hins⟩
  refine ref_goesOn h1 h2 (id := id) (t := t) (i := i) fun b hb => ?_
  cases b with
  | true =>
    refine (COND_true _ _).2 ?_
    cases hx : S[i]? with
    | none => rw [hx] at hb; cases hb
    | some x =>
      rw [hx] at hb
      have hil : i < S.length := (List.getElem?_eq_some_iff.1 hx).1
      refine BND_step (v := .int .i64 ((i + 1 : Nat) : Int)) (by rw [binv_add, add_one (by omega)]) ?_
      exact ⟨⟨i + 1, rfl, hil, rfl, insS_step hx hb.symm hins⟩, by simp; omega⟩
  | false =>
    refine (COND_false _ _).2 ?_
    rw [insS_stop hb.symm] at hins
    obtain ⟨v0, w3, e0, s0, f0⟩ := newslice_none encR 58 2 #[(Value.int .u64 0), (Value.int .u64 0)] w1
    refine BND_step e0 <| (NEW_pair _ _ _).2 ?_
    have old : ∀ b ∈ Fa, b < hsz w1 := fun b hb => hlt b (by simp [hb])
    obtain ⟨u1, e1, c1⟩ := h2.upto encR_len hi .i64
    obtain ⟨u2, e2, c2⟩ := h2.from encR_len hi .i64
    refine BND_step (nilchk_ptr _) <| BND_step (faddr_ptr _ _ _) <| BND_step (load1_blk (f0.some (by simp) h1)) <| BND_step e1 ?_
    refine APPEND_slc s0 (c1 _ fun b hb => f0.keep b (old b hb) (by simp)) encR_len encR_one rfl (by simp; omega) (by simp; omega) fun v4 w4 F4 s4 f4 sub4 => ?_
    have g4 : Fr [] w1 w4 := f0.trans f4 fun b hb => by simp at hb; subst hb; exact .inr (Nat.le_refl _)
    have new4 : ∀ b ∈ F4, hsz w1 ≤ b := fun b hb => (sub4 b hb).elim (fun h => by simp at h; omega) (fun h => Nat.le_trans f0.grow h)
    refine BND_step (v := .agg (encR (t, id)).toArray) rfl ?_
    refine BND_step (v := (.slice (some ⟨hsz w4, 0, none⟩) 1 1, w4.alloc (.cells (encR (t, id)).toArray 58))) (newslice_one _ _ _ _ rfl _) <| (NEW_pair _ _ _).2 ?_
    have fa : Fr [] w4 (w4.alloc (.cells (encR (t, id)).toArray 58)) := Fr.alloc _ _ _
    have ba := blk_alloc_new w4 (.cells (encR (t, id)).toArray 58)
    generalize w4.alloc (.cells (encR (t, id)).toArray 58) = w5 at fa ba
    have hu : cellsOfArg w5 2 (.slice (some ⟨hsz w4, 0, none⟩) 1 1) = some (flat encR [(t, id)], [(t, id)].length) := by
      simp [cellsOfArg, loads_blk (o := 0) ba 2 0 (by simp [encR]), flat, encR]
    refine APPEND_slc (s4.fr fa (by simp)) hu encR_len encR_one rfl (by simp; omega) (by simp; omega) fun v6 w6 F6 s6 f6 sub6 => ?_
    have g5 := g4.trans' fa
    have g6 : Fr [] w1 w6 := g5.trans f6 fun b hb => .inr (new4 b hb)
    have new6 : ∀ b ∈ F6, hsz w1 ≤ b := fun b hb => (sub6 b hb).elim (new4 b) (fun h => Nat.le_trans g5.grow h)
    refine BND_step (nilchk_ptr _) <| BND_step (faddr_ptr _ _ _) <| BND_step (load1_blk (g6.some (by simp) h1)) <| BND_step e2 ?_
    refine APPEND_slc s6 (c2 _ fun b hb => g6.keep b (old b hb) (by simp)) encR_len encR_one rfl (by simp; omega) (by simp; omega) fun v7 w7 F7 s7 f7 sub7 => ?_
    have g7 : Fr [] w1 w7 := g6.trans f7 fun b hb => .inr (new6 b hb)
    have new7 : ∀ b ∈ F7, hsz w1 ≤ b := fun b hb => (sub7 b hb).elim (new6 b) (fun h => Nat.le_trans g6.grow h)
    have b7 := g7.some (by simp) h1
    refine BND_step (nilchk_ptr _) <| BND_step (faddr_ptr _ _ _) <| BND_step (storev1_blk b7 (by simp) s7.one.1 s7.one.2) ?_
    have hrb : rb < hsz w1 := blk_lt h1
    have hnm : rb ∉ F7 := fun hc => by have := new7 rb hc; omega
    refine hyes hni _ (rb :: F7) ⟨v7, F7, T, blk_setB_same b7, ?_, rfl, hnm⟩ ?_ (by
      intro b hb
      rcases List.mem_cons.1 hb with rfl | hb
      · exact .inl (by simp)
      · exact .inr (new7 b hb))
    · rw [hins]
      have := s7.fr (Fr.setB (F := [rb]) (b := rb) (.inl (by simp)) (.cells (#[sv].setIfInBounds (0 + 0) v7) T (0, 0))) (fun b hb => by simp; intro e; subst e; exact hnm hb)
      simpa using this
    · exact (Fr.nil g7).trans' (Fr.setB (.inl (by simp)) _)

theorem ref_Drop {w : World} {rb : Nat} {S : List E} {F : List Nat} (h : RefOwn w rb S F) (hids : (S.map (·.2)).Nodup) (hn : S.length < 1000000000) (id : Int) {R : Value → World → Prop}
    (hno : id ∉ S.map (·.2) → R (.bool false) w)
    (hyes : id ∈ S.map (·.2) → ∀ w' F', RefOwn w' rb (remS S id) F' → Fr F w w' → (∀ b ∈ F', b ∈ F ∨ hsz w ≤ b) → R (.bool true) w') :
    CALL PR F_tumbrelref07_Heap_Drop [.pointer (some ⟨rb, 0, none⟩), .int .u64 id] w R := by
  refine C_tumbrelref07_Heap_Drop ?_
  unfold M_tumbrelref07_Heap_Drop
  refine ref_find h hn id (fun hni => ?_) (fun k e hk he => ?_)
  · exact BND_step (binv_lss _ _ _ _) <| COND_dec_true (by omega) (hno hni)
  refine BND_step (binv_lss _ _ _ _) <| COND_dec_false (by omega) ?_
  have hlt := h.lt
  obtain ⟨sv, Fa, T, h1, h2, rfl, h3⟩ := h
  have hkl : k < S.length := (List.getElem?_eq_some_iff.1 hk).1
  have hrem : S.take k ++ S.drop (k + 1) = remS S id := by rw [← he, ← eraseIdx_remS hids hk, List.eraseIdx_eq_take_drop_succ]
  refine ⟨fun w' => blk w' rb = some (.cells #[sv] T (0, 0)), h1, ?_⟩
  obtain ⟨u1, e1, c1⟩ := h2.upto encR_len (Nat.le_of_lt hkl) .i64
  obtain ⟨u2, e2, c2⟩ := h2.from encR_len hkl .i64
  refine BND_step (nilchk_ptr _) <| BND_step (faddr_ptr _ _ _) <| FLT.mk sv (fun w hw => (load1_blk hw).trans rfl) <| BND_step e1 ?_
  refine BND_step (nilchk_ptr _) <| BND_step (faddr_ptr _ _ _) <| FLT.mk sv (fun w hw => (load1_blk hw).trans rfl) <| BND_step (v := .int .i64 ((k + 1 : Nat) : Int)) (by rw [binv_add, add_one (by omega)]) <| BND_step e2 ?_
  obtain ⟨v0, w3, e0, s0, f0'⟩ := newslice_none encR 58 2 #[(Value.int .u64 0), (Value.int .u64 0)] w.drew
  have f0 : Fr [] w w3 := (Fr.drew [] w).trans' f0'
  refine BND_step e0 <| (NEW_pair _ _ _).2 ?_
  have old : ∀ b ∈ Fa, b < hsz w := fun b hb => hlt b (by simp [hb])
  refine ⟨f0.some (by simp) h1, ?_⟩
  refine APPEND_slc s0 (c1 _ fun b hb => f0.keep b (old b hb) (by simp)) encR_len encR_one rfl (by simp; omega) (by simp; omega) fun v4 w4 F4 s4 f4 sub4 => ?_
  have g4 : Fr [] w w4 := f0.trans f4 fun b hb => by simp at hb; subst hb; exact .inr (Nat.le_refl _)
  have new4 : ∀ b ∈ F4, hsz w ≤ b := fun b hb => (sub4 b hb).elim (fun h => by simp at h; omega) (fun h => Nat.le_trans f0.grow h)
  refine ⟨g4.some (by simp) h1, ?_⟩
  refine APPEND_slc s4 (c2 _ fun b hb => g4.keep b (old b hb) (by simp)) encR_len encR_one rfl (by simp; omega) (by simp; omega) fun v7 w7 F7 s7 f7 sub7 => ?_
  have g7 : Fr [] w w7 := g4.trans f7 fun b hb => .inr (new4 b hb)
  have new7 : ∀ b ∈ F7, hsz w ≤ b := fun b hb => (sub7 b hb).elim (new4 b) (fun h => Nat.le_trans g4.grow h)
  have b7 := g7.some (by simp) h1
  refine BND_step (nilchk_ptr _) <| BND_step (faddr_ptr _ _ _) <| BND_step (storev1_blk b7 (by simp) s7.one.1 s7.one.2) ?_
  have hrb : rb < hsz w := blk_lt h1
  have hnm : rb ∉ F7 := fun hc => by have := new7 rb hc; omega
  refine hyes (he ▸ List.mem_map.2 ⟨_, List.mem_of_getElem? hk, rfl⟩) _ (rb :: F7) ⟨v7, F7, T, blk_setB_same b7, ?_, rfl, hnm⟩ ?_ (by
    intro b hb
    rcases List.mem_cons.1 hb with rfl | hb
    · exact .inl (by simp)
    · exact .inr (new7 b hb))
  · rw [← hrem]
    have := s7.fr (Fr.setB (F := [rb]) (b := rb) (.inl (by simp)) (.cells (#[sv].setIfInBounds (0 + 0) v7) T (0, 0))) (fun b hb => by simp; intro e; subst e; exact hnm hb)
    simpa using this
  · exact (Fr.nil g7).trans' (Fr.setB (.inl (by simp)) _)

theorem ref_First {w : World} {rb : Nat} {S : List E} {F : List Nat} (h : RefOwn w rb S F) {R : Value → World → Prop}
    (hno : S = [] → R (.tuple #[.int .u64 0, .int .u64 0, .bool false]) w)
    (hyes : ∀ e r, S = e :: r → R (.tuple #[.int .u64 e.2, .int .u64 e.1, .bool true]) w.drew) : CALL PR F_tumbrelref07_Heap_First [.pointer (some ⟨rb, 0, none⟩)] w R := by
  obtain ⟨sv, Fa, T, h1, h2, rfl, h3⟩ := h
  refine C_tumbrelref07_Heap_First ?_
  unfold M_tumbrelref07_Heap_First
  refine BND_step (nilchk_ptr _) <| BND_step (faddr_ptr _ _ _) <| BND_step (load1_blk h1) <| BND_step h2.len <| BND_step (binv_eql _ _ _ _) ?_
  cases S with
  | nil => exact COND_dec_true (by simp) (hno rfl)
  | cons e r =>
    refine COND_dec_false (by simp; omega) ?_
    have h1' : blk w.drew rb = some (.cells #[sv] T (0, 0)) := h1
    have h2' : Slc encR 2 w.drew sv (e :: r) Fa := h2
    obtain ⟨ab, hF, ei⟩ := h2'.iaddr (i := 0) (by simp) .i64
    subst hF
    refine BND_step (nilchk_ptr _) <| BND_step (faddr_ptr _ _ _) <| BND_step (nilchk_ptr _) <| BND_step (faddr_ptr _ _ _) <| BND_step (load1_blk h1') <| BND_step ei <| BND_step (faddr_ptr _ _ _) <|
      BND_step (h2'.load1 (i := 0) (j := 0) rfl (by omega)) <| BND_step (load1_blk h1') <| BND_step ei <| BND_step (faddr_ptr _ _ _) <| BND_step (h2'.load1 (i := 0) (j := 1) rfl (by omega)) ?_
    exact hyes e r rfl

theorem ref_At {w : World} {rb : Nat} {S : List E} {F : List Nat} (h : RefOwn w rb S F) (hn : S.length < 1000000000) (id : Int) {R : Value → World → Prop}
    (hno : id ∉ S.map (·.2) → R (.tuple #[.int .u64 0, .bool false]) w)
    (hyes : ∀ e ∈ S, e.2 = id → R (.tuple #[.int .u64 e.1, .bool true]) w) : CALL PR F_tumbrelref07_Heap_At [.pointer (some ⟨rb, 0, none⟩), .int .u64 id] w R := by
  refine C_tumbrelref07_Heap_At ?_
  unfold M_tumbrelref07_Heap_At
  refine ref_find h hn id (fun hni => ?_) (fun k e hk he => ?_)
  · exact BND_step (binv_lss _ _ _ _) <| COND_dec_true (by omega) (hno hni)
  refine BND_step (binv_lss _ _ _ _) <| COND_dec_false (by omega) ?_
  obtain ⟨sv, Fa, T, h1, h2, rfl, h3⟩ := h
  have hkl : k < S.length := (List.getElem?_eq_some_iff.1 hk).1
  obtain ⟨ab, hF, ei⟩ := h2.iaddr hkl .i64
  subst hF
  refine BND_step (nilchk_ptr _) <| BND_step (faddr_ptr _ _ _) <| BND_step (load1_blk h1) <| BND_step ei <| BND_step (faddr_ptr _ _ _) <| BND_step (h2.load1 (j := 1) hk (by omega)) ?_
  exact hyes e (List.mem_of_getElem? hk) he

theorem ref_Take {w : World} {rb : Nat} {S : List E} {F : List Nat} (h : RefOwn w rb S F) (hids : (S.map (·.2)).Nodup) (hn : S.length < 1000000000) (now : Int) {R : Value → World → Prop}
    (hno : ∀ w', (S = [] ∨ ∃ e r, S = e :: r ∧ now < e.1) → RefOwn w' rb S F → Fr F w w' → R (.tuple #[.int .u64 0, .int .u64 0, .bool false]) w')
    (hyes : ∀ e r, S = e :: r → e.1 ≤ now → ∀ w' F', RefOwn w' rb r F' → Fr F w w' → (∀ b ∈ F', b ∈ F ∨ hsz w ≤ b) → R (.tuple #[.int .u64 e.2, .int .u64 e.1, .bool true]) w') :
    CALL PR F_tumbrelref07_Heap_Take [.pointer (some ⟨rb, 0, none⟩), .int .u64 now] w R := by
  refine C_tumbrelref07_Heap_Take ?_
  unfold M_tumbrelref07_Heap_Take
  refine ref_First h (fun h0 => ?_) fun e r hS => ?_
  · refine BND_step rfl <| BND_step rfl <| BND_step rfl <| BND_step (unv_not _) <| BND_step rfl <| BND_step rfl <| BND_step rfl <| BND_step rfl <| (COND_true _ _).2 ?_
    exact hno w (.inl h0) h (Fr.refl _ _)
  · have hO : RefOwn w.drew rb S F := h.fr (Fr.drew [] w) (by simp)
    by_cases hlt : now < e.1
    · have hd : decide (now < e.1) = true := by simpa using hlt
      refine BND_step (v := .int .u64 e.2) rfl <| BND_step (v := .int .u64 e.1) rfl <| BND_step (v := .bool true) rfl <| BND_step (unv_not _) <| BND_step (v := .int .u64 e.1) rfl <| BND_step (v := .int .u64 now) rfl <| BND_step (v := .bool true) (by rw [show isB (.bool !true) false = true from rfl, grd_true, binv_gtr, hd]) <| BND_step rfl <| (COND_true _ _).2 ?_
      exact hno _ (.inr ⟨e, r, hS, hlt⟩) hO (Fr.drew _ _)
    · have hd : decide (now < e.1) = false := by simpa using hlt
      refine BND_step (v := .int .u64 e.2) rfl <| BND_step (v := .int .u64 e.1) rfl <| BND_step (v := .bool true) rfl <| BND_step (unv_not _) <| BND_step (v := .int .u64 e.1) rfl <| BND_step (v := .int .u64 now) rfl <| BND_step (v := .bool false) (by rw [show isB (.bool !true) false = true from rfl, grd_true, binv_gtr, hd]) <| BND_step rfl <| (COND_false _ _).2 ?_
      refine ref_Drop hO hids hn e.2 (fun hni => absurd (by rw [hS]; simp) hni) fun _ w' F' h1 h2 h3 => ?_
      have hr : remS S e.2 = r := by rw [hS]; exact remS_head (hS ▸ hids)
      rw [hr] at h1
      exact hyes e r hS (by omega) w' F' h1 ((Fr.drew _ _).trans' h2) h3

theorem ref_Move {w : World} {rb : Nat} {S : List E} {F : List Nat} (h : RefOwn w rb S F) (hids : (S.map (·.2)).Nodup) (hn : S.length < 1000000000) (id t : Int) {R : Value → World → Prop}
    (hno : id ∉ S.map (·.2) → R (.bool false) w)
    (hyes : id ∈ S.map (·.2) → ∀ w' F', RefOwn w' rb (insS (remS S id) (t, id)) F' → Fr F w w' → (∀ b ∈ F', b ∈ F ∨ hsz w ≤ b) → R (.bool true) w') :
    CALL PR F_tumbrelref07_Heap_Move [.pointer (some ⟨rb, 0, none⟩), .int .u64 id, .int .u64 t] w R := by
  refine C_tumbrelref07_Heap_Move ?_
  unfold M_tumbrelref07_Heap_Move
  refine ref_Drop h hids hn id (fun hni => ?_) (fun hin w1 F1 h1 f1 sub1 => ?_)
  · exact BND_step (unv_not _) <| (COND_true _ _).2 (hno hni)
  · refine BND_step (unv_not _) <| (COND_false _ _).2 ?_
    have hle : (remS S id).length ≤ S.length := List.length_filter_le _ _
    refine ref_Put h1 (by omega) id t (fun hc => absurd hc (remS_notin S id)) fun _ w2 F2 h2 f2 sub2 => ?_
    refine hyes hin w2 F2 h2 (f1.trans f2 sub1) fun b hb => ?_
    rcases sub2 b hb with h | h
    · exact sub1 b h
    · exact .inr (Nat.le_trans f1.grow h)

end Go.Proofs.Ytmjiohgdoienmaa
