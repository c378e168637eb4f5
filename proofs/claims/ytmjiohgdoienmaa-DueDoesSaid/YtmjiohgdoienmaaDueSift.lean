/- The walk of due.Heap's rise and sink: behind 'settle' the entries are a heap again. No condition. -/
import Derived.Test.YtmjiohgdoienmaaDuePlain
namespace Go.Proofs.Ytmjiohgdoienmaa
open Go.Den

theorem par_val {i : Nat} (h : 0 < i) (hi : i ≤ 1099511627776) : IntKind.i64.wrap ((IntKind.i64.wrap ((i : Int) - 1)).tdiv 2) = ((par i : Nat) : Int) := by
  rw [wrap_i64 (n := (i : Int) - 1) (by omega) (by omega)]
  have h1 : ((i : Int) - 1) = ((i - 1 : Nat) : Int) := by omega
  rw [h1]
  have h2 : ((i - 1 : Nat) : Int).tdiv 2 = ((par i : Nat) : Int) := by
    unfold par
    rw [show (2 : Int) = ((2 : Nat) : Int) from rfl, ← Int.ofNat_tdiv]
  rw [h2, wrap_i64 (by omega) (by unfold par; omega)]

theorem due_up {w : World} {hb : Nat} {l : List E} {F : List Nat} (h : DueI w hb l F) {i : Nat} (hi : i < l.length) (hn : l.length ≤ 1099511627776) (hu : UpInv l i) {R : Value → World → Prop}
    (hR : ∀ w' l' i', DueI w' hb l' F → Fr F w w' → l'.Perm l → i' < l'.length → DownInv l' i' → R (.int .i64 (i' : Nat)) w') :
    CALL PR F_due_tree_entry_up [.pointer (some ⟨hb, 0, none⟩), .int .i64 i, .func (.func F_due_Heap_ahead) #[.pointer (some ⟨hb, 0, none⟩)] #[]] w R := by
  refine C_due_tree_entry_up ?_
  unfold M_due_tree_entry_up
  refine ⟨fun v w1 => ∃ (i : Nat) (l' : List E), v = .int .i64 i ∧ i < l'.length ∧ DueI w1 hb l' F ∧ Fr F w w1 ∧ l'.Perm l ∧ UpInv l' i, fun v _ => match v with | .int _ n => n.toNat | _ => 0,
    ⟨i, l, rfl, hi, h, Fr.refl _ _, .refl _, hu⟩, ?_⟩
  rintro _ _ w1 ⟨i, l', rfl, hi, hI, hf, hp, hu⟩
  have hlen := hp.length_eq
  by_cases h0 : 0 < i
  · have hpv := par_val h0 (by omega)
    have hpi : par i < i := by unfold par; omega
    obtain ⟨L, hD, hS⟩ := hI
    have hq : binv .int .quo (.int .i64 (IntKind.i64.wrap ((i : Int) - 1))) (.int .i64 2) = some (.int .i64 (par i : Nat)) := by rw [binv_quo _ _ _ _ (by omega), hpv]
    have hgt : decide ((0 : Int) < (i : Int)) = true := by simp; omega
    simp only [binv_gtr, hgt, BND_some, isB_tt, grd_true, binv_sub, hq, GEF_true]
    rw [CALLV_func okAhead]
    refine due_ahead hD hi (by omega) fun w2 hf2 => ?_
    have hD2 := hD.fr hf2 (by simp)
    have e1 : l'[i] = get l' i := by simp [get, List.getD_eq_getElem?_getD, hi]
    have e2 : l'[par i]'(by omega) = get l' (par i) := by simp [get, List.getD_eq_getElem?_getD, show par i < l'.length by omega]
    rw [e1, e2]
    simp only [pickv_true, BND_some]
    cases hlt : ltE (get l' i) (get l' (par i)) with
    | true =>
      simp only [COND_true]
      refine due_swapI ⟨L, hD2, hS⟩ hi (by omega) fun w3 hI3 hf3 => ?_
      refine ⟨⟨par i, _, rfl, by simp; omega, hI3, (hf.trans' hf2.nil).trans' hf3, (swap_perm l' hi (by omega)).trans hp, hu.step h0 hi hlt⟩, by simpa using hpi⟩
    | false =>
      simp only [COND_false]
      exact hR w2 l' i ⟨L, hD2, hS⟩ (hf.trans' hf2.nil) hp hi (hu.stop fun _ => (leE_total _ _).elim id fun h => by
        by_cases e : get l' i = get l' (par i)
        · rw [e]; exact leE_refl _
        · exact absurd (ltE_le.2 ⟨h, e⟩) (by rw [hlt]; simp))
  · have hi0 : i = 0 := by omega
    subst hi0
    have hgt : decide ((0 : Int) < ((0 : Nat) : Int)) = false := by simp
    simp only [binv_gtr, hgt, BND_some, isB_ft, grd_false, GEF_false, pickv_false, COND_false]
    exact hR w1 l' 0 hI hf hp hi (hu.stop fun h => by omega)

theorem leE_of_not {a b : E} (h : ltE a b = false) : leE b a := by
  rcases leE_total b a with h' | h'
  · exact h'
  · by_cases e : a = b
    · subst e; exact leE_refl _
    · rw [ltE_le.2 ⟨h', e⟩] at h; cases h

theorem due_sink {w : World} {hb : Nat} {l : List E} {F : List Nat} (h : DueI w hb l F) {i : Nat} (hi : i < l.length) (hn : l.length ≤ 1099511627776) (hu : DownInv l i) {R : Value → World → Prop}
    (hR : ∀ w' l', DueI w' hb l' F → Fr F w w' → l'.Perm l → IsHeap l' → R (.tuple #[]) w') :
    CALL PR F_due_tree_entry_sink [.pointer (some ⟨hb, 0, none⟩), .int .i64 i, .func (.func F_due_Heap_ahead) #[.pointer (some ⟨hb, 0, none⟩)] #[]] w R := by
  refine C_due_tree_entry_sink ?_
  unfold M_due_tree_entry_sink
  refine ⟨fun v w1 => ∃ (i : Nat) (l' : List E), v = .int .i64 i ∧ i < l'.length ∧ DueI w1 hb l' F ∧ Fr F w w1 ∧ l'.Perm l ∧ DownInv l' i, fun v _ => match v with | .int _ n => l.length - n.toNat | _ => 0,
    ⟨i, l, rfl, hi, h, Fr.refl _ _, .refl _, hu⟩, ?_⟩
  rintro _ _ w1 ⟨i, l', rfl, hi, hI, hf, hp, hu⟩
  have hlen := hp.length_eq
  have e1 : IntKind.i64.wrap (2 * (i : Int)) = ((2 * i : Nat) : Int) := by rw [wrap_i64 (by omega) (by omega)]; omega
  have e2 : IntKind.i64.wrap (((2 * i : Nat) : Int) + 1) = ((2 * i + 1 : Nat) : Int) := by rw [wrap_i64 (by omega) (by omega)]; omega
  have e3 : IntKind.i64.wrap (((2 * i + 1 : Nat) : Int) + 1) = ((2 * i + 2 : Nat) : Int) := by rw [wrap_i64 (by omega) (by omega)]; omega
  -- what is read of the slice's length, in any world where the heap stands
  have hlenOf : ∀ w2 (L : List (Int × Value)), DueR w2 hb l' L F → ∃ sv, load1 w2 (.pointer (some ⟨hb, 0, none⟩)) = some sv ∧ lenl sv = some (.int .i64 l'.length) := by
    rintro w2 L ⟨sv, mb, es, ck, T, Fa, h1, h2, h3, h4, h5, h6⟩
    exact ⟨sv, by rw [load1_blk h1]; rfl, h4.len⟩
  have ge : ∀ (k : Nat) (hk : k < l'.length), l'[k] = get l' k := fun k hk => by simp [get, List.getD_eq_getElem?_getD, hk]
  obtain ⟨L, hD, hS⟩ := hI
  obtain ⟨sv, hsv, hln⟩ := hlenOf w1 L hD
  refine BND_step (by rw [binv_mul, e1]) <| BND_step (by rw [binv_add, e2]) <| BND_step (by rw [binv_add, e3]) <| BND_step (nilchk_ptr _) <| BND_step (faddr_ptr _ _ _) <|
    BND_step hsv <| BND_step hln <| BND_step (binv_lss _ _ _ _) ?_
  -- behind the choice of the child
  have rest : ∀ (k : Nat) (w3 : World), DueR w3 hb l' L F → Fr F w w3 → (2 * i + 1 ≤ k) → (k ≤ 2 * i + 2) → (k < l'.length ∨ l'.length ≤ 2 * i + 1) →
      (∀ j, 0 < j → j < l'.length → par j = i → k < l'.length → leE (get l' k) (get l' j)) →
      (BND (nilchk (Value.pointer (some ⟨hb, 0, none⟩))) fun t29_60 =>
        BND (faddr 0 t29_60) fun t30_61 =>
        BND (load1 w3 t30_61) fun t31_62 =>
        BND (lenl t31_62) fun t32_63 =>
        BND (binv .int .geq (Value.int .i64 (k : Nat)) t32_63) fun t33_64 =>
        BND (grd (isB t33_64 false) (some (Value.func (.func F_due_Heap_ahead) #[.pointer (some ⟨hb, 0, none⟩)] #[]))) fun t35_65 =>
        BND (grd (isB t33_64 false) (some (Value.int .i64 (k : Nat)))) fun t36_66 =>
        BND (grd (isB t33_64 false) (some (Value.int .i64 (i : Nat)))) fun t37_67 =>
        GEF (isB t33_64 false) (fun k_ => CALLV PR t35_65 [t36_66, t37_67] w3 k_) w3 fun t38_68 w4 =>
        BND (grd (isB t33_64 false) (unv .not t38_68)) fun t39_69 =>
        BND (pickv t33_64 (Value.bool true) t39_69) fun t40_70 =>
        COND t40_70
        (R (.tuple #[]) w4)
        (CALL PR F_due_tree_entry_swap [Value.pointer (some ⟨hb, 0, none⟩), Value.int .i64 (i : Nat), Value.int .i64 (k : Nat)] w4 fun _ w5 =>
        ((∃ (i : Nat) (l' : List E), Value.int .i64 (k : Nat) = .int .i64 i ∧ i < l'.length ∧ DueI w5 hb l' F ∧ Fr F w w5 ∧ l'.Perm l ∧ DownInv l' i) ∧
          (l.length - ((k : Nat) : Int).toNat) < (l.length - ((i : Nat) : Int).toNat)))) := by
    intro k w3 hD3 hf3 hk1 hk2 hk3 hmin
    obtain ⟨sv3, hsv3, hln3⟩ := hlenOf w3 L hD3
    simp only [nilchk_ptr, BND_some, faddr_ptr, Nat.zero_add, hsv3, hln3, binv_geq]
    by_cases hkn : k < l'.length
    · have hge : decide ((l'.length : Int) ≤ (k : Int)) = false := by simp; omega
      simp only [hge, isB_ff, grd_true, BND_some, GEF_true]
      rw [CALLV_func okAhead]
      refine due_ahead hD3 hkn hi fun w4 hf4 => ?_
      have hD4 := hD3.fr hf4 (by simp)
      rw [ge k hkn, ge i hi]
      have hpk : par k = i := by unfold par; omega
      cases hlt : ltE (get l' k) (get l' i) with
      | true =>
        simp only [unv_not, BND_some, Bool.not_true, pickv_false, COND_false]
        refine due_swapI ⟨L, hD4, hS⟩ hi hkn fun w5 hI5 hf5 => ?_
        refine ⟨⟨k, _, rfl, by simpa using hkn, hI5, (hf3.trans' hf4.nil).trans' hf5, (swap_perm l' hi hkn).trans hp, hu.step hi hkn (by omega) hpk (fun j j0 j1 j2 => hmin j j0 j1 j2 hkn) hlt⟩, by simp; omega⟩
      | false =>
        simp only [unv_not, BND_some, Bool.not_false, pickv_false, COND_true]
        exact hR w4 l' ⟨L, hD4, hS⟩ (hf3.trans' hf4.nil) hp (hu.stop fun j j0 j1 j2 => leE_trans (leE_of_not hlt) (hmin j j0 j1 j2 hkn))
    · have hge : decide ((l'.length : Int) ≤ (k : Int)) = true := by simp; omega
      simp only [hge, isB_tf, grd_false, BND_some, GEF_false, pickv_true, COND_true]
      exact hR w3 l' ⟨L, hD3, hS⟩ hf3 hp (hu.stop fun j j0 j1 j2 => by unfold par at j2; omega)
  by_cases h2 : 2 * i + 2 < l'.length
  · have hlt2 : decide (((2 * i + 2 : Nat) : Int) < (l'.length : Int)) = true := by simp; omega
    rw [hlt2]
    refine BND_step rfl <| BND_step rfl <| BND_step (v := .int .i64 (2 * i + 2 : Nat)) (by rw [isB_tt, grd_true, binv_add, e3]) <| BND_step rfl <| (GEF_true _ _ _).2 ?_
    rw [CALLV_func okAhead]
    refine due_ahead hD h2 (show 2 * i + 1 < l'.length by omega) fun w2 hf2 => ?_
    have hD2 := hD.fr hf2 (by simp)
    rw [ge _ h2, ge (2 * i + 1) (by omega)]
    refine BND_step rfl ?_
    unfold JOIN
    cases hlt : ltE (get l' (2 * i + 2)) (get l' (2 * i + 1)) with
    | true =>
      refine (COND_true _ _).2 (BND_step (by rw [binv_add, e3]) ?_)
      exact rest (2 * i + 2) w2 hD2 (hf.trans' hf2.nil) (by omega) (by omega) (.inl h2) fun j j0 j1 j2 _ => by
        have : j = 2 * i + 1 ∨ j = 2 * i + 2 := by unfold par at j2; omega
        rcases this with rfl | rfl
        · exact leE_of_lt hlt
        · exact leE_refl _
    | false =>
      refine (COND_false _ _).2 ?_
      exact rest (2 * i + 1) w2 hD2 (hf.trans' hf2.nil) (by omega) (by omega) (.inl (by omega)) fun j j0 j1 j2 _ => by
        have : j = 2 * i + 1 ∨ j = 2 * i + 2 := by unfold par at j2; omega
        rcases this with rfl | rfl
        · exact leE_refl _
        · exact leE_of_not hlt
  · have hlt2 : decide (((2 * i + 2 : Nat) : Int) < (l'.length : Int)) = false := by simp; omega
    rw [hlt2]
    refine BND_step rfl <| BND_step rfl <| BND_step rfl <| BND_step rfl <| (GEF_false _ _ _).2 <| BND_step rfl ?_
    unfold JOIN
    refine (COND_false _ _).2 ?_
    exact rest (2 * i + 1) w1 hD hf (by omega) (by omega) (by omega) fun j j0 j1 j2 _ => by
      have : j = 2 * i + 1 := by unfold par at j2; omega
      subst this; exact leE_refl _

theorem due_settle {w : World} {hb : Nat} {l : List E} {F : List Nat} (h : DueI w hb l F) {i : Nat} (hi : i < l.length) (hn : l.length ≤ 1099511627776) (hu : UpInv l i) {R : Value → World → Prop}
    (hR : ∀ w' l', DueI w' hb l' F → Fr F w w' → l'.Perm l → IsHeap l' → R (.tuple #[]) w') : CALL PR F_due_Heap_settle [.pointer (some ⟨hb, 0, none⟩), .int .i64 i] w R := by
  refine C_due_Heap_settle ?_
  unfold M_due_Heap_settle
  simp only [nilchk_ptr, BND_some, faddr_ptr, Nat.zero_add]
  refine due_up (h.fr (Fr.drew [] w) (by simp)) hi hn hu fun w1 l1 i1 hI1 hf1 hp1 hi1 hd1 => ?_
  refine due_sink hI1 hi1 (by rw [hp1.length_eq]; exact hn) hd1 fun w2 l2 hI2 hf2 hp2 hh => ?_
  exact hR w2 l2 hI2 (((Fr.drew F w).trans' hf1).trans' hf2) (hp2.trans hp1) hh

end Go.Proofs.Ytmjiohgdoienmaa
