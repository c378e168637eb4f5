/- The document's answer for label (Right, Fold, Less): the same. No condition but sizes. -/
import Derived.Test.YthcbcolnahbihaaLbWalk
import Derived.Test.YthcbcolnahbihaaMa
namespace Go.Proofs.Ythcbcolnahbihaa
open Go.Den Go.RowKit

theorem str_eql (a b : ByteArray) : binv .str .eql (.string a) (.string b) = some (.bool (a.toList == b.toList)) := rfl
theorem str_neq (a b : ByteArray) : binv .str .neq (.string a) (.string b) = some (.bool !(a.toList == b.toList)) := rfl
theorem str_same (a : ByteArray) : binv .str .eql (.string a) (.string a) = some (.bool true) := by rw [str_eql, beq_self_eq_true]
theorem str_nsame (a : ByteArray) : binv .str .neq (.string a) (.string a) = some (.bool false) := by rw [str_neq, beq_self_eq_true]; rfl

/-- a guarded chain: a bound below, and a bound above that is asked only if the one below holds. -/
theorem rf_between {w : World} {u : Value} {x : List Int} {b i : Nat} {c lo hi : Int} (hu : Slc encI 1 w u x [b]) (hx : x[i]? = some c) {K : Value → Prop}
    (hK : K (.bool (decide (lo ≤ c) && decide (c ≤ hi)))) :
    BND (iaddr 1 u (.int .i64 (i : Int))) fun t18 => BND (load1 w t18) fun t19 => BND (binv .int .geq t19 (.int .i32 lo)) fun t20 =>
    BND (grd (isB t20 true) (some u)) fun t22 => BND (grd (isB t20 true) (some (.int .i64 (i : Int)))) fun t23 => BND (grd (isB t20 true) (iaddr 1 t22 t23)) fun t24 => BND (grd (isB t20 true) (load1 w t24)) fun t25 =>
    BND (grd (isB t20 true) (binv .int .leq t25 (.int .i32 hi))) fun t26 => BND (pickv t20 t26 (.bool false)) K := by
  have hlt := (List.getElem?_eq_some_iff.1 hx).1
  obtain ⟨b', hb, ei⟩ := hu.iaddr hlt .i64
  obtain rfl : b = b' := by simpa using hb
  refine BND_step ei <| BND_step (hu.load1 (j := 0) hx (by omega)) <| BND_step (binv_geq _ _ _ _) ?_
  by_cases h : lo ≤ c
  · simp only [h, decide_true, isB_tt, grd_true]
    refine BND_step rfl <| BND_step rfl <| BND_step ei <| BND_step (hu.load1 (j := 0) hx (by omega)) <| BND_step (binv_leq _ _ _ _) <| BND_step (pickv_true _ _) ?_
    simpa [h] using hK
  · simp only [h, decide_false, isB_ft, grd_false, BND_some, pickv_false]
    simpa [h] using hK

theorem rf_Right {s : ByteArray} (hs : s.size < 1000000) {w : World} {R : Value → World → Prop} (hR : ∀ w', Fr [] w w' → R (.bool (rightB s.data.toList)) w') : CALL PR F_tumbrelref03_Right [.string s] w R := by
  have hl := runesB_len s.data.toList
  rw [list_len] at hl
  refine C_tumbrelref03_Right ?_
  unfold M_tumbrelref03_Right
  refine RUNES_step (by omega) fun u w1 h1 f1 => ?_
  refine ⟨fun t w' => ∃ i : Nat, t = .int .i64 i ∧ w' = w1 ∧ i ≤ (runesB s.data.toList).length ∧ ∀ k r, k < i → (runesB s.data.toList)[k]? = some r → letterZ r = true, fun t _ => match t with | .int _ n => (runesB s.data.toList).length - n.toNat | _ => 0,
    ⟨0, rfl, rfl, by omega, fun k r hk => by omega⟩, ?_⟩
  rintro _ _ w2 ⟨i, rfl, rfl, hi, hb⟩
  refine BND_step h1.len <| BND_step (binv_lss _ _ _ _) ?_
  by_cases hlt : i < (runesB s.data.toList).length
  · refine COND_dec_true (by omega) ?_
    have hx := List.getElem?_eq_getElem hlt
    generalize (runesB s.data.toList)[i] = c at hx
    refine rf_between h1 hx <| rf_between h1 hx <| rf_between h1 hx ?_
    have hl2 : letterZ c = (decide (97 ≤ c) && decide (c ≤ 122) || decide (48 ≤ c) && decide (c ≤ 57) || decide (945 ≤ c) && decide (c ≤ 969)) := rfl
    generalize (decide (97 ≤ c) && decide (c ≤ 122)) = p1 at hl2 ⊢
    generalize (decide (48 ≤ c) && decide (c ≤ 57)) = p2 at hl2 ⊢
    generalize (decide (945 ≤ c) && decide (c ≤ 969)) = p3 at hl2 ⊢
    have hend : COND (.bool !(letterZ c)) (R (.bool false) w2) (BND (binv .int .add (.int .i64 (i : Int)) (.int .i64 1)) fun t15_96 =>
        ((∃ i : Nat, t15_96 = .int .i64 i ∧ w2 = w2 ∧ i ≤ (runesB s.data.toList).length ∧ ∀ k r, k < i → (runesB s.data.toList)[k]? = some r → letterZ r = true) ∧
          (match t15_96 with | .int _ n => (runesB s.data.toList).length - n.toNat | _ => 0) < (runesB s.data.toList).length - (i : Int).toNat)) := by
      cases hc : letterZ c with
      | false =>
        refine (COND_true _ _).2 ?_
        have : rightB s.data.toList = false := by
          unfold rightB
          have : (runesB s.data.toList).all letterZ = false := by
            rw [List.all_eq_false]
            exact ⟨c, List.mem_of_getElem? hx, by simp [hc]⟩
          simp [this]
        rw [← this]
        exact hR _ f1
      | true =>
        refine (COND_false _ _).2 <| BND_step (add1 (by omega)) ⟨⟨i + 1, rfl, rfl, by omega, fun k r' hk hr' => ?_⟩, by simp; omega⟩
        by_cases hij : k = i
        · subst hij; rw [hx] at hr'; cases hr'; exact hc
        · exact hb k r' (by omega) hr'
    rw [hl2] at hend
    cases p1 <;> cases p2 <;> cases p3 <;> simp only [unv_not, BND_some, Bool.not_true, Bool.not_false, Bool.or_true, Bool.or_false, isB_tt, isB_ft, grd_true, grd_false, pickv_true, pickv_false] at hend ⊢ <;> exact hend
  · refine COND_dec_false (by omega) <| BND_step h1.len <| BND_step (binv_geq _ _ _ _) ?_
    have hall : (runesB s.data.toList).all letterZ = true := by
      rw [List.all_eq_true]
      intro r hr
      obtain ⟨k, hk, rfl⟩ := List.getElem_of_mem hr
      exact hb k _ (by omega) (List.getElem?_eq_getElem hk)
    have hR2 := hR w2 f1
    unfold rightB at hR2
    rw [hall, Bool.true_and] at hR2
    by_cases hge : (1 : Int) ≤ ((runesB s.data.toList).length : Int)
    · simp only [hge, decide_true, isB_tt, grd_true, BND_some, h1.len, binv_leq, pickv_true, Bool.true_and] at hR2 ⊢
      exact hR2
    · simp only [hge, decide_false, isB_ft, grd_false, BND_some, pickv_false, Bool.false_and] at hR2 ⊢
      exact hR2

theorem rf_Less {a b : ByteArray} (ha : a.size < 1000000) (hb : b.size < 1000000) {w : World} {R : Value → World → Prop} (hR : ∀ w', Fr [] w w' → R (.bool (lessZ (runesB a.data.toList) (runesB b.data.toList))) w') :
    CALL PR F_tumbrelref03_Less [.string a, .string b] w R := by
  have hl := runesB_len a.data.toList
  rw [list_len] at hl
  refine C_tumbrelref03_Less ?_
  unfold M_tumbrelref03_Less
  refine RUNES_step (by omega) fun u w1 h1 f1 => RUNES_step (by omega) fun v w2 h2 f2 => ?_
  have h1' := h1.fr f2 (by simp)
  have f12 := f1.trans' f2
  generalize runesB a.data.toList = x at *
  generalize runesB b.data.toList = y at *
  refine ⟨fun t w' => ∃ i : Nat, t = .int .i64 i ∧ Fr [] w2 w' ∧ i ≤ x.length ∧ i ≤ y.length ∧ lessZ x y = lessZ (x.drop i) (y.drop i), fun t _ => match t with | .int _ n => x.length - n.toNat | _ => 0,
    ⟨0, rfl, Fr.refl _ _, by omega, by omega, rfl⟩, ?_⟩
  rintro _ _ w3 ⟨i, rfl, f3, hix, hiy, hc⟩
  have g1 := h1'.fr f3 (by simp)
  have g2 := h2.fr f3 (by simp)
  refine BND_step g1.len <| BND_step (binv_lss _ _ _ _) ?_
  by_cases hlt : i < x.length
  · have e : decide ((i : Int) < (x.length : Int)) = true := by simpa using hlt
    rw [e]
    simp only [isB_tt, grd_true]
    refine BND_step rfl <| BND_step rfl <| BND_step g2.len <| BND_step (binv_lss _ _ _ _) <| BND_step (pickv_true _ _) ?_
    have hxi := List.getElem?_eq_getElem hlt
    by_cases hly : i < y.length
    · refine COND_dec_true (by omega) ?_
      have hyi := List.getElem?_eq_getElem hly
      rw [drop_cons hxi, drop_cons hyi] at hc
      generalize x[i] = p at hxi hc
      generalize y[i] = q at hyi hc
      obtain ⟨b1, e1, ei⟩ := g1.iaddr hlt .i64
      obtain ⟨b2, e2, ej⟩ := g2.iaddr hly .i64
      have k1 : Slc encI 1 w3.drew u x [b1] := e1 ▸ g1.fr (Fr.drew [] w3) (by simp)
      have k2 : Slc encI 1 w3.drew v y [b2] := e2 ▸ g2.fr (Fr.drew [] w3) (by simp)
      refine BND_step ei <| BND_step ej <| BND_step (k1.load1 (j := 0) hxi (by omega)) <| BND_step (k2.load1 (j := 0) hyi (by omega)) <| BND_step (binv_neq _ _ _ _) ?_
      have e0 : lessZ (p :: x.drop (i + 1)) (q :: y.drop (i + 1)) = if p = q then lessZ (x.drop (i + 1)) (y.drop (i + 1)) else decide (p < q) := rfl
      rw [e0] at hc
      by_cases hpq : p = q
      · simp only [hpq, decide_true, Bool.not_true, COND_false]
        rw [if_pos hpq] at hc
        exact BND_step (add1 (by omega)) ⟨⟨i + 1, rfl, f3.trans' (Fr.drew [] _), hlt, hly, hc⟩, by simp; omega⟩
      · simp only [hpq, decide_false, Bool.not_false, COND_true]
        rw [if_neg hpq] at hc
        have k1' := k1.fr (Fr.drew [] w3.drew) (by simp)
        have k2' := k2.fr (Fr.drew [] w3.drew) (by simp)
        refine BND_step ei <| BND_step ej <| BND_step (k1'.load1 (j := 0) hxi (by omega)) <| BND_step (k2'.load1 (j := 0) hyi (by omega)) <| BND_step (binv_lss _ _ _ _) ?_
        rw [← hc]
        exact hR _ (f12.trans' <| f3.trans' <| (Fr.drew [] _).trans' (Fr.drew [] _))
    · refine COND_dec_false (by omega) <| BND_step g1.len <| BND_step g2.len <| BND_step (binv_lss _ _ _ _) ?_
      rw [drop_cons hxi, List.drop_of_length_le (by omega : y.length ≤ i)] at hc
      have e2 : decide ((x.length : Int) < (y.length : Int)) = lessZ x y := by
        rw [hc]; simp [lessZ]; omega
      rw [e2]
      exact hR _ (f12.trans' f3)
  · have e : decide ((i : Int) < (x.length : Int)) = false := by simpa using hlt
    rw [e]
    simp only [isB_ft, grd_false, BND_some, pickv_false, COND_false]
    refine BND_step g1.len <| BND_step g2.len <| BND_step (binv_lss _ _ _ _) ?_
    rw [List.drop_of_length_le (by omega : x.length ≤ i)] at hc
    have e2 : decide ((x.length : Int) < (y.length : Int)) = lessZ x y := by
      rw [hc]
      by_cases hly : i < y.length
      · rw [drop_cons (List.getElem?_eq_getElem hly)]; simp [lessZ]; omega
      · rw [List.drop_of_length_le (by omega : y.length ≤ i)]; simp [lessZ]; omega
    rw [e2]
    exact hR _ (f12.trans' f3)

theorem foldZ_else (c : Int) : foldZ c = if (decide (65 ≤ c) && decide (c ≤ 90)) || ((decide (913 ≤ c) && decide (c ≤ 937)) && !decide (c = 930)) then c + 32 else if c = 962 then 963 else c := by
  unfold foldZ
  simp only [Bool.or_eq_true, Bool.and_eq_true, decide_eq_true_eq, Bool.not_eq_true', decide_eq_false_iff_not]
  repeat' split
  all_goals omega

/-- the runes with the first i folded. -/
def foldTo (x : List Int) (i : Nat) : List Int := (x.take i).map foldZ ++ x.drop i
theorem foldTo_len (x : List Int) (i : Nat) : (foldTo x i).length = x.length := by simp [foldTo]; omega
theorem foldTo_at {x : List Int} {i : Nat} {c : Int} (h : x[i]? = some c) : (foldTo x i)[i]? = some c := by
  have hi := (List.getElem?_eq_some_iff.1 h).1
  unfold foldTo
  rw [List.getElem?_append_right (by simp; omega)]
  simp [Nat.min_eq_left (Nat.le_of_lt hi), h]
theorem foldTo_set {x : List Int} {i : Nat} {c : Int} (h : x[i]? = some c) : (foldTo x i).set i (foldZ c) = foldTo x (i + 1) := by
  have hi := (List.getElem?_eq_some_iff.1 h).1
  unfold foldTo
  rw [List.set_append_right _ _ (by simp; omega)]
  simp only [List.length_map, List.length_take, Nat.min_eq_left (Nat.le_of_lt hi), Nat.sub_self]
  rw [drop_cons h, List.set_cons_zero, List.take_add_one, h]
  simp
theorem foldTo_all {x : List Int} {i : Nat} (h : x.length ≤ i) : foldTo x i = x.map foldZ := by
  unfold foldTo
  rw [List.take_of_length_le h, List.drop_of_length_le h, List.append_nil]

theorem add32 (c : Int) (hc : Rune c) : binv .int .add (.int .i32 c) (.int .i32 32) = some (.int .i32 (c + 32)) := by
  rw [binv_add]
  have : IntKind.i32.wrap (c + 32) = c + 32 := by
    unfold Rune at hc
    simp only [IntKind.wrap, IntKind.bits, IntKind.signed]
    simp
    omega
  rw [this]
theorem rf_Fold {s : ByteArray} (hs : s.size < 1000000) {w : World} {R : Value → World → Prop} (hR : ∀ w', Fr [] w w' → R (.string (txt (foldB s.data.toList))) w') : CALL PR F_tumbrelref03_Fold [.string s] w R := by
  have hl := runesB_len s.data.toList
  rw [list_len] at hl
  have hval := runesB_valid s.data.toList
  refine C_tumbrelref03_Fold ?_
  unfold M_tumbrelref03_Fold
  refine RUNES_step (by omega) fun u w1 h1 f1 => ?_
  have hfin : txt (foldB s.data.toList) = textOfRunes ((runesB s.data.toList).map foldZ) := by
    rw [text_runes]
    · rfl
    · intro r hr
      obtain ⟨c, hc, rfl⟩ := List.mem_map.1 hr
      exact foldZ_rune (hval c hc)
  rw [hfin] at hR
  generalize runesB s.data.toList = x at *
  refine ⟨fun t w' => ∃ i : Nat, t = .int .i64 i ∧ Fr [hsz w] w1 w' ∧ i ≤ x.length ∧ Slc encI 1 w' u (foldTo x i) [hsz w], fun t _ => match t with | .int _ n => x.length - n.toNat | _ => 0,
    ⟨0, rfl, Fr.refl _ _, by omega, by simpa [foldTo] using h1⟩, ?_⟩
  rintro _ _ w2 ⟨i, rfl, f2, hix, h2⟩
  have f02 : Fr [] w w2 := f1.trans f2 (by simp)
  refine BND_step h2.len <| BND_step (binv_lss _ _ _ _) ?_
  rw [foldTo_len]
  by_cases hlt : i < x.length
  · refine COND_dec_true (by omega) ?_
    have hx := List.getElem?_eq_getElem hlt
    generalize x[i] = c at hx
    have hc := hval c (List.mem_of_getElem? hx)
    have h2x := foldTo_at hx
    obtain ⟨b', hb, ei⟩ := h2.iaddr (i := i) (by rw [foldTo_len]; exact hlt) .i64
    obtain rfl : hsz w = b' := by simpa using hb
    have ld := h2.load1 (j := 0) h2x (by omega)
    have ld' : load1 w2 (.pointer (some ⟨hsz w, i * 1, none⟩)) = some (.int .i32 c) := ld
    refine rf_between h2 h2x ?_
    have hf := foldZ_else c
    generalize (decide (65 ≤ c) && decide (c ≤ 90)) = p1 at hf ⊢
    -- the second bound
    have second : ∀ K : Value → Prop, K (.bool (p1 || ((decide (913 ≤ c) && decide (c ≤ 937)) && !decide (c = 930)))) →
      BND (grd (isB (.bool p1) false) (some u)) fun t26_70 => BND (grd (isB (.bool p1) false) (some (.int .i64 (i : Int)))) fun t27_71 => BND (grd (isB (.bool p1) false) (iaddr 1 t26_70 t27_71)) fun t28_72 =>
      BND (grd (isB (.bool p1) false) (load1 w2 t28_72)) fun t29_73 => BND (grd (isB (.bool p1) false) (binv .int .geq t29_73 (Value.int .i32 913))) fun t30_74 => BND (grd (isB (.bool p1) false) (some t30_74)) fun t31_75 =>
      BND (grd (isB t31_75 true) (some u)) fun t32_76 => BND (grd (isB t31_75 true) (some (.int .i64 (i : Int)))) fun t33_77 => BND (grd (isB t31_75 true) (iaddr 1 t32_76 t33_77)) fun t34_78 => BND (grd (isB t31_75 true) (load1 w2 t34_78)) fun t35_79 =>
      BND (grd (isB t31_75 true) (binv .int .leq t35_79 (Value.int .i32 937))) fun t36_80 => BND (grd (isB (.bool p1) false) (pickv t31_75 t36_80 (Value.bool false))) fun t37_81 => BND (grd (isB (.bool p1) false) (some t37_81)) fun t38_82 =>
      BND (grd (isB t38_82 true) (some u)) fun t39_83 => BND (grd (isB t38_82 true) (some (.int .i64 (i : Int)))) fun t40_84 => BND (grd (isB t38_82 true) (iaddr 1 t39_83 t40_84)) fun t41_85 => BND (grd (isB t38_82 true) (load1 w2 t41_85)) fun t42_86 =>
      BND (grd (isB t38_82 true) (binv .int .neq t42_86 (Value.int .i32 930))) fun t43_87 => BND (grd (isB (.bool p1) false) (pickv t38_82 t43_87 (Value.bool false))) fun t44_88 => BND (pickv (.bool p1) (Value.bool true) t44_88) K := by
      intro K hK
      cases p1 with
      | true =>
        simp only [isB_tf, grd_false, BND_some, isB_undef, pickv_true]
        simpa using hK
      | false =>
        simp only [isB_ff, grd_true]
        refine BND_step rfl <| BND_step rfl <| BND_step ei <| BND_step ld <| BND_step (binv_geq _ _ _ _) <| BND_step rfl ?_
        by_cases h3 : 913 ≤ c
        · simp only [h3, decide_true, isB_tt, grd_true]
          refine BND_step rfl <| BND_step rfl <| BND_step ei <| BND_step ld <| BND_step (binv_leq _ _ _ _) <| BND_step (pickv_true _ _) <| BND_step rfl ?_
          by_cases h4 : c ≤ 937
          · simp only [h4, decide_true, isB_tt, grd_true]
            refine BND_step rfl <| BND_step rfl <| BND_step ei <| BND_step ld <| BND_step (binv_neq _ _ _ _) <| BND_step (pickv_true _ _) <| BND_step (pickv_false _ _) ?_
            simpa [h3, h4] using hK
          · simp only [h4, decide_false, isB_ft, grd_false, BND_some, pickv_false]
            simpa [h3, h4] using hK
        · simp only [h3, decide_false, isB_ft, grd_false, BND_some, pickv_false]
          simpa [h3] using hK
    refine second _ ?_
    generalize (p1 || ((decide (913 ≤ c) && decide (c ≤ 937)) && !decide (c = 930))) = p2 at hf ⊢
    -- a write
    have wr : ∀ d : Int, d = foldZ c → ∃ w4, storev 1 w2 (.pointer (some ⟨hsz w, i * 1, none⟩)) (.int .i32 d) = some w4 ∧ Fr [hsz w] w1 w4 ∧ Slc encI 1 w4 u (foldTo x (i + 1)) [hsz w] := by
      rintro d rfl
      obtain ⟨w4, e4, s4, f4, _⟩ := h2.set1 (j := 0) (y := foldZ c) (u := .int .i32 (foldZ c)) h2x (by omega) (fun m hm => by
        have hm0 : m = 0 := by omega
        subst hm0
        rfl) rfl rfl
      rw [foldTo_set hx] at s4
      exact ⟨w4, e4, f2.trans' f4, s4⟩
    have go : ∀ w4, Fr [hsz w] w1 w4 → Slc encI 1 w4 u (foldTo x (i + 1)) [hsz w] → BND (binv .int .add (.int .i64 (i : Int)) (.int .i64 1)) fun t12_106 =>
        ((∃ i : Nat, t12_106 = .int .i64 i ∧ Fr [hsz w] w1 w4 ∧ i ≤ x.length ∧ Slc encI 1 w4 u (foldTo x i) [hsz w]) ∧
          (match t12_106 with | .int _ n => x.length - n.toNat | _ => 0) < x.length - (i : Int).toNat) := fun w4 f4 s4 =>
      BND_step (add1 (by omega)) ⟨⟨i + 1, rfl, f4, hlt, s4⟩, by simp; omega⟩
    cases p2 with
    | true =>
      rw [if_pos rfl] at hf
      obtain ⟨w4, e4, f4, s4⟩ := wr _ hf.symm
      have hadd := add32 c hc
      exact (COND_true _ _).2 <| BND_step ei <| BND_step ld' <| BND_step hadd <| BND_step ei <| BND_step e4 (go w4 f4 s4)
    | false =>
      rw [if_neg (by simp)] at hf
      refine (COND_false _ _).2 <| BND_step ei <| BND_step ld' <| BND_step (binv_eql _ _ _ _) ?_
      by_cases h9 : c = 962
      · rw [if_pos h9] at hf
        obtain ⟨w4, e4, f4, s4⟩ := wr _ hf.symm
        exact COND_dec_true h9 <| BND_step ei <| BND_step e4 (go w4 f4 s4)
      · rw [if_neg h9] at hf
        refine COND_dec_false h9 (go w2 f2 ?_)
        have e5 : foldTo x (i + 1) = foldTo x i := by
          rw [← foldTo_set hx, hf]
          apply List.ext_getElem?
          intro k
          rw [List.getElem?_set]
          split
          · rename_i hik
            subst hik
            rw [h2x, if_pos (by rw [foldTo_len]; exact hlt)]
          · rfl
        rw [e5]; exact h2
  · refine COND_dec_false (by omega) <| BND_step (textv_step h2) ?_
    rw [foldTo_all (by omega)]
    exact hR _ f02
end Go.Proofs.Ythcbcolnahbihaa
