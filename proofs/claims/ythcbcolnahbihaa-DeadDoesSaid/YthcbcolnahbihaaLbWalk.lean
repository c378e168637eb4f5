/- label's functions (Right, Fold, Less): what they answer. No condition but sizes. -/
import Derived.Test.YthcbcolnahbihaaLib3
import Derived.Test.YthcbcolnahbihaaLabelBld
import Derived.Test.YthcbcolnahbihaaMa
namespace Go.Proofs.Ythcbcolnahbihaa
open Go.Den Go.RowKit

theorem lb_letter (c : Int) {w : World} {R : Value → World → Prop} (hR : R (.bool (letterZ c)) w) : CALL PR F_label_letter [.int .i32 c] w R := by
  refine C_label_letter ?_
  unfold M_label_letter
  unfold letterZ at hR
  simp only [binv_geq, BND_some]
  have fin : ∀ b : Bool, b = (decide (945 ≤ c) && decide (c ≤ 969)) → (∀ x : Bool, x = b → R (.bool x) w) →
      BND (binv .int .geq (.int .i32 c) (.int .i32 945)) fun t20 => BND (grd (isB t20 true) (some (.int .i32 c))) fun t21 => BND (grd (isB t20 true) (binv .int .leq t21 (.int .i32 969))) fun t22 => BND (pickv t20 t22 (.bool false)) fun t => R t w := by
    intro b hb hk
    simp only [binv_geq, BND_some]
    by_cases h : 945 ≤ c
    · simp only [h, decide_true, isB_tt, grd_true, BND_some, binv_leq, pickv_true]
      exact hk _ (by rw [hb]; simp [h])
    · simp only [h, decide_false, isB_ft, grd_false, BND_some, pickv_false]
      exact hk _ (by rw [hb]; simp [h])
  by_cases h1 : 97 ≤ c
  · by_cases h2 : c ≤ 122
    · simp only [h1, h2, decide_true, isB_tt, isB_tf, grd_true, grd_false, BND_some, binv_leq, pickv_true] at hR ⊢
      simpa using hR
    · have h3 : ¬ c ≤ 57 := by omega
      have h4 : 48 ≤ c := by omega
      by_cases h5 : 945 ≤ c <;> by_cases h6 : c ≤ 969 <;>
        simp only [h1, h2, h3, h4, h5, h6, decide_true, decide_false, isB_tt, isB_ft, isB_ff, grd_true, grd_false, BND_some, binv_leq, binv_geq, pickv_true, pickv_false] at hR ⊢ <;> simpa using hR
  · by_cases h4 : 48 ≤ c <;> by_cases h3 : c ≤ 57 <;> by_cases h5 : 945 ≤ c <;> by_cases h6 : c ≤ 969 <;>
        simp only [h1, h3, h4, h5, h6, decide_true, decide_false, isB_tt, isB_tf, isB_ft, isB_ff, grd_true, grd_false, BND_some, binv_leq, binv_geq, pickv_true, pickv_false] at hR ⊢ <;> simpa using hR

theorem add1 {n : Nat} (h : n < 1000000000000) : binv .int .add (.int .i64 (n : Int)) (.int .i64 1) = some (.int .i64 ((n + 1 : Nat) : Int)) := by
  rw [binv_add, wrap_i64 (by omega) (by omega)]; rfl

theorem lb_right {s : ByteArray} (hs : s.size < 1000000) {w : World} {R : Value → World → Prop} (hR : ∀ w', Fr [] w w' → R (.bool (rightB s.data.toList)) w') : CALL PR F_label_Right [.string s] w R := by
  have hl := runesB_len s.data.toList
  rw [list_len] at hl
  refine C_label_Right ?_
  unfold M_label_Right
  refine range_step fun w1 h1 f1 hz1 => (NEW_pair _ _ _).2 ?_
  refine ⟨fun u w' => ∃ j : Nat, u = .int .i64 j ∧ It w' (hsz w) s j ∧ Fr [] w w' ∧ j ≤ (runesB s.data.toList).length ∧ ∀ i r, i < j → (runesB s.data.toList)[i]? = some r → letterZ r = true, fun _ w' => toGo 0 (hsz w) w',
    ⟨0, rfl, h1, f1, by omega, fun i r hi => by omega⟩, ?_⟩
  rintro _ _ w2 ⟨j, rfl, h2, f2, hj, hb⟩
  refine next_step h2 (fun r hr hp h3 => (NEW_pair _ _ _).2 ?_) (fun he _ => (NEW_pair _ _ _).2 ?_)
  · have f3 : Fr [] w (setB w2 (hsz w) (.stringIter s (cutAt (j + 1) s.data.toList))) := f2.trans (Fr.setB (F := [hsz w]) (.inl (by simp)) _) (by simp)
    refine BND_step (extractv_tuple _ _) <| (COND_true _ _).2 <| BND_step (extractv_tuple _ _) <| lb_letter r ?_
    refine BND_step (unv_not _) ?_
    have hjl := (List.getElem?_eq_some_iff.1 hr).1
    cases hc : letterZ r with
    | false =>
      refine (COND_true _ _).2 ?_
      have : rightB s.data.toList = false := by
        unfold rightB
        have : (runesB s.data.toList).all letterZ = false := by
          rw [List.all_eq_false]
          exact ⟨r, List.mem_of_getElem? hr, by simp [hc]⟩
        simp [this]
      rw [← this]
      exact hR _ f3
    | true =>
      refine (COND_false _ _).2 <| BND_step (add1 (by omega)) ⟨⟨j + 1, rfl, h3, f3, by omega, fun i r' hi hr' => ?_⟩, h2.less h3 hp⟩
      by_cases hij : i = j
      · subst hij; rw [hr] at hr'; cases hr'; exact hc
      · exact hb i r' (by omega) hr'
  · have hall : (runesB s.data.toList).all letterZ = true := by
      rw [List.all_eq_true]
      intro r hr
      obtain ⟨i, hi, rfl⟩ := List.getElem_of_mem hr
      exact hb i _ (by omega) (List.getElem?_eq_getElem hi)
    have hjj : j = (runesB s.data.toList).length := by omega
    have hres : rightB s.data.toList = (decide (1 ≤ (j : Int)) && decide ((j : Int) ≤ 8)) := by
      unfold rightB; rw [hall, hjj]; rfl
    refine BND_step (extractv_tuple _ _) <| (COND_false _ _).2 <| BND_step (binv_geq _ _ _ _) ?_
    have hR2 := hR w2 f2
    rw [hres] at hR2
    by_cases h1 : (1 : Int) ≤ j
    · simp only [h1, decide_true, isB_tt, grd_true, BND_some, binv_leq, pickv_true]
      simpa [h1] using hR2
    · simp only [h1, decide_false, isB_ft, grd_false, BND_some, pickv_false]
      simpa [h1] using hR2

theorem lb_fold (c : Int) (hc : Rune c) {w : World} {R : Value → World → Prop} (hR : R (.int .i32 (foldZ c)) w) : CALL PR F_label_fold [.int .i32 c] w R := by
  refine C_label_fold ?_
  unfold M_label_fold
  unfold foldZ at hR
  have hadd : binv .int .add (.int .i32 c) (.int .i32 32) = some (.int .i32 (c + 32)) := by
    rw [binv_add]
    have : IntKind.i32.wrap (c + 32) = c + 32 := by
      unfold Rune at hc
      simp only [IntKind.wrap, IntKind.bits, IntKind.signed]
      simp
      omega
    rw [this]
  refine BND_step (binv_eql _ _ _ _) ?_
  by_cases h1 : c = 962
  · refine COND_dec_true h1 ?_
    rw [if_pos h1] at hR; exact hR
  refine COND_dec_false h1 <| BND_step (binv_eql _ _ _ _) ?_
  rw [if_neg h1] at hR
  by_cases h2 : c = 930
  · refine COND_dec_true h2 ?_
    rw [if_pos h2] at hR; exact hR
  refine COND_dec_false h2 <| BND_step (binv_geq _ _ _ _) ?_
  rw [if_neg h2] at hR
  by_cases h3 : 65 ≤ c <;> by_cases h4 : c ≤ 90 <;> by_cases h5 : 913 ≤ c <;> by_cases h6 : c ≤ 937 <;>
    simp only [h3, h4, h5, h6, decide_true, decide_false, isB_tt, isB_ft, grd_true, grd_false, BND_some, binv_leq, binv_geq, pickv_true, pickv_false, JOIN, COND_true, COND_false, hadd, and_self, and_true, and_false, or_true, or_false, if_true, if_false] at hR ⊢ <;> first | exact hR | (exfalso; omega)

theorem fr_of_below {w w' : World} (h : Below w.heap.size w w') : Fr [] w w' := ⟨h.size, fun b hb _ => h.block b hb, h.os, h.tape, h.output⟩

theorem lb_Fold {s : ByteArray} (hs : s.size < 1000000) {w : World} {R : Value → World → Prop} (hR : ∀ w', Fr [] w w' → R (.string (txt (foldB s.data.toList))) w') : CALL PR F_label_Fold [.string s] w R := by
  have hl := runesB_len s.data.toList
  rw [list_len] at hl
  refine C_label_Fold ?_
  unfold M_label_Fold
  refine (NEW_newv _ _ _ _).2 ?_
  have hb0 : Bld w.heap.size w.heap.size [] (w.alloc (.cells (Value.agg #[.pointer none, .slice none 0 0]).cells 87)) := Lib.IsBuilderF.of (Lib.fresh_isBuilder 87 5 w)
  have bl0 : Below w.heap.size w (w.alloc (.cells (Value.agg #[.pointer none, .slice none 0 0]).cells 87)) := (Below.refl _ w).alloc (Nat.le_refl _) _
  generalize hw1 : w.alloc (.cells (Value.agg #[.pointer none, .slice none 0 0]).cells 87) = w1 at hb0 bl0 ⊢
  have hz1 : hsz w1 = hsz w + 1 := by rw [← hw1]; simp
  have hnb : hsz w1 ≠ w.heap.size := by rw [hz1]; simp
  refine BND_step rfl <| (NEW_pair _ _ _).2 ?_
  refine ⟨fun w' => ∃ j : Nat, It w' (hsz w1) s j ∧ Below w.heap.size w w' ∧ Bld w.heap.size w.heap.size (Lib.byteCells (encAll (((runesB s.data.toList).take j).map foldZ))) w', fun w' => toGo 0 (hsz w1) w',
    ⟨0, blk_alloc_new _ _, bl0.alloc bl0.size _, ?_⟩, ?_⟩
  · rw [List.take_zero]
    exact hb0.alloc _
  rintro _ w2 ⟨j, h2, bl, hb⟩
  have hsz2 : w.heap.size ≤ w2.heap.size := bl.size
  refine next_step h2 (fun r hr hp h3 => (NEW_pair _ _ _).2 ?_) (fun he _ => (NEW_pair _ _ _).2 ?_)
  · have hru : Rune r := runesB_valid _ r (List.mem_of_getElem? hr)
    have hjl := (List.getElem?_eq_some_iff.1 hr).1
    refine BND_step (extractv_tuple _ _) <| (COND_true _ _).2 <| BND_step (extractv_tuple _ _) <| lb_fold r hru ?_
    have hfr := foldZ_rune hru
    have hb3 : Bld w.heap.size w.heap.size _ (setB w2 (hsz w1) (.stringIter s (cutAt (j + 1) s.data.toList))) := Lib.IsBuilderF.iterAt hb h2 (cutAt (j + 1) s.data.toList)
    have bl3 : Below w.heap.size w (setB w2 (hsz w1) (.stringIter s (cutAt (j + 1) s.data.toList))) := Lib.below_iterAt bl (by rw [hz1]; show hsz w ≤ _; omega) s (cutAt (j + 1) s.data.toList)
    have hlen := encAll_len (((runesB s.data.toList).take j).map foldZ)
    rw [List.length_map, List.length_take] at hlen
    refine bld_write hb3 (foldZ r) (by unfold Rune at hfr; omega) (by unfold Rune at hfr; omega) (by rw [Lib.byteCells_length]; omega) bl3.size fun _ w4 h4 k4 => ?_
    have h5 : It w4 (hsz w1) s (j + 1) := k4.kept.iter h3 hnb
    refine ⟨⟨j + 1, h5, bl3.trans k4.below, ?_⟩, h2.less h5 hp⟩
    have : (runesB s.data.toList).take (j + 1) = (runesB s.data.toList).take j ++ [r] := by
      rw [List.take_add_one, hr]; rfl
    rw [this, List.map_append, encAll_append, Lib.byteCells_append]
    have h6 : Lib.byteCells (encAll ([r].map foldZ)) = Lib.runeCells (foldZ r) := by
      simp only [encAll, List.map_cons, List.map_nil, List.flatMap_cons, List.flatMap_nil, List.append_nil, encB]
      exact Lib.byteCells_encodeRune _
    rw [h6]
    exact h4
  · refine BND_step (extractv_tuple _ _) <| (COND_false _ _).2 ?_
    rw [List.take_of_length_le he] at hb
    refine bld_string hb hsz2 fun w3 k3 => hR w3 (fr_of_below (bl.trans k3.below))

theorem lb_isNaN (c : Int) {w : World} {R : Value → World → Prop} (hR : R (.bool false) w) : CALL PR F_cmp_isNaN_rune [.int .i32 c] w R := by
  refine C_cmp_isNaN_rune ?_
  unfold M_cmp_isNaN_rune
  refine BND_step (binv_neq _ _ _ _) ?_
  simpa using hR
theorem lb_cmp (a b : Int) {w : World} {R : Value → World → Prop} (hR : R (.int .i64 (if a < b then -1 else if b < a then 1 else 0)) w) : CALL PR F_cmp_Compare_rune [.int .i32 a, .int .i32 b] w R := by
  refine C_cmp_Compare_rune ?_
  unfold M_cmp_Compare_rune
  refine lb_isNaN a <| lb_isNaN b <| (COND_false _ _).2 <| (COND_false _ _).2 <| BND_step (binv_lss _ _ _ _) ?_
  by_cases h : a < b
  · refine COND_dec_true h ?_
    rw [if_pos h] at hR; exact hR
  refine COND_dec_false h <| BND_step (binv_gtr _ _ _ _) ?_
  rw [if_neg h] at hR
  by_cases h2 : b < a
  · refine COND_dec_true h2 ?_
    rw [if_pos h2] at hR; exact hR
  · refine COND_dec_false h2 ?_
    rw [if_neg h2] at hR; exact hR

/-- the sign of a comparison. -/
def cmpZ : List Int → List Int → Int
  | [], [] => 0
  | [], _ :: _ => -1
  | _ :: _, [] => 1
  | a :: x, b :: y => if a < b then -1 else if b < a then 1 else cmpZ x y
theorem cmpZ_less : ∀ x y, decide (cmpZ x y < 0) = lessZ x y
  | [], [] => rfl
  | [], _ :: _ => rfl
  | _ :: _, [] => rfl
  | a :: x, b :: y => by
    have e : cmpZ (a :: x) (b :: y) = if a < b then -1 else if b < a then 1 else cmpZ x y := rfl
    have e2 : lessZ (a :: x) (b :: y) = if a = b then lessZ x y else decide (a < b) := rfl
    by_cases h : a < b
    · rw [if_pos h] at e
      rw [e2, if_neg (by omega)]
      simp [e, h]
    · rw [if_neg h] at e
      by_cases h2 : b < a
      · rw [if_pos h2] at e
        rw [e2, if_neg (by omega)]
        simp [e]; omega
      · rw [if_neg h2] at e
        rw [e2, if_pos (by omega), ← cmpZ_less x y]
        simp [e]
theorem drop_cons {x : List Int} {i : Nat} {a : Int} (h : x[i]? = some a) : x.drop i = a :: x.drop (i + 1) := by
  obtain ⟨hi, rfl⟩ := List.getElem?_eq_some_iff.1 h
  exact List.drop_eq_getElem_cons hi
theorem lb_Compare {w : World} {u v : Value} {x y : List Int} {F G : List Nat} (hu : Slc encI 1 w u x F) (hv : Slc encI 1 w v y G) (hx : x.length < 1000000000) {R : Value → World → Prop} (hR : R (.int .i64 (cmpZ x y)) w) :
    CALL PR F_slices_Compare_rune_rune [u, v] w R := by
  refine C_slices_Compare_rune_rune ?_
  unfold M_slices_Compare_rune_rune
  refine BND_step hu.len ?_
  refine ⟨fun t w' => ∃ i : Nat, t = .int .i64 i ∧ w' = w ∧ i ≤ x.length ∧ i ≤ y.length ∧ cmpZ x y = cmpZ (x.drop i) (y.drop i), fun t _ => match t with | .int _ n => x.length - n.toNat | _ => 0,
    ⟨0, rfl, rfl, by omega, by omega, rfl⟩, ?_⟩
  rintro _ _ w1 ⟨i, rfl, rfl, hix, hiy, hc⟩
  refine BND_step (binv_lss _ _ _ _) ?_
  by_cases hlt : i < x.length
  · refine COND_dec_true (by omega) ?_
    have hxi := List.getElem?_eq_getElem hlt
    obtain ⟨ab, rfl, ei⟩ := hu.iaddr hlt .i64
    refine BND_step ei <| BND_step (hu.load1 (j := 0) hxi (by omega)) <| BND_step hv.len <| BND_step (binv_geq _ _ _ _) ?_
    by_cases hly : i < y.length
    · refine COND_dec_false (by omega) ?_
      have hyi := List.getElem?_eq_getElem hly
      obtain ⟨bb, rfl, ej⟩ := hv.iaddr hly .i64
      refine BND_step ej <| BND_step (hv.load1 (j := 0) hyi (by omega)) <| lb_cmp _ _ <| BND_step (binv_neq _ _ _ _) ?_
      rw [drop_cons hxi, drop_cons hyi] at hc
      generalize x[i] = a at hxi hc
      generalize y[i] = b at hyi hc
      simp only [cmpZ] at hc
      by_cases h1 : a < b
      · rw [if_pos h1] at hc ⊢
        refine (COND_true _ _).2 ?_
        rw [hc] at hR; exact hR
      · rw [if_neg h1] at hc ⊢
        by_cases h2 : b < a
        · rw [if_pos h2] at hc ⊢
          refine (COND_true _ _).2 ?_
          rw [hc] at hR; exact hR
        · rw [if_neg h2] at hc ⊢
          refine (COND_false _ _).2 <| BND_step (add1 (by omega)) ⟨⟨i + 1, rfl, rfl, hlt, hly, hc⟩, by simp; omega⟩
    · refine COND_dec_true (by omega) ?_
      rw [drop_cons hxi, List.drop_of_length_le (by omega : y.length ≤ i)] at hc
      rw [hc] at hR; exact hR
  · refine COND_dec_false (by omega) <| BND_step hu.len <| BND_step hv.len <| BND_step (binv_lss _ _ _ _) ?_
    rw [List.drop_of_length_le (by omega : x.length ≤ i)] at hc
    by_cases hly : i < y.length
    · refine COND_dec_true (by omega) ?_
      rw [drop_cons (List.getElem?_eq_getElem hly)] at hc
      rw [hc] at hR; exact hR
    · refine COND_dec_false (by omega) ?_
      rw [List.drop_of_length_le (by omega : y.length ≤ i)] at hc
      rw [hc] at hR; exact hR

theorem lb_Less {a b : ByteArray} (ha : a.size < 1000000) (hb : b.size < 1000000) {w : World} {R : Value → World → Prop} (hR : ∀ w', Fr [] w w' → R (.bool (lessZ (runesB a.data.toList) (runesB b.data.toList))) w') :
    CALL PR F_label_Less [.string a, .string b] w R := by
  have hl := runesB_len a.data.toList
  rw [list_len] at hl
  refine C_label_Less ?_
  unfold M_label_Less
  refine RUNES_step (by omega) fun u w1 h1 f1 => RUNES_step (by omega) fun v w2 h2 f2 => ?_
  refine lb_Compare (h1.fr f2 (by simp)) h2 (by omega) <| BND_step (binv_lss _ _ _ _) ?_
  rw [cmpZ_less]
  exact hR _ (f1.trans' f2)
end Go.Proofs.Ythcbcolnahbihaa
