/- tumbrellaw03.awake, LabelFolds, LabelCuts, LabelOrders: they answer true. No condition. -/
import Derived.Test.YtmgdnbmepamcoaaLabelWalk
import Derived.Test.YtmgdnbmepamcoaaM7
import Derived.Test.YtmgdnbmepamcoaaM4
import Derived.Test.YtmgdnbmepamcoaaM5
import Derived.Test.YtmgdnbmepamcoaaM6
namespace Go.Proofs.Ytmgdnbmepamcoaa
open Go.Den Go.RowKit

section
variable {s a b : ByteArray} {w : World} {R : Value → World → Prop}
theorem lb_right' {c : Bool} (hs : s.size < 1000000) (e : rightB s.data.toList = c) (hR : ∀ w', Fr [] w w' → R (.bool c) w') : CALL PR F_label_Right [.string s] w R := lb_right hs fun w' h => by rw [e]; exact hR w' h
theorem lb_Fold' {l : List UInt8} (hs : s.size < 1000000) (e : foldB s.data.toList = l) (hR : ∀ w', Fr [] w w' → R (.string (txt l)) w') : CALL PR F_label_Fold [.string s] w R := lb_Fold hs fun w' h => by rw [e]; exact hR w' h
theorem lb_Len' {n : Nat} (hs : s.size < 1000000) (e : (runesB s.data.toList).length = n) (hR : ∀ w', Fr [] w w' → R (.int .i64 n) w') : CALL PR F_label_Len [.string s] w R := lb_Len hs fun w' h => by rw [e]; exact hR w' h
theorem lb_Cut' {n : Int} {l : List UInt8} (hn : n ≤ 9223372036854775807) (hn0 : -9223372036854775808 ≤ n) (e : cutB s.data.toList n = l) (hR : ∀ w', Fr [] w w' → R (.string (txt l)) w') : CALL PR F_label_Cut [.string s, .int .i64 n] w R :=
  lb_Cut hn hn0 fun w' h => by rw [e]; exact hR w' h
theorem lb_Less' {c : Bool} (ha : a.size < 1000000) (hb : b.size < 1000000) (e : lessZ (runesB a.data.toList) (runesB b.data.toList) = c) (hR : ∀ w', Fr [] w w' → R (.bool c) w') : CALL PR F_label_Less [.string a, .string b] w R :=
  lb_Less ha hb fun w' h => by rw [e]; exact hR w' h
end

theorem str_eql (a b : ByteArray) : binv .str .eql (.string a) (.string b) = some (.bool (a.toList == b.toList)) := rfl
theorem str_neq (a b : ByteArray) : binv .str .neq (.string a) (.string b) = some (.bool !(a.toList == b.toList)) := rfl
theorem str_same (a : ByteArray) : binv .str .eql (.string a) (.string a) = some (.bool true) := by rw [str_eql, beq_self_eq_true]
theorem str_nsame (a : ByteArray) : binv .str .neq (.string a) (.string a) = some (.bool false) := by rw [str_neq, beq_self_eq_true]; rfl

theorem lb_awake {w : World} {R : Value → World → Prop} (hR : ∀ w', Fr [] w w' → R (.bool true) w') : CALL PR F_tumbrellaw03_awake [] w R := by
  refine C_tumbrellaw03_awake ?_
  unfold M_tumbrellaw03_awake
  refine lb_right' (c := true) (by decide) (by decide +kernel) fun w1 f1 => ?_
  simp only [isB_tt, GEF_true, grd_true]
  refine lb_right' (c := false) (by decide) (by decide +kernel) fun w2 f2 => BND_step (unv_not _) <| BND_step (pickv_true _ _) ?_
  simp only [Bool.not_false, isB_tt, GEF_true, grd_true]
  refine lb_right' (c := false) (by decide) (by decide +kernel) fun w3 f3 => BND_step (unv_not _) <| BND_step (pickv_true _ _) ?_
  simp only [Bool.not_false, isB_tt, GEF_true, grd_true]
  refine lb_Fold' (l := [97, 98, 57]) (by decide) (by decide +kernel) fun w4 f4 => BND_step (str_same _) <| BND_step (pickv_true _ _) ?_
  simp only [isB_tt, GEF_true, grd_true]
  refine lb_Len' (n := 3) (by decide) (by decide +kernel) fun w5 f5 => BND_step (v := .bool true) (by rw [binv_eql]; rfl) <| BND_step (pickv_true _ _) ?_
  simp only [isB_tt, GEF_true]
  refine lb_Cut' (l := [97, 98]) (by decide) (by decide) (by decide +kernel) fun w6 f6 => BND_step (str_same _) <| BND_step (pickv_true _ _) ?_
  simp only [isB_tt, GEF_true]
  refine lb_Less' (c := true) (by decide) (by decide) (by decide +kernel) fun w7 f7 => BND_step (pickv_true _ _) ?_
  simp only [isB_tt, GEF_true, grd_true]
  refine lb_Less' (c := false) (by decide) (by decide) (by decide +kernel) fun w8 f8 => BND_step (unv_not _) <| BND_step (pickv_true _ _) ?_
  exact hR _ (f1.trans' <| f2.trans' <| f3.trans' <| f4.trans' <| f5.trans' <| f6.trans' <| f7.trans' f8)

theorem label_folds {s : ByteArray} {w : World} {R : Value → World → Prop} (hR : ∀ w', Fr [] w w' → R (.bool true) w') : CALL PR F_tumbrellaw03_LabelFolds [.string s] w R := by
  refine C_tumbrellaw03_LabelFolds ?_
  unfold M_tumbrellaw03_LabelFolds
  refine lb_awake fun w1 f1 => BND_step (unv_not _) <| (COND_false _ _).2 <| BND_step (lens_string _) <| BND_step (binv_gtr _ _ _ _) ?_
  by_cases hs : (300 : Int) < s.size
  · exact COND_dec_true hs (hR _ f1)
  refine COND_dec_false hs ?_
  have hl := list_len s
  have hfl := foldB_len s.data.toList
  have hfs : (txt (foldB s.data.toList)).size < 1000000 := by rw [txt_size]; omega
  refine lb_Fold (by omega) fun w2 f2 => lb_Fold' (l := foldB s.data.toList) hfs (by rw [txt_list, fold_fold]) fun w3 f3 => BND_step (str_same _) ?_
  simp only [isB_tt, GEF_true, grd_true]
  refine BND_step rfl <| lb_Len' (n := (runesB s.data.toList).length) hfs (by rw [txt_list, fold_runes, List.length_map]) fun w4 f4 => BND_step rfl <| lb_Len (by omega) fun w5 f5 => BND_step (binv_eql _ _ _ _) <| BND_step (pickv_true _ _) ?_
  simp only [decide_true, isB_tt, GEF_true, grd_true]
  have f15 := f1.trans' <| f2.trans' <| f3.trans' <| f4.trans' f5
  refine BND_step rfl ?_
  cases hr : rightB s.data.toList with
  | false =>
    refine lb_right' (c := false) (by omega) hr fun w6 f6 => BND_step (unv_not _) <| BND_step rfl ?_
    simp only [Bool.not_false, isB_tf, GEF_false, grd_false, BND_some, pickv_true]
    exact hR _ (f15.trans' f6)
  | true =>
    refine lb_right' (c := true) (by omega) hr fun w6 f6 => BND_step (unv_not _) <| BND_step rfl ?_
    simp only [Bool.not_true, isB_ff, GEF_true, grd_true]
    refine BND_step rfl <| lb_right' (c := true) hfs (by rw [txt_list, fold_right hr]) fun w7 f7 => BND_step (pickv_false _ _) <| BND_step (pickv_true _ _) ?_
    exact hR _ (f15.trans' <| f6.trans' f7)

theorem max2v_zero (n : Int) : max2v (.int .i64 n) (.int .i64 0) = some (.int .i64 (n.toNat : Int)) := by
  simp only [max2v]
  split <;> (congr 2; omega)
theorem min2v_nat (a b : Nat) : min2v (.int .i64 (a : Int)) (.int .i64 (b : Int)) = some (.int .i64 ((min a b : Nat) : Int)) := by
  simp only [min2v]
  split <;> (congr 2; omega)

theorem label_cuts {s : ByteArray} {n : Int} (hn : n ≤ 9223372036854775807) (hn0 : -9223372036854775808 ≤ n) {w : World} {R : Value → World → Prop} (hR : ∀ w', Fr [] w w' → R (.bool true) w') : CALL PR F_tumbrellaw03_LabelCuts [.string s, .int .i64 n] w R := by
  refine C_tumbrellaw03_LabelCuts ?_
  unfold M_tumbrellaw03_LabelCuts
  refine lb_awake fun w1 f1 => BND_step (unv_not _) <| (COND_false _ _).2 <| BND_step (lens_string _) <| BND_step (binv_gtr _ _ _ _) ?_
  by_cases hs : (300 : Int) < s.size
  · exact COND_dec_true hs (hR _ f1)
  refine COND_dec_false hs ?_
  have hl := list_len s
  have hcl := cut_len s.data.toList n
  have hcle := cutAt_le n.toNat s.data.toList
  have hcs : (txt (cutB s.data.toList n)).size = cutAt n.toNat s.data.toList := by rw [txt_size, hcl]
  have hrl := runesB_len s.data.toList
  refine lb_Cut hn hn0 fun w2 f2 => BND_step (lens_string _) <| BND_step (lens_string _) <| BND_step (binv_gtr _ _ _ _) ?_
  rw [show decide ((s.size : Int) < ((txt (cutB s.data.toList n)).size : Int)) = false by rw [decide_eq_false_iff_not, hcs]; omega]
  simp only [isB_ff, grd_true]
  have e1 : slices (.string s) none (some (.int .i64 ((txt (cutB s.data.toList n)).size : Nat))) = some (.string (txt (cutB s.data.toList n))) := by
    rw [slices_to (by omega), hcs]; rfl
  have e2 : slices (.string s) (some (.int .i64 ((txt (cutB s.data.toList n)).size : Nat))) none = some (.string (txt (s.data.toList.drop (cutB s.data.toList n).length))) := by
    rw [slices_from (by omega), hcs, hcl]
  refine BND_step rfl <| BND_step rfl <| BND_step (lens_string _) <| BND_step e1 <| BND_step rfl <| BND_step (str_nsame _) <| BND_step (pickv_false _ _) ?_
  simp only [isB_ff, GEF_true, grd_true]
  refine BND_step rfl <| BND_step rfl <| lb_Cut' (l := cutB s.data.toList n) hn hn0 (by rw [txt_list, cut_cut]) fun w3 f3 => BND_step rfl <| BND_step (str_nsame _) <| BND_step (pickv_false _ _) <| (COND_false _ _).2 ?_
  refine BND_step (max2v_zero n) <| lb_Len' (n := min n.toNat (runesB s.data.toList).length) (by omega) (by rw [txt_list, cut_runes, List.length_take]) fun w4 f4 => lb_Len (by omega) fun w5 f5 =>
    BND_step (min2v_nat _ _) <| BND_step (binv_eql _ _ _ _) ?_
  simp only [decide_true, isB_tt, GEF_true, grd_true]
  refine BND_step rfl <| BND_step rfl <| BND_step rfl <| BND_step (lens_string _) <| BND_step e2 <| BND_step rfl <|
    lb_Len' (n := min n.toNat (runesB s.data.toList).length) (by omega) (by rw [txt_list, cut_runes, List.length_take]) fun w6 f6 =>
    lb_Len' (n := (runesB s.data.toList).length - n.toNat) (by rw [txt_size, List.length_drop]; omega) (by rw [txt_list, cut_rest, List.length_drop]) fun w7 f7 =>
    BND_step (v := .int .i64 ((runesB s.data.toList).length : Nat)) (by rw [binv_add, wrap_i64 (by omega) (by omega)]; congr 2; omega) <| lb_Len (by omega) fun w8 f8 => BND_step (binv_eql _ _ _ _) <| BND_step (pickv_true _ _) ?_
  rw [decide_eq_true rfl]
  exact hR _ (f1.trans' <| f2.trans' <| f3.trans' <| (Fr.drew [] w3).trans' <| f4.trans' <| f5.trans' <| f6.trans' <| f7.trans' f8)

theorem label_orders {a b c : ByteArray} {w : World} {R : Value → World → Prop} (hR : ∀ w', Fr [] w w' → R (.bool true) w') : CALL PR F_tumbrellaw03_LabelOrders [.string a, .string b, .string c] w R := by
  refine C_tumbrellaw03_LabelOrders ?_
  unfold M_tumbrellaw03_LabelOrders
  refine lb_awake fun w1 f1 => BND_step (unv_not _) <| (COND_false _ _).2 <| BND_step (lens_string _) <| BND_step (binv_gtr _ _ _ _) ?_
  by_cases ha : (300 : Int) < a.size
  · simp only [ha, decide_true, isB_tf, grd_false, BND_some, pickv_true, COND_true]
    exact hR _ f1
  simp only [ha, decide_false, isB_ff, grd_true]
  refine BND_step rfl <| BND_step (lens_string _) <| BND_step (binv_gtr _ _ _ _) <| BND_step (pickv_false _ _) ?_
  by_cases hb : (300 : Int) < b.size
  · simp only [hb, decide_true, isB_tf, grd_false, BND_some, pickv_true, COND_true]
    exact hR _ f1
  simp only [hb, decide_false, isB_ff, grd_true]
  refine BND_step rfl <| BND_step (lens_string _) <| BND_step (binv_gtr _ _ _ _) <| BND_step (pickv_false _ _) ?_
  by_cases hc : (300 : Int) < c.size
  · exact COND_dec_true hc (hR _ f1)
  refine COND_dec_false hc ?_
  have ha' : a.size < 1000000 := by omega
  have hb' : b.size < 1000000 := by omega
  have hc' : c.size < 1000000 := by omega
  refine lb_Less' (c := false) ha' ha' (less_irr _) fun w2 f2 => ?_
  simp only [isB_ff, GEF_true, grd_true]
  refine BND_step rfl <| BND_step rfl <| lb_Less ha' hb' fun w3 f3 => BND_step rfl ?_
  have f13 := f1.trans' <| f2.trans' f3
  -- what the names come to
  have names : ∀ w', Fr [] w w' → CALL PR F_label_Right [.string a] w' fun t52_38 w8 =>
    BND (unv .not t52_38) fun t53_39 =>
    BND (grd (isB t53_39 false) (some (.string b))) fun t55_40 =>
    GEF (isB t53_39 false) (fun k_ => CALL PR F_label_Right [t55_40] w8 k_) w8 fun t56_41 w9 =>
    BND (grd (isB t53_39 false) (unv .not t56_41)) fun t57_42 =>
    BND (pickv t53_39 (Value.bool true) t57_42) fun t58_43 =>
    BND (grd (isB t58_43 false) (some (.string a))) fun t60_44 =>
    BND (grd (isB t58_43 false) (some (.string b))) fun t61_45 =>
    BND (grd (isB t58_43 false) (binv .str .eql t60_44 t61_45)) fun t62_46 =>
    BND (pickv t58_43 (Value.bool true) t62_46) fun t63_47 =>
    BND (grd (isB t63_47 false) (some (.string a))) fun t65_48 =>
    BND (grd (isB t63_47 false) (some (.string b))) fun t66_49 =>
    GEF (isB t63_47 false) (fun k_ => CALL PR F_label_Less [t65_48, t66_49] w9 k_) w9 fun t67_50 w10 =>
    BND (pickv t63_47 (Value.bool true) t67_50) fun t68_51 =>
    BND (grd (isB t68_51 false) (some (.string b))) fun t70_52 =>
    BND (grd (isB t68_51 false) (some (.string a))) fun t71_53 =>
    GEF (isB t68_51 false) (fun k_ => CALL PR F_label_Less [t70_52, t71_53] w10 k_) w10 fun t72_54 w11 =>
    BND (pickv t68_51 (Value.bool true) t72_54) fun t73_55 =>
    R t73_55 w11 := by
    intro w' f'
    cases hra : rightB a.data.toList with
    | false =>
      refine lb_right' (c := false) ha' hra fun w8 f8 => BND_step (unv_not _) ?_
      simp only [Bool.not_false, isB_tf, GEF_false, grd_false, BND_some, pickv_true]
      exact hR _ (f'.trans' f8)
    | true =>
      refine lb_right' (c := true) ha' hra fun w8 f8 => BND_step (unv_not _) ?_
      simp only [Bool.not_true, isB_ff, GEF_true, grd_true]
      refine BND_step rfl ?_
      cases hrb : rightB b.data.toList with
      | false =>
        refine lb_right' (c := false) hb' hrb fun w9 f9 => BND_step (unv_not _) <| BND_step (pickv_false _ _) ?_
        simp only [Bool.not_false, isB_tf, GEF_false, grd_false, BND_some, pickv_true]
        exact hR _ (f'.trans' <| f8.trans' f9)
      | true =>
        refine lb_right' (c := true) hb' hrb fun w9 f9 => BND_step (unv_not _) <| BND_step (pickv_false _ _) ?_
        simp only [Bool.not_true, isB_ff, grd_true]
        refine BND_step rfl <| BND_step rfl <| BND_step (str_eql _ _) <| BND_step (pickv_false _ _) ?_
        have f9' := f'.trans' <| f8.trans' f9
        cases he : a.toList == b.toList with
        | true =>
          simp only [isB_tf, GEF_false, grd_false, BND_some, pickv_true]
          exact hR _ f9'
        | false =>
          simp only [isB_ff, GEF_true, grd_true]
          have hne : runesB a.data.toList ≠ runesB b.data.toList := by
            intro e
            have h1 := right_runes hra hrb e
            have h2 : a = b := by rw [← txt_of a, ← txt_of b, h1]
            subst h2
            simp at he
          refine BND_step rfl <| BND_step rfl ?_
          cases hl : lessZ (runesB a.data.toList) (runesB b.data.toList) with
          | true =>
            refine lb_Less' (c := true) ha' hb' hl fun w10 f10 => BND_step (pickv_false _ _) ?_
            simp only [isB_tf, GEF_false, grd_false, BND_some, pickv_true]
            exact hR _ (f9'.trans' f10)
          | false =>
            refine lb_Less' (c := false) ha' hb' hl fun w10 f10 => BND_step (pickv_false _ _) ?_
            simp only [isB_ff, GEF_true, grd_true]
            have hl2 := (less_total _ _ hne).resolve_left (by rw [hl]; simp)
            exact BND_step rfl <| BND_step rfl <| lb_Less' (c := true) hb' ha' hl2 fun w11 f11 => BND_step (pickv_false _ _) (hR _ (f9'.trans' <| f10.trans' f11))
  cases hab : lessZ (runesB a.data.toList) (runesB b.data.toList) with
  | false =>
    simp only [isB_ft, GEF_false, grd_false, BND_some, pickv_false, isB_ff, GEF_true, grd_true]
    refine lb_Less' (c := false) ha' hb' hab fun w4 f4 => ?_
    simp only [isB_ft, GEF_false, grd_false, BND_some, pickv_false, COND_false]
    exact names _ (f13.trans' f4)
  | true =>
    simp only [isB_tt, GEF_true, grd_true]
    refine BND_step rfl <| BND_step rfl <| lb_Less' (c := false) hb' ha' (less_asym _ _ hab) fun w4 f4 => BND_step (pickv_true _ _) <| BND_step (pickv_false _ _) ?_
    simp only [isB_ff, GEF_true, grd_true]
    refine BND_step rfl <| BND_step rfl <| lb_Less' (c := true) ha' hb' hab fun w5 f5 => BND_step rfl ?_
    simp only [isB_tt, GEF_true, grd_true]
    refine BND_step rfl <| BND_step rfl ?_
    have f15 := f13.trans' <| f4.trans' f5
    cases hbc : lessZ (runesB b.data.toList) (runesB c.data.toList) with
    | false =>
      refine lb_Less' (c := false) hb' hc' hbc fun w6 f6 => BND_step (pickv_true _ _) <| BND_step rfl ?_
      simp only [isB_ft, GEF_false, grd_false, BND_some, pickv_false, COND_false]
      exact names _ (f15.trans' f6)
    | true =>
      refine lb_Less' (c := true) hb' hc' hbc fun w6 f6 => BND_step (pickv_true _ _) <| BND_step rfl ?_
      simp only [isB_tt, GEF_true, grd_true]
      refine BND_step rfl <| BND_step rfl <| lb_Less' (c := true) ha' hc' (less_trans _ _ _ hab hbc) fun w7 f7 => BND_step (unv_not _) <| BND_step (pickv_true _ _) <| BND_step (pickv_false _ _) <| (COND_false _ _).2 ?_
      exact names _ (f15.trans' <| f6.trans' f7)
end Go.Proofs.Ytmgdnbmepamcoaa
