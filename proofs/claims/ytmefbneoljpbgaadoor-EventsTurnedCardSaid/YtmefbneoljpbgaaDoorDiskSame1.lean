
/- Bytes compared. No condition but sizes. -/
import Derived.Test.YtmefbneoljpbgaaDoorDiskHP
import Derived.Test.YtmefbneoljpbgaaDoorMa
namespace Go.Proofs.YtmefbneoljpbgaaDoor
open Go.Den Go.Disk
set_option linter.unusedSimpArgs false
set_option linter.unusedVariables false
set_option maxRecDepth 20000
set_option maxHeartbeats 4000000
attribute [local congr] BND_cg COND_cg GEF_cg
attribute [local irreducible] capl slicea load1 loadn iaddr iaddra faddr storev newslice binv lookv mupd mdel mlenv mentry mestore slicev slicev3 slices indexs indexav textv rangev nexts clearv shiftv eqaggv convi buildv pickv lens lenl unv nilchk extractv partn JOIN
section
variable {w : World} {R : Value → World → Prop}
theorem r1_Same {a b : Value} {xs ys : List UInt8} (ha : Arr encB 1 w a xs) (hb : Arr encB 1 w b ys) (hn : xs.length < 1000000000) (hR : ∀ w', Fr [] w w' → R (.bool (decide (xs = ys))) w') :
    CALL PR F_tumbrelref01_Same [a, b] w R := by
  refine C_tumbrelref01_Same ?_
  unfold M_tumbrelref01_Same
  by_cases hl : xs.length = ys.length
  · (repeat (first | refine BND_step ha.len ?_ | refine BND_step hb.len ?_ | refine stp ?_ | (apply BND_inc; omega) | (apply BND_dec; omega) | refine BND_step (rfl : some _ = some _) ?_ | (apply cyes; first | assumption | omega) | (apply cno; first | assumption | omega) | refine (COND_true _ _).2 ?_ | refine (COND_false _ _).2 ?_ | simp (disch := first | assumption | omega) only [gs1, gs2, decide_true, decide_false, eq_self, beq_self_eq_true, Bool.not_true, Bool.not_false]))
    refine loop_up 0 xs.length (fun i w' => Fr [] w w' ∧ xs.take i = ys.take i) ⟨Fr.refl _ _, rfl⟩ (by omega) ?_
    rintro i w1 - hi ⟨f1, e⟩ J m hJ
    by_cases hlt : i < xs.length
    · have hx := List.getElem?_eq_getElem hlt
      have hy := List.getElem?_eq_getElem (l := ys) (i := i) (by omega)
      obtain ⟨b1, o1, i1, _, _, l1⟩ := (ha.fr f1 (by simp)).spot hx rfl .i64
      obtain ⟨b2, o2, i2, _, _, l2⟩ := (hb.fr f1 (by simp)).spot hy rfl .i64
      (repeat (first | refine BND_step ha.len ?_ | refine BND_step i1 ?_ | refine BND_step i2 ?_ | refine BND_step (l1 (w' := w1.drew) rfl (j := 0) rfl) ?_ | refine BND_step (l2 (w' := w1.drew) rfl (j := 0) rfl) ?_ | refine stp ?_ | (apply BND_inc; omega) | (apply BND_dec; omega) | refine BND_step (rfl : some _ = some _) ?_ | (apply cyes; first | assumption | omega) | (apply cno; first | assumption | omega) | refine (COND_true _ _).2 ?_ | refine (COND_false _ _).2 ?_ | simp (disch := first | assumption | omega) only [gs1, gs2, decide_true, decide_false, eq_self, beq_self_eq_true, Bool.not_true, Bool.not_false]))
      have hu : ((xs[i].toNat : Nat) : Int) = ((ys[i].toNat : Nat) : Int) ↔ xs[i] = ys[i] := by rw [Int.ofNat_inj, UInt8.toNat_inj]
      by_cases he : ((xs[i].toNat : Nat) : Int) = ((ys[i].toNat : Nat) : Int)
      · (repeat (first | refine stp ?_ | (apply BND_inc; omega) | (apply BND_dec; omega) | refine BND_step (rfl : some _ = some _) ?_ | (apply cyes; first | assumption | omega) | (apply cno; first | assumption | omega) | refine (COND_true _ _).2 ?_ | refine (COND_false _ _).2 ?_ | simp (disch := first | assumption | omega) only [gs1, gs2, decide_true, decide_false, eq_self, beq_self_eq_true, Bool.not_true, Bool.not_false]))
        refine hJ _ hlt ⟨f1.trans' (Fr.drew _ _), ?_⟩
        rw [List.take_add_one, List.take_add_one, hx, hy, e, hu.1 he]
      · (repeat (first | refine stp ?_ | (apply BND_inc; omega) | (apply BND_dec; omega) | refine BND_step (rfl : some _ = some _) ?_ | (apply cyes; first | assumption | omega) | (apply cno; first | assumption | omega) | refine (COND_true _ _).2 ?_ | refine (COND_false _ _).2 ?_ | simp (disch := first | assumption | omega) only [gs1, gs2, decide_true, decide_false, eq_self, beq_self_eq_true, Bool.not_true, Bool.not_false]))
        have := hR _ (f1.trans' (Fr.drew _ _))
        rwa [decide_eq_false (fun h => he (by subst h; rfl))] at this
    · (repeat (first | refine BND_step ha.len ?_ | refine stp ?_ | (apply BND_inc; omega) | (apply BND_dec; omega) | refine BND_step (rfl : some _ = some _) ?_ | (apply cyes; first | assumption | omega) | (apply cno; first | assumption | omega) | refine (COND_true _ _).2 ?_ | refine (COND_false _ _).2 ?_ | simp (disch := first | assumption | omega) only [gs1, gs2, decide_true, decide_false, eq_self, beq_self_eq_true, Bool.not_true, Bool.not_false]))
      have := hR _ f1
      rw [List.take_of_length_le (by omega), List.take_of_length_le (by omega)] at e
      rwa [decide_eq_true e] at this
  · (repeat (first | refine BND_step ha.len ?_ | refine BND_step hb.len ?_ | refine stp ?_ | (apply BND_inc; omega) | (apply BND_dec; omega) | refine BND_step (rfl : some _ = some _) ?_ | (apply cyes; first | assumption | omega) | (apply cno; first | assumption | omega) | refine (COND_true _ _).2 ?_ | refine (COND_false _ _).2 ?_ | simp (disch := first | assumption | omega) only [gs1, gs2, decide_true, decide_false, eq_self, beq_self_eq_true, Bool.not_true, Bool.not_false]))
    have := hR _ (Fr.refl _ _)
    rwa [decide_eq_false (fun h => hl (by rw [h]))] at this
end
end Go.Proofs.YtmefbneoljpbgaaDoor
