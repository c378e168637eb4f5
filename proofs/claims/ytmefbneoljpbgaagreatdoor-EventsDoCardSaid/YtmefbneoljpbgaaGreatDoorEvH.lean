
/- Lists of acts, and of numbers, copied, compared, looked at. No condition but sizes. -/
import Derived.Test.YtmefbneoljpbgaaGreatDoorOp
import Derived.Test.YtmefbneoljpbgaaGreatDoorMa
namespace Go.Proofs.YtmefbneoljpbgaaGreatDoor
open Go.Den Go.Disk Go.Vint Go.Crc Go.Frame Go.Rec Go.Ev
def largeA (xs : List Ax) (k : Nat) : Bool := decide (k < xs.length) || xs.any fun a => decide (300 < a.name.size)
theorem largeA_no {xs : List Ax} {k : Nat} (h : largeA xs k = false) : xs.length ≤ k ∧ ∀ a ∈ xs, a.name.size ≤ 300 := by
  unfold largeA at h
  simp only [Bool.or_eq_false_iff, decide_eq_false_iff_not, List.any_eq_false, decide_eq_true_eq] at h
  exact ⟨by omega, fun a ha => by have := h.2 a ha; omega⟩
theorem take_snoc' {α : Type} {l : List α} {i : Nat} {x : α} (h : l[i]? = some x) : l.take (i + 1) = l.take i ++ [x] := by
  rw [List.take_add_one, h]; rfl
theorem push_step2 {α : Type} {enc : α → List Value} {sz : Nat} {w : World} {v : Value} {xs : List α} {G : List Nat} {k : Value → World → Prop} {E E' bytes : Nat} {zero : Array Value} {zero' y : Value} {x : α} (s : Slc enc sz w v xs G) (hl : ∀ x, (enc x).length = sz) (hl1 : ∀ x, ∀ u ∈ enc x, u.oneCell' = true)
    (hy : y.cells = (enc x).toArray) (hz : zero'.cells.size = sz) (hb : (xs.length + 1) * bytes ≤ 140737488355328) (hmax : xs.length < 1000000000000000) (K : ∀ v' w' G', Slc enc sz w' v' (xs ++ [x]) G' → (∀ b ∈ G', b ∈ G ∨ hsz w ≤ b) → Fr G w w' → k v' w') :
    BND (newslice E zero sz 1 [(0, sz, y)] w) fun p_ => NEW p_ fun t w1 => APPEND E' sz bytes zero' v t w1 k := by
  refine newone_step hl hy fun t w1 s1 f1 z1 => ?_
  refine APPEND_slc (s.fr f1 (by simp)) (s1.loads hl) hl hl1 hz (by simpa using hb) (by simp; omega) fun v' w' F' s' f' sub => ?_
  refine K v' w' F' s' (fun b hb => ?_) (f1.nil.trans' f')
  rcases sub b hb with h | h
  · exact .inl h
  · exact .inr (by omega)
set_option linter.unusedSimpArgs false
set_option linter.unusedVariables false
set_option maxRecDepth 20000
set_option maxHeartbeats 4000000
attribute [local congr] BND_cg COND_cg GEF_cg
attribute [local irreducible] capl slicea load1 loadn iaddr iaddra faddr storev newslice binv lookv mupd mdel mlenv mentry mestore slicev slicev3 slices indexs indexav textv rangev nexts clearv shiftv eqaggv convi buildv pickv lens lenl unv nilchk extractv partn JOIN
section
variable {w : World} {R : Value → World → Prop}
theorem ev_own {lv : Value} {xs : List Ax} (ha : Arr encAx 8 w lv xs) (hn : xs.length * 72 ≤ 140737488351232) (hR : ∀ w' v G, Slc encAx 8 w' v xs G → (∀ b ∈ G, hsz w ≤ b) → Fr [] w w' → R v w') : CALL PR F_tumbrellaw17_own [lv] w R := by
  refine C_tumbrellaw17_own ?_
  unfold M_tumbrellaw17_own
  refine newnil_step encAx fun t w1 s1 f1 z1 => ?_
  (repeat (first | refine BND_step ha.len ?_ | refine gg ?_))
  refine loop_up2 (o := t) 0 xs.length (fun o i w' => ∃ H, Slc encAx 8 w' o (xs.take i) H ∧ (∀ b ∈ H, hsz w ≤ b) ∧ Fr [] w w') ⟨_, s1, by simp, f1⟩ (by omega) ?_
  rintro o i w2 - hi ⟨H, h2, gH, f2⟩ J m hJ
  by_cases hlt : i < xs.length
  · have hx := List.getElem?_eq_getElem hlt
    generalize xs[i] = a at hx
    obtain ⟨bp, op, ia, ln, _, _⟩ := (ha.fr f2 (by simp)).spot hx rfl .i64
    (repeat refine gg ?_)
    refine box_step (n := 8) (zs := encAx zeroA) (vs := encAx a) rfl rfl (encAx_one _) (by simp [encAx]) fun w4 b4 f4 z4 => ?_
    (repeat (first | refine BND_step (loadn_blk (o := 5) (n := 3) b4 (by simp [encAx])) ?_ | refine gg ?_ | (apply BND_build (encAx a); exact rfl)))
    refine push_step2 (enc := encAx) (x := a) (h2.fr f4 (by simp)) encAx_len encAx_one rfl rfl (by rw [List.length_take]; omega) (by rw [List.length_take]; omega) fun v6 w6 G6 h6 g6 f6 => ?_
    (repeat refine gg ?_)
    have g4 := f4.grow
    have g2 := f2.grow
    refine hJ _ _ hlt ⟨G6, by rw [take_snoc' hx]; exact h6, fun b hb => ?_, (f2.trans' f4).trans f6 fun b hb => .inr (gH b hb)⟩
    rcases g6 b hb with hq | hq
    · exact gH b hq
    · omega
  · obtain rfl : i = xs.length := by omega
    rw [List.take_length] at h2
    (repeat refine gg ?_)
    exact hR _ _ _ h2 gH f2
theorem ev_same {a b : Value} {xs ys : List Ax} (ha : Arr encAx 8 w a xs) (hb : Arr encAx 8 w b ys) (hn : xs.length < 1000000000) (hR : ∀ w', Fr [] w w' → R (.bool (decide (xs = ys))) w') : CALL PR F_tumbrellaw17_same [a, b] w R := by
  refine C_tumbrellaw17_same ?_
  unfold M_tumbrellaw17_same
  by_cases hl : xs.length = ys.length
  · (repeat (first | refine BND_step ha.len ?_ | refine BND_step hb.len ?_ | refine gg ?_))
    refine loop_up 0 xs.length (fun i w' => Fr [] w w' ∧ xs.take i = ys.take i) ⟨Fr.refl _ _, rfl⟩ (by omega) ?_
    rintro i w1 - hi ⟨f1, e⟩ J m hJ
    by_cases hlt : i < xs.length
    · have hx := List.getElem?_eq_getElem hlt
      have hy := List.getElem?_eq_getElem (l := ys) (i := i) (by omega)
      generalize xs[i] = p at hx
      generalize ys[i] = q at hy
      obtain ⟨b1, o1, i1, m1, _, l1⟩ := (ha.fr f1 (by simp)).spot hx rfl .i64
      obtain ⟨b2, o2, i2, m2, _, l2⟩ := (hb.fr f1 (by simp)).spot hy rfl .i64
      have n1 := neA p q
      (repeat (first | refine BND_step ((loadn_congr (w := w1) (w' := w1.drew) rfl).trans m1) ?_ | refine BND_step ((loadn_congr (w := w1) (w' := w1.drew) rfl).trans m2) ?_ | refine gg ?_))
      by_cases he : p = q
      · (repeat refine gg ?_)
        refine hJ _ hlt ⟨f1.trans' (Fr.drew _ _), ?_⟩
        rw [List.take_add_one, List.take_add_one, hx, hy, e, he]
      · (repeat refine gg ?_)
        have := hR _ (f1.trans' (Fr.drew _ _))
        rwa [decide_eq_false (fun h => he (by subst h; rw [hx] at hy; exact Option.some.inj hy))] at this
    · (repeat refine gg ?_)
      have := hR _ f1
      rw [List.take_of_length_le (by omega), List.take_of_length_le (by omega)] at e
      rwa [decide_eq_true e] at this
  · (repeat (first | refine BND_step ha.len ?_ | refine BND_step hb.len ?_ | refine gg ?_))
    have := hR _ (Fr.refl _ _)
    rwa [decide_eq_false (fun h => hl (by rw [h]))] at this
theorem ev_Large {lv : Value} {xs : List Ax} (ha : Arr encAx 8 w lv xs) (k : Nat) (hk : k < 1000000) (hR : R (.bool (largeA xs k)) w) : CALL PR F_tumbrelref12_Large [lv, .int .i64 (k : Int)] w R := by
  refine C_tumbrelref12_Large ?_
  unfold M_tumbrelref12_Large
  by_cases hl : k < xs.length
  · (repeat (first | refine BND_step ha.len ?_ | refine gg ?_))
    unfold largeA at hR
    rw [decide_eq_true hl, Bool.true_or] at hR
    exact hR
  · (repeat (first | refine BND_step ha.len ?_ | refine gg ?_))
    refine loop_up 0 xs.length (fun i w' => w' = w ∧ ∀ a ∈ xs.take i, a.name.size ≤ 300) ⟨rfl, by simp⟩ (by omega) ?_
    rintro i w1 - hi ⟨rfl, e⟩ J m hJ
    by_cases hlt : i < xs.length
    · have hx := List.getElem?_eq_getElem hlt
      generalize xs[i] = p at hx
      obtain ⟨b1, o1, i1, m1, _, l1⟩ := ha.spot hx rfl .i64
      (repeat (first | refine BND_step ha.len ?_ | refine BND_step (l1 (w' := w1) rfl (j := 4) rfl) ?_ | refine gg ?_))
      by_cases hs : 300 < p.name.size
      · (repeat refine gg ?_)
        have : largeA xs k = true := by
          unfold largeA
          rw [Bool.or_eq_true]
          exact .inr (List.any_eq_true.2 ⟨p, List.mem_of_getElem? hx, by simpa using hs⟩)
        rwa [this] at hR
      · (repeat refine gg ?_)
        refine hJ _ hlt ⟨rfl, fun a h => ?_⟩
        rw [take_snoc' hx] at h
        rcases List.mem_append.1 h with h | h
        · exact e a h
        · simp at h; subst h; omega
    · (repeat (first | refine BND_step ha.len ?_ | refine gg ?_))
      rw [List.take_of_length_le (by omega)] at e
      have : largeA xs k = false := by
        unfold largeA
        rw [decide_eq_false hl, Bool.false_or, List.any_eq_false]
        intro a h
        have := e a h
        simp; omega
      rwa [this] at hR
theorem r5_Ints {a b : Value} {xs ys : List Nat} (ha : Arr encO 1 w a xs) (hb : Arr encO 1 w b ys) (hn : xs.length < 1000000000) (hR : ∀ w', Fr [] w w' → R (.bool (decide (xs = ys))) w') :
    CALL PR F_tumbrelref05_Ints [a, b] w R := by
  refine C_tumbrelref05_Ints ?_
  unfold M_tumbrelref05_Ints
  by_cases hl : xs.length = ys.length
  · (repeat (first | refine BND_step ha.len ?_ | refine BND_step hb.len ?_ | refine gg ?_))
    refine loop_up 0 xs.length (fun i w' => Fr [] w w' ∧ xs.take i = ys.take i) ⟨Fr.refl _ _, rfl⟩ (by omega) ?_
    rintro i w1 - hi ⟨f1, e⟩ J m hJ
    by_cases hlt : i < xs.length
    · have hx := List.getElem?_eq_getElem hlt
      have hy := List.getElem?_eq_getElem (l := ys) (i := i) (by omega)
      generalize xs[i] = p at hx
      generalize ys[i] = q at hy
      obtain ⟨b1, o1, i1, _, _, l1⟩ := (ha.fr f1 (by simp)).spot hx rfl .i64
      obtain ⟨b2, o2, i2, _, _, l2⟩ := (hb.fr f1 (by simp)).spot hy rfl .i64
      (repeat (first | refine BND_step ha.len ?_ | refine BND_step (l1 (w' := w1.drew) rfl (j := 0) rfl) ?_ | refine BND_step (l2 (w' := w1.drew) rfl (j := 0) rfl) ?_ | refine gg ?_))
      by_cases he : (p : Int) = (q : Int)
      · (repeat refine gg ?_)
        refine hJ _ hlt ⟨f1.trans' (Fr.drew _ _), ?_⟩
        rw [List.take_add_one, List.take_add_one, hx, hy, e, Int.ofNat_inj.1 he]
      · (repeat refine gg ?_)
        have := hR _ (f1.trans' (Fr.drew _ _))
        rwa [decide_eq_false (fun h => he (by subst h; rw [hx] at hy; rw [Option.some.inj hy]))] at this
    · (repeat (first | refine BND_step ha.len ?_ | refine gg ?_))
      have := hR _ f1
      rw [List.take_of_length_le (by omega), List.take_of_length_le (by omega)] at e
      rwa [decide_eq_true e] at this
  · (repeat (first | refine BND_step ha.len ?_ | refine BND_step hb.len ?_ | refine gg ?_))
    have := hR _ (Fr.refl _ _)
    rwa [decide_eq_false (fun h => hl (by rw [h]))] at this
end
end Go.Proofs.YtmefbneoljpbgaaGreatDoor
