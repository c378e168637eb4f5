
/- Sums put behind bytes, and taken off. No condition but sizes. -/
import Derived.Test.YtmefbneoljpbgaaGreatDoorSum
import Derived.Test.YtmefbneoljpbgaaGreatDoorArrs
import Derived.Test.YtmefbneoljpbgaaGreatDoorShelf
import Derived.Test.YtmefbneoljpbgaaGreatDoorMa
namespace Go.Proofs.YtmefbneoljpbgaaGreatDoor
open Go.Den Go.Disk Go.Crc
theorem slc_nil' : binv .slc .eql (.slice none 0 0) (.slice none 0 0) = some (.bool true) := rfl
theorem slc_is (a : Option Addr) (n c : Nat) : binv .slc .eql (.slice a n c) (.slice none 0 0) = some (.bool a.isNone) := by cases a <;> rfl
def lensOf (xs : List (SV × List UInt8)) : Nat := (xs.map (·.2.length)).sum
theorem lensOf_le (xs : List (SV × List UInt8)) (i : Nat) : lensOf (xs.take i) ≤ lensOf xs := by
  conv => rhs; rw [← List.take_append_drop i xs]
  unfold lensOf
  rw [List.map_append, List.sum_append]
  omega
theorem lensOf_flat (xs : List (SV × List UInt8)) : (xs.flatMap (·.2)).length = lensOf xs := by
  induction xs with
  | nil => rfl
  | cons a xs ih => unfold lensOf at *; simp [ih]
theorem grow_sl (n : Nat) (hn : n < 1000000000) {w : World} {R : Value → World → Prop} (hR : ∀ w' v G, Slc encB 1 w' v [] G → (∀ b ∈ G, hsz w ≤ b) → Fr [] w w' → R v w') : CALL PR F_slices_Grow_byte_byte [.slice none 0 0, .int .i64 (n : Int)] w R := by
  by_cases h0 : n = 0
  · subst h0
    refine ⟨(Any8.slices_Grow_room Tryz.growB none 0 0 0 w (by omega) (by omega) (by omega) (by omega)).mono ?_⟩
    rintro e w1 ⟨rfl, rfl⟩
    exact ⟨_, rfl, hR _ _ [] (Slc.nil _ _ _) (by simp) (Fr.refl _ _)⟩
  · have hq : (PR.info? 5).map (fun i => (i.size, i.bytes)) = some (1, 1) := by kernel_rfl
    have hq2 : (PR.info? 5).bind (·.zero) = some (Value.int .u8 0) := by kernel_rfl
    obtain ⟨i0, hi⟩ : ∃ i0, PR.info? 5 = some i0 := by
      cases hi : PR.info? 5 with
      | none => rw [hi] at hq; cases hq
      | some i0 => exact ⟨i0, rfl⟩
    rw [hi] at hq hq2
    simp only [Option.map_some, Option.some.injEq, Prod.mk.injEq, Option.bind_some] at hq hq2
    obtain ⟨hs, hb⟩ := hq
    obtain ⟨z, hz, hzc⟩ : ∃ z, i0.zero = some z ∧ z.cells.size = 1 := ⟨_, hq2, rfl⟩
    refine ⟨(Any8.slices_Grow_grow Tryz.growB i0 z hi hz (by omega) none 0 0 n [] w (by omega) (by omega) (by rw [hb]; omega) (by omega) (by simp) (by simp) (by simp)).mono ?_⟩
    rintro e w1 ⟨rfl, rfl⟩
    refine ⟨_, rfl, hR _ _ [hsz w] (.inr ⟨hsz w, _, _, _, rfl, blk_alloc_new _ _, by simp, ?_, rfl, by simp⟩) (by simp) ((Fr.drew [] w).trans' (Fr.alloc _ _ _))⟩
    have hg := grownCap_ge w (0 + n) 0 5
    simp only [Array.size_append, Builtin.zeroCells, Array.size_map, Array.size_range, hzc, List.size_toArray, List.length_nil]
    show 0 + (0 + n - 0) * 1 + (grownCap w (0 + n) 0 5 - (0 + n)) * 1 = grownCap w (0 + n) 0 5 * 1
    omega
set_option linter.unusedSimpArgs false
set_option linter.unusedVariables false
set_option maxRecDepth 20000
set_option maxHeartbeats 4000000
attribute [local congr] BND_cg COND_cg GEF_cg
attribute [local irreducible] capl slicea load1 loadn iaddr iaddra faddr storev newslice binv lookv mupd mdel mlenv mentry mestore slicev slicev3 slices indexs indexav textv rangev nexts clearv shiftv eqaggv convi buildv pickv lens lenl unv nilchk extractv partn JOIN
section
variable {w : World} {R : Value → World → Prop}
theorem sl_Equal {a b : Value} {xs ys : List UInt8} (ha : Arr encB 1 w a xs) (hb : Arr encB 1 w b ys) (hn : xs.length < 1000000000) (hR : ∀ w', Fr [] w w' → R (.bool (decide (xs = ys))) w') :
    CALL PR F_slices_Equal_byte_byte [a, b] w R := by
  refine C_slices_Equal_byte_byte ?_
  unfold M_slices_Equal_byte_byte
  by_cases hl : xs.length = ys.length
  · (repeat (first | refine BND_step ha.len ?_ | refine BND_step hb.len ?_ | refine gg ?_))
    refine loop_up 0 xs.length (fun i w' => Fr [] w w' ∧ xs.take i = ys.take i) ⟨Fr.refl _ _, rfl⟩ (by omega) ?_
    rintro i w1 - hi ⟨f1, e⟩ J m hJ
    by_cases hlt : i < xs.length
    · have hx := List.getElem?_eq_getElem hlt
      have hy := List.getElem?_eq_getElem (l := ys) (i := i) (by omega)
      obtain ⟨b1, o1, i1, _, _, l1⟩ := (ha.fr f1 (by simp)).spot hx rfl .i64
      obtain ⟨b2, o2, i2, _, _, l2⟩ := (hb.fr f1 (by simp)).spot hy rfl .i64
      have hu : ((xs[i].toNat : Nat) : Int) = ((ys[i].toNat : Nat) : Int) ↔ xs[i] = ys[i] := by rw [Int.ofNat_inj, UInt8.toNat_inj]
      by_cases he : ((xs[i].toNat : Nat) : Int) = ((ys[i].toNat : Nat) : Int)
      · (repeat (first | refine BND_step (l1 (w' := w1.drew) rfl (j := 0) rfl) ?_ | refine BND_step (l2 (w' := w1.drew) rfl (j := 0) rfl) ?_ | refine gg ?_))
        refine hJ _ hlt ⟨f1.trans' (Fr.drew _ _), ?_⟩
        rw [List.take_add_one, List.take_add_one, hx, hy, e, hu.1 he]
      · (repeat (first | refine BND_step (l1 (w' := w1.drew) rfl (j := 0) rfl) ?_ | refine BND_step (l2 (w' := w1.drew) rfl (j := 0) rfl) ?_ | refine gg ?_))
        have := hR _ (f1.trans' (Fr.drew _ _))
        rwa [decide_eq_false (fun h => he (by subst h; rfl))] at this
    · (repeat refine gg ?_)
      have := hR _ f1
      rw [List.take_of_length_le (by omega), List.take_of_length_le (by omega)] at e
      rwa [decide_eq_true e] at this
  · (repeat (first | refine BND_step ha.len ?_ | refine BND_step hb.len ?_ | refine gg ?_))
    have := hR _ (Fr.refl _ _)
    rwa [decide_eq_false (fun h => hl (by rw [h]))] at this
theorem sl_Clone {a : Value} {xs : List UInt8} (ha : Arr encB 1 w a xs) (hn : xs.length < 1000000000) (hR : ∀ w' v G, Slc encB 1 w' v xs G → (∀ b ∈ G, hsz w ≤ b) → Fr [] w w' → R v w') :
    CALL PR F_slices_Clone_byte_byte [a] w R := by
  refine C_slices_Clone_byte_byte ?_
  unfold M_slices_Clone_byte_byte
  have ha' := ha
  obtain ⟨ad, c, rfl, h⟩ := ha'
  cases ad with
  | none =>
    rcases h with rfl | ⟨b, o, cs, T, fz, e, _⟩
    · (repeat (first | refine BND_step (slc_is _ _ _) ?_ | refine gg ?_))
      exact hR _ _ [] (Slc.nil _ _ _) (by simp) (Fr.refl _ _)
    · cases e
  | some ad =>
    (repeat (first | refine BND_step (slc_is _ _ _) ?_ | refine gg ?_))
    refine copy_step (enc := encB) (ys := xs) (fun w1 f1 => (ha.fr f1 (by simp)).src encB_len (by omega)) encB_len encB_one rfl (by omega) (by omega) fun v' w' G s hG f => ?_
    (repeat refine gg ?_)
    exact hR _ _ _ s hG f
theorem sl_Concat {sv : Value} {xs : List (SV × List UInt8)} {G : List Nat} (hs : Slc encV 1 w sv (xs.map (·.1)) G) (hx : ∀ p ∈ xs, Arr encB 1 w p.1.v p.2) (hn : lensOf xs < 1000000000) (hn2 : xs.length < 1000)
    (hR : ∀ w' v G, Slc encB 1 w' v (xs.flatMap (·.2)) G → (∀ b ∈ G, hsz w ≤ b) → Fr [] w w' → R v w') : CALL PR F_slices_Concat_byte_byte [sv] w R := by
  refine C_slices_Concat_byte_byte ?_
  unfold M_slices_Concat_byte_byte
  have hl := hs.len
  rw [List.length_map] at hl
  (repeat refine gg ?_)
  refine loop_up2 (o := .int .i64 0) 0 xs.length (fun o i w' => o = .int .i64 ((lensOf (xs.take i) : Nat) : Int) ∧ w' = w) ⟨rfl, rfl⟩ (by omega) ?_
  rintro o i w1 - hi ⟨rfl, rfl⟩ J m hJ
  have hle := lensOf_le xs i
  by_cases hlt : i < xs.length
  · have hxi := List.getElem?_eq_getElem hlt
    have hm := List.getElem_mem hlt
    generalize xs[i] = p at hxi hm
    obtain ⟨b, o, ia, _, _, l1⟩ := hs.arr.spot (i := i) (x := p.1) (by rw [List.getElem?_map, hxi]; rfl) rfl .i64
    have hst : lensOf (xs.take (i + 1)) = lensOf (xs.take i) + p.2.length := by
      unfold lensOf; rw [List.take_add_one, hxi]; simp
    have hle2 := lensOf_le xs (i + 1)
    (repeat (first | (apply BND_step; exact (l1 (w' := w1) rfl (j := 0) rfl)) | refine BND_step (hx p hm).len ?_ | refine BND_step (addn_ (n := lensOf (xs.take i)) (m := p.2.length) (by omega)) ?_ | refine gg ?_))
    exact hJ _ _ hlt ⟨by rw [hst], rfl⟩
  · (repeat refine gg ?_)
    refine grow_sl _ (by omega) fun w2 v2 G2 s2 g2 f2 => ?_
    (repeat refine gg ?_)
    refine loop_up2 (o := v2) 0 xs.length (fun o i w' => ∃ H, Slc encB 1 w' o ((xs.take i).flatMap (·.2)) H ∧ (∀ b ∈ H, hsz w1 ≤ b) ∧ Fr [] w1 w') ⟨G2, by simpa using s2, g2, f2⟩ (by omega) ?_
    rintro o k w3 - hk ⟨H, s3, h3, f3⟩ J2 m2 hJ2
    by_cases hlt2 : k < xs.length
    · have hxi := List.getElem?_eq_getElem hlt2
      have hm := List.getElem_mem hlt2
      generalize xs[k] = p at hxi hm
      obtain ⟨b, o2, ia, _, _, l1⟩ := (hs.fr f3 (by simp)).arr.spot (i := k) (x := p.1) (by rw [List.getElem?_map, hxi]; rfl) rfl .i64
      have hst : (xs.take (k + 1)).flatMap (·.2) = (xs.take k).flatMap (·.2) ++ p.2 := by rw [List.take_add_one, hxi]; simp
      have hl1 := lensOf_flat (xs.take (k + 1))
      have hle2 := lensOf_le xs (k + 1)
      rw [hst, List.length_append] at hl1
      (repeat (first | (apply BND_step; exact (l1 (w' := w3) rfl (j := 0) rfl)) | refine gg ?_))
      refine APPEND_slc s3 (((hx p hm).fr f3 (by simp)).src encB_len (by omega)) encB_len encB_one rfl (by omega) (by omega) fun v4 w4 G4 s4 f4 sub4 => ?_
      (repeat refine gg ?_)
      refine hJ2 _ _ hlt2 ⟨G4, by rw [hst]; exact s4, fun b hb => ?_, f3.trans f4 fun b hb => .inr (h3 b hb)⟩
      rcases sub4 b hb with hq | hq
      · exact h3 b hq
      · have := f3.grow; omega
    · (repeat refine gg ?_)
      rw [List.take_of_length_le (by omega)] at s3
      exact hR _ _ _ s3 h3 f3
theorem sum_Put {bv : Value} {bs : List UInt8} (hb : Arr encB 1 w bv bs) (hn : bs.length < 100000000) (hR : ∀ w' v G, Slc encB 1 w' v (putS bs) G → (∀ b ∈ G, hsz w ≤ b) → Fr [] w w' → R v w') : CALL PR F_sum_Put [bv] w R := by
  refine C_sum_Put ?_
  unfold M_sum_Put
  refine sum_Of hb (by omega) fun w1 f1 => ?_
  refine sum_four _ fun w2 v2 G2 s2 g2 f2 => ?_
  obtain ⟨x, rfl⟩ := hb.sv
  obtain ⟨y, rfl⟩ := slc_sv s2
  have f02 := f1.trans' f2
  refine newparts_step encV_len (val := SV.v) (fun _ => rfl) [x, y] rfl rfl fun t w3 s3 f3 z3 => ?_
  have f03 := f02.trans' f3
  refine sl_Concat (xs := [(x, bs), (y, four (crcOf bs))]) s3 (fun p hp => ?_) (by simp [lensOf, four_len]; omega) (by simp) fun w4 v4 G4 s4 g4 f4 => ?_
  · simp only [List.mem_cons, List.not_mem_nil, or_false] at hp
    rcases hp with rfl | rfl
    · exact hb.fr f03 (by simp)
    · exact (s2.fr f3 (by simp)).arr
  · (repeat refine gg ?_)
    refine hR _ _ G4 (by simpa [putS] using s4) (fun b hb => ?_) (f03.trans' f4)
    have := g4 b hb; have := f03.grow; omega
theorem sum_Cut {bv : Value} {bs : List UInt8} (hb : ArrC encB 1 w bv bs) (hn : bs.length < 100000000) (hR0 : ∀ w', Fr [] w w' → cutS bs = none → R (.tuple #[.slice none 0 0, .bool false]) w')
    (hR : ∀ w' v G b, cutS bs = some b → Slc encB 1 w' v b G → (∀ b ∈ G, hsz w ≤ b) → Fr [] w w' → R (.tuple #[v, .bool true]) w') : CALL PR F_sum_Cut [bv] w R := by
  refine C_sum_Cut ?_
  unfold M_sum_Cut
  have esub : binv .int .sub (.int .i64 (bs.length : Int)) (.int .i64 4) = some (.int .i64 ((bs.length : Int) - 4)) := by rw [binv_sub, wrap_i64 (by omega) (by omega)]
  unfold cutS at hR hR0
  by_cases h4 : bs.length < 4
  · (repeat (first | refine BND_step hb.len ?_ | refine gg ?_))
    exact hR0 _ (Fr.drew _ _) (by rw [if_pos h4])
  rw [show (bs.length : Int) - 4 = ((bs.length - 4 : Nat) : Int) by omega] at esub
  rw [if_neg h4] at hR hR0
  obtain ⟨va, ea, aa⟩ := hb.from (lo := bs.length - 4) (by omega)
  obtain ⟨vb, eb, ab⟩ := hb.to (hi := bs.length - 4) (by omega)
  (repeat (first | refine BND_step hb.len ?_ | refine gg ?_))
  have ab' := ab.fr (Fr.drew [] w) (by simp)
  refine sum_Of ab'.arr (by rw [List.length_take]; omega) fun w1 f1 => ?_
  (repeat refine gg ?_)
  refine sum_four _ fun w2 v2 G2 s2 g2 f2 => ?_
  have f02 := ((Fr.drew [] w).trans' f1).trans' f2
  (repeat refine gg ?_)
  refine sl_Equal (aa.fr f02 (by simp)).arr s2.arr (by rw [List.length_drop]; omega) fun w3 f3 => ?_
  have f03 := f02.trans' f3
  by_cases he : bs.drop (bs.length - 4) = four (crcOf (bs.take (bs.length - 4)))
  · rw [decide_eq_true he]
    rw [if_pos he] at hR
    (repeat refine gg ?_)
    refine sl_Clone (ab.fr f03 (by simp)).arr (by rw [List.length_take]; omega) fun w4 v4 G4 s4 g4 f4 => ?_
    (repeat refine gg ?_)
    exact hR _ _ G4 _ rfl s4 (fun b hb => by have := g4 b hb; have := f03.grow; omega) (f03.trans' f4)
  · rw [decide_eq_false he]
    rw [if_neg he] at hR0
    (repeat refine gg ?_)
    exact hR0 _ f03 rfl
end
end Go.Proofs.YtmefbneoljpbgaaGreatDoor
