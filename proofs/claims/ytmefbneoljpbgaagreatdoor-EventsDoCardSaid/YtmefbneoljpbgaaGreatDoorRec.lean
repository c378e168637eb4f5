
/- Records, walked. No condition but sizes. -/
import Derived.Test.YtmefbneoljpbgaaGreatDoorRecP
import Derived.Test.YtmefbneoljpbgaaGreatDoorMa
namespace Go.Proofs.YtmefbneoljpbgaaGreatDoor
open Go.Den Go.Disk Go.Vint Go.Crc Go.Frame Go.Rec
def txB (l : List UInt8) : ByteArray := ⟨l.toArray⟩
def encRc (x : Int × SV × ByteArray) : List Value := [.int .i64 x.1, x.2.1.v, .string x.2.2]
theorem encRc_len (x : Int × SV × ByteArray) : (encRc x).length = 3 := rfl
theorem encRc_one (x : Int × SV × ByteArray) : ∀ u ∈ encRc x, u.oneCell' = true := by intro u hu; simp [encRc] at hu; rcases hu with rfl | rfl | rfl <;> rfl
def encO (x : Nat) : List Value := [.int .i64 (x : Int)]
theorem encO_len (x : Nat) : (encO x).length = 1 := rfl
theorem encO_one (x : Nat) : ∀ u ∈ encO x, u.oneCell' = true := by intro u hu; simp [encO] at hu; subst hu; rfl
theorem flat_encB (l : List UInt8) : flat encB l = l.map fun b => Value.int .u8 (b.toNat : Int) := by
  induction l with
  | nil => rfl
  | cons a l ih => simp [flat, encB] at *; exact ih
theorem str_src (w : World) (s : ByteArray) : cellsOfArg w 1 (.string s) = some (flat encB s.data.toList, s.data.toList.length) := by
  rw [flat_encB]
  show some _ = _
  congr 2
theorem intsOf_u8 (l : List UInt8) : intsOf .u8 (l.map fun b => Value.int .u8 (b.toNat : Int)) = some (l.map fun b => (b.toNat : Int)) := by
  induction l with
  | nil => rfl
  | cons a l ih => simp [intsOf, ih]
theorem text_fold : ∀ (l : List UInt8) (r : ByteArray), (l.map fun b => (b.toNat : Int)).foldl (fun r n => r.push (UInt8.ofNat n.toNat)) r = ⟨r.data ++ l.toArray⟩
  | [], r => by simp
  | a :: l, r => by
    simp only [List.map_cons, List.foldl_cons]
    rw [text_fold l]
    apply ByteArray.ext
    simp [ByteArray.push]
theorem textB {w : World} {v : Value} {bs : List UInt8} (h : Arr encB 1 w v bs) : textv .u8 textOfBytes w v = some (.string (txB bs)) := by
  have hs := h.src encB_len (by omega)
  obtain ⟨a, c, rfl, h2⟩ := h
  cases a with
  | none =>
    rcases h2 with rfl | ⟨b, o, cs, T, fz, e, _⟩
    · rfl
    · cases e
  | some a =>
    simp only [cellsOfArg, Nat.mul_one, Option.map_eq_some_iff, Prod.mk.injEq] at hs
    obtain ⟨vs, h1, rfl, _⟩ := hs
    simp only [textv, h1, Option.bind_some, flat_encB, intsOf_u8, Option.map_some]
    congr 2
    unfold textOfBytes
    rw [text_fold]
    apply ByteArray.ext
    simp [txB]
def manyV : List Value := manyL.map fun n : Nat => .int .i64 (n : Int)
theorem many_at {k : Nat} (h : k < 18) : indexav false 18 1 (.agg manyV.toArray) (.int .i64 (k : Int)) = some (.int .i64 ((manyOf k : Nat) : Int)) := by
  simp only [indexav]
  rw [if_pos ⟨by omega, by omega⟩]
  have e : manyV[k]? = some (.int .i64 ((manyOf k : Nat) : Int)) := by
    have hl : k < manyL.length := h
    unfold manyV manyOf
    rw [List.getElem?_map, List.getD_eq_getElem?_getD, List.getElem?_eq_getElem hl]
    rfl
  simpa using e
set_option linter.unusedSimpArgs false
set_option linter.unusedVariables false
set_option maxRecDepth 20000
set_option maxHeartbeats 4000000
attribute [local congr] BND_cg COND_cg GEF_cg
attribute [local irreducible] capl slicea load1 loadn iaddr iaddra faddr storev newslice binv lookv mupd mdel mlenv mentry mestore slicev slicev3 slices indexs indexav textv rangev nexts clearv shiftv eqaggv convi buildv pickv lens lenl unv nilchk extractv partn JOIN
section
variable {w : World} {R : Value → World → Prop}
theorem rec_known (k : Int) (hR : R (.bool (knownB k)) w) : CALL PR F_record_known [.int .i64 k] w R := by
  refine C_record_known ?_
  unfold M_record_known
  unfold knownB at hR
  by_cases h1 : 1 ≤ k
  · (repeat refine gg ?_)
    rw [decide_eq_true h1, Bool.true_and] at hR
    exact hR
  · (repeat refine gg ?_)
    rw [decide_eq_false h1, Bool.false_and] at hR
    exact hR
theorem rec_worded (k : Int) (hR : R (.bool (wordedB k)) w) : CALL PR F_record_worded [.int .i64 k] w R := by
  refine C_record_worded ?_
  unfold M_record_worded
  unfold wordedB at hR
  by_cases h1 : k = 10
  · (repeat refine gg ?_)
    simpa [h1] using hR
  · by_cases h2 : k = 11
    · (repeat refine gg ?_)
      simpa [h1, h2] using hR
    · (repeat refine gg ?_)
      simpa [h1, h2] using hR
theorem rec_fits (k : Int) (m : Nat) (hR : R (.bool (fitsB k m)) w) : CALL PR F_record_fits [.int .i64 k, .int .i64 (m : Int)] w R := by
  refine C_record_fits ?_
  unfold M_record_fits
  unfold fitsB at hR
  by_cases h1 : (m : Int) = 0
  · (repeat refine gg ?_)
    rw [decide_eq_true (show m = 0 by omega), Bool.true_or] at hR
    exact hR
  · rw [decide_eq_false (show ¬ m = 0 by omega), Bool.false_or] at hR
    (repeat refine gg ?_)
    refine rec_worded k ?_
    cases hw : wordedB k with
    | true =>
      rw [hw, Bool.true_and] at hR
      (repeat refine gg ?_)
      have e : decide ((m : Int) ≤ 64) = decide (m ≤ 64) := by rw [decide_eq_decide]; omega
      rw [e]
      exact hR
    | false =>
      rw [hw, Bool.false_and] at hR
      (repeat refine gg ?_)
      exact hR
theorem rec_numbers (hR : ∀ w', Fr [] w w' → R (.agg manyV.toArray) w') : CALL PR F_record_numbers [] w R := by
  refine C_record_numbers ?_
  unfold M_record_numbers
  refine NEW_intro fun w1 b1 f1 z1 => ?_
  (repeat (first | refine gg ?_ | (apply BND_build (manyV); exact rfl)))
  refine put_step (n := 18) (vs := manyV) b1 (by simp [Value.cells]) rfl (by intro u hu; obtain ⟨_, _, rfl⟩ := List.mem_map.1 hu; rfl) (by simp [manyV, manyL]) fun w2 b2 f2 _ => ?_
  (repeat (first | refine BND_step (loadn_all' b2 rfl) ?_ | refine gg ?_))
  exact hR _ (f1.trans f2 (by simp))
theorem rec_Right {nv : SV} {ns : List Nat} (k : Int) (t : ByteArray) (hn : Arr encU 1 w nv.v ns) (hR : ∀ w', Fr [] w w' → R (.bool (rightB k ns.length t.size)) w') : CALL PR F_record_Right [.agg (encRc (k, nv, t)).toArray] w R := by
  refine C_record_Right ?_
  unfold M_record_Right
  refine NEW_intro fun w1 b1 f1 z1 => ?_
  replace b1 : blk w1.drew (hsz w) = some (.cells (encRc (k, nv, t)).toArray 86 (0, 0)) := b1
  have f1d := f1.trans' (Fr.drew [] w1)
  unfold rightB at hR
  refine ⟨fun _ w' => blk w' (hsz w) = some (.cells (encRc (k, nv, t)).toArray 86 (0, 0)), b1, b1, ?_⟩
  (repeat refine gg ?_)
  refine rec_known k ?_
  refine ⟨b1, b1, ?_⟩
  cases hk : knownB k with
  | false =>
    rw [hk, Bool.false_and, Bool.false_and] at hR
    (repeat refine gg ?_)
    refine ⟨undef, fun _ _ => rfl, ?_⟩
    (repeat refine gg ?_)
    refine ⟨undef, fun _ _ => rfl, ?_⟩
    (repeat refine gg ?_)
    refine ⟨b1, b1, ?_⟩
    (repeat refine gg ?_)
    exact hR _ f1d
  | true =>
    rw [hk, Bool.true_and] at hR
    obtain ⟨hk1, hk2⟩ : 1 ≤ k ∧ k ≤ 17 := by unfold knownB at hk; simpa using hk
    obtain ⟨kn, rfl⟩ : ∃ kn : Nat, k = (kn : Int) := ⟨k.toNat, by omega⟩
    (repeat (first | refine BND_step hn.len ?_ | refine gg ?_))
    refine rec_numbers fun w3 f3 => ?_
    have b3 := f3.some (by simp) b1
    refine ⟨b3, b3, ?_⟩
    (repeat (first | refine BND_step (many_at (k := kn) (by omega)) ?_ | refine gg ?_))
    have e : decide ((ns.length : Int) = ((manyOf kn : Nat) : Int)) = decide (ns.length = manyOf (kn : Int).toNat) := by rw [decide_eq_decide]; simp; omega
    rw [e]
    by_cases hm : ns.length = manyOf (kn : Int).toNat
    · rw [decide_eq_true hm, Bool.true_and] at hR
      rw [decide_eq_true hm]
      (repeat refine gg ?_)
      refine rec_fits _ _ ?_
      (repeat refine gg ?_)
      exact hR _ (f1d.trans' f3)
    · rw [decide_eq_false hm, Bool.false_and] at hR
      rw [decide_eq_false hm]
      (repeat refine gg ?_)
      exact hR _ (f1d.trans' f3)
theorem rec_Bytes {nv : SV} {ns : List Nat} (k : Int) (t : ByteArray) (hn : Arr encU 1 w nv.v ns) (hs : ∀ n ∈ ns, n < 18446744073709551616) (hR0 : ∀ w', rightB k ns.length t.size = false → Fr [] w w' → R (.tuple #[.slice none 0 0, .int .i64 1]) w')
    (hR : ∀ w' v G, rightB k ns.length t.size = true → Slc encB 1 w' v (recB k.toNat ns t.data.toList) G → (∀ b ∈ G, hsz w ≤ b) → Fr [] w w' → R (.tuple #[v, .int .i64 0]) w') : CALL PR F_record_Bytes [.agg (encRc (k, nv, t)).toArray] w R := by
  refine C_record_Bytes ?_
  unfold M_record_Bytes
  have htl : t.data.toList.length = t.size := Array.length_toList
  refine NEW_intro fun w1 b1 f1 z1 => ?_
  replace b1 : blk w1 (hsz w) = some (.cells (encRc (k, nv, t)).toArray 86 (0, 0)) := b1
  (repeat (first | refine BND_step (loadn_all' b1 rfl) ?_ | refine gg ?_))
  refine rec_Right k t (hn.fr f1 (by simp)) fun w2 f2 => ?_
  have f02 := f1.trans' f2
  have b2 := f2.some (by simp) b1
  replace b2 : blk w2.drew (hsz w) = some (.cells (encRc (k, nv, t)).toArray 86 (0, 0)) := b2
  cases hr : rightB k ns.length t.size with
  | false =>
    (repeat refine gg ?_)
    exact hR0 _ hr f02
  | true =>
    obtain ⟨hk1, hk2, hm, hf⟩ := right_known hr
    have hsm := body_small (t := t.data.toList) (by rw [htl]; exact hr) hs
    obtain ⟨kn, rfl⟩ : ∃ kn : Nat, k = (kn : Int) := ⟨k.toNat, by omega⟩
    have f02d := f02.trans' (Fr.drew [] w2)
    (repeat refine gg ?_)
    refine ⟨fun _ w' => blk w' (hsz w) = some (.cells (encRc ((kn : Int), nv, t)).toArray 86 (0, 0)), b2, b2, ?_⟩
    have e8 := conv8i kn
    rw [Nat.mod_eq_of_lt (show kn < 256 by omega)] at e8
    have ek : ((kn : Nat) : Int) = ((UInt8.ofNat kn).toNat : Int) := by rw [ofNat_toNat (by omega)]
    (repeat refine gg ?_)
    refine vint_All (hn.fr f02d (by simp)) hs (by have := manyOf_le (kn : Int).toNat; omega) fun w3 v3 G3 s3 g3 f3 => ?_
    have b3 := f3.some (by simp) b2
    refine ⟨b3, b3, ?_⟩
    have hlb : (ns.flatMap layV).length + t.data.toList.length = (bodyOf_ ns t.data.toList).length := by unfold bodyOf_; rw [List.length_append]
    refine APPEND_slc s3 (str_src w3 t) encB_len encB_one rfl (by omega) (by omega) fun v4 w4 G4 s4 f4 sub4 => ?_
    have e2 : hsz w2.drew = hsz w2 := rfl
    have gr2 := f02.grow
    have gr3 := f3.grow
    have b4 := f4.some (fun hb => by have := g3 _ hb; have := blk_lt b2; omega) b3
    refine ⟨b4, ?_⟩
    obtain ⟨x4, rfl⟩ := slc_sv s4
    (repeat (first | refine gg ?_ | (apply BND_build ([.int .u8 (kn : Int), x4.v]); exact rfl)))
    rw [show ([Value.int .u8 (kn : Int), x4.v] : List Value) = encFr (UInt8.ofNat kn, x4) by unfold encFr; rw [← ek]]
    have f24 : Fr [] w2.drew w4 := f3.trans f4 fun b hb => .inr (g3 b hb)
    refine frame_Bytes (body := bodyOf_ ns t.data.toList) s4.arr (by omega) (fun w5 h5 _ => by omega) fun w5 v5 G5 _ s5 g5 f5 => ?_
    (repeat refine gg ?_)
    refine hR _ _ G5 hr s5 (fun b hb => ?_) ((f02d.trans' f24).trans' f5)
    have := g5 b hb; have := f24.grow; omega
end
end Go.Proofs.YtmefbneoljpbgaaGreatDoor
