/- Records, in plain words. No condition. Records, walked. No condition but sizes. Records read, walked. No condition but sizes. A directory's names, sorted (slices.Sorted of maps.Keys); maps.Clone: by the kit's contracts. No condition but sizes. A disk's directory changed, its files changed: what the calls are made of. No condition but sizes. A disk's calls: change, named, Create, Delete, Rename, DirSync, Names, New. No condition but sizes. A disk's calls: Create, Delete, Rename, DirSync, Names, New. No condition but sizes. A disk's calls: Delete, Rename, DirSync, Names, New. No condition but sizes. A disk's calls: New, Read, Sync, Cut. No condition but sizes. A map ranged over: its iterator in memory, what a step does. No condition but sizes. A disk's bytes held: each file once. No condition but sizes. A disk's calls: Append. No condition but sizes. A disk's calls: Crash. No condition but sizes. A disk, in plain words: what always holds is kept by each call. No condition. An act upon a disk, in plain words. No condition but sizes. A disk, in plain words: never more held than there is room; a file has one name at a time. No condition. A disk, in plain words: each act keeps what always holds; what is held behind a crash. No condition. A root, in plain words: what is written, and read. No condition. Helps for walks upon disks. No condition. A root written and read, walked. No condition but sizes. How roots that came in read. No condition. Acts upon a root that came in. No condition. How acts upon a root that came in read. No condition. A root read, walked. No condition but sizes. What comes of acts upon a root, in plain words. Conditions: sizes. -/
import Derived.Test.YtofllgbdphakiaaGreatGh
import Derived.Test.YtofllgbdphakiaaGreatMa
import Derived.Lib.SmallJoins
set_option linter.unusedVariables false
set_option linter.unusedSimpArgs false
section
namespace Go.Rec
open Go.Den Go.Crc Go.Frame Go.Vint
structure Rc where
  kind : Nat
  n : List Nat
  text : List UInt8
def zeroR : Rc := ⟨0, [], []⟩
def manyL : List Nat := [0, 0, 5, 2, 1, 2, 2, 1, 1, 1, 1, 1, 5, 7, 10, 2, 1, 1]
def manyOf (k : Nat) : Nat := manyL.getD k 0
def knownB (k : Int) : Bool := decide (1 ≤ k) && decide (k ≤ 17)
def wordedB (k : Int) : Bool := decide (k = 10) || decide (k = 11) || decide (k = 16)
def fitsB (k : Int) (m : Nat) : Bool := decide (m = 0) || (wordedB k && decide (m ≤ 64))
def rightB (k : Int) (n m : Nat) : Bool := knownB k && decide (n = manyOf k.toNat) && fitsB k m
theorem manyOf_le (k : Nat) : manyOf k ≤ 10 := by
  unfold manyOf
  rw [List.getD_eq_getElem?_getD]
  cases h : manyL[k]? with
  | none => simp
  | some x =>
    have := List.mem_of_getElem? h
    simp only [manyL, List.mem_cons, List.not_mem_nil, or_false] at this
    simp; omega
def bodyOf_ (ns : List Nat) (text : List UInt8) : List UInt8 := ns.flatMap layV ++ text
theorem flat_len10 (ns : List Nat) (h : ∀ n ∈ ns, n < 18446744073709551616) : (ns.flatMap layV).length ≤ ns.length * 10 := by
  induction ns with
  | nil => simp
  | cons a ns ih =>
    have h1 := layV_le a (h a (by simp))
    have h2 := ih fun n hn => h n (by simp [hn])
    simp only [List.flatMap_cons, List.length_append, List.length_cons, Nat.add_mul]; omega
theorem right_known {k : Int} {n m : Nat} (h : rightB k n m = true) : 1 ≤ k ∧ k ≤ 17 ∧ n = manyOf k.toNat ∧ fitsB k m = true := by
  unfold rightB knownB at h
  simp only [Bool.and_eq_true, decide_eq_true_eq] at h
  exact ⟨h.1.1.1, h.1.1.2, h.1.2, h.2⟩
theorem fits_le {k : Int} {m : Nat} (h : fitsB k m = true) : m ≤ 64 := by
  unfold fitsB at h
  simp only [Bool.or_eq_true, Bool.and_eq_true, decide_eq_true_eq] at h
  omega
theorem body_small {k : Int} {ns : List Nat} {t : List UInt8} (h : rightB k ns.length t.length = true) (hs : ∀ n ∈ ns, n < 18446744073709551616) : (bodyOf_ ns t).length ≤ 164 := by
  obtain ⟨_, _, h1, h2⟩ := right_known h
  have h3 := flat_len10 ns hs
  have h4 := manyOf_le k.toNat
  have h5 := fits_le h2
  unfold bodyOf_
  rw [List.length_append]
  omega
def readN : Nat → List UInt8 → List Nat × List UInt8 × Int
  | 0, rest => ([], rest, 0)
  | m + 1, rest => if (getV rest).2.2 = 0 then ((getV rest).1 :: (readN m (rest.drop (getV rest).2.1)).1, (readN m (rest.drop (getV rest).2.1)).2) else ([], [], (getV rest).2.2)
def recRead (x : Fra) : Rc × Int :=
  if knownB x.1.toNat = false then (zeroR, 2) else
  if (readN (manyOf x.1.toNat) x.2).2.2 = 0 then
    (if fitsB x.1.toNat (readN (manyOf x.1.toNat) x.2).2.1.length = true then (⟨x.1.toNat, (readN (manyOf x.1.toNat) x.2).1, (readN (manyOf x.1.toNat) x.2).2.1⟩, 0) else (zeroR, 2))
  else (zeroR, (readN (manyOf x.1.toNat) x.2).2.2)
theorem readN_lay : ∀ (ns : List Nat) (t : List UInt8), (∀ n ∈ ns, n < 18446744073709551616) → readN ns.length (bodyOf_ ns t) = (ns, t, 0)
  | [], t, _ => rfl
  | a :: ns, t, h => by
    have e : bodyOf_ (a :: ns) t = layV a ++ bodyOf_ ns t := by unfold bodyOf_; simp
    have hg := get_put a (h a (by simp)) (bodyOf_ ns t)
    simp only [List.length_cons, readN]
    rw [e, hg]
    simp only [if_true, List.drop_left]
    rw [readN_lay ns t fun n hn => h n (by simp [hn])]
def toFra (k : Nat) (ns : List Nat) (t : List UInt8) : Fra := (UInt8.ofNat k, bodyOf_ ns t)
theorem recRead_of {k : Nat} {ns : List Nat} {t : List UInt8} (h : rightB k ns.length t.length = true) (hs : ∀ n ∈ ns, n < 18446744073709551616) : recRead (toFra k ns t) = (⟨k, ns, t⟩, 0) := by
  obtain ⟨h1, h2, h3, h4⟩ := right_known h
  unfold recRead toFra
  have e : (UInt8.ofNat k).toNat = k := ofNat_toNat (by omega)
  simp only [e]
  have hk : knownB (k : Int) = true := by unfold knownB; simp; omega
  rw [if_neg (by rw [hk]; simp)]
  have h3' : manyOf k = ns.length := by rw [h3]; simp
  rw [h3', readN_lay ns t hs]
  simp [h4]
def recAllF : List Fra → Nat → Int → List Rc × List Nat × Int
  | [], _, e => ([], [], e)
  | x :: r, k, e => if (recRead x).2 = 0 then ((recRead x).1 :: (recAllF r (k + (11 + x.2.length)) e).1, (k + (11 + x.2.length)) :: (recAllF r (k + (11 + x.2.length)) e).2.1, (recAllF r (k + (11 + x.2.length)) e).2.2) else ([], [], (recRead x).2)
def recAll (b : List UInt8) : List Rc × List Nat × Int := recAllF (frAll b 0).1 0 (frAll b 0).2.2
def recB (k : Nat) (ns : List Nat) (t : List UInt8) : List UInt8 := frB (toFra k ns t)
theorem recAll_one {k : Nat} {ns : List Nat} {t : List UInt8} (h : rightB k ns.length t.length = true) (hs : ∀ n ∈ ns, n < 18446744073709551616) : recAll (recB k ns t) = ([⟨k, ns, t⟩], [(recB k ns t).length], 0) := by
  have hb := body_small h hs
  have e := frAll_cons (toFra k ns t) (by unfold toFra; simp only; omega) [] 0
  rw [List.append_nil, frAll_nil] at e
  unfold recAll
  rw [show recB k ns t = frB (toFra k ns t) from rfl, e]
  simp only [recAllF, recRead_of h hs, if_true, frB_len]
  simp
theorem readN_good : ∀ (m : Nat) (b : List UInt8), (readN m b).2.2 = 0 → (readN m b).1.length = m ∧ (∀ n ∈ (readN m b).1, n < 18446744073709551616) ∧ (readN m b).2.1.length ≤ b.length
  | 0, b, _ => by simp [readN]
  | m + 1, b, h => by
    simp only [readN] at h ⊢
    by_cases hg : (getV b).2.2 = 0
    · rw [if_pos hg] at h ⊢
      obtain ⟨h1, h2, h3⟩ := readN_good m _ h
      refine ⟨by simp [h1], fun n hn => ?_, by simp only; rw [List.length_drop] at h3; omega⟩
      rcases List.mem_cons.1 hn with rfl | hn
      · exact getL_small b 0 0 (by simp) (by omega)
      · exact h2 n hn
    · rw [if_neg hg] at h; exact absurd h hg
theorem recRead_good {x : Fra} (h : (recRead x).2 = 0) : rightB (recRead x).1.kind (recRead x).1.n.length (recRead x).1.text.length = true ∧ ∀ n ∈ (recRead x).1.n, n < 18446744073709551616 := by
  unfold recRead at h ⊢
  by_cases h1 : knownB x.1.toNat = false
  · rw [if_pos h1] at h; simp at h
  · rw [if_neg h1] at h ⊢
    by_cases h2 : (readN (manyOf x.1.toNat) x.2).2.2 = 0
    · rw [if_pos h2] at h ⊢
      obtain ⟨g1, g2, g3⟩ := readN_good _ _ h2
      by_cases h3 : fitsB x.1.toNat (readN (manyOf x.1.toNat) x.2).2.1.length = true
      · rw [if_pos h3]
        refine ⟨?_, g2⟩
        unfold rightB
        simp only [g1, h3]
        simp at h1
        simp [h1]
      · rw [if_neg h3] at h; simp at h
    · rw [if_neg h2] at h; exact absurd h h2
end Go.Rec
end

section
namespace Go.Proofs.YtofllgbdphakiaaGreat
open Go.Den Go.Disk Go.Vint Go.Crc Go.Frame Go.Rec
def txB (l : List UInt8) : ByteArray := ⟨l.toArray⟩
def encRc (x : Int × SV × ByteArray) : List Value := [.int .i64 x.1, x.2.1.v, .string x.2.2]
theorem encRc_len (x : Int × SV × ByteArray) : (encRc x).length = 3 := rfl
theorem encRc_one (x : Int × SV × ByteArray) : ∀ u ∈ encRc x, u.oneCell' = true := by intro u hu; simp [encRc] at hu; rcases hu with rfl | rfl | rfl <;> rfl
def encO (x : Nat) : List Value := [.int .i64 (x : Int)]
theorem encO_len (x : Nat) : (encO x).length = 1 := rfl
theorem encO_one (x : Nat) : ∀ u ∈ encO x, u.oneCell' = true := by intro u hu; simp [encO] at hu; subst hu; rfl
theorem flat_encB (l : List UInt8) : flat encB l = l.map fun b => Value.int .u8 (b.toNat : Int) := by
  induction l with
  | nil => rfl
  | cons a l ih => simp [flat, encB] at *; exact ih
theorem str_src (w : World) (s : ByteArray) : cellsOfArg w 1 (.string s) = some (flat encB s.data.toList, s.data.toList.length) := by
  rw [flat_encB]
  show some _ = _
  congr 2
theorem intsOf_u8 (l : List UInt8) : intsOf .u8 (l.map fun b => Value.int .u8 (b.toNat : Int)) = some (l.map fun b => (b.toNat : Int)) := by
  induction l with
  | nil => rfl
  | cons a l ih => simp [intsOf, ih]
theorem text_fold : ∀ (l : List UInt8) (r : ByteArray), (l.map fun b => (b.toNat : Int)).foldl (fun r n => r.push (UInt8.ofNat n.toNat)) r = ⟨r.data ++ l.toArray⟩
  | [], r => by simp
  | a :: l, r => by
    simp only [List.map_cons, List.foldl_cons]
    rw [text_fold l]
    apply ByteArray.ext
    simp [ByteArray.push]
theorem textB {w : World} {v : Value} {bs : List UInt8} (h : Arr encB 1 w v bs) : textv .u8 textOfBytes w v = some (.string (txB bs)) := by
  have hs := h.src encB_len (by omega)
  obtain ⟨a, c, rfl, h2⟩ := h
  cases a with
  | none =>
    rcases h2 with rfl | ⟨b, o, cs, T, fz, e, _⟩
    · rfl
    · cases e
  | some a =>
    simp only [cellsOfArg, Nat.mul_one, Option.map_eq_some_iff, Prod.mk.injEq] at hs
    obtain ⟨vs, h1, rfl, _⟩ := hs
    simp only [textv, h1, Option.bind_some, flat_encB, intsOf_u8, Option.map_some]
    congr 2
    unfold textOfBytes
    rw [text_fold]
    apply ByteArray.ext
    simp [txB]
def manyV : List Value := manyL.map fun n : Nat => .int .i64 (n : Int)
theorem many_at {k : Nat} (h : k < 18) : indexav false 18 1 (.agg manyV.toArray) (.int .i64 (k : Int)) = some (.int .i64 ((manyOf k : Nat) : Int)) := by
  simp only [indexav]
  rw [if_pos ⟨by omega, by omega⟩]
  have e : manyV[k]? = some (.int .i64 ((manyOf k : Nat) : Int)) := by
    have hl : k < manyL.length := h
    unfold manyV manyOf
    rw [List.getElem?_map, List.getD_eq_getElem?_getD, List.getElem?_eq_getElem hl]
    rfl
  simpa using e
set_option linter.unusedSimpArgs false
set_option linter.unusedVariables false
set_option maxRecDepth 20000
set_option maxHeartbeats 4000000
attribute [local congr] BND_cg COND_cg GEF_cg
attribute [local irreducible] capl slicea load1 loadn iaddr iaddra faddr storev newslice binv lookv mupd mdel mlenv mentry mestore slicev slicev3 slices indexs indexav textv rangev nexts clearv shiftv eqaggv convi buildv pickv lens lenl unv nilchk extractv partn JOIN
section
variable {w : World} {R : Value → World → Prop}
theorem rec_known (k : Int) (hR : R (.bool (knownB k)) w) : CALL PR F_record_known [.int .i64 k] w R := by
  refine C_record_known ?_
  unfold M_record_known
  unfold knownB at hR
  by_cases h1 : 1 ≤ k
  · (repeat refine gg ?_)
    rw [decide_eq_true h1, Bool.true_and] at hR
    exact hR
  · (repeat refine gg ?_)
    rw [decide_eq_false h1, Bool.false_and] at hR
    exact hR
theorem rec_worded (k : Int) (hR : R (.bool (wordedB k)) w) : CALL PR F_record_worded [.int .i64 k] w R := by
  refine C_record_worded ?_
  unfold M_record_worded
  unfold wordedB at hR
  by_cases h1 : k = 10
  · (repeat refine gg ?_)
    simpa [h1] using hR
  · by_cases h2 : k = 11
    · (repeat refine gg ?_)
      simpa [h1, h2] using hR
    · (repeat refine gg ?_)
      simpa [h1, h2] using hR
theorem rec_fits (k : Int) (m : Nat) (hR : R (.bool (fitsB k m)) w) : CALL PR F_record_fits [.int .i64 k, .int .i64 (m : Int)] w R := by
  refine C_record_fits ?_
  unfold M_record_fits
  unfold fitsB at hR
  by_cases h1 : (m : Int) = 0
  · (repeat refine gg ?_)
    rw [decide_eq_true (show m = 0 by omega), Bool.true_or] at hR
    exact hR
  · rw [decide_eq_false (show ¬ m = 0 by omega), Bool.false_or] at hR
    (repeat refine gg ?_)
    refine rec_worded k ?_
    cases hw : wordedB k with
    | true =>
      rw [hw, Bool.true_and] at hR
      (repeat refine gg ?_)
      have e : decide ((m : Int) ≤ 64) = decide (m ≤ 64) := by rw [decide_eq_decide]; omega
      rw [e]
      exact hR
    | false =>
      rw [hw, Bool.false_and] at hR
      (repeat refine gg ?_)
      exact hR
theorem rec_numbers (hR : ∀ w', Fr [] w w' → R (.agg manyV.toArray) w') : CALL PR F_record_numbers [] w R := by
  refine C_record_numbers ?_
  unfold M_record_numbers
  refine NEW_intro fun w1 b1 f1 z1 => ?_
  (repeat (first | refine gg ?_ | (apply BND_build (manyV); exact rfl)))
  refine put_step (n := 18) (vs := manyV) b1 (by simp [Value.cells]) rfl (by intro u hu; obtain ⟨_, _, rfl⟩ := List.mem_map.1 hu; rfl) (by simp [manyV, manyL]) fun w2 b2 f2 _ => ?_
  (repeat (first | refine BND_step (loadn_all' b2 rfl) ?_ | refine gg ?_))
  exact hR _ (f1.trans f2 (by simp))
theorem rec_Right {nv : SV} {ns : List Nat} (k : Int) (t : ByteArray) (hn : Arr encU 1 w nv.v ns) (hR : ∀ w', Fr [] w w' → R (.bool (rightB k ns.length t.size)) w') : CALL PR F_record_Right [.agg (encRc (k, nv, t)).toArray] w R := by
  refine C_record_Right ?_
  unfold M_record_Right
  refine NEW_intro fun w1 b1 f1 z1 => ?_
  replace b1 : blk w1.drew (hsz w) = some (.cells (encRc (k, nv, t)).toArray 77 (0, 0)) := b1
  have f1d := f1.trans' (Fr.drew [] w1)
  unfold rightB at hR
  refine ⟨fun _ w' => blk w' (hsz w) = some (.cells (encRc (k, nv, t)).toArray 77 (0, 0)), b1, b1, ?_⟩
  (repeat refine gg ?_)
  refine rec_known k ?_
  refine ⟨b1, b1, ?_⟩
  cases hk : knownB k with
  | false =>
    rw [hk, Bool.false_and, Bool.false_and] at hR
    (repeat refine gg ?_)
    refine ⟨undef, fun _ _ => rfl, ?_⟩
    (repeat refine gg ?_)
    refine ⟨undef, fun _ _ => rfl, ?_⟩
    (repeat refine gg ?_)
    refine ⟨b1, b1, ?_⟩
    (repeat refine gg ?_)
    exact hR _ f1d
  | true =>
    rw [hk, Bool.true_and] at hR
    obtain ⟨hk1, hk2⟩ : 1 ≤ k ∧ k ≤ 17 := by unfold knownB at hk; simpa using hk
    obtain ⟨kn, rfl⟩ : ∃ kn : Nat, k = (kn : Int) := ⟨k.toNat, by omega⟩
    (repeat (first | refine BND_step hn.len ?_ | refine gg ?_))
    refine rec_numbers fun w3 f3 => ?_
    have b3 := f3.some (by simp) b1
    refine ⟨b3, b3, ?_⟩
    (repeat (first | refine BND_step (many_at (k := kn) (by omega)) ?_ | refine gg ?_))
    have e : decide ((ns.length : Int) = ((manyOf kn : Nat) : Int)) = decide (ns.length = manyOf (kn : Int).toNat) := by rw [decide_eq_decide]; simp; omega
    rw [e]
    by_cases hm : ns.length = manyOf (kn : Int).toNat
    · rw [decide_eq_true hm, Bool.true_and] at hR
      rw [decide_eq_true hm]
      (repeat refine gg ?_)
      refine rec_fits _ _ ?_
      (repeat refine gg ?_)
      exact hR _ (f1d.trans' f3)
    · rw [decide_eq_false hm, Bool.false_and] at hR
      rw [decide_eq_false hm]
      (repeat refine gg ?_)
      exact hR _ (f1d.trans' f3)
theorem rec_Bytes {nv : SV} {ns : List Nat} (k : Int) (t : ByteArray) (hn : Arr encU 1 w nv.v ns) (hs : ∀ n ∈ ns, n < 18446744073709551616) (hR0 : ∀ w', rightB k ns.length t.size = false → Fr [] w w' → R (.tuple #[.slice none 0 0, .int .i64 1]) w')
    (hR : ∀ w' v G, rightB k ns.length t.size = true → Slc encB 1 w' v (recB k.toNat ns t.data.toList) G → (∀ b ∈ G, hsz w ≤ b) → Fr [] w w' → R (.tuple #[v, .int .i64 0]) w') : CALL PR F_record_Bytes [.agg (encRc (k, nv, t)).toArray] w R := by
  refine C_record_Bytes ?_
  unfold M_record_Bytes
  have htl : t.data.toList.length = t.size := Array.length_toList
  refine NEW_intro fun w1 b1 f1 z1 => ?_
  replace b1 : blk w1 (hsz w) = some (.cells (encRc (k, nv, t)).toArray 77 (0, 0)) := b1
  (repeat (first | refine BND_step (loadn_all' b1 rfl) ?_ | refine gg ?_))
  refine rec_Right k t (hn.fr f1 (by simp)) fun w2 f2 => ?_
  have f02 := f1.trans' f2
  have b2 := f2.some (by simp) b1
  replace b2 : blk w2.drew (hsz w) = some (.cells (encRc (k, nv, t)).toArray 77 (0, 0)) := b2
  cases hr : rightB k ns.length t.size with
  | false =>
    (repeat refine gg ?_)
    exact hR0 _ hr f02
  | true =>
    obtain ⟨hk1, hk2, hm, hf⟩ := right_known hr
    have hsm := body_small (t := t.data.toList) (by rw [htl]; exact hr) hs
    obtain ⟨kn, rfl⟩ : ∃ kn : Nat, k = (kn : Int) := ⟨k.toNat, by omega⟩
    have f02d := f02.trans' (Fr.drew [] w2)
    (repeat refine gg ?_)
    refine ⟨fun _ w' => blk w' (hsz w) = some (.cells (encRc ((kn : Int), nv, t)).toArray 77 (0, 0)), b2, b2, ?_⟩
    have e8 := conv8i kn
    rw [Nat.mod_eq_of_lt (show kn < 256 by omega)] at e8
    have ek : ((kn : Nat) : Int) = ((UInt8.ofNat kn).toNat : Int) := by rw [ofNat_toNat (by omega)]
    (repeat refine gg ?_)
    refine vint_All (hn.fr f02d (by simp)) hs (by have := manyOf_le (kn : Int).toNat; omega) fun w3 v3 G3 s3 g3 f3 => ?_
    have b3 := f3.some (by simp) b2
    refine ⟨b3, b3, ?_⟩
    have hlb : (ns.flatMap layV).length + t.data.toList.length = (bodyOf_ ns t.data.toList).length := by unfold bodyOf_; rw [List.length_append]
    refine APPEND_slc s3 (str_src w3 t) encB_len encB_one rfl (by omega) (by omega) fun v4 w4 G4 s4 f4 sub4 => ?_
    have e2 : hsz w2.drew = hsz w2 := rfl
    have gr2 := f02.grow
    have gr3 := f3.grow
    have b4 := f4.some (fun hb => by have := g3 _ hb; have := blk_lt b2; omega) b3
    refine ⟨b4, ?_⟩
    obtain ⟨x4, rfl⟩ := slc_sv s4
    (repeat (first | refine gg ?_ | (apply BND_build ([.int .u8 (kn : Int), x4.v]); exact rfl)))
    rw [show ([Value.int .u8 (kn : Int), x4.v] : List Value) = encFr (UInt8.ofNat kn, x4) by unfold encFr; rw [← ek]]
    have f24 : Fr [] w2.drew w4 := f3.trans f4 fun b hb => .inr (g3 b hb)
    refine frame_Bytes (body := bodyOf_ ns t.data.toList) s4.arr (by omega) (fun w5 h5 _ => by omega) fun w5 v5 G5 _ s5 g5 f5 => ?_
    (repeat refine gg ?_)
    refine hR _ _ G5 hr s5 (fun b hb => ?_) ((f02d.trans' f24).trans' f5)
    have := g5 b hb; have := f24.grow; omega
end
end Go.Proofs.YtofllgbdphakiaaGreat
end

section
namespace Go.Proofs.YtofllgbdphakiaaGreat
open Go.Den Go.Disk Go.Vint Go.Crc Go.Frame Go.Rec
/-- records in memory: the row, and each one's numbers. -/
def RecL (w : World) (v : Value) (xs : List Rc) (G B : List Nat) : Prop :=
  (∃ cs : List (Int × SV × ByteArray), Slc encRc 3 w v cs G ∧ cs.length = xs.length ∧ ∀ (i : Nat) (x : Rc), xs[i]? = some x → ∃ (s : SV) (H : List Nat), cs[i]? = some ((x.kind : Int), s, txB x.text) ∧ Slc encU 1 w s.v x.n H ∧ ∀ b ∈ H, b ∈ B) ∧ ∀ b ∈ B, b ∉ G ∧ b < hsz w
theorem RecL.fr {w w' : World} {v : Value} {xs : List Rc} {G B : List Nat} (h : RecL w v xs G B) (f : Fr [] w w') : RecL w' v xs G B := by
  obtain ⟨⟨cs, h1, h2, h3⟩, h4⟩ := h
  exact ⟨⟨cs, h1.fr f (by simp), h2, fun i x hx => by obtain ⟨s, H, a, b, c⟩ := h3 i x hx; exact ⟨s, H, a, b.fr f (by simp), c⟩⟩, fun b hb => ⟨(h4 b hb).1, Nat.lt_of_lt_of_le (h4 b hb).2 f.grow⟩⟩
/-- what changes lies apart. -/
theorem RecL.far {w w' : World} {v : Value} {xs : List Rc} {G B F : List Nat} (h : RecL w v xs G B) (f : Fr F w w') (hG : ∀ b ∈ G, b ∉ F) (hB : ∀ b ∈ B, b ∉ F) : RecL w' v xs G B := by
  obtain ⟨⟨cs, h1, h2, h3⟩, h4⟩ := h
  exact ⟨⟨cs, h1.fr f hG, h2, fun i x hx => by obtain ⟨s, H, a, b, c⟩ := h3 i x hx; exact ⟨s, H, a, b.fr f fun d hd => hB d (c d hd), c⟩⟩, fun b hb => ⟨(h4 b hb).1, Nat.lt_of_lt_of_le (h4 b hb).2 f.grow⟩⟩
theorem RecL.len {w : World} {v : Value} {xs : List Rc} {G B : List Nat} (h : RecL w v xs G B) : lenl v = some (.int .i64 xs.length) := by
  obtain ⟨⟨cs, h1, h2, _⟩, _⟩ := h
  rw [h1.len, h2]
theorem RecL.nil (w : World) : RecL w (.slice none 0 0) [] [] [] := ⟨⟨[], Slc.nil _ _ _, rfl, by simp⟩, by simp⟩
theorem RecL.lt {w : World} {v : Value} {xs : List Rc} {G B : List Nat} (h : RecL w v xs G B) : ∀ b ∈ G, b < hsz w := by
  obtain ⟨⟨cs, h1, _⟩, _⟩ := h
  exact h1.lt
theorem getV_used {b : List UInt8} (h : (getV b).2.2 = 0) : (getV b).2.1 ≤ b.length := by
  have := getL_used b 0 0 h
  unfold getV; omega
theorem getV_small (b : List UInt8) : (getV b).1 < 18446744073709551616 := getL_small b 0 0 (by simp) (by omega)
theorem readN_step (m : Nat) (b : List UInt8) : readN (m + 1) b = if (getV b).2.2 = 0 then ((getV b).1 :: (readN m (b.drop (getV b).2.1)).1, (readN m (b.drop (getV b).2.1)).2) else ([], [], (getV b).2.2) := rfl
set_option linter.unusedSimpArgs false
set_option linter.unusedVariables false
set_option maxRecDepth 20000
set_option maxHeartbeats 4000000
attribute [local congr] BND_cg COND_cg GEF_cg
attribute [local irreducible] capl slicea load1 loadn iaddr iaddra faddr storev newslice binv lookv mupd mdel mlenv mentry mestore slicev slicev3 slices indexs indexav textv rangev nexts clearv shiftv eqaggv convi buildv pickv lens lenl unv nilchk extractv partn JOIN
section
variable {w : World} {R : Value → World → Prop}
theorem rec_Read {s0 : SV} {x : Fra} (hb : ArrC encB 1 w s0.v x.2) (hn : x.2.length < 1000000)
    (hR : ∀ w' nv G, Slc encU 1 w' (SV.v nv) (recRead x).1.n G → (∀ b ∈ G, hsz w ≤ b) → Fr [] w w' → R (.tuple #[.agg (encRc (((recRead x).1.kind : Int), nv, txB (recRead x).1.text)).toArray, .int .i64 (recRead x).2]) w') : CALL PR F_record_Read [.agg (encFr (x.1, s0)).toArray] w R := by
  refine C_record_Read ?_
  unfold M_record_Read
  refine NEW_intro fun w1 b1 f1 z1 => ?_
  replace b1 : blk w1 (hsz w) = some (.cells (encFr (x.1, s0)).toArray 117 (0, 0)) := b1
  refine NEW_intro fun w2 b2 f2 z2 => ?_
  replace b2 : blk w2 (hsz w1) = some (.cells [Value.int .i64 0, .slice none 0 0, .string .empty].toArray 77 (0, 0)) := b2
  have hkl := x.1.toNat_lt
  have b1' := f2.some (by simp) b1
  have ec := convi64 (k := .u8) (x := x.1.toNat) (by omega)
  (repeat (first | refine gg ?_ | (apply BND_build ([.int .i64 (x.1.toNat : Int), .slice none 0 0, .string .empty]); exact rfl)))
  refine box_step (n := 3) (zs := [_, _, _]) (vs := encRc ((x.1.toNat : Int), ⟨none, 0, 0⟩, .empty)) rfl rfl (encRc_one _) (by simp [encRc]) fun w4 b4 f4 z4 => ?_
  have b1'' := f4.some (by simp) b1'
  have b2' := f4.some (by simp) b2
  have f04 := (f1.trans' f2).trans' f4
  -- what comes of an error
  have bad : ∀ (w6 : World) (e : Int), Fr [] w w6 → blk w6 (hsz w1) = some (.cells [Value.int .i64 0, .slice none 0 0, .string .empty].toArray 77 (0, 0)) → recRead x = (zeroR, e) →
      (BND (buildv #[(Value.int .i64 0), (Value.slice none 0 0), (Value.string ByteArray.empty)] []) fun t => BND (storev 3 w6 (.pointer (some ⟨hsz w1, 0, none⟩)) t) fun w7 => BND (loadn 3 w7 (.pointer (some ⟨hsz w1, 0, none⟩))) fun r => R (.tuple #[r, (Value.int .i64 e)]) w7) := by
    intro w6 e f6 b6 he
    rw [he] at hR
    (repeat (first | refine gg ?_ | (apply BND_build ([.int .i64 0, .slice none 0 0, .string .empty]); exact rfl)))
    refine put_step (n := 3) (vs := [.int .i64 0, .slice none 0 0, .string .empty]) b6 rfl rfl (by intro u hu; simp at hu; rcases hu with rfl | rfl | rfl <;> rfl) (by simp) fun w7 b7 f7 _ => ?_
    (repeat (first | refine BND_step (loadn_all' b7 rfl) ?_ | refine gg ?_))
    exact hR w7 ⟨none, 0, 0⟩ [] (Slc.nil _ _ _) (by simp) (f6.trans f7 fun b hb => .inr (by have := f1.grow; simp at hb; omega))
  (repeat refine gg ?_)
  refine rec_known _ ?_
  unfold recRead at hR
  cases hk : knownB (x.1.toNat : Int) with
  | false =>
    (repeat refine gg ?_)
    exact bad w4 2 f04 b2' (by unfold recRead; rw [if_pos hk])
  | true =>
    have hkn : ¬ knownB (x.1.toNat : Int) = false := by rw [hk]; simp
    rw [if_neg hkn] at hR
    obtain ⟨hk1, hk2⟩ : 1 ≤ (x.1.toNat : Int) ∧ (x.1.toNat : Int) ≤ 17 := by unfold knownB at hk; simpa using hk
    have b4d : blk w4.drew (hsz w2) = some (.cells (encRc ((x.1.toNat : Int), ⟨none, 0, 0⟩, .empty)).toArray 77 (0, 0)) := b4
    (repeat refine gg ?_)
    refine ⟨fun _ w' => blk w' (hsz w2) = some (.cells (encRc ((x.1.toNat : Int), ⟨none, 0, 0⟩, .empty)).toArray 77 (0, 0)), b4d, ?_⟩
    (repeat refine gg ?_)
    refine rec_numbers fun w7 f7 => ?_
    have b7 := f7.some (by simp) b4d
    refine ⟨b7, ?_⟩
    (repeat (first | refine BND_step (many_at (k := x.1.toNat) (by omega)) ?_ | refine gg ?_))
    have f07 := (f04.trans' (Fr.drew [] w4)).trans' f7
    have b27 : blk w7 (hsz w1) = _ := f7.some (by simp) (show blk w4.drew (hsz w1) = _ from b2')
    have h10 := manyOf_le x.1.toNat
    generalize hmany : manyOf x.1.toNat = many at *
    refine loop_up2 (o := s0.v) 0 many (fun o i w' => ∃ (done : List Nat) (rest : List UInt8) (nv : SV) (G : List Nat), ArrC encB 1 w o rest ∧ rest.length ≤ x.2.length ∧ blk w' (hsz w2) = some (.cells (encRc ((x.1.toNat : Int), nv, .empty)).toArray 77 (0, 0)) ∧ Slc encU 1 w' nv.v done G ∧ (∀ b ∈ G, hsz w7 ≤ b) ∧
        Fr [] w w' ∧ hsz w7 ≤ hsz w' ∧ blk w' (hsz w1) = some (.cells [Value.int .i64 0, .slice none 0 0, .string .empty].toArray 77 (0, 0)) ∧ done.length = i ∧ readN many x.2 = (done ++ (readN (many - i) rest).1, (readN (many - i) rest).2))
      ⟨[], x.2, ⟨none, 0, 0⟩, [], hb, Nat.le_refl _, b7, Slc.nil _ _ _, by simp, f07, Nat.le_refl _, b27, rfl, by simp⟩ (by omega) ?_
    rintro o i w8 - hi ⟨done, rest, nv, G, a0, hrl, b8, s8, g8, f8, gr8, b28, hdl, heq⟩ J m hJ
    have a8 := a0.fr f8 (by simp)
    by_cases hlt : i < many
    · obtain ⟨mm, hmm⟩ : ∃ mm, many - i = mm + 1 := ⟨many - i - 1, by omega⟩
      rw [hmm, readN_step] at heq
      (repeat refine gg ?_)
      refine vint_Get a8.arr (by omega) ?_
      (repeat refine gg ?_)
      by_cases he : (getV rest).2.2 = 0
      · rw [if_pos he] at heq
        have hu := getV_used he
        obtain ⟨va, ea, aa⟩ := a0.from (lo := (getV rest).2.1) hu
        have b8d : blk w8.drew (hsz w2) = some (.cells (encRc ((x.1.toNat : Int), nv, .empty)).toArray 77 (0, 0)) := b8
        (repeat refine gg ?_)
        refine ⟨fun _ w' => blk w' (hsz w2) = some (.cells (encRc ((x.1.toNat : Int), nv, .empty)).toArray 77 (0, 0)), b8d, ?_⟩
        (repeat refine gg ?_)
        refine newone_step (enc := encU) (x := (getV rest).1) encU_len rfl fun t w11 s11 f11 z11 => ?_
        have b11 := f11.some (by simp) b8d
        refine ⟨b11, ?_⟩
        have f811 := (Fr.drew [] w8).trans' f11
        have ew8 : hsz w8.drew = hsz w8 := rfl
        refine APPEND_slc (s8.fr f811 (by simp)) (s11.loads encU_len) encU_len encU_one rfl (by simp; omega) (by simp; omega) fun v12 w12 G12 s12 f12 sub12 => ?_
        obtain ⟨x12, rfl⟩ := slc_sv s12
        have hw2 : hsz w2 < hsz w7 := by have := blk_lt b4; have := f7.grow; have e : hsz w4.drew = hsz w4 := rfl; omega
        have hw1 : hsz w1 < hsz w2 := by omega
        have b12 := f12.some (fun hb => by have := g8 _ hb; omega) b11
        (repeat refine gg ?_)
        refine fstore_step b12 ⟨rfl, rfl⟩ (by simp [encRc]) fun w13 b13 f13 _ => ?_
        (repeat refine gg ?_)
        have f812 : Fr [] w w12 := (f8.trans' f811).trans f12 fun b hb => .inr (by have := g8 b hb; have := f07.grow; omega)
        have f813 : Fr [] w w13 := f812.trans f13 fun b hb => .inr (by simp at hb; have := (f1.trans' f2).grow; omega)
        have g12 : ∀ b ∈ G12, hsz w7 ≤ b := fun b hb => by
          rcases sub12 b hb with hq | hq
          · exact g8 b hq
          · have := f811.grow; omega
        refine hJ _ _ hlt ⟨done ++ [(getV rest).1], rest.drop (getV rest).2.1, x12, G12, aa, ?_, b13, s12.fr f13 (fun b hb hb' => ?_), g12, f813, ?_, ?_, by simp [hdl], ?_⟩
        · rw [List.length_drop]; omega
        · have := g12 b hb; simp at hb'; omega
        · have := (f811.grow); have := f12.grow; have := f13.grow; omega
        · have q1 := f11.some (by simp) (show blk w8.drew (hsz w1) = _ from b28)
          have q2 := f12.some (fun hb => by have := g8 _ hb; omega) q1
          exact f13.some (by simp; omega) q2
        · rw [show many - (i + 1) = mm by omega, heq]; simp
      · rw [if_neg he] at heq
        (repeat refine gg ?_)
        refine bad w8 _ f8 b28 ?_
        unfold recRead
        rw [if_neg hkn, hmany, heq, if_neg he]
    · rw [show many - i = 0 by omega] at heq
      simp only [readN, List.append_nil] at heq
      rw [heq] at hR
      simp only [if_true] at hR
      have hrw : recRead x = if fitsB (x.1.toNat : Int) rest.length = true then (⟨x.1.toNat, done, rest⟩, 0) else (zeroR, 2) := by
        unfold recRead
        rw [if_neg hkn, hmany, heq]
        rfl
      (repeat (first | refine BND_step a8.len ?_ | refine gg ?_))
      refine rec_fits _ _ ?_
      cases hf : fitsB (x.1.toNat : Int) rest.length with
      | false =>
        rw [hf] at hrw
        (repeat refine gg ?_)
        exact bad w8 2 f8 b28 hrw
      | true =>
        rw [hf] at hR
        simp only [if_true] at hR
        have hw2 : hsz w2 < hsz w7 := by have := blk_lt b4; have := f7.grow; have e : hsz w4.drew = hsz w4 := rfl; omega
        (repeat (first | refine BND_step (textB a8.arr) ?_ | refine gg ?_))
        refine fstore_step b8 ⟨rfl, rfl⟩ (by simp [encRc]) fun w9 b9 f9 _ => ?_
        replace b9 : blk w9 (hsz w2) = some (.cells (encRc ((x.1.toNat : Int), nv, txB rest)).toArray 77 (0, 0)) := b9
        have b29 := f9.some (by simp; omega) b28
        (repeat (first | refine BND_step (loadn_all' b9 rfl) ?_ | refine gg ?_))
        refine put_step (n := 3) (vs := encRc ((x.1.toNat : Int), nv, txB rest)) b29 rfl rfl (encRc_one _) (by simp [encRc]) fun w10 b10 f10 _ => ?_
        (repeat (first | refine BND_step (loadn_all' b10 rfl) ?_ | refine gg ?_))
        have gg := (f1.trans' f2).grow
        have gg1 := f1.grow
        exact hR w10 nv G ((s8.fr f9 (fun b hb hb' => by have := g8 b hb; simp at hb'; omega)).fr f10 (fun b hb hb' => by have := g8 b hb; simp at hb'; omega)) (fun b hb => by have := g8 b hb; have := f07.grow; omega)
          ((f8.trans f9 fun b hb => .inr (by simp at hb; omega)).trans f10 fun b hb => .inr (by simp at hb; omega))
theorem rec_push {E E' bytes : Nat} {zero : Array Value} {zero' : Value} {k : Value → World → Prop} {o : Value} {xs : List Rc} {G B H : List Nat} {s : SV} {x : Rc} (h : RecL w o xs G B) (hs : Slc encU 1 w s.v x.n H) (hH : ∀ b ∈ H, b ∉ G) (hz : zero'.cells.size = 3) (hb : bytes ≤ 1000) (hn : xs.length < 1000000000)
    (K : ∀ v' w' G', RecL w' v' (xs ++ [x]) G' (H ++ B) → (∀ b ∈ G', b ∈ G ∨ hsz w ≤ b) → Fr G w w' → k v' w') : BND (newslice E zero 3 1 [(0, 3, .agg (encRc ((x.kind : Int), s, txB x.text)).toArray)] w) fun p_ => NEW p_ fun t w1 => APPEND E' 3 bytes zero' o t w1 k := by
  obtain ⟨⟨cs, h1, h2, h3⟩, h4⟩ := h
  refine push_step (enc := encRc) (x := ((x.kind : Int), s, txB x.text)) h1 encRc_len encRc_one rfl hz hb (by omega) fun v' w' G' s' g' f' => ?_
  refine K v' w' G' ⟨⟨cs ++ [((x.kind : Int), s, txB x.text)], s', by simp [h2], fun i y hy => ?_⟩, fun b hb => ?_⟩ g' f'
  · by_cases hi : i < xs.length
    · rw [List.getElem?_append_left hi] at hy
      obtain ⟨s2, H2, a, b, c⟩ := h3 i y hy
      exact ⟨s2, H2, by rw [List.getElem?_append_left (by omega)]; exact a, b.fr f' (fun d hd => (h4 d (c d hd)).1), fun d hd => by simp [c d hd]⟩
    · have : i = xs.length := by have := (List.getElem?_eq_some_iff.1 hy).1; simp at this; omega
      subst this
      simp at hy; subst hy
      exact ⟨s, H, by rw [List.getElem?_append_right (by omega)]; simp [h2], hs.fr f' hH, fun d hd => by simp [hd]⟩
  · have hlt : b < hsz w := by
      rcases List.mem_append.1 hb with hb | hb
      · exact hs.lt b hb
      · exact (h4 b hb).2
    refine ⟨?_, Nat.lt_of_lt_of_le hlt f'.grow⟩
    intro hb'
    rcases g' b hb' with hq | hq
    · rcases List.mem_append.1 hb with hb | hb
      · exact hH b hb hq
      · exact (h4 b hb).1 hq
    · omega
theorem recAllF_cons (x : Fra) (r : List Fra) (k : Nat) (e : Int) : recAllF (x :: r) k e = if (recRead x).2 = 0 then ((recRead x).1 :: (recAllF r (k + (11 + x.2.length)) e).1, (k + (11 + x.2.length)) :: (recAllF r (k + (11 + x.2.length)) e).2.1, (recAllF r (k + (11 + x.2.length)) e).2.2) else ([], [], (recRead x).2) := rfl
theorem loop_up4 {B : (Value → Value → Value → Value → World → Prop) → (Value → Value → Value → Value → World → Nat) → Value → Value → Value → Value → World → Prop} {w : World} {a b c : Value} (s n : Nat) (I : Value → Value → Value → Nat → World → Prop) (h0 : I a b c s w) (hs : s ≤ n)
    (h : ∀ a b c i w1, s ≤ i → i ≤ n → I a b c i w1 → ∀ J m, (∀ a' b' c' w', i < n → I a' b' c' (i + 1) w' → J a' b' c' (.int .i64 ((i + 1 : Nat) : Int)) w' ∧ m a' b' c' (.int .i64 ((i + 1 : Nat) : Int)) w' < m a b c (.int .i64 (i : Int)) w1) → B J m a b c (.int .i64 (i : Int)) w1) :
    ∃ (J : Value → Value → Value → Value → World → Prop) (m : Value → Value → Value → Value → World → Nat), J a b c (.int .i64 (s : Int)) w ∧ ∀ (_d : Env) (a b c t : Value) (w1 : World), J a b c t w1 → B J m a b c t w1 := by
  refine ⟨fun a b c t w' => ∃ i : Nat, t = .int .i64 i ∧ s ≤ i ∧ i ≤ n ∧ I a b c i w', fun _ _ _ t _ => match t with | .int _ k => n - k.toNat | _ => 0, ⟨s, rfl, Nat.le_refl _, hs, h0⟩, ?_⟩
  rintro _ a b c _ w1 ⟨i, rfl, h1, h2, h3⟩
  exact h a b c i w1 h1 h2 h3 _ _ fun a' b' c' w' h4 h5 => ⟨⟨i + 1, rfl, by omega, by omega, h5⟩, by simp; omega⟩
theorem rec_All {bv : Value} {bs : List UInt8} (hb : ArrC encB 1 w bv bs) (hn : bs.length < 10000000)
    (hR : ∀ w' v ev G B E, RecL w' v (recAll bs).1 G B → Slc encO 1 w' ev (recAll bs).2.1 E → (∀ b ∈ G, hsz w ≤ b) → (∀ b ∈ B, hsz w ≤ b) → (∀ b ∈ E, hsz w ≤ b) → Fr [] w w' → R (.tuple #[v, ev, .int .i64 (recAll bs).2.2]) w') : CALL PR F_record_All [bv] w R := by
  refine C_record_All ?_
  unfold M_record_All
  refine frame_All hb (by omega) fun w1 lv G1 B1 h1 gG1 gB1 f1 hle => ?_
  have hsm := frAll_small bs.length bs 0 rfl
  unfold recAll at hR
  generalize hfs : (frAll bs 0).1 = fs at *
  generalize (frAll bs 0).2.2 = e0 at *
  (repeat (first | refine BND_step h1.len ?_ | refine gg ?_))
  refine loop_up4 (a := .slice none 0 0) (b := .slice none 0 0) (c := .int .i64 0) 0 fs.length (fun o ev t i w' => ∃ (k : Nat) (done : List Rc) (ends : List Nat) (G B E : List Nat), t = .int .i64 (k : Int) ∧ RecL w' o done G B ∧ Slc encO 1 w' ev ends E ∧ (∀ b ∈ G, hsz w1 ≤ b ∧ b ∉ E) ∧ (∀ b ∈ B, hsz w1 ≤ b ∧ b ∉ E) ∧ (∀ b ∈ E, hsz w1 ≤ b) ∧
      Fr [] w1 w' ∧ k ≤ i * 500 ∧ done.length = i ∧ ends.length = i ∧ recAllF fs 0 e0 = (done ++ (recAllF (fs.drop i) k e0).1, ends ++ (recAllF (fs.drop i) k e0).2.1, (recAllF (fs.drop i) k e0).2.2))
    ⟨0, [], [], [], [], [], rfl, RecL.nil _, Slc.nil _ _ _, by simp, by simp, by simp, Fr.refl _ _, by omega, rfl, rfl, by simp⟩ (by omega) ?_
  rintro o ev _ i w2 - hi ⟨k, done, ends, G, B, E, rfl, h2, se, gG, gB, gE, f2, hk, hdl, hel, heq⟩ J m hJ
  by_cases hlt : i < fs.length
  · have hx := List.getElem?_eq_getElem hlt
    have hm := List.getElem_mem hlt
    have hdr : fs.drop i = fs[i] :: fs.drop (i + 1) := List.drop_eq_getElem_cons hlt
    generalize fs[i] = x at hx hm hdr
    have hx4 := hsm x hm
    rw [hdr, recAllF_cons] at heq
    obtain ⟨⟨cs, q1, q2, q3⟩, q4⟩ := h1.fr f2
    obtain ⟨s, H, c1, c2, c3⟩ := q3 i x hx
    obtain ⟨bp, op, ia, ln, _, _⟩ := q1.arr.spot c1 rfl .i64
    (repeat refine gg ?_)
    refine box_step (n := 2) (zs := [_, _]) (vs := encFr (x.1, s)) rfl rfl (encFr_one _) (by simp [encFr]) fun w4 b4 f4 z4 => ?_
    (repeat (first | refine BND_step (loadn_all' b4 rfl) ?_ | refine gg ?_))
    have c24 := c2.fr f4 (by simp)
    refine rec_Read c24.arrC (by omega) fun w5 nv Gn sn gn f5 => ?_
    have b5 := f5.some (by simp) b4
    (repeat refine gg ?_)
    refine box_step (n := 3) (zs := [_, _, _]) (vs := encRc (((recRead x).1.kind : Int), nv, txB (recRead x).1.text)) rfl rfl (encRc_one _) (by simp [encRc]) fun w7 b7 f7 z7 => ?_
    have b57 := f7.some (by simp) b5
    have f27 := (f4.trans' f5).trans' f7
    have f17 := f2.trans' f27
    by_cases he : (recRead x).2 = 0
    · rw [if_pos he] at heq
      (repeat (first | refine BND_step (loadn_all' b57 rfl) ?_ | refine gg ?_))
      refine frame_Bytes (body := x.2) ((c24.fr f5 (by simp)).fr f7 (by simp)).arr (by omega) (fun w8 h8 _ => by omega) fun w8 v8 G8 _ s8 g8 f8 => ?_
      have b8 := f8.some (by simp) b7
      have e8 := s8.len
      rw [frB_len] at e8
      replace e8 : lenl v8 = some (.int .i64 ((11 + x.2.length : Nat) : Int)) := e8
      have f28 := f27.trans' f8
      have gr12 := f2.grow
      have gr24 := f4.grow
      (repeat (first | refine BND_step (addn_ (n := k) (by omega)) ?_ | refine BND_step (loadn_all' b8 rfl) ?_ | refine gg ?_))
      refine rec_push (x := (recRead x).1) (h2.fr f28) ((sn.fr f7 (by simp)).fr f8 (by simp)) (fun b hb hb' => by have := gn b hb; have := h2.lt b hb'; omega) rfl (by omega) (by omega) fun v10 w10 G10 h10 g10 f10 => ?_
      have se10 := (se.fr f28 (by simp)).fr f10 (fun b hb hb' => (gG b hb').2 hb)
      refine push_step (enc := encO) (x := k + (11 + x.2.length)) se10 encO_len encO_one rfl rfl (by omega) (by omega) fun v12 w12 E12 s12 g12 f12 => ?_
      have gr28 := f28.grow
      have gr10 := f10.grow
      have gr5 := f5.grow
      have gr7 := f7.grow
      have gr8 := f8.grow
      have nG : ∀ b ∈ G10, hsz w1 ≤ b ∧ b ∉ E12 := fun b hb => by
        rcases g10 b hb with hq | hq
        · refine ⟨(gG b hq).1, fun hb' => ?_⟩
          rcases g12 b hb' with hq2 | hq2
          · exact (gG b hq).2 hq2
          · have := h2.lt b hq; omega
        · refine ⟨by omega, fun hb' => ?_⟩
          rcases g12 b hb' with hq2 | hq2
          · have := se.lt b hq2; omega
          · have := h10.lt b hb; omega
      have nB : ∀ b ∈ Gn ++ B, hsz w1 ≤ b ∧ b ∉ E12 := fun b hb => by
        have hlt10 : b < hsz w10 := by
          obtain ⟨_, q⟩ := h10
          exact (q b hb).2
        rcases List.mem_append.1 hb with hb | hb
        · have hgn := gn b hb
          refine ⟨by omega, fun hb' => ?_⟩
          rcases g12 b hb' with hq2 | hq2
          · have := se.lt b hq2; omega
          · omega
        · refine ⟨(gB b hb).1, fun hb' => ?_⟩
          rcases g12 b hb' with hq2 | hq2
          · exact (gB b hb).2 hq2
          · omega
      (repeat refine gg ?_)
      refine hJ _ _ _ _ hlt ⟨k + (11 + x.2.length), done ++ [(recRead x).1], ends ++ [k + (11 + x.2.length)], G10, Gn ++ B, E12, rfl, h10.far f12 (fun b hb hb' => ?_) (fun b hb hb' => ?_), s12, nG, nB, fun b hb => ?_, ?_, by omega, by simp [hdl], by simp [hel], by rw [heq]; simp⟩
      · rcases g10 b hb with hq | hq
        · exact (gG b hq).2 hb'
        · have := se.lt b hb'; omega
      · rcases List.mem_append.1 hb with hb | hb
        · have := gn b hb; have := se.lt b hb'; omega
        · exact (gB b hb).2 hb'
      · rcases g12 b hb with hq | hq
        · exact gE b hq
        · omega
      · exact ((f2.trans' f28).trans f10 fun b hb => .inr (gG b hb).1).trans f12 fun b hb => .inr (gE b hb)
    · rw [if_neg he] at heq
      (repeat refine gg ?_)
      have gw := f1.grow
      have := hR w7 o ev G B E (by rw [heq]; simpa using h2.fr f27) (by rw [heq]; simpa using se.fr f27 (by simp)) (fun b hb => by have := (gG b hb).1; omega) (fun b hb => by have := (gB b hb).1; omega) (fun b hb => by have := gE b hb; omega) (f1.trans' f17)
      rw [heq] at this
      exact this
  · (repeat refine gg ?_)
    rw [List.drop_eq_nil_of_le (by omega)] at heq
    simp only [recAllF, List.append_nil] at heq
    have gw := f1.grow
    have := hR w2 o ev G B E (by rw [heq]; exact h2) (by rw [heq]; exact se) (fun b hb => by have := (gG b hb).1; omega) (fun b hb => by have := (gB b hb).1; omega) (fun b hb => by have := gE b hb; omega) (f1.trans' f2)
    rw [heq] at this
    exact this
end
end Go.Proofs.YtofllgbdphakiaaGreat
end

section
namespace Go.Proofs.YtofllgbdphakiaaGreat
open Go.Den Go.Disk Go.RowKit Go.Maps Go.Sort Go.Shelf
abbrev noVal : Value → Option (DataW Unit × List MemPlace) := fun _ => some (.lit (.bool false), [])
def keyBytesOf : Value → List UInt8
  | .string s => s.data.toList
  | _ => []
theorem fr_of_below {w w' : World} (h : Below w.heap.size w w') : Fr [] w w' := ⟨h.size, fun b hb _ => h.block b hb, h.os, h.tape, h.output⟩
set_option maxRecDepth 100000 in
theorem map_data {es : Array MapEntry} {ck : Nat} {L : List (ByteArray × Value)} (h : MapB (fun s : ByteArray => Value.string s) es ck L) (hs : L.length < 1000000) (hsmall : ∀ p ∈ L, p.1.size < 1000000)
    {w : World} {mb : Nat} (hb : blk w mb = some (.map es ck)) :
    ∃ D : DataW Unit, w.ownsMap Tryz.prog 9 noVal mb L.length D ∧ (strKeys D).Perm (L.map fun p => p.1.data.toList) ∧ Maps.size D = L.length := by
  have hsz : es.size = L.length := by rw [h.l.size]
  have hents := h.l.ents
  have hkeys : es.toList.map (·.key) = L.map fun p => Value.string p.1 := by
    have := congrArg (List.map Prod.fst) hents
    simpa [List.map_map, Function.comp_def] using this
  have hread : ∀ x ∈ es.toList, ∃ s : ByteArray, x.key = .string s ∧ s.size < 1000000 := by
    intro x hx
    have : x.key ∈ es.toList.map (·.key) := List.mem_map.2 ⟨x, hx, rfl⟩
    rw [hkeys] at this
    obtain ⟨p, hp, e⟩ := List.mem_map.1 this
    exact ⟨p.1, e.symm, hsmall p hp⟩
  have hrd : ∀ x ∈ es.toList, ∀ s : ByteArray, x.key = .string s → s.size < 1000000 → WideElems.rd Tryz.prog 9 noVal x = some (.string s.data.toList, .lit (.bool false)) := by
    intro x hx s hk hss
    have hkey : keyOf Tryz.prog 9 x.key = some (.string s.data.toList) := by
      have hml : s.size ≤ maxLen := by unfold maxLen; omega
      simp [keyOf, Tryz.underlying9, mapKey, hk, hml]
    simp [WideElems.rd, hkey, noVal]
  refine ⟨.map ((es.toList.map (WideElems.rg Tryz.prog 9 noVal)).foldr DataW.insert []), ⟨es, ck, hb, ⟨by rw [hsz]; unfold maxLen; omega, ⟨h.lt, h.nd, ?_⟩, ?_⟩, by rw [hsz]; exact Nat.le_refl _, rfl⟩, ?_, ?_⟩
  · rw [hkeys]
    have := h.l.once
    rw [List.nodup_iff_pairwise_ne, List.pairwise_map] at this ⊢
    exact this.imp fun h e => h (by injection e)
  · intro x hx
    obtain ⟨s, hk, hss⟩ := hread x hx
    exact ⟨_, hrd x hx s hk hss⟩
  · have hf : ∀ x ∈ es.toList, strOf (WideElems.rg Tryz.prog 9 noVal x).1 = keyBytesOf x.key := by
      intro x hx
      obtain ⟨s, hk, hss⟩ := hread x hx
      rw [WideElems.rg_of (hrd x hx s hk hss), hk]
      rfl
    have h1 : (strKeys (.map ((es.toList.map (WideElems.rg Tryz.prog 9 noVal)).foldr DataW.insert []))).Perm ((es.toList.map (WideElems.rg Tryz.prog 9 noVal)).map fun p => strOf p.1) := (WideShapes.sorted_perm _).map _
    refine h1.trans ?_
    rw [List.map_map, show es.toList.map ((fun p : Lit × DataW Unit => strOf p.1) ∘ WideElems.rg Tryz.prog 9 noVal) = es.toList.map (fun x => keyBytesOf x.key) from List.map_congr_left (fun x hx => hf x hx)]
    have h2 : es.toList.map (fun x => keyBytesOf x.key) = (es.toList.map (·.key)).map keyBytesOf := by rw [List.map_map]; rfl
    rw [h2, hkeys, List.map_map]
    exact .refl _
  · rw [Maps.size_eq, (WideShapes.sorted_perm _).length_eq, List.length_map, Array.length_toList, hsz]
def txt (l : List UInt8) : ByteArray := ⟨l.toArray⟩
theorem txt_of (s : ByteArray) : txt s.data.toList = s := by simp [txt]
theorem slc_of_owns {w : World} {base e : Nat} {v : Value} {ss : List (List UInt8)} (h : w.ownsRow base e 1 v ss.length (ss.map encStr)) : ∃ G, Slc encN 1 w v (ss.map txt) G ∧ ∀ b ∈ G, base ≤ b := by
  obtain ⟨_, h⟩ := h
  rcases h with ⟨rfl, h0⟩ | ⟨g, cap, cur, rfl, hb, hg, hn, hm, hs, ht⟩
  · have : ss = [] := List.eq_nil_of_length_eq_zero h0
    subst this
    exact ⟨[], Slc.nil _ _ _, by simp⟩
  · refine ⟨[g], .inr ⟨g, cap, cur, e, by simp, hg, by simpa using hn, hs, rfl, fun i x hx j hj => ?_⟩, by simpa using hb⟩
    obtain rfl : j = 0 := by omega
    rw [Nat.mul_one, Nat.add_zero]
    have hi : i < ss.length := by have := (List.getElem?_eq_some_iff.1 hx).1; simpa using this
    have h1 := congrArg (fun l : List Value => l[i]?) ht
    simp only [List.getElem?_take, Nat.mul_one, hi, if_true, Array.getElem?_toList] at h1
    rw [h1]
    simp only [List.getElem?_map] at hx ⊢
    cases hss : ss[i]? with
    | none => simp [hss] at hx
    | some l => simp [hss] at hx; subst hx; rfl
/-- names that rise, the same ones, are the same list. -/
theorem names_ext : ∀ {l m : List ByteArray}, l.Pairwise (fun a b => bl a b = true) → m.Pairwise (fun a b => bl a b = true) → (∀ x, x ∈ l ↔ x ∈ m) → l = m
  | [], [], _, _, _ => rfl
  | [], y :: m, _, _, h => by have := (h y).2 (by simp); simp at this
  | x :: l, [], _, _, h => by have := (h x).1 (by simp); simp at this
  | x :: l, y :: m, hl, hm, h => by
    obtain ⟨p1, p2⟩ := List.pairwise_cons.1 hl
    obtain ⟨q1, q2⟩ := List.pairwise_cons.1 hm
    have hxy : x = y := by
      rcases List.mem_cons.1 ((h x).1 (by simp)) with h1 | h1
      · exact h1
      · rcases List.mem_cons.1 ((h y).2 (by simp)) with h2 | h2
        · exact h2.symm
        · have a1 := p1 y h2; have a2 := q1 x h1
          rw [bl_asym a1] at a2; cases a2
    subst hxy
    congr 1
    refine names_ext p2 q2 fun z => ⟨fun hz => ?_, fun hz => ?_⟩
    · rcases List.mem_cons.1 ((h z).1 (by simp [hz])) with h1 | h1
      · subst h1; have := p1 z hz; rw [bl_irr] at this; cases this
      · exact h1
    · rcases List.mem_cons.1 ((h z).2 (by simp [hz])) with h1 | h1
      · subst h1; have := q1 z hz; rw [bl_irr] at this; cases this
      · exact h1
theorem rise_names {l : Dir} (h : riseD l) : (l.map (·.1)).Pairwise fun a b => bl a b = true := List.pairwise_map.2 h
theorem sorted_rise {ss : List (List UInt8)} (hn : ss.Nodup) : ((ss.mergeSort (fun x y => decide (x ≤ y))).map txt).Pairwise fun a b => bl a b = true := by
  have h1 : (ss.mergeSort (fun x y => decide (x ≤ y))).Pairwise (fun x y => decide (x ≤ y) = true) :=
    List.pairwise_mergeSort (fun a b c h1 h2 => by
      rw [decide_eq_true_eq] at *
      exact List.le_trans h1 h2) (fun a b => by
      rw [Bool.or_eq_true, decide_eq_true_eq, decide_eq_true_eq]
      exact List.le_total a b) ss
  have h2 : (ss.mergeSort (fun x y => decide (x ≤ y))).Nodup := (List.mergeSort_perm _ _).nodup_iff.2 hn
  rw [List.pairwise_map]
  refine (h1.and (List.nodup_iff_pairwise_ne.1 h2)).imp fun {a b} ⟨h3, h4⟩ => ?_
  rw [decide_eq_true_eq] at h3
  have ea : (txt a).toList = a := by rw [ByteArray.toList_eq]; simp [txt]
  have eb : (txt b).toList = b := by rw [ByteArray.toList_eq]; simp [txt]
  unfold bl
  rw [ea, eb]
  have h5 : Op.bytesLess b a = false := by
    rw [bytesLess_eq, decide_eq_false_iff_not]
    exact List.not_lt.2 h3
  exact bytesLess_tri b a (fun e => h4 e.symm) h5
section
variable {w : World} {R : Value → World → Prop}
theorem dk_keys {m : Nat} {fb : List Nat} {es : Array MapEntry} {ck : Nat} {L : List (ByteArray × Value)} {l : Dir} (b1 : blk w m = some (.map es ck)) (b2 : MapB (fun s : ByteArray => Value.string s) es ck L) (b3 : L.Perm (dirL fb l)) (hr : riseD l)
    (hn : l.length ≤ 60) (hsm : ∀ x ∈ l, named x.1 = true) (hR : ∀ w' v G, Slc encN 1 w' v (l.map (·.1)) G → (∀ b ∈ G, hsz w ≤ b) → Fr [] w w' → R v w') :
    CALL PR F_maps_Keys_file [.map (some m)] w fun t w1 => CALL PR F_slices_Sorted_string [t] w1 R := by
  refine ⟨(callsIn_wide.1 (AnyZ.keys_in Tryz.keysA Fence.wide 5 trivial rfl (some m) w)).mono ?_⟩
  rintro e w1 ⟨rfl, hw1⟩
  replace hw1 : w1 = w.alloc (.cells #[.map (some m)] 68) := hw1
  refine ⟨_, rfl, ?_⟩
  have hLl : L.length = l.length := by rw [b3.length_eq]; simp [dirL]
  obtain ⟨D, hown, hperm, hsiz⟩ := map_data b2 (by omega) (fun p hp => by
    obtain ⟨x, hx, rfl⟩ := List.mem_map.1 (b3.mem_iff.1 hp)
    have := hsm x hx
    unfold named at this
    simp only [Bool.and_eq_true, decide_eq_true_eq] at this
    show x.1.size < 1000000
    omega) b1
  have hbl := hown.lt
  have f1 : Fr [] w w1 := by rw [hw1]; exact Fr.alloc _ _ _
  have z1 : hsz w1 = hsz w + 1 := by rw [hw1]; simp
  have hseq : SeqGives Fence.wide 2 Tryz.prog F_maps_Keys_file_1 #[.pointer (some ⟨w.heap.size, 0, none⟩)] encStr (fun ss => ss.Perm (strKeys D)) (Maps.size D) (w.alloc (.cells #[.map (some m)] 68)) :=
    AnyZ.keys_gives (ρ := Tryz.keysA_ren) { Tryz.keysA with } Fence.wide _ trivial rfl (by omega) w.heap.size m L.length D _ (by simp [-heap_size]) (by simp [-heap_size]) (by
      obtain ⟨es, clock, hb, Ft, hs, hD⟩ := hown
      exact ⟨es, clock, (Below.heap_alloc _ _ m hbl).trans hb, Ft, hs, hD⟩)
  rw [hw1]
  refine ⟨(callsIn_wide.1 (AnyZ.sorted_in Tryz.sortedA Fence.wide 5 trivial trivial trivial trivial rfl (by omega) (⟨fun blk off cap ss W hH hblk hsz => callsIn_wide.2 (AnyM.slices_Sort_string Tryz.sortA blk off cap ss W hH hblk hsz), fun p cap W => callsIn_wide.2 (AnyM.slices_Sort_string_none Tryz.sortA p cap W)⟩ : AnyZ.SortsIn Tryz.prog Tryz.sortedA_ren Fence.wide _)
    (enters_of Tryz.func80 (by kernel_rfl) rfl) F_maps_Keys_file_1 #[.pointer (some ⟨w.heap.size, 0, none⟩)] trivial (enters_of Tryz.func81 (by kernel_rfl) rfl) _ _ (by rw [hsiz]; unfold maxLen; omega) (by rw [hsiz]; omega) _ hseq)).mono ?_⟩
  rintro e w2 ⟨v, ss, rfl, hss, hrow, _, hbel⟩
  refine ⟨_, rfl, ?_⟩
  have hlen : ss.length = (ss.mergeSort (fun x y => decide (x ≤ y))).length := by rw [List.length_mergeSort]
  rw [hlen] at hrow
  obtain ⟨G, hslc, hG⟩ := slc_of_owns hrow
  have f2 : Fr [] (w.alloc (.cells #[.map (some m)] 68)) w2 := fr_of_below hbel
  rw [← hw1] at f2 hG
  have hks : (ss.map txt).Perm (l.map (·.1)) := by
    refine ((hss.trans hperm).map txt).trans ?_
    rw [List.map_map]
    have e : L.map (txt ∘ fun p => p.1.data.toList) = L.map (·.1) := List.map_congr_left fun p _ => txt_of p.1
    rw [e]
    have := b3.map (·.1)
    refine this.trans ?_
    unfold dirL
    rw [List.map_map]
    exact .refl _
  have hnd : ss.Nodup := by
    have h1 : (l.map (·.1)).Nodup := by
      rw [List.nodup_iff_pairwise_ne]
      exact (rise_names hr).imp fun {a b} h e => by subst e; rw [bl_irr] at h; cases h
    have h2 := hks.nodup_iff.2 h1
    rw [List.nodup_iff_pairwise_ne, List.pairwise_map] at h2
    rw [List.nodup_iff_pairwise_ne]
    exact h2.imp fun h e => h (by rw [e])
  have heq : (ss.mergeSort (fun x y => decide (x ≤ y))).map txt = l.map (·.1) := names_ext (sorted_rise hnd) (rise_names hr) fun x => by
    rw [((List.mergeSort_perm ss _).map txt).mem_iff, hks.mem_iff]
  rw [heq] at hslc
  exact hR w2 v G hslc (fun b hb => by have := hG b hb; rw [heap_size] at this; omega) (f1.trans' f2)
/-- maps.Clone. -/
theorem dk_clone {m : Nat} {es : Array MapEntry} {ck : Nat} (b1 : blk w m = some (.map es ck)) (hR : ∀ w', blk w' (hsz w) = some (.map es ck) → Fr [] w w' → hsz w' = hsz w + 1 → R (.map (some (hsz w))) w') : CALL PR F_maps_Clone_file [.map (some m)] w R := by
  refine ⟨(AnyW.maps_Clone Tryz.cloneA m es ck w b1).mono ?_⟩
  rintro e w1 ⟨rfl, rfl⟩
  exact ⟨_, rfl, hR _ (blk_alloc_new _ _) (Fr.alloc _ _ _) (by simp)⟩
end
end Go.Proofs.YtofllgbdphakiaaGreat
end

section
namespace Go.Proofs.YtofllgbdphakiaaGreat
open Go.Den Go.Disk

section
variable {κ : Type} [DecidableEq κ] {enc : κ → Value} {kd : TypeDesc} {es : Array MapEntry} {ck : Nat} {L : List (κ × Value)}
theorem mdel_B (hk : KeyOk kd enc) {w : World} {b : Nat} (hb : blk w b = some (.map es ck)) (h : MapB enc es ck L) (k : κ) :
    ∃ es' ck', mdel kd w (.map (some b)) (enc k) = some (setB w b (.map es' ck')) ∧ MapB enc es' ck' (delL L k) := by
  have h' : w.heap[b]? = some (.map es ck) := hb
  obtain ⟨es1, ck1, e1, l1⟩ := mdel_L hk hb h.l k
  have e2 := e1
  unfold mdel at e2
  simp only [h', mfind_L hk h.l] at e2
  have key : ∀ es2 ck2, some ({ w with heap := w.heap.setIfInBounds b (.map es2 ck2) } : World) = some (setB w b (.map es1 ck1)) → es1 = es2 ∧ ck1 = ck2 := by
    intro es2 ck2 e
    have h1 : blk (setB w b (.map es2 ck2)) b = blk (setB w b (.map es1 ck1)) b := congrArg (fun x : World => blk x b) (Option.some.inj e)
    rw [blk_setB_same hb, blk_setB_same hb] at h1
    cases h1
    exact ⟨rfl, rfl⟩
  have hsub : ∀ i, (es.eraseIdxIfInBounds i).toList.Sublist es.toList := fun i => by
    unfold Array.eraseIdxIfInBounds
    split
    · rw [Array.toList_eraseIdx]; exact List.eraseIdx_sublist _ _
    · exact List.Sublist.refl _
  refine ⟨es1, ck1, e1, l1, ?_, ?_⟩
  all_goals
    cases hf : findL L k 0 with
    | none =>
      simp only [hf] at e2
      obtain ⟨rfl, rfl⟩ := key _ _ e2
      first | exact h.lt | exact h.nd
    | some p =>
      obtain ⟨i, u⟩ := p
      simp only [hf] at e2
      obtain ⟨rfl, rfl⟩ := key _ _ e2
      first
        | exact fun x hx => h.lt x ((hsub i).subset hx)
        | exact List.Nodup.sublist ((hsub i).map _) h.nd
omit [DecidableEq κ] in
theorem nodup_of_map {α β : Type} {f : α → β} {L : List α} (h : (L.map f).Nodup) : L.Nodup := by
  rw [List.nodup_iff_pairwise_ne, List.pairwise_map] at h
  rw [List.nodup_iff_pairwise_ne]
  exact h.imp fun h e => h (by rw [e])
theorem ins_perm {L M : List (κ × Value)} (hn : (L.map (·.1)).Nodup) (hm : (M.map (·.1)).Nodup) (h : ∀ k, lk L k = lk M k) : L.Perm M := by
  refine (List.perm_ext_iff_of_nodup ?_ ?_).2 fun ⟨k, v⟩ => ?_
  · exact nodup_of_map hn
  · exact nodup_of_map hm
  · rw [← lk_mem hn, ← lk_mem hm, h]
end
theorem stars_snoc : ∀ (ps : List HP) {w : World} {F G : List Nat} {Q : HP}, (stars ps).p w F → Q.p w G → (∀ b ∈ F, b ∉ G) → (stars (ps ++ [Q])).p w (F ++ G)
  | [], w, F, G, Q, h, hq, _ => by
    obtain ⟨_, rfl⟩ := h
    exact ⟨G, [], hq, ⟨trivial, rfl⟩, by simp, by simp⟩
  | P :: ps, w, F, G, Q, h, hq, hd => by
    obtain ⟨A, B, h1, h2, rfl, h3⟩ := h
    refine ⟨A, B ++ G, h1, stars_snoc ps h2 hq (fun b hb => hd b (by simp [hb])), by simp, fun b hb hb' => ?_⟩
    rcases List.mem_append.1 hb' with hb' | hb'
    · exact h3 b hb hb'
    · exact hd b (by simp [hb]) hb'
theorem zipWith_set {α β γ : Type} (g : α → β → γ) : ∀ (xs : List α) (ys : List β) (i : Nat) (a : α) (b : β), xs[i]? = some a → (List.zipWith g xs ys).set i (g a b) = List.zipWith g xs (ys.set i b)
  | [], _, i, _, _, h => by simp at h
  | a' :: xs, [], i, a, b, _ => by simp
  | a' :: xs, b' :: ys, 0, a, b, h => by simp at h; subst h; rfl
  | a' :: xs, b' :: ys, i + 1, a, b, h => by simp only [List.zipWith_cons_cons, List.set_cons_succ]; rw [zipWith_set g xs ys i a b (by simpa using h)]
theorem zipWith_snoc {α β γ : Type} (g : α → β → γ) (xs : List α) (ys : List β) (a : α) (b : β) (h : xs.length = ys.length) : List.zipWith g (xs ++ [a]) (ys ++ [b]) = List.zipWith g xs ys ++ [g a b] := by
  rw [List.zipWith_append h]; rfl
section
variable {w0 w w' : World} {F0 : List Nat} {d : Nat} {s : Dk} {sv : Value} {ms fb : List Nat}
/-- a directory is given other entries. -/
theorem dk_setdir (h : At w0 F0 (stars (dkL d s sv ms fb)) w) {i m : Nat} {l l' : Dir} (hm : ms[i]? = some m) (hl : s.dirs[i]? = some l) {es' : Array MapEntry} {ck' : Nat} {L' : List (ByteArray × Value)} (f : Fr [m] w w') (b1 : blk w' m = some (.map es' ck'))
    (b2 : MapB (fun s : ByteArray => Value.string s) es' ck' L') (b3 : L'.Perm (dirL fb l')) : At w0 F0 (stars (dkL d { s with dirs := s.dirs.set i l' } sv ms fb)) w' := by
  obtain ⟨A0, ⟨h0, _⟩, _⟩ := h.get 0 rfl
  obtain ⟨A, h1, upd⟩ := h.upd 3 rfl
  obtain ⟨B, ⟨_, rfl⟩, _, upd2⟩ := stars_upd (dirHPs fb ms s.dirs) i (dirHP fb m l) (by unfold dirHPs; rw [List.getElem?_zipWith, hm, hl]) h1
  obtain ⟨A', h2, h3⟩ := upd2 w' [m] (dirHP fb m l') ⟨⟨es', ck', L', b1, b2, b3⟩, rfl⟩ f (fun b hb => .inl hb)
  have hz : (dirHPs fb ms s.dirs).set i (dirHP fb m l') = dirHPs fb ms (s.dirs.set i l') := zipWith_set _ _ _ _ _ _ hm
  rw [hz] at h2
  have hmA : m ∈ A := by
    obtain ⟨B, ⟨_, rfl⟩, h4⟩ := stars_get (dirHPs fb ms s.dirs) i (dirHP fb m l) (by unfold dirHPs; rw [List.getElem?_zipWith, hm, hl]) h1
    exact h4 m (by simp)
  have h5 := upd w' A' (stars (dirHPs fb ms (s.dirs.set i l'))) h2 (f.wider fun b hb => by simp at hb; subst hb; exact hmA) h3
  obtain ⟨F, g1, g2, g3⟩ := h5
  obtain ⟨C, D, ⟨_, rfl⟩, k2, hF, k4⟩ := g1
  exact ⟨F, ⟨[], D, ⟨⟨by simpa using h0.1, h0.2⟩, rfl⟩, k2, hF, by simp⟩, g2, g3⟩
/-- a file is changed. -/
theorem dk_fupd (h : At w0 F0 (stars (dkL d s sv ms fb)) w) {f b : Nat} {x : Fl} (hb : fb[f]? = some b) (hx : s.files[f]? = some x) : ∃ A bv, At w A (stars [pts b [bv, .int .i64 (x.sure : Int)], slc encB 1 bv x.b]) w ∧
    ∀ w' bv' x', At w A (stars [pts b [bv', .int .i64 ((x' : Fl).sure : Int)], slc encB 1 bv' x'.b]) w' → At w0 F0 (stars (dkL d (setF s f x') sv ms fb)) w' := by
  obtain ⟨A0, ⟨h0, _⟩, _⟩ := h.get 0 rfl
  obtain ⟨A, h1, upd⟩ := h.upd 4 rfl
  obtain ⟨B, ⟨bv, hB⟩, hBA, upd2⟩ := stars_upd (fileHPs fb s.files) f (fileHP b x) (by unfold fileHPs; rw [List.getElem?_zipWith, hb, hx]) h1
  refine ⟨B, bv, At.start hB, fun w' bv' x' ⟨F', p1, p2, p3⟩ => ?_⟩
  obtain ⟨A', h2, h3⟩ := upd2 w' F' (fileHP b x') ⟨bv', p1⟩ p3 p2
  have hz : (fileHPs fb s.files).set f (fileHP b x') = fileHPs fb (s.files.set f x') := zipWith_set _ _ _ _ _ _ hb
  rw [hz] at h2
  have h5 := upd w' A' (stars (fileHPs fb (s.files.set f x'))) h2 (p3.wider hBA) h3
  obtain ⟨F, g1, g2, g3⟩ := h5
  obtain ⟨C, D, ⟨_, rfl⟩, k2, hF, k4⟩ := g1
  exact ⟨F, ⟨[], D, ⟨⟨h0.1, by simpa [setF] using h0.2⟩, rfl⟩, k2, hF, by simp⟩, g2, g3⟩
theorem dirL_more {fb : List Nat} {l : Dir} (b : Nat) (h : ∀ x ∈ l, x.2 < fb.length) : dirL (fb ++ [b]) l = dirL fb l := by
  unfold dirL
  refine List.map_congr_left fun x hx => ?_
  have := h x hx
  rw [List.getD_eq_getElem?_getD, List.getD_eq_getElem?_getD, List.getElem?_append_left this]
theorem dirHPs_more {fb ms : List Nat} {ds : List Dir} (b : Nat) (h : ∀ l ∈ ds, ∀ x ∈ l, x.2 < fb.length) : dirHPs (fb ++ [b]) ms ds = dirHPs fb ms ds := by
  unfold dirHPs
  induction ds generalizing ms with
  | nil => simp
  | cons l ds ih =>
    cases ms with
    | nil => rfl
    | cons m ms =>
      simp only [List.zipWith_cons_cons]
      rw [ih fun l hl => h l (by simp [hl])]
      congr 1
      unfold dirHP
      simp only [dirL_more b (h l (by simp))]
/-- a new file. -/
theorem dk_newfile (h : At w0 F0 (stars (dkL d s sv ms fb)) w) (f : Fr [] w w') {b T : Nat} (hb : hsz w ≤ b) (b1 : blk w' b = some (.cells [.slice none 0 0, .int .i64 0].toArray T (0, 0))) (hidx : ∀ l ∈ s.dirs, ∀ x ∈ l, x.2 < s.files.length) :
    At w0 F0 (stars (dkL d { s with files := s.files ++ [⟨[], 0⟩] } sv ms (fb ++ [b]))) w' := by
  obtain ⟨A0, ⟨h0, _⟩, _⟩ := h.get 0 rfl
  have h' := h.fr0 f
  obtain ⟨A, h1, upd⟩ := h.upd 4 rfl
  have hlt := (stars (fileHPs fb s.files)).lt h1
  have hnew : (fileHP b ⟨[], 0⟩).p w' [b] := ⟨.slice none 0 0, [b], [], ⟨⟨T, b1⟩, rfl⟩, ⟨[], [], Slc.nil _ _ _, ⟨trivial, rfl⟩, rfl, by simp⟩, rfl, by simp⟩
  have h2 := stars_snoc (fileHPs fb s.files) ((stars (fileHPs fb s.files)).fr h1 f (by simp)) hnew (fun c hc hc' => by simp at hc'; subst hc'; have := hlt _ hc; omega)
  have hz : fileHPs fb s.files ++ [fileHP b ⟨[], 0⟩] = fileHPs (fb ++ [b]) (s.files ++ [⟨[], 0⟩]) := (zipWith_snoc _ _ _ _ _ h0.2).symm
  rw [hz] at h2
  have h5 := upd w' (A ++ [b]) (stars (fileHPs (fb ++ [b]) (s.files ++ [⟨[], 0⟩]))) h2 f.nil (fun c hc => by
    rcases List.mem_append.1 hc with hc | hc
    · exact .inl hc
    · simp at hc; subst hc; exact .inr hb)
  obtain ⟨F, g1, g2, g3⟩ := h5
  obtain ⟨C, D, ⟨_, rfl⟩, k2, hF, k4⟩ := g1
  have hm : dirHPs (fb ++ [b]) ms s.dirs = dirHPs fb ms s.dirs := dirHPs_more b fun l hl x hx => by rw [h0.2]; exact hidx l hl x hx
  refine ⟨F, ⟨[], D, ⟨⟨h0.1, by simp [h0.2]⟩, rfl⟩, ?_, hF, by simp⟩, g2, g3⟩
  show (stars [pts d (dkC s (ms.headD 0) sv), slc encM 1 sv ms.tail, stars (dirHPs (fb ++ [b]) ms s.dirs), stars (fileHPs (fb ++ [b]) (s.files ++ [⟨[], 0⟩]))]).p w' D
  rw [hm]; exact k2
end
end Go.Proofs.YtofllgbdphakiaaGreat
end

section
namespace Go.Proofs.YtofllgbdphakiaaGreat
open Go.Den Go.Disk
set_option linter.unusedSimpArgs false
set_option linter.unusedVariables false
set_option maxRecDepth 20000
set_option maxHeartbeats 4000000
attribute [local congr] BND_cg COND_cg GEF_cg
attribute [local irreducible] capl slicea load1 loadn iaddr iaddra faddr storev newslice binv lookv mupd mdel mlenv mentry mestore slicev slicev3 slices indexs indexav textv rangev nexts clearv shiftv eqaggv convi buildv pickv lens lenl unv nilchk extractv partn JOIN
theorem At.pure0 {w0 w : World} {F0 : List Nat} {a b : Prop} {ps : List HP} (h : At w0 F0 (stars (pure_ a :: ps)) w) (hb : b) : At w0 F0 (stars (pure_ b :: ps)) w := by
  obtain ⟨F, ⟨A, B, ⟨_, rfl⟩, h2, h3, h4⟩, h5⟩ := h
  exact ⟨F, ⟨[], B, ⟨hb, rfl⟩, h2, h3, h4⟩, h5⟩
/-- the directory, as it stands behind a change. -/
structure NowAt (w : World) (fb : List Nat) (m : Nat) (l : Dir) : Prop where
  h : ∃ es ck L, blk w m = some (.map es ck) ∧ MapB (fun s : ByteArray => Value.string s) es ck L ∧ L.Perm (dirL fb l)
section
variable {w0 w : World} {F0 : List Nat} {d : Nat} {s : Dk} {R : Value → World → Prop}
theorem dk_change (h : At w0 F0 (diskHP d s) w) (hw : s.Wf) (hn : s.dirs.length < 1000000000)
    (hR : ∀ w' sv ms fb m, At w0 F0 (stars (dkL d { s with dirs := s.dirs ++ [s.now] } sv ms fb)) w' → ms[s.dirs.length]? = some m → NowAt w' fb m s.now → hsz w ≤ m → R (.map (some m)) w') : CALL PR F_disk_Disk_change [ptrTo d] w R := by
  refine C_disk_Disk_change ?_
  unfold M_disk_Disk_change
  refine dk_now h hw.ne hn fun sv ms fb m es ck L hs hm hf hmm b1 b2 b3 => ?_
  refine dk_clone b1 fun w2 c1 f2 z2 => ?_
  obtain ⟨A, h1, upd⟩ := hs.upd 3 rfl
  have hlt := (stars (dirHPs fb ms s.dirs)).lt h1
  have h2 := stars_snoc (Q := dirHP fb (hsz w) s.now) (G := [hsz w]) (dirHPs fb ms s.dirs) ((stars (dirHPs fb ms s.dirs)).fr h1 f2 (by simp)) ⟨⟨es, ck, L, c1, b2, b3⟩, rfl⟩ (fun c hc hc' => by simp at hc'; subst hc'; have := hlt _ hc; omega)
  have hz : dirHPs fb ms s.dirs ++ [dirHP fb (hsz w) s.now] = dirHPs fb (ms ++ [hsz w]) (s.dirs ++ [s.now]) := (zipWith_snoc _ _ _ _ _ hm).symm
  rw [hz] at h2
  have h5 := upd w2 (A ++ [hsz w]) (stars (dirHPs fb (ms ++ [hsz w]) (s.dirs ++ [s.now]))) h2 f2.nil (fun c hc => by
    rcases List.mem_append.1 hc with hc | hc
    · exact .inl hc
    · simp at hc; subst hc; exact .inr (Nat.le_refl _))
  unfold ptrTo
  obtain ⟨T, c⟩ := h5.cell (i := 1) rfl
  (repeat refine gg ?_)
  refine newone_step (enc := encM) (x := hsz w) encM_len rfl fun u w3 s3 f3 z3 => ?_
  have htl : ms.tail.length = ms.length - 1 := by simp
  refine (h5.fr0 f3).append (i := 2) rfl (s3.loads encM_len) encM_len encM_one rfl (by omega) (by rw [htl]; simp; omega) fun v' w4 h6 one6 => ?_
  (repeat refine gg ?_)
  refine h6.store (i := 1) rfl one6 (by simp [dkC]) fun w5 h7 f7 => ?_
  have hne : ms ≠ [] := by
    intro e; subst e
    have := List.length_pos_iff.2 hw.ne
    simp at hm; omega
  have et : (ms ++ [hsz w]).tail = ms.tail ++ [hsz w] := by cases ms with
    | nil => exact absurd rfl hne
    | cons a r => rfl
  have eh : (ms ++ [hsz w]).headD 0 = ms.headD 0 := by cases ms with
    | nil => exact absurd rfl hne
    | cons a r => rfl
  have h8 : At w0 F0 (stars (dkL d { s with dirs := s.dirs ++ [s.now] } v' (ms ++ [hsz w]) fb)) w5 := by
    have := At.pure0 (b := (ms ++ [hsz w]).length = (s.dirs ++ [s.now]).length ∧ fb.length = s.files.length) h7 ⟨by simp [hm], hf⟩
    unfold dkL
    rw [et, eh]
    exact this
  have hget : (ms ++ [hsz w])[s.dirs.length]? = some (hsz w) := by rw [← hm, List.getElem?_append_right (Nat.le_refl _)]; simp
  refine hR w5 v' (ms ++ [hsz w]) fb (hsz w) h8 hget ?_ (Nat.le_refl _)
  have := dk_dir h8 (i := s.dirs.length) (l := s.now) hget (by simp)
  exact ⟨this⟩
theorem dk_named (n : ByteArray) (hR : ∀ w', Fr [] w w' → R (.bool (named n)) w') : CALL PR F_disk_named [.string n] w R := by
  refine C_disk_named ?_
  unfold M_disk_named
  unfold named at hR
  (repeat refine gg ?_)
  by_cases h0 : n.size = 0
  · (repeat refine gg ?_)
    have := hR _ (Fr.refl _ _)
    simpa [h0] using this
  by_cases h12 : 12 < n.size
  · (repeat refine gg ?_)
    have := hR _ (Fr.refl _ _)
    simpa [show ¬ n.size ≤ 12 by omega] using this
  (repeat refine gg ?_)
  have e0 : (decide (1 ≤ n.size) && decide (n.size ≤ 12)) = true := by simp; omega
  rw [e0, Bool.true_and] at hR
  refine ⟨n, rfl, fun c w1 hc hh hrest => ?_⟩
  have hsz1 : hsz w1 = hsz w := by unfold hsz; rw [hh]
  have hl : n.data.toList.length = n.size := Array.length_toList
  have f1 : Fr [] w (w1.alloc (.cells (n.data.map (fun b => Value.int .u8 b.toNat) ++ Array.replicate (c - n.size) (.int .u8 0)) 5 (c, c + 1))) := ⟨by simp [hsz1], fun b hb _ => by rw [blk_alloc_old (by omega), heap_ext hh], hrest.1, hrest.2.1, hrest.2.2⟩
  have ar : Arr encB 1 (w1.alloc (.cells (n.data.map (fun b => Value.int .u8 b.toNat) ++ Array.replicate (c - n.size) (.int .u8 0)) 5 (c, c + 1))) (.slice (some ⟨w1.heap.size, 0, .none⟩) n.size c) n.data.toList := by
    refine ⟨some ⟨w1.heap.size, 0, .none⟩, c, by rw [hl], .inr ⟨w1.heap.size, 0, _, _, _, rfl, blk_alloc_new _ _, fun i x hx => ⟨?_, fun j hj => ?_⟩⟩⟩
    · have hi := (List.getElem?_eq_some_iff.1 hx).1
      simp only [Array.size_append, Array.size_map, Array.size_replicate]
      have : n.data.size = n.size := rfl
      omega
    · obtain rfl : j = 0 := by omega
      have hi := (List.getElem?_eq_some_iff.1 hx).1
      rw [Array.getElem?_append_left (by simp; omega)]
      rw [Array.getElem?_toList] at hx
      simp [encB, hx]
  generalize w1.alloc (.cells (n.data.map (fun b => Value.int .u8 b.toNat) ++ Array.replicate (c - n.size) (.int .u8 0)) 5 (c, c + 1)) = w2 at f1 ar
  generalize (Value.slice (some ⟨w1.heap.size, 0, .none⟩) n.size c) = bv at ar
  (repeat (first | refine BND_step ar.len ?_ | refine gg ?_))
  refine loop_up 0 n.data.toList.length (fun i w' => w' = w2 ∧ (n.data.toList.take i).all okByte = true) ⟨rfl, rfl⟩ (by omega) ?_
  rintro i w5 - hi ⟨rfl, e⟩ J m hJ
  by_cases hlt : i < n.data.toList.length
  · have hx := List.getElem?_eq_getElem hlt
    generalize n.data.toList[i] = x at hx
    obtain ⟨b, o, ia, _, _, l1⟩ := ar.spot hx rfl .i64
    have l1' := l1 rfl (j := 0) rfl
    have yes : okByte x = true → J (.int .i64 ((i + 1 : Nat) : Int)) w5 ∧ m (.int .i64 ((i + 1 : Nat) : Int)) w5 < m (.int .i64 (i : Int)) w5 := fun hok => hJ w5 hlt ⟨rfl, by rw [List.take_add_one, hx, List.all_append, e]; simp [hok]⟩
    have no : okByte x = false → R (.bool false) w5 := fun hno => by
      have := hR w5 f1
      have e2 : n.data.toList.all okByte = false := by rw [List.all_eq_false]; exact ⟨x, List.mem_of_getElem? hx, by simp [hno]⟩
      rwa [e2] at this
    have hx46 : (x.toNat : Int) = 46 ↔ x = 46 := by
      rw [← UInt8.toNat_inj]; show (x.toNat : Int) = 46 ↔ x.toNat = 46; omega
    have h48 : 48 ≤ x ↔ (48 : Int) ≤ (x.toNat : Int) := by rw [UInt8.le_iff_toNat_le]; show 48 ≤ x.toNat ↔ _; omega
    have h57 : x ≤ 57 ↔ (x.toNat : Int) ≤ 57 := by rw [UInt8.le_iff_toNat_le]; show x.toNat ≤ 57 ↔ _; omega
    have h97 : 97 ≤ x ↔ (97 : Int) ≤ (x.toNat : Int) := by rw [UInt8.le_iff_toNat_le]; show 97 ≤ x.toNat ↔ _; omega
    have h122 : x ≤ 122 ↔ (x.toNat : Int) ≤ 122 := by rw [UInt8.le_iff_toNat_le]; show x.toNat ≤ 122 ↔ _; omega
    have hok : okByte x = true ↔ (x.toNat : Int) = 46 ∨ (48 ≤ (x.toNat : Int) ∧ (x.toNat : Int) ≤ 57) ∨ (97 ≤ (x.toNat : Int) ∧ (x.toNat : Int) ≤ 122) := by
      unfold okByte
      simp only [Bool.or_eq_true, Bool.and_eq_true, decide_eq_true_eq, h48, h57, h97, h122, hx46, or_assoc]
    have hno : okByte x = false ↔ ¬ ((x.toNat : Int) = 46 ∨ (48 ≤ (x.toNat : Int) ∧ (x.toNat : Int) ≤ 57) ∨ (97 ≤ (x.toNat : Int) ∧ (x.toNat : Int) ≤ 122)) := by
      rw [← hok]; simp
    generalize (x.toNat : Int) = z at *
    by_cases q1 : z = 46
    · (repeat refine gg ?_)
      exact yes (hok.2 (by omega))
    by_cases q2 : z < 48
    · by_cases q3 : z < 97
      · (repeat refine gg ?_)
        exact no (hno.2 (by omega))
      · (repeat refine gg ?_)
        omega
    by_cases q4 : 57 < z
    · by_cases q5 : z < 97
      · (repeat refine gg ?_)
        exact no (hno.2 (by omega))
      · by_cases q6 : 122 < z
        · (repeat refine gg ?_)
          exact no (hno.2 (by omega))
        · (repeat refine gg ?_)
          exact yes (hok.2 (by omega))
    · (repeat refine gg ?_)
      exact yes (hok.2 (by omega))
  · (repeat refine gg ?_)
    rw [List.take_of_length_le (by omega)] at e
    have := hR w5 f1
    rwa [e] at this
end
end Go.Proofs.YtofllgbdphakiaaGreat
end

section
namespace Go.Proofs.YtofllgbdphakiaaGreat
open Go.Den Go.Disk
/-! ## Plain -/
theorem can_keep (s : Dk) (e : Int) : (can s e).1.files = s.files ∧ (can s e).1.dirs = s.dirs ∧ (can s e).1.room = s.room := by
  unfold can
  split
  · exact ⟨rfl, rfl, rfl⟩
  · split
    · exact ⟨rfl, rfl, rfl⟩
    · split
      · exact ⟨rfl, rfl, rfl⟩
      · split <;> exact ⟨rfl, rfl, rfl⟩
theorem can_zero {s : Dk} {e : Int} (h : (can s e).2 = 0) : e = 0 := by
  unfold can at h
  split at h
  · simp at h
  · split at h
    · exact h
    · rename_i h2; simpa using h2
theorem wf_can {s : Dk} (h : s.Wf) (e : Int) : (can s e).1.Wf := by
  obtain ⟨h1, h2, h3⟩ := can_keep s e
  refine ⟨by rw [h2]; exact h.ne, by rw [h2]; exact h.rise, by rw [h1, h2]; exact h.idx, by rw [h2]; exact h.many, by rw [h2]; exact h.nm, by rw [h1]; exact h.sure, by rw [h1, h3]; exact h.small, by rw [h3]; exact h.room, ?_⟩
  have hb := h.burn
  unfold can
  split
  · exact hb
  · split
    · exact hb
    · split
      · exact hb
      · split
        · show -1 ≤ s.burn - 1 ∧ s.burn - 1 ≤ _; omega
        · exact hb
theorem can_now (s : Dk) (e : Int) : (can s e).1.now = s.now := by unfold Dk.now; rw [(can_keep s e).2.1]
theorem findD_withD {l : Dir} (hr : riseD l) {x : ByteArray × Nat} (hn : ∀ y ∈ l, y.1 ≠ x.1) (k : ByteArray) : findD (withD l x) k = if k = x.1 then some x.2 else findD l k := by
  have hr' := rise_withD hr hn
  by_cases hk : k = x.1
  · rw [if_pos hk, hk]
    exact findD_of_mem hr' (mem_withD.2 (.inl rfl))
  · rw [if_neg hk]
    cases hf : findD l k with
    | none =>
      rw [findD_none]
      intro y hy
      rcases mem_withD.1 hy with rfl | hy
      · exact fun e => hk e.symm
      · exact findD_none.1 hf y hy
    | some f => exact findD_of_mem hr' (mem_withD.2 (.inr (findD_mem hf)))
theorem findD_without {l : Dir} (hr : riseD l) (n k : ByteArray) : findD (without l n) k = if k = n then none else findD l k := by
  by_cases hk : k = n
  · rw [if_pos hk, findD_none]
    intro y hy e
    exact (mem_without.1 hy).2 (by rw [e, hk])
  · rw [if_neg hk]
    cases hf : findD l k with
    | none =>
      rw [findD_none]
      intro y hy
      exact findD_none.1 hf y (mem_without.1 hy).1
    | some f => exact findD_of_mem (rise_without hr n) (mem_without.2 ⟨findD_mem hf, hk⟩)
theorem without_id {l : Dir} {n : ByteArray} (h : findD l n = none) : without l n = l := by
  unfold without
  refine List.filter_eq_self.2 fun x hx => ?_
  have := findD_none.1 h x hx
  simp [this]
theorem keys_dir {fb : List Nat} {l : Dir} (hr : riseD l) : ((dirL fb l).map (·.1)).Nodup := by
  unfold dirL
  rw [List.map_map, List.nodup_iff_pairwise_ne]
  exact (rise_names hr).imp fun {a b} h e => by subst e; rw [bl_irr] at h; cases h
theorem lk_dirL {fb : List Nat} {l : Dir} (hr : riseD l) (k : ByteArray) : lk (dirL fb l) k = (findD l k).map fun f => ptrTo (fb.getD f 0) := lk_dir hr (.refl _) (keys_dir hr) k
theorem ins_dir {fb : List Nat} {l : Dir} {L : List (ByteArray × Value)} (hr : riseD l) (hp : L.Perm (dirL fb l)) (hL : (L.map (·.1)).Nodup) (n : ByteArray) (f : Nat) : (insL L n (ptrTo (fb.getD f 0))).Perm (dirL fb (withD (without l n) (n, f))) := by
  have hnn : ∀ y ∈ without l n, y.1 ≠ n := fun y hy => (mem_without.1 hy).2
  have hr2 : riseD (withD (without l n) (n, f)) := rise_withD (rise_without hr n) hnn
  refine ins_perm (once_ins hL n _) (keys_dir hr2) fun k => ?_
  rw [lk_ins, lk_dirL hr2, findD_withD (rise_without hr n) hnn, findD_without hr, lk_dir hr hp hL]
  by_cases hk : k = n
  · simp [hk]
  · simp [hk]
theorem del_dir {fb : List Nat} {l : Dir} {L : List (ByteArray × Value)} (hr : riseD l) (hp : L.Perm (dirL fb l)) (hL : (L.map (·.1)).Nodup) (n : ByteArray) : (delL L n).Perm (dirL fb (without l n)) := by
  refine ins_perm (once_del hL n) (keys_dir (rise_without hr n)) fun k => ?_
  rw [lk_del hL, lk_dirL (rise_without hr n), findD_without hr, lk_dir hr hp hL]
  by_cases hk : k = n
  · simp [hk]
  · simp [hk]
theorem set_snoc {α : Type} (l : List α) (a b : α) : (l ++ [a]).set l.length b = l ++ [b] := by
  induction l with
  | nil => rfl
  | cons x l ih => simp only [List.cons_append, List.length_cons, List.set_cons_succ, ih]
set_option linter.unusedSimpArgs false
set_option linter.unusedVariables false
set_option maxRecDepth 20000
set_option maxHeartbeats 4000000
attribute [local congr] BND_cg COND_cg GEF_cg
attribute [local irreducible] capl slicea load1 loadn iaddr iaddra faddr storev newslice binv lookv mupd mdel mlenv mentry mestore slicev slicev3 slices indexs indexav textv rangev nexts clearv shiftv eqaggv convi buildv pickv lens lenl unv nilchk extractv partn JOIN
section
variable {w0 w : World} {F0 : List Nat} {d : Nat} {s : Dk} {R : Value → World → Prop}
theorem dk_Create (h : At w0 F0 (diskHP d s) w) (hw : s.Wf) (hn : s.dirs.length < 1000000000) (n : ByteArray) (hR : ∀ w', At w0 F0 (diskHP d (create s n).1) w' → R (.int .i64 (create s n).2) w') :
    CALL PR F_disk_Disk_Create [ptrTo d, .string n] w R := by
  refine C_disk_Disk_Create ?_
  unfold M_disk_Disk_Create
  refine dk_now h hw.ne hn fun sv ms fb m es ck L hs hm hf hmm b1 b2 b3 => ?_
  have hr : riseD s.now := hw.rise _ (List.mem_of_getElem? (dk_now_get hw.ne))
  refine dk_named n fun w2 f2 => ?_
  have h2 := h.fr0 f2
  have c1 := f2.some (by simp) b1
  have lk1 := dk_lookup c1 b2 b3 hr n
  have ml := mlenv_L c1 b2.l
  have hLl : L.length = s.now.length := by rw [b3.length_eq]; simp [dirL]
  rw [hLl] at ml
  (repeat refine gg ?_)
  refine join_v (fun e w' => e = .int .i64 (createE s n) ∧ w' = w2) (fun K hK => ?_) ?_
  · cases hnm : named n with
    | false =>
      have e : createE s n = 1 := by simp [createE, hnm]
      (repeat refine gg ?_)
      exact hK _ _ ⟨by rw [e], rfl⟩
    | true =>
    cases hfd : findD s.now n with
    | some f =>
      rw [hfd] at lk1
      simp only [ptrTo] at lk1
      have e : createE s n = 6 := by simp [createE, hnm, Dk.find, hfd]
      (repeat refine gg ?_)
      refine join_v (fun e w' => e = .int .i64 (createE s n) ∧ w' = w2) (fun K2 hK2 => ?_) (fun e w' hq => hK e w' hq)
      (repeat refine gg ?_)
      exact hK2 _ _ ⟨by rw [e], rfl⟩
    | none =>
      rw [hfd] at lk1
      simp only at lk1
      (repeat refine gg ?_)
      refine join_v (fun e w' => e = .int .i64 (createE s n) ∧ w' = w2) (fun K2 hK2 => ?_) (fun e w' hq => hK e w' hq)
      by_cases h60 : 60 ≤ s.now.length
      · have e : createE s n = 4 := by simp [createE, hnm, Dk.find, hfd, h60]
        (repeat refine gg ?_)
        refine join_v (fun e w' => e = .int .i64 (createE s n) ∧ w' = w2) (fun K3 hK3 => ?_) (fun e w' hq => hK2 e w' hq)
        (repeat refine gg ?_)
        exact hK3 _ _ ⟨by rw [e], rfl⟩
      · have e : createE s n = 0 := by simp [createE, hnm, Dk.find, hfd, h60]
        (repeat refine gg ?_)
        refine join_v (fun e w' => e = .int .i64 (createE s n) ∧ w' = w2) (fun K3 hK3 => ?_) (fun e w' hq => hK2 e w' hq)
        (repeat refine gg ?_)
        exact hK3 _ _ ⟨by rw [e], rfl⟩
  · rintro _ _ ⟨rfl, rfl⟩
    refine dk_can h2 _ hw.burn fun w4 h4 => ?_
    unfold create at hR
    by_cases hc : (can s (createE s n)).2 = 0
    · simp only [hc, if_true] at hR
      rw [hc]
      (repeat refine gg ?_)
      refine join_w (fun w' => At w0 F0 (diskHP d { (can s (createE s n)).1 with files := s.files ++ [⟨[], 0⟩], dirs := s.dirs ++ [withD s.now (n, s.files.length)] }) w') (fun K hK => ?_) (fun w' hw' => hR w' hw')
      obtain ⟨k1, k2, k3⟩ := can_keep s (createE s n)
      have hcz := can_zero hc
      have hfd : findD s.now n = none := by
        cases hq : findD s.now n with
        | none => rfl
        | some f =>
          exfalso
          unfold createE Dk.find at hcz
          rw [hq] at hcz
          split at hcz <;> simp at hcz
      (repeat refine gg ?_)
      refine dk_change h4 (wf_can hw _) (by rw [k2]; exact hn) fun w6 sv6 ms6 fb6 m6 hs6 hm6 na6 _ => ?_
      rw [can_now, k2] at hs6
      rw [k2] at hm6
      rw [can_now] at na6
      have g6 := hs6.get 0 rfl
      obtain ⟨_, ⟨hlen6, _⟩, _⟩ := g6
      have hfb : fb6.length = s.files.length := by rw [← k1]; exact hlen6.2
      (repeat (first | refine gg ?_ | (apply BND_build ([.slice none 0 0, .int .i64 0]); exact rfl)))
      refine NEW_intro fun w7 b7 f7 z7 => ?_
      have hidx : ∀ l ∈ s.dirs ++ [s.now], ∀ x ∈ l, x.2 < s.files.length := fun l hl x hx => by
        rcases List.mem_append.1 hl with hl | hl
        · exact hw.idx l hl x hx
        · simp at hl; subst hl; exact hw.idx _ (List.mem_of_getElem? (dk_now_get hw.ne)) x hx
      have h7 := dk_newfile hs6 f7 (Nat.le_refl _) b7 (by rw [k1]; exact hidx)
      rw [k1] at h7
      obtain ⟨es6, ck6, L6, q1, q2, q3⟩ := na6.h
      have q1' := f7.some (by simp) q1
      obtain ⟨es8, ck8, e8, m8⟩ := mupd_B keyStr q1' q2 n (ptrTo (hsz w6))
      refine BND_step e8 <| hK _ ?_
      have hget : (fb6 ++ [hsz w6]).getD s.files.length 0 = hsz w6 := by
        rw [List.getD_eq_getElem?_getD, ← hfb, List.getElem?_append_right (Nat.le_refl _)]; simp
      have q3' : L6.Perm (dirL (fb6 ++ [hsz w6]) s.now) := by
        rw [dirL_more _ (fun x hx => by rw [hfb]; exact hw.idx _ (List.mem_of_getElem? (dk_now_get hw.ne)) x hx)]; exact q3
      have hperm := ins_dir (fb := fb6 ++ [hsz w6]) hr q3' q2.l.once n s.files.length
      rw [hget, without_id hfd] at hperm
      have h9 := dk_setdir h7 (i := s.dirs.length) (l := s.now) (l' := withD s.now (n, s.files.length)) hm6 (by simp) (Fr.setB (F := [m6]) (.inl (by simp)) _) (blk_setB_same q1') m8 hperm
      simp only [set_snoc] at h9
      exact dk_shut h9
    · simp only [hc, if_false] at hR
      (repeat refine gg ?_)
      refine join_w (fun w' => At w0 F0 (diskHP d (can s (createE s n)).1) w') (fun K hK => ?_) (fun w' hw' => hR w' hw')
      (repeat refine gg ?_)
      exact hK w4 h4
end
end Go.Proofs.YtofllgbdphakiaaGreat
end

section
namespace Go.Proofs.YtofllgbdphakiaaGreat
open Go.Den Go.Disk
theorem there_zero {s : Dk} {n : ByteArray} (h : there s n = 0) : ∃ f, findD s.now n = some f := by
  unfold there Dk.find at h
  cases hq : findD s.now n with
  | some f => exact ⟨f, rfl⟩
  | none => rw [hq] at h; simp at h
set_option linter.unusedSimpArgs false
set_option linter.unusedVariables false
set_option maxRecDepth 20000
set_option maxHeartbeats 4000000
attribute [local congr] BND_cg COND_cg GEF_cg
attribute [local irreducible] capl slicea load1 loadn iaddr iaddra faddr storev newslice binv lookv mupd mdel mlenv mentry mestore slicev slicev3 slices indexs indexav textv rangev nexts clearv shiftv eqaggv convi buildv pickv lens lenl unv nilchk extractv partn JOIN
section
variable {w0 w : World} {F0 : List Nat} {d : Nat} {s : Dk} {R : Value → World → Prop}
theorem dk_Delete (h : At w0 F0 (diskHP d s) w) (hw : s.Wf) (hn : s.dirs.length < 1000000000) (n : ByteArray) (hR : ∀ w', At w0 F0 (diskHP d (delete s n).1) w' → R (.int .i64 (delete s n).2) w') :
    CALL PR F_disk_Disk_Delete [ptrTo d, .string n] w R := by
  refine C_disk_Disk_Delete ?_
  unfold M_disk_Disk_Delete
  refine dk_there h hw hn n ?_
  refine dk_can h _ hw.burn fun w4 h4 => ?_
  have hr : riseD s.now := hw.rise _ (List.mem_of_getElem? (dk_now_get hw.ne))
  unfold delete at hR
  by_cases hc : (can s (there s n)).2 = 0
  · simp only [hc, if_true] at hR
    rw [hc]
    (repeat refine gg ?_)
    refine join_w (fun w' => At w0 F0 (diskHP d { (can s (there s n)).1 with dirs := s.dirs ++ [without s.now n] }) w') (fun K hK => ?_) (fun w' hw' => hR w' hw')
    obtain ⟨k1, k2, k3⟩ := can_keep s (there s n)
    (repeat refine gg ?_)
    refine dk_change h4 (wf_can hw _) (by rw [k2]; exact hn) fun w6 sv6 ms6 fb6 m6 hs6 hm6 na6 _ => ?_
    rw [can_now, k2] at hs6
    rw [k2] at hm6
    rw [can_now] at na6
    obtain ⟨es6, ck6, L6, q1, q2, q3⟩ := na6.h
    obtain ⟨es8, ck8, e8, m8⟩ := mdel_B keyStr q1 q2 n
    refine BND_step e8 <| hK _ ?_
    have hperm := del_dir hr q3 q2.l.once n
    have h9 := dk_setdir hs6 (i := s.dirs.length) (l := s.now) (l' := without s.now n) hm6 (by simp) (Fr.setB (F := [m6]) (.inl (by simp)) _) (blk_setB_same q1) m8 hperm
    simp only [set_snoc] at h9
    exact dk_shut h9
  · simp only [hc, if_false] at hR
    (repeat refine gg ?_)
    refine join_w (fun w' => At w0 F0 (diskHP d (can s (there s n)).1) w') (fun K hK => ?_) (fun w' hw' => hR w' hw')
    (repeat refine gg ?_)
    exact hK w4 h4
theorem dk_Rename (h : At w0 F0 (diskHP d s) w) (hw : s.Wf) (hn : s.dirs.length < 1000000000) (a b : ByteArray) (hR : ∀ w', At w0 F0 (diskHP d (rename s a b).1) w' → R (.int .i64 (rename s a b).2) w') :
    CALL PR F_disk_Disk_Rename [ptrTo d, .string a, .string b] w R := by
  refine C_disk_Disk_Rename ?_
  unfold M_disk_Disk_Rename
  refine dk_there h hw hn a ?_
  have hr : riseD s.now := hw.rise _ (List.mem_of_getElem? (dk_now_get hw.ne))
  have rest : ∀ w2, At w0 F0 (diskHP d s) w2 → ∀ e, e = renameE s a b → (CALL PR F_disk_Disk_can [ptrTo d, .int .i64 e] w2 fun t22_8 w4 =>
      BND (binv .int .eql t22_8 (Value.int .i64 0)) fun t24_9 =>
      JOIN (α := World → Prop) (fun k_22 => COND t24_9
      (CALL PR F_disk_Disk_change [ptrTo d] w4 fun t26_23 w6 =>
      BND (lookv .string (Value.pointer none) false w6 t26_23 (.string a)) fun t29_24 =>
      BND (mdel .string w6 t26_23 (.string a)) fun w7 =>
      BND (mupd .string w7 t26_23 (.string b) t29_24) fun w8 =>
      k_22 w8)
      (k_22 w4))
      (fun w5 => R t22_8 w5)) := by
    rintro w2 h2 _ rfl
    refine dk_can h2 _ hw.burn fun w4 h4 => ?_
    unfold rename at hR
    by_cases hc : (can s (renameE s a b)).2 = 0
    · simp only [hc, if_true] at hR
      rw [hc]
      have hcz := can_zero hc
      obtain ⟨f, hfd⟩ : ∃ f, findD s.now a = some f := by
        unfold renameE Dk.find at hcz
        cases hq : findD s.now a with
        | some f => exact ⟨f, rfl⟩
        | none => rw [hq] at hcz; simp at hcz
      have hff : (s.find a).getD 0 = f := by unfold Dk.find; rw [hfd]; rfl
      rw [hff] at hR
      (repeat refine gg ?_)
      refine join_w (fun w' => At w0 F0 (diskHP d { (can s (renameE s a b)).1 with dirs := s.dirs ++ [withD (without (without s.now a) b) (b, f)] }) w') (fun K hK => ?_) (fun w' hw' => hR w' hw')
      obtain ⟨k1, k2, k3⟩ := can_keep s (renameE s a b)
      (repeat refine gg ?_)
      refine dk_change h4 (wf_can hw _) (by rw [k2]; exact hn) fun w6 sv6 ms6 fb6 m6 hs6 hm6 na6 _ => ?_
      rw [can_now, k2] at hs6
      rw [k2] at hm6
      rw [can_now] at na6
      obtain ⟨es6, ck6, L6, q1, q2, q3⟩ := na6.h
      have lk1 := dk_lookup q1 q2 q3 hr a
      rw [hfd] at lk1
      simp only at lk1
      refine BND_step lk1 ?_
      obtain ⟨es7, ck7, e7, m7⟩ := mdel_B keyStr q1 q2 a
      refine BND_step e7 ?_
      obtain ⟨es8, ck8, e8, m8⟩ := mupd_B keyStr (blk_setB_same q1) m7 b (ptrTo (fb6.getD f 0))
      refine BND_step e8 <| hK _ ?_
      have p1 := del_dir hr q3 q2.l.once a
      have p2 := ins_dir (rise_without hr a) p1 m7.l.once b f
      have fr1 : Fr [m6] w6 (setB w6 m6 (.map es7 ck7)) := Fr.setB (.inl (by simp)) _
      have fr2 : Fr [m6] (setB w6 m6 (.map es7 ck7)) (setB (setB w6 m6 (.map es7 ck7)) m6 (.map es8 ck8)) := Fr.setB (.inl (by simp)) _
      have h9 := dk_setdir hs6 (i := s.dirs.length) (l := s.now) (l' := withD (without (without s.now a) b) (b, f)) hm6 (by simp) (fr1.trans' fr2) (blk_setB_same (blk_setB_same q1)) m8 p2
      simp only [set_snoc] at h9
      exact dk_shut h9
    · simp only [hc, if_false] at hR
      (repeat refine gg ?_)
      refine join_w (fun w' => At w0 F0 (diskHP d (can s (renameE s a b)).1) w') (fun K hK => ?_) (fun w' hw' => hR w' hw')
      (repeat refine gg ?_)
      exact hK w4 h4
  have hte : there s a = if (s.find a).isSome then 0 else 5 := rfl
  cases hfd : (s.find a).isSome with
  | false =>
    have e1 : there s a = 5 := by rw [hte, hfd]; rfl
    have e : renameE s a b = 5 := by unfold renameE; rw [hfd]; rfl
    rw [e1]
    (repeat refine gg ?_)
    refine join_v (fun e w' => e = .int .i64 (renameE s a b) ∧ w' = w) (fun K hK => ?_) ?_
    · (repeat refine gg ?_)
      exact hK _ _ ⟨by rw [e], rfl⟩
    · rintro _ _ ⟨rfl, rfl⟩
      exact rest _ h _ rfl
  | true =>
    have e1 : there s a = 0 := by rw [hte, hfd]; rfl
    have e : renameE s a b = if named b then 0 else 1 := by unfold renameE; rw [hfd]; rfl
    rw [e1]
    (repeat refine gg ?_)
    refine dk_named b fun w2 f2 => ?_
    have h2 := h.fr0 f2
    cases hnm : named b with
    | true =>
      rw [hnm] at e
      (repeat refine gg ?_)
      refine join_v (fun e w' => e = .int .i64 (renameE s a b) ∧ w' = w2) (fun K hK => ?_) ?_
      · (repeat refine gg ?_)
        exact hK _ _ ⟨by rw [e]; rfl, rfl⟩
      · rintro _ _ ⟨rfl, rfl⟩
        exact rest _ h2 _ rfl
    | false =>
      rw [hnm] at e
      (repeat refine gg ?_)
      refine join_v (fun e w' => e = .int .i64 (renameE s a b) ∧ w' = w2) (fun K hK => ?_) ?_
      · (repeat refine gg ?_)
        exact hK _ _ ⟨by rw [e]; rfl, rfl⟩
      · rintro _ _ ⟨rfl, rfl⟩
        exact rest _ h2 _ rfl
theorem dk_DirSync (h : At w0 F0 (diskHP d s) w) (hw : s.Wf) (hn : s.dirs.length < 1000000000) (hR : ∀ w', At w0 F0 (diskHP d (dirsync s).1) w' → R (.int .i64 (dirsync s).2) w') :
    CALL PR F_disk_Disk_DirSync [ptrTo d] w R := by
  refine C_disk_Disk_DirSync ?_
  unfold M_disk_Disk_DirSync
  refine dk_can h _ hw.burn fun w4 h4 => ?_
  unfold dirsync at hR
  by_cases hc : (can s 0).2 = 0
  · simp only [hc, if_true] at hR
    rw [hc]
    (repeat refine gg ?_)
    refine join_w (fun w' => At w0 F0 (diskHP d { (can s 0).1 with dirs := [s.now] }) w') (fun K hK => ?_) (fun w' hw' => hR w' hw')
    obtain ⟨k1, k2, k3⟩ := can_keep s 0
    (repeat refine gg ?_)
    refine dk_now h4 (by rw [k2]; exact hw.ne) (by rw [k2]; exact hn) fun sv ms fb m es ck L hs hm hf hmm b1 b2 b3 => ?_
    rw [can_now] at b3
    unfold ptrTo
    (repeat refine gg ?_)
    refine hs.store (i := 1) rfl ⟨rfl, rfl⟩ (by simp [dkC]) fun w1 h1 f1 => ?_
    (repeat refine gg ?_)
    refine h1.store (i := 1) rfl ⟨rfl, rfl⟩ (by simp [dkC]) fun w2 h2 f2 => hK _ ?_
    obtain ⟨A, a1, upd⟩ := h2.upd 2 rfl
    have h3 := upd w2 [] (slc encM 1 (.slice none 0 0) []) (Slc.nil _ _ _) (Fr.refl _ _) (by simp)
    obtain ⟨A3, a3, upd3⟩ := h3.upd 3 rfl
    obtain ⟨B, ⟨b4, rfl⟩, hmA⟩ := stars_get (dirHPs fb ms (can s 0).1.dirs) ((can s 0).1.dirs.length - 1) (dirHP fb m s.now) (by
      unfold dirHPs; rw [List.getElem?_zipWith, hmm, dk_now_get (by rw [k2]; exact hw.ne), can_now]) a3
    have h5 := upd3 w2 [m] (stars [dirHP fb m s.now]) ⟨[m], [], ⟨b4, rfl⟩, ⟨trivial, rfl⟩, rfl, by simp⟩ (Fr.refl _ _) (fun c hc => .inl (hmA c hc))
    have h6 := At.pure0 (b := [m].length = [s.now].length ∧ fb.length = (can s 0).1.files.length) h5 ⟨rfl, hf⟩
    exact dk_shut (s := { (can s 0).1 with dirs := [s.now] }) (sv := .slice none 0 0) (ms := [m]) (fb := fb) h6
  · simp only [hc, if_false] at hR
    (repeat refine gg ?_)
    refine join_w (fun w' => At w0 F0 (diskHP d (can s 0).1) w') (fun K hK => ?_) (fun w' hw' => hR w' hw')
    (repeat refine gg ?_)
    exact hK w4 h4
theorem dk_Names (h : At w0 F0 (diskHP d s) w) (hw : s.Wf) (hn : s.dirs.length < 1000000000) (hR : ∀ w' v G, At w0 F0 (diskHP d s) w' → Slc encN 1 w' v (s.now.map (·.1)) G → (∀ b ∈ G, hsz w ≤ b) → Fr [] w w' → R v w') :
    CALL PR F_disk_Disk_Names [ptrTo d] w R := by
  refine C_disk_Disk_Names ?_
  unfold M_disk_Disk_Names
  have hmem : s.now ∈ s.dirs := List.mem_of_getElem? (dk_now_get hw.ne)
  refine dk_now h hw.ne hn fun sv ms fb m es ck L hs hm hf hmm b1 b2 b3 => ?_
  exact dk_keys b1 b2 b3 (hw.rise _ hmem) (hw.many _ hmem) (hw.nm _ hmem) fun w' v G h1 h2 h3 => hR w' v G (h.fr0 h3) h1 h2 h3
end
end Go.Proofs.YtofllgbdphakiaaGreat
end

section
namespace Go.Proofs.YtofllgbdphakiaaGreat
open Go.Den Go.Disk
theorem isSome_find {s : Dk} {n : ByteArray} {f : Nat} (h : findD s.now n = some f) : (s.find n).isSome = true ∧ (s.find n).getD 0 = f := by
  unfold Dk.find; rw [h]; exact ⟨rfl, rfl⟩
theorem wf_pick {s : Dk} (hw : s.Wf) {n : ByteArray} {f : Nat} (h : findD s.now n = some f) : s.files[f]? = some (fileAt s f) := by
  have hi := hw.idx _ (List.mem_of_getElem? (dk_now_get hw.ne)) _ (findD_mem h)
  unfold fileAt
  rw [List.getD_eq_getElem?_getD, List.getElem?_eq_getElem hi]; rfl
theorem Slc.take0 {α : Type} {enc : α → List Value} {sz : Nat} {w : World} {v : Value} {xs : List α} {F : List Nat} (h : Slc enc sz w v xs F) {n : Nat} (hn : n ≤ xs.length) (k : IntKind) : ∃ v', slicev sz v none (some (.int k (n : Int))) = some v' ∧ Slc enc sz w v' (xs.take n) F := by
  rcases h with ⟨rfl, rfl, rfl⟩ | ⟨b, cap, c, T, rfl, hb, hc, hs, rfl, hel⟩
  · have : n = 0 := by simpa using hn
    subst this
    exact ⟨.slice none 0 0, by simp [slicev, natOf], Slc.nil _ _ _⟩
  · have h1 : n ≤ cap := by omega
    refine ⟨.slice (some ⟨b, 0, none⟩) n cap, ?_, .inr ⟨b, cap, c, T, by simp [Nat.min_eq_left hn], hb, by simp; omega, hs, rfl, fun i x hx j hj => ?_⟩⟩
    · simp [slicev, natOf, h1, Addr.add]
    · rw [List.getElem?_take] at hx
      split at hx
      · exact hel i x hx j hj
      · simp at hx
theorem slc_nil : binv .slc .eql (.slice none 0 0) (.slice none 0 0) = some (.bool true) := rfl
theorem slc_not {a : Addr} {n c : Nat} : binv .slc .eql (.slice (some a) n c) (.slice none 0 0) = some (.bool false) := rfl
set_option linter.unusedSimpArgs false
set_option linter.unusedVariables false
set_option maxRecDepth 20000
set_option maxHeartbeats 4000000
attribute [local congr] BND_cg COND_cg GEF_cg
attribute [local irreducible] capl slicea load1 loadn iaddr iaddra faddr storev newslice binv lookv mupd mdel mlenv mentry mestore slicev slicev3 slices indexs indexav textv rangev nexts clearv shiftv eqaggv convi buildv pickv lens lenl unv nilchk extractv partn JOIN
section
variable {w0 w : World} {F0 : List Nat} {d : Nat} {s : Dk} {R : Value → World → Prop}
theorem dk_New (room : Int) (hR0 : (room < 16 ∨ 1048576 < room) → R (.tuple #[.pointer none, .int .i64 1]) w)
    (hR : 16 ≤ room ∧ room ≤ 1048576 → ∀ w' d, At w [] (diskHP d (empty room)) w' → R (.tuple #[ptrTo d, .int .i64 0]) w') : CALL PR F_disk_New [.int .i64 room] w R := by
  refine C_disk_New ?_
  unfold M_disk_New
  by_cases h1 : room < 16
  · (repeat refine gg ?_)
    exact hR0 (.inl h1)
  by_cases h2 : 1048576 < room
  · (repeat refine gg ?_)
    exact hR0 (.inr h2)
  (repeat refine gg ?_)
  refine NEWMAP_intro fun w1 b1 f1 z1 => ?_
  (repeat (first | refine gg ?_ | (apply BND_build ([.int .i64 room, .map (some (hsz w)), .slice none 0 0, .int .i64 (-1), .bool false]); exact rfl)))
  refine NEW_intro fun w2 b2 f2 z2 => ?_
  (repeat refine gg ?_)
  have hd : (dirHP [] (hsz w) []).p w2 [hsz w] := ⟨⟨#[], 0, [], by rw [f2.keep _ (by omega) (by simp), b1], ⟨⟨rfl, .nil⟩, by simp, by simp⟩, by simp [dirL]⟩, rfl⟩
  refine hR (by omega) w2 (hsz w1) (dk_shut (sv := .slice none 0 0) (ms := [hsz w]) (fb := []) ⟨[hsz w1, hsz w], ?_, fun b hb => ?_, f1.trans' f2⟩)
  · refine ⟨[], _, ⟨⟨rfl, rfl⟩, rfl⟩, ⟨[hsz w1], [hsz w], ⟨⟨_, b2⟩, rfl⟩, ⟨[], [hsz w], Slc.nil _ _ _, ⟨[hsz w], [], ⟨[hsz w], [], hd, ⟨trivial, rfl⟩, rfl, by simp⟩, ⟨[], [], ⟨trivial, rfl⟩, ⟨trivial, rfl⟩, rfl, by simp⟩, rfl, by simp⟩, rfl, by simp⟩, rfl, ?_⟩, rfl, by simp⟩
    intro b hb hb'
    simp at hb hb'
    omega
  · simp at hb
    right; omega
theorem dk_Read (h : At w0 F0 (diskHP d s) w) (hw : s.Wf) (hn : s.dirs.length < 1000000000) (n : ByteArray) (hR : ∀ w' v G, At w0 F0 (diskHP d s) w' → Slc encB 1 w' v (Disk.read s n).1 G → (∀ b ∈ G, hsz w ≤ b) → Fr [] w w' → R (.tuple #[v, .int .i64 (Disk.read s n).2]) w') :
    CALL PR F_disk_Disk_Read [ptrTo d, .string n] w R := by
  refine C_disk_Disk_Read ?_
  unfold M_disk_Disk_Read
  obtain ⟨sv, ms, fb, hs, hm, hf⟩ := dk_open h
  obtain ⟨T, c⟩ := hs.cell (i := 1) rfl
  unfold Disk.read at hR
  cases hg : s.gone with
  | true =>
    simp only [hg, if_true] at hR
    unfold ptrTo
    (repeat refine gg ?_)
    rw [hg]
    (repeat refine gg ?_)
    exact hR w _ [] h (Slc.nil _ _ _) (by simp) (Fr.refl _ _)
  | false =>
    simp only [hg, Bool.false_eq_true, if_false] at hR
    unfold ptrTo
    (repeat refine gg ?_)
    rw [hg]
    (repeat refine gg ?_)
    unfold Dk.find at hR
    refine dk_there h hw hn n ?_
    cases hfd : findD s.now n with
    | none =>
      have e : there s n = 5 := by unfold there Dk.find; rw [hfd]; rfl
      rw [e]
      simp only [hfd] at hR
      (repeat refine gg ?_)
      exact hR w _ [] h (Slc.nil _ _ _) (by simp) (Fr.refl _ _)
    | some f =>
      have e : there s n = 0 := by unfold there Dk.find; rw [hfd]; rfl
      rw [e]
      simp only [hfd] at hR
      have hr : riseD s.now := hw.rise _ (List.mem_of_getElem? (dk_now_get hw.ne))
      (repeat refine gg ?_)
      refine dk_now h hw.ne hn fun sv ms fb m es ck L hs hm hf hmm b1 b2 b3 => ?_
      have lk1 := dk_lookup b1 b2 b3 hr n
      rw [hfd] at lk1
      have hx := wf_pick hw hfd
      have hi : f < fb.length := by rw [hf]; exact (List.getElem?_eq_some_iff.1 hx).1
      have hb := List.getElem?_eq_getElem hi
      have hgd : fb.getD f 0 = fb[f] := by rw [List.getD_eq_getElem?_getD, hb]; rfl
      simp only [hgd] at lk1
      generalize fb[f] = b at hb lk1
      simp only [ptrTo] at lk1
      obtain ⟨bv, T, G, c2, ss⟩ := dk_file hs hb hx
      have hsm := hw.small _ (List.mem_of_getElem? hx)
      have hrm := hw.room
      (repeat refine gg ?_)
      refine C_slices_Clone_byte_byte ?_
      unfold M_slices_Clone_byte_byte
      have ss0 := ss
      rcases ss with ⟨rfl, e3, _⟩ | ⟨b', cap, cc, T', rfl, _, _, _, _, _⟩
      · (repeat (first | refine BND_step slc_nil ?_ | refine BND_step slc_not ?_ | refine gg ?_))
        rw [show (fileAt s f).b = [] from e3] at hR
        exact hR w _ [] h (Slc.nil _ _ _) (by simp) (Fr.refl _ _)
      · (repeat (first | refine BND_step slc_nil ?_ | refine BND_step slc_not ?_ | refine gg ?_))
        refine newnil_step encB fun t w1 s1 f1 z1 => ?_
        refine APPEND_slc s1 (ys := (fileAt s f).b) ((ss0.fr f1 (by simp)).loads encB_len) encB_len encB_one rfl (by simp; omega) (by simp; omega) fun v' w2 F' s2 f2 sub => ?_
        (repeat refine gg ?_)
        have f3 : Fr [] w w2 := f1.trans f2 (by simp)
        exact hR w2 v' F' (h.fr0 f3) s2 (fun b hb => by
          rcases sub b hb with hb | hb
          · simp at hb; omega
          · omega) f3
theorem dk_Sync (h : At w0 F0 (diskHP d s) w) (hw : s.Wf) (hn : s.dirs.length < 1000000000) (n : ByteArray) (hR : ∀ w', At w0 F0 (diskHP d (sync s n).1) w' → R (.int .i64 (sync s n).2) w') :
    CALL PR F_disk_Disk_Sync [ptrTo d, .string n] w R := by
  refine C_disk_Disk_Sync ?_
  unfold M_disk_Disk_Sync
  refine dk_there h hw hn n ?_
  refine dk_can h _ hw.burn fun w4 h4 => ?_
  have hr : riseD s.now := hw.rise _ (List.mem_of_getElem? (dk_now_get hw.ne))
  unfold sync at hR
  by_cases hc : (can s (there s n)).2 = 0
  · simp only [hc, if_true] at hR
    rw [hc]
    obtain ⟨f, hfd⟩ := there_zero (can_zero hc)
    rw [(isSome_find hfd).2] at hR
    (repeat refine gg ?_)
    refine join_w (fun w' => At w0 F0 (diskHP d (setF (can s (there s n)).1 f { fileAt s f with sure := (fileAt s f).b.length })) w') (fun K hK => ?_) (fun w' hw' => hR w' hw')
    obtain ⟨k1, k2, k3⟩ := can_keep s (there s n)
    (repeat refine gg ?_)
    refine dk_now h4 (by rw [k2]; exact hw.ne) (by rw [k2]; exact hn) fun sv ms fb m es ck L hs hm hf hmm b1 b2 b3 => ?_
    rw [can_now] at b3
    have lk1 := dk_lookup b1 b2 b3 hr n
    rw [hfd] at lk1
    have hx : (can s (there s n)).1.files[f]? = some (fileAt s f) := by rw [k1]; exact wf_pick hw hfd
    have hi : f < fb.length := by rw [hf]; exact (List.getElem?_eq_some_iff.1 hx).1
    have hb := List.getElem?_eq_getElem hi
    have hgd : fb.getD f 0 = fb[f] := by rw [List.getD_eq_getElem?_getD, hb]; rfl
    simp only [hgd] at lk1
    generalize fb[f] = b at hb lk1
    simp only [ptrTo] at lk1
    obtain ⟨A, bv, ha, back⟩ := dk_fupd hs hb hx
    obtain ⟨T, c⟩ := ha.cell (i := 0) rfl
    obtain ⟨Fs, ss, _⟩ := ha.slc1 (i := 1) rfl
    (repeat (first | refine BND_step ss.len ?_ | refine gg ?_))
    refine ha.store (i := 0) rfl ⟨rfl, rfl⟩ (by simp) fun w5 h5 f5 => hK _ ?_
    exact dk_shut (back w5 bv { fileAt s f with sure := (fileAt s f).b.length } h5)
  · simp only [hc, if_false] at hR
    (repeat refine gg ?_)
    refine join_w (fun w' => At w0 F0 (diskHP d (can s (there s n)).1) w') (fun K hK => ?_) (fun w' hw' => hR w' hw')
    (repeat refine gg ?_)
    exact hK w4 h4
end
end Go.Proofs.YtofllgbdphakiaaGreat
end

section
set_option linter.unusedSimpArgs false
set_option linter.unusedVariables false
namespace Go.Proofs.YtofllgbdphakiaaGreat
open Go.Den
def itHP (r m ck : Nat) (sn : Array Nat) : HP where
  p w F := blk w r = some (.mapIter (some m) ck sn ck) ∧ F = [r]
  lt := by rintro w F ⟨h, rfl⟩ c hc; simp at hc; subst hc; exact blk_lt h
  st := by rintro w w' F ⟨h, rfl⟩ hk; exact ⟨by rw [hk r (by simp), h], rfl⟩
/-- what was seen, what was not. -/
structure ItAt (es : Array MapEntry) (sn : Array Nat) (A B : List MapEntry) : Prop where
  all : (A ++ B).Perm es.toList
  seen : sn.toList = A.map (·.born)
theorem ItAt.start (es : Array MapEntry) : ItAt es #[] [] es.toList := ⟨by simp, by simp⟩
theorem find_born : ∀ {l : List MapEntry} {e : MapEntry}, (l.map (·.born)).Nodup → e ∈ l → l.find? (fun x => x.born == e.born) = some e
  | [], e, _, h => by simp at h
  | x :: l, e, hn, h => by
    simp only [List.map_cons, List.nodup_cons] at hn
    rcases List.mem_cons.1 h with rfl | h
    · simp
    · have hne : x.born ≠ e.born := fun he => hn.1 (by rw [he]; exact List.mem_map.2 ⟨e, h, rfl⟩)
      rw [List.find?_cons_of_neg (by simpa using hne)]
      exact find_born hn.2 h
section
variable {es : Array MapEntry} {sn : Array Nat} {A B : List MapEntry} {w : World} {r m ck : Nat}
theorem ItAt.nd (h : ItAt es sn A B) (hn : (es.toList.map (·.born)).Nodup) : ((A ++ B).map (·.born)).Nodup := (h.all.map _).nodup_iff.2 hn
theorem RANGEM_step {k : Value → World → Prop} (b1 : blk w m = some (.map es ck)) (h : ∀ w', blk w' (hsz w) = some (.mapIter (some m) ck #[] ck) → Fr [] w w' → hsz w' = hsz w + 1 → k (.pointer (some ⟨hsz w, 0, none⟩)) w') :
    BND (rangemv w (.map (some m))) fun p => NEW p k := by
  have b1' : w.heap[m]? = some (.map es ck) := b1
  refine BND_step (v := (.pointer (some ⟨w.heap.size, 0, none⟩), w.alloc (.mapIter (some m) ck #[] ck))) (by simp [rangemv, b1']) <| (NEW_pair _ _ _).2 ?_
  exact h _ (blk_alloc_new _ _) (Fr.alloc _ _ _) (by simp)
theorem NEXTM_step {k : Value → World → Prop} (b1 : blk w m = some (.map es ck)) (hlt : ∀ x ∈ es.toList, x.born < ck) (hnd : (es.toList.map (·.born)).Nodup) (b2 : blk w r = some (.mapIter (some m) ck sn ck)) (hi : ItAt es sn A B)
    (h0 : B = [] → k (.tuple #[.bool false]) w)
    (h1 : ∀ e B1 B2 w', B = B1 ++ e :: B2 → Fr [r] w w' → (itHP r m ck (sn.push e.born)).p w' [r] → ItAt es (sn.push e.born) (A ++ [e]) (B1 ++ B2) → entryv w' (.pointer (some ⟨r, 0, none⟩)) = some (.tuple #[e.key, e.val]) → k (.tuple #[.bool true, e.key, e.val]) w') :
    NEXTM (.pointer (some ⟨r, 0, none⟩)) w k := by
  refine ⟨?_⟩
  have b1' : w.heap[m]? = some (.map es ck) := b1
  have b2' : w.heap[r]? = some (.mapIter (some m) ck sn ck) := b2
  have hn := hi.nd hnd
  unfold NEXTMS
  simp only [b2', b1']
  refine ⟨hlt, Nat.le_refl _, fun hall => h0 ?_, fun e he hse w1 hh ho => ?_⟩
  · cases hB : B with
    | nil => rfl
    | cons x B' =>
      exfalso
      have hx : x ∈ es.toList := hi.all.mem_iff.1 (by rw [hB]; simp)
      have := hall x hx
      have hc : x.born ∈ A.map (·.born) := by
        rw [← hi.seen]
        simpa using this
      rw [List.map_append, List.nodup_append] at hn
      exact hn.2.2 _ hc _ (List.mem_map.2 ⟨x, by rw [hB]; simp, rfl⟩) rfl
  · have heA : e ∉ A := fun hA => by
      have hc : e.born ∈ sn.toList := by rw [hi.seen]; exact List.mem_map.2 ⟨e, hA, rfl⟩
      have : sn.contains e.born = true := by simpa using hc
      rw [this] at hse; cases hse
    have heB : e ∈ B := by
      rcases List.mem_append.1 (hi.all.mem_iff.2 he) with h | h
      · exact absurd h heA
      · exact h
    obtain ⟨B1, B2, hB⟩ := List.append_of_mem heB
    have hrm : r ≠ m := fun e => by subst e; rw [b1'] at b2'; cases b2'
    have hrlt : r < w.heap.size := blk_lt b2
    have k1 : blk ({ w1 with heap := w1.heap.setIfInBounds r (.mapIter (some m) ck (sn.push e.born) ck) } : World) r = some (.mapIter (some m) ck (sn.push e.born) ck) := by
      show (w1.heap.setIfInBounds r _)[r]? = _
      rw [hh, Array.getElem?_setIfInBounds_self, if_pos hrlt]
    have k2 : blk ({ w1 with heap := w1.heap.setIfInBounds r (.mapIter (some m) ck (sn.push e.born) ck) } : World) m = some (.map es ck) := by
      show (w1.heap.setIfInBounds r _)[m]? = _
      rw [hh, Array.getElem?_setIfInBounds_ne hrm]; exact b1'
    refine h1 e B1 B2 _ hB ⟨?_, fun b hb hb' => ?_, ho.1, ho.2.1, ho.2.2⟩ ⟨k1, rfl⟩ ⟨?_, ?_⟩ ?_
    · show w.heap.size ≤ (w1.heap.setIfInBounds r _).size
      rw [Array.size_setIfInBounds, hh]; exact Nat.le_refl _
    · show (w1.heap.setIfInBounds r _)[b]? = w.heap[b]?
      rw [hh, Array.getElem?_setIfInBounds_ne (fun e => hb' (by simp [e]))]
    · refine List.Perm.trans ?_ hi.all
      rw [hB, List.append_assoc]
      refine List.Perm.append_left A ?_
      rw [List.singleton_append]
      exact List.perm_middle.symm
    · simp [hi.seen]
    · have k1' : ({ w1 with heap := w1.heap.setIfInBounds r (.mapIter (some m) ck (sn.push e.born) ck) } : World).heap[r]? = _ := k1
      have k2' : ({ w1 with heap := w1.heap.setIfInBounds r (.mapIter (some m) ck (sn.push e.born) ck) } : World).heap[m]? = _ := k2
      have hf : es.find? (fun x => x.born == e.born) = some e := by rw [← Array.find?_toList]; exact find_born hnd he
      unfold entryv
      simp only [k1', k2', Array.back?_push, hf, if_true, Option.map_some]
end
/-- pointers of blocks of cells, compared. -/
def ptrB (b : Nat) : Value := .pointer (some ⟨b, 0, none⟩)
theorem ptrv_blk {w : World} {a b : Nat} {c c' : Array Value} {T T' : Nat} (ha : blk w a = some (.cells c T (0, 0))) (hb : blk w b = some (.cells c' T' (0, 0))) :
    ptrv w .eql (.pointer (some ⟨a, 0, none⟩)) (.pointer (some ⟨b, 0, none⟩)) = some (.bool (decide (a = b))) := by
  have ha' : w.heap[a]? = some (.cells c T (0, 0)) := ha
  have hb' : w.heap[b]? = some (.cells c' T' (0, 0)) := hb
  by_cases h : a = b
  · subst h; simp [ptrv, binn]
  · simp [ptrv, binn, cellsAt, ha', hb', h]
instance {x : Value} : Ev (extractv (.tuple #[x]) 0) x := ⟨rfl⟩
theorem loop_up3 {B : (Value → Value → Value → World → Prop) → (Value → Value → Value → World → Nat) → Value → Value → Value → World → Prop} {w : World} {o p : Value} (s n : Nat) (I : Value → Value → Nat → World → Prop) (h0 : I o p s w) (hs : s ≤ n)
    (h : ∀ o p i w1, s ≤ i → i ≤ n → I o p i w1 → ∀ J m, (∀ o' p' w', i < n → I o' p' (i + 1) w' → J o' p' (.int .i64 ((i + 1 : Nat) : Int)) w' ∧ m o' p' (.int .i64 ((i + 1 : Nat) : Int)) w' < m o p (.int .i64 (i : Int)) w1) → B J m o p (.int .i64 (i : Int)) w1) :
    ∃ (J : Value → Value → Value → World → Prop) (m : Value → Value → Value → World → Nat), J o p (.int .i64 (s : Int)) w ∧ ∀ (_d : Env) (o p t : Value) (w1 : World), J o p t w1 → B J m o p t w1 := by
  refine ⟨fun o p t w' => ∃ i : Nat, t = .int .i64 i ∧ s ≤ i ∧ i ≤ n ∧ I o p i w', fun _ _ t _ => match t with | .int _ k => n - k.toNat | _ => 0, ⟨s, rfl, Nat.le_refl _, hs, h0⟩, ?_⟩
  rintro _ o p _ w1 ⟨i, rfl, h1, h2, h3⟩
  exact h o p i w1 h1 h2 h3 _ _ fun o' p' w' h4 h5 => ⟨⟨i + 1, rfl, by omega, by omega, h5⟩, by simp; omega⟩
def seenN (r : Nat) (w : World) : Nat := match blk w r with
  | some (.mapIter _ _ sn _) => sn.size
  | _ => 0
theorem seenN_it {r m ck : Nat} {sn : Array Nat} {w : World} (h : blk w r = some (.mapIter (some m) ck sn ck)) : seenN r w = sn.size := by unfold seenN; rw [h]
/-- a loop over a map, of two variables. -/
theorem loop_it2 {B : (Value → Value → World → Prop) → (Value → Value → World → Nat) → Value → Value → World → Prop} {w : World} {o p : Value} (r n : Nat) (I : Value → Value → World → Prop) (h0 : I o p w)
    (h : ∀ o p w1, I o p w1 → ∀ J m, (∀ o' p' w', seenN r w1 < n → seenN r w' = seenN r w1 + 1 → I o' p' w' → J o' p' w' ∧ m o' p' w' < m o p w1) → B J m o p w1) :
    ∃ (J : Value → Value → World → Prop) (m : Value → Value → World → Nat), J o p w ∧ ∀ (_d : Env) (o p : Value) (w1 : World), J o p w1 → B J m o p w1 := by
  refine ⟨I, fun _ _ w' => n - seenN r w', h0, ?_⟩
  intro _ o p w1 h3
  exact h o p w1 h3 _ _ fun o' p' w' h4 h5 h6 => ⟨h6, by show n - seenN r w' < n - seenN r w1; omega⟩
end Go.Proofs.YtofllgbdphakiaaGreat
end

section
namespace Go.Proofs.YtofllgbdphakiaaGreat
open Go.Den Go.Disk
def encF (fb : List Nat) (f : Nat) : List Value := [ptrTo (fb.getD f 0)]
theorem encF_len (fb : List Nat) (x : Nat) : (encF fb x).length = 1 := rfl
theorem encF_one (fb : List Nat) (x : Nat) : ∀ u ∈ encF fb x, u.oneCell' = true := by intro u hu; simp [encF, ptrTo] at hu; subst hu; rfl
/-- files lie apart. -/
theorem files_apart : ∀ (fb : List Nat) (fs : List Fl) {w : World} {F : List Nat}, fb.length = fs.length → (stars (fileHPs fb fs)).p w F → fb.Nodup ∧ ∀ b ∈ fb, b ∈ F
  | [], _, w, F, _, _ => by simp
  | b :: fb, [], w, F, h, _ => by simp at h
  | b :: fb, x :: fs, w, F, hl, h => by
    obtain ⟨A, B, ⟨bv, A1, B1, ⟨_, rfl⟩, _, rfl, _⟩, h2, rfl, h3⟩ := h
    obtain ⟨n1, n2⟩ := files_apart fb fs (by simpa using hl) h2
    refine ⟨List.nodup_cons.2 ⟨fun hb => h3 b (by simp) (n2 b hb), n1⟩, fun c hc => ?_⟩
    rcases List.mem_cons.1 hc with rfl | hc
    · simp
    · exact List.mem_append.2 (.inr (n2 c hc))
theorem getD_inj {fb : List Nat} (hn : fb.Nodup) {f g : Nat} (hf : f < fb.length) (hg : g < fb.length) (h : fb.getD f 0 = fb.getD g 0) : f = g := by
  rw [List.getD_eq_getElem?_getD, List.getD_eq_getElem?_getD, List.getElem?_eq_getElem hf, List.getElem?_eq_getElem hg] at h
  exact (List.getElem_inj hn).1 h
/-- the sum over files, each once. -/
theorem sum_held {s : Dk} {fs : List Nat} (hn : fs.Nodup) (h : ∀ f, f ∈ fs ↔ isHeld s f = true) (hlt : ∀ f ∈ fs, f < s.files.length) : (fs.map fun f => (fileAt s f).b.length).sum = held s := by
  have hp : fs.Perm ((List.range s.files.length).filter fun f => isHeld s f) := by
    refine (List.perm_ext_iff_of_nodup hn ((List.nodup_range).filter _)).2 fun f => ?_
    rw [List.mem_filter, List.mem_range, h]
    exact ⟨fun hh => ⟨hlt f ((h f).2 hh), hh⟩, fun hh => hh.2⟩
  rw [(hp.map _).sum_nat]
  unfold held
  generalize List.range s.files.length = l
  induction l with
  | nil => rfl
  | cons a l ih =>
    by_cases ha : isHeld s a = true
    · rw [List.filter_cons_of_pos ha]; simp [ha, ih]
    · rw [List.filter_cons_of_neg ha]; simp [ha, ih]
theorem sum_small {fs : List Nat} {g : Nat → Nat} {b : Nat} (h : ∀ f ∈ fs, g f ≤ b) : (fs.map g).sum ≤ fs.length * b := by
  induction fs with
  | nil => simp
  | cons a l ih =>
    have h1 := h a (by simp)
    have h2 := ih fun f hf => h f (by simp [hf])
    simp only [List.map_cons, List.sum_cons, List.length_cons, Nat.add_mul]
    omega
theorem nodup_len {fs : List Nat} {n : Nat} (hn : fs.Nodup) (h : ∀ f ∈ fs, f < n) : fs.length ≤ n := by
  have hp : fs.Perm ((List.range n).filter fun f => decide (f ∈ fs)) := by
    refine (List.perm_ext_iff_of_nodup hn ((List.nodup_range).filter _)).2 fun f => ?_
    rw [List.mem_filter, List.mem_range]
    simp only [decide_eq_true_eq]
    exact ⟨fun hh => ⟨h f hh, hh⟩, fun hh => hh.2⟩
  rw [hp.length_eq]
  exact Nat.le_trans (List.length_filter_le _ _) (by simp)
theorem join_go {α : Type} {f : α → Prop} {k : α} (h : f k) : JOIN f k := h
theorem ents_mem {es : Array MapEntry} {L : List (ByteArray × Value)} (h : MapL (fun s : ByteArray => Value.string s) es L) {e : MapEntry} (he : e ∈ es.toList) : ∃ p ∈ L, e.key = .string p.1 ∧ e.val = p.2 := by
  have : (e.key, e.val) ∈ es.toList.map (fun e => (e.key, e.val)) := List.mem_map.2 ⟨e, he, rfl⟩
  rw [h.ents] at this
  obtain ⟨p, hp, e2⟩ := List.mem_map.1 this
  simp only [Prod.mk.injEq] at e2
  exact ⟨p, hp, e2.1.symm, e2.2.symm⟩
theorem mem_ents {es : Array MapEntry} {L : List (ByteArray × Value)} (h : MapL (fun s : ByteArray => Value.string s) es L) {p : ByteArray × Value} (hp : p ∈ L) : ∃ e ∈ es.toList, e.key = .string p.1 ∧ e.val = p.2 := by
  have : (Value.string p.1, p.2) ∈ L.map (fun p => (Value.string p.1, p.2)) := List.mem_map.2 ⟨p, hp, rfl⟩
  rw [← h.ents] at this
  obtain ⟨e, he, e2⟩ := List.mem_map.1 this
  simp only [Prod.mk.injEq] at e2
  exact ⟨e, he, e2.1, e2.2⟩
theorem ents_len {es : Array MapEntry} {L : List (ByteArray × Value)} (h : MapL (fun s : ByteArray => Value.string s) es L) : es.toList.length = L.length := by
  have := congrArg List.length h.ents
  simpa using this
set_option linter.unusedSimpArgs false
set_option linter.unusedVariables false
set_option maxRecDepth 20000
set_option maxHeartbeats 4000000
attribute [local congr] BND_cg COND_cg GEF_cg
attribute [local irreducible] capl slicea load1 loadn iaddr iaddra faddr storev newslice binv lookv mupd mdel mlenv mentry mestore slicev slicev3 slices indexs indexav textv rangev nexts clearv shiftv eqaggv convi buildv pickv lens lenl unv nilchk extractv partn JOIN
section
variable {w0 w : World} {F0 : List Nat} {d : Nat} {s : Dk} {R : Value → World → Prop}
theorem dk_Index {fb fs : List Nat} {v : Value} {f : Nat} (hn : fb.Nodup) (ha : Arr (encF fb) 1 w v fs) (hf : f < fb.length) (hfs : ∀ g ∈ fs, g < fb.length) (hl : fs.length < 1000000000000) (hc : ∀ b ∈ fb, ∃ c T, blk w b = some (.cells c T (0, 0)))
    (hR : ∀ k : Int, (0 ≤ k ↔ f ∈ fs) → R (.int .i64 k) w) : CALL PR F_slices_Index_disk_file_disk_file [v, ptrTo (fb.getD f 0)] w R := by
  refine C_slices_Index_disk_file_disk_file ?_
  unfold M_slices_Index_disk_file_disk_file
  have hcell : ∀ g, g < fb.length → ∃ c T, blk w (fb.getD g 0) = some (.cells c T (0, 0)) := fun g hg => hc _ (by rw [List.getD_eq_getElem?_getD, List.getElem?_eq_getElem hg]; exact List.getElem_mem hg)
  (repeat (first | refine BND_step ha.len ?_ | refine gg ?_))
  refine loop_up 0 fs.length (fun i w' => w' = w ∧ ∀ g ∈ fs.take i, g ≠ f) ⟨rfl, by simp⟩ (by omega) ?_
  rintro i w1 - hi ⟨rfl, e⟩ J m hJ
  by_cases hlt : i < fs.length
  · have hx := List.getElem?_eq_getElem hlt
    have hmem := List.getElem_mem hlt
    generalize fs[i] = g at hx hmem
    obtain ⟨b, o, ia, _, _, l1⟩ := ha.spot hx rfl .i64
    have l1' := l1 (w' := w1) rfl (j := 0) rfl
    obtain ⟨c1, T1, k1⟩ := hcell f hf
    obtain ⟨c2, T2, k2⟩ := hcell g (hfs g hmem)
    have pv := ptrv_blk k1 k2
    unfold ptrTo at l1' ⊢
    by_cases heq : fb.getD f 0 = fb.getD g 0
    · have hfg := getD_inj hn hf (hfs g hmem) heq
      rw [decide_eq_true heq] at pv
      (repeat refine gg ?_)
      exact hR _ (by subst hfg; simp [hmem])
    · rw [decide_eq_false heq] at pv
      (repeat refine gg ?_)
      refine hJ w1 hlt ⟨rfl, fun g' hg' => ?_⟩
      rw [List.take_add_one, hx] at hg'
      rcases List.mem_append.1 hg' with hg' | hg'
      · exact e g' hg'
      · simp at hg'; subst hg'; exact fun h => heq (by rw [h])
  · (repeat refine gg ?_)
    rw [List.take_of_length_le (by omega)] at e
    exact hR (-1) (by simp; exact fun h => e f h rfl)
theorem dk_Contains {fb fs : List Nat} {v : Value} {f : Nat} (hn : fb.Nodup) (ha : Arr (encF fb) 1 w v fs) (hf : f < fb.length) (hfs : ∀ g ∈ fs, g < fb.length) (hl : fs.length < 1000000000000) (hc : ∀ b ∈ fb, ∃ c T, blk w b = some (.cells c T (0, 0)))
    (hR : R (.bool (decide (f ∈ fs))) w) : CALL PR F_slices_Contains_disk_file_disk_file [v, ptrTo (fb.getD f 0)] w R := by
  refine C_slices_Contains_disk_file_disk_file ?_
  unfold M_slices_Contains_disk_file_disk_file
  refine dk_Index hn ha hf hfs hl hc fun k hk => ?_
  (repeat refine gg ?_)
  have : decide (0 ≤ k) = decide (f ∈ fs) := decide_eq_decide.2 hk
  rw [this]; exact hR
theorem isHeld_iff (s : Dk) (f : Nat) : isHeld s f = true ↔ ∃ l ∈ s.dirs, ∃ x ∈ l, x.2 = f := by unfold isHeld; simp [List.any_eq_true]
theorem dk_Held (h : At w0 F0 (diskHP d s) w) (hw : s.Wf) (hn : s.dirs.length < 1000000000) (hn2 : s.files.length < 1000000000) (hR : ∀ w', Fr [] w w' → R (.int .i64 (held s : Nat)) w') :
    CALL PR F_disk_Disk_Held [ptrTo d] w R := by
  obtain ⟨sv, ms, fb, hs, hm, hf⟩ := dk_open h
  obtain ⟨T, c⟩ := hs.cell (i := 1) rfl
  obtain ⟨Fs, ss, _⟩ := hs.slc1 (i := 2) rfl
  refine C_disk_Disk_Held ?_
  unfold M_disk_Disk_Held
  refine ⟨fun _ w' => blk w' d = some (.cells (dkC s (ms.headD 0) sv).toArray T (0, 0)), c, ?_⟩
  have htl : ms.tail.length = ms.length - 1 := by simp
  unfold ptrTo
  have c0 : blk w.drew d = some (.cells (dkC s (ms.headD 0) sv).toArray T (0, 0)) := c
  (repeat refine gg ?_)
  refine newone_step (enc := encM) (x := ms.headD 0) encM_len rfl fun t13 w1 s3 f3 z3 => ?_
  have f3' : Fr [] w w1 := (Fr.drew [] w).trans' f3
  refine ⟨f3'.some (by simp) c, ?_⟩
  refine APPEND_slc s3 (ys := ms.tail) ((ss.fr f3' (by simp)).loads encM_len) encM_len encM_one rfl (by rw [htl]; simp; omega) (by rw [htl]; simp; omega) fun t18 w2 FT s5 f4 sub => ?_
  have f2 : Fr [] w w2 := f3'.trans f4 (by simp)
  have hne : ms ≠ [] := by
    intro e; subst e
    have := List.length_pos_iff.2 hw.ne
    simp at hm; omega
  have ems : [ms.headD 0] ++ ms.tail = ms := by cases ms with
    | nil => exact absurd rfl hne
    | cons a r => rfl
  rw [ems] at s5
  have hs2 := hs.fr0 f2
  obtain ⟨_, hfl, _⟩ := hs2.get 4 rfl
  obtain ⟨fbn, _⟩ := files_apart fb s.files hf hfl
  have hcells : ∀ w', Fr [] w2 w' → ∀ b ∈ fb, ∃ c T, blk w' b = some (.cells c T (0, 0)) := fun w' f b hb => by
    obtain ⟨i, hi, e⟩ := List.mem_iff_getElem.1 hb
    have hi2 : i < s.files.length := by omega
    obtain ⟨bv, T, G, c2, _⟩ := dk_file (hs2.fr0 f) (List.getElem?_eq_getElem hi) (List.getElem?_eq_getElem hi2)
    rw [e] at c2
    exact ⟨_, _, c2⟩
  have hlen : ∀ f, f < s.files.length → (fileAt s f).b.length ≤ 1048576 := fun f hf => by
    have hx : fileAt s f ∈ s.files := by
      unfold fileAt; rw [List.getD_eq_getElem?_getD, List.getElem?_eq_getElem hf]; exact List.getElem_mem hf
    have := hw.small _ hx
    have := hw.room
    omega
  (repeat (first | refine BND_step s5.len ?_ | refine gg ?_))
  refine loop_up3 0 ms.length (fun seen n i w' => ∃ fs : List Nat, At w2 [] (stars [slc (encF fb) 1 seen fs]) w' ∧ fs.Nodup ∧ (∀ f, f ∈ fs ↔ ∃ l ∈ s.dirs.take i, ∃ x ∈ l, x.2 = f) ∧ n = .int .i64 (((fs.map fun f => (fileAt s f).b.length).sum : Nat) : Int))
    ⟨[], (At.nothing w2).add0 (P := slc (encF fb) 1 (.slice none 0 0) []) (Slc.nil _ _ _), List.nodup_nil, by simp, rfl⟩ (by omega) ?_
  rintro seen n i w3 - hi ⟨fs, ha, nd, hfs, rfl⟩ J m hJ
  have f23 : Fr [] w2 w3 := ha.frame
  have hltd : ∀ f, (∃ l ∈ s.dirs, ∃ x ∈ l, x.2 = f) → f < s.files.length := by
    rintro f ⟨l, hl, x, hx, rfl⟩
    exact hw.idx l hl x hx
  by_cases hlt : i < ms.length
  · have hx := List.getElem?_eq_getElem hlt
    have hl := List.getElem?_eq_getElem (show i < s.dirs.length by omega)
    generalize ms[i] = mm at hx
    generalize s.dirs[i]'(by omega) = l at hl
    have hlm : l ∈ s.dirs := List.mem_of_getElem? hl
    have htk : s.dirs.take (i + 1) = s.dirs.take i ++ [l] := by rw [List.take_add_one, hl]; rfl
    obtain ⟨b, o, ia, _, _, l1⟩ := (s5.fr f23 (by simp)).arr.spot hx rfl .i64
    obtain ⟨es, ck, L, b1, b2, b3⟩ := dk_dir hs2 hx hl
    have hLs := ents_len b2.l
    (repeat (first | (apply BND_step; exact (l1 (w' := w3) rfl (j := 0) rfl)) | refine gg ?_))
    refine RANGEM_step (f23.some (by simp) b1) fun w4 it4 f4 z4 => ?_
    have ha4 := ha.add f4 (P := itHP (hsz w3) mm ck #[]) (A := [hsz w3]) ⟨it4, rfl⟩ (by simp)
    refine loop_it2 (hsz w3) L.length (fun seen n w' => ∃ fs A B sn, At w2 [] (stars [itHP (hsz w3) mm ck sn, slc (encF fb) 1 seen fs]) w' ∧ ItAt es sn A B ∧ fs.Nodup ∧ (∀ f ∈ fs, ∃ l ∈ s.dirs.take (i + 1), ∃ x ∈ l, x.2 = f) ∧
      (∀ l' ∈ s.dirs.take i, ∀ x ∈ l', x.2 ∈ fs) ∧ (∀ e ∈ A, ∃ f ∈ fs, e.val = ptrTo (fb.getD f 0)) ∧ n = .int .i64 (((fs.map fun f => (fileAt s f).b.length).sum : Nat) : Int))
      ⟨fs, [], es.toList, #[], ha4, ItAt.start es, nd, fun f hf => by
        obtain ⟨l', hl', r⟩ := (hfs f).1 hf
        exact ⟨l', by rw [htk]; simp [hl'], r⟩, fun l' hl' x hx => (hfs _).2 ⟨l', hl', x, hx, rfl⟩, by simp, rfl⟩ ?_
    rintro seen2 n2 w5 ⟨fs2, A, B, sn, ha5, hit, nd2, q1, q2, q3, rfl⟩ J2 m2 hJ2
    have f25 : Fr [] w2 w5 := ha5.frame
    have hlt2 : ∀ f ∈ fs2, f < s.files.length := fun f hf => hltd f (by
      obtain ⟨l', hl', r⟩ := q1 f hf
      exact ⟨l', List.mem_of_mem_take hl', r⟩)
    have hlt2' : ∀ f ∈ fs2, f < fb.length := fun f hff => by rw [hf]; exact hlt2 f hff
    have hfl2 := nodup_len nd2 hlt2
    have hsum := sum_small (g := fun f => (fileAt s f).b.length) fun f hf => hlen f (hlt2 f hf)
    have hsum2 : (fs2.map fun f => (fileAt s f).b.length).sum ≤ 1000000000 * 1048576 := Nat.le_trans hsum (Nat.mul_le_mul_right _ (by omega))
    obtain ⟨_, ⟨it5, _⟩, _⟩ := ha5.get 0 rfl
    refine NEXTM_step (f25.some (by simp) b1) b2.lt b2.nd it5 hit (fun hB => ?_) (fun e B1 B2 w6 hB f6 it6 hit6 en => ?_)
    · (repeat refine gg ?_)
      refine hJ seen2 _ w5 hlt ⟨fs2, ha5.tail, nd2, fun f => ⟨q1 f, ?_⟩, rfl⟩
      rintro ⟨l', hl', x, hx, rfl⟩
      rw [htk] at hl'
      rcases List.mem_append.1 hl' with hl' | hl'
      · exact q2 l' hl' x hx
      · simp at hl'; subst hl'
        have hp : (x.1, ptrTo (fb.getD x.2 0)) ∈ L := b3.mem_iff.2 (List.mem_map.2 ⟨x, hx, rfl⟩)
        obtain ⟨e, he, _, ev⟩ := mem_ents b2.l hp
        have heA : e ∈ A := by
          have := hit.all.mem_iff.2 he
          rw [hB] at this; simpa using this
        obtain ⟨g, hg, ev2⟩ := q3 e heA
        rw [ev] at ev2
        have e3 : fb.getD x.2 0 = fb.getD g 0 := by unfold ptrTo at ev2; injection ev2 with e4; injection e4 with e5; injection e5
        have := getD_inj fbn (by rw [hf]; exact hw.idx _ hlm x hx) (hlt2' g hg) e3
        rw [this]; exact hg
    · have he : e ∈ es.toList := hit.all.mem_iff.1 (by rw [hB]; simp)
      obtain ⟨p, hp, _, ev⟩ := ents_mem b2.l he
      obtain ⟨x, hx, rfl⟩ := List.mem_map.1 (b3.mem_iff.1 hp)
      simp only at ev
      have hxf : x.2 < s.files.length := hw.idx _ hlm x hx
      have hxb : x.2 < fb.length := by rw [hf]; exact hxf
      obtain ⟨_, _, upd⟩ := ha5.upd 0 rfl
      have ha6 : At w2 [] (stars [itHP (hsz w3) mm ck (sn.push e.born), slc (encF fb) 1 seen2 fs2]) w6 := by
        obtain ⟨A5, ⟨_, hA5⟩, upd⟩ := ha5.upd 0 rfl
        subst hA5
        exact upd w6 [hsz w3] (itHP (hsz w3) mm ck (sn.push e.born)) it6 f6 (fun b hb => .inl hb)
      have f26 : Fr [] w2 w6 := ha6.frame
      have hcnt : seenN (hsz w3) w5 = sn.size := seenN_it it5
      have hcnt6 : seenN (hsz w3) w6 = sn.size + 1 := by rw [seenN_it it6.1]; simp
      have hsz2 : sn.size = A.length := by have := congrArg List.length hit.seen; simpa using this
      have hall := hit.all.length_eq
      rw [hB] at hall
      simp only [List.length_append, List.length_cons] at hall
      rw [ev] at en ⊢
      (repeat refine gg ?_)
      refine dk_Contains fbn (ha6.arr (i := 1) rfl) hxb hlt2' (by omega) (hcells w6 f26) ?_
      by_cases hin : x.2 ∈ fs2
      · rw [decide_eq_true hin]
        (repeat refine gg ?_)
        refine join_go ?_
        (repeat refine gg ?_)
        refine hJ2 seen2 _ w6 (by omega) (by omega) ⟨fs2, A ++ [e], B1 ++ B2, sn.push e.born, ha6, hit6, nd2, q1, q2, fun e' he' => ?_, rfl⟩
        rcases List.mem_append.1 he' with he' | he'
        · exact q3 e' he'
        · simp at he'; subst he'; exact ⟨x.2, hin, ev⟩
      · rw [decide_eq_false hin]
        (repeat refine gg ?_)
        refine join_go ?_
        (repeat refine gg ?_)
        refine newone_step (enc := encF fb) (x := x.2) (encF_len fb) rfl fun t w9 s9 f9 z9 => ?_
        refine (ha6.fr0 f9).append (i := 1) rfl (s9.loads (encF_len fb)) (encF_len fb) (encF_one fb) rfl (by omega) (by simp; omega) fun v' w10 h10 one10 => ?_
        have hb := List.getElem?_eq_getElem hxb
        have hgd : fb.getD x.2 0 = fb[x.2] := by rw [List.getD_eq_getElem?_getD, hb]; rfl
        have hfx : s.files[x.2]? = some (fileAt s x.2) := by
          unfold fileAt; rw [List.getD_eq_getElem?_getD, List.getElem?_eq_getElem hxf]; rfl
        obtain ⟨bv, T2, G, c2, ss2⟩ := dk_file (hs2.fr0 h10.frame) hb hfx
        have hl2 := hlen _ hxf
        rw [← hgd] at c2
        unfold ptrTo
        (repeat (first | refine BND_step ss2.len ?_ | refine BND_step (addn_ (by omega)) ?_ | refine gg ?_))
        refine hJ2 v' _ w10 (by omega) ?_ ⟨fs2 ++ [x.2], A ++ [e], B1 ++ B2, sn.push e.born, h10, hit6, ?_, ?_, ?_, ?_, ?_⟩
        · obtain ⟨_, ⟨it10, _⟩, _⟩ := h10.get 0 rfl
          rw [seenN_it it10, hcnt]; simp
        · rw [List.nodup_append]
          exact ⟨nd2, by simp, fun a ha b hb => by simp at hb; subst hb; exact fun e => hin (e ▸ ha)⟩
        · intro f hf
          rcases List.mem_append.1 hf with hf | hf
          · exact q1 f hf
          · simp at hf; subst hf; exact ⟨l, by rw [htk]; simp, x, hx, rfl⟩
        · intro l' hl' y hy
          exact List.mem_append.2 (.inl (q2 l' hl' y hy))
        · intro e' he'
          rcases List.mem_append.1 he' with he' | he'
          · obtain ⟨g, hg, r⟩ := q3 e' he'
            exact ⟨g, List.mem_append.2 (.inl hg), r⟩
          · simp at he'; subst he'; exact ⟨x.2, by simp, ev⟩
        · simp
  · (repeat refine gg ?_)
    have hheld := sum_held nd (fun f => by rw [hfs, isHeld_iff, List.take_of_length_le (by omega)]) (fun f hf => hltd f (by
      obtain ⟨l', hl', r⟩ := (hfs f).1 hf
      exact ⟨l', List.mem_of_mem_take hl', r⟩))
    rw [hheld]
    exact hR w3 (f2.trans' f23)
end
end Go.Proofs.YtofllgbdphakiaaGreat
end

section
namespace Go.Proofs.YtofllgbdphakiaaGreat
open Go.Den Go.Disk
theorem held_small {s : Dk} (hw : s.Wf) : held s ≤ s.files.length * 1048576 := by
  unfold held
  have := sum_small (fs := List.range s.files.length) (g := fun f => if isHeld s f = true then (fileAt s f).b.length else 0) (b := 1048576) fun f hf => by
    split
    · have hf := List.mem_range.1 hf
      have hx : fileAt s f ∈ s.files := by
        unfold fileAt; rw [List.getD_eq_getElem?_getD, List.getElem?_eq_getElem hf]; exact List.getElem_mem hf
      have := hw.small _ hx
      have := hw.room
      omega
    · omega
  simpa using this
set_option linter.unusedSimpArgs false
set_option linter.unusedVariables false
set_option maxRecDepth 20000
set_option maxHeartbeats 4000000
attribute [local congr] BND_cg COND_cg GEF_cg
attribute [local irreducible] capl slicea load1 loadn iaddr iaddra faddr storev newslice binv lookv mupd mdel mlenv mentry mestore slicev slicev3 slices indexs indexav textv rangev nexts clearv shiftv eqaggv convi buildv pickv lens lenl unv nilchk extractv partn JOIN
section
variable {w0 w : World} {F0 : List Nat} {d : Nat} {s : Dk} {R : Value → World → Prop}
theorem dk_Append (h : At w0 F0 (diskHP d s) w) (hw : s.Wf) (hn : s.dirs.length < 1000000000) (hn2 : s.files.length < 1000000000) (n : ByteArray) {u : Value} {bs : List UInt8} (hbs : bs.length < 1000000000) (hul : lenl u = some (.int .i64 bs.length))
    (hu : ∀ w', Fr F0 w0 w' → cellsOfArg w' 1 u = some (flat encB bs, bs.length)) (hR : ∀ w', At w0 F0 (diskHP d (append s n bs).1) w' → R (.int .i64 (append s n bs).2) w') :
    CALL PR F_disk_Disk_Append [ptrTo d, .string n, u] w R := by
  refine C_disk_Disk_Append ?_
  unfold M_disk_Disk_Append
  refine dk_there h hw hn n ?_
  have hr : riseD s.now := hw.rise _ (List.mem_of_getElem? (dk_now_get hw.ne))
  have rest : ∀ w2, At w0 F0 (diskHP d s) w2 → ∀ e, e = appendE s n bs.length → (CALL PR F_disk_Disk_can [ptrTo d, .int .i64 e] w2 fun t28_16 w4 =>
      BND (binv .int .eql t28_16 (Value.int .i64 0)) fun t30_17 =>
      JOIN (α := World → Prop) (fun k_32 => COND t30_17
      (CALL PR F_disk_Disk_now [ptrTo d] w4 fun t32_33 w6 =>
      BND (lookv .string (Value.pointer none) false w6 t32_33 (.string n)) fun t34_34 =>
      BND (nilchk t34_34) fun t37_35 =>
      BND (faddr 0 t37_35) fun t38_36 =>
      BND (load1 w6 t38_36) fun t39_37 =>
      APPEND 5 1 1 (Value.int .u8 0) t39_37 u w6 fun t41_38 w7 =>
      BND (nilchk t34_34) fun t42_39 =>
      BND (faddr 0 t42_39) fun t43_40 =>
      BND (storev 1 w7 t43_40 t41_38) fun w8 =>
      k_32 w8)
      (k_32 w4))
      (fun w5 => R t28_16 w5)) := by
    rintro w2 h2 _ rfl
    refine dk_can h2 _ hw.burn fun w4 h4 => ?_
    unfold append at hR
    by_cases hc : (can s (appendE s n bs.length)).2 = 0
    · simp only [hc, if_true] at hR
      rw [hc]
      have hcz := can_zero hc
      obtain ⟨f, hfd⟩ : ∃ f, findD s.now n = some f := by
        unfold appendE Dk.find at hcz
        cases hq : findD s.now n with
        | some f => exact ⟨f, rfl⟩
        | none => rw [hq] at hcz; simp at hcz
      rw [(isSome_find hfd).2] at hR
      (repeat refine gg ?_)
      refine join_w (fun w' => At w0 F0 (diskHP d (setF (can s (appendE s n bs.length)).1 f { fileAt s f with b := (fileAt s f).b ++ bs })) w') (fun K hK => ?_) (fun w' hw' => hR w' hw')
      obtain ⟨k1, k2, k3⟩ := can_keep s (appendE s n bs.length)
      (repeat refine gg ?_)
      refine dk_now h4 (by rw [k2]; exact hw.ne) (by rw [k2]; exact hn) fun sv ms fb m es ck L hs hm hf hmm b1 b2 b3 => ?_
      rw [can_now] at b3
      have lk1 := dk_lookup b1 b2 b3 hr n
      rw [hfd] at lk1
      have hx0 := wf_pick hw hfd
      have hx : (can s (appendE s n bs.length)).1.files[f]? = some (fileAt s f) := by rw [k1]; exact hx0
      have hsm := hw.small _ (List.mem_of_getElem? hx0)
      have hrm := hw.room
      have hi : f < fb.length := by rw [hf]; exact (List.getElem?_eq_some_iff.1 hx).1
      have hb := List.getElem?_eq_getElem hi
      have hgd : fb.getD f 0 = fb[f] := by rw [List.getD_eq_getElem?_getD, hb]; rfl
      simp only [hgd] at lk1
      generalize fb[f] = b at hb lk1
      simp only [ptrTo] at lk1
      obtain ⟨A, bv, ha, back⟩ := dk_fupd hs hb hx
      obtain ⟨T, c⟩ := ha.cell (i := 0) rfl
      (repeat refine gg ?_)
      refine ha.append (i := 1) rfl (hu _ hs.frame) encB_len encB_one rfl (by omega) (by omega) fun v' w7 h7 one7 => ?_
      (repeat refine gg ?_)
      refine h7.store (i := 0) rfl one7 (by simp) fun w8 h8 f8 => hK _ ?_
      exact dk_shut (back w8 v' { fileAt s f with b := (fileAt s f).b ++ bs } h8)
    · simp only [hc, if_false] at hR
      (repeat refine gg ?_)
      refine join_w (fun w' => At w0 F0 (diskHP d (can s (appendE s n bs.length)).1) w') (fun K hK => ?_) (fun w' hw' => hR w' hw')
      (repeat refine gg ?_)
      exact hK w4 h4
  obtain ⟨sv, ms, fb, hs, hm, hf⟩ := dk_open h
  obtain ⟨T, c⟩ := hs.cell (i := 1) rfl
  refine ⟨fun _ w' => blk w' d = some (.cells (dkC s (ms.headD 0) sv).toArray T (0, 0)), c, ?_⟩
  cases hfd : findD s.now n with
  | none =>
    have e1 : there s n = 5 := by unfold there Dk.find; rw [hfd]; rfl
    have e : appendE s n bs.length = 5 := by unfold appendE Dk.find; rw [hfd]; rfl
    rw [e1]
    (repeat (first | refine gg ?_ | refine FLT.mk _ (fun _ hw_ => rfl) ?_))
    refine ⟨c, ?_⟩
    (repeat refine gg ?_)
    refine join_v (fun e w' => e = .int .i64 (appendE s n bs.length) ∧ w' = w.drew) (fun K hK => ?_) ?_
    · (repeat refine gg ?_)
      exact hK _ _ ⟨by rw [e], rfl⟩
    · rintro _ _ ⟨rfl, rfl⟩
      exact rest _ (h.fr0 (Fr.drew [] _)) _ rfl
  | some f =>
    have e1 : there s n = 0 := by unfold there Dk.find; rw [hfd]; rfl
    have e : appendE s n bs.length = if s.room < ((held s + bs.length : Nat) : Int) then 4 else 0 := by unfold appendE Dk.find; rw [hfd]; rfl
    have hhs : held s ≤ 1000000000 * 1048576 := Nat.le_trans (held_small hw) (Nat.mul_le_mul_right _ (by omega))
    rw [e1]
    unfold ptrTo
    (repeat refine gg ?_)
    refine dk_Held (h.fr0 (Fr.drew [] _)) hw hn hn2 fun w2 f2 => ?_
    refine ⟨f2.some (by simp) c, ?_⟩
    have h2 := (h.fr0 (Fr.drew [] _)).fr0 f2
    (repeat (first | refine BND_step (addn_ (by omega)) ?_ | refine gg ?_))
    by_cases hbig : s.room < ((held s + bs.length : Nat) : Int)
    · (repeat refine gg ?_)
      refine join_v (fun e w' => e = .int .i64 (appendE s n bs.length) ∧ w' = w2) (fun K hK => ?_) ?_
      · (repeat refine gg ?_)
        exact hK _ _ ⟨by rw [e, if_pos hbig], rfl⟩
      · rintro _ _ ⟨rfl, rfl⟩
        exact rest _ h2 _ rfl
    · (repeat refine gg ?_)
      refine join_v (fun e w' => e = .int .i64 (appendE s n bs.length) ∧ w' = w2) (fun K hK => ?_) ?_
      · (repeat refine gg ?_)
        exact hK _ _ ⟨by rw [e, if_neg hbig], rfl⟩
      · rintro _ _ ⟨rfl, rfl⟩
        exact rest _ h2 _ rfl
end
end Go.Proofs.YtofllgbdphakiaaGreat
end

section
namespace Go.Proofs.YtofllgbdphakiaaGreat
open Go.Den Go.Disk
def names (l : Dir) : List ByteArray := l.map (·.1)
theorem At.wrap {w0 w : World} {F0 : List Nat} {P : HP} (h : At w0 F0 P w) : At w0 F0 (stars [P]) w := by
  obtain ⟨F, g1, g2, g3⟩ := h
  exact ⟨F, ⟨F, [], g1, ⟨trivial, rfl⟩, by simp, by simp⟩, g2, g3⟩
theorem At.unwrap {w0 w : World} {F0 : List Nat} {P : HP} (h : At w0 F0 (stars [P]) w) : At w0 F0 P w := by
  obtain ⟨F, ⟨A, B, g1, ⟨_, rfl⟩, rfl, _⟩, g2, g3⟩ := h
  exact ⟨A, g1, by simpa using g2, g3⟩
theorem At.zoom {w0 w : World} {F0 : List Nat} {ps : List HP} (h : At w0 F0 (stars ps) w) (i : Nat) {P : HP} (hi : ps[i]? = some P) : ∃ A, At w A P w ∧ ∀ w' P', At w A P' w' → At w0 F0 (stars (ps.set i P')) w' := by
  obtain ⟨A, a1, upd⟩ := h.upd i hi
  exact ⟨A, At.start a1, fun w' P' ⟨F', p1, p2, p3⟩ => upd w' F' P' p1 p3 p2⟩
def encI (x : Int) : List Value := [.int .i64 x]
def crash1 (tails : List Int) (f i : Nat) (fs : List Fl) : List Fl :=
  let x := fs.getD f ⟨[], 0⟩
  fs.set f ⟨x.b.take (x.sure + tailOf x tails i), x.sure + tailOf x tails i⟩
theorem crashF_snoc (tails : List Int) (k : ByteArray) (f : Nat) : ∀ (l : Dir) (i : Nat) (fs : List Fl), crashF tails (l ++ [(k, f)]) i fs = crash1 tails f (i + l.length) (crashF tails l i fs)
  | [], i, fs => rfl
  | (k', f') :: l, i, fs => by
    simp only [List.cons_append, crashF, List.length_cons]
    rw [crashF_snoc tails k f l (i + 1), show i + 1 + l.length = i + (l.length + 1) by omega]
theorem crash1_len (tails : List Int) (f i : Nat) (fs : List Fl) : (crash1 tails f i fs).length = fs.length := by unfold crash1; simp
theorem tailOf_le (x : Fl) (tails : List Int) (i : Nat) : tailOf x tails i ≤ x.b.length - x.sure := by
  unfold tailOf
  split
  · omega
  · exact Nat.min_le_right _ _
/-- what holds of files. -/
def FilesOk (m : Nat) (fs : List Fl) : Prop := ∀ x ∈ fs, x.sure ≤ x.b.length ∧ x.b.length ≤ m
theorem crash1_ok {tails : List Int} {f i m : Nat} {fs : List Fl} (h : FilesOk m fs) (hf : f < fs.length) : FilesOk m (crash1 tails f i fs) := by
  intro x hx
  unfold crash1 at hx
  rcases List.mem_or_eq_of_mem_set hx with hx | rfl
  · exact h x hx
  · have hm : fs.getD f ⟨[], 0⟩ ∈ fs := by rw [List.getD_eq_getElem?_getD, List.getElem?_eq_getElem hf]; exact List.getElem_mem hf
    have h1 := h _ hm
    have h2 := tailOf_le (fs.getD f ⟨[], 0⟩) tails i
    simp only [List.length_take]
    omega
set_option linter.unusedSimpArgs false
set_option linter.unusedVariables false
set_option maxRecDepth 20000
set_option maxHeartbeats 4000000
attribute [local congr] BND_cg COND_cg GEF_cg
attribute [local irreducible] capl slicea load1 loadn iaddr iaddra faddr storev newslice binv lookv mupd mdel mlenv mentry mestore slicev slicev3 slices indexs indexav textv rangev nexts clearv shiftv eqaggv convi buildv pickv lens lenl unv nilchk extractv partn JOIN
section
variable {w0 w : World} {F0 : List Nat} {d : Nat} {s : Dk} {R : Value → World → Prop}
theorem dk_Crash (h : At w0 F0 (diskHP d s) w) (hw : s.Wf) (hn : s.dirs.length < 1000000000) (op : Int) {tv : Value} {tails : List Int} (hta : ∀ w', Fr F0 w0 w' → Arr encI 1 w' tv tails) (hR : ∀ w', At w0 F0 (diskHP d (crash s op tails)) w' → R (.tuple #[]) w') :
    CALL PR F_disk_Disk_Crash [ptrTo d, .int .i64 op, tv] w R := by
  obtain ⟨sv, ms, fb, hs, hm, hf⟩ := dk_open h
  obtain ⟨T, c⟩ := hs.cell (i := 1) rfl
  obtain ⟨Fs, ss, _⟩ := hs.slc1 (i := 2) rfl
  refine C_disk_Disk_Crash ?_
  unfold M_disk_Disk_Crash
  have htl : ms.tail.length = ms.length - 1 := by simp
  have hpos : 0 < s.dirs.length := List.length_pos_iff.2 hw.ne
  obtain ⟨j, hj⟩ : ∃ j, j = min op.toNat (s.dirs.length - 1) := ⟨_, rfl⟩
  have hjl : j < s.dirs.length := by omega
  have hjm : j < ms.length := by omega
  have hl := List.getElem?_eq_getElem hjl
  have hmj := List.getElem?_eq_getElem hjm
  generalize s.dirs[j] = l at hl
  generalize ms[j] = mj at hmj
  have hlm : l ∈ s.dirs := List.mem_of_getElem? hl
  have hld : s.dirs.getD (min op.toNat (s.dirs.length - 1)) [] = l := by rw [← hj, List.getD_eq_getElem?_getD, hl]; rfl
  unfold crash at hR
  rw [hld] at hR
  have em : min2v (.int .i64 op) (.int .i64 (ms.tail.length : Int)) = some (.int .i64 (if (ms.tail.length : Int) < op then (ms.tail.length : Int) else op)) := rfl
  unfold ptrTo
  (repeat (first | refine BND_step ss.len ?_ | refine gg ?_))
  refine join_w (fun w' => At w0 F0 (stars [pure_ (ms.length = s.dirs.length ∧ fb.length = s.files.length), pts d (dkC s mj sv), slc encM 1 sv ms.tail, stars (dirHPs fb ms s.dirs), stars (fileHPs fb s.files)]) w') (fun K hK => ?_) (fun w1 h1 => ?_)
  · by_cases h0 : 0 < (if (ms.tail.length : Int) < op then (ms.tail.length : Int) else op)
    · have hj1 : (if (ms.tail.length : Int) < op then (ms.tail.length : Int) else op) = (j : Int) := by split <;> omega
      rw [hj1] at h0
      rw [hj1]
      have hx : ms.tail[j - 1]? = some mj := by rw [List.getElem?_tail, show j - 1 + 1 = j by omega, hmj]
      obtain ⟨bb, oo, ia, _, _, l1⟩ := ss.arr.spot hx rfl .i64
      (repeat (first | (apply BND_step; exact (l1 (w' := w) rfl (j := 0) rfl)) | refine gg ?_))
      refine hs.store (i := 1) rfl ⟨rfl, rfl⟩ (by simp [dkC]) fun w1 h1 f1 => hK w1 h1
    · have hj0 : j = 0 := by
        split at h0 <;> omega
      (repeat refine gg ?_)
      refine hK w ?_
      have : ms.headD 0 = mj := by
        subst hj0
        cases ms with
        | nil => simp at hjm
        | cons a r => simpa using hmj
      rw [← this]; exact hs
  · (repeat refine gg ?_)
    refine h1.store (i := 1) rfl ⟨rfl, rfl⟩ (by simp [dkC]) fun w2 h2 _ => ?_
    (repeat refine gg ?_)
    refine h2.store (i := 1) rfl ⟨rfl, rfl⟩ (by simp [dkC]) fun w3 h3 _ => ?_
    (repeat refine gg ?_)
    refine h3.store (i := 1) rfl ⟨rfl, rfl⟩ (by simp [dkC]) fun w4 h4 _ => ?_
    have hA : At w0 F0 (stars (dkL d { s with dirs := [l], burn := -1, gone := false } (.slice none 0 0) [mj] fb)) w4 := by
      obtain ⟨A, a1, upd⟩ := h4.upd 2 rfl
      have h5 := upd w4 [] (slc encM 1 (.slice none 0 0) []) (Slc.nil _ _ _) (Fr.refl _ _) (by simp)
      obtain ⟨A3, a3, upd3⟩ := h5.upd 3 rfl
      obtain ⟨B, ⟨b4, rfl⟩, hmA⟩ := stars_get (dirHPs fb ms s.dirs) j (dirHP fb mj l) (by unfold dirHPs; rw [List.getElem?_zipWith, hmj, hl]) a3
      have h6 := upd3 w4 [mj] (stars [dirHP fb mj l]) ⟨[mj], [], ⟨b4, rfl⟩, ⟨trivial, rfl⟩, rfl, by simp⟩ (Fr.refl _ _) (fun c hc => .inl (hmA c hc))
      exact At.pure0 (b := [mj].length = [l].length ∧ fb.length = s.files.length) h6 ⟨rfl, hf⟩
    obtain ⟨T4, c4⟩ := hA.cell (i := 1) rfl
    obtain ⟨es, ck, L, b1, b2, b3⟩ := dk_dir hA (i := 0) (m := mj) (l := l) rfl rfl
    have hr : riseD l := hw.rise _ hlm
    (repeat refine gg ?_)
    refine dk_keys b1 b2 b3 hr (hw.many _ hlm) (hw.nm _ hlm) fun w6 nv G sN hG f6 => ?_
    replace sN : Slc encN 1 w6 nv (names l) G := sN
    have hB := (At.wrap hA).add f6 (P := slc encN 1 nv (names l)) (A := G) sN hG
    have h60 := hw.many _ hlm
    (repeat (first | refine BND_step sN.len ?_ | refine gg ?_))
    have hok0 : FilesOk 1048576 s.files := fun x hx => ⟨hw.sure x hx, by have := hw.small x hx; have := hw.room; omega⟩
    refine loop_up 0 (names l).length (fun i w' => At w0 F0 (stars [slc encN 1 nv (names l), stars (dkL d { s with files := crashF tails (l.take i) 0 s.files, dirs := [l], burn := -1, gone := false } (.slice none 0 0) [mj] fb)]) w' ∧ FilesOk 1048576 (crashF tails (l.take i) 0 s.files) ∧ (crashF tails (l.take i) 0 s.files).length = s.files.length)
      ⟨hB, hok0, rfl⟩ (by omega) ?_
    rintro i w7 - hi ⟨h7, hok, hlen⟩ J m hJ
    have hll : (names l).length = l.length := by simp [names]
    by_cases hlt : i < (names l).length
    · have hlt' : i < l.length := by omega
      have hxi := List.getElem?_eq_getElem hlt'
      obtain ⟨⟨k, f⟩, hp⟩ : ∃ p, p = l[i] := ⟨_, rfl⟩
      rw [← hp] at hxi
      have hni : (names l)[i]? = some k := by unfold names; rw [List.getElem?_map, hxi]; rfl
      have hmem : (k, f) ∈ l := List.mem_of_getElem? hxi
      have hfd := findD_of_mem hr hmem
      have hfl : f < s.files.length := hw.idx _ hlm _ hmem
      generalize hfs : crashF tails (l.take i) 0 s.files = fs at h7 hok hlen
      have hstep : crashF tails (l.take (i + 1)) 0 s.files = crash1 tails f i fs := by
        rw [List.take_add_one, hxi]
        show crashF tails (l.take i ++ [(k, f)]) 0 s.files = _
        rw [crashF_snoc, hfs]
        congr 1
        rw [List.length_take]; omega
      have hfl2 : f < fs.length := by omega
      have hx : fs[f]? = some (fs.getD f ⟨[], 0⟩) := by rw [List.getD_eq_getElem?_getD, List.getElem?_eq_getElem hfl2]; rfl
      have hxo := hok _ (List.mem_of_getElem? hx)
      have hok2 := crash1_ok (tails := tails) (i := i) hok hfl2
      have hlen2 := crash1_len tails f i fs
      have htail := tailOf_le (fs.getD f ⟨[], 0⟩) tails i
      have hc1 : crash1 tails f i fs = fs.set f ⟨(fs.getD f ⟨[], 0⟩).b.take ((fs.getD f ⟨[], 0⟩).sure + tailOf (fs.getD f ⟨[], 0⟩) tails i), (fs.getD f ⟨[], 0⟩).sure + tailOf (fs.getD f ⟨[], 0⟩) tails i⟩ := rfl
      generalize fs.getD f ⟨[], 0⟩ = x at hx hxo htail hc1
      obtain ⟨Fn, sn, _⟩ := h7.slc1 (i := 0) rfl
      obtain ⟨bn, on, ian, _, _, ln⟩ := sn.arr.spot hni rfl .i64
      obtain ⟨A1, hz, backz⟩ := At.zoom h7 1 rfl
      obtain ⟨T7, c7⟩ := hz.cell (i := 1) rfl
      obtain ⟨es7, ck7, L7, b17, b27, b37⟩ := dk_dir hz (i := 0) (m := mj) (l := l) rfl rfl
      have lk1 := dk_lookup b17 b27 b37 hr k
      rw [hfd] at lk1
      have hib : f < fb.length := by omega
      have hb := List.getElem?_eq_getElem hib
      have hgd : fb.getD f 0 = fb[f] := by rw [List.getD_eq_getElem?_getD, hb]; rfl
      simp only [hgd] at lk1
      generalize fb[f] = b at hb lk1
      simp only [ptrTo] at lk1
      obtain ⟨A, bv, ha, back⟩ := dk_fupd hz hb hx
      obtain ⟨T8, c8⟩ := ha.cell (i := 0) rfl
      have c8' : blk w7.drew b = some (.cells [bv, .int .i64 (x.sure : Int)].toArray T8 (0, 0)) := c8
      obtain ⟨Fb, sb, _⟩ := ha.slc1 (i := 1) rfl
      have hta7 := hta w7 h7.frame
      (repeat (first | (apply BND_step; exact (ln (w' := w7) rfl (j := 0) rfl)) | refine BND_step hta7.len ?_ | refine gg ?_))
      refine join_v (fun v w' => v = .int .i64 ((tailOf x tails i : Nat) : Int) ∧ Fr [] w7 w') (fun K hK => ?_) ?_
      · by_cases hit : i < tails.length
        · have htx := List.getElem?_eq_getElem hit
          generalize htv : tails[i] = t at htx
          obtain ⟨bt, ot, iat, _, _, lt⟩ := hta7.spot htx rfl .i64
          have e1 : max2v (.int .i64 t) (.int .i64 0) = some (.int .i64 (if t < 0 then 0 else t)) := rfl
          have e2 : binv .int .sub (.int .i64 (x.b.length : Int)) (.int .i64 (x.sure : Int)) = some (.int .i64 ((x.b.length - x.sure : Nat) : Int)) := by
            rw [binv_sub, wrap_i64 (by omega) (by omega)]; congr 2; omega
          have e3 : min2v (.int .i64 (if t < 0 then 0 else t)) (.int .i64 ((x.b.length - x.sure : Nat) : Int)) = some (.int .i64 ((tailOf x tails i : Nat) : Int)) := by
            show some (Value.int .i64 (if ((x.b.length - x.sure : Nat) : Int) < (if t < 0 then 0 else t) then ((x.b.length - x.sure : Nat) : Int) else (if t < 0 then 0 else t))) = _
            unfold tailOf
            rw [htx]
            congr 2
            simp only
            split <;> split <;> omega
          (repeat (first | (apply BND_step; exact (lt (w' := w7.drew) rfl (j := 0) rfl)) | refine BND_step sb.len ?_ | refine gg ?_))
          exact hK _ _ ⟨rfl, Fr.drew [] _⟩
        · (repeat refine gg ?_)
          have e0 : tailOf x tails i = 0 := by unfold tailOf; rw [List.getElem?_eq_none (by omega)]
          exact hK _ _ ⟨by rw [e0]; rfl, Fr.refl _ _⟩
      · rintro _ w8 ⟨rfl, f8⟩
        have f8' : Fr [] w7 w8.drew := f8.trans' (Fr.drew [] _)
        have ha8 := ha.fr0 f8'
        obtain ⟨T9, c9⟩ := ha8.cell (i := 0) rfl
        obtain ⟨Fs9, ss9, upd9⟩ := ha8.upd 1 rfl
        obtain ⟨bv', et, s1⟩ := Slc.take0 ss9 (n := x.sure + tailOf x tails i) (by omega) .i64
        have ha9 := upd9 _ Fs9 (slc encB 1 bv' (x.b.take (x.sure + tailOf x tails i))) s1 (Fr.refl _ _) (fun c hc => .inl hc)
        (repeat (first | refine BND_step (addn_ (by omega)) ?_ | refine gg ?_))
        refine ha9.store (i := 0) rfl s1.one (by simp) fun w9 h9 f9 => ?_
        obtain ⟨T10, c10⟩ := h9.cell (i := 0) rfl
        obtain ⟨Fs10, ss10, _⟩ := h9.slc1 (i := 1) rfl
        have eln : (x.b.take (x.sure + tailOf x tails i)).length = x.sure + tailOf x tails i := by rw [List.length_take]; omega
        have el := ss10.len
        rw [eln] at el
        (repeat refine gg ?_)
        refine h9.store (i := 0) rfl ⟨rfl, rfl⟩ (by simp) fun w10 h10 f10 => ?_
        (repeat refine gg ?_)
        refine hJ w10 hlt ?_
        rw [hstep]
        refine ⟨?_, hok2, by omega⟩
        have hz10 := back w10 bv' ⟨x.b.take (x.sure + tailOf x tails i), x.sure + tailOf x tails i⟩ h10
        rw [hc1]
        exact backz w10 _ hz10
    · (repeat refine gg ?_)
      rw [List.take_of_length_le (by omega)] at h7
      exact hR w7 (dk_shut (At.unwrap h7.tail))
end
end Go.Proofs.YtofllgbdphakiaaGreat
end

section
set_option linter.unusedSimpArgs false
set_option linter.unusedVariables false
namespace Go.Proofs.YtofllgbdphakiaaGreat
open Go.Den Go.Disk
section
variable {s : Dk}
theorem now_mem (h : s.Wf) : s.now ∈ s.dirs := List.mem_of_getElem? (dk_now_get h.ne)
theorem wf_empty {room : Int} (h : 16 ≤ room ∧ room ≤ 1048576) : (empty room).Wf := by
  refine ⟨by simp [empty], by simp [empty, riseD], by simp [empty], by simp [empty], by simp [empty], by simp [empty], by simp [empty], h, ?_⟩
  show (-1 : Int) ≤ -1 ∧ (-1 : Int) ≤ _
  omega
theorem wf_setF (h : s.Wf) (f : Nat) {x : Fl} (h1 : x.sure ≤ x.b.length) (h2 : (x.b.length : Int) ≤ s.room) : (setF s f x).Wf := by
  refine ⟨h.ne, h.rise, fun l hl y hy => ?_, h.many, h.nm, fun y hy => ?_, fun y hy => ?_, h.room, h.burn⟩
  · show y.2 < (s.files.set f x).length
    rw [List.length_set]; exact h.idx l hl y hy
  · rcases List.mem_or_eq_of_mem_set (show y ∈ s.files.set f x from hy) with hy | rfl
    · exact h.sure y hy
    · exact h1
  · rcases List.mem_or_eq_of_mem_set (show y ∈ s.files.set f x from hy) with hy | rfl
    · exact h.small y hy
    · exact h2
theorem wf_dirs (h : s.Wf) {l : Dir} (hr : riseD l) (hi : ∀ x ∈ l, x.2 < s.files.length) (hm : l.length ≤ 60) (hn : ∀ x ∈ l, named x.1 = true) : ({ s with dirs := s.dirs ++ [l] } : Dk).Wf := by
  refine ⟨by simp, fun k hk => ?_, fun k hk => ?_, fun k hk => ?_, fun k hk => ?_, h.sure, h.small, h.room, h.burn⟩
  all_goals rcases List.mem_append.1 (show k ∈ s.dirs ++ [l] from hk) with hk | hk
  · exact h.rise k hk
  · simp at hk; subst hk; exact hr
  · exact h.idx k hk
  · simp at hk; subst hk; exact hi
  · exact h.many k hk
  · simp at hk; subst hk; exact hm
  · exact h.nm k hk
  · simp at hk; subst hk; exact hn
theorem wf_dir1 (h : s.Wf) {l : Dir} (hl : l ∈ s.dirs) : ({ s with dirs := [l] } : Dk).Wf := by
  refine ⟨by simp, fun k hk => ?_, fun k hk => ?_, fun k hk => ?_, fun k hk => ?_, h.sure, h.small, h.room, h.burn⟩
  all_goals (have hk' : k = l := by simpa using hk); subst hk'
  · exact h.rise k hl
  · exact h.idx k hl
  · exact h.many k hl
  · exact h.nm k hl
theorem wf_files (h : s.Wf) : ({ s with files := s.files ++ [⟨[], 0⟩] } : Dk).Wf := by
  refine ⟨h.ne, h.rise, fun l hl y hy => ?_, h.many, h.nm, fun y hy => ?_, fun y hy => ?_, h.room, h.burn⟩
  · have := h.idx l hl y hy
    simp; omega
  · rcases List.mem_append.1 hy with hy | hy
    · exact h.sure y hy
    · simp at hy; subst hy; simp
  · rcases List.mem_append.1 hy with hy | hy
    · exact h.small y hy
    · simp at hy; subst hy
      have := h.room
      show (0 : Int) ≤ s.room
      omega
theorem held_of (h : s.Wf) {f : Nat} (hf : isHeld s f = true) (hl : f < s.files.length) : (fileAt s f).b.length ≤ held s := by
  unfold held
  have : ∀ (l : List Nat) (g : Nat → Nat), f ∈ l → g f ≤ (l.map g).sum := by
    intro l g
    induction l with
    | nil => intro h; simp at h
    | cons a l ih =>
      intro h
      simp only [List.map_cons, List.sum_cons]
      rcases List.mem_cons.1 h with rfl | h
      · omega
      · have := ih h; omega
  have h1 := this (List.range s.files.length) (fun f => if isHeld s f = true then (fileAt s f).b.length else 0) (List.mem_range.2 hl)
  simpa [hf] using h1
theorem can_e {e : Int} (h : (can s e).2 = 0) : e = 0 := can_zero h
theorem wf_create (h : s.Wf) (n : ByteArray) : (create s n).1.Wf := by
  unfold create
  have hc := wf_can h (createE s n)
  obtain ⟨k1, k2, k3⟩ := can_keep s (createE s n)
  by_cases hz : (can s (createE s n)).2 = 0
  · simp only [hz, if_true]
    have he := can_zero hz
    have hnm : named n = true := by
      cases hq : named n with
      | true => rfl
      | false => simp [createE, hq] at he
    have hfd : findD s.now n = none := by
      cases hq : findD s.now n with
      | none => rfl
      | some f => simp [createE, hnm, Dk.find, hq] at he
    have h60 : s.now.length < 60 := by
      unfold createE Dk.find at he
      rw [hfd] at he
      simp only [hnm, Bool.true_eq_false, if_false, Option.isSome_none, Bool.false_eq_true] at he
      split at he
      · simp at he
      · omega
    have h1 := wf_files hc
    have hnn : ∀ y ∈ s.now, y.1 ≠ n := findD_none.1 hfd
    have h2 := wf_dirs h1 (l := withD s.now (n, s.files.length)) (rise_withD (h.rise _ (now_mem h)) hnn) (fun x hx => by
      rcases mem_withD.1 hx with rfl | hx
      · simp [k1]
      · have := h.idx _ (now_mem h) x hx
        simp [k1]; omega) (by rw [len_withD]; omega) (fun x hx => by
      rcases mem_withD.1 hx with rfl | hx
      · exact hnm
      · exact h.nm _ (now_mem h) x hx)
    rw [k1, k2] at h2
    exact h2
  · simp only [hz, if_false]
    exact hc
theorem wf_append (h : s.Wf) (n : ByteArray) (bs : List UInt8) : (append s n bs).1.Wf := by
  unfold append
  have hc := wf_can h (appendE s n bs.length)
  obtain ⟨k1, k2, k3⟩ := can_keep s (appendE s n bs.length)
  by_cases hz : (can s (appendE s n bs.length)).2 = 0
  · simp only [hz, if_true]
    have he := can_zero hz
    obtain ⟨f, hfd⟩ : ∃ f, findD s.now n = some f := by
      unfold appendE Dk.find at he
      cases hq : findD s.now n with
      | some f => exact ⟨f, rfl⟩
      | none => rw [hq] at he; simp at he
    rw [(isSome_find hfd).2]
    have hx := List.mem_of_getElem? (wf_pick h hfd)
    have hfl : f < s.files.length := (List.getElem?_eq_some_iff.1 (wf_pick h hfd)).1
    have hh := held_of h (f := f) ((isHeld_iff s f).2 ⟨_, now_mem h, _, findD_mem hfd, rfl⟩) hfl
    have hr : ((held s + bs.length : Nat) : Int) ≤ s.room := by
      unfold appendE Dk.find at he
      rw [hfd] at he
      simp only [Option.isSome_some, if_true] at he
      split at he
      · simp at he
      · omega
    have hs := h.sure _ hx
    refine wf_setF hc f (by simp; omega) ?_
    rw [k3]
    simp only [List.length_append]
    omega
  · simp only [hz, if_false]
    exact hc
theorem wf_sync (h : s.Wf) (n : ByteArray) : (sync s n).1.Wf := by
  unfold sync
  have hc := wf_can h (there s n)
  obtain ⟨k1, k2, k3⟩ := can_keep s (there s n)
  by_cases hz : (can s (there s n)).2 = 0
  · simp only [hz, if_true]
    obtain ⟨f, hfd⟩ := there_zero (can_zero hz)
    rw [(isSome_find hfd).2]
    have hx := List.mem_of_getElem? (wf_pick h hfd)
    refine wf_setF hc f (by simp) ?_
    rw [k3]
    have := h.small _ hx
    exact this
  · simp only [hz, if_false]
    exact hc
theorem wf_cut (h : s.Wf) (n : ByteArray) (k : Int) : (cut s n k).1.Wf := by
  unfold cut
  have hc := wf_can h (cutE s n k)
  obtain ⟨k1, k2, k3⟩ := can_keep s (cutE s n k)
  by_cases hz : (can s (cutE s n k)).2 = 0
  · simp only [hz, if_true]
    have he := can_zero hz
    obtain ⟨f, hfd⟩ : ∃ f, findD s.now n = some f := by
      unfold cutE Dk.find at he
      cases hq : findD s.now n with
      | some f => exact ⟨f, rfl⟩
      | none => rw [hq] at he; simp at he
    rw [(isSome_find hfd).2]
    have hx := List.mem_of_getElem? (wf_pick h hfd)
    have hs := h.small _ hx
    have hu := h.sure _ hx
    refine wf_setF hc f (by simp only [List.length_take]; omega) ?_
    rw [k3]
    simp only [List.length_take]
    omega
  · simp only [hz, if_false]
    exact hc
theorem wf_rename (h : s.Wf) (a b : ByteArray) : (rename s a b).1.Wf := by
  unfold rename
  have hc := wf_can h (renameE s a b)
  obtain ⟨k1, k2, k3⟩ := can_keep s (renameE s a b)
  by_cases hz : (can s (renameE s a b)).2 = 0
  · simp only [hz, if_true]
    have he := can_zero hz
    obtain ⟨f, hfd⟩ : ∃ f, findD s.now a = some f := by
      unfold renameE Dk.find at he
      cases hq : findD s.now a with
      | some f => exact ⟨f, rfl⟩
      | none => rw [hq] at he; simp at he
    have hnm : named b = true := by
      unfold renameE Dk.find at he
      rw [hfd] at he
      cases hq : named b with
      | true => rfl
      | false => rw [hq] at he; simp at he
    rw [(isSome_find hfd).2]
    have hm := now_mem h
    have hfl : f < s.files.length := (List.getElem?_eq_some_iff.1 (wf_pick h hfd)).1
    have hl1 := len_without_lt hfd
    have hl2 := len_without (without s.now a) b
    have h60 := h.many _ hm
    have h2 := wf_dirs hc (l := withD (without (without s.now a) b) (b, f)) (rise_withD (rise_without (rise_without (h.rise _ hm) a) b) fun y hy => (mem_without.1 hy).2) (fun x hx => by
      rw [k1]
      rcases mem_withD.1 hx with rfl | hx
      · exact hfl
      · exact h.idx _ hm x (mem_without.1 (mem_without.1 hx).1).1) (by rw [len_withD]; omega) (fun x hx => by
      rcases mem_withD.1 hx with rfl | hx
      · exact hnm
      · exact h.nm _ hm x (mem_without.1 (mem_without.1 hx).1).1)
    rw [k2] at h2
    exact h2
  · simp only [hz, if_false]
    exact hc
theorem wf_delete (h : s.Wf) (n : ByteArray) : (delete s n).1.Wf := by
  unfold delete
  have hc := wf_can h (there s n)
  obtain ⟨k1, k2, k3⟩ := can_keep s (there s n)
  by_cases hz : (can s (there s n)).2 = 0
  · simp only [hz, if_true]
    have hm := now_mem h
    have hl := len_without s.now n
    have h60 := h.many _ hm
    have h2 := wf_dirs hc (l := without s.now n) (rise_without (h.rise _ hm) n) (fun x hx => by rw [k1]; exact h.idx _ hm x (mem_without.1 hx).1) (by omega) (fun x hx => h.nm _ hm x (mem_without.1 hx).1)
    rw [k2] at h2
    exact h2
  · simp only [hz, if_false]
    exact hc
theorem wf_dirsync (h : s.Wf) : (dirsync s).1.Wf := by
  unfold dirsync
  have hc := wf_can h 0
  obtain ⟨k1, k2, k3⟩ := can_keep s 0
  by_cases hz : (can s 0).2 = 0
  · simp only [hz, if_true]
    exact wf_dir1 hc (by rw [k2]; exact now_mem h)
  · simp only [hz, if_false]
    exact hc
theorem wf_fuse (h : s.Wf) {n : Int} (hn : n ≤ 9223372036854775807) : (fuse s n).Wf := by
  refine ⟨h.ne, h.rise, h.idx, h.many, h.nm, h.sure, h.small, h.room, ?_⟩
  show -1 ≤ (if n < -1 then -1 else n) ∧ (if n < -1 then -1 else n) ≤ _
  split <;> omega
theorem crashF_keep {tails : List Int} {m : Nat} : ∀ (l : Dir) (i : Nat) (fs : List Fl), (∀ x ∈ l, x.2 < fs.length) → FilesOk m fs → (crashF tails l i fs).length = fs.length ∧ FilesOk m (crashF tails l i fs)
  | [], _, fs, _, h => ⟨rfl, h⟩
  | (k, f) :: r, i, fs, hl, h => by
    have h1 := crash1_ok (tails := tails) (i := i) h (hl (k, f) (by simp))
    have h2 := crash1_len tails f i fs
    obtain ⟨a, b⟩ := crashF_keep (tails := tails) (m := m) r (i + 1) (crash1 tails f i fs) (fun x hx => by rw [h2]; exact hl x (by simp [hx])) h1
    exact ⟨by rw [← h2]; exact a, b⟩
theorem wf_crash (h : s.Wf) (op : Int) (tails : List Int) : (crash s op tails).Wf := by
  unfold crash
  have hpos : 0 < s.dirs.length := List.length_pos_iff.2 h.ne
  have hl : s.dirs.getD (min op.toNat (s.dirs.length - 1)) [] ∈ s.dirs := by
    rw [List.getD_eq_getElem?_getD, List.getElem?_eq_getElem (by omega)]; exact List.getElem_mem _
  generalize s.dirs.getD (min op.toNat (s.dirs.length - 1)) [] = l at hl
  have hrm := h.room
  obtain ⟨a, b⟩ := crashF_keep (tails := tails) (m := s.room.toNat) l 0 s.files (h.idx l hl) (fun x hx => ⟨h.sure x hx, by have := h.small x hx; omega⟩)
  refine ⟨by simp, fun k hk => ?_, fun k hk => ?_, fun k hk => ?_, fun k hk => ?_, fun x hx => (b x hx).1, fun x hx => ?_, h.room, ?_⟩
  · have hk' : k = l := by simpa using hk
    subst hk'; exact h.rise k hl
  · have hk' : k = l := by simpa using hk
    subst hk'
    show ∀ x ∈ k, x.2 < (crashF tails k 0 s.files).length
    rw [a]; exact h.idx k hl
  · have hk' : k = l := by simpa using hk
    subst hk'; exact h.many k hl
  · have hk' : k = l := by simpa using hk
    subst hk'; exact h.nm k hl
  · have := (b x hx).2
    show (x.b.length : Int) ≤ s.room
    omega
  · show (-1 : Int) ≤ -1 ∧ (-1 : Int) ≤ _
    omega
end
end Go.Proofs.YtofllgbdphakiaaGreat
end

section
namespace Go.Proofs.YtofllgbdphakiaaGreat
open Go.Den Go.Disk
structure Act where
  dn : Int
  n : Int
  nm : ByteArray
  to : ByteArray
  bv : Value
  tv : Value
def encA (a : Act) : List Value := [.int .i64 a.dn, .int .i64 a.n, .string a.nm, .string a.to, a.bv, a.tv]
/-- an act's answer: the disk behind it, what is read, the error. -/
def act (s : Dk) (a : Act) (b : List UInt8) (tails : List Int) : Dk × List UInt8 × Int :=
  if a.dn = 0 then ((create s a.nm).1, [], (create s a.nm).2)
  else if a.dn = 1 then ((append s a.nm b).1, [], (append s a.nm b).2)
  else if a.dn = 2 then ((sync s a.nm).1, [], (sync s a.nm).2)
  else if a.dn = 3 then ((cut s a.nm a.n).1, [], (cut s a.nm a.n).2)
  else if a.dn = 4 then ((rename s a.nm a.to).1, [], (rename s a.nm a.to).2)
  else if a.dn = 5 then ((delete s a.nm).1, [], (delete s a.nm).2)
  else if a.dn = 6 then ((dirsync s).1, [], (dirsync s).2)
  else if a.dn = 7 then (fuse s a.n, [], 0)
  else if a.dn = 8 then (crash s a.n tails, [], 0)
  else (s, Disk.read s a.nm)
theorem wf_act {s : Dk} (h : s.Wf) (a : Act) (b : List UInt8) (tails : List Int) (hn : a.n ≤ 9223372036854775807) : (act s a b tails).1.Wf := by
  unfold act
  split; exact wf_create h _
  split; exact wf_append h _ _
  split; exact wf_sync h _
  split; exact wf_cut h _ _
  split; exact wf_rename h _ _
  split; exact wf_delete h _
  split; exact wf_dirsync h
  split; exact wf_fuse h hn
  split; exact wf_crash h _ _
  exact h
/-- how much a call adds. -/
theorem crashF_len (tails : List Int) : ∀ (l : Dir) (i : Nat) (fs : List Fl), (crashF tails l i fs).length = fs.length
  | [], _, _ => rfl
  | (k, f) :: r, i, fs => by
    have h2 := crash1_len tails f i fs
    rw [← h2]; exact crashF_len tails r (i + 1) (crash1 tails f i fs)
theorem more_act (s : Dk) (a : Act) (b : List UInt8) (tails : List Int) (h : s.dirs ≠ []) : (act s a b tails).1.dirs.length ≤ s.dirs.length + 1 ∧ (act s a b tails).1.files.length ≤ s.files.length + 1 := by
  have hp : 0 < s.dirs.length := List.length_pos_iff.2 h
  unfold act
  split
  · obtain ⟨k1, k2, k3⟩ := can_keep s (createE s a.nm)
    simp only [create]; split
    · simp
    · simp only [k1, k2]; omega
  split
  · obtain ⟨k1, k2, k3⟩ := can_keep s (appendE s a.nm b.length)
    simp only [append, setF]; split <;> simp only [List.length_set, k1, k2] <;> omega
  split
  · obtain ⟨k1, k2, k3⟩ := can_keep s (there s a.nm)
    simp only [sync, setF]; split <;> simp only [List.length_set, k1, k2] <;> omega
  split
  · obtain ⟨k1, k2, k3⟩ := can_keep s (cutE s a.nm a.n)
    simp only [cut, setF]; split <;> simp only [List.length_set, k1, k2] <;> omega
  split
  · obtain ⟨k1, k2, k3⟩ := can_keep s (renameE s a.nm a.to)
    simp only [rename]; split
    · simp [k1]
    · simp only [k1, k2]; omega
  split
  · obtain ⟨k1, k2, k3⟩ := can_keep s (there s a.nm)
    simp only [delete]; split
    · simp [k1]
    · simp only [k1, k2]; omega
  split
  · obtain ⟨k1, k2, k3⟩ := can_keep s 0
    simp only [dirsync]; split
    · simp [k1]
    · simp only [k1, k2]; omega
  split
  · simp [fuse]
  split
  · simp [crash, crashF_len]
  simp
end Go.Proofs.YtofllgbdphakiaaGreat
end

section
set_option linter.unusedSimpArgs false
set_option linter.unusedVariables false
namespace Go.Proofs.YtofllgbdphakiaaGreat
open Go.Den Go.Disk
def sumTo (n : Nat) (g : Nat → Nat) : Nat := ((List.range n).map g).sum
theorem sumTo_succ (n : Nat) (g : Nat → Nat) : sumTo (n + 1) g = sumTo n g + g n := by unfold sumTo; rw [List.range_succ]; simp
theorem sumTo_le {n : Nat} {g g' : Nat → Nat} (h : ∀ i, i < n → g i ≤ g' i) : sumTo n g ≤ sumTo n g' := by
  induction n with
  | zero => simp [sumTo]
  | succ n ih =>
    rw [sumTo_succ, sumTo_succ]
    have := ih fun i hi => h i (by omega)
    have := h n (by omega)
    omega
theorem sumTo_one {n f k : Nat} {g g' : Nat → Nat} (hf : f < n) (h : ∀ i, i < n → i ≠ f → g' i ≤ g i) (h1 : g' f ≤ g f + k) : sumTo n g' ≤ sumTo n g + k := by
  induction n with
  | zero => omega
  | succ n ih =>
    rw [sumTo_succ, sumTo_succ]
    by_cases hfn : f = n
    · subst hfn
      have := sumTo_le (n := f) (g := g') (g' := g) fun i hi => h i (by omega) (by omega)
      omega
    · have := ih (by omega) fun i hi hne => h i (by omega) hne
      have := h n (by omega) (fun e => hfn e.symm)
      omega
def heldG (s : Dk) (f : Nat) : Nat := if isHeld s f = true then (fileAt s f).b.length else 0
theorem held_sum (s : Dk) : held s = sumTo s.files.length (heldG s) := rfl
/-- less held. -/
theorem held_mono {s s' : Dk} (hl : s'.files.length = s.files.length) (h1 : ∀ f, isHeld s' f = true → isHeld s f = true) (h2 : ∀ f, f < s.files.length → (fileAt s' f).b.length ≤ (fileAt s f).b.length) : held s' ≤ held s := by
  rw [held_sum, held_sum, hl]
  refine sumTo_le fun f hf => ?_
  unfold heldG
  by_cases q : isHeld s' f = true
  · rw [if_pos q, if_pos (h1 f q)]; exact h2 f hf
  · rw [if_neg q]; omega
theorem fileAt_set {s : Dk} {f : Nat} (hf : f < s.files.length) (x : Fl) (g : Nat) : fileAt (setF s f x) g = if g = f then x else fileAt s g := by
  unfold fileAt setF
  simp only [List.getD_eq_getElem?_getD, List.getElem?_set]
  by_cases h : f = g
  · subst h; simp [hf]
  · rw [if_neg h, if_neg (fun e => h e.symm)]
structure Inv (s : Dk) : Prop where
  wf : s.Wf
  roomy : (held s : Int) ≤ s.room
  one : ∀ l ∈ s.dirs, (l.map (·.2)).Nodup
theorem isHeld_dirs {s s' : Dk} (h : ∀ l' ∈ s'.dirs, ∀ x ∈ l', ∃ l ∈ s.dirs, ∃ y ∈ l, y.2 = x.2) (f : Nat) (hf : isHeld s' f = true) : isHeld s f = true := by
  rw [isHeld_iff] at *
  obtain ⟨l', hl', x, hx, rfl⟩ := hf
  exact h l' hl' x hx
theorem map2_withD (l : Dir) (x : ByteArray × Nat) : ((withD l x).map (·.2)).Perm (x.2 :: l.map (·.2)) := by
  induction l with
  | nil => simp [withD]
  | cons y l ih =>
    simp only [withD]
    split
    · simp only [List.map_cons]
      exact (ih.cons _).trans (List.Perm.swap _ _ _)
    · simp
theorem one_without {l : Dir} (h : (l.map (·.2)).Nodup) (n : ByteArray) : ((without l n).map (·.2)).Nodup := h.sublist ((List.filter_sublist).map _)
theorem one_gone {l : Dir} (h : (l.map (·.2)).Nodup) {n : ByteArray} {f : Nat} (hm : (n, f) ∈ l) : ∀ x ∈ without l n, x.2 ≠ f := by
  intro x hx e
  obtain ⟨h1, h2⟩ := mem_without.1 hx
  have := (List.nodup_iff_pairwise_ne.1 h)
  clear hx
  induction l with
  | nil => simp at hm
  | cons y l ih =>
    simp only [List.map_cons, List.nodup_cons] at h
    rcases List.mem_cons.1 hm with hm | hm
    · rcases List.mem_cons.1 h1 with h1 | h1
      · exact h2 (by rw [h1, ← hm])
      · exact h.1 (by rw [← hm]; exact List.mem_map.2 ⟨x, h1, e⟩)
    · rcases List.mem_cons.1 h1 with h1 | h1
      · exact h.1 (List.mem_map.2 ⟨_, hm, by rw [← h1, e]⟩)
      · exact ih h.2 hm h1 (List.nodup_iff_pairwise_ne.1 h.2)
section
variable {s : Dk}
theorem can_held (s : Dk) (e : Int) : held (can s e).1 = held s := by
  obtain ⟨k1, k2, k3⟩ := can_keep s e
  unfold held isHeld fileAt
  rw [k1, k2]
theorem inv_can (h : Inv s) (e : Int) : Inv (can s e).1 := by
  obtain ⟨k1, k2, k3⟩ := can_keep s e
  exact ⟨wf_can h.wf e, by rw [can_held, k3]; exact h.roomy, by rw [k2]; exact h.one⟩
theorem inv_empty {room : Int} (h : 16 ≤ room ∧ room ≤ 1048576) : Inv (empty room) := by
  refine ⟨wf_empty h, ?_, by simp [empty]⟩
  show ((0 : Nat) : Int) ≤ room
  omega
/-- a directory put behind, of files that are there, or of no bytes. -/
theorem inv_dirs (h : Inv s) {l : Dir} (hw : ({ s with dirs := s.dirs ++ [l] } : Dk).Wf) (ho : (l.map (·.2)).Nodup) (hl : ∀ x ∈ l, (∃ k ∈ s.dirs, ∃ y ∈ k, y.2 = x.2) ∨ (fileAt s x.2).b = []) : Inv { s with dirs := s.dirs ++ [l] } := by
  refine ⟨hw, Int.le_trans ?_ h.roomy, fun k hk => ?_⟩
  · rw [held_sum, held_sum]
    refine Int.ofNat_le.2 (sumTo_le fun f hf => ?_)
    unfold heldG
    by_cases q : isHeld s f = true
    · rw [if_pos q]
      split
      · exact Nat.le_refl _
      · omega
    · split
      · rename_i q2
        rw [isHeld_iff] at q2
        obtain ⟨k, hk, x, hx, rfl⟩ := q2
        rcases List.mem_append.1 (show k ∈ s.dirs ++ [l] from hk) with hk | hk
        · exact absurd ((isHeld_iff s x.2).2 ⟨k, hk, x, hx, rfl⟩) q
        · simp at hk; subst hk
          rcases hl x hx with h1 | h1
          · exact absurd ((isHeld_iff s x.2).2 h1) q
          · show (fileAt s x.2).b.length ≤ _
            rw [h1]; simp
      · omega
  · rcases List.mem_append.1 (show k ∈ s.dirs ++ [l] from hk) with hk | hk
    · exact h.one k hk
    · simp at hk; subst hk; exact ho
theorem inv_setF (h : Inv s) {f : Nat} {x : Fl} (hw : (setF s f x).Wf) (hf : f < s.files.length) {k : Nat} (hx : x.b.length ≤ (fileAt s f).b.length + k) (hk : ((held s + k : Nat) : Int) ≤ s.room) : Inv (setF s f x) := by
  refine ⟨hw, Int.le_trans (Int.ofNat_le.2 ?_) hk, h.one⟩
  rw [held_sum, held_sum]
  have e : (setF s f x).files.length = s.files.length := by unfold setF; simp
  have e2 : ∀ g, isHeld (setF s f x) g = isHeld s g := fun g => rfl
  rw [e]
  refine sumTo_one hf (fun i hi hne => ?_) ?_
  · unfold heldG; rw [e2, fileAt_set hf, if_neg hne]; exact Nat.le_refl _
  · unfold heldG; rw [e2, fileAt_set hf, if_pos rfl]
    split <;> omega
end
end Go.Proofs.YtofllgbdphakiaaGreat
end

section
set_option linter.unusedSimpArgs false
set_option linter.unusedVariables false
namespace Go.Proofs.YtofllgbdphakiaaGreat
open Go.Den Go.Disk
section
variable {s : Dk}
theorem inv_create (h : Inv s) (n : ByteArray) : Inv (create s n).1 := by
  have hwf := wf_create h.wf n
  unfold create at *
  obtain ⟨k1, k2, k3⟩ := can_keep s (createE s n)
  have hc := inv_can h (createE s n)
  by_cases hz : (can s (createE s n)).2 = 0
  · simp only [hz, if_true] at hwf ⊢
    have hm := now_mem h.wf
    generalize hs1 : (can s (createE s n)).1 = s1 at *
    have hi1 : Inv { s1 with files := s1.files ++ [⟨[], 0⟩] } := by
      refine ⟨wf_files hc.wf, Int.le_trans (Int.ofNat_le.2 ?_) hc.roomy, hc.one⟩
      rw [held_sum, held_sum]
      have e : ({ s1 with files := s1.files ++ [⟨[], 0⟩] } : Dk).files.length = s1.files.length + 1 := by simp
      rw [e, sumTo_succ]
      have e1 : heldG { s1 with files := s1.files ++ [⟨[], 0⟩] } s1.files.length = 0 := by
        unfold heldG fileAt
        simp
      rw [e1, Nat.add_zero]
      refine sumTo_le fun f hf => ?_
      unfold heldG fileAt
      have e2 : isHeld { s1 with files := s1.files ++ [⟨[], 0⟩] } f = isHeld s1 f := rfl
      rw [e2]
      simp only [List.getD_eq_getElem?_getD, List.getElem?_append_left hf]
      exact Nat.le_refl _
    have hw2 : ({ ({ s1 with files := s1.files ++ [⟨[], 0⟩] } : Dk) with dirs := ({ s1 with files := s1.files ++ [⟨[], 0⟩] } : Dk).dirs ++ [withD s.now (n, s.files.length)] } : Dk).Wf := by
      have := hwf
      rw [← k1, ← k2] at this
      rw [← k1]
      exact this
    have := inv_dirs hi1 hw2 (by
      refine (map2_withD _ _).nodup_iff.2 (List.nodup_cons.2 ⟨fun hx => ?_, h.one _ hm⟩)
      obtain ⟨x, hx, e⟩ := List.mem_map.1 hx
      have := h.wf.idx _ hm x hx
      simp only at e
      omega) (fun x hx => by
      rcases mem_withD.1 hx with rfl | hx
      · right
        show (List.getD (s1.files ++ [Fl.mk [] 0]) s.files.length (Fl.mk [] 0)).b = []
        rw [← k1, List.getD_eq_getElem?_getD, List.getElem?_append_right (Nat.le_refl _)]; simp
      · exact .inl ⟨s.now, by show s.now ∈ s1.dirs; rw [k2]; exact hm, x, hx, rfl⟩)
    show Inv (Dk.mk s1.room (s.files ++ [Fl.mk [] 0]) (s.dirs ++ [withD s.now (n, s.files.length)]) s1.burn s1.gone)
    rw [← k1, ← k2]
    rw [← k1] at this
    exact this
  · simp only [hz, if_false] at hwf ⊢
    exact hc
theorem fileAt_can (s : Dk) (e : Int) (f : Nat) : fileAt (can s e).1 f = fileAt s f := by unfold fileAt; rw [(can_keep s e).1]
theorem pick_lt (h : s.Wf) {n : ByteArray} {f : Nat} (hf : findD s.now n = some f) : f < s.files.length := (List.getElem?_eq_some_iff.1 (wf_pick h hf)).1
theorem inv_append (h : Inv s) (n : ByteArray) (bs : List UInt8) : Inv (append s n bs).1 := by
  have hwf := wf_append h.wf n bs
  unfold append at *
  obtain ⟨k1, k2, k3⟩ := can_keep s (appendE s n bs.length)
  have hc := inv_can h (appendE s n bs.length)
  by_cases hz : (can s (appendE s n bs.length)).2 = 0
  · simp only [hz, if_true] at hwf ⊢
    have he := can_zero hz
    obtain ⟨f, hfd⟩ : ∃ f, findD s.now n = some f := by
      unfold appendE Dk.find at he
      cases hq : findD s.now n with
      | some f => exact ⟨f, rfl⟩
      | none => rw [hq] at he; simp at he
    rw [(isSome_find hfd).2] at hwf ⊢
    have hr : ((held s + bs.length : Nat) : Int) ≤ s.room := by
      unfold appendE Dk.find at he
      rw [hfd] at he
      simp only [Option.isSome_some, if_true] at he
      split at he
      · simp at he
      · omega
    exact inv_setF hc hwf (by rw [k1]; exact pick_lt h.wf hfd) (k := bs.length) (by rw [fileAt_can]; simp) (by rw [can_held, k3]; exact hr)
  · simp only [hz, if_false] at hwf ⊢
    exact hc
theorem inv_sync (h : Inv s) (n : ByteArray) : Inv (sync s n).1 := by
  have hwf := wf_sync h.wf n
  unfold sync at *
  obtain ⟨k1, k2, k3⟩ := can_keep s (there s n)
  have hc := inv_can h (there s n)
  by_cases hz : (can s (there s n)).2 = 0
  · simp only [hz, if_true] at hwf ⊢
    obtain ⟨f, hfd⟩ := there_zero (can_zero hz)
    rw [(isSome_find hfd).2] at hwf ⊢
    exact inv_setF hc hwf (by rw [k1]; exact pick_lt h.wf hfd) (k := 0) (by rw [fileAt_can]; simp) (by rw [Nat.add_zero]; exact hc.roomy)
  · simp only [hz, if_false] at hwf ⊢
    exact hc
theorem inv_cut (h : Inv s) (n : ByteArray) (k : Int) : Inv (cut s n k).1 := by
  have hwf := wf_cut h.wf n k
  unfold cut at *
  obtain ⟨k1, k2, k3⟩ := can_keep s (cutE s n k)
  have hc := inv_can h (cutE s n k)
  by_cases hz : (can s (cutE s n k)).2 = 0
  · simp only [hz, if_true] at hwf ⊢
    have he := can_zero hz
    obtain ⟨f, hfd⟩ : ∃ f, findD s.now n = some f := by
      unfold cutE Dk.find at he
      cases hq : findD s.now n with
      | some f => exact ⟨f, rfl⟩
      | none => rw [hq] at he; simp at he
    rw [(isSome_find hfd).2] at hwf ⊢
    exact inv_setF hc hwf (by rw [k1]; exact pick_lt h.wf hfd) (k := 0) (by rw [fileAt_can]; simp only [List.length_take]; omega) (by rw [Nat.add_zero]; exact hc.roomy)
  · simp only [hz, if_false] at hwf ⊢
    exact hc
theorem inv_rename (h : Inv s) (a b : ByteArray) : Inv (rename s a b).1 := by
  have hwf := wf_rename h.wf a b
  unfold rename at *
  obtain ⟨k1, k2, k3⟩ := can_keep s (renameE s a b)
  have hc := inv_can h (renameE s a b)
  by_cases hz : (can s (renameE s a b)).2 = 0
  · simp only [hz, if_true] at hwf ⊢
    have he := can_zero hz
    obtain ⟨f, hfd⟩ : ∃ f, findD s.now a = some f := by
      unfold renameE Dk.find at he
      cases hq : findD s.now a with
      | some f => exact ⟨f, rfl⟩
      | none => rw [hq] at he; simp at he
    rw [(isSome_find hfd).2] at hwf ⊢
    have hm := now_mem h.wf
    rw [← k2] at hwf ⊢
    refine inv_dirs hc hwf ?_ fun x hx => .inl ⟨s.now, by rw [k2]; exact hm, ?_⟩
    · refine (map2_withD _ _).nodup_iff.2 (List.nodup_cons.2 ⟨fun hx => ?_, one_without (one_without (h.one _ hm) a) b⟩)
      obtain ⟨x, hx, e⟩ := List.mem_map.1 hx
      exact one_gone (h.one _ hm) (findD_mem hfd) x (mem_without.1 hx).1 e
    · rcases mem_withD.1 hx with rfl | hx
      · exact ⟨_, findD_mem hfd, rfl⟩
      · exact ⟨x, (mem_without.1 (mem_without.1 hx).1).1, rfl⟩
  · simp only [hz, if_false] at hwf ⊢
    exact hc
theorem inv_delete (h : Inv s) (n : ByteArray) : Inv (delete s n).1 := by
  have hwf := wf_delete h.wf n
  unfold delete at *
  obtain ⟨k1, k2, k3⟩ := can_keep s (there s n)
  have hc := inv_can h (there s n)
  by_cases hz : (can s (there s n)).2 = 0
  · simp only [hz, if_true] at hwf ⊢
    have hm := now_mem h.wf
    rw [← k2] at hwf ⊢
    exact inv_dirs hc hwf (one_without (h.one _ hm) n) fun x hx => .inl ⟨s.now, by rw [k2]; exact hm, x, (mem_without.1 hx).1, rfl⟩
  · simp only [hz, if_false] at hwf ⊢
    exact hc
theorem inv_dir1 (h : Inv s) {l : Dir} (hl : l ∈ s.dirs) : Inv { s with dirs := [l] } := by
  refine ⟨wf_dir1 h.wf hl, Int.le_trans (Int.ofNat_le.2 (held_mono (s := s) (s' := { s with dirs := [l] }) rfl (isHeld_dirs (s := s) (s' := { s with dirs := [l] }) fun k hk x hx => ⟨l, hl, x, ?_, rfl⟩) fun f _ => Nat.le_refl _)) h.roomy, fun k hk => ?_⟩
  · have : k = l := by simpa using hk
    subst this; exact hx
  · have : k = l := by simpa using hk
    subst this; exact h.one k hl
theorem inv_dirsync (h : Inv s) : Inv (dirsync s).1 := by
  unfold dirsync
  obtain ⟨k1, k2, k3⟩ := can_keep s 0
  have hc := inv_can h 0
  by_cases hz : (can s 0).2 = 0
  · simp only [hz, if_true]
    exact inv_dir1 hc (by rw [k2]; exact now_mem h.wf)
  · simp only [hz, if_false]
    exact hc
theorem inv_fuse (h : Inv s) {n : Int} (hn : n ≤ 9223372036854775807) : Inv (fuse s n) := ⟨wf_fuse h.wf hn, h.roomy, h.one⟩
theorem crashF_less {tails : List Int} : ∀ (l : Dir) (i : Nat) (fs : List Fl) (f : Nat), ((crashF tails l i fs).getD f ⟨[], 0⟩).b.length ≤ (fs.getD f ⟨[], 0⟩).b.length
  | [], _, _, _ => Nat.le_refl _
  | (k, g) :: r, i, fs, f => by
    refine Nat.le_trans (crashF_less (tails := tails) r (i + 1) (crash1 tails g i fs) f) ?_
    unfold crash1
    simp only [List.getD_eq_getElem?_getD, List.getElem?_set]
    split
    · rename_i h
      subst h
      split
      · simp only [Option.getD_some, List.length_take]; omega
      · rename_i h2
        rw [List.getElem?_eq_none (by omega)]; simp
    · exact Nat.le_refl _
theorem inv_crash (h : Inv s) (op : Int) (tails : List Int) : Inv (crash s op tails) := by
  have hwf := wf_crash h.wf op tails
  have hpos : 0 < s.dirs.length := List.length_pos_iff.2 h.wf.ne
  have hl : s.dirs.getD (min op.toNat (s.dirs.length - 1)) [] ∈ s.dirs := by
    rw [List.getD_eq_getElem?_getD, List.getElem?_eq_getElem (by omega)]; exact List.getElem_mem _
  unfold crash at *
  generalize s.dirs.getD (min op.toNat (s.dirs.length - 1)) [] = l at hl hwf ⊢
  refine ⟨hwf, Int.le_trans (Int.ofNat_le.2 (held_mono (crashF_len tails l 0 s.files) (isHeld_dirs (s := s) fun k hk x hx => ⟨l, hl, x, ?_, rfl⟩) fun f _ => crashF_less l 0 s.files f)) h.roomy, fun k hk => ?_⟩
  · have : k = l := by simpa using hk
    subst this; exact hx
  · have : k = l := by simpa using hk
    subst this; exact h.one k hl
theorem inv_act (h : Inv s) (a : Act) (b : List UInt8) (tails : List Int) (hn : a.n ≤ 9223372036854775807) : Inv (act s a b tails).1 := by
  unfold act
  split; exact inv_create h _
  split; exact inv_append h _ _
  split; exact inv_sync h _
  split; exact inv_cut h _ _
  split; exact inv_rename h _ _
  split; exact inv_delete h _
  split; exact inv_dirsync h
  split; exact inv_fuse h hn
  split; exact inv_crash h _ _
  exact h
/-- of one directory alone, what is held is what its names' files have. -/
theorem held_one (h : Inv s) {l : Dir} (hd : s.dirs = [l]) : held s = (l.map fun x => (fileAt s x.2).b.length).sum := by
  have hl : l ∈ s.dirs := by rw [hd]; simp
  have := sum_held (s := s) (fs := l.map (·.2)) (h.one l hl) (fun f => by
    rw [isHeld_iff, hd]
    simp [List.mem_map]) (fun f hf => by
    obtain ⟨x, hx, rfl⟩ := List.mem_map.1 hf
    exact h.wf.idx l hl x hx)
  rw [← this, List.map_map]; rfl
/-- without power nothing changes. -/
theorem can_gone (hg : s.gone = true) (e : Int) : can s e = (s, 7) := by unfold can; rw [if_pos hg]
theorem act_gone (hg : s.gone = true) (a : Act) (b : List UInt8) (tails : List Int) (h7 : a.dn ≠ 7) (h8 : a.dn ≠ 8) : act s a b tails = (s, [], 7) := by
  unfold act
  split; simp [create, can_gone hg]
  split; simp [append, can_gone hg]
  split; simp [sync, can_gone hg]
  split; simp [cut, can_gone hg]
  split; simp [rename, can_gone hg]
  split; simp [delete, can_gone hg]
  split; simp [dirsync, can_gone hg]
  simp [h7, h8, Disk.read, hg]
end
end Go.Proofs.YtofllgbdphakiaaGreat
end

section
set_option linter.unusedSimpArgs false
set_option linter.unusedVariables false
namespace Go.Root
open Go.Den Go.Disk Go.Rec Go.Proofs.YtofllgbdphakiaaGreat
structure Rt where
  gen : Nat
  lanes : Int
  pay : Int
  del : Int
  seg : Int
  deriving DecidableEq
def zeroT : Rt := ⟨0, 0, 0, 0, 0⟩
def cfgB (a b c : Int) : Bool := decide (1 ≤ a) && decide (a ≤ 8) && decide (0 ≤ b) && decide (b ≤ 64) && decide (1 ≤ c) && decide (c ≤ 20)
def rightT (r : Rt) : Bool := cfgB r.lanes r.pay r.del && decide (1 ≤ r.gen) && decide (r.gen < 10000000000) && decide (64 ≤ r.seg) && decide (r.seg ≤ 65536)
def nf : ByteArray := ⟨#[114, 111, 111, 116]⟩
def nd : ByteArray := ⟨#[114, 111, 111, 116, 46, 110, 101, 119]⟩
theorem nfd : nf ≠ nd := by intro h; have := congrArg (fun x : ByteArray => x.data.size) h; simp [nf, nd] at this
theorem named_f : named nf = true := by decide +kernel
theorem named_d : named nd = true := by decide +kernel
def numsT (r : Rt) : List Nat := [r.gen, r.lanes.toNat, r.pay.toNat, r.del.toNat, r.seg.toNat]
def bytesT (r : Rt) : List UInt8 := recB 12 (numsT r) []
structure RightT (r : Rt) : Prop where
  g : 1 ≤ r.gen ∧ r.gen < 10000000000
  l : 1 ≤ r.lanes ∧ r.lanes ≤ 8
  p : 0 ≤ r.pay ∧ r.pay ≤ 64
  d : 1 ≤ r.del ∧ r.del ≤ 20
  s : 64 ≤ r.seg ∧ r.seg ≤ 65536
theorem rightT_iff {r : Rt} : rightT r = true ↔ RightT r := by
  unfold rightT cfgB
  simp only [Bool.and_eq_true, decide_eq_true_eq]
  constructor
  · rintro ⟨⟨⟨⟨⟨⟨⟨⟨⟨a, b⟩, c⟩, d⟩, e⟩, f⟩, g⟩, h⟩, i⟩, j⟩
    exact ⟨⟨g, h⟩, ⟨a, b⟩, ⟨c, d⟩, ⟨e, f⟩, ⟨i, j⟩⟩
  · rintro ⟨⟨g, h⟩, ⟨a, b⟩, ⟨c, d⟩, ⟨e, f⟩, ⟨i, j⟩⟩
    exact ⟨⟨⟨⟨⟨⟨⟨⟨⟨a, b⟩, c⟩, d⟩, e⟩, f⟩, g⟩, h⟩, i⟩, j⟩
theorem nums_small {r : Rt} (h : RightT r) : ∀ n ∈ numsT r, n < 18446744073709551616 := by
  obtain ⟨h1, h2, h3, h4, h5⟩ := h
  intro n hn
  simp only [numsT, List.mem_cons, List.not_mem_nil, or_false] at hn
  omega
theorem right12 (ns : List Nat) (h : ns.length = 5) : rightB 12 ns.length ([] : List UInt8).length = true := by
  rw [h]; decide +kernel
theorem bytesT_len {r : Rt} (h : RightT r) : 0 < (bytesT r).length ∧ (bytesT r).length ≤ 22 := by
  obtain ⟨h1, h2, h3, h4, h5⟩ := h
  have l1 := Go.Vint.layV_len 5 r.gen (by omega) (by omega)
  have l2 := Go.Vint.layV_len 1 r.lanes.toNat (by omega) (by omega)
  have l3 := Go.Vint.layV_len 1 r.pay.toNat (by omega) (by omega)
  have l4 := Go.Vint.layV_len 1 r.del.toNat (by omega) (by omega)
  have l5 := Go.Vint.layV_len 3 r.seg.toNat (by omega) (by omega)
  unfold bytesT recB
  rw [Go.Frame.frB_len]
  unfold toFra bodyOf_ numsT
  simp only [List.flatMap_cons, List.flatMap_nil, List.append_nil, List.length_append]
  omega
/-- what comes of acts one behind the other, up to the first error. -/
def thenT (x : Dk × Int) (f : Dk → Dk × Int) : Dk × Int := if x.2 = 0 then f x.1 else x
def step1 (s : Dk) : Dk × Int := if (s.find nd).isSome then delete s nd else (s, 0)
def writeT (s : Dk) (r : Rt) : Dk × Int :=
  if rightT r = false then (s, 1) else
  thenT (thenT (thenT (thenT (thenT (step1 s) fun s => create s nd) fun s => append s nd (bytesT r)) fun s => sync s nd) fun s => rename s nd nf) dirsync
def small (n : Nat) : Int := ((min n 1048576 : Nat) : Int)
def ofRec (x : Rc) : Rt := ⟨x.n.getD 0 0, small (x.n.getD 1 0), small (x.n.getD 2 0), small (x.n.getD 3 0), small (x.n.getD 4 0)⟩
def fromB (b : List UInt8) : Rt × Int :=
  if (recAll b).2.2 ≠ 0 then (zeroT, (recAll b).2.2) else
  match (recAll b).1 with
  | [x] => if x.kind ≠ 12 then (zeroT, 2) else if rightT (ofRec x) = true then (ofRec x, 0) else (zeroT, 2)
  | _ => (zeroT, 2)
def readT (s : Dk) : Rt × Int := if (Disk.read s nf).2 ≠ 0 then (zeroT, (Disk.read s nf).2) else fromB (Disk.read s nf).1
theorem fromB_bytes {r : Rt} (h : RightT r) : fromB (bytesT r) = (r, 0) := by
  unfold fromB bytesT
  rw [recAll_one (right12 _ rfl) (nums_small h)]
  have e : ofRec ⟨12, numsT r, []⟩ = r := by
    obtain ⟨h1, h2, h3, h4, h5⟩ := h
    obtain ⟨g, l, p, d, s⟩ := r
    simp only at h1 h2 h3 h4 h5
    unfold ofRec numsT small
    simp only [List.getD_cons_zero, List.getD_cons_succ]
    congr 1 <;> omega
  simp only [ne_eq, not_true_eq_false, if_false]
  rw [e, if_pos (rightT_iff.2 h)]
/-- a disk that has at most a root, and is sure of it. -/
structure StT (s : Dk) (o : Option Rt) : Prop where
  inv : Inv s
  gone : s.gone = false
  burn : s.burn = -1
  at_ : match o with
    | none => s.dirs = [[]]
    | some r => RightT r ∧ ∃ f, s.dirs = [[(nf, f)]] ∧ s.files[f]? = some ⟨bytesT r, (bytesT r).length⟩
theorem can_freeT {s : Dk} (hg : s.gone = false) (hb : s.burn = -1) (e : Int) : can s e = (s, e) := by
  unfold can
  by_cases h : e = 0
  · simp [hg, hb, h]
  · simp [hg, h]
theorem ind_sum (f k : Nat) : ∀ n, sumTo n (fun g => if g = f then k else 0) ≤ k ∧ (n ≤ f → sumTo n (fun g => if g = f then k else 0) = 0)
  | 0 => by simp [sumTo]
  | n + 1 => by
    obtain ⟨h1, h2⟩ := ind_sum f k n
    rw [sumTo_succ]
    by_cases h : n = f
    · rw [if_pos h, h2 (by omega)]; exact ⟨by omega, fun hh => by omega⟩
    · rw [if_neg h]; exact ⟨by omega, fun hh => by rw [h2 (by omega)]⟩
theorem held_one_le {s : Dk} {f k : Nat} (h : ∀ g, isHeld s g = true → (fileAt s g).b.length ≤ if g = f then k else 0) : held s ≤ k := by
  rw [held_sum]
  refine Nat.le_trans (sumTo_le (g' := fun g => if g = f then k else 0) fun i _ => ?_) (ind_sum f k _).1
  unfold heldG
  split
  · rename_i hh; exact h i hh
  · omega
theorem read_st {s : Dk} {o : Option Rt} (h : StT s o) : readT s = match o with | none => (zeroT, 5) | some r => (r, 0) := by
  have hg := h.gone
  have ha := h.at_
  unfold readT Disk.read Dk.find Dk.now
  cases o with
  | none =>
    simp only at ha
    rw [ha, hg]; simp [findD]
  | some r =>
    obtain ⟨hr, f, h1, h2⟩ := ha
    rw [h1, hg]
    have e : (fileAt s f).b = bytesT r := by unfold fileAt; rw [List.getD_eq_getElem?_getD, h2]; rfl
    simp [findD, e, fromB_bytes hr]
theorem write_st {s : Dk} {o : Option Rt} {r : Rt} (h : StT s o) (hr : RightT r) (hroom : 100 ≤ s.room) : (writeT s r).2 = 0 ∧ StT (writeT s r).1 (some r) ∧ (writeT s r).1.room = s.room := by
  obtain ⟨hb0, hb1⟩ := bytesT_len hr
  obtain ⟨inv, hg, hb, ha⟩ := h
  -- the one directory: nothing, or the root alone
  obtain ⟨l, hd, hl⟩ : ∃ l, s.dirs = [l] ∧ (l = [] ∨ ∃ f, l = [(nf, f)] ∧ f < s.files.length ∧ (fileAt s f).b.length ≤ 22) := by
    cases o with
    | none => exact ⟨[], ha, .inl rfl⟩
    | some q =>
      obtain ⟨hq, f, h1, h2⟩ := ha
      refine ⟨_, h1, .inr ⟨f, rfl, (List.getElem?_eq_some_iff.1 h2).1, ?_⟩⟩
      unfold fileAt; rw [List.getD_eq_getElem?_getD, h2]
      exact (bytesT_len hq).2
  obtain ⟨room, files, dirs, burn, gone⟩ := s
  simp only at hd hg hb hl hroom
  subst hd hg hb
  have c0 : ∀ (fs : List Fl) (ds : List Dir) (e : Int), can ⟨room, fs, ds, -1, false⟩ e = (⟨room, fs, ds, -1, false⟩, e) := fun fs ds e => can_freeT rfl rfl e
  have fnd : findD l nd = none := by
    rcases hl with rfl | ⟨f, rfl, _⟩
    · rfl
    · simp [findD, nfd]
  have hlen : l.length ≤ 1 := by rcases hl with rfl | ⟨f, rfl, _⟩ <;> simp
  have now1 : ∀ fs : List Fl, (⟨room, fs, [l], -1, false⟩ : Dk).now = l := fun _ => rfl
  have e1 : step1 ⟨room, files, [l], -1, false⟩ = (⟨room, files, [l], -1, false⟩, 0) := by
    unfold step1 Dk.find; rw [now1, fnd]; simp
  have ce : createE ⟨room, files, [l], -1, false⟩ nd = 0 := by
    unfold createE Dk.find
    rw [named_d, now1, fnd]
    simp; omega
  have e2 : create ⟨room, files, [l], -1, false⟩ nd = (⟨room, files ++ [⟨[], 0⟩], [l, withD l (nd, files.length)], -1, false⟩, 0) := by
    unfold create; rw [ce]; simp only [c0, if_true, now1]; rfl
  have hwd : findD (withD l (nd, files.length)) nd = some files.length := by
    rcases hl with rfl | ⟨f, rfl, _⟩
    · simp [withD, findD]
    · simp only [withD]; split <;> simp [findD, nfd]
  have now2 : ∀ fs : List Fl, (⟨room, fs, [l, withD l (nd, files.length)], -1, false⟩ : Dk).now = withD l (nd, files.length) := fun _ => rfl
  have f2 : ∀ fs : List Fl, Dk.find ⟨room, fs, [l, withD l (nd, files.length)], -1, false⟩ nd = some files.length := fun fs => by unfold Dk.find; rw [now2, hwd]
  have hh : held ⟨room, files ++ [⟨[], 0⟩], [l, withD l (nd, files.length)], -1, false⟩ ≤ 22 := by
    rcases hl with rfl | ⟨f, rfl, hf, hfl⟩
    · refine held_one_le (f := files.length) fun g hg => ?_
      rw [isHeld_iff] at hg
      obtain ⟨k, hk, x, hx, rfl⟩ := hg
      simp [withD] at hk
      rcases hk with rfl | rfl
      · simp at hx
      · simp at hx; subst hx; simp [fileAt]
    · refine held_one_le (f := f) fun g hg => ?_
      rw [isHeld_iff] at hg
      obtain ⟨k, hk, x, hx, rfl⟩ := hg
      have key : x = (nf, f) ∨ x = (nd, files.length) := by
        simp only [List.mem_cons, List.not_mem_nil, or_false] at hk
        rcases hk with rfl | rfl
        · simp at hx; exact .inl hx
        · rcases mem_withD.1 hx with h | h
          · exact .inr h
          · simp at h; exact .inl h
      rcases key with rfl | rfl
      · rw [if_pos rfl]
        unfold fileAt at hfl ⊢
        simp only at hfl ⊢
        rw [List.getD_eq_getElem?_getD, List.getElem?_append_left hf, ← List.getD_eq_getElem?_getD]
        exact hfl
      · simp only
        unfold fileAt
        simp
  have ae : appendE ⟨room, files ++ [⟨[], 0⟩], [l, withD l (nd, files.length)], -1, false⟩ nd (bytesT r).length = 0 := by
    unfold appendE; rw [f2]; simp only [Option.isSome_some, if_true]; rw [if_neg (by omega)]
  have e3 : append ⟨room, files ++ [⟨[], 0⟩], [l, withD l (nd, files.length)], -1, false⟩ nd (bytesT r) = (⟨room, files ++ [⟨bytesT r, 0⟩], [l, withD l (nd, files.length)], -1, false⟩, 0) := by
    unfold append; rw [ae]; simp only [c0, if_true, f2, Option.getD_some]
    simp [setF, fileAt]
  have e4 : sync ⟨room, files ++ [⟨bytesT r, 0⟩], [l, withD l (nd, files.length)], -1, false⟩ nd = (⟨room, files ++ [⟨bytesT r, (bytesT r).length⟩], [l, withD l (nd, files.length)], -1, false⟩, 0) := by
    unfold sync there; rw [f2]; simp only [c0, Option.isSome_some, if_true, Option.getD_some]
    simp [setF, fileAt]
  have hw : withD (without (without (withD l (nd, files.length)) nd) nf) (nf, files.length) = [(nf, files.length)] := by
    have : without (without (withD l (nd, files.length)) nd) nf = [] := by
      refine List.eq_nil_iff_forall_not_mem.2 fun x hx => ?_
      obtain ⟨hx1, hx2⟩ := mem_without.1 hx
      obtain ⟨hx3, hx4⟩ := mem_without.1 hx1
      rcases mem_withD.1 hx3 with rfl | hx5
      · exact hx4 rfl
      · rcases hl with rfl | ⟨f, rfl, _⟩
        · simp at hx5
        · simp at hx5; subst hx5; exact hx2 rfl
    rw [this]; rfl
  have e5 : rename ⟨room, files ++ [⟨bytesT r, (bytesT r).length⟩], [l, withD l (nd, files.length)], -1, false⟩ nd nf = (⟨room, files ++ [⟨bytesT r, (bytesT r).length⟩], [l, withD l (nd, files.length)] ++ [[(nf, files.length)]], -1, false⟩, 0) := by
    unfold rename renameE; rw [f2, named_f]; simp only [c0, Option.isSome_some, if_true, Option.getD_some, now2, hw]
  have e6 : dirsync ⟨room, files ++ [⟨bytesT r, (bytesT r).length⟩], [l, withD l (nd, files.length)] ++ [[(nf, files.length)]], -1, false⟩ = (⟨room, files ++ [⟨bytesT r, (bytesT r).length⟩], [[(nf, files.length)]], -1, false⟩, 0) := by
    unfold dirsync; simp only [c0, if_true]; rfl
  have hW : writeT ⟨room, files, [l], -1, false⟩ r = (⟨room, files ++ [⟨bytesT r, (bytesT r).length⟩], [[(nf, files.length)]], -1, false⟩, 0) := by
    unfold writeT
    rw [rightT_iff.2 hr, e1]
    simp only [thenT, if_true, e2, e3, e4, e5, e6]
    rfl
  have i6 := inv_dirsync (inv_rename (inv_sync (inv_append (inv_create inv nd) nd (bytesT r)) nd) nd nf)
  rw [e2] at i6
  simp only at i6
  rw [e3] at i6
  simp only at i6
  rw [e4] at i6
  simp only at i6
  rw [e5] at i6
  simp only at i6
  rw [e6] at i6
  rw [hW]
  exact ⟨rfl, ⟨i6, rfl, rfl, hr, files.length, rfl, by simp⟩, rfl⟩
theorem write_no {s : Dk} {r : Rt} (h : rightT r = false) : writeT s r = (s, 1) := by unfold writeT; rw [if_pos h]
theorem st_empty {room : Int} (h : 16 ≤ room ∧ room ≤ 1048576) : StT (empty room) none := ⟨inv_empty h, rfl, rfl, rfl⟩
end Go.Root
end

section
namespace Go.Proofs.YtofllgbdphakiaaGreat
open Go.Den Go.Disk
theorem newB_step (xs : List UInt8) {E n : Nat} {zero : Array Value} {ps : List (Nat × Nat × Value)} {w : World} {k : Value → World → Prop} (hn : n = xs.length) (hp : ps = partsAt 1 (fun x : UInt8 => Value.int .u8 (x.toNat : Int)) 0 xs)
    (h : ∀ t w1, Slc encB 1 w1 t xs [hsz w] → Fr [] w w1 → hsz w1 = hsz w + 1 → k t w1) : BND (newslice E zero 1 n ps w) fun p => NEW p k := newparts_step encB_len (fun _ => rfl) xs hn hp h
theorem At.re2 {w0 w w' : World} {F0 : List Nat} {P : HP} (h : At w0 F0 P w) (f : Fr [] w w') : ∃ A, At w' A P w' ∧ (∀ b ∈ A, b < hsz w) ∧ ∀ w2 P', At w' A P' w2 → At w0 F0 P' w2 := by
  obtain ⟨F, h1, h2, h3⟩ := h
  have f' : Fr F0 w0 w' := h3.trans' f.nil
  have gr := f'.grow
  refine ⟨F, At.start (P.fr h1 f (by simp)), P.lt h1, fun w2 P' ⟨F', p1, p2, p3⟩ => ⟨F', p1, fun b hb => ?_, f'.trans p3 h2⟩⟩
  rcases p2 b hb with hb | hb
  · exact h2 b hb
  · exact .inr (by omega)
theorem mkB (n : Nat) (hn : n ≤ 1000000) (E : Nat) (w : World) {k : Value → World → Prop} (h : ∀ t w1, Slc encB 1 w1 t (List.replicate n 0) [hsz w] → Fr [] w w1 → hsz w1 = hsz w + 1 → k t w1) : BND (mkslice E 1 1 (.int .u8 0) w (.int .i64 (n : Int)) (.int .i64 (n : Int))) fun p => NEW p k := by
  have hc : ((Array.range ((n : Int).toNat * 1)).map fun i => (Value.cells (.int .u8 0))[i % (Value.cells (.int .u8 0)).size]!) = (List.replicate n (Value.int .u8 0)).toArray := by
    apply Array.ext
    · simp
    · intro i h1 h2
      simp [Value.cells, Nat.mod_one]
  have e : mkslice E 1 1 (.int .u8 0) w (.int .i64 (n : Int)) (.int .i64 (n : Int)) = some (.slice (some ⟨hsz w, 0, none⟩) n n, w.alloc (.cells (List.replicate n (Value.int .u8 0)).toArray E)) := by
    show (if 0 ≤ (n : Int) ∧ (n : Int) ≤ (n : Int) ∧ (n : Int) * ((1 : Nat) : Int) ≤ 281474976710656 ∧ (n : Int) ≤ 9223372036854775807 then
      some (Value.slice (some ⟨w.heap.size, 0, none⟩) (n : Int).toNat (n : Int).toNat, w.alloc (.cells ((Array.range ((n : Int).toNat * 1)).map fun i => (Value.cells (.int .u8 0))[i % (Value.cells (.int .u8 0)).size]!) E)) else none) = _
    rw [if_pos (by omega), hc]; rfl
  refine BND_step e <| (NEW_pair _ _ _).2 ?_
  refine h _ _ (.inr ⟨hsz w, n, _, E, by simp, blk_alloc_new _ _, by simp, by simp, rfl, fun i x hx j hj => ?_⟩) (Fr.alloc _ _ _) (by simp)
  obtain rfl : j = 0 := by omega
  have hi := (List.getElem?_eq_some_iff.1 hx).1
  have hi' : i < n := by simpa using hi
  rw [List.getElem?_replicate, if_pos hi'] at hx
  cases hx
  rw [List.getElem?_toArray, Nat.mul_one, Nat.add_zero, List.getElem?_replicate, if_pos hi']
  rfl
theorem loadn_all {w : World} {b n : Nat} {c : List Value} {T : Nat} {f : Nat × Nat} (h : blk w b = some (.cells c.toArray T f)) (hn : c.length = n) : loadn n w (.pointer (some ⟨b, 0, none⟩)) = some (.agg c.toArray) := by
  subst hn
  rw [loadn_blk h (by simp)]
  simp
theorem At.re3 {w0 w w' : World} {F0 : List Nat} {P : HP} (h : At w0 F0 P w) (f : Fr [] w w') : ∃ A, At w' A P w' ∧ (∀ b ∈ A, b < hsz w) ∧ (∀ b ∈ A, b ∈ F0 ∨ hsz w0 ≤ b) ∧ ∀ w2 P', At w' A P' w2 → At w0 F0 P' w2 := by
  obtain ⟨F, h1, h2, h3⟩ := h
  have f' : Fr F0 w0 w' := h3.trans' f.nil
  have gr := f'.grow
  refine ⟨F, At.start (P.fr h1 f (by simp)), P.lt h1, h2, fun w2 P' ⟨F', p1, p2, p3⟩ => ⟨F', p1, fun b hb => ?_, f'.trans p3 h2⟩⟩
  rcases p2 b hb with hb | hb
  · exact h2 b hb
  · exact .inr (by omega)
theorem ptr_nil {d : Nat} : binv .ptr .eql (ptrTo d) (.pointer none) = some (.bool false) := rfl
theorem At.zoom3 {w0 w w' : World} {F0 : List Nat} {ps : List HP} (h : At w0 F0 (stars ps) w) (f : Fr [] w w') (i : Nat) {P : HP} (hi : ps[i]? = some P) :
    ∃ A, At w' A P w' ∧ (∀ b ∈ A, b < hsz w) ∧ (∀ b ∈ A, b ∈ F0 ∨ hsz w0 ≤ b) ∧ ∀ w2 P', At w' A P' w2 → At w0 F0 (stars (ps.set i P')) w2 := by
  obtain ⟨F, h1, h2, h3⟩ := h
  have hlt := (stars ps).lt h1
  have h1' := (stars ps).fr h1 f (by simp)
  have h3' : Fr F0 w0 w' := h3.trans' f.nil
  obtain ⟨A, h4, h5, h6⟩ := stars_upd ps i P hi h1'
  have gr := h3'.grow
  refine ⟨A, At.start h4, fun b hb => hlt b (h5 b hb), fun b hb => h2 b (h5 b hb), fun w2 P' ⟨F', p1, p2, p3⟩ => ?_⟩
  obtain ⟨F2, h7, h8⟩ := h6 w2 F' P' p1 p3 p2
  refine ⟨F2, h7, fun b hb => ?_, h3'.trans p3 fun b hb => h2 b (h5 b hb)⟩
  rcases h8 b hb with hx | hx
  · exact h2 b hx
  · exact .inr (by omega)
set_option linter.unusedSimpArgs false
set_option linter.unusedVariables false
set_option maxRecDepth 20000
set_option maxHeartbeats 4000000
attribute [local congr] BND_cg COND_cg GEF_cg
attribute [local irreducible] capl slicea load1 loadn iaddr iaddra faddr storev newslice binv lookv mupd mdel mlenv mentry mestore slicev slicev3 slices indexs indexav textv rangev nexts clearv shiftv eqaggv convi buildv pickv lens lenl unv nilchk extractv partn JOIN
section
variable {w0 w w' : World} {F0 : List Nat} {d : Nat} {s : Dk} {R : Value → World → Prop}
theorem app_step (h : At w0 F0 (diskHP d s) w) (f : Fr [] w w') (hw : s.Wf) (hn : s.dirs.length < 1000000000) (hn2 : s.files.length < 1000000000) (n : ByteArray) {u : Value} {bs : List UInt8} {G : List Nat} (su : Slc encB 1 w' u bs G) (hG : ∀ b ∈ G, hsz w ≤ b) (hbs : bs.length < 1000000000)
    (hR : ∀ w2, At w0 F0 (diskHP d (append s n bs).1) w2 → R (.int .i64 (append s n bs).2) w2) : CALL PR F_disk_Disk_Append [ptrTo d, .string n, u] w' R := by
  obtain ⟨A, ha, hA, back⟩ := At.re2 h f
  exact dk_Append ha hw hn hn2 n hbs su.len (fun w2 f2 => (su.fr f2 fun b hb hb' => by have := hG b hb; have := hA b hb'; omega).loads encB_len) fun w2 h2 => hR w2 (back w2 _ h2)
end
end Go.Proofs.YtofllgbdphakiaaGreat
end

section
namespace Go.Proofs.YtofllgbdphakiaaGreat
open Go.Den Go.Disk Go.Vint Go.Crc Go.Frame Go.Rec Go.Root
def encT (r : Rt) : List Value := [.int .u64 (r.gen : Int), .int .i64 r.lanes, .int .i64 r.pay, .int .i64 r.del, .int .i64 r.seg]
theorem encT_len (r : Rt) : (encT r).length = 5 := rfl
theorem encT_one (r : Rt) : ∀ u ∈ encT r, u.oneCell' = true := by intro u hu; simp [encT] at hu; rcases hu with rfl | rfl | rfl | rfl | rfl <;> rfl
structure Fn where
  f : Nat
  a : List Value
  b : List Value
def Fn.v (x : Fn) : Value := .func (.func x.f) x.a.toArray x.b.toArray
def encFn (x : Fn) : List Value := [x.v]
theorem encFn_len (x : Fn) : (encFn x).length = 1 := rfl
theorem conv_i64u {n : Int} (h : 0 ≤ n ∧ n < 9223372036854775808) : convi .u64 (.int .i64 n) = some (.int .u64 ((n.toNat : Nat) : Int)) := by
  obtain ⟨k, rfl⟩ : ∃ k : Nat, n = (k : Int) := ⟨n.toNat, by omega⟩
  simpa using convu64 (k := .i64) (x := k) (by omega)
set_option linter.unusedSimpArgs false
set_option linter.unusedVariables false
set_option maxRecDepth 20000
set_option maxHeartbeats 4000000
attribute [local congr] BND_cg COND_cg GEF_cg
attribute [local irreducible] capl slicea load1 loadn iaddr iaddra faddr storev newslice binv lookv mupd mdel mlenv mentry mestore slicev slicev3 slices indexs indexav textv rangev nexts clearv shiftv eqaggv convi buildv pickv lens lenl unv nilchk extractv partn JOIN
section
variable {w0 w : World} {F0 : List Nat} {d : Nat} {s : Dk} {R : Value → World → Prop}
theorem ix_Right (a b c : Int) (hR : ∀ w', Fr [] w w' → R (.bool (cfgB a b c)) w') : CALL PR F_index_Right [.agg [.int .i64 a, .int .i64 b, .int .i64 c].toArray] w R := by
  refine C_index_Right ?_
  unfold M_index_Right
  refine NEW_intro fun w1 b1 f1 z1 => ?_
  replace b1 : blk w1 (hsz w) = some (.cells [Value.int .i64 a, .int .i64 b, .int .i64 c].toArray 33 (0, 0)) := b1
  have hR' := hR w1 f1
  unfold cfgB at hR'
  by_cases h1 : 1 ≤ a
  · by_cases h2 : a ≤ 8
    · by_cases h3 : 0 ≤ b
      · by_cases h4 : b ≤ 64
        · by_cases h5 : 1 ≤ c
          · (repeat refine gg ?_)
            simpa [h1, h2, h3, h4, h5] using hR'
          · (repeat refine gg ?_)
            simpa [h1, h2, h3, h4, h5] using hR'
        · (repeat refine gg ?_)
          simpa [h1, h2, h3, h4] using hR'
      · (repeat refine gg ?_)
        simpa [h1, h2, h3] using hR'
    · (repeat refine gg ?_)
      simpa [h1, h2] using hR'
  · (repeat refine gg ?_)
    simpa [h1] using hR'
theorem rt_Right (r : Rt) (hR : ∀ w', Fr [] w w' → R (.bool (rightT r)) w') : CALL PR F_root_Right [.agg (encT r).toArray] w R := by
  refine C_root_Right ?_
  unfold M_root_Right
  refine NEW_intro fun w1 b1 f1 z1 => ?_
  replace b1 : blk w1 (hsz w) = some (.cells (encT r).toArray 35 (0, 0)) := b1
  have el : loadn 3 w1 (.pointer (some ⟨hsz w, 0 + 1, none⟩)) = some (.agg [Value.int .i64 r.lanes, .int .i64 r.pay, .int .i64 r.del].toArray) := by
    rw [loadn_blk b1 (by simp [encT])]; rfl
  (repeat refine gg ?_)
  refine ix_Right _ _ _ fun w2 f2 => ?_
  have b2 := f2.some (by simp) b1
  have hR' := hR w2 (f1.trans' f2)
  unfold rightT at hR'
  cases hc : cfgB r.lanes r.pay r.del with
  | false =>
    rw [hc] at hR'
    (repeat refine gg ?_)
    simpa using hR'
  | true =>
    rw [hc] at hR'
    by_cases h1 : (1 : Int) ≤ (r.gen : Int)
    · have p1 : decide (1 ≤ r.gen) = true := decide_eq_true (by omega)
      obtain ⟨L, hL⟩ : ∃ L : Int, L = 10000000000 := ⟨_, rfl⟩
      rw [← hL]
      by_cases h2 : (r.gen : Int) < L
      · have p2 : decide (r.gen < 10000000000) = true := decide_eq_true (by omega)
        by_cases h3 : 64 ≤ r.seg
        · have p3 : decide (64 ≤ r.seg) = true := decide_eq_true h3
          rw [p1, p2, p3] at hR'
          (repeat refine gg ?_)
          simpa only [Bool.true_and, Bool.and_true] using hR'
        · have p3 : decide (64 ≤ r.seg) = false := decide_eq_false h3
          rw [p1, p2, p3] at hR'
          (repeat refine gg ?_)
          simpa only [Bool.true_and, Bool.and_true, Bool.false_and, Bool.and_false] using hR'
      · have p2 : decide (r.gen < 10000000000) = false := decide_eq_false (by omega)
        rw [p1, p2] at hR'
        (repeat refine gg ?_)
        simpa only [Bool.true_and, Bool.and_true, Bool.false_and, Bool.and_false] using hR'
    · have p1 : decide (1 ≤ r.gen) = false := decide_eq_false (by omega)
      rw [p1] at hR'
      (repeat refine gg ?_)
      simpa only [Bool.true_and, Bool.and_true, Bool.false_and, Bool.and_false] using hR'
theorem sl_Index {sv : Value} {xs : List ByteArray} (n : ByteArray) (hs : Arr encN 1 w sv xs) (hn : xs.length < 1000000) (hR : ∀ k : Int, (0 ≤ k ↔ xs.any (fun x => decide (x = n)) = true) → R (.int .i64 k) w) : CALL PR F_slices_Index_string_string [sv, .string n] w R := by
  refine C_slices_Index_string_string ?_
  unfold M_slices_Index_string_string
  (repeat (first | refine BND_step hs.len ?_ | refine gg ?_))
  refine loop_up 0 xs.length (fun i w' => w' = w ∧ ∀ x ∈ xs.take i, x ≠ n) ⟨rfl, by simp⟩ (by omega) ?_
  rintro i w1 - hi ⟨rfl, e⟩ J m hJ
  by_cases hlt : i < xs.length
  · have hx := List.getElem?_eq_getElem hlt
    have hm := List.getElem_mem hlt
    generalize xs[i] = x at hx hm
    obtain ⟨b, o, ia, _, _, l1⟩ := hs.spot hx rfl .i64
    (repeat (first | (apply BND_step; exact (l1 (w' := w1) rfl (j := 0) rfl)) | refine gg ?_))
    by_cases hn2 : n = x
    · (repeat refine gg ?_)
      exact hR _ ⟨fun _ => List.any_eq_true.2 ⟨x, hm, decide_eq_true hn2.symm⟩, fun _ => by omega⟩
    · (repeat refine gg ?_)
      refine hJ _ hlt ⟨rfl, fun y hy => ?_⟩
      rw [List.take_add_one, hx] at hy
      rcases List.mem_append.1 hy with hy | hy
      · exact e y hy
      · simp at hy; subst hy; exact fun h => hn2 h.symm
  · (repeat refine gg ?_)
    rw [List.take_of_length_le (by omega)] at e
    exact hR _ ⟨fun h => by omega, fun h => by obtain ⟨x, hx, hd⟩ := List.any_eq_true.1 h; exact absurd (of_decide_eq_true hd) (e x hx)⟩
theorem sl_Contains {sv : Value} {xs : List ByteArray} (n : ByteArray) (hs : Arr encN 1 w sv xs) (hn : xs.length < 1000000) (hR : R (.bool (xs.any fun x => decide (x = n))) w) : CALL PR F_slices_Contains_string_string [sv, .string n] w R := by
  refine C_slices_Contains_string_string ?_
  unfold M_slices_Contains_string_string
  refine sl_Index n hs hn fun k hk => ?_
  (repeat refine gg ?_)
  have e : decide (0 ≤ k) = xs.any (fun x => decide (x = n)) := by rw [Bool.eq_iff_iff, decide_eq_true_eq]; exact hk
  rw [e]
  exact hR
/-- acts one behind the other, up to the first error. -/
theorem rt_each {lv : Value} {fs : List Fn} (P : Nat → World → Prop) (Q : Int → World → Prop) (hl : ∀ i w', P i w' → ∃ G, Slc encFn 1 w' lv fs G) (hn : fs.length < 1000) (h0 : P 0 w)
    (hs : ∀ i f w', fs[i]? = some f → P i w' → ∀ K : Value → World → Prop, (∀ w2 e, e ≠ 0 → Q e w2 → K (.int .i64 e) w2) → (∀ w2, P (i + 1) w2 → K (.int .i64 0) w2) → CALLV PR f.v [] w' K)
    (hR0 : ∀ w' e, Q e w' → R (.int .i64 e) w') (hR : ∀ w', P fs.length w' → R (.int .i64 0) w') : CALL PR F_root_each [lv] w R := by
  refine C_root_each ?_
  unfold M_root_each
  obtain ⟨G0, s0⟩ := hl 0 w h0
  (repeat (first | refine BND_step s0.len ?_ | refine gg ?_))
  refine loop_up 0 fs.length (fun i w' => P i w') h0 (by omega) ?_
  rintro i w1 - hi hP J m hJ
  by_cases hlt : i < fs.length
  · have hx := List.getElem?_eq_getElem hlt
    generalize fs[i] = f at hx
    obtain ⟨G, s⟩ := hl i w1 hP
    obtain ⟨b, o, ia, _, _, l1⟩ := s.arr.spot hx rfl .i64
    (repeat (first | (apply BND_step; exact (l1 (w' := w1) rfl (j := 0) rfl)) | refine gg ?_))
    refine hs i f w1 hx hP _ (fun w2 e he hq => ?_) fun w2 hp => ?_
    · (repeat refine gg ?_)
      exact hR0 _ _ hq
    · (repeat refine gg ?_)
      exact hJ _ hlt hp
  · obtain rfl : i = fs.length := by omega
    (repeat refine gg ?_)
    exact hR _ hP
theorem mem_names {n : ByteArray} (hr : riseD s.now) : (s.now.map (·.1)).any (fun x => decide (x = n)) = (s.find n).isSome := by
  unfold Dk.find
  rw [Bool.eq_iff_iff, List.any_eq_true]
  constructor
  · rintro ⟨y, h, hd⟩
    obtain ⟨⟨k, f⟩, hx, rfl⟩ := List.mem_map.1 h
    obtain rfl := of_decide_eq_true hd
    rw [findD_of_mem hr hx]; rfl
  · intro h
    cases hq : findD s.now n with
    | none => rw [hq] at h; simp at h
    | some f => exact ⟨n, List.mem_map.2 ⟨(n, f), findD_mem hq, rfl⟩, decide_eq_true rfl⟩
theorem rt_Write (h : At w0 F0 (diskHP d s) w) (hi : Inv s) (hn : s.dirs.length < 100000000) (hn2 : s.files.length < 100000000) (r : Rt) (hR : ∀ w', At w0 F0 (diskHP d (writeT s r).1) w' → R (.int .i64 (writeT s r).2) w') : CALL PR F_root_Write [ptrTo d, .agg (encT r).toArray] w R := by
  refine C_root_Write ?_
  unfold M_root_Write
  refine NEW_intro fun w1 b1 f1 z1 => ?_
  replace b1 : blk w1 (hsz w) = some (.cells [ptrTo d].toArray 24 (0, 0)) := b1
  refine NEW_intro fun w2 b2 f2 z2 => ?_
  replace b2 : blk w2 (hsz w1) = some (.cells (encT r).toArray 35 (0, 0)) := b2
  have f02 := f1.trans' f2
  (repeat (first | refine BND_step (loadn_all' b2 (encT_len r)) ?_ | refine gg ?_))
  refine rt_Right r fun w3 f3 => ?_
  cases hr : rightT r with
  | false =>
    simp only [write_no hr] at hR
    (repeat refine gg ?_)
    exact hR w3 (h.fr0 (f02.trans' f3))
  | true =>
    have hT := rightT_iff.1 hr
    obtain ⟨q1, q2, q3, q4, q5⟩ := hT
    have b23 := f3.some (by simp) b2
    have el : loadn 3 w3 (.pointer (some ⟨hsz w1, 0 + 1, none⟩)) = some (.agg [Value.int .i64 r.lanes, .int .i64 r.pay, .int .i64 r.del].toArray) := by
      rw [loadn_blk b23 (by simp [encT])]; rfl
    (repeat refine gg ?_)
    refine box_step (n := 3) (zs := [_, _, _]) (vs := [Value.int .i64 r.lanes, .int .i64 r.pay, .int .i64 r.del]) rfl rfl (by intro u hu; simp at hu; rcases hu with rfl | rfl | rfl <;> rfl) (by simp) fun w5 b5 f5 z5 => ?_
    have b25 := f5.some (by simp) b23
    (repeat (first | refine BND_step (conv_i64u ⟨by omega, by omega⟩) ?_ | refine gg ?_))
    refine newparts_step encU_len (val := fun x : Nat => Value.int .u64 (x : Int)) (fun _ => rfl) (numsT r) rfl rfl fun t w6 s6 f6 z6 => ?_
    obtain ⟨x6, rfl⟩ := slc_sv s6
    (repeat (first | refine gg ?_ | (apply BND_build ([.int .i64 12, x6.v, .string .empty]); exact rfl)))
    refine rec_Bytes (nv := x6) (ns := numsT r) 12 .empty s6.arr (nums_small (rightT_iff.1 hr)) (fun w7 h7 _ => ?_) fun w7 v7 G7 _ s7 g7 f7 => ?_
    · exfalso
      have := right12 (numsT r) rfl
      have e : (ByteArray.empty).size = ([] : List UInt8).length := rfl
      rw [e, this] at h7
      cases h7
    replace s7 : Slc encB 1 w7 v7 (bytesT r) G7 := s7
    obtain ⟨x7, rfl⟩ := slc_sv s7
    (repeat refine gg ?_)
    refine NEW_intro fun w8 b8 f8 z8 => ?_
    replace b8 : blk w8 (hsz w7) = some (.cells [Value.slice none 0 0].toArray 37 (0, 0)) := b8
    refine fstore_step b8 (sv_one x7) (by simp) fun w9 b9 f9 _ => ?_
    replace b9 : blk w9 (hsz w7) = some (.cells [x7.v].toArray 37 (0, 0)) := b9
    have f37 := (f3.trans' f5).trans' (f6.trans' f7)
    have f08 := (f02.trans' f37).trans' f8
    have gr2 := f02.grow
    have gr37 := f37.grow
    have f09 : Fr [] w w9 := f08.trans f9 fun b hb => .inr (by simp at hb; omega)
    have b19 : blk w9 (hsz w) = some (.cells [ptrTo d].toArray 24 (0, 0)) := f9.some (by have := blk_lt b1; simp; omega) (((f2.trans' f37).trans' f8).some (by simp) b1)
    have s79 := (s7.fr f8 (by simp)).fr f9 (fun b hb hb' => by have := s7.lt b hb; simp at hb'; omega)
    (repeat refine gg ?_)
    refine newparts_step encFn_len (val := Fn.v) (fun _ => rfl) [⟨F_root_Write_1, [], [.pointer (some ⟨hsz w, 0, none⟩)]⟩, ⟨F_root_Write_2, [], [.pointer (some ⟨hsz w, 0, none⟩)]⟩, ⟨F_root_Write_3, [], [.pointer (some ⟨hsz w, 0, none⟩), .pointer (some ⟨hsz w7, 0, none⟩)]⟩,
      ⟨F_root_Write_4, [], [.pointer (some ⟨hsz w, 0, none⟩)]⟩, ⟨F_root_Write_5, [], [.pointer (some ⟨hsz w, 0, none⟩)]⟩, ⟨F_disk_Disk_DirSync, [ptrTo d], []⟩] rfl rfl fun t w10 s10 f10 z10 => ?_
    obtain ⟨A, ha, hA, back⟩ := At.re2 h (f09.trans' f10)
    have hbl := (bytesT_len (rightT_iff.1 hr)).2
    have b110 := f10.some (by simp) b19
    have b910 := f10.some (by simp) b9
    have s710 := s79.fr f10 (by simp)
    have gr9 := f09.grow
    have gr3 := f3.grow
    have hA7 : hsz w ≤ hsz w7 := by omega
    have g710 : ∀ b ∈ G7, b ∉ A := fun b hb hb' => by have := g7 b hb; have := hA b hb'; have := (f02.trans' ((f3.trans' f5).trans' f6)).grow; omega
    -- what the six acts make of the disk
    have hW : writeT s r = thenT (thenT (thenT (thenT (thenT (step1 s) fun s => create s nd) fun s => append s nd (bytesT r)) fun s => sync s nd) fun s => rename s nd nf) dirsync := by
      unfold writeT; rw [if_neg (by rw [hr]; simp)]
    obtain ⟨m1a, m1b⟩ : (step1 s).1.dirs.length ≤ s.dirs.length + 1 ∧ (step1 s).1.files.length ≤ s.files.length + 1 := by
      unfold step1; split
      · have := more_act s ⟨5, 0, nd, nd, .slice none 0 0, .slice none 0 0⟩ [] [] hi.wf.ne
        simpa only [act, Int.reduceEq, if_false, if_true] using this
      · simp only; omega
    have i1 : Inv (step1 s).1 := by
      unfold step1; split
      · exact inv_delete hi _
      · exact hi
    generalize hx1 : step1 s = x1 at hW m1a m1b i1
    have i2 := inv_create i1 nd
    obtain ⟨m2a, m2b⟩ := more_act x1.1 ⟨0, 0, nd, nd, .slice none 0 0, .slice none 0 0⟩ [] [] i1.wf.ne
    simp only [act, if_true] at m2a m2b
    have hc2 : ∀ x : Dk × Int, thenT x1 (fun s => create s nd) = if x1.2 = 0 then create x1.1 nd else x1 := fun _ => rfl
    generalize hx2 : create x1.1 nd = x2 at i2 m2a m2b
    have i3 := inv_append i2 nd (bytesT r)
    obtain ⟨m3a, m3b⟩ := more_act x2.1 ⟨1, 0, nd, nd, .slice none 0 0, .slice none 0 0⟩ (bytesT r) [] i2.wf.ne
    simp only [act, Int.reduceEq, if_false, if_true] at m3a m3b
    generalize hx3 : append x2.1 nd (bytesT r) = x3 at i3 m3a m3b
    have i4 := inv_sync i3 nd
    obtain ⟨m4a, m4b⟩ := more_act x3.1 ⟨2, 0, nd, nd, .slice none 0 0, .slice none 0 0⟩ [] [] i3.wf.ne
    simp only [act, Int.reduceEq, if_false, if_true] at m4a m4b
    generalize hx4 : sync x3.1 nd = x4 at i4 m4a m4b
    have i5 := inv_rename i4 nd nf
    obtain ⟨m5a, m5b⟩ := more_act x4.1 ⟨4, 0, nd, nf, .slice none 0 0, .slice none 0 0⟩ [] [] i4.wf.ne
    simp only [act, Int.reduceEq, if_false, if_true] at m5a m5b
    generalize hx5 : rename x4.1 nd nf = x5 at i5 m5a m5b
    generalize hx6 : dirsync x5.1 = x6'
    have hfail : (x1.2 ≠ 0 → writeT s r = x1) ∧ (x1.2 = 0 → x2.2 ≠ 0 → writeT s r = x2) ∧ (x1.2 = 0 → x2.2 = 0 → x3.2 ≠ 0 → writeT s r = x3) ∧ (x1.2 = 0 → x2.2 = 0 → x3.2 = 0 → x4.2 ≠ 0 → writeT s r = x4) ∧
        (x1.2 = 0 → x2.2 = 0 → x3.2 = 0 → x4.2 = 0 → x5.2 ≠ 0 → writeT s r = x5) ∧ (x1.2 = 0 → x2.2 = 0 → x3.2 = 0 → x4.2 = 0 → x5.2 = 0 → writeT s r = x6') := by
      rw [hW]
      refine ⟨fun h1 => ?_, fun h1 h2 => ?_, fun h1 h2 h3 => ?_, fun h1 h2 h3 h4 => ?_, fun h1 h2 h3 h4 h5 => ?_, fun h1 h2 h3 h4 h5 => ?_⟩ <;> simp only [thenT, *, if_true, if_false]
    clear hW hc2
    obtain ⟨k1, k2, k3, k4, k5, k6⟩ := hfail
    refine rt_each (fs := [⟨F_root_Write_1, [], [.pointer (some ⟨hsz w, 0, none⟩)]⟩, ⟨F_root_Write_2, [], [.pointer (some ⟨hsz w, 0, none⟩)]⟩, ⟨F_root_Write_3, [], [.pointer (some ⟨hsz w, 0, none⟩), .pointer (some ⟨hsz w7, 0, none⟩)]⟩, ⟨F_root_Write_4, [], [.pointer (some ⟨hsz w, 0, none⟩)]⟩, ⟨F_root_Write_5, [], [.pointer (some ⟨hsz w, 0, none⟩)]⟩, ⟨F_disk_Disk_DirSync, [ptrTo d], []⟩]) (fun i w' => match i with
        | 0 => At w10 A (diskHP d s) w'
        | 1 => At w10 A (diskHP d x1.1) w' ∧ x1.2 = 0
        | 2 => At w10 A (diskHP d x2.1) w' ∧ x1.2 = 0 ∧ x2.2 = 0
        | 3 => At w10 A (diskHP d x3.1) w' ∧ x1.2 = 0 ∧ x2.2 = 0 ∧ x3.2 = 0
        | 4 => At w10 A (diskHP d x4.1) w' ∧ x1.2 = 0 ∧ x2.2 = 0 ∧ x3.2 = 0 ∧ x4.2 = 0
        | 5 => At w10 A (diskHP d x5.1) w' ∧ x1.2 = 0 ∧ x2.2 = 0 ∧ x3.2 = 0 ∧ x4.2 = 0 ∧ x5.2 = 0
        | _ => At w10 A (diskHP d (writeT s r).1) w' ∧ (writeT s r).2 = 0) (fun e w' => At w10 A (diskHP d (writeT s r).1) w' ∧ e = (writeT s r).2) (fun i w' hP => ?_) (by simp) ha ?_ (fun w' e hq => by rw [hq.2]; exact hR w' (back _ _ hq.1)) (fun w' hq => by have q := hR w' (back _ _ (show At w10 A (diskHP d (writeT s r).1) w' ∧ (writeT s r).2 = 0 from hq).1); rw [(show At w10 A (diskHP d (writeT s r).1) w' ∧ (writeT s r).2 = 0 from hq).2] at q; exact q)
    · have fr : Fr A w10 w' := by
        match i, hP with
        | 0, h => exact h.frame
        | 1, h => exact h.1.frame
        | 2, h => exact h.1.frame
        | 3, h => exact h.1.frame
        | 4, h => exact h.1.frame
        | 5, h => exact h.1.frame
        | _ + 6, h => exact h.1.frame
      exact ⟨_, s10.fr fr fun b hb hb' => by have := hA b hb'; simp at hb; omega⟩
    · intro i f w' hf hP K hK1 hK2
      have ld1 : ∀ {w'}, Fr A w10 w' → blk w' (hsz w) = some (.cells [ptrTo d].toArray 24 (0, 0)) := fun fr => fr.some (fun hb => by have := hA _ hb; omega) b110
      match i, hf, hP with
      | 0, hf, hP =>
        cases hf
        refine (CALLV_func (by kernel_rfl)).2 ?_
        show CALL PR F_root_Write_1 [.pointer (some ⟨hsz w, 0, none⟩)] w' K
        refine C_root_Write_1 ?_
        unfold M_root_Write_1
        have bb := ld1 hP.frame
        (repeat refine gg ?_)
        refine dk_Names hP hi.wf (by omega) fun w2 v2 G2 h2 s2 g2 f2 => ?_
        have h60 := hi.wf.many _ (now_mem hi.wf)
        refine sl_Contains nd s2.arr (by simp; omega) ?_
        rw [mem_names (hi.wf.rise _ (now_mem hi.wf))]
        have bb2 := ld1 h2.frame
        unfold step1 at hx1
        cases hfd : (s.find nd).isSome with
        | false =>
          rw [hfd] at hx1
          subst hx1
          (repeat refine gg ?_)
          exact hK2 _ ⟨h2, rfl⟩
        | true =>
          rw [hfd] at hx1
          simp only [if_true] at hx1
          (repeat refine gg ?_)
          refine dk_Delete h2 hi.wf (by omega) nd fun w3 h3 => ?_
          rw [hx1] at h3 ⊢
          (repeat refine gg ?_)
          by_cases he : x1.2 = 0
          · rw [he]; exact hK2 _ ⟨h3, he⟩
          · exact hK1 _ _ he ⟨by rw [k1 he]; exact h3, by rw [k1 he]⟩
      | 1, hf, ⟨hP, e1⟩ =>
        cases hf
        refine (CALLV_func (by kernel_rfl)).2 ?_
        show CALL PR F_root_Write_2 [.pointer (some ⟨hsz w, 0, none⟩)] w' K
        refine C_root_Write_2 ?_
        unfold M_root_Write_2
        have bb := ld1 hP.frame
        (repeat refine gg ?_)
        refine dk_Create hP i1.wf (by omega) nd fun w3 h3 => ?_
        rw [hx2] at h3 ⊢
        (repeat refine gg ?_)
        by_cases he : x2.2 = 0
        · rw [he]; exact hK2 _ ⟨h3, e1, he⟩
        · exact hK1 _ _ he ⟨by rw [k2 e1 he]; exact h3, by rw [k2 e1 he]⟩
      | 2, hf, ⟨hP, e1, e2⟩ =>
        cases hf
        refine (CALLV_func (by kernel_rfl)).2 ?_
        show CALL PR F_root_Write_3 [.pointer (some ⟨hsz w, 0, none⟩), .pointer (some ⟨hsz w7, 0, none⟩)] w' K
        refine C_root_Write_3 ?_
        unfold M_root_Write_3
        have bb := ld1 hP.frame
        have bb9 := hP.frame.some (fun hb => by have := hA _ hb; omega) b910
        (repeat refine gg ?_)
        refine dk_Append hP i2.wf (by omega) (by omega) nd (bs := bytesT r) (by omega) (s710.len) (fun w2 f2 => (s710.fr f2 g710).loads encB_len) fun w3 h3 => ?_
        rw [hx3] at h3 ⊢
        (repeat refine gg ?_)
        by_cases he : x3.2 = 0
        · rw [he]; exact hK2 _ ⟨h3, e1, e2, he⟩
        · exact hK1 _ _ he ⟨by rw [k3 e1 e2 he]; exact h3, by rw [k3 e1 e2 he]⟩
      | 3, hf, ⟨hP, e1, e2, e3⟩ =>
        cases hf
        refine (CALLV_func (by kernel_rfl)).2 ?_
        show CALL PR F_root_Write_4 [.pointer (some ⟨hsz w, 0, none⟩)] w' K
        refine C_root_Write_4 ?_
        unfold M_root_Write_4
        have bb := ld1 hP.frame
        (repeat refine gg ?_)
        refine dk_Sync hP i3.wf (by omega) nd fun w3 h3 => ?_
        rw [hx4] at h3 ⊢
        (repeat refine gg ?_)
        by_cases he : x4.2 = 0
        · rw [he]; exact hK2 _ ⟨h3, e1, e2, e3, he⟩
        · exact hK1 _ _ he ⟨by rw [k4 e1 e2 e3 he]; exact h3, by rw [k4 e1 e2 e3 he]⟩
      | 4, hf, ⟨hP, e1, e2, e3, e4⟩ =>
        cases hf
        refine (CALLV_func (by kernel_rfl)).2 ?_
        show CALL PR F_root_Write_5 [.pointer (some ⟨hsz w, 0, none⟩)] w' K
        refine C_root_Write_5 ?_
        unfold M_root_Write_5
        have bb := ld1 hP.frame
        (repeat refine gg ?_)
        refine dk_Rename hP i4.wf (by omega) nd nf fun w3 h3 => ?_
        rw [hx5] at h3 ⊢
        (repeat refine gg ?_)
        by_cases he : x5.2 = 0
        · rw [he]; exact hK2 _ ⟨h3, e1, e2, e3, e4, he⟩
        · exact hK1 _ _ he ⟨by rw [k5 e1 e2 e3 e4 he]; exact h3, by rw [k5 e1 e2 e3 e4 he]⟩
      | 5, hf, ⟨hP, e1, e2, e3, e4, e5⟩ =>
        cases hf
        refine (CALLV_func (by kernel_rfl)).2 ?_
        show CALL PR F_disk_Disk_DirSync [ptrTo d] w' K
        have kk := k6 e1 e2 e3 e4 e5
        refine dk_DirSync hP i5.wf (by omega) fun w3 h3 => ?_
        rw [hx6] at h3 ⊢
        by_cases he : x6'.2 = 0
        · rw [he]; exact hK2 _ ⟨by rw [kk]; exact h3, by rw [kk]; exact he⟩
        · exact hK1 _ _ he ⟨by rw [kk]; exact h3, by rw [kk]⟩
      | k + 6, hf, _ => exact absurd hf (by simp)
end
end Go.Proofs.YtofllgbdphakiaaGreat
end

section
namespace Go.Proofs.YtofllgbdphakiaaGreat
open Go.Den Go.Root
open Go.ChangeShapes Go.WideShapes Go.ChangeAt Go.RowKit
set_option linter.unusedVariables false
section
variable {H : Type} {enc : TypeId × Value → H} {w : World}
set_option maxRecDepth 100000 in
theorem cfg0_dec (fuel : Nat) (cs : List Value) (y : DataW H × List MemPlace) (h : DataW.trod enc Tryz.prog w 0 (fun _ => true) true fuel 33 cs = some y) : ∃ (a0 : Int) (a1 : Int) (a2 : Int), cs = [.int .i64 a0, .int .i64 a1, .int .i64 a2] ∧ (Lit.int .i64 a0).wf = true ∧ (Lit.int .i64 a1).wf = true ∧ (Lit.int .i64 a2).wf = true := by
  obtain ⟨y0, y1, y2, n, hy, hl, h0, h1, h2⟩ := trodS3 Tryz.underlying33 h
  have hc : Tryz.prog.cellsOf 33 = 3 := by kernel_rfl
  rw [hc] at hl
  have c0 : Tryz.prog.cellsOf 3 = 1 := by kernel_rfl
  match cs, hl with
  | [u0, u1, u2], _ =>
    simp only [c0, List.drop_zero, List.take_succ_cons, List.take_zero, List.drop_succ_cons] at h0 h1 h2
    obtain ⟨a0, e0, _, q0⟩ := DataW.trod_int Tryz.underlying3 h0
    obtain ⟨a1, e1, _, q1⟩ := DataW.trod_int Tryz.underlying3 h1
    obtain ⟨a2, e2, _, q2⟩ := DataW.trod_int Tryz.underlying3 h2
    simp only [List.cons.injEq, and_true] at e0 e1 e2
    subst e0
    subst e1
    subst e2
    exact ⟨a0, a1, a2, rfl, q0, q1, q2⟩
set_option maxRecDepth 100000 in
theorem root0_dec (fuel : Nat) (cs : List Value) (y : DataW H × List MemPlace) (h : DataW.trod enc Tryz.prog w 0 (fun _ => true) true fuel 35 cs = some y) : ∃ (a0 : Int) (a1 : Int) (a2 : Int) (a3 : Int) (a4 : Int), cs = [.int .u64 a0, .int .i64 a1, .int .i64 a2, .int .i64 a3, .int .i64 a4] ∧ (Lit.int .u64 a0).wf = true ∧ (Lit.int .i64 a1).wf = true ∧ (Lit.int .i64 a2).wf = true ∧ (Lit.int .i64 a3).wf = true ∧ (Lit.int .i64 a4).wf = true := by
  obtain ⟨y0, y1, y2, n, hy, hl, h0, h1, h2⟩ := trodS3 Tryz.underlying35 h
  have hc : Tryz.prog.cellsOf 35 = 5 := by kernel_rfl
  rw [hc] at hl
  have c0 : Tryz.prog.cellsOf 31 = 1 := by kernel_rfl
  have c1 : Tryz.prog.cellsOf 33 = 3 := by kernel_rfl
  have c2 : Tryz.prog.cellsOf 3 = 1 := by kernel_rfl
  match cs, hl with
  | [u0, u1, u2, u3, u4], _ =>
    simp only [c0, c1, c2, List.drop_zero, List.take_succ_cons, List.take_zero, List.drop_succ_cons] at h0 h1 h2
    obtain ⟨a0, e0, _, q0⟩ := DataW.trod_int Tryz.underlying31 h0
    obtain ⟨a1, a2, a3, e1, q1_0, q1_1, q1_2⟩ := cfg0_dec _ _ _ h1
    obtain ⟨a4, e2, _, q2⟩ := DataW.trod_int Tryz.underlying3 h2
    simp only [List.cons.injEq, and_true] at e0 e1 e2
    subst e0
    obtain ⟨rfl, rfl, rfl⟩ := e1
    subst e2
    exact ⟨a0, a1, a2, a3, a4, rfl, q0, q1_0, q1_1, q1_2, q2⟩
theorem u64_nat {x : Int} (h : (Lit.int .u64 x).wf = true) : ∃ n : Nat, x = (n : Int) := by
  have := h
  simp [Lit.wf, IntKind.min, IntKind.max, IntKind.signed, IntKind.bits] at this
  exact ⟨x.toNat, by omega⟩
theorem root_dec (fuel : Nat) (cs : List Value) (y : DataW H × List MemPlace) (h : DataW.trod enc Tryz.prog w 0 (fun _ => true) true fuel 35 cs = some y) : ∃ x : Rt, cs = encT x ∧ True := by
  obtain ⟨a0, a1, a2, a3, a4, e, q0, _⟩ := root0_dec _ _ _ h
  obtain ⟨n, rfl⟩ := u64_nat q0
  exact ⟨⟨n, a1, a2, a3, a4⟩, e, trivial⟩
end
end Go.Proofs.YtofllgbdphakiaaGreat
end

section
namespace Go.Proofs.YtofllgbdphakiaaGreat
open Go.Den Go.Disk Go.Root
structure Ac where
  dn : Int
  n : Int
  rt : Rt
  tv : Value
  nm : ByteArray
  bv : Value
def encAc (a : Ac) : List Value := [.int .i64 a.dn, .int .i64 a.n, .int .u64 (a.rt.gen : Int), .int .i64 a.rt.lanes, .int .i64 a.rt.pay, .int .i64 a.rt.del, .int .i64 a.rt.seg, a.tv, .string a.nm, a.bv]
theorem encAc_len (a : Ac) : (encAc a).length = 10 := rfl
abbrev FAc := Ac × List Int × List UInt8
structure ActsT (w : World) (lv : Value) (xs : List FAc) : Prop where
  arr : Arr encAc 10 w lv (xs.map (·.1))
  ins : ∀ x ∈ xs, Arr encI 1 w x.1.tv x.2.1 ∧ Arr encB 1 w x.1.bv x.2.2
  one : ∀ x ∈ xs, x.1.tv.oneCell' = true ∧ x.1.bv.oneCell' = true
  num : ∀ x ∈ xs, x.1.n ≤ 9223372036854775807 ∧ x.1.nm.size ≤ 9223372036854775807
theorem ActsT.fr {w w' : World} {lv : Value} {xs : List FAc} (h : ActsT w lv xs) (f : Fr [] w w') : ActsT w' lv xs :=
  ⟨h.arr.fr f (by simp), fun x hx => ⟨(h.ins x hx).1.fr f (by simp), (h.ins x hx).2.fr f (by simp)⟩, h.one, h.num⟩
theorem encAc_one {w : World} {lv : Value} {xs : List FAc} (h : ActsT w lv xs) {x : FAc} (hx : x ∈ xs) : ∀ u ∈ encAc x.1, u.oneCell' = true := by
  intro u hu
  obtain ⟨o1, o2⟩ := h.one x hx
  simp only [encAc, List.mem_cons, List.not_mem_nil, or_false] at hu
  rcases hu with rfl | rfl | rfl | rfl | rfl | rfl | rfl | rfl | rfl | rfl <;> first | rfl | assumption
theorem root_of {w : World} {b : Nat} {a : Ac} {T : Nat} (h : blk w b = some (.cells (encAc a).toArray T (0, 0))) : loadn 5 w (.pointer (some ⟨b, 0 + 2, none⟩)) = some (.agg (encT a.rt).toArray) := by
  rw [loadn_blk h (by simp [encAc])]; rfl
end Go.Proofs.YtofllgbdphakiaaGreat
end

section
namespace Go.Proofs.YtofllgbdphakiaaGreat
open Go.Den Go.Disk Go.Root
open Go.ChangeShapes Go.WideShapes Go.ChangeAt Go.RowKit
set_option linter.unusedVariables false
def AcOk (w : World) (a : Ac) : Prop := (∃ t b, Arr encI 1 w a.tv t ∧ Arr encB 1 w a.bv b) ∧ (a.tv.oneCell' = true ∧ a.bv.oneCell' = true) ∧ a.n ≤ 9223372036854775807 ∧ a.nm.size ≤ 9223372036854775807
theorem i64_le {x : Int} (h : (Lit.int .i64 x).wf = true) : x ≤ 9223372036854775807 := by
  have := h
  simp [Lit.wf, IntKind.min, IntKind.max, IntKind.signed, IntKind.bits] at this
  omega
theorem i64_both {x : Int} (h : (Lit.int .i64 x).wf = true) : -9223372036854775808 ≤ x ∧ x ≤ 9223372036854775807 := by
  have := h
  simp [Lit.wf, IntKind.min, IntKind.max, IntKind.signed, IntKind.bits] at this
  omega
theorem u8_of_wf {x : Int} (h : (Lit.int .u8 x).wf = true) : ∃ b : UInt8, x = (b.toNat : Int) := by
  have := h
  simp [Lit.wf, IntKind.min, IntKind.max, IntKind.signed, IntKind.bits] at this
  refine ⟨UInt8.ofNat x.toNat, ?_⟩
  rw [UInt8.toNat_ofNat']
  omega
theorem encI_len (x : Int) : (encI x).length = 1 := rfl
section
variable {H : Type} {enc : TypeId × Value → H} {w : World}
theorem u8_dec (fuel : Nat) (cs : List Value) (y : DataW H × List MemPlace) (h : DataW.trod enc Tryz.prog w 0 (fun _ => true) true fuel 5 cs = some y) : ∃ x : UInt8, cs = encB x ∧ True := by
  obtain ⟨a, e, _, q⟩ := DataW.trod_int Tryz.underlying5 h
  obtain ⟨b, rfl⟩ := u8_of_wf q
  exact ⟨b, e, trivial⟩
theorem int_dec (fuel : Nat) (cs : List Value) (y : DataW H × List MemPlace) (h : DataW.trod enc Tryz.prog w 0 (fun _ => true) true fuel 3 cs = some y) : ∃ x : Int, cs = encI x ∧ True := by
  obtain ⟨a, e, _, q⟩ := DataW.trod_int Tryz.underlying3 h
  exact ⟨a, e, trivial⟩
set_option maxRecDepth 100000 in
theorem cfg1_dec (fuel : Nat) (cs : List Value) (y : DataW H × List MemPlace) (h : DataW.trod enc Tryz.prog w 0 (fun _ => true) true fuel 33 cs = some y) : ∃ (a0 : Int) (a1 : Int) (a2 : Int), cs = [.int .i64 a0, .int .i64 a1, .int .i64 a2] ∧ (Lit.int .i64 a0).wf = true ∧ (Lit.int .i64 a1).wf = true ∧ (Lit.int .i64 a2).wf = true := by
  obtain ⟨y0, y1, y2, n, hy, hl, h0, h1, h2⟩ := trodS3 Tryz.underlying33 h
  have hc : Tryz.prog.cellsOf 33 = 3 := by kernel_rfl
  rw [hc] at hl
  have c0 : Tryz.prog.cellsOf 3 = 1 := by kernel_rfl
  match cs, hl with
  | [u0, u1, u2], _ =>
    simp only [c0, List.drop_zero, List.take_succ_cons, List.take_zero, List.drop_succ_cons] at h0 h1 h2
    obtain ⟨a0, e0, _, q0⟩ := DataW.trod_int Tryz.underlying3 h0
    obtain ⟨a1, e1, _, q1⟩ := DataW.trod_int Tryz.underlying3 h1
    obtain ⟨a2, e2, _, q2⟩ := DataW.trod_int Tryz.underlying3 h2
    simp only [List.cons.injEq, and_true] at e0 e1 e2
    subst e0
    subst e1
    subst e2
    exact ⟨a0, a1, a2, rfl, q0, q1, q2⟩
set_option maxRecDepth 100000 in
theorem root1_dec (fuel : Nat) (cs : List Value) (y : DataW H × List MemPlace) (h : DataW.trod enc Tryz.prog w 0 (fun _ => true) true fuel 35 cs = some y) : ∃ (a0 : Int) (a1 : Int) (a2 : Int) (a3 : Int) (a4 : Int), cs = [.int .u64 a0, .int .i64 a1, .int .i64 a2, .int .i64 a3, .int .i64 a4] ∧ (Lit.int .u64 a0).wf = true ∧ (Lit.int .i64 a1).wf = true ∧ (Lit.int .i64 a2).wf = true ∧ (Lit.int .i64 a3).wf = true ∧ (Lit.int .i64 a4).wf = true := by
  obtain ⟨y0, y1, y2, n, hy, hl, h0, h1, h2⟩ := trodS3 Tryz.underlying35 h
  have hc : Tryz.prog.cellsOf 35 = 5 := by kernel_rfl
  rw [hc] at hl
  have c0 : Tryz.prog.cellsOf 31 = 1 := by kernel_rfl
  have c1 : Tryz.prog.cellsOf 33 = 3 := by kernel_rfl
  have c2 : Tryz.prog.cellsOf 3 = 1 := by kernel_rfl
  match cs, hl with
  | [u0, u1, u2, u3, u4], _ =>
    simp only [c0, c1, c2, List.drop_zero, List.take_succ_cons, List.take_zero, List.drop_succ_cons] at h0 h1 h2
    obtain ⟨a0, e0, _, q0⟩ := DataW.trod_int Tryz.underlying31 h0
    obtain ⟨a1, a2, a3, e1, q1_0, q1_1, q1_2⟩ := cfg1_dec _ _ _ h1
    obtain ⟨a4, e2, _, q2⟩ := DataW.trod_int Tryz.underlying3 h2
    simp only [List.cons.injEq, and_true] at e0 e1 e2
    subst e0
    obtain ⟨rfl, rfl, rfl⟩ := e1
    subst e2
    exact ⟨a0, a1, a2, a3, a4, rfl, q0, q1_0, q1_1, q1_2, q2⟩
set_option maxRecDepth 100000 in
theorem ac0_dec (fuel : Nat) (cs : List Value) (y : DataW H × List MemPlace) (h : DataW.trod enc Tryz.prog w 0 (fun _ => true) true fuel 39 cs = some y) : ∃ (a0 : Int) (a1 : Int) (a2 : Int) (a3 : Int) (a4 : Int) (a5 : Int) (a6 : Int) (a7 : Value) (a8 : ByteArray) (a9 : Value), cs = [.int .i64 a0, .int .i64 a1, .int .u64 a2, .int .i64 a3, .int .i64 a4, .int .i64 a5, .int .i64 a6, a7, .string a8, a9] ∧ (Lit.int .i64 a0).wf = true ∧ (Lit.int .i64 a1).wf = true ∧ (Lit.int .u64 a2).wf = true ∧ (Lit.int .i64 a3).wf = true ∧ (Lit.int .i64 a4).wf = true ∧ (Lit.int .i64 a5).wf = true ∧ (Lit.int .i64 a6).wf = true ∧ (Capd a7 ∧ ∃ xs, Arr encI 1 w a7 xs ∧ (∀ x ∈ xs, (fun _ => True) x) ∧ ((y.1.weights Tryz.prog 39).all (· ≤ reachBytes) = true → xs.length * Tryz.prog.bytesOf 3 ≤ reachBytes)) ∧ a8.size ≤ 9223372036854775807 ∧ (Capd a9 ∧ ∃ xs, Arr encB 1 w a9 xs ∧ (∀ x ∈ xs, (fun _ => True) x) ∧ ((y.1.weights Tryz.prog 39).all (· ≤ reachBytes) = true → xs.length * Tryz.prog.bytesOf 5 ≤ reachBytes)) := by
  obtain ⟨y0, y1, y2, y3, y4, y5, n, hy, hl, h0, h1, h2, h3, h4, h5⟩ := trodS6 Tryz.underlying39 h
  have hc : Tryz.prog.cellsOf 39 = 10 := by kernel_rfl
  rw [hc] at hl
  have c0 : Tryz.prog.cellsOf 3 = 1 := by kernel_rfl
  have c1 : Tryz.prog.cellsOf 35 = 5 := by kernel_rfl
  have c2 : Tryz.prog.cellsOf 36 = 1 := by kernel_rfl
  have c3 : Tryz.prog.cellsOf 9 = 1 := by kernel_rfl
  have c4 : Tryz.prog.cellsOf 37 = 1 := by kernel_rfl
  match cs, hl with
  | [u0, u1, u2, u3, u4, u5, u6, u7, u8, u9], _ =>
    simp only [c0, c1, c2, c3, c4, List.drop_zero, List.take_succ_cons, List.take_zero, List.drop_succ_cons] at h0 h1 h2 h3 h4 h5
    have hWs : (y.1.weights Tryz.prog 39).all (· ≤ reachBytes) = true → (y0.1.weights Tryz.prog 3).all (· ≤ reachBytes) = true ∧ (y1.1.weights Tryz.prog 3).all (· ≤ reachBytes) = true ∧ (y2.1.weights Tryz.prog 35).all (· ≤ reachBytes) = true ∧ (y3.1.weights Tryz.prog 36).all (· ≤ reachBytes) = true ∧ (y4.1.weights Tryz.prog 9).all (· ≤ reachBytes) = true ∧ (y5.1.weights Tryz.prog 37).all (· ≤ reachBytes) = true := by
      intro hW
      rw [hy] at hW
      simpa only [DataW.weights, Tryz.underlying39, List.map_cons, List.map_nil, DataW.weightsEach, List.all_append, List.all_nil, Bool.and_eq_true, and_true] using hW
    obtain ⟨a0, e0, _, q0⟩ := DataW.trod_int Tryz.underlying3 h0
    obtain ⟨a1, e1, _, q1⟩ := DataW.trod_int Tryz.underlying3 h1
    obtain ⟨a2, a3, a4, a5, a6, e2, q2_0, q2_1, q2_2, q2_3, q2_4⟩ := root1_dec _ _ _ h2
    obtain ⟨a7, e3, q3⟩ := arr_of_cells (P := Tryz.prog) (encS := encI) (OK := (fun _ => True)) Tryz.underlying36 (show Tryz.prog.cellsOf 3 = 1 by kernel_rfl) (by omega) encI_len (int_dec) h3
    obtain ⟨a8, e4, _, q4⟩ := DataW.trod_string Tryz.underlying9 h4
    obtain ⟨a9, e5, q5⟩ := arr_of_cells (P := Tryz.prog) (encS := encB) (OK := (fun _ => True)) Tryz.underlying37 (show Tryz.prog.cellsOf 5 = 1 by kernel_rfl) (by omega) encB_len (u8_dec) h5
    simp only [List.cons.injEq, and_true] at e0 e1 e2 e3 e4 e5
    subst e0
    subst e1
    obtain ⟨rfl, rfl, rfl, rfl, rfl⟩ := e2
    subst e3
    subst e4
    subst e5
    exact ⟨a0, a1, a2, a3, a4, a5, a6, u7, a8, u9, rfl, q0, q1, q2_0, q2_1, q2_2, q2_3, q2_4, ⟨q3.1, q3.2.elim fun xs p => ⟨xs, p.1, p.2.1, fun hW => p.2.2 (hWs hW).2.2.2.1⟩⟩, q4, ⟨q5.1, q5.2.elim fun xs p => ⟨xs, p.1, p.2.1, fun hW => p.2.2 (hWs hW).2.2.2.2.2⟩⟩⟩
theorem ac_dec (fuel : Nat) (cs : List Value) (y : DataW H × List MemPlace) (h : DataW.trod enc Tryz.prog w 0 (fun _ => true) true fuel 39 cs = some y) : ∃ x : Ac, cs = encAc x ∧ AcOk w x := by
  obtain ⟨a0, a1, a2, a3, a4, a5, a6, a7, a8, a9, e, q0, q1, q2, _, _, _, _, ⟨⟨a, n, c, rfl, _⟩, t, ht, _⟩, qs, ⟨⟨a', n', c', rfl, _⟩, b, hb, _⟩⟩ := ac0_dec _ _ _ h
  obtain ⟨g, rfl⟩ := u64_nat q2
  exact ⟨⟨a0, a1, ⟨g, a3, a4, a5, a6⟩, _, a8, _⟩, e, ⟨t, b, ht, hb⟩, ⟨rfl, rfl⟩, i64_le q1, qs⟩
end
theorem actsT_of {w : World} {v : Value} {ls : List Ac} (h : Arr encAc 10 w v ls) (hok : ∀ a ∈ ls, AcOk w a) : ∃ xs, ActsT w v xs := by
  have key : ∀ ls : List Ac, (∀ a ∈ ls, AcOk w a) → ∃ xs : List FAc, xs.map (·.1) = ls ∧ ∀ x ∈ xs, (Arr encI 1 w x.1.tv x.2.1 ∧ Arr encB 1 w x.1.bv x.2.2) ∧ (x.1.tv.oneCell' = true ∧ x.1.bv.oneCell' = true) ∧ x.1.n ≤ 9223372036854775807 ∧ x.1.nm.size ≤ 9223372036854775807 := by
    intro ls
    induction ls with
    | nil => intro _; exact ⟨[], rfl, by simp⟩
    | cons a ls ih =>
      intro hok
      obtain ⟨xs, h1, h2⟩ := ih fun r hr => hok r (by simp [hr])
      obtain ⟨⟨t, b, q⟩, r⟩ := hok a (by simp)
      refine ⟨(a, t, b) :: xs, by simp [h1], fun x hx => ?_⟩
      rcases List.mem_cons.1 hx with rfl | hx
      · exact ⟨q, r⟩
      · exact h2 x hx
  obtain ⟨xs, h1, h2⟩ := key ls hok
  exact ⟨xs, by rw [h1]; exact h, fun x hx => (h2 x hx).1, fun x hx => (h2 x hx).2.1, fun x hx => (h2 x hx).2.2⟩
end Go.Proofs.YtofllgbdphakiaaGreat
end

section
namespace Go.Proofs.YtofllgbdphakiaaGreat
open Go.Den Go.Disk Go.Vint Go.Crc Go.Frame Go.Rec Go.Root
theorem recAllF_good : ∀ (fs : List Fra) (k : Nat) (e : Int), ∀ x ∈ (recAllF fs k e).1, rightB x.kind x.n.length x.text.length = true ∧ ∀ n ∈ x.n, n < 18446744073709551616
  | [], _, _, x, hx => by simp [recAllF] at hx
  | y :: r, k, e, x, hx => by
    rw [recAllF_cons] at hx
    by_cases h : (recRead y).2 = 0
    · rw [if_pos h] at hx
      rcases List.mem_cons.1 hx with rfl | hx
      · exact recRead_good h
      · exact recAllF_good r _ e x hx
    · rw [if_neg h] at hx; simp at hx
def arr5 (ns : List Nat) (i : Nat) : List Value := (List.range 5).map fun j => .int .i64 (if j < i then small (ns.getD j 0) else 0)
theorem arr5_set {ns : List Nat} {i n : Nat} (hx : ns[i]? = some n) : (arr5 ns i).set i (.int .i64 (small n)) = arr5 ns (i + 1) := by
  apply List.ext_getElem (by simp [arr5])
  intro k h1 h2
  rw [List.getElem_set]
  by_cases e : i = k
  · subst e
    simp only [if_true, arr5, List.getElem_map, List.getElem_range]
    rw [if_pos (by omega), List.getD_eq_getElem?_getD, hx]; rfl
  · simp only [e, if_false, arr5, List.getElem_map, List.getElem_range]
    congr 1
    by_cases hn : k < i
    · rw [if_pos hn, if_pos (by omega)]
    · rw [if_neg hn, if_neg (by omega)]
theorem small_v (n : Nat) : min2v (.int .u64 (n : Int)) (.int .u64 1048576) = some (.int .u64 (small n)) := by
  show some (Value.int .u64 (if (1048576 : Int) < (n : Int) then 1048576 else (n : Int))) = _
  unfold small
  congr 2
  split <;> omega
theorem small_c (n : Nat) : convi .i64 (.int .u64 (small n)) = some (.int .i64 (small n)) := by
  unfold small
  exact convi64 (by omega)
set_option linter.unusedSimpArgs false
set_option linter.unusedVariables false
set_option maxRecDepth 20000
set_option maxHeartbeats 4000000
attribute [local congr] BND_cg COND_cg GEF_cg
attribute [local irreducible] capl slicea load1 loadn iaddr iaddra faddr storev newslice binv lookv mupd mdel mlenv mentry mestore slicev slicev3 slices indexs indexav textv rangev nexts clearv shiftv eqaggv convi buildv pickv lens lenl unv nilchk extractv partn JOIN
section
variable {w0 w : World} {F0 : List Nat} {d : Nat} {s : Dk} {R : Value → World → Prop}
theorem rt_Read (h : At w0 F0 (diskHP d s) w) (hi : Inv s) (hn : s.dirs.length < 100000000) (hR : ∀ w', Fr [] w w' → R (.tuple #[.agg (encT (readT s).1).toArray, .int .i64 (readT s).2]) w') : CALL PR F_root_Read [ptrTo d] w R := by
  refine C_root_Read ?_
  unfold M_root_Read
  refine NEW_intro fun w1 b1 f1 z1 => ?_
  replace b1 : blk w1 (hsz w) = some (.cells (encT zeroT).toArray 35 (0, 0)) := b1
  -- what comes of an error
  have bad : ∀ (w6 : World) (e : Int), Fr [] w w6 → blk w6 (hsz w) = some (.cells (encT zeroT).toArray 35 (0, 0)) → readT s = (zeroT, e) →
      (BND (buildv #[(Value.int .u64 0), (Value.int .i64 0), (Value.int .i64 0), (Value.int .i64 0), (Value.int .i64 0)] []) fun t => BND (storev 5 w6 (.pointer (some ⟨hsz w, 0, none⟩)) t) fun w7 => BND (loadn 5 w7 (.pointer (some ⟨hsz w, 0, none⟩))) fun r => R (.tuple #[r, (Value.int .i64 e)]) w7) := by
    intro w6 e f6 b6 he
    rw [he] at hR
    (repeat (first | refine gg ?_ | (apply BND_build (encT zeroT); exact rfl)))
    refine put_step (n := 5) (vs := encT zeroT) b6 rfl rfl (encT_one _) (by simp [encT]) fun w7 b7 f7 _ => ?_
    (repeat (first | refine BND_step (loadn_all' b7 rfl) ?_ | refine gg ?_))
    exact hR w7 (f6.trans f7 fun b hb => .inr (by simp at hb; omega))
  refine dk_Read (h.fr0 f1) hi.wf (by omega) nf fun w2 v2 G2 _ s2 g2 f2 => ?_
  have b2 := f2.some (by simp) b1
  have f02 := f1.trans' f2
  by_cases he' : ¬ ((Disk.read s nf).2 = 0)
  · (repeat refine gg ?_)
    exact bad w2 _ f02 b2 (by unfold readT; rw [if_pos he'])
  have he : (Disk.read s nf).2 = 0 := Decidable.of_not_not he'
  have hrd : readT s = fromB (Disk.read s nf).1 := by unfold readT; rw [if_neg (fun h => h he)]
  have hlen : (Disk.read s nf).1.length < 10000000 := by
    unfold Disk.read
    split
    · simp
    · split
      · simp
      · rename_i f hf
        have := hi.wf.small _ (List.mem_of_getElem? (wf_pick hi.wf hf))
        have := hi.wf.room
        show (fileAt s f).b.length < _
        omega
  generalize (Disk.read s nf).1 = bs at s2 hrd hlen
  rw [he]
  (repeat refine gg ?_)
  refine rec_All s2.arrC hlen fun w4 v ev G B E h4 _ gG gB _ f4 => ?_
  have b4 := f4.some (by simp) b2
  have f04 := f02.trans' f4
  have hgood := recAllF_good (frAll bs 0).1 0 (frAll bs 0).2.2
  rw [show recAllF (frAll bs 0).1 0 (frAll bs 0).2.2 = recAll bs from rfl] at hgood
  unfold fromB at hrd
  (repeat refine gg ?_)
  by_cases he2' : ¬ ((recAll bs).2.2 = 0)
  · (repeat refine gg ?_)
    exact bad w4 _ f04 b4 (by rw [hrd, if_pos he2'])
  have he2 : (recAll bs).2.2 = 0 := Decidable.of_not_not he2'
  rw [if_neg (fun h => h he2)] at hrd
  (repeat (first | refine BND_step h4.len ?_ | refine gg ?_))
  by_cases hl' : ¬ (((recAll bs).1.length : Int) = 1)
  · (repeat refine gg ?_)
    refine bad w4 2 f04 b4 ?_
    rw [hrd]
    match hq : (recAll bs).1 with
    | [x] => rw [hq] at hl'; exact absurd rfl hl'
    | [] => rfl
    | _ :: _ :: _ => rfl
  have hl : ((recAll bs).1.length : Int) = 1 := Decidable.of_not_not hl'
  obtain ⟨x, hx⟩ : ∃ x, (recAll bs).1 = [x] := by
    match hq : (recAll bs).1 with
    | [x] => exact ⟨x, rfl⟩
    | [] => rw [hq] at hl; simp at hl
    | _ :: _ :: _ => rw [hq] at hl; simp at hl; omega
  rw [hx] at hrd h4 hgood
  simp only at hrd
  obtain ⟨hg1, hg2⟩ := hgood x (by simp)
  obtain ⟨⟨cs, c1, c2, c3⟩, _⟩ := h4
  obtain ⟨sn, H, d1, d2, d3⟩ := c3 0 x rfl
  obtain ⟨bp, op, ia, _, hbp, l1⟩ := c1.arr.spot d1 rfl .i64
  have l1k : ∀ w', Fr [] w4 w' → load1 w' (.pointer (some ⟨bp, op + 1, none⟩)) = some sn.v := fun w' fr => l1 (fr.keep bp hbp (by simp)) (j := 1) rfl
  have hll : lenl v = some (.int .i64 1) := by rw [c1.len, c2]; rfl
  (repeat (first | (apply BND_step; exact (l1 (w' := w4) rfl (j := 0) rfl)) | refine gg ?_))
  by_cases hk' : ¬ ((x.kind : Int) = 12)
  · (repeat refine gg ?_)
    exact bad w4 2 f04 b4 (by rw [hrd, if_pos (by omega)])
  have hk : (x.kind : Int) = 12 := Decidable.of_not_not hk'
  have hk' : x.kind = 12 := by omega
  rw [if_neg (fun h => h hk')] at hrd
  have h5 : x.n.length = 5 := by
    obtain ⟨_, _, h, _⟩ := right_known hg1
    rw [h, hk']; rfl
  (repeat refine gg ?_)
  refine NEW_intro fun w7 b7 f7 z7 => ?_
  replace b7 : blk w7 (hsz w4) = some (.cells (arr5 x.n 0).toArray 88 (0, 0)) := b7
  have sn7 := d2.fr f7 (by simp)
  (repeat (first | refine BND_step (l1k w7 f7) ?_ | refine BND_step sn7.len ?_ | refine gg ?_))
  refine loop_up 0 x.n.length (fun i w' => blk w' (hsz w4) = some (.cells (arr5 x.n i).toArray 88 (0, 0)) ∧ Fr [hsz w4] w7 w') ⟨b7, Fr.refl _ _⟩ (by omega) ?_
  rintro i w8 - hi8 ⟨b8, f8⟩ J m hJ
  have sn8 := sn7.fr f8 (fun b hb hb' => by have := d2.lt b hb; simp at hb'; omega)
  by_cases hlt : i < x.n.length
  · have hxi := List.getElem?_eq_getElem hlt
    generalize x.n[i] = n at hxi
    obtain ⟨bq, oq, iq, _, _, lq⟩ := sn8.arr.spot hxi rfl .i64
    (repeat (first | (apply BND_step; exact (lq (w' := w8) rfl (j := 0) rfl)) | refine BND_step (small_v n) ?_ | refine BND_step (small_c n) ?_ | refine BND_step (iaddra_at (len := 5) (b := hsz w4) (k := .i64) (i := i) (by omega)) ?_ | refine gg ?_))
    refine fstore_step b8 ⟨rfl, rfl⟩ (by simp [arr5]; omega) fun w9 b9 f9 _ => ?_
    rw [arr5_set hxi] at b9
    (repeat refine gg ?_)
    exact hJ _ hlt ⟨b9, f8.trans' f9⟩
  · have hi5 : i = 5 := by omega
    subst hi5
    (repeat refine gg ?_)
    have f48 : Fr [] w4 w8 := f7.trans f8 fun b hb => .inr (by simp at hb; omega)
    have f48d := f48.trans' (Fr.drew [] w8)
    have f08d := f04.trans' f48d
    have e8 : hsz w8.drew = hsz w8 := rfl
    have gr0 := f08d.grow
    have gr4 := f48d.grow
    have gb4 := blk_lt b4
    obtain ⟨n0, n1, n2, n3, n4, hns⟩ : ∃ a b c d e, x.n = [a, b, c, d, e] := by
      match hq : x.n, h5 with
      | [a, b, c, d, e], _ => exact ⟨a, b, c, d, e, rfl⟩
    rw [hns] at b8 sn8
    have b8d : blk w8.drew (hsz w4) = some (.cells [Value.int .i64 (small n0), .int .i64 (small n1), .int .i64 (small n2), .int .i64 (small n3), .int .i64 (small n4)].toArray 88 (0, 0)) := b8
    have sn8d : Slc encU 1 w8.drew sn.v [n0, n1, n2, n3, n4] H := sn8.congr fun _ _ => rfl
    obtain ⟨bq, oq, iq, _, hbq, lq⟩ := sn8d.arr.spot (i := 0) (x := n0) rfl rfl .i64
    have lqk : ∀ w', Fr [] w8.drew w' → load1 w' (.pointer (some ⟨bq, oq, none⟩)) = some (.int .u64 (n0 : Int)) := fun w' fr => lq (fr.keep bq hbq (by simp)) (j := 0) rfl
    have ra : ∀ w', Fr [] w8.drew w' → ∀ j u, [Value.int .i64 (small n0), .int .i64 (small n1), .int .i64 (small n2), .int .i64 (small n3), .int .i64 (small n4)][j]? = some u → load1 w' (.pointer (some ⟨hsz w4, j, none⟩)) = some u := fun w' fr j u hu => load1_at (fr.some (by simp) b8d) hu
    have i1 := iaddra_at (len := 5) (b := hsz w4) (k := .i64) (i := 1) (by omega)
    have i2 := iaddra_at (len := 5) (b := hsz w4) (k := .i64) (i := 2) (by omega)
    have i3 := iaddra_at (len := 5) (b := hsz w4) (k := .i64) (i := 3) (by omega)
    have i4 := iaddra_at (len := 5) (b := hsz w4) (k := .i64) (i := 4) (by omega)
    have hof : ofRec x = ⟨n0, small n1, small n2, small n3, small n4⟩ := by unfold ofRec; rw [hns]; rfl
    rw [hof] at hrd
    refine ⟨fun _ w' => Fr [] w8.drew w', Fr.refl _ _, Fr.refl _ _, Fr.refl _ _, Fr.refl _ _, Fr.refl _ _, Fr.refl _ _, ?_⟩
    (repeat (first | refine gg ?_ | refine FLT.mk _ (fun _ hw_ => (l1k _ (f48d.trans' hw_))) ?_ | refine FLT.mk _ (fun _ hw_ => (lqk _ hw_)) ?_ | refine FLT.mk _ (fun _ hw_ => (ra _ hw_ 1 _ rfl)) ?_ | refine FLT.mk _ (fun _ hw_ => (ra _ hw_ 2 _ rfl)) ?_ | refine FLT.mk _ (fun _ hw_ => (ra _ hw_ 3 _ rfl)) ?_ | (apply BND_build ([.int .i64 (small n1), .int .i64 (small n2), .int .i64 (small n3)]); exact rfl) | refine FLT.mk _ (fun _ hw_ => (ra _ hw_ 4 _ rfl)) ?_ | (apply BND_build (encT ⟨n0, small n1, small n2, small n3, small n4⟩); exact rfl)))
    refine NEW_intro fun w10 b10 f10 z10 => ?_
    refine ⟨f10, f10, f10, f10, f10, f10, ?_⟩
    refine put_step (n := 5) (vs := encT ⟨n0, small n1, small n2, small n3, small n4⟩) b10 rfl rfl (encT_one _) (by simp [encT]) fun w11 b11 f11 _ => ?_
    have f011 : Fr [] w w11 := (f08d.trans' f10).trans f11 fun b hb => .inr (by have := f08d.grow; simp at hb; omega)
    (repeat (first | refine BND_step (loadn_all' b11 rfl) ?_ | refine gg ?_))
    refine rt_Right _ fun w12 f12 => ?_
    have b12 := f12.some (by simp) b11
    have bz : blk w12 (hsz w) = some (.cells (encT zeroT).toArray 35 (0, 0)) := by
      have q1 := f48d.some (by simp) b4
      have q2 := f10.some (by simp) q1
      have q3 := f11.some (by have := blk_lt q1; simp; omega) q2
      exact f12.some (by simp) q3
    have f012 := f011.trans' f12
    cases hr : rightT ⟨n0, small n1, small n2, small n3, small n4⟩ with
    | false =>
      rw [hr] at hrd
      (repeat refine gg ?_)
      exact bad w12 2 f012 bz (by rw [hrd]; rfl)
    | true =>
      rw [hr] at hrd
      simp only [if_true] at hrd
      rw [hrd] at hR
      (repeat (first | refine BND_step (loadn_all' b12 rfl) ?_ | refine gg ?_))
      refine put_step (n := 5) (vs := encT ⟨n0, small n1, small n2, small n3, small n4⟩) bz rfl rfl (encT_one _) (by simp [encT]) fun w14 b14 f14 _ => ?_
      (repeat (first | refine BND_step (loadn_all' b14 rfl) ?_ | refine gg ?_))
      exact hR w14 (f012.trans f14 fun b hb => .inr (by simp at hb; omega))
end
end Go.Proofs.YtofllgbdphakiaaGreat
end

section
namespace Go.Proofs.YtofllgbdphakiaaGreat
open Go.Den Go.Disk Go.Vint Go.Crc Go.Frame Go.Rec Go.Root
def nmOf (x : FAc) : ByteArray := if x.1.nm = (⟨#[]⟩ : ByteArray) then nd else x.1.nm
def actT (s : Dk) (x : FAc) : Dk × Rt × Int :=
  if x.1.dn = 0 then ((writeT s x.1.rt).1, zeroT, (writeT s x.1.rt).2)
  else if x.1.dn = 1 then (s, readT s)
  else if x.1.dn = 2 then (fuse s x.1.n, zeroT, 0)
  else if x.1.dn = 3 then (crash s x.1.n x.2.1, zeroT, 0)
  else if x.1.dn = 4 then ((append (create s (nmOf x)).1 (nmOf x) x.2.2).1, zeroT, (append (create s (nmOf x)).1 (nmOf x) x.2.2).2)
  else ((dirsync (sync s nf).1).1, zeroT, (dirsync (sync s nf).1).2)
structure Near (s s' : Dk) (k : Nat) : Prop where
  inv : Inv s'
  dirs : s'.dirs.length ≤ s.dirs.length + k
  files : s'.files.length ≤ s.files.length + k
theorem Near.trans {a b c : Dk} {i j : Nat} (h : Near a b i) (g : Near b c j) : Near a c (i + j) := ⟨g.inv, by have := h.dirs; have := g.dirs; omega, by have := h.files; have := g.files; omega⟩
theorem Near.more {a b : Dk} {i j : Nat} (h : Near a b i) (hij : i ≤ j) : Near a b j := ⟨h.inv, by have := h.dirs; omega, by have := h.files; omega⟩
theorem near_refl {s : Dk} (h : Inv s) : Near s s 0 := ⟨h, by omega, by omega⟩
theorem near_act {s : Dk} (h : Inv s) (a : Act) (b : List UInt8) (tails : List Int) (hn : a.n ≤ 9223372036854775807) : Near s (act s a b tails).1 1 := by
  obtain ⟨h1, h2⟩ := more_act s a b tails h.wf.ne
  exact ⟨inv_act h a b tails hn, h1, h2⟩
theorem near_create {s : Dk} (h : Inv s) (n : ByteArray) : Near s (create s n).1 1 := by
  have := near_act h ⟨0, 0, n, n, .slice none 0 0, .slice none 0 0⟩ [] [] (by simp)
  simpa [act] using this
theorem near_append {s : Dk} (h : Inv s) (n : ByteArray) (b : List UInt8) : Near s (append s n b).1 1 := by
  have := near_act h ⟨1, 0, n, n, .slice none 0 0, .slice none 0 0⟩ b [] (by simp)
  simpa [act] using this
theorem near_sync {s : Dk} (h : Inv s) (n : ByteArray) : Near s (sync s n).1 1 := by
  have := near_act h ⟨2, 0, n, n, .slice none 0 0, .slice none 0 0⟩ [] [] (by simp)
  simpa [act] using this
theorem near_rename {s : Dk} (h : Inv s) (n m : ByteArray) : Near s (rename s n m).1 1 := by
  have := near_act h ⟨4, 0, n, m, .slice none 0 0, .slice none 0 0⟩ [] [] (by simp)
  simpa [act] using this
theorem near_delete {s : Dk} (h : Inv s) (n : ByteArray) : Near s (delete s n).1 1 := by
  have := near_act h ⟨5, 0, n, n, .slice none 0 0, .slice none 0 0⟩ [] [] (by simp)
  simpa [act] using this
theorem near_dirsync {s : Dk} (h : Inv s) : Near s (dirsync s).1 1 := by
  have := near_act h ⟨6, 0, nd, nd, .slice none 0 0, .slice none 0 0⟩ [] [] (by simp)
  simpa [act] using this
theorem near_fuse {s : Dk} (h : Inv s) {n : Int} (hn : n ≤ 9223372036854775807) : Near s (fuse s n) 1 := by
  have := near_act h ⟨7, n, nd, nd, .slice none 0 0, .slice none 0 0⟩ [] [] hn
  simpa [act] using this
theorem near_crash {s : Dk} (h : Inv s) (n : Int) (tails : List Int) (hn : n ≤ 9223372036854775807) : Near s (crash s n tails) 1 := by
  have := near_act h ⟨8, n, nd, nd, .slice none 0 0, .slice none 0 0⟩ [] tails hn
  simpa [act] using this
theorem near_then {s : Dk} {x : Dk × Int} {k : Nat} (h : Near s x.1 k) {f : Dk → Dk × Int} (hf : ∀ t, Inv t → Near t (f t).1 1) : Near s (thenT x f).1 (k + 1) := by
  unfold thenT
  split
  · exact h.trans (hf _ h.inv)
  · exact h.more (by omega)
theorem near_step1 {s : Dk} (h : Inv s) : Near s (step1 s).1 1 := by
  unfold step1
  split
  · exact near_delete h nd
  · exact (near_refl h).more (by omega)
theorem near_write {s : Dk} (h : Inv s) (r : Rt) : Near s (writeT s r).1 6 := by
  unfold writeT
  split
  · exact (near_refl h).more (by omega)
  · exact near_then (near_then (near_then (near_then (near_then (near_step1 h) fun t ht => near_create ht nd) fun t ht => near_append ht nd _) fun t ht => near_sync ht nd) fun t ht => near_rename ht nd nf) fun t ht => near_dirsync ht
theorem near_actT {s : Dk} (h : Inv s) (x : FAc) (hn : x.1.n ≤ 9223372036854775807) : Near s (actT s x).1 6 := by
  unfold actT
  split
  · exact near_write h _
  split
  · exact (near_refl h).more (by omega)
  split
  · exact (near_fuse h hn).more (by omega)
  split
  · exact (near_crash h _ _ hn).more (by omega)
  split
  · exact ((near_create h _).trans (near_append (near_create h _).inv _ _)).more (by omega)
  · exact ((near_sync h _).trans (near_dirsync (near_sync h _).inv)).more (by omega)
/-! ## The document's numbers of a root that was read -/
def small9 (n : Nat) : Int := ((min n 99999 : Nat) : Int)
def ofRec9 (x : Rc) : Rt := ⟨x.n.getD 0 0, small9 (x.n.getD 1 0), small9 (x.n.getD 2 0), small9 (x.n.getD 3 0), small9 (x.n.getD 4 0)⟩
theorem right9 (x : Rc) : rightT (ofRec9 x) = rightT (ofRec x) := by
  rw [Bool.eq_iff_iff, rightT_iff, rightT_iff]
  constructor
  · rintro ⟨h1, h2, h3, h4, h5⟩
    simp only [ofRec9, small9] at h1 h2 h3 h4 h5
    constructor <;> simp only [ofRec, small] <;> omega
  · rintro ⟨h1, h2, h3, h4, h5⟩
    simp only [ofRec, small] at h1 h2 h3 h4 h5
    constructor <;> simp only [ofRec9, small9] <;> omega
theorem ofRec9_eq {x : Rc} (h : rightT (ofRec x) = true) : ofRec9 x = ofRec x := by
  obtain ⟨h1, h2, h3, h4, h5⟩ := rightT_iff.1 h
  simp only [ofRec, small] at h1 h2 h3 h4 h5
  unfold ofRec9 ofRec small small9
  congr 1 <;> omega
theorem small9_v (n : Nat) : min2v (.int .u64 (n : Int)) (.int .u64 99999) = some (.int .u64 (small9 n)) := by
  show some (Value.int .u64 (if (99999 : Int) < (n : Int) then 99999 else (n : Int))) = _
  unfold small9
  congr 2
  split <;> omega
theorem small9_c (n : Nat) : convi .i64 (.int .u64 (small9 n)) = some (.int .i64 (small9 n)) := by
  unfold small9
  exact convi64 (by omega)
end Go.Proofs.YtofllgbdphakiaaGreat
end
