/- Records, in plain words. No condition. Records, walked. No condition but sizes. Names of files by letter and number, walked. Conditions: the table of the powers of ten is laid; a number is one of 64 bits. The document's numbers as bytes, walked. No condition but sizes. Names of files, by the document, walked. Conditions: numbers are of 64 bits. What a name is of, and numbers of names, walked. Conditions: the table of the powers of ten, and the two errors of numerals, are laid; sizes. What a text is the name of, by the document, walked. No condition but sizes. Names looked at: are they too many, or too long? No condition. Sorting a slice of uint64: swaps, what stands where; cmp.Less; insertionSort, reverseRange, the pivot's choice, breakPatterns. No condition but sizes. Sorting a slice of uint64: breakPatterns, siftDown, heapSort. No condition but sizes. Sorting a slice of uint64: partition, partitionEqual, partialInsertionSort. No condition but sizes. Sorting a slice of uint64: partialInsertionSort, pdqsort, slices.Sort. No condition but that there are less than 256. The numbers of names, walked: the program's, the document's; rows of numbers compared. Conditions: as of name.Read. What the laws of names use: rows of numbers compared; calls whose answers the document fixes. Conditions: as of name.Read. The law of names told, walked. Conditions: as of name.Read. Unlike letters and numbers have unlike names, as many numbers as names: the law walked. Conditions: as of name.Read. A directory's names, sorted (slices.Sorted of maps.Keys); maps.Clone: by the kit's contracts. No condition but sizes. A disk's directory changed, its files changed: what the calls are made of. No condition but sizes. A disk's calls: change, named, Create, Delete, Rename, DirSync, Names, New. No condition but sizes. A disk's calls: Create, Delete, Rename, DirSync, Names, New. No condition but sizes. A disk's calls: Delete, Rename, DirSync, Names, New. No condition but sizes. A disk's calls: New, Read, Sync, Cut. No condition but sizes. Names come back from letter and number, and these from names: the law walked. Conditions: as of name.Read. How names, letters, numbers that came in read; the two errors of numerals, as a row lays them. No condition. -/
import Derived.Test.YtpclfkjbhlekaaaDoorGh
import Derived.Lib.ItoaMem
import Derived.Test.YtpclfkjbhlekaaaDoorMa
import Derived.Lib.SmallJoins
import Derived.Stop.LaidErr
import Derived.OpenShut
import Derived.Test.YtpclfkjbhlekaaaDoorRows
section
namespace Go.Rec
open Go.Den Go.Crc Go.Frame Go.Vint
structure Rc where
  kind : Nat
  n : List Nat
  text : List UInt8
def zeroR : Rc := ⟨0, [], []⟩
def manyL : List Nat := [0, 0, 5, 2, 1, 2, 2, 1, 1, 1, 1, 1, 5, 7, 10, 2, 1, 1]
def manyOf (k : Nat) : Nat := manyL.getD k 0
def knownB (k : Int) : Bool := decide (1 ≤ k) && decide (k ≤ 17)
def wordedB (k : Int) : Bool := decide (k = 10) || decide (k = 11) || decide (k = 16)
def fitsB (k : Int) (m : Nat) : Bool := decide (m = 0) || (wordedB k && decide (m ≤ 64))
def rightB (k : Int) (n m : Nat) : Bool := knownB k && decide (n = manyOf k.toNat) && fitsB k m
theorem manyOf_le (k : Nat) : manyOf k ≤ 10 := by
  unfold manyOf
  rw [List.getD_eq_getElem?_getD]
  cases h : manyL[k]? with
  | none => simp
  | some x =>
    have := List.mem_of_getElem? h
    simp only [manyL, List.mem_cons, List.not_mem_nil, or_false] at this
    simp; omega
def bodyOf_ (ns : List Nat) (text : List UInt8) : List UInt8 := ns.flatMap layV ++ text
theorem flat_len10 (ns : List Nat) (h : ∀ n ∈ ns, n < 18446744073709551616) : (ns.flatMap layV).length ≤ ns.length * 10 := by
  induction ns with
  | nil => simp
  | cons a ns ih =>
    have h1 := layV_le a (h a (by simp))
    have h2 := ih fun n hn => h n (by simp [hn])
    simp only [List.flatMap_cons, List.length_append, List.length_cons, Nat.add_mul]; omega
theorem right_known {k : Int} {n m : Nat} (h : rightB k n m = true) : 1 ≤ k ∧ k ≤ 17 ∧ n = manyOf k.toNat ∧ fitsB k m = true := by
  unfold rightB knownB at h
  simp only [Bool.and_eq_true, decide_eq_true_eq] at h
  exact ⟨h.1.1.1, h.1.1.2, h.1.2, h.2⟩
theorem fits_le {k : Int} {m : Nat} (h : fitsB k m = true) : m ≤ 64 := by
  unfold fitsB at h
  simp only [Bool.or_eq_true, Bool.and_eq_true, decide_eq_true_eq] at h
  omega
theorem body_small {k : Int} {ns : List Nat} {t : List UInt8} (h : rightB k ns.length t.length = true) (hs : ∀ n ∈ ns, n < 18446744073709551616) : (bodyOf_ ns t).length ≤ 164 := by
  obtain ⟨_, _, h1, h2⟩ := right_known h
  have h3 := flat_len10 ns hs
  have h4 := manyOf_le k.toNat
  have h5 := fits_le h2
  unfold bodyOf_
  rw [List.length_append]
  omega
def readN : Nat → List UInt8 → List Nat × List UInt8 × Int
  | 0, rest => ([], rest, 0)
  | m + 1, rest => if (getV rest).2.2 = 0 then ((getV rest).1 :: (readN m (rest.drop (getV rest).2.1)).1, (readN m (rest.drop (getV rest).2.1)).2) else ([], [], (getV rest).2.2)
def recRead (x : Fra) : Rc × Int :=
  if knownB x.1.toNat = false then (zeroR, 2) else
  if (readN (manyOf x.1.toNat) x.2).2.2 = 0 then
    (if fitsB x.1.toNat (readN (manyOf x.1.toNat) x.2).2.1.length = true then (⟨x.1.toNat, (readN (manyOf x.1.toNat) x.2).1, (readN (manyOf x.1.toNat) x.2).2.1⟩, 0) else (zeroR, 2))
  else (zeroR, (readN (manyOf x.1.toNat) x.2).2.2)
theorem readN_lay : ∀ (ns : List Nat) (t : List UInt8), (∀ n ∈ ns, n < 18446744073709551616) → readN ns.length (bodyOf_ ns t) = (ns, t, 0)
  | [], t, _ => rfl
  | a :: ns, t, h => by
    have e : bodyOf_ (a :: ns) t = layV a ++ bodyOf_ ns t := by unfold bodyOf_; simp
    have hg := get_put a (h a (by simp)) (bodyOf_ ns t)
    simp only [List.length_cons, readN]
    rw [e, hg]
    simp only [if_true, List.drop_left]
    rw [readN_lay ns t fun n hn => h n (by simp [hn])]
def toFra (k : Nat) (ns : List Nat) (t : List UInt8) : Fra := (UInt8.ofNat k, bodyOf_ ns t)
theorem recRead_of {k : Nat} {ns : List Nat} {t : List UInt8} (h : rightB k ns.length t.length = true) (hs : ∀ n ∈ ns, n < 18446744073709551616) : recRead (toFra k ns t) = (⟨k, ns, t⟩, 0) := by
  obtain ⟨h1, h2, h3, h4⟩ := right_known h
  unfold recRead toFra
  have e : (UInt8.ofNat k).toNat = k := ofNat_toNat (by omega)
  simp only [e]
  have hk : knownB (k : Int) = true := by unfold knownB; simp; omega
  rw [if_neg (by rw [hk]; simp)]
  have h3' : manyOf k = ns.length := by rw [h3]; simp
  rw [h3', readN_lay ns t hs]
  simp [h4]
def recAllF : List Fra → Nat → Int → List Rc × List Nat × Int
  | [], _, e => ([], [], e)
  | x :: r, k, e => if (recRead x).2 = 0 then ((recRead x).1 :: (recAllF r (k + (11 + x.2.length)) e).1, (k + (11 + x.2.length)) :: (recAllF r (k + (11 + x.2.length)) e).2.1, (recAllF r (k + (11 + x.2.length)) e).2.2) else ([], [], (recRead x).2)
def recAll (b : List UInt8) : List Rc × List Nat × Int := recAllF (frAll b 0).1 0 (frAll b 0).2.2
def recB (k : Nat) (ns : List Nat) (t : List UInt8) : List UInt8 := frB (toFra k ns t)
theorem recAll_one {k : Nat} {ns : List Nat} {t : List UInt8} (h : rightB k ns.length t.length = true) (hs : ∀ n ∈ ns, n < 18446744073709551616) : recAll (recB k ns t) = ([⟨k, ns, t⟩], [(recB k ns t).length], 0) := by
  have hb := body_small h hs
  have e := frAll_cons (toFra k ns t) (by unfold toFra; simp only; omega) [] 0
  rw [List.append_nil, frAll_nil] at e
  unfold recAll
  rw [show recB k ns t = frB (toFra k ns t) from rfl, e]
  simp only [recAllF, recRead_of h hs, if_true, frB_len]
  simp
theorem readN_good : ∀ (m : Nat) (b : List UInt8), (readN m b).2.2 = 0 → (readN m b).1.length = m ∧ (∀ n ∈ (readN m b).1, n < 18446744073709551616) ∧ (readN m b).2.1.length ≤ b.length
  | 0, b, _ => by simp [readN]
  | m + 1, b, h => by
    simp only [readN] at h ⊢
    by_cases hg : (getV b).2.2 = 0
    · rw [if_pos hg] at h ⊢
      obtain ⟨h1, h2, h3⟩ := readN_good m _ h
      refine ⟨by simp [h1], fun n hn => ?_, by simp only; rw [List.length_drop] at h3; omega⟩
      rcases List.mem_cons.1 hn with rfl | hn
      · exact getL_small b 0 0 (by simp) (by omega)
      · exact h2 n hn
    · rw [if_neg hg] at h; exact absurd h hg
theorem recRead_good {x : Fra} (h : (recRead x).2 = 0) : rightB (recRead x).1.kind (recRead x).1.n.length (recRead x).1.text.length = true ∧ ∀ n ∈ (recRead x).1.n, n < 18446744073709551616 := by
  unfold recRead at h ⊢
  by_cases h1 : knownB x.1.toNat = false
  · rw [if_pos h1] at h; simp at h
  · rw [if_neg h1] at h ⊢
    by_cases h2 : (readN (manyOf x.1.toNat) x.2).2.2 = 0
    · rw [if_pos h2] at h ⊢
      obtain ⟨g1, g2, g3⟩ := readN_good _ _ h2
      by_cases h3 : fitsB x.1.toNat (readN (manyOf x.1.toNat) x.2).2.1.length = true
      · rw [if_pos h3]
        refine ⟨?_, g2⟩
        unfold rightB
        simp only [g1, h3]
        simp at h1
        simp [h1]
      · rw [if_neg h3] at h; simp at h
    · rw [if_neg h2] at h; exact absurd h h2
end Go.Rec
end

section
namespace Go.Proofs.YtpclfkjbhlekaaaDoor
open Go.Den Go.Disk Go.Vint Go.Crc Go.Frame Go.Rec
def txB (l : List UInt8) : ByteArray := ⟨l.toArray⟩
def encRc (x : Int × SV × ByteArray) : List Value := [.int .i64 x.1, x.2.1.v, .string x.2.2]
theorem encRc_len (x : Int × SV × ByteArray) : (encRc x).length = 3 := rfl
theorem encRc_one (x : Int × SV × ByteArray) : ∀ u ∈ encRc x, u.oneCell' = true := by intro u hu; simp [encRc] at hu; rcases hu with rfl | rfl | rfl <;> rfl
def encO (x : Nat) : List Value := [.int .i64 (x : Int)]
theorem encO_len (x : Nat) : (encO x).length = 1 := rfl
theorem encO_one (x : Nat) : ∀ u ∈ encO x, u.oneCell' = true := by intro u hu; simp [encO] at hu; subst hu; rfl
theorem flat_encB (l : List UInt8) : flat encB l = l.map fun b => Value.int .u8 (b.toNat : Int) := by
  induction l with
  | nil => rfl
  | cons a l ih => simp [flat, encB] at *; exact ih
theorem str_src (w : World) (s : ByteArray) : cellsOfArg w 1 (.string s) = some (flat encB s.data.toList, s.data.toList.length) := by
  rw [flat_encB]
  show some _ = _
  congr 2
theorem intsOf_u8 (l : List UInt8) : intsOf .u8 (l.map fun b => Value.int .u8 (b.toNat : Int)) = some (l.map fun b => (b.toNat : Int)) := by
  induction l with
  | nil => rfl
  | cons a l ih => simp [intsOf, ih]
theorem text_fold : ∀ (l : List UInt8) (r : ByteArray), (l.map fun b => (b.toNat : Int)).foldl (fun r n => r.push (UInt8.ofNat n.toNat)) r = ⟨r.data ++ l.toArray⟩
  | [], r => by simp
  | a :: l, r => by
    simp only [List.map_cons, List.foldl_cons]
    rw [text_fold l]
    apply ByteArray.ext
    simp [ByteArray.push]
theorem textB {w : World} {v : Value} {bs : List UInt8} (h : Arr encB 1 w v bs) : textv .u8 textOfBytes w v = some (.string (txB bs)) := by
  have hs := h.src encB_len (by omega)
  obtain ⟨a, c, rfl, h2⟩ := h
  cases a with
  | none =>
    rcases h2 with rfl | ⟨b, o, cs, T, fz, e, _⟩
    · rfl
    · cases e
  | some a =>
    simp only [cellsOfArg, Nat.mul_one, Option.map_eq_some_iff, Prod.mk.injEq] at hs
    obtain ⟨vs, h1, rfl, _⟩ := hs
    simp only [textv, h1, Option.bind_some, flat_encB, intsOf_u8, Option.map_some]
    congr 2
    unfold textOfBytes
    rw [text_fold]
    apply ByteArray.ext
    simp [txB]
def manyV : List Value := manyL.map fun n : Nat => .int .i64 (n : Int)
theorem many_at {k : Nat} (h : k < 18) : indexav false 18 1 (.agg manyV.toArray) (.int .i64 (k : Int)) = some (.int .i64 ((manyOf k : Nat) : Int)) := by
  simp only [indexav]
  rw [if_pos ⟨by omega, by omega⟩]
  have e : manyV[k]? = some (.int .i64 ((manyOf k : Nat) : Int)) := by
    have hl : k < manyL.length := h
    unfold manyV manyOf
    rw [List.getElem?_map, List.getD_eq_getElem?_getD, List.getElem?_eq_getElem hl]
    rfl
  simpa using e
set_option linter.unusedSimpArgs false
set_option linter.unusedVariables false
set_option maxRecDepth 20000
set_option maxHeartbeats 4000000
attribute [local congr] BND_cg COND_cg GEF_cg
attribute [local irreducible] capl slicea load1 loadn iaddr iaddra faddr storev newslice binv lookv mupd mdel mlenv mentry mestore slicev slicev3 slices indexs indexav textv rangev nexts clearv shiftv eqaggv convi buildv pickv lens lenl unv nilchk extractv partn JOIN
section
variable {w : World} {R : Value → World → Prop}
end
end Go.Proofs.YtpclfkjbhlekaaaDoor
end

section
namespace Go.Proofs.YtpclfkjbhlekaaaDoor
open Go.Den Go.Nm Go.Disk Go.Crc Go.Frame Go.Rec
def encC (b : UInt8) : Value := .int .u8 (b.toNat : Int)
theorem slicea_upto {len b k : Nat} (h : k ≤ len) : slicea len 1 (.pointer (some ⟨b, 0, none⟩)) none (some (.int .i64 (k : Int))) none = some (.slice (some ⟨b, 0, none⟩) k len) := by
  unfold slicea
  simp only [natOf]
  simp [h]
  intro _
  simp [Addr.add]
theorem putRow_blk {w : World} {b n : Nat} {c : Array Value} {T : Nat} (dk : Array UInt8) (h : blk w b = some (.cells c T (0, 0))) :
    blk ((Go.Sort.putRow encC w b 0 dk).drewN n) b = some (.cells (Go.Sort.putCells encC 0 dk c) T (0, 0)) ∧ (∀ i, i ≠ b → blk ((Go.Sort.putRow encC w b 0 dk).drewN n) i = blk w i) ∧ Fr [b] w ((Go.Sort.putRow encC w b 0 dk).drewN n) := by
  have h' : w.heap[b]? = some (.cells c T (0, 0)) := h
  have hh : ((Go.Sort.putRow encC w b 0 dk).drewN n).heap = w.heap.modify b (Go.Sort.onCells (Go.Sort.putCells encC 0 dk)) := rfl
  have h2 : ∀ i, i ≠ b → blk ((Go.Sort.putRow encC w b 0 dk).drewN n) i = blk w i := fun i hi => by
    unfold blk
    rw [hh, Array.getElem?_modify]
    rw [if_neg (fun e => hi e.symm)]
  refine ⟨?_, h2, ?_⟩
  · unfold blk
    rw [hh, Array.getElem?_modify, if_pos rfl, h']
    rfl
  · exact ⟨by unfold hsz; rw [hh]; simp, fun i _ hi => h2 i (by simpa using hi), rfl, rfl, rfl⟩
theorem conv32 (k : UInt8) : convi .i32 (.int .u8 (k.toNat : Int)) = some (.int .i32 (k.toNat : Int)) := by
  have := k.toNat_lt
  have e : ((k.toNat : Int) + 2147483648) % 4294967296 - 2147483648 = k.toNat := by omega
  simp only [convi]
  rw [IntKind.wrap_i32, e]
theorem cat_ {x y : ByteArray} (h : x.size + y.size < 1000000) : binv .str .add (.string x) (.string y) = some (.string (x ++ y)) := by
  have e : binv .str .add (.string x) (.string y) = bins .add x y := rfl
  have m : IntKind.i64.max = 9223372036854775807 := by decide
  rw [e]
  unfold bins
  simp only
  rw [m, if_neg (by omega)]
theorem arr_size (l : List UInt8) : (ByteArray.mk l.toArray).size = l.length := by show l.toArray.size = _; simp
set_option linter.unusedSimpArgs false
set_option linter.unusedVariables false
set_option maxRecDepth 20000
set_option maxHeartbeats 4000000
attribute [local congr] BND_cg COND_cg GEF_cg
attribute [local irreducible] capl slicea load1 loadn iaddr iaddra faddr storev newslice binv lookv mupd mdel mlenv mentry mestore slicev slicev3 slices indexs indexav textv rangev nexts clearv shiftv eqaggv convi buildv pickv lens lenl unv nilchk extractv partn JOIN
section
variable {w : World} {R : Value → World → Prop}
theorem st_small (i : Nat) (h : i < 100) (hR : R (.string ⟨(Lib.decDigits i).toArray⟩) w) : CALL PR F_internal_strconv_small [.int .i64 i] w R :=
  ⟨(Tryd.internal_strconv_small i h w).mono fun e w1 ⟨he, hw⟩ => ⟨_, he, by rw [hw]; exact hR⟩⟩
theorem st_digits (hT : Tab w) (u : Nat) (h1 : 1 ≤ u) (h2 : u < 18446744073709551616) (hR : R (.int .i64 (Lib.nDigits u)) w) : CALL PR F_internal_strconv_numDigits [.int .u64 u] w R :=
  ⟨(Tryd.internal_strconv_numDigits u h1 h2 w hT.is).mono fun e w1 ⟨he, hw⟩ => ⟨_, he, by rw [hw]; exact hR⟩⟩
theorem st_index (s : ByteArray) (c : Int) (hR : R (.int .i64 (Lib.indexByte s.data.toList c.toNat.toUInt8)) w) : CALL PR F_strings_IndexByte [.string s, .int .u8 c] w R :=
  ⟨(Tryd.strings_IndexByte s c w).mono fun e w1 ⟨he, hw⟩ => ⟨_, he, by rw [hw]; exact hR⟩⟩
theorem st_base {b T cap u nd : Nat} {c : Array Value} (hb : blk w b = some (.cells c T (0, 0))) (hc : ∀ j, j < nd → c[j]? = some (.int .u8 0)) (hu : u < 10 ^ nd) (hu64 : u < 18446744073709551616) (hnd : nd < 1000)
    (hR : ∀ w' (dk : Array UInt8) v, blk w' b = some (.cells (Go.Sort.putCells encC 0 dk c) T (0, 0)) → Lib.FmtInv nd u 0 v dk → Fr [b] w w' → R (.tuple #[]) w') :
    CALL PR F_internal_strconv_formatBase10 [.slice (some ⟨b, 0, none⟩) nd cap, .int .u64 u] w R := by
  have hs : (Array.replicate nd (0 : UInt8)).size = nd := Array.size_replicate
  have hh : Go.Sort.Holds (fun (b : UInt8) => Value.int .u8 (b.toNat : Int)) w b 0 (Array.replicate nd (0 : UInt8)) := fun j hj => by
    rw [hs] at hj
    refine ⟨?_, ?_⟩
    · rw [cell?_blk hb, Nat.zero_add, hc j hj, getElem!_pos _ j (by rw [hs]; exact hj)]
      simp
    · have h' : w.heap[b]? = some (.cells c T (0, 0)) := hb
      simp [World.frozen?, h']
  have := Tryd.internal_strconv_formatBase10 b 0 cap u (Array.replicate nd (0 : UInt8)) w hh (by rw [hs]; exact hu) hu64 (by rw [hs]; omega)
  rw [hs] at this
  refine ⟨this.mono fun e w1 ⟨he, n, v, dk, hw, hI⟩ => ⟨_, he, ?_⟩⟩
  obtain ⟨q1, _, q3⟩ := putRow_blk (n := n) dk hb
  rw [hw]
  exact hR _ dk v q1 hI q3
theorem st_FormatUint (hT : Tab w) (u : Nat) (hu : u < 18446744073709551616) (hR : ∀ w', Fr [] w w' → R (.string ⟨(Lib.decDigits u).toArray⟩) w') : CALL PR F_strconv_FormatUint [.int .u64 u, .int .i64 10] w R := by
  refine C_strconv_FormatUint ?_
  unfold M_strconv_FormatUint
  refine C_internal_strconv_FormatUint ?_
  unfold M_internal_strconv_FormatUint
  (repeat (first | refine stp ?_ | (apply BND_inc; omega) | (apply BND_dec; omega) | refine BND_step (rfl : some _ = some _) ?_ | (apply cyes; first | assumption | omega) | (apply cno; first | assumption | omega) | refine (COND_true _ _).2 ?_ | refine (COND_false _ _).2 ?_ | simp (disch := first | assumption | omega) only [gs1, gs2, decide_true, decide_false, eq_self, beq_self_eq_true, Bool.not_true, Bool.not_false]))
  by_cases h1 : u < 100
  · (repeat (first | refine BND_step (convi64 (k := .u64) (x := u) (by omega)) ?_ | refine stp ?_ | (apply BND_inc; omega) | (apply BND_dec; omega) | refine BND_step (rfl : some _ = some _) ?_ | (apply cyes; first | assumption | omega) | (apply cno; first | assumption | omega) | refine (COND_true _ _).2 ?_ | refine (COND_false _ _).2 ?_ | simp (disch := first | assumption | omega) only [gs1, gs2, decide_true, decide_false, eq_self, beq_self_eq_true, Bool.not_true, Bool.not_false]))
    refine st_small u h1 ?_
    exact hR _ (Fr.refl _ _)
  · (repeat (first | refine stp ?_ | (apply BND_inc; omega) | (apply BND_dec; omega) | refine BND_step (rfl : some _ = some _) ?_ | (apply cyes; first | assumption | omega) | (apply cno; first | assumption | omega) | refine (COND_true _ _).2 ?_ | refine (COND_false _ _).2 ?_ | simp (disch := first | assumption | omega) only [gs1, gs2, decide_true, decide_false, eq_self, beq_self_eq_true, Bool.not_true, Bool.not_false]))
    refine NEW_intro fun w1 b1 f1 z1 => ?_
    have hnd := Lib.numDigits_eq u (by omega) hu
    have h20 : Lib.nDigits u ≤ 20 := by split at hnd <;> omega
    refine st_digits (hT.fr f1) u (by omega) hu ?_
    have hlt : u < 10 ^ Lib.nDigits u := by
      have := Lib.lt_pow_nDigits u
      exact this
    (repeat (first | refine BND_step (slicea_upto (len := 24) (b := hsz w) (k := Lib.nDigits u) (by omega)) ?_ | refine stp ?_ | (apply BND_inc; omega) | (apply BND_dec; omega) | refine BND_step (rfl : some _ = some _) ?_ | (apply cyes; first | assumption | omega) | (apply cno; first | assumption | omega) | refine (COND_true _ _).2 ?_ | refine (COND_false _ _).2 ?_ | simp (disch := first | assumption | omega) only [gs1, gs2, decide_true, decide_false, eq_self, beq_self_eq_true, Bool.not_true, Bool.not_false]))
    replace b1 : blk w1 (hsz w) = some (.cells (Array.replicate 24 (.int .u8 0)) 69 (0, 0)) := b1
    refine st_base b1 (fun j hj => ?_) hlt hu (by omega) fun w2 dk v b2 hI f2 => ?_
    · rw [Array.getElem?_replicate, if_pos (by omega)]
    · have ar : Arr encB 1 w2 (.slice (some ⟨hsz w, 0, none⟩) (Lib.nDigits u) 24) (Lib.decDigits u) := by
        refine ⟨_, 24, by rw [Lib.decDigits_length], .inr ⟨hsz w, 0, _, _, _, rfl, b2, fun i x hx => ?_⟩⟩
        have hi := (List.getElem?_eq_some_iff.1 hx).1
        have hx' := (List.getElem?_eq_some_iff.1 hx).2
        have hl := Lib.decDigits_length u
        have hsz' : (Go.Sort.putCells encC 0 dk (Array.replicate 24 (.int .u8 0))).size = 24 := by simp [Go.Sort.putCells]
        refine ⟨by omega, fun j hj => ?_⟩
        obtain rfl : j = 0 := by omega
        have hd := hI.size
        have hr := Lib.row_is_numeral hI i (by omega)
        rw [Array.getElem?_eq_getElem (by omega)]
        simp only [Go.Sort.putCells, Array.getElem_mapIdx, Nat.zero_add, Nat.mul_one, Nat.add_zero, Nat.zero_le, true_and, Nat.sub_zero]
        rw [if_pos (by omega), ← hr, hx']
        rfl
      (repeat (first | refine BND_step (slicea_upto (len := 24) (b := hsz w) (k := Lib.nDigits u) (by omega)) ?_ | refine BND_step (textB ar) ?_ | refine stp ?_ | (apply BND_inc; omega) | (apply BND_dec; omega) | refine BND_step (rfl : some _ = some _) ?_ | (apply cyes; first | assumption | omega) | (apply cno; first | assumption | omega) | refine (COND_true _ _).2 ?_ | refine (COND_false _ _).2 ?_ | simp (disch := first | assumption | omega) only [gs1, gs2, decide_true, decide_false, eq_self, beq_self_eq_true, Bool.not_true, Bool.not_false]))
      refine hR _ (f1.trans f2 fun b hb => .inr (by simp at hb; omega))
theorem idx_kinds (k : UInt8) : (Lib.indexByte [109, 101, 115] k < 0) ↔ kindN k = false := by
  unfold kindN
  by_cases h1 : k = 109
  · subst h1; decide
  · by_cases h2 : k = 101
    · subst h2; decide
    · by_cases h3 : k = 115
      · subst h3; decide
      · have e : Lib.indexByte [109, 101, 115] k = -1 := by
          have a1 : ((109 : UInt8) == k) = false := by simpa using fun e => h1 e.symm
          have a2 : ((101 : UInt8) == k) = false := by simpa using fun e => h2 e.symm
          have a3 : ((115 : UInt8) == k) = false := by simpa using fun e => h3 e.symm
          simp [Lib.indexByte, a1, a2, a3]
        rw [e]
        simp [h1, h2, h3]
theorem rune_kind {k : UInt8} (h : kindN k = true) : runev (.int .i32 (k.toNat : Int)) = some (.string ⟨#[k]⟩) := by
  unfold kindN at h
  simp only [Bool.or_eq_true, decide_eq_true_eq] at h
  rcases h with (rfl | rfl) | rfl
  · exact congrArg (fun x => some (Value.string x)) (by decide +kernel : Utf8.encode ((109 : UInt8).toNat : Int) = ⟨#[109]⟩)
  · exact congrArg (fun x => some (Value.string x)) (by decide +kernel : Utf8.encode ((101 : UInt8).toNat : Int) = ⟨#[101]⟩)
  · exact congrArg (fun x => some (Value.string x)) (by decide +kernel : Utf8.encode ((115 : UInt8).toNat : Int) = ⟨#[115]⟩)
theorem name_Of (hT : Tab w) (k : UInt8) (n : Nat) (hn : n < 18446744073709551616) (hR : ∀ w', Fr [] w w' → R (.tuple #[.string (nameOf k n).1, .int .i64 (nameOf k n).2]) w') : CALL PR F_name_Of [.int .u8 (k.toNat : Int), .int .u64 (n : Int)] w R := by
  refine C_name_Of ?_
  unfold M_name_Of
  refine st_index _ _ ?_
  have hk : ((k.toNat : Int)).toNat.toUInt8 = k := by simp
  rw [hk]
  have hi := idx_kinds k
  unfold nameOf okN at hR
  generalize hx : Lib.indexByte (ByteArray.data ⟨#[109, 101, 115]⟩).toList k = x at *
  obtain ⟨L, hL⟩ : ∃ L : Int, L = 10000000000 := ⟨_, rfl⟩
  rw [← hL]
  cases hb : kindN k with
  | false =>
    have := hi.2 hb
    rw [hb] at hR
    (repeat (first | refine stp ?_ | (apply BND_inc; omega) | (apply BND_dec; omega) | refine BND_step (rfl : some _ = some _) ?_ | (apply cyes; first | assumption | omega) | (apply cno; first | assumption | omega) | refine (COND_true _ _).2 ?_ | refine (COND_false _ _).2 ?_ | simp (disch := first | assumption | omega) only [gs1, gs2, decide_true, decide_false, eq_self, beq_self_eq_true, Bool.not_true, Bool.not_false]))
    exact hR _ (Fr.refl _ _)
  | true =>
    have : ¬ x < 0 := fun h => by rw [hi.1 h] at hb; cases hb
    rw [hb] at hR
    by_cases hm : (n : Int) < L
    · have ec1 := cat_ (x := ⟨#[k]⟩) (y := ⟨#[46]⟩) (by show 1 + 1 < 1000000; omega)
      (repeat (first | refine BND_step (conv32 k) ?_ | refine BND_step (rune_kind hb) ?_ | refine BND_step ec1 ?_ | refine stp ?_ | (apply BND_inc; omega) | (apply BND_dec; omega) | refine BND_step (rfl : some _ = some _) ?_ | (apply cyes; first | assumption | omega) | (apply cno; first | assumption | omega) | refine (COND_true _ _).2 ?_ | refine (COND_false _ _).2 ?_ | simp (disch := first | assumption | omega) only [gs1, gs2, decide_true, decide_false, eq_self, beq_self_eq_true, Bool.not_true, Bool.not_false]))
      refine st_FormatUint hT n hn fun w2 f2 => ?_
      have hsz9 := (dec_len 19 n (by omega)).1
      have ec := cat_ (x := ⟨#[k]⟩ ++ ⟨#[46]⟩) (y := ⟨(Lib.decDigits n).toArray⟩) (by rw [ByteArray.size_append, arr_size (Lib.decDigits n)]; show 1 + 1 + _ < 1000000; omega)
      (repeat (first | refine BND_step ec ?_ | refine stp ?_ | (apply BND_inc; omega) | (apply BND_dec; omega) | refine BND_step (rfl : some _ = some _) ?_ | (apply cyes; first | assumption | omega) | (apply cno; first | assumption | omega) | refine (COND_true _ _).2 ?_ | refine (COND_false _ _).2 ?_ | simp (disch := first | assumption | omega) only [gs1, gs2, decide_true, decide_false, eq_self, beq_self_eq_true, Bool.not_true, Bool.not_false]))
      rw [decide_eq_true (show n < 10000000000 by omega)] at hR
      have e : (ByteArray.mk #[k] ++ ByteArray.mk #[46]) ++ ByteArray.mk (Lib.decDigits n).toArray = nmB k n := by
        refine ByteArray.ext (Array.ext' ?_)
        simp [nmB, nmL]
      have := hR w2 f2
      simp only [Bool.and_true, if_true] at this
      rw [← e] at this
      exact this
    · (repeat (first | refine stp ?_ | (apply BND_inc; omega) | (apply BND_dec; omega) | refine BND_step (rfl : some _ = some _) ?_ | (apply cyes; first | assumption | omega) | (apply cno; first | assumption | omega) | refine (COND_true _ _).2 ?_ | refine (COND_false _ _).2 ?_ | simp (disch := first | assumption | omega) only [gs1, gs2, decide_true, decide_false, eq_self, beq_self_eq_true, Bool.not_true, Bool.not_false]))
      rw [decide_eq_false (show ¬ n < 10000000000 by omega)] at hR
      exact hR _ (Fr.refl _ _)
end
end Go.Proofs.YtpclfkjbhlekaaaDoor
end

section
namespace Go.Vint
open Go.Den
def horn : List UInt8 → Nat
  | [] => 0
  | c :: r => c.toNat % 128 + 128 * horn r
theorem horn_snoc : ∀ (l : List UInt8) (c : UInt8), horn (l ++ [c]) = horn l + 128 ^ l.length * (c.toNat % 128)
  | [], c => by simp [horn]
  | a :: l, c => by
    simp only [List.cons_append, horn, horn_snoc l c, List.length_cons]
    rw [Nat.mul_add, ← Nat.mul_assoc, Nat.pow_succ, Nat.mul_comm 128 (128 ^ l.length)]
    omega
theorem horn_lt : ∀ l : List UInt8, horn l < 128 ^ l.length
  | [] => by simp [horn]
  | a :: l => by
    have h := horn_lt l
    simp only [horn, List.length_cons, Nat.pow_succ]
    omega
theorem pow7 (i : Nat) : 2 ^ (7 * (i + 1)) = 128 * 2 ^ (7 * i) := by
  rw [Nat.mul_add, Nat.pow_add]
  show 2 ^ (7 * i) * 128 = _
  omega
theorem getL_lead : ∀ (j : Nat) (b : List UInt8) (i n : Nat), (∀ t, t < j → ∃ c, b[t]? = some c ∧ 128 ≤ c.toNat) → i + j ≤ 9 → getL b i n = getL (b.drop j) (i + j) (n + horn (b.take j) * 2 ^ (7 * i))
  | 0, b, i, n, _, _ => by simp [horn]
  | j + 1, [], i, n, h, _ => by obtain ⟨c, hc, _⟩ := h 0 (by omega); simp at hc
  | j + 1, c :: r, i, n, h, hj => by
    obtain ⟨c', hc, h128⟩ := h 0 (by omega)
    simp at hc; subst hc
    have ih := getL_lead j r (i + 1) (n + c.toNat % 128 * 2 ^ (7 * i)) (fun t ht => by obtain ⟨x, hx, hx2⟩ := h (t + 1) (by omega); exact ⟨x, by simpa using hx, hx2⟩) (by omega)
    rw [getL, if_neg (by omega), if_pos h128, ih]
    simp only [List.drop_succ_cons, List.take_succ_cons, horn]
    rw [show i + 1 + j = i + (j + 1) by omega, pow7, Nat.add_mul, Nat.mul_comm 128 (horn _), Nat.mul_assoc, Nat.add_assoc]
theorem getV_lead {b : List UInt8} {j : Nat} (h : ∀ t, t < j → ∃ c, b[t]? = some c ∧ 128 ≤ c.toNat) (hj : j ≤ 9) : getV b = getL (b.drop j) j (horn (b.take j)) := by
  have := getL_lead j b 0 0 h (by omega)
  simpa [getV] using this
theorem drop_at {b : List UInt8} {m : Nat} {c : UInt8} (h : b[m]? = some c) : b.drop m = c :: b.drop (m + 1) ∧ b.take (m + 1) = b.take m ++ [c] := by
  have hl := (List.getElem?_eq_some_iff.1 h).1
  have he := (List.getElem?_eq_some_iff.1 h).2
  refine ⟨by rw [List.drop_eq_getElem_cons hl, he], by rw [List.take_add_one, h]; rfl⟩
theorem horn_small {b : List UInt8} {m k : Nat} {c : UInt8} (h : b[m]? = some c) (hm : m ≤ 9) (h9 : m = 9 → c.toNat ≤ 1) (hk : k ≤ m) : horn ((b.take (m + 1)).drop k) < 18446744073709551616 := by
  have hl := (List.getElem?_eq_some_iff.1 h).1
  have hlt : (b.take m).length = m := by rw [List.length_take]; omega
  rw [(drop_at h).2, List.drop_append_of_le_length (by omega), horn_snoc]
  have h1 := horn_lt ((b.take m).drop k)
  have hlen : ((b.take m).drop k).length = m - k := by rw [List.length_drop, hlt]
  rw [hlen] at h1 ⊢
  by_cases h8 : m ≤ 8
  · have h2 : 128 ^ (m - k) ≤ 128 ^ 8 := Nat.pow_le_pow_right (by omega) (by omega)
    have h3 : 128 ^ (m - k) * (c.toNat % 128) ≤ 128 ^ 8 * 127 := Nat.mul_le_mul h2 (by omega)
    have h4 : 128 ^ 8 = 72057594037927936 := by decide
    omega
  · have h2 : 128 ^ (m - k) ≤ 128 ^ 9 := Nat.pow_le_pow_right (by omega) (by omega)
    have h3 : 128 ^ (m - k) * (c.toNat % 128) ≤ 128 ^ 9 * 1 := Nat.mul_le_mul h2 (by have := h9 (by omega); omega)
    have h4 : 128 ^ 9 = 9223372036854775808 := by decide
    omega
end Go.Vint
namespace Go.Proofs.YtpclfkjbhlekaaaDoor
open Go.Den Go.Disk Go.Vint
theorem remU (x k : Nat) (hk : 0 < k) : binv .int .rem (.int .u64 (x : Int)) (.int .u64 (k : Int)) = some (.int .u64 ((x % k : Nat) : Int)) := by
  rw [binv_rem _ _ _ _ (by omega)]
  rfl
theorem quoU (x k : Nat) (hk : 0 < k) (hx : x < 18446744073709551616) : binv .int .quo (.int .u64 (x : Int)) (.int .u64 (k : Int)) = some (.int .u64 ((x / k : Nat) : Int)) := by
  rw [binv_quo _ _ _ _ (by omega)]
  have e : (x : Int).tdiv (k : Int) = ((x / k : Nat) : Int) := rfl
  have hd := Nat.div_le_self x k
  rw [e]
  generalize x / k = q at hd
  rw [wrap_u64 (by omega) (by omega)]
theorem addU {x y : Nat} (h : x + y < 18446744073709551616) : binv .int .add (.int .u64 (x : Int)) (.int .u64 (y : Int)) = some (.int .u64 ((x + y : Nat) : Int)) := by
  rw [binv_add, wrap_u64 (by omega) (by omega)]
  simp
theorem mulU {x y : Nat} (h : x * y < 18446744073709551616) : binv .int .mul (.int .u64 (x : Int)) (.int .u64 (y : Int)) = some (.int .u64 ((x * y : Nat) : Int)) := by
  have e : (x : Int) * (y : Int) = ((x * y : Nat) : Int) := by simp
  rw [binv_mul, e, wrap_u64 (by omega) (by omega)]
/-- a loop of something made, and a variable that counts down. -/
theorem loop_dn2 {B : (Value → Value → World → Prop) → (Value → Value → World → Nat) → Value → Value → World → Prop} {w : World} {o t : Value} (n : Nat) (I : Value → Nat → World → Prop) (ht : t = .int .i64 ((n : Int) - 1)) (h0 : I o n w)
    (h : ∀ o k w1, k ≤ n → I o k w1 → ∀ J m, (∀ o' w', 0 < k → I o' (k - 1) w' → J o' (.int .i64 ((k : Int) - 1 - 1)) w' ∧ m o' (.int .i64 ((k : Int) - 1 - 1)) w' < m o (.int .i64 ((k : Int) - 1)) w1) → B J m o (.int .i64 ((k : Int) - 1)) w1) :
    ∃ (J : Value → Value → World → Prop) (m : Value → Value → World → Nat), J o t w ∧ ∀ (_d : Env) (o t : Value) (w1 : World), J o t w1 → B J m o t w1 := by
  refine ⟨fun o t w' => ∃ i : Nat, t = .int .i64 ((i : Int) - 1) ∧ i ≤ n ∧ I o i w', fun _ t _ => match t with | .int _ k => (k + 1).toNat | _ => 0, ⟨n, ht, Nat.le_refl _, h0⟩, ?_⟩
  rintro _ o _ w1 ⟨i, rfl, h1, h3⟩
  exact h o i w1 h1 h3 _ _ fun o' w' h4 h5 => ⟨⟨i - 1, by congr 1; omega, by omega, h5⟩, by simp; omega⟩
set_option linter.unusedSimpArgs false
set_option linter.unusedVariables false
set_option maxRecDepth 20000
set_option maxHeartbeats 4000000
attribute [local congr] BND_cg COND_cg GEF_cg
attribute [local irreducible] capl slicea load1 loadn iaddr iaddra faddr storev newslice binv lookv mupd mdel mlenv mentry mestore slicev slicev3 slices indexs indexav textv rangev nexts clearv shiftv eqaggv convi buildv pickv lens lenl unv nilchk extractv partn JOIN
section
variable {w : World} {R : Value → World → Prop}
end
end Go.Proofs.YtpclfkjbhlekaaaDoor
end

section
namespace Go.Proofs.YtpclfkjbhlekaaaDoor
open Go.Den Go.Disk Go.Vint Go.Crc Go.Frame Go.Rec Go.Nm
theorem join_v2 {f : (Value → Value → World → Prop) → Prop} {k : Value → Value → World → Prop} (Q : Value → Value → World → Prop) (h : ∀ K, (∀ a b w', Q a b w' → K a b w') → f K) (hk : ∀ a b w', Q a b w' → k a b w') : JOIN f k := h k hk
theorem dig_conv {n : Nat} (h : n < 10) : convi .u8 (.int .u64 ((48 + n : Nat) : Int)) = some (.int .u8 ((UInt8.ofNat (48 + n)).toNat : Int)) := by
  rw [conv8n, UInt8.toNat_ofNat']
theorem dec_size {n : Nat} (h : n < 18446744073709551616) : (Lib.decDigits n).length ≤ 20 := (dec_len 19 n (by omega)).1
theorem txB_one (c : UInt8) : txB [c] = ⟨#[c]⟩ := rfl
theorem dec_cat {n : Nat} (h : ¬ n < 10) : (⟨(Lib.decDigits (n / 10)).toArray⟩ : ByteArray) ++ txB [UInt8.ofNat (48 + n % 10)] = ⟨(Lib.decDigits n).toArray⟩ := by
  refine ByteArray.ext (Array.ext' ?_)
  rw [dec_big h]
  simp [txB]
set_option linter.unusedSimpArgs false
set_option linter.unusedVariables false
set_option maxRecDepth 20000
set_option maxHeartbeats 4000000
attribute [local congr] BND_cg COND_cg GEF_cg
attribute [local irreducible] capl slicea load1 loadn iaddr iaddra faddr storev newslice binv lookv mupd mdel mlenv mentry mestore slicev slicev3 slices indexs indexav textv rangev nexts clearv shiftv eqaggv convi buildv pickv lens lenl unv nilchk extractv partn JOIN
theorem r14_digits : ∀ (n : Nat), n < 18446744073709551616 → ∀ {w : World} {R : Value → World → Prop}, (∀ w', Fr [] w w' → R (.string ⟨(Lib.decDigits n).toArray⟩) w') → CALL PR F_tumbrelref14_digits [.int .u64 (n : Int)] w R := by
  intro n
  induction n using Nat.strongRecOn with
  | _ n ih =>
    intro hn w R hR
    refine C_tumbrelref14_digits ?_
    unfold M_tumbrelref14_digits
    have e1 := remU n 10 (by omega)
    have e2 : binv .int .add (.int .u64 48) (.int .u64 ((n % 10 : Nat) : Int)) = some (.int .u64 ((48 + n % 10 : Nat) : Int)) := addU (x := 48) (by omega)
    have e3 := dig_conv (n := n % 10) (by omega)
    (repeat refine gg ?_)
    refine newone_step (enc := encB) (x := UInt8.ofNat (48 + n % 10)) (y := .int .u8 ((UInt8.ofNat (48 + n % 10)).toNat : Int)) encB_len rfl fun t w1 s1 f1 z1 => ?_
    have et := textB s1.arr
    by_cases h : n < 10
    · (repeat refine gg ?_)
      have := hR w1 f1
      rw [dec_small h] at this
      rw [show n % 10 = n by omega]
      exact this
    · have e4 := quoU n 10 (by omega) hn
      (repeat refine gg ?_)
      refine ih (n / 10) (by omega) (by omega) fun w2 f2 => ?_
      have hs := dec_size (n := n / 10) (by omega)
      have ec := cat_ (x := ⟨(Lib.decDigits (n / 10)).toArray⟩) (y := txB [UInt8.ofNat (48 + n % 10)]) (by rw [arr_size (Lib.decDigits (n / 10))]; show _ + 1 < 1000000; omega)
      rw [dec_cat h] at ec
      (repeat refine gg ?_)
      exact hR _ (f1.trans' f2)
section
variable {w : World} {R : Value → World → Prop}
theorem r14_Of (k : UInt8) (n : Nat) (hn : n < 18446744073709551616) (hR : ∀ w', Fr [] w w' → R (.tuple #[.string (nameOf k n).1, .int .i64 (nameOf k n).2]) w') : CALL PR F_tumbrelref14_Of [.int .u8 (k.toNat : Int), .int .u64 (n : Int)] w R := by
  refine C_tumbrelref14_Of ?_
  unfold M_tumbrelref14_Of
  obtain ⟨L, hL⟩ : ∃ L : Int, L = 9999999999 := ⟨_, rfl⟩
  rw [← hL]
  have kinj : ∀ c : UInt8, ((k.toNat : Nat) : Int) = ((c.toNat : Nat) : Int) ↔ k = c := fun c => by rw [Int.ofNat_inj, UInt8.toNat_inj]
  have bad : okN k n = false → R (.tuple #[.string ⟨#[]⟩, .int .i64 1]) w := fun h => by
    have := hR w (Fr.refl _ _)
    unfold nameOf at this
    rw [if_neg (by rw [h]; simp)] at this
    exact this
  have good : kindN k = true → n < 10000000000 → ∀ (f : (Value → Value → World → Prop) → Prop), (∀ K : Value → Value → World → Prop, (∀ w', Fr [] w w' → K (.string (nmB k n)) (.int .i64 0) w') →
      ((BND (newslice 5 #[(Value.int .u8 0)] 1 2 [(0, 1, .int .u8 (k.toNat : Int)), (1, 1, (Value.int .u8 46))] w.drew) fun p_ => NEW p_ fun t21 w2 => BND (textv .u8 textOfBytes w2 t21) fun t22 => CALL PR F_tumbrelref14_digits [.int .u64 (n : Int)] w2 fun t24 w3 => BND (binv .str .add t22 t24) fun t25 => K t25 (Value.int .i64 0) w3) ∧
      (BND (newslice 5 #[(Value.int .u8 0)] 1 2 [(0, 1, .int .u8 (k.toNat : Int)), (1, 1, (Value.int .u8 46))] w.drew) fun p_ => NEW p_ fun t21 w4 => CALL PR F_tumbrelref14_digits [.int .u64 (n : Int)] w4 fun t24 w5 => BND (textv .u8 textOfBytes w5 t21) fun t22 => BND (binv .str .add t22 t24) fun t25 => K t25 (Value.int .i64 0) w5) ∧
      (CALL PR F_tumbrelref14_digits [.int .u64 (n : Int)] w.drew fun t24 w6 => BND (newslice 5 #[(Value.int .u8 0)] 1 2 [(0, 1, .int .u8 (k.toNat : Int)), (1, 1, (Value.int .u8 46))] w6) fun p_ => NEW p_ fun t21 w7 => BND (textv .u8 textOfBytes w7 t21) fun t22 => BND (binv .str .add t22 t24) fun t25 => K t25 (Value.int .i64 0) w7)) → f K) →
      JOIN f fun t4 t5 w1 => R (.tuple #[t4, t5]) w1 := by
    intro hk hlt f hf
    have hs := dec_size hn
    have ec := cat_ (x := txB [k, 46]) (y := ⟨(Lib.decDigits n).toArray⟩) (by rw [arr_size (Lib.decDigits n)]; show 2 + _ < 1000000; omega)
    have en : txB [k, 46] ++ (⟨(Lib.decDigits n).toArray⟩ : ByteArray) = nmB k n := by
      refine ByteArray.ext (Array.ext' ?_)
      simp [nmB, nmL, txB]
    rw [en] at ec
    have ok : okN k n = true := by unfold okN; rw [hk, decide_eq_true hlt]; rfl
    refine join_v2 (fun a b w' => a = .string (nmB k n) ∧ b = .int .i64 0 ∧ Fr [] w w') (fun K hK => hf K (fun w' fr => hK _ _ _ ⟨rfl, rfl, fr⟩) ⟨?_, ?_, ?_⟩) ?_
    · refine newparts_step encB_len (val := fun x : UInt8 => Value.int .u8 (x.toNat : Int)) (fun _ => rfl) [k, 46] rfl rfl fun t w2 s2 f2 z2 => ?_
      have et := textB s2.arr
      (repeat refine gg ?_)
      refine r14_digits n hn fun w3 f3 => ?_
      (repeat refine gg ?_)
      exact hK _ _ _ ⟨rfl, rfl, ((Fr.drew [] w).trans' f2).trans' f3⟩
    · refine newparts_step encB_len (val := fun x : UInt8 => Value.int .u8 (x.toNat : Int)) (fun _ => rfl) [k, 46] rfl rfl fun t w2 s2 f2 z2 => ?_
      refine r14_digits n hn fun w3 f3 => ?_
      have et := textB (s2.fr f3 (by simp)).arr
      (repeat refine gg ?_)
      exact hK _ _ _ ⟨rfl, rfl, ((Fr.drew [] w).trans' f2).trans' f3⟩
    · refine r14_digits n hn fun w3 f3 => ?_
      refine newparts_step encB_len (val := fun x : UInt8 => Value.int .u8 (x.toNat : Int)) (fun _ => rfl) [k, 46] rfl rfl fun t w2 s2 f2 z2 => ?_
      have et := textB s2.arr
      (repeat refine gg ?_)
      exact hK _ _ _ ⟨rfl, rfl, ((Fr.drew [] w).trans' f3).trans' f2⟩
    · rintro _ _ w' ⟨rfl, rfl, fr⟩
      have := hR w' fr
      unfold nameOf at this
      rw [if_pos ok] at this
      exact this
  by_cases hk : kindN k = true
  · have hk' := hk
    unfold kindN at hk'
    simp only [Bool.or_eq_true, decide_eq_true_eq] at hk'
    have big : L < (n : Int) → R (.tuple #[.string ⟨#[]⟩, .int .i64 1]) w := fun h => bad (by unfold okN; rw [decide_eq_false (show ¬ n < 10000000000 by omega)]; simp)
    by_cases hn' : L < (n : Int)
    · rcases hk' with (rfl | rfl) | rfl
      · have e : (((109 : UInt8).toNat : Nat) : Int) = 109 := rfl
        rw [e]
        (repeat refine gg ?_)
        exact big hn'
      · have e : (((101 : UInt8).toNat : Nat) : Int) = 101 := rfl
        rw [e]
        (repeat refine gg ?_)
        exact big hn'
      · have e : (((115 : UInt8).toNat : Nat) : Int) = 115 := rfl
        rw [e]
        (repeat refine gg ?_)
        exact big hn'
    · rcases hk' with (rfl | rfl) | rfl
      · have e : (((109 : UInt8).toNat : Nat) : Int) = 109 := rfl
        rw [e]
        (repeat refine gg ?_)
        refine ⟨fun _ _ => True, ?_⟩
        exact good hk (by omega) _ fun K _ h => h
      · have e : (((101 : UInt8).toNat : Nat) : Int) = 101 := rfl
        rw [e]
        (repeat refine gg ?_)
        refine ⟨fun _ _ => True, ?_⟩
        exact good hk (by omega) _ fun K _ h => h
      · have e : (((115 : UInt8).toNat : Nat) : Int) = 115 := rfl
        rw [e]
        (repeat refine gg ?_)
        refine ⟨fun _ _ => True, ?_⟩
        exact good hk (by omega) _ fun K _ h => h
  · have hk' := hk
    unfold kindN at hk'
    simp only [Bool.or_eq_true, decide_eq_true_eq, not_or] at hk'
    have n1 : ¬ ((k.toNat : Nat) : Int) = 109 := fun h => hk'.1.1 ((kinj 109).1 h)
    have n2 : ¬ ((k.toNat : Nat) : Int) = 101 := fun h => hk'.1.2 ((kinj 101).1 h)
    have n3 : ¬ ((k.toNat : Nat) : Int) = 115 := fun h => hk'.2 ((kinj 115).1 h)
    (repeat refine gg ?_)
    exact bad (by unfold okN; rw [Bool.eq_false_iff.2 hk]; rfl)
end
end Go.Proofs.YtpclfkjbhlekaaaDoor
end

section
namespace Go.Proofs.YtpclfkjbhlekaaaDoor
open Go.Den Go.Nm Go.Disk Go.Rec Go.RowKit Go.Shelf
def Sent (n : String) (w : World) : Prop := ∃ g T f tp p, PR.globalNamed n = some g ∧ blk w g = some (.cells #[.iface tp p] T f)
theorem Sent.fr {n : String} {w w' : World} (h : Sent n w) (f : Fr [] w w') : Sent n w' := by
  obtain ⟨g, T, q, tp, p, h1, h2⟩ := h
  exact ⟨g, T, q, tp, p, h1, f.some (by simp) h2⟩
theorem Sent.var {n : String} {w : World} (h : Sent n w) : ∃ tp p, w.var? PR n = some #[.iface tp p] := by
  obtain ⟨g, T, q, tp, p, h1, h2⟩ := h
  have h2' : w.heap[g]? = some (.cells #[.iface tp p] T q) := h2
  refine ⟨tp, p, ?_⟩
  unfold World.var?
  rw [h1]
  simp only [Option.bind_some, h2']
structure Errs (w : World) : Prop where
  syn : Sent "strconv.ErrSyntax" w
  rng : Sent "strconv.ErrRange" w
theorem Errs.fr {w w' : World} (h : Errs w) (f : Fr [] w w') : Errs w' := ⟨h.syn.fr f, h.rng.fr f⟩
theorem frb {w w' : World} (h : Below w.heap.size w w') : Fr [] w w' := ⟨h.size, fun b hb _ => h.block b hb, h.os, h.tape, h.output⟩
theorem slices_from2 {s : ByteArray} (h : 2 ≤ s.size) : slices (.string s) (some (.int .i64 2)) none = some (.string (txB (s.data.toList.drop 2))) := by
  have e : s.extract 2 s.size = txB (s.data.toList.drop 2) := by
    refine ByteArray.ext (Array.ext' ?_)
    simp [txB, ByteArray.data_extract]
    exact List.take_of_length_le (by rw [List.length_drop, Array.length_toList]; exact Nat.le_refl _)
  simp only [slices, natOf]
  simp only [show (0 : Int) ≤ 2 by decide, if_true, show (2 : Int).toNat = 2 from rfl, Nat.le_refl, h, and_self, e]
theorem if_nil : ifnilv .neq .nilIface .nilIface = some (.bool false) := rfl
theorem if_some {t : TypeId} {p : Value} : ifnilv .neq (.iface t p) .nilIface = some (.bool true) := rfl
set_option linter.unusedSimpArgs false
set_option linter.unusedVariables false
set_option maxRecDepth 20000
set_option maxHeartbeats 4000000
attribute [local congr] BND_cg COND_cg GEF_cg
attribute [local irreducible] capl slicea load1 loadn iaddr iaddra faddr storev newslice binv lookv mupd mdel mlenv mentry mestore slicev slicev3 slices indexs indexav textv rangev nexts clearv shiftv eqaggv convi buildv pickv lens lenl unv nilchk extractv partn JOIN
section
variable {w : World} {R : Value → World → Prop}
theorem nm_Read (hT : Tab w) (hE : Errs w) (s : ByteArray) (hs : s.size ≤ 281474976710656) (hR : ∀ w', Fr [] w w' → R (.tuple #[.int .u8 ((readN s).1.toNat : Int), .int .u64 ((readN s).2.1 : Int), .bool (readN s).2.2]) w') : CALL PR F_name_Read [.string s] w R := by
  refine C_name_Read ?_
  unfold M_name_Read
  by_cases h3 : s.size < 3
  · (repeat refine gg ?_)
    have := hR w (Fr.refl _ _)
    rw [readN_short (.inl h3)] at this
    exact this
  have e2 := slices_from2 (s := s) (by omega)
  have hlen : s.data.toList.length = s.size := Array.length_toList
  have hts : (txB (s.data.toList.drop 2)).size ≤ 281474976710656 := by show (s.data.toList.drop 2).toArray.size ≤ _; simp; omega
  have e0 := sidx (k := .i64) (headD_at (l := s.data.toList) (by omega))
  have e0' : indexs (.string s) (.int .i64 0) = some (.int .u8 ((s.data.toList.headD 0).toNat : Int)) := e0
  have hrp := readN_prog (s := s) (by omega)
  (repeat refine gg ?_)
  cases hp : Lib.parseUintB 64 (s.data.toList.drop 2) with
  | «syntax» =>
    rw [hp] at hrp
    obtain ⟨tp, p, hv⟩ := hE.syn.var
    refine ⟨(Tryd.strconv_ParseUint_10_at64_syntax_var (txB (s.data.toList.drop 2)) hts (by simpa [txB] using hp) tp p w hv).mono fun e w1 he => ?_⟩
    obtain ⟨N, rfl, _, _, hb⟩ := he
    refine ⟨_, rfl, ?_⟩
    (repeat (first | refine BND_step if_some ?_ | refine gg ?_))
    have := hR w1 (frb hb)
    rw [hrp] at this
    exact this
  | range =>
    rw [hp] at hrp
    obtain ⟨tp, p, hv⟩ := hE.rng.var
    refine ⟨(Tryd.strconv_ParseUint_10_at64_range_var (txB (s.data.toList.drop 2)) hts (by simpa [txB] using hp) tp p w hv).mono fun e w1 he => ?_⟩
    obtain ⟨N, rfl, _, _, hb⟩ := he
    refine ⟨_, rfl, ?_⟩
    (repeat (first | refine BND_step if_some ?_ | refine gg ?_))
    have := hR w1 (frb hb)
    rw [hrp] at this
    exact this
  | ok u =>
    rw [hp] at hrp
    have hu : u ≤ 18446744073709551615 := Lib.parseUintB_le hp
    refine ⟨(Tryd.strconv_ParseUint_10_at64_ok (txB (s.data.toList.drop 2)) (by omega) u (by simpa [txB] using hp) w).mono fun e w1 he => ?_⟩
    obtain ⟨rfl, hw⟩ := he
    have f1 : Fr [] w w1 := by
      rcases hw with rfl | rfl
      · exact Fr.refl _ _
      · exact frb (Lib.bytesWorld_below _ _ _)
    refine ⟨_, rfl, ?_⟩
    (repeat (first | refine BND_step if_nil ?_ | refine gg ?_))
    refine name_Of (hT.fr f1) (s.data.toList.headD 0) u (by omega) fun w2 f2 => ?_
    have f02 := f1.trans' f2
    simp only at hrp
    have := hR w2 f02
    rw [hrp] at this
    cases hk : okN (s.data.toList.headD 0) u with
    | false =>
      rw [hk] at this
      have en : nameOf (s.data.toList.headD 0) u = (ByteArray.empty, 1) := by unfold nameOf; rw [hk]; rfl
      rw [en]
      have ne : ¬ (ByteArray.empty = s) := fun e => by subst e; simp at h3
      (repeat refine gg ?_)
      simpa using this
    | true =>
      rw [hk] at this
      have en : nameOf (s.data.toList.headD 0) u = (nmB (s.data.toList.headD 0) u, 0) := by unfold nameOf; rw [hk]; rfl
      rw [en]
      by_cases he : nmB (s.data.toList.headD 0) u = s
      · (repeat refine gg ?_)
        rw [if_pos ⟨rfl, he⟩] at this
        exact this
      · (repeat refine gg ?_)
        rw [if_neg fun h => he h.2] at this
        exact this
end
end Go.Proofs.YtpclfkjbhlekaaaDoor
end

section
namespace Go.Proofs.YtpclfkjbhlekaaaDoor
open Go.Den Go.Nm Go.Disk Go.Rec
theorem conv64 (c : Nat) (h : c < 256) : convi .u64 (.int .u8 (c : Int)) = some (.int .u64 (c : Int)) := by
  simp only [convi]
  rw [IntKind.wrap_u64, Int.emod_eq_of_lt (by omega) (by omega)]
theorem sub48 {c : Nat} (h : 48 ≤ c) (h2 : c < 256) : binv .int .sub (.int .u8 (c : Int)) (.int .u8 48) = some (.int .u8 ((c - 48 : Nat) : Int)) := by
  have e : binv .int .sub (.int .u8 (c : Int)) (.int .u8 48) = some (.int .u8 (IntKind.u8.wrap ((c : Int) - 48))) := rfl
  rw [e]
  have : IntKind.u8.wrap ((c : Int) - 48) = ((c - 48 : Nat) : Int) := by
    simp only [IntKind.wrap, IntKind.signed, IntKind.bits]
    simp
    omega
  rw [this]
theorem valD_le : ∀ (k : Nat) (l : List UInt8), l.length ≤ k → (∀ c ∈ l, 48 ≤ c.toNat ∧ c.toNat ≤ 57) → valD l < 10 ^ k := by
  intro k
  induction k with
  | zero => intro l h _; have : l = [] := List.length_eq_zero_iff.1 (by omega); subst this; decide
  | succ k ih =>
    intro l h hd
    rcases List.eq_nil_or_concat l with rfl | ⟨r, c, rfl⟩
    · exact Nat.pow_pos (by omega)
    · rw [List.concat_eq_append] at h hd ⊢
      rw [valD_snoc]
      have h1 := ih r (by simp at h; omega) (fun x hx => hd x (by simp [hx]))
      have h2 := hd c (by simp)
      rw [Nat.pow_succ]; omega
set_option linter.unusedSimpArgs false
set_option linter.unusedVariables false
set_option maxRecDepth 20000
set_option maxHeartbeats 4000000
attribute [local congr] BND_cg COND_cg GEF_cg
attribute [local irreducible] capl slicea load1 loadn iaddr iaddra faddr storev newslice binv lookv mupd mdel mlenv mentry mestore slicev slicev3 slices indexs indexav textv rangev nexts clearv shiftv eqaggv convi buildv pickv lens lenl unv nilchk extractv partn JOIN
section
variable {w : World} {R : Value → World → Prop}
theorem r14_Read (s : ByteArray) (hR : ∀ w', Fr [] w w' → R (.tuple #[.int .u8 ((readN s).1.toNat : Int), .int .u64 ((readN s).2.1 : Int), .bool (readN s).2.2]) w') : CALL PR F_tumbrelref14_Read [.string s] w R := by
  refine C_tumbrelref14_Read ?_
  unfold M_tumbrelref14_Read
  have no : readN s = (0, 0, false) → ∀ w', Fr [] w w' → R (.tuple #[.int .u8 0, .int .u64 0, .bool false]) w' := fun h w' f => by
    have := hR w' f
    rw [h] at this
    exact this
  have hlen : s.data.toList.length = s.size := Array.length_toList
  by_cases h3 : s.size < 3
  · (repeat refine gg ?_)
    exact no (readN_short (.inl h3)) _ (Fr.refl _ _)
  by_cases h12 : 12 < s.size
  · (repeat refine gg ?_)
    exact no (readN_short (.inr h12)) _ (Fr.refl _ _)
  obtain ⟨c1, hc1⟩ : ∃ c, s.data.toList[1]? = some c := ⟨_, List.getElem?_eq_getElem (by omega)⟩
  have e1 : indexs (.string s) (.int .i64 1) = some (.int .u8 (c1.toNat : Int)) := sidx (k := .i64) hc1
  by_cases hd : c1 ≠ 46
  · have : ¬ (c1.toNat : Int) = 46 := fun h => hd (UInt8.toNat_inj.1 (by have : (46 : UInt8).toNat = 46 := rfl; omega))
    (repeat refine gg ?_)
    exact no (readN_dot (by rw [hc1]; simpa using hd)) _ (Fr.refl _ _)
  have hd' : (c1.toNat : Int) = 46 := by rw [Decidable.not_not.1 hd]; rfl
  (repeat refine gg ?_)
  refine loop_up2 (o := .int .u64 0) 2 s.size (fun o i w' => w' = w ∧ o = .int .u64 (valD ((s.data.toList.drop 2).take (i - 2)) : Int) ∧ ∀ c ∈ (s.data.toList.drop 2).take (i - 2), 48 ≤ c.toNat ∧ c.toNat ≤ 57) ⟨rfl, rfl, by simp⟩ (by omega) ?_
  rintro o i w1 hi1 hi2 ⟨rfl, rfl, hdg⟩ J m hJ
  by_cases hlt : i < s.size
  · obtain ⟨c, hc⟩ : ∃ c, s.data.toList[i]? = some c := ⟨_, List.getElem?_eq_getElem (by omega)⟩
    have ei := sidx (k := .i64) hc
    have hc256 := c.toNat_lt
    by_cases q1 : c.toNat < 48
    · (repeat refine gg ?_)
      exact no (readN_digit hi1 hc (.inl q1)) _ (Fr.refl _ _)
    by_cases q2 : 57 < c.toNat
    · (repeat refine gg ?_)
      exact no (readN_digit hi1 hc (.inr q2)) _ (Fr.refl _ _)
    have hv := valD_le 10 ((s.data.toList.drop 2).take (i - 2)) (by rw [List.length_take]; omega) hdg
    have es := sub48 (c := c.toNat) (by omega) (by omega)
    have ec := conv64 (c.toNat - 48) (by omega)
    have em : binv .int .mul (.int .u64 10) (.int .u64 (valD ((s.data.toList.drop 2).take (i - 2)) : Int)) = some (.int .u64 ((10 * valD ((s.data.toList.drop 2).take (i - 2)) : Nat) : Int)) := mulU (x := 10) (by omega)
    have ea := addU (x := 10 * valD ((s.data.toList.drop 2).take (i - 2))) (y := c.toNat - 48) (by omega)
    have ht : (s.data.toList.drop 2).take (i + 1 - 2) = (s.data.toList.drop 2).take (i - 2) ++ [c] := by
      rw [show i + 1 - 2 = (i - 2) + 1 by omega, List.take_add_one, List.getElem?_drop, show 2 + (i - 2) = i by omega, hc]; rfl
    (repeat refine gg ?_)
    refine hJ _ _ hlt ⟨rfl, by rw [ht, valD_snoc], fun x hx => ?_⟩
    rw [ht] at hx
    rcases List.mem_append.1 hx with hx | hx
    · exact hdg x hx
    · simp at hx; subst hx; omega
  · have ht : (s.data.toList.drop 2).take (i - 2) = s.data.toList.drop 2 := List.take_of_length_le (by rw [List.length_drop]; omega)
    rw [ht] at hdg ⊢
    have e0 := sidx (k := .i64) (headD_at (l := s.data.toList) (by omega))
    have e0' : indexs (.string s) (.int .i64 0) = some (.int .u8 ((s.data.toList.headD 0).toNat : Int)) := e0
    have hv := valD_le 10 (s.data.toList.drop 2) (by rw [List.length_drop]; omega) hdg
    (repeat refine gg ?_)
    refine r14_Of (s.data.toList.headD 0) _ (by omega) fun w2 f2 => ?_
    have := hR w2 f2
    unfold Nm.readN at this
    cases hk : okN (s.data.toList.headD 0) (valD (s.data.toList.drop 2)) with
    | false =>
      rw [hk] at this
      have en : nameOf (s.data.toList.headD 0) (valD (s.data.toList.drop 2)) = (ByteArray.empty, 1) := by unfold nameOf; rw [hk]; rfl
      rw [en]
      (repeat refine gg ?_)
      simpa using this
    | true =>
      rw [hk] at this
      have en : nameOf (s.data.toList.headD 0) (valD (s.data.toList.drop 2)) = (nmB (s.data.toList.headD 0) (valD (s.data.toList.drop 2)), 0) := by unfold nameOf; rw [hk]; rfl
      rw [en]
      by_cases he : nmB (s.data.toList.headD 0) (valD (s.data.toList.drop 2)) = s
      · (repeat refine gg ?_)
        rw [if_pos ⟨rfl, he⟩] at this
        exact this
      · (repeat refine gg ?_)
        rw [if_neg fun h => he h.2] at this
        exact this
end
end Go.Proofs.YtpclfkjbhlekaaaDoor
end

section
namespace Go.Proofs.YtpclfkjbhlekaaaDoor
open Go.Den Go.Nm Go.Disk
def encT (s : ByteArray) : List Value := [.string s]
theorem encT_len (s : ByteArray) : (encT s).length = 1 := rfl
theorem encT_one (s : ByteArray) : ∀ u ∈ encT s, u.oneCell' = true := by intro u hu; simp [encT] at hu; subst hu; rfl
def largeN (l : List ByteArray) : Bool := decide (200 < l.length) || l.any fun s => decide (300 < s.size)
theorem largeN_no {l : List ByteArray} (h : largeN l = false) : l.length ≤ 200 ∧ ∀ s ∈ l, s.size ≤ 300 := by
  unfold largeN at h
  simp only [Bool.or_eq_false_iff, decide_eq_false_iff_not, List.any_eq_false, decide_eq_true_eq] at h
  exact ⟨by omega, fun a ha => by have := h.2 a ha; omega⟩
set_option linter.unusedSimpArgs false
set_option linter.unusedVariables false
set_option maxRecDepth 20000
set_option maxHeartbeats 4000000
attribute [local congr] BND_cg COND_cg GEF_cg
attribute [local irreducible] capl slicea load1 loadn iaddr iaddra faddr storev newslice binv lookv mupd mdel mlenv mentry mestore slicev slicev3 slices indexs indexav textv rangev nexts clearv shiftv eqaggv convi buildv pickv lens lenl unv nilchk extractv partn JOIN
section
variable {w : World} {R : Value → World → Prop}
theorem r14_Large {lv : Value} {l : List ByteArray} (ha : Arr encT 1 w lv l) (hR : R (.bool (largeN l)) w) : CALL PR F_tumbrelref14_Large [lv] w R := by
  refine C_tumbrelref14_Large ?_
  unfold M_tumbrelref14_Large
  by_cases hl : 200 < l.length
  · (repeat (first | refine BND_step ha.len ?_ | refine gg ?_))
    unfold largeN at hR
    rw [decide_eq_true hl, Bool.true_or] at hR
    exact hR
  · (repeat (first | refine BND_step ha.len ?_ | refine gg ?_))
    refine loop_up 0 l.length (fun i w' => w' = w ∧ ∀ a ∈ l.take i, a.size ≤ 300) ⟨rfl, by simp⟩ (by omega) ?_
    rintro i w1 - hi ⟨rfl, e⟩ J m hJ
    by_cases hlt : i < l.length
    · have hx := List.getElem?_eq_getElem hlt
      generalize l[i] = p at hx
      obtain ⟨b1, o1, i1, m1, _, l1⟩ := ha.spot hx rfl .i64
      (repeat (first | refine BND_step ha.len ?_ | refine BND_step (l1 (w' := w1) rfl (j := 0) rfl) ?_ | refine gg ?_))
      by_cases hs : 300 < p.size
      · (repeat refine gg ?_)
        have : largeN l = true := by
          unfold largeN
          rw [Bool.or_eq_true]
          exact .inr (List.any_eq_true.2 ⟨p, List.mem_of_getElem? hx, by simpa using hs⟩)
        rwa [this] at hR
      · (repeat refine gg ?_)
        refine hJ _ hlt ⟨rfl, fun a h => ?_⟩
        rw [List.take_add_one, hx] at h
        rcases List.mem_append.1 h with h | h
        · exact e a h
        · simp at h; subst h; omega
    · (repeat (first | refine BND_step ha.len ?_ | refine gg ?_))
      obtain rfl : i = l.length := by omega
      rw [List.take_length] at e
      have : largeN l = false := by
        unfold largeN
        simp only [Bool.or_eq_false_iff, decide_eq_false_iff_not, List.any_eq_false, decide_eq_true_eq]
        exact ⟨hl, fun a ha' => by have := e a ha'; omega⟩
      rwa [this] at hR
end
end Go.Proofs.YtpclfkjbhlekaaaDoor
end

section
namespace Go.Proofs.YtpclfkjbhlekaaaDoor.Sort64
open Go.Den

/-! ## Lists by place -/
abbrev enU (n : Int) : List Value := [.int .u64 n]
theorem enU_len (r : Int) : (enU r).length = 1 := rfl
theorem enU_one (r : Int) : ∀ u ∈ enU r, u.oneCell' = true := by intro u hu; simp [enU] at hu; subst hu; rfl
def at0 (xs : List Int) (i : Nat) : Int := xs.getD i 0
def swp (xs : List Int) (i j : Nat) : List Int := (xs.set i (at0 xs j)).set j (at0 xs i)
theorem at0_get {xs : List Int} {i : Nat} (h : i < xs.length) : xs[i]? = some (at0 xs i) := by
  unfold at0
  rw [List.getD_eq_getElem?_getD, List.getElem?_eq_getElem h]; rfl
theorem len_swp (xs : List Int) (i j : Nat) : (swp xs i j).length = xs.length := by simp [swp]
theorem at0_swp {xs : List Int} {i j : Nat} (hi : i < xs.length) (hj : j < xs.length) (k : Nat) : at0 (swp xs i j) k = if k = j then at0 xs i else if k = i then at0 xs j else at0 xs k := by
  unfold swp
  have : ∀ (ys : List Int) (m : Nat) (x : Int), m < ys.length → at0 (ys.set m x) k = if k = m then x else at0 ys k := fun ys m x hm => by
    unfold at0
    rw [List.getD_eq_getElem?_getD, List.getD_eq_getElem?_getD, List.getElem?_set]
    by_cases h : m = k
    · subst h; simp [hm]
    · rw [if_neg h, if_neg (fun e => h e.symm)]
  rw [this _ j _ (by simpa using hj), this _ i _ hi]
theorem set_at0 (xs : List Int) (i : Nat) : xs.set i (at0 xs i) = xs := by
  apply List.ext_getElem?
  intro k
  rw [List.getElem?_set]
  split
  · rename_i h; subst h
    split
    · rename_i hl; exact (at0_get hl).symm
    · rename_i hl; exact (List.getElem?_eq_none (by omega)).symm
  · rfl
theorem swp_perm {xs : List Int} {i j : Nat} (hi : i < xs.length) (hj : j < xs.length) : (swp xs i j).Perm xs := by
  have key : ∀ {i j : Nat}, i < j → j < xs.length → ((xs.set i (at0 xs j)).set j (at0 xs i)).Perm xs := by
    intro i j hij hj
    have hi : i < xs.length := by omega
    have e1 : xs = xs.take i ++ at0 xs i :: (xs.drop (i + 1)) := by
      conv => lhs; rw [← List.take_append_drop i xs]
      congr 1
      have : xs[i]? = some (at0 xs i) := at0_get hi
      obtain ⟨h1, h2⟩ := List.getElem?_eq_some_iff.1 this
      rw [List.drop_eq_getElem_cons hi, h2]
    have e2 : xs.drop (i + 1) = (xs.drop (i + 1)).take (j - (i + 1)) ++ at0 xs j :: xs.drop (j + 1) := by
      conv => lhs; rw [← List.take_append_drop (j - (i + 1)) (xs.drop (i + 1))]
      congr 1
      rw [List.drop_drop, show i + 1 + (j - (i + 1)) = j by omega]
      have : xs[j]? = some (at0 xs j) := at0_get hj
      obtain ⟨h1, h2⟩ := List.getElem?_eq_some_iff.1 this
      rw [List.drop_eq_getElem_cons hj, h2]
    have hL : (xs.take i).length = i := by simp; omega
    have hM : ((xs.drop (i + 1)).take (j - (i + 1))).length = j - (i + 1) := by simp; omega
    generalize xs.take i = L at e1 hL
    generalize (xs.drop (i + 1)).take (j - (i + 1)) = M at e2 hM
    generalize xs.drop (j + 1) = N at e2
    rw [e2] at e1
    generalize at0 xs i = x at *
    generalize at0 xs j = y at *
    subst e1
    have s1 : (L ++ x :: (M ++ y :: N)).set i y = L ++ y :: (M ++ y :: N) := by
      rw [List.set_append_right _ _ (by omega), hL, Nat.sub_self, List.set_cons_zero]
    have s2 : (L ++ y :: (M ++ y :: N)).set j x = L ++ y :: (M ++ x :: N) := by
      rw [List.set_append_right _ _ (by omega), hL, show j - i = (j - (i + 1)) + 1 by omega, List.set_cons_succ, List.set_append_right _ _ (by omega), hM, Nat.sub_self, List.set_cons_zero]
    rw [s1, s2]
    refine List.Perm.append_left L ?_
    refine (List.perm_middle.cons y).trans ?_
    refine (List.Perm.swap x y (M ++ N)).trans ?_
    exact (List.perm_middle.symm).cons x
  unfold swp
  rcases Nat.lt_trichotomy i j with h | h | h
  · exact key h hj
  · subst h
    rw [List.set_set, set_at0]
  · have : (xs.set i (at0 xs j)).set j (at0 xs i) = (xs.set j (at0 xs i)).set i (at0 xs j) := List.set_comm _ _ (by omega)
    rw [this]
    exact key h hi

/-- swaps within [a, b). -/
inductive Mix (a b : Nat) : List Int → List Int → Prop where
  | refl (xs : List Int) : Mix a b xs xs
  | swap {xs ys : List Int} (i j : Nat) (hi : a ≤ i) (hi' : i < b) (hj : a ≤ j) (hj' : j < b) (h : Mix a b xs ys) : Mix a b xs (swp ys i j)
section
variable {a b c d : Nat} {xs ys zs : List Int}
theorem Mix.trans (h : Mix a b xs ys) (h' : Mix a b ys zs) : Mix a b xs zs := by
  induction h' with
  | refl => exact h
  | swap i j h1 h2 h3 h4 _ ih => exact .swap i j h1 h2 h3 h4 ih
theorem Mix.wider (h : Mix a b xs ys) (h1 : c ≤ a) (h2 : b ≤ d) : Mix c d xs ys := by
  induction h with
  | refl => exact .refl _
  | swap i j _ _ _ _ _ ih => exact .swap i j (by omega) (by omega) (by omega) (by omega) ih
theorem Mix.len (h : Mix a b xs ys) : ys.length = xs.length := by
  induction h with
  | refl => rfl
  | swap i j _ _ _ _ _ ih => rw [len_swp, ih]
theorem Mix.perm (h : Mix a b xs ys) (hb : b ≤ xs.length) : ys.Perm xs := by
  induction h with
  | refl => exact .refl _
  | swap i j _ _ _ _ hm ih =>
    have := hm.len
    exact (swp_perm (by omega) (by omega)).trans (ih)
theorem Mix.out (h : Mix a b xs ys) (hb : b ≤ xs.length) (k : Nat) (hk : k < a ∨ b ≤ k) : at0 ys k = at0 xs k := by
  induction h with
  | refl => rfl
  | swap i j _ _ _ _ hm ih =>
    have := hm.len
    rw [at0_swp (by omega) (by omega), if_neg (by omega), if_neg (by omega), ih]
theorem Mix.pick (h : Mix a b xs ys) (hb : b ≤ xs.length) (k : Nat) (h1 : a ≤ k) (h2 : k < b) : ∃ m, a ≤ m ∧ m < b ∧ at0 ys k = at0 xs m := by
  induction h generalizing k with
  | refl => exact ⟨k, h1, h2, rfl⟩
  | swap i j _ _ _ _ hm ih =>
    have := hm.len
    rw [at0_swp (by omega) (by omega)]
    split
    · exact ih i (by omega) (by omega)
    split
    · exact ih j (by omega) (by omega)
    · exact ih k h1 h2
theorem Mix.all (h : Mix a b xs ys) (hb : b ≤ xs.length) {p : Int → Prop} (hp : ∀ k, a ≤ k → k < b → p (at0 xs k)) (k : Nat) (h1 : a ≤ k) (h2 : k < b) : p (at0 ys k) := by
  obtain ⟨m, m1, m2, e⟩ := h.pick hb k h1 h2
  rw [e]; exact hp m m1 m2
def Sorted (xs : List Int) (a b : Nat) : Prop := ∀ i j, a ≤ i → i ≤ j → j < b → at0 xs i ≤ at0 xs j
end

/-! ## Numbers -/
theorem inc {n : Nat} (h : n < 1000000000000) : binv .int .add (.int .i64 (n : Int)) (.int .i64 1) = some (.int .i64 ((n + 1 : Nat) : Int)) := by
  rw [binv_add, wrap_i64 (by omega) (by omega)]; congr 2
theorem dec {n : Nat} (h0 : 0 < n) (h : n < 1000000000000) : binv .int .sub (.int .i64 (n : Int)) (.int .i64 1) = some (.int .i64 ((n - 1 : Nat) : Int)) := by
  rw [binv_sub, wrap_i64 (by omega) (by omega)]; congr 2; omega
theorem decI {n : Int} (h0 : -1000000000000 < n) (h : n < 1000000000000) : binv .int .sub (.int .i64 n) (.int .i64 1) = some (.int .i64 (n - 1)) := by
  rw [binv_sub, wrap_i64 (by omega) (by omega)]
theorem addn {n m : Nat} (h : n + m < 1000000000000) : binv .int .add (.int .i64 (n : Int)) (.int .i64 (m : Int)) = some (.int .i64 ((n + m : Nat) : Int)) := by
  rw [binv_add, wrap_i64 (by omega) (by omega)]; congr 2
theorem subn {n m : Nat} (hm : m ≤ n) (h : n < 1000000000000) : binv .int .sub (.int .i64 (n : Int)) (.int .i64 (m : Int)) = some (.int .i64 ((n - m : Nat) : Int)) := by
  rw [binv_sub, wrap_i64 (by omega) (by omega)]; congr 2; omega
theorem quon {n : Nat} (m : Nat) (hm : 0 < m) (h : n < 1000000000000) : binv .int .quo (.int .i64 (n : Int)) (.int .i64 (m : Int)) = some (.int .i64 ((n / m : Nat) : Int)) := by
  have hd : n / m ≤ n := Nat.div_le_self _ _
  have e : (n : Int).tdiv (m : Int) = ((n / m : Nat) : Int) := by rw [Int.tdiv_eq_ediv_of_nonneg (by omega)]; simp
  rw [binv_quo _ _ _ _ (by omega), e]
  generalize n / m = q at hd
  rw [wrap_i64 (by omega) (by omega)]
theorem muln {n m : Nat} (h : n * m < 1000000000000) : binv .int .mul (.int .i64 (n : Int)) (.int .i64 (m : Int)) = some (.int .i64 ((n * m : Nat) : Int)) := by
  rw [binv_mul]
  have e : (n : Int) * (m : Int) = ((n * m : Nat) : Int) := by simp
  rw [e, wrap_i64 (by omega) (by omega)]

/-! ## In memory -/
section
variable {w : World} {v : Value} {xs : List Int} {b : Nat} {R : Value → World → Prop}
theorem ia (s : Slc enU 1 w v xs [b]) {i : Nat} (hi : i < xs.length) : iaddr 1 v (.int .i64 (i : Int)) = some (.pointer (some ⟨b, i, none⟩)) := by
  obtain ⟨b', e, h⟩ := s.iaddr hi .i64
  simp at e; subst e
  rw [h, Nat.mul_one]
theorem ld (s : Slc enU 1 w v xs [b]) {i : Nat} (hi : i < xs.length) : load1 w (.pointer (some ⟨b, i, none⟩)) = some (.int .u64 (at0 xs i)) := by
  have := s.load1 (i := i) (j := 0) (at0_get hi) (by omega)
  rw [Nat.mul_one, Nat.add_zero] at this
  exact this
theorem st (s : Slc enU 1 w v xs [b]) {i : Nat} (hi : i < xs.length) (x : Int) : ∃ w', storev 1 w (.pointer (some ⟨b, i, none⟩)) (.int .u64 x) = some w' ∧ Slc enU 1 w' v (xs.set i x) [b] ∧ Fr [b] w w' := by
  obtain ⟨w', e, s', f, _⟩ := s.set1 (i := i) (j := 0) (y := x) (u := .int .u64 x) (at0_get hi) (by omega) (fun m hm => by
    obtain rfl : m = 0 := by omega
    rfl) rfl rfl
  rw [Nat.mul_one, Nat.add_zero] at e
  exact ⟨w', e, s', f⟩
theorem swap_tail (s : Slc enU 1 w v xs [b]) {p q : Nat} (hp : p < xs.length) (hq : q < xs.length) {K : World → Prop} (hK : ∀ w', Slc enU 1 w' v (swp xs p q) [b] → Fr [b] w w' → K w') :
    BND (load1 w.drew (.pointer (some ⟨b, q, none⟩))) fun x => BND (load1 w.drew (.pointer (some ⟨b, p, none⟩))) fun y => BND (iaddr 1 v (.int .i64 (p : Int))) fun d => BND (storev 1 w.drew d x) fun w1 =>
      BND (iaddr 1 v (.int .i64 (q : Int))) fun e => BND (storev 1 w1 e y) fun w2 => K w2 := by
  have sd : Slc enU 1 w.drew v xs [b] := s.fr (Fr.drew [] w) (by simp)
  obtain ⟨w1, e1, s1, f1⟩ := st sd hp (at0 xs q)
  obtain ⟨w2, e2, s2, f2⟩ := st s1 (i := q) (by simpa using hq) (at0 xs p)
  exact BND_step (ld sd hq) <| BND_step (ld sd hp) <| BND_step (ia sd hp) <| BND_step e1 <| BND_step (ia s1 (by simpa using hq)) <| BND_step e2 <| hK w2 s2 ((Fr.drew [b] w).trans' (f1.trans' f2))

theorem less64 (x y : Int) (hR : R (.bool (decide (x < y))) w) : CALL PR F_cmp_Less_uint64 [.int .u64 x, .int .u64 y] w R := by
  refine C_cmp_Less_uint64 ?_
  unfold M_cmp_Less_uint64
  refine C_cmp_isNaN_uint64 ?_
  unfold M_cmp_isNaN_uint64
  refine BND_step (binv_neq _ _ _ _) ?_
  simp only [decide_true, Bool.not_true, isB_ft, isB_ff, grd_false, grd_true, GEF_false, BND_some, pickv_false]
  exact BND_step (binv_lss _ _ _ _) hR

theorem swp_sorted {xs : List Int} {a i j : Nat} (hil : i < xs.length) (haj : a < j) (hji : j ≤ i) (hs : ∀ p q, a ≤ p → p ≤ q → q ≤ i → q ≠ j → p ≠ j → at0 xs p ≤ at0 xs q) (hr : ∀ q, j < q → q ≤ i → at0 xs j ≤ at0 xs q) (hl : at0 xs j < at0 xs (j - 1)) :
    (∀ p q, a ≤ p → p ≤ q → q ≤ i → q ≠ j - 1 → p ≠ j - 1 → at0 (swp xs j (j - 1)) p ≤ at0 (swp xs j (j - 1)) q) ∧ (∀ q, j - 1 < q → q ≤ i → at0 (swp xs j (j - 1)) (j - 1) ≤ at0 (swp xs j (j - 1)) q) := by
  have e := at0_swp (xs := xs) (i := j) (j := j - 1) (by omega) (by omega)
  constructor
  · intro p q hap hpq hqi hq hp
    rw [e p, e q, if_neg hp, if_neg hq]
    by_cases h1 : p = j
    · subst h1
      rw [if_pos rfl]
      by_cases h2 : q = p
      · rw [if_pos h2]; omega
      · rw [if_neg h2]
        exact hs (p - 1) q (by omega) (by omega) hqi h2 (by omega)
    · rw [if_neg h1]
      by_cases h2 : q = j
      · rw [if_pos h2]
        exact hs p (j - 1) hap (by omega) (by omega) (by omega) h1
      · rw [if_neg h2]
        exact hs p q hap hpq hqi h2 h1
  · intro q hq hqi
    rw [e (j - 1), e q, if_pos rfl, if_neg (by omega)]
    by_cases h2 : q = j
    · rw [if_pos h2]; omega
    · rw [if_neg h2]
      exact hr q (by omega) hqi

theorem insertionSort (s : Slc enU 1 w v xs [b]) {lo hi : Nat} (h1 : lo ≤ hi) (h2 : hi ≤ xs.length) (hn : xs.length < 1000000000)
    (hR : ∀ w' ys, Slc enU 1 w' v ys [b] → Mix lo hi xs ys → Sorted ys lo hi → Fr [b] w w' → R (.tuple #[]) w') :
    CALL PR F_slices_insertionSortOrdered_uint64 [v, .int .i64 (lo : Int), .int .i64 (hi : Int)] w R := by
  refine C_slices_insertionSortOrdered_uint64 ?_
  unfold M_slices_insertionSortOrdered_uint64
  refine BND_step (inc (by omega)) ?_
  refine ⟨fun t w' => ∃ (i : Nat) (ys : List Int), t = .int .i64 i ∧ lo < i ∧ (i ≤ hi ∨ i = lo + 1) ∧ Slc enU 1 w' v ys [b] ∧ Mix lo hi xs ys ∧ Sorted ys lo i ∧ Fr [b] w w', fun t _ => match t with | .int _ n => hi + 1 - n.toNat | _ => 0,
    ⟨lo + 1, xs, rfl, by omega, .inr rfl, s, .refl _, fun i j h1 h2 h3 => by
      have : i = j := by omega
      subst this; omega, Fr.refl _ _⟩, ?_⟩
  rintro _ _ w1 ⟨i, ys, rfl, hli, hih, s1, mx, so, f1⟩
  have hyl := mx.len
  refine BND_step (binv_lss _ _ _ _) ?_
  by_cases hlt : i < hi
  · refine COND_dec_true (by omega) ?_
    refine ⟨fun t w' => ∃ (j : Nat) (zs : List Int), t = .int .i64 j ∧ lo ≤ j ∧ j ≤ i ∧ Slc enU 1 w' v zs [b] ∧ Mix lo hi xs zs ∧ (∀ p q, lo ≤ p → p ≤ q → q ≤ i → q ≠ j → p ≠ j → at0 zs p ≤ at0 zs q) ∧ (∀ q, j < q → q ≤ i → at0 zs j ≤ at0 zs q) ∧ Fr [b] w w',
      fun t _ => match t with | .int _ n => n.toNat | _ => 0, ⟨i, ys, rfl, by omega, by omega, s1, mx, fun p q a1 a2 a3 a4 a5 => so p q a1 a2 (by omega), fun q a1 a2 => by omega, f1⟩, ?_⟩
    rintro _ _ w2 ⟨j, zs, rfl, hlj, hji, s2, mz, hs, hr, f2⟩
    have hzl := mz.len
    have sd : Slc enU 1 w2.drew v zs [b] := s2.fr (Fr.drew [] w2) (by simp)
    have fd : Fr [b] w w2.drew := f2.trans' (Fr.drew _ _)
    -- the round's end
    have fin : ∀ w3, Slc enU 1 w3 v zs [b] → Fr [b] w w3 → (lo < j → at0 zs (j - 1) ≤ at0 zs j) → BND (binv .int .add (.int .i64 (i : Int)) (Value.int .i64 1)) fun t14 =>
        ((∃ (i : Nat) (ys : List Int), t14 = .int .i64 i ∧ lo < i ∧ (i ≤ hi ∨ i = lo + 1) ∧ Slc enU 1 w3 v ys [b] ∧ Mix lo hi xs ys ∧ Sorted ys lo i ∧ Fr [b] w w3) ∧ (match t14 with | .int _ n => hi + 1 - n.toNat | _ => 0) < hi + 1 - (i : Int).toNat) := by
      intro w3 s3 f3 hle
      refine BND_step (inc (by omega)) ⟨⟨i + 1, zs, rfl, by omega, .inl (by omega), s3, mz, fun p q a1 a2 a3 => ?_, f3⟩, by simp; omega⟩
      by_cases hq : q = j
      · subst hq
        by_cases hp : p = q
        · subst hp; omega
        · by_cases hp1 : p = q - 1
          · subst hp1; exact hle (by omega)
          · have x1 := hs p (q - 1) a1 (by omega) (by omega) (by omega) hp
            have x2 := hle (by omega)
            omega
      · by_cases hp : p = j
        · subst hp; exact hr q (by omega) (by omega)
        · exact hs p q a1 a2 (by omega) hq hp
    refine BND_step (binv_gtr _ _ _ _) ?_
    by_cases hj0 : lo < j
    · have e1 : decide ((lo : Int) < (j : Int)) = true := by simp [hj0]
      rw [e1]
      simp only [isB_tt, grd_true, BND_some, GEF_true]
      refine BND_step (ia sd (by omega)) <| BND_step (dec (by omega) (by omega)) <| BND_step (ia sd (by omega)) <| BND_step (ld sd (by omega)) <| BND_step (ld sd (by omega)) <| less64 _ _ <| BND_step (pickv_true _ _) ?_
      by_cases hl : at0 zs j < at0 zs (j - 1)
      · refine COND_dec_true hl <| BND_step (dec (by omega) (by omega)) <| BND_step (dec (by omega) (by omega)) <| BND_step (ia sd (by omega)) <| BND_step (ia sd (by omega)) <| swap_tail sd (by omega) (by omega) fun w4 s4 f4 => ?_
        obtain ⟨n1, n2⟩ := swp_sorted (i := i) (by omega) hj0 hji hs hr hl
        exact BND_step (dec (by omega) (by omega)) ⟨⟨j - 1, _, rfl, by omega, by omega, s4, .swap j (j - 1) (by omega) (by omega) (by omega) (by omega) mz, n1, n2, fd.trans' f4⟩, by simp; omega⟩
      · exact COND_dec_false hl (fin _ sd fd fun _ => by omega)
    · have e1 : decide ((lo : Int) < (j : Int)) = false := by simp; omega
      rw [e1]
      simp only [isB_ft, grd_false, BND_some, GEF_false, pickv_false, COND_false]
      exact fin _ sd fd fun h => absurd h hj0
  · refine COND_dec_false (by omega) (hR w1 ys s1 mx (fun p q a1 a2 a3 => so p q a1 a2 (by omega)) f1)

theorem reverseRange (s : Slc enU 1 w v xs [b]) {lo hi : Nat} (h1 : lo < hi) (h2 : hi ≤ xs.length) (hn : xs.length < 1000000000)
    (hR : ∀ w' ys, Slc enU 1 w' v ys [b] → Mix lo hi xs ys → Fr [b] w w' → R (.tuple #[]) w') :
    CALL PR F_slices_reverseRangeOrdered_uint64 [v, .int .i64 (lo : Int), .int .i64 (hi : Int)] w R := by
  refine C_slices_reverseRangeOrdered_uint64 ?_
  unfold M_slices_reverseRangeOrdered_uint64
  refine BND_step (dec (by omega) (by omega)) ?_
  refine ⟨fun ti tj w' => ∃ (i j : Nat) (ys : List Int), ti = .int .i64 i ∧ tj = .int .i64 j ∧ lo ≤ i ∧ i ≤ hi ∧ lo ≤ j + 1 ∧ j < hi ∧ i ≤ j + 2 ∧ Slc enU 1 w' v ys [b] ∧ Mix lo hi xs ys ∧ Fr [b] w w', fun ti _ _ => match ti with | .int _ n => hi - n.toNat | _ => 0,
    ⟨lo, hi - 1, xs, rfl, rfl, by omega, by omega, by omega, by omega, by omega, s, .refl _, Fr.refl _ _⟩, ?_⟩
  rintro _ _ _ w1 ⟨i, j, ys, rfl, rfl, a1, a2, a3, a4, a5, s1, mx, f1⟩
  have hyl := mx.len
  refine BND_step (binv_lss _ _ _ _) ?_
  by_cases hlt : i < j
  · refine COND_dec_true (by omega) <| BND_step (ia s1 (by omega)) <| BND_step (ia s1 (by omega)) <| swap_tail s1 (by omega) (by omega) fun w2 s2 f2 => ?_
    exact BND_step (inc (by omega)) <| BND_step (dec (by omega) (by omega)) ⟨⟨i + 1, j - 1, _, rfl, rfl, by omega, by omega, by omega, by omega, by omega, s2, .swap i j (by omega) (by omega) (by omega) (by omega) mx, f1.trans' f2⟩, by simp; omega⟩
  · exact COND_dec_false (by omega) (hR w1 ys s1 mx f1)

/-! ## The pivot's choice -/
theorem order2 (s : Slc enU 1 w v xs [b]) {i j c T : Nat} {n : Int} (hi : i < xs.length) (hj : j < xs.length) (hc : blk w c = some (.cells #[.int .i64 n] T (0, 0))) (hcb : c ≠ b) (h0 : 0 ≤ n) (h1 : n < 1000000)
    (hR : ∀ w' (p q : Nat) m, (p = i ∧ q = j ∨ p = j ∧ q = i) → blk w' c = some (.cells #[.int .i64 m] T (0, 0)) → 0 ≤ m → m ≤ n + 1 → Fr [c] w w' → R (.tuple #[.int .i64 (p : Int), .int .i64 (q : Int)]) w') :
    CALL PR F_slices_order2Ordered_uint64 [v, .int .i64 (i : Int), .int .i64 (j : Int), .pointer (some ⟨c, 0, none⟩)] w R := by
  refine C_slices_order2Ordered_uint64 ?_
  unfold M_slices_order2Ordered_uint64
  have sd : Slc enU 1 w.drew v xs [b] := s.fr (Fr.drew [] w) (by simp)
  have fd : Fr [c] w w.drew := Fr.drew _ _
  have hcd : blk w.drew c = some (.cells #[.int .i64 n] T (0, 0)) := hc
  refine BND_step (ia sd hj) <| BND_step (ia sd hi) <| BND_step (ld sd hj) <| BND_step (ld sd hi) <| less64 _ _ ?_
  by_cases hl : at0 xs j < at0 xs i
  · refine COND_dec_true hl <| BND_step (nilchk_ptr _) <| BND_step (v := .int .i64 n) (load1_blk hcd) <| BND_step (v := .int .i64 (n + 1)) (by rw [binv_add, wrap_i64 (by omega) (by omega)]) <| BND_step (nilchk_ptr _) <| BND_step (storev1_blk hcd (by simp) rfl rfl) ?_
    exact hR _ j i (n + 1) (.inr ⟨rfl, rfl⟩) (blk_setB_same hcd) (by omega) (by omega) (fd.trans' (Fr.setB (.inl (by simp)) _))
  · exact COND_dec_false hl (hR _ i j n (.inl ⟨rfl, rfl⟩) hcd h0 (by omega) fd)
theorem median (s : Slc enU 1 w v xs [b]) {i j k c T : Nat} {n : Int} (hi : i < xs.length) (hj : j < xs.length) (hk : k < xs.length) (hc : blk w c = some (.cells #[.int .i64 n] T (0, 0))) (hcb : c ≠ b) (h0 : 0 ≤ n) (h1 : n < 1000000 - 3)
    (hR : ∀ w' (p : Nat) m, (p = i ∨ p = j ∨ p = k) → blk w' c = some (.cells #[.int .i64 m] T (0, 0)) → 0 ≤ m → m ≤ n + 3 → Fr [c] w w' → R (.int .i64 (p : Int)) w') :
    CALL PR F_slices_medianOrdered_uint64 [v, .int .i64 (i : Int), .int .i64 (j : Int), .int .i64 (k : Int), .pointer (some ⟨c, 0, none⟩)] w R := by
  refine C_slices_medianOrdered_uint64 ?_
  unfold M_slices_medianOrdered_uint64
  refine order2 s hi hj hc hcb h0 (by omega) fun w1 p q m hpq hc1 m0 m1 f1 => ?_
  have s1 := s.fr f1 (fun x hx => by simp at hx ⊢; omega)
  refine BND_step (v := .int .i64 (p : Int)) rfl <| BND_step (v := .int .i64 (q : Int)) rfl <| order2 s1 (i := q) (j := k) (by omega) hk hc1 hcb m0 (by omega) fun w2 p2 q2 m2 hpq2 hc2 m20 m21 f2 => ?_
  have s2 := s1.fr f2 (fun x hx => by simp at hx ⊢; omega)
  refine BND_step (v := .int .i64 (p2 : Int)) rfl <| BND_step (v := .int .i64 (q2 : Int)) rfl <| order2 s2 (i := p) (j := p2) (by omega) (by omega) hc2 hcb m20 (by omega) fun w3 p3 q3 m3 hpq3 hc3 m30 m31 f3 => ?_
  refine BND_step (v := .int .i64 (p3 : Int)) rfl <| BND_step (v := .int .i64 (q3 : Int)) rfl <| hR w3 q3 m3 ?_ hc3 m30 (by omega) (f1.trans' (f2.trans' f3))
  omega
theorem medianAdj (s : Slc enU 1 w v xs [b]) {i c T : Nat} {n : Int} (hi0 : 0 < i) (hi : i + 1 < xs.length) (hn : xs.length < 1000000000) (hc : blk w c = some (.cells #[.int .i64 n] T (0, 0))) (hcb : c ≠ b) (h0 : 0 ≤ n) (h1 : n < 1000000 - 3)
    (hR : ∀ w' (p : Nat) m, (i - 1 ≤ p ∧ p ≤ i + 1) → blk w' c = some (.cells #[.int .i64 m] T (0, 0)) → 0 ≤ m → m ≤ n + 3 → Fr [c] w w' → R (.int .i64 (p : Int)) w') :
    CALL PR F_slices_medianAdjacentOrdered_uint64 [v, .int .i64 (i : Int), .pointer (some ⟨c, 0, none⟩)] w R := by
  refine C_slices_medianAdjacentOrdered_uint64 ?_
  unfold M_slices_medianAdjacentOrdered_uint64
  refine BND_step (dec hi0 (by omega)) <| BND_step (inc (by omega)) <| median s (i := i - 1) (j := i) (k := i + 1) (by omega) (by omega) hi hc hcb h0 h1 fun w1 p m hp hc1 m0 m1 f1 => ?_
  exact hR w1 p m (by omega) hc1 m0 m1 f1

theorem choosePivot (s : Slc enU 1 w v xs [b]) {lo hi : Nat} (h1 : lo + 12 < hi) (h2 : hi ≤ xs.length) (hn : xs.length < 1000000000)
    (hR : ∀ w' (p : Nat) h, lo ≤ p → p < hi → Slc enU 1 w' v xs [b] → Fr [] w w' → R (.tuple #[.int .i64 (p : Int), .int .i64 h]) w') :
    CALL PR F_slices_choosePivotOrdered_uint64 [v, .int .i64 (lo : Int), .int .i64 (hi : Int)] w R := by
  refine C_slices_choosePivotOrdered_uint64 ?_
  unfold M_slices_choosePivotOrdered_uint64
  refine BND_step (subn (by omega) (by omega)) <| NEW_intro fun w1 b1 f1 z1 => ?_
  have s1 := s.fr f1 (by simp)
  have hcb : hsz w ≠ b := by have := s.lt b (by simp); omega
  have hq := quon (n := hi - lo) 4 (by omega) (by omega)
  have hdv : (hi - lo) / 4 * 4 ≤ hi - lo := Nat.div_mul_le_self _ _
  have hd3 : 3 ≤ (hi - lo) / 4 := by omega
  generalize (hi - lo) / 4 = d at hq hdv hd3
  refine BND_step hq <| BND_step (muln (n := d) (m := 1) (by omega)) <| BND_step (addn (by omega)) <| BND_step hq <| BND_step (muln (n := d) (m := 2) (by omega)) <| BND_step (addn (by omega)) <| BND_step hq <| BND_step (muln (n := d) (m := 3) (by omega)) <| BND_step (addn (by omega)) <| BND_step (binv_geq _ _ _ _) ?_
  have e8 : decide ((8 : Int) ≤ ((hi - lo : Nat) : Int)) = true := by simp; omega
  rw [e8]
  refine JOIN_elim fun K hK => (COND_true _ _).2 <| BND_step (binv_geq _ _ _ _) <| JOIN_elim fun K2 hK2 => ?_
  -- the end
  have fin : ∀ w2 (p : Nat) m, lo ≤ p → p < hi → blk w2 (hsz w) = some (.cells (Value.int .i64 0 |>.cells.set! 0 (.int .i64 m)) 3 (0, 0)) → Fr [hsz w] w1 w2 → K (.int .i64 (p : Int)) w2 := by
    intro w2 p m hp1 hp2 hb f2
    subst hK
    have hb' : load1 w2 (.pointer (some ⟨hsz w, 0, none⟩)) = some (.int .i64 m) := load1_blk hb
    have fr : Fr [] w w2 := f1.trans f2 fun b' hb' => by simp at hb'; subst hb'; exact .inr (by omega)
    have s2 := s.fr fr (by simp)
    refine BND_step hb' <| BND_step (binv_eql _ _ _ _) ?_
    by_cases e0 : m = 0
    · exact COND_dec_true e0 (hR w2 p 1 hp1 hp2 s2 fr)
    · refine COND_dec_false e0 <| BND_step (binv_eql _ _ _ _) ?_
      by_cases e12 : m = 12
      · exact COND_dec_true e12 (hR w2 p 2 hp1 hp2 s2 fr)
      · exact COND_dec_false e12 (hR w2 p 0 hp1 hp2 s2 fr)
  clear hK
  have go : ∀ w3 (i j k : Nat) n, lo ≤ i → i < hi → lo ≤ j → j < hi → lo ≤ k → k < hi → Slc enU 1 w3 v xs [b] → blk w3 (hsz w) = some (.cells #[.int .i64 n] 3 (0, 0)) → 0 ≤ n → n < 1000 → Fr [hsz w] w1 w3 → K2 (.int .i64 (i : Int)) (.int .i64 (j : Int)) (.int .i64 (k : Int)) w3 := by
    intro w3 i j k n i1 i2 j1 j2 k1 k2 s3 b3 n0 n1 f3
    subst hK2
    exact median s3 (by omega) (by omega) (by omega) b3 hcb n0 (by omega) fun w4 p m hp b4 _ _ f4 => fin w4 p m (by omega) (by omega) b4 (f3.trans' f4)
  clear hK2
  have b1' : blk w1 (hsz w) = some (.cells #[.int .i64 0] 3 (0, 0)) := b1
  by_cases h50 : (50 : Int) ≤ ((hi - lo : Nat) : Int)
  · refine COND_dec_true h50 ?_
    refine medianAdj s1 (i := lo + d * 1) (by omega) (by omega) hn b1' hcb (by omega) (by omega) fun w5 p5 m5 hp5 b5 x1 x2 f5 => ?_
    have s5 := s1.fr f5 (fun x hx => by simp at hx ⊢; omega)
    refine medianAdj s5 (i := lo + d * 2) (by omega) (by omega) hn b5 hcb x1 (by omega) fun w6 p6 m6 hp6 b6 y1 y2 f6 => ?_
    have s6 := s5.fr f6 (fun x hx => by simp at hx ⊢; omega)
    refine medianAdj s6 (i := lo + d * 3) (by omega) (by omega) hn b6 hcb y1 (by omega) fun w7 p7 m7 hp7 b7 z1 z2 f7 => ?_
    have s7 := s6.fr f7 (fun x hx => by simp at hx ⊢; omega)
    exact go w7 p5 p6 p7 m7 (by omega) (by omega) (by omega) (by omega) (by omega) (by omega) s7 b7 z1 (by omega) (f5.trans' (f6.trans' f7))
  · exact COND_dec_false h50 (go w1 _ _ _ 0 (by omega) (by omega) (by omega) (by omega) (by omega) (by omega) s1 b1' (by omega) (by omega) (Fr.refl _ _))
end
end Go.Proofs.YtpclfkjbhlekaaaDoor.Sort64
end

section
namespace Go.Proofs.YtpclfkjbhlekaaaDoor.Sort64
open Go.Den

/-! ## Bits -/
def bl (x : Nat) : Nat := if x = 0 then 0 else Nat.log2 x + 1
def len8tab : ByteArray := { data := (List.toArray (List.append (List.append [0, 1, 2, 2, 3, 3, 3, 3, 4, 4, 4, 4, 4, 4, 4, 4, 5, 5, 5, 5, 5, 5, 5, 5, 5, 5, 5, 5, 5, 5, 5, 5, 6, 6, 6, 6, 6, 6, 6, 6, 6, 6, 6, 6, 6, 6, 6, 6, 6, 6, 6, 6, 6, 6, 6, 6, 6, 6, 6, 6, 6, 6, 6, 6] [7, 7, 7, 7, 7, 7, 7, 7, 7, 7, 7, 7, 7, 7, 7, 7, 7, 7, 7, 7, 7, 7, 7, 7, 7, 7, 7, 7, 7, 7, 7, 7, 7, 7, 7, 7, 7, 7, 7, 7, 7, 7, 7, 7, 7, 7, 7, 7, 7, 7, 7, 7, 7, 7, 7, 7, 7, 7, 7, 7, 7, 7, 7, 7]) (List.append [8, 8, 8, 8, 8, 8, 8, 8, 8, 8, 8, 8, 8, 8, 8, 8, 8, 8, 8, 8, 8, 8, 8, 8, 8, 8, 8, 8, 8, 8, 8, 8, 8, 8, 8, 8, 8, 8, 8, 8, 8, 8, 8, 8, 8, 8, 8, 8, 8, 8, 8, 8, 8, 8, 8, 8, 8, 8, 8, 8, 8, 8, 8, 8] [8, 8, 8, 8, 8, 8, 8, 8, 8, 8, 8, 8, 8, 8, 8, 8, 8, 8, 8, 8, 8, 8, 8, 8, 8, 8, 8, 8, 8, 8, 8, 8, 8, 8, 8, 8, 8, 8, 8, 8, 8, 8, 8, 8, 8, 8, 8, 8, 8, 8, 8, 8, 8, 8, 8, 8, 8, 8, 8, 8, 8, 8, 8, 8]))) }
theorem len8_at : ∀ x : Nat, x < 256 → len8tab[x]? = some (UInt8.ofNat (bl x)) ∧ bl x ≤ 8 ∧ (x < 2 ^ bl x) ∧ (0 < x → 2 ^ bl x ≤ 2 * x) := by decide +kernel
theorem wrap_range (n : Int) : 0 ≤ IntKind.u64.wrap n ∧ IntKind.u64.wrap n < 18446744073709551616 := by
  simp only [IntKind.wrap, IntKind.bits, IntKind.signed]
  simp
  omega
section
variable {w : World} {v : Value} {xs : List Int} {b : Nat} {R : Value → World → Prop}
theorem bitsLen {x : Nat} (hx : x < 256) (hR : R (.int .i64 ((bl x : Nat) : Int)) w) : CALL PR F_math_bits_Len [.int .u64 (x : Int)] w R := by
  obtain ⟨h1, h2, _, _⟩ := len8_at x hx
  refine C_math_bits_Len ?_
  unfold M_math_bits_Len
  refine (COND_false _ _).2 ?_
  refine C_math_bits_Len64 ?_
  unfold M_math_bits_Len64
  have hk : convi .u8 (.int .u64 (x : Int)) = some (.int .u8 (x : Int)) := by
    simp only [convi, IntKind.wrap, IntKind.bits, IntKind.signed]
    simp; omega
  have hi : indexs (.string len8tab) (.int .u8 (x : Int)) = some (.int .u8 ((bl x : Nat) : Int)) := by
    simp only [indexs, Int.toNat_natCast, h1]
    simp; omega
  have hc : convi .i64 (.int .u8 ((bl x : Nat) : Int)) = some (.int .i64 ((bl x : Nat) : Int)) := by
    simp only [convi]
    rw [wrap_i64 (by omega) (by omega)]
  refine BND_step (binv_geq _ _ _ _) <| JOIN_elim fun K hK => COND_dec_false (by omega) ?_
  subst hK
  refine BND_step (binv_geq _ _ _ _) <| JOIN_elim fun K hK => COND_dec_false (by omega) ?_
  subst hK
  refine BND_step (binv_geq _ _ _ _) <| JOIN_elim fun K hK => COND_dec_false (by omega) ?_
  subst hK
  refine BND_step hk <| BND_step hi <| BND_step hc <| BND_step (v := .int .i64 ((bl x : Nat) : Int)) ?_ hR
  rw [binv_add, wrap_i64 (by omega) (by omega), Int.zero_add]
theorem nextPow {x : Nat} (hx : x < 256) (hR : R (.int .u64 ((2 ^ bl x : Nat) : Int)) w) : CALL PR F_slices_nextPowerOfTwo [.int .i64 (x : Int)] w R := by
  obtain ⟨_, h2, _, _⟩ := len8_at x hx
  refine C_slices_nextPowerOfTwo ?_
  unfold M_slices_nextPowerOfTwo
  have hk : convi .u64 (.int .i64 (x : Int)) = some (.int .u64 (x : Int)) := by
    simp only [convi]
    rw [wrap_u64 (by omega) (by omega)]
  refine BND_step hk <| bitsLen hx <| BND_step (v := .int .u64 ((2 ^ bl x : Nat) : Int)) ?_ hR
  have hp : 2 ^ bl x ≤ 2 ^ 8 := Nat.pow_le_pow_right (by omega) h2
  have hm : min (bl x) 64 = bl x := by omega
  simp only [shiftv]
  rw [if_pos (by omega)]
  have e : IntKind.u64.bits = 64 := rfl
  rw [Int.toNat_natCast, e, hm, Int.one_mul]
  have e2 : (2 : Int) ^ bl x = ((2 ^ bl x : Nat) : Int) := by simp
  rw [e2, wrap_u64 (by omega) (by omega)]

theorem xor_some (a c : Int) : ∃ y, binv .int .xor (.int .u64 a) (.int .u64 c) = some (.int .u64 y) ∧ 0 ≤ y ∧ y < 18446744073709551616 := by
  exact ⟨_, by rw [binv_int _ _ _ _ _ (by simp) (by simp)]; rfl, (wrap_range _).1, (wrap_range _).2⟩
theorem shl_some (a : Int) (n : Nat) : ∃ y, shiftv .shl (.int .u64 a) (.int .u64 (n : Int)) = some (.int .u64 y) := ⟨_, by simp only [shiftv]; rw [if_pos (by omega)]⟩
theorem shr_some (a : Int) (n : Nat) : ∃ y, shiftv .shr (.int .u64 a) (.int .u64 (n : Int)) = some (.int .u64 y) := ⟨_, by simp only [shiftv]; rw [if_pos (by omega)]⟩
theorem and_some (y : Int) (m : Nat) (hm : m < 1000000) : ∃ z : Nat, binv .int .and (.int .u64 y) (.int .u64 (m : Int)) = some (.int .u64 (z : Int)) ∧ z ≤ m := by
  have e : binv .int .and (.int .u64 y) (.int .u64 (m : Int)) = some (.int .u64 (IntKind.u64.wrap (BitVec.ofInt 64 y &&& BitVec.ofInt 64 (m : Int)).toNat)) := by
    rw [binv_int _ _ _ _ _ (by simp) (by simp)]; rfl
  have hle : (BitVec.ofInt 64 y &&& BitVec.ofInt 64 (m : Int)).toNat ≤ m := by
    rw [BitVec.toNat_and]
    refine Nat.le_trans Nat.and_le_right ?_
    rw [BitVec.ofInt_natCast, BitVec.toNat_ofNat]
    exact Nat.mod_le _ _
  refine ⟨_, ?_, hle⟩
  rw [e, wrap_u64 (by omega) (by omega)]
theorem xorNext {c T : Nat} {x : Int} (hc : blk w c = some (.cells #[.int .u64 x] T (0, 0))) (hR : ∀ w' y, blk w' c = some (.cells #[.int .u64 y] T (0, 0)) → Fr [c] w w' → R (.int .u64 y) w') :
    CALL PR F_slices_xorshift_Next [.pointer (some ⟨c, 0, none⟩)] w R := by
  refine C_slices_xorshift_Next ?_
  unfold M_slices_xorshift_Next
  have one : ∀ (w : World) (x y : Int), blk w c = some (.cells #[.int .u64 x] T (0, 0)) → ∃ w', storev 1 w.drew (.pointer (some ⟨c, 0, none⟩)) (.int .u64 y) = some w' ∧ blk w' c = some (.cells #[.int .u64 y] T (0, 0)) ∧ Fr [c] w w' := by
    intro w x y h
    have hd : blk w.drew c = some (.cells #[.int .u64 x] T (0, 0)) := h
    exact ⟨_, storev1_blk hd (by simp) rfl rfl, blk_setB_same hd, (Fr.drew _ _).trans' (Fr.setB (.inl (by simp)) _)⟩
  have ldd : ∀ (w : World) (x : Int), blk w c = some (.cells #[.int .u64 x] T (0, 0)) → load1 w.drew (.pointer (some ⟨c, 0, none⟩)) = some (.int .u64 x) := fun w x h => load1_blk (w := w.drew) h
  obtain ⟨y1, e1⟩ := shl_some x 13
  obtain ⟨y2, e2, _, _⟩ := xor_some x y1
  obtain ⟨w1, s1, c1, f1⟩ := one w x y2 hc
  obtain ⟨y3, e3⟩ := shr_some y2 7
  obtain ⟨y4, e4, _, _⟩ := xor_some y2 y3
  obtain ⟨w2, s2, c2, f2⟩ := one w1 y2 y4 c1
  obtain ⟨y5, e5⟩ := shl_some y4 17
  obtain ⟨y6, e6, _, _⟩ := xor_some y4 y5
  obtain ⟨w3, s3, c3, f3⟩ := one w2 y4 y6 c2
  refine BND_step (nilchk_ptr _) <| BND_step (nilchk_ptr _) <| BND_step (ldd w x hc) <| BND_step (ldd w x hc) <| BND_step e1 <| BND_step e2 <| BND_step (nilchk_ptr _) <| BND_step s1 ?_
  refine BND_step (nilchk_ptr _) <| BND_step (nilchk_ptr _) <| BND_step (ldd w1 y2 c1) <| BND_step (ldd w1 y2 c1) <| BND_step e3 <| BND_step e4 <| BND_step (nilchk_ptr _) <| BND_step s2 ?_
  refine BND_step (nilchk_ptr _) <| BND_step (nilchk_ptr _) <| BND_step (ldd w2 y4 c2) <| BND_step (ldd w2 y4 c2) <| BND_step e5 <| BND_step e6 <| BND_step (nilchk_ptr _) <| BND_step s3 ?_
  exact BND_step (nilchk_ptr _) <| BND_step (v := .int .u64 y6) (load1_blk c3) <| hR w3 y6 c3 (f1.trans' (f2.trans' f3))

theorem breakPatterns (s : Slc enU 1 w v xs [b]) {lo hi : Nat} (h1 : lo + 12 < hi) (h2 : hi ≤ xs.length) (hn : xs.length < 256)
    (hR : ∀ w' ys, Slc enU 1 w' v ys [b] → Mix lo hi xs ys → Fr [b] w w' → R (.tuple #[]) w') :
    CALL PR F_slices_breakPatternsOrdered_uint64 [v, .int .i64 (lo : Int), .int .i64 (hi : Int)] w R := by
  refine C_slices_breakPatternsOrdered_uint64 ?_
  unfold M_slices_breakPatternsOrdered_uint64
  have hdv : (hi - lo) / 4 * 4 ≤ hi - lo := Nat.div_mul_le_self _ _
  have hd3 : 3 ≤ (hi - lo) / 4 := by omega
  have hqu := quon (n := hi - lo) 4 (by omega) (by omega)
  obtain ⟨_, hb8, hb1, hb2⟩ := len8_at (hi - lo) (by omega)
  replace hb2 := hb2 (by omega)
  refine BND_step (subn (by omega) (by omega)) <| BND_step (binv_geq _ _ _ _) <| JOIN_elim fun K hK => COND_dec_true (by omega) ?_
  have hfin : ∀ w' ys, Slc enU 1 w' v ys [b] → Mix lo hi xs ys → Fr [b] w w' → K w' := by subst hK; exact hR
  clear hK
  have hk : convi .u64 (.int .i64 ((hi - lo : Nat) : Int)) = some (.int .u64 ((hi - lo : Nat) : Int)) := by
    simp only [convi]
    rw [wrap_u64 (by omega) (by omega)]
  refine BND_step hk <| NEW_intro fun w2 b2 f2 z2 => ?_
  obtain ⟨T, b2'⟩ : ∃ T, blk w2 (hsz w) = some (.cells #[.int .u64 0] T (0, 0)) := ⟨_, b2⟩
  have hcb : hsz w ≠ b := by have := s.lt b (by simp); omega
  refine BND_step (storev1_blk b2' (by simp) rfl rfl) ?_
  have b3 := blk_setB_same (o := .cells (#[Value.int .u64 0].setIfInBounds 0 (.int .u64 ((hi - lo : Nat) : Int))) T (0, 0)) b2'
  have f3 : Fr [hsz w] w2 (setB w2 (hsz w) (.cells (#[Value.int .u64 0].setIfInBounds 0 (.int .u64 ((hi - lo : Nat) : Int))) T (0, 0))) := Fr.setB (.inl (by simp)) _
  generalize setB w2 (hsz w) (.cells (#[Value.int .u64 0].setIfInBounds 0 (.int .u64 ((hi - lo : Nat) : Int))) T (0, 0)) = w3 at b3 f3
  have f03 : Fr [] w w3 := f2.trans f3 fun x hx => by simp at hx; subst hx; exact .inr (by omega)
  have s3 := s.fr f03 (by simp)
  refine nextPow (by omega) ?_
  generalize hnn : hi - lo = n at *
  generalize n / 4 = d at *
  generalize 2 ^ bl n = P at *
  refine BND_step hqu <| BND_step (muln (n := d) (m := 2) (by omega)) <| BND_step (addn (by omega)) <| BND_step (dec (by omega) (by omega)) ?_
  refine ⟨fun t w' => ∃ (k : Nat) (ys : List Int) (x : Int), t = .int .i64 k ∧ lo ≤ k ∧ k ≤ lo + d * 2 + 2 ∧ Slc enU 1 w' v ys [b] ∧ Mix lo hi xs ys ∧ blk w' (hsz w) = some (.cells #[.int .u64 x] T (0, 0)) ∧ Fr [b] w w', fun t _ => match t with | .int _ n => lo + d * 2 + 3 - n.toNat | _ => 0,
    ⟨lo + d * 2 - 1, xs, _, rfl, by omega, by omega, s3, .refl _, b3, f03.nil⟩, ?_⟩
  rintro _ _ w5 ⟨k, ys, x, rfl, hk1, hk2, s5, mx, b5, f5⟩
  have hyl := mx.len
  refine BND_step hqu <| BND_step (muln (n := d) (m := 2) (by omega)) <| BND_step (addn (by omega)) <| BND_step (inc (by omega)) <| BND_step (binv_leq _ _ _ _) ?_
  by_cases hle : k ≤ lo + d * 2 + 1
  · refine COND_dec_true (by omega) <| xorNext b5 fun w6 y b6 f6 => ?_
    have s6 := s5.fr f6 (fun z hz => by simp at hz ⊢; omega)
    have hsub : binv .int .sub (.int .u64 (P : Int)) (.int .u64 1) = some (.int .u64 ((P - 1 : Nat) : Int)) := by
      have eP : (P : Int) - 1 = ((P - 1 : Nat) : Int) := by omega
      rw [binv_sub, eP, wrap_u64 (by omega) (by omega)]
    obtain ⟨z, ez, hz⟩ := and_some y (P - 1) (by omega)
    have hcz : convi .i64 (.int .u64 (z : Int)) = some (.int .i64 (z : Int)) := by
      simp only [convi]
      rw [wrap_i64 (by omega) (by omega)]
    have fw6 : Fr [b] w w6 := f5.trans f6 fun u hu => by simp at hu; subst hu; exact .inr (by omega)
    refine BND_step hsub <| BND_step ez <| BND_step hcz <| BND_step (binv_geq _ _ _ _) <| JOIN_elim fun K2 hK2 => ?_
    have go : ∀ (u : Nat), u < n → K2 (.int .i64 (u : Int)) w6 := by
      intro u hu
      subst hK2
      refine BND_step (addn (by omega)) <| BND_step (addn (by omega)) <| BND_step (ia s6 (by omega)) <| BND_step (ia s6 (by omega)) <| swap_tail s6 (by omega) (by omega) fun w9 s9 f9 => ?_
      exact BND_step (inc (by omega)) ⟨⟨k + 1, _, y, rfl, by omega, by omega, s9, .swap k (lo + u) (by omega) (by omega) (by omega) (by omega) mx, f9.some (by simp; omega) b6, fw6.trans' f9⟩, by simp; omega⟩
    by_cases hzn : n ≤ z
    · refine COND_dec_true (by omega) <| BND_step (subn hzn (by omega)) (go _ (by omega))
    · exact COND_dec_false (by omega) (go z (by omega))
  · exact COND_dec_false (by omega) (hfin w5 ys s5 mx f5)

theorem i64c {a c : Int} (h : a = c) : Value.int .i64 a = .int .i64 c := by rw [h]
/-! ## The heap -/
/-- of the places k >= p of [lo, lo+n), each is no less than its children; but for place e. -/
def Heap (xs : List Int) (lo n p e : Nat) : Prop := ∀ k c, p ≤ k → k ≠ e → (c = 2 * k + 1 ∨ c = 2 * k + 2) → c < n → at0 xs (lo + c) ≤ at0 xs (lo + k)
theorem siftDown (s : Slc enU 1 w v xs [b]) {lo n p : Nat} (h2 : lo + n ≤ xs.length) (hn : xs.length < 1000000000) (hp : p ≤ n) (hh : Heap xs lo n p p)
    (hR : ∀ w' ys, Slc enU 1 w' v ys [b] → Mix lo (lo + n) xs ys → Heap ys lo n p n → (∀ k, k < p → at0 ys (lo + k) = at0 xs (lo + k)) → Fr [b] w w' → R (.tuple #[]) w') :
    CALL PR F_slices_siftDownOrdered_uint64 [v, .int .i64 (p : Int), .int .i64 (n : Int), .int .i64 (lo : Int)] w R := by
  refine C_slices_siftDownOrdered_uint64 ?_
  unfold M_slices_siftDownOrdered_uint64
  refine ⟨fun t w' => ∃ (r : Nat) (ys : List Int), t = .int .i64 r ∧ p ≤ r ∧ r ≤ n ∧ Slc enU 1 w' v ys [b] ∧ Mix lo (lo + n) xs ys ∧ Heap ys lo n p r ∧ (∀ g c, p ≤ g → (r = 2 * g + 1 ∨ r = 2 * g + 2) → (c = 2 * r + 1 ∨ c = 2 * r + 2) → c < n → at0 ys (lo + c) ≤ at0 ys (lo + g)) ∧ (∀ k, k < p → at0 ys (lo + k) = at0 xs (lo + k)) ∧ Fr [b] w w',
    fun t _ => match t with | .int _ m => n + 1 - m.toNat | _ => 0, ⟨p, xs, rfl, by omega, hp, s, .refl _, hh, fun g c hg hr hc hcn => by omega, fun _ _ => rfl, Fr.refl _ _⟩, ?_⟩
  rintro _ _ w1 ⟨r, ys, rfl, hpr, hrn, s1, mx, hy, hg, hlow, f1⟩
  have hyl := mx.len
  refine BND_step (muln (n := 2) (m := r) (by omega)) <| BND_step (inc (by omega)) <| BND_step (binv_geq _ _ _ _) ?_
  by_cases hend : n ≤ 2 * r + 1
  · refine COND_dec_true (by omega) (hR w1 ys s1 mx (fun k c a1 a2 a3 a4 => ?_) hlow f1)
    by_cases hkr : k = r
    · omega
    · exact hy k c a1 hkr a3 a4
  refine COND_dec_false (by omega) <| BND_step (inc (by omega)) <| BND_step (binv_lss _ _ _ _) ?_
  have sd : Slc enU 1 w1.drew v ys [b] := s1.fr (Fr.drew [] w1) (by simp)
  have fd : Fr [b] w w1.drew := f1.trans' (Fr.drew _ _)
  -- the greater child
  have pre : ∀ K : Value → World → Prop, (∀ w2 (c : Nat), (c = 2 * r + 1 ∨ c = 2 * r + 2) → c < n → (∀ c', (c' = 2 * r + 1 ∨ c' = 2 * r + 2) → c' < n → at0 ys (lo + c') ≤ at0 ys (lo + c)) → Slc enU 1 w2 v ys [b] → Fr [b] w w2 → K (.int .i64 (c : Int)) w2) →
      BND (grd (isB (.bool (decide (((2 * r + 1 + 1 : Nat) : Int) < (n : Int)))) true) (some v)) fun t22_74 =>
      BND (grd (isB (.bool (decide (((2 * r + 1 + 1 : Nat) : Int) < (n : Int)))) true) (some (.int .i64 (lo : Int)))) fun t23_75 =>
      BND (grd (isB (.bool (decide (((2 * r + 1 + 1 : Nat) : Int) < (n : Int)))) true) (some (.int .i64 ((2 * r + 1 : Nat) : Int)))) fun t24_76 =>
      BND (grd (isB (.bool (decide (((2 * r + 1 + 1 : Nat) : Int) < (n : Int)))) true) (binv .int .add t23_75 t24_76)) fun t25_77 =>
      BND (grd (isB (.bool (decide (((2 * r + 1 + 1 : Nat) : Int) < (n : Int)))) true) (iaddr 1 t22_74 t25_77)) fun t26_78 =>
      BND (grd (isB (.bool (decide (((2 * r + 1 + 1 : Nat) : Int) < (n : Int)))) true) (some v)) fun t28_79 =>
      BND (grd (isB (.bool (decide (((2 * r + 1 + 1 : Nat) : Int) < (n : Int)))) true) (some (.int .i64 (lo : Int)))) fun t29_80 =>
      BND (grd (isB (.bool (decide (((2 * r + 1 + 1 : Nat) : Int) < (n : Int)))) true) (some (.int .i64 ((2 * r + 1 : Nat) : Int)))) fun t30_81 =>
      BND (grd (isB (.bool (decide (((2 * r + 1 + 1 : Nat) : Int) < (n : Int)))) true) (binv .int .add t29_80 t30_81)) fun t31_82 =>
      BND (grd (isB (.bool (decide (((2 * r + 1 + 1 : Nat) : Int) < (n : Int)))) true) (binv .int .add t31_82 (Value.int .i64 1))) fun t32_83 =>
      BND (grd (isB (.bool (decide (((2 * r + 1 + 1 : Nat) : Int) < (n : Int)))) true) (iaddr 1 t28_79 t32_83)) fun t33_84 =>
      BND (grd (isB (.bool (decide (((2 * r + 1 + 1 : Nat) : Int) < (n : Int)))) true) (load1 w1.drew t26_78)) fun t27_85 =>
      BND (grd (isB (.bool (decide (((2 * r + 1 + 1 : Nat) : Int) < (n : Int)))) true) (load1 w1.drew t33_84)) fun t34_86 =>
      GEF (isB (.bool (decide (((2 * r + 1 + 1 : Nat) : Int) < (n : Int)))) true) (fun k_ => CALL PR F_cmp_Less_uint64 [t27_85, t34_86] w1.drew k_) w1.drew fun t35_87 w2 =>
      BND (pickv (.bool (decide (((2 * r + 1 + 1 : Nat) : Int) < (n : Int)))) t35_87 (Value.bool false)) fun t36_88 =>
      JOIN (α := Value → World → Prop) (fun k_110 => COND t36_88
      (BND (binv .int .add (.int .i64 ((2 * r + 1 : Nat) : Int)) (Value.int .i64 1)) fun t38_111 =>
      k_110 t38_111 w2)
      (k_110 (.int .i64 ((2 * r + 1 : Nat) : Int)) w2)) K := by
    intro K hK
    by_cases h2c : 2 * r + 2 < n
    · have e1 : decide (((2 * r + 1 + 1 : Nat) : Int) < (n : Int)) = true := by simp; omega
      rw [e1]
      simp only [isB_tt, grd_true, BND_some, GEF_true]
      refine BND_step (addn (by omega)) <| BND_step (ia sd (by omega)) <| BND_step (addn (by omega)) <| BND_step (inc (by omega)) <| BND_step (ia sd (by omega)) <| BND_step (ld sd (by omega)) <| BND_step (ld sd (by omega)) <| less64 _ _ <| BND_step (pickv_true _ _) <| JOIN_elim fun K' hK' => ?_
      subst hK'
      by_cases hl : at0 ys (lo + (2 * r + 1)) < at0 ys (lo + (2 * r + 1) + 1)
      · refine COND_dec_true hl <| BND_step (inc (by omega)) <| hK _ (2 * r + 2) (.inr rfl) h2c (fun c' hc' _ => ?_) sd fd
        rcases hc' with rfl | rfl
        · have : lo + (2 * r + 2) = lo + (2 * r + 1) + 1 := by omega
          rw [this]; omega
        · omega
      · refine COND_dec_false hl <| hK _ (2 * r + 1) (.inl rfl) (by omega) (fun c' hc' _ => ?_) sd fd
        rcases hc' with rfl | rfl
        · omega
        · have : lo + (2 * r + 2) = lo + (2 * r + 1) + 1 := by omega
          rw [this]; omega
    · have e1 : decide (((2 * r + 1 + 1 : Nat) : Int) < (n : Int)) = false := by simp; omega
      rw [e1]
      simp only [isB_ft, grd_false, BND_some, GEF_false, pickv_false]
      refine JOIN_elim fun K' hK' => (COND_false _ _).2 ?_
      subst hK'
      exact hK _ (2 * r + 1) (.inl rfl) (by omega) (fun c' hc' hcn => by
        rcases hc' with rfl | rfl
        · omega
        · omega) sd fd
  refine pre _ fun w3 c hc hcn hmax s3 f3 => ?_
  clear pre
  have s3d : Slc enU 1 w3.drew v ys [b] := s3.fr (Fr.drew [] w3) (by simp)
  have f3d : Fr [b] w w3.drew := f3.trans' (Fr.drew _ _)
  refine BND_step (addn (by omega)) <| BND_step (ia s3 (by omega)) <| BND_step (addn (by omega)) <| BND_step (ia s3 (by omega)) <| BND_step (ld s3d (by omega)) <| BND_step (ld s3d (by omega)) <| less64 _ _ <| BND_step (unv_not _) ?_
  by_cases hl : at0 ys (lo + r) < at0 ys (lo + c)
  · rw [show (!decide (at0 ys (lo + r) < at0 ys (lo + c))) = false by simp [hl]]
    refine (COND_false _ _).2 <| BND_step (addn (by omega)) <| BND_step (addn (by omega)) <| BND_step (addn (by omega)) <| BND_step (ia s3d (by omega)) <| BND_step (addn (by omega)) <| BND_step (ia s3d (by omega)) <| swap_tail s3d (p := lo + r) (q := lo + c) (by omega) (by omega) fun w6 s6 f6 => ?_
    have e := at0_swp (xs := ys) (i := lo + r) (j := lo + c) (by omega) (by omega)
    refine ⟨⟨c, _, rfl, by omega, by omega, s6, .swap (lo + r) (lo + c) (by omega) (by omega) (by omega) (by omega) mx, fun k c' a1 a2 a3 a4 => ?_, fun g c' a1 a2 a3 a4 => ?_, fun k hk => ?_, f3d.trans' f6⟩, by simp; omega⟩
    · rw [e, e]
      by_cases hkr : k = r
      · subst hkr
        rw [if_neg (by omega : ¬ lo + k = lo + c), if_pos rfl]
        by_cases hcc : c' = c
        · subst hcc; rw [if_pos rfl]; omega
        · rw [if_neg (by omega), if_neg (by omega)]
          exact hmax c' a3 a4
      · rw [if_neg (by omega : ¬ lo + k = lo + c), if_neg (by omega : ¬ lo + k = lo + r)]
        by_cases hcc : c' = c
        · omega
        · rw [if_neg (by omega : ¬ lo + c' = lo + c)]
          by_cases hcr : c' = r
          · rw [hcr, if_pos rfl]
            exact hg k c a1 (by omega) hc hcn
          · rw [if_neg (by omega)]
            exact hy k c' a1 hkr a3 a4
    · have hgr : g = r := by omega
      subst hgr
      rw [e, e, if_neg (by omega : ¬ lo + c' = lo + c), if_neg (by omega : ¬ lo + c' = lo + g), if_neg (by omega : ¬ lo + g = lo + c), if_pos rfl]
      exact hy c c' (by omega) (by omega) a3 a4
    · rw [e, if_neg (by omega), if_neg (by omega)]
      exact hlow k hk
  · rw [show (!decide (at0 ys (lo + r) < at0 ys (lo + c))) = true by simp; omega]
    refine (COND_true _ _).2 (hR _ ys s3d mx (fun k c' a1 a2 a3 a4 => ?_) hlow f3d)
    by_cases hkr : k = r
    · subst hkr
      have := hmax c' a3 a4
      omega
    · exact hy k c' a1 hkr a3 a4

theorem heap_top {xs : List Int} {lo n : Nat} (h : Heap xs lo n 0 n) : ∀ k, k < n → at0 xs (lo + k) ≤ at0 xs lo := by
  intro k
  induction k using Nat.strongRecOn with
  | _ k ih =>
    intro hk
    rcases Nat.eq_zero_or_pos k with h0 | h0
    · subst h0; simp
    · have hp : (k - 1) / 2 < k := by omega
      have h1 := h ((k - 1) / 2) k (by omega) (by omega) (by omega) hk
      have h2 := ih ((k - 1) / 2) hp (by omega)
      omega
theorem heapSort (s : Slc enU 1 w v xs [b]) {lo hi : Nat} (h1 : lo + 12 < hi) (h2 : hi ≤ xs.length) (hn : xs.length < 1000000000)
    (hR : ∀ w' ys, Slc enU 1 w' v ys [b] → Mix lo hi xs ys → Sorted ys lo hi → Fr [b] w w' → R (.tuple #[]) w') :
    CALL PR F_slices_heapSortOrdered_uint64 [v, .int .i64 (lo : Int), .int .i64 (hi : Int)] w R := by
  refine C_slices_heapSortOrdered_uint64 ?_
  unfold M_slices_heapSortOrdered_uint64
  obtain ⟨n, rfl⟩ : ∃ n, hi = lo + n := ⟨hi - lo, by omega⟩
  have e : lo + n - lo = n := by omega
  refine BND_step (subn (by omega) (by omega)) ?_
  rw [e]
  refine BND_step (dec (by omega) (by omega)) <| BND_step (quon 2 (by omega) (by omega)) ?_
  refine ⟨fun t w' => ∃ (i : Nat) (ys : List Int), t = .int .i64 ((i : Int) - 1) ∧ i ≤ (n - 1) / 2 + 1 ∧ Slc enU 1 w' v ys [b] ∧ Mix lo (lo + n) xs ys ∧ Heap ys lo n i n ∧ Fr [b] w w', fun t _ => match t with | .int _ m => (m + 1).toNat | _ => 0,
    ⟨(n - 1) / 2 + 1, xs, i64c (by omega), by omega, s, .refl _, fun k c a1 a2 a3 a4 => by omega, Fr.refl _ _⟩, ?_⟩
  rintro _ _ w1 ⟨i, ys, rfl, hi1, s1, mx, hh, f1⟩
  have hyl := mx.len
  refine BND_step (binv_geq _ _ _ _) ?_
  by_cases hi0 : 0 < i
  · refine COND_dec_true (by omega) ?_
    have ei : ((i : Int) - 1) = ((i - 1 : Nat) : Int) := by omega
    rw [ei]
    refine siftDown s1 (p := i - 1) (by omega) (by omega) (by omega) (fun k c a1 a2 a3 a4 => hh k c (by omega) (by omega) a3 a4) fun w2 zs s2 mz hz _ f2 => ?_
    refine BND_step (decI (by omega) (by omega)) ⟨⟨i - 1, zs, i64c (by omega), by omega, s2, mx.trans mz, hz, f1.trans' f2⟩, by simp <;> omega⟩
  refine COND_dec_false (by omega) <| BND_step (dec (by omega) (by omega)) ?_
  obtain rfl : i = 0 := by omega
  refine ⟨fun t w' => ∃ (k : Nat) (ys : List Int), t = .int .i64 ((k : Int) - 1) ∧ k ≤ n ∧ Slc enU 1 w' v ys [b] ∧ Mix lo (lo + n) xs ys ∧ Heap ys lo k 0 k ∧ (∀ p q, p ≤ q → k ≤ q → q < n → at0 ys (lo + p) ≤ at0 ys (lo + q)) ∧ Fr [b] w w', fun t _ => match t with | .int _ m => (m + 1).toNat | _ => 0,
    ⟨n, ys, i64c (by omega), by omega, s1, mx, hh, fun p q a1 a2 a3 => by omega, f1⟩, ?_⟩
  rintro _ _ w3 ⟨k, zs, rfl, hk, s3, mz, hz, so, f3⟩
  have hzl := mz.len
  refine BND_step (binv_geq _ _ _ _) ?_
  by_cases hk0 : 0 < k
  · refine COND_dec_true (by omega) ?_
    have ek : ((k : Int) - 1) = ((k - 1 : Nat) : Int) := by omega
    rw [ek]
    refine BND_step (addn (by omega)) <| BND_step (addn (by omega)) <| BND_step (ia s3 (by omega)) <| BND_step (ia s3 (by omega)) <| swap_tail s3 (p := lo) (q := lo + (k - 1)) (by omega) (by omega) fun w5 s5 f5 => ?_
    have e5 := at0_swp (xs := zs) (i := lo) (j := lo + (k - 1)) (by omega) (by omega)
    have htop := heap_top hz
    refine siftDown s5 (p := 0) (n := k - 1) (by rw [len_swp]; omega) (by rw [len_swp]; omega) (by omega) (fun g c a1 a2 a3 a4 => ?_) fun w6 us s6 mu hu _ f6 => ?_
    · rw [e5, e5, if_neg (by omega), if_neg (by omega), if_neg (by omega), if_neg (by omega)]
      exact hz g c (by omega) (by omega) a3 (by omega)
    · have hul := mu.len
      rw [len_swp] at hul
      have key : ∀ p, p < n → ∃ m, m < n ∧ at0 us (lo + p) = at0 zs (lo + m) ∧ (p < k - 1 → m < k) ∧ (p = k - 1 → m = 0) ∧ (k ≤ p → m = p) := by
        intro p hp
        by_cases h1 : p < k - 1
        · obtain ⟨m, m1, m2, em⟩ := mu.pick (by rw [len_swp]; omega) (lo + p) (by omega) (by omega)
          rw [e5] at em
          by_cases hm : m = lo
          · rw [if_neg (by omega), if_pos hm] at em
            exact ⟨k - 1, by omega, em, fun _ => by omega, by omega, by omega⟩
          · rw [if_neg (by omega), if_neg hm] at em
            exact ⟨m - lo, by omega, by rw [em]; congr 1; omega, fun _ => by omega, by omega, by omega⟩
        · have em := mu.out (by rw [len_swp]; omega) (lo + p) (.inr (by omega))
          rw [e5] at em
          by_cases h2 : p = k - 1
          · rw [if_pos (by omega)] at em
            exact ⟨0, by omega, em, by omega, fun _ => rfl, by omega⟩
          · rw [if_neg (by omega), if_neg (by omega)] at em
            exact ⟨p, hp, em, by omega, by omega, fun _ => rfl⟩
      refine BND_step (decI (by omega) (by omega)) ⟨⟨k - 1, us, rfl, by omega, s6, (Mix.swap lo (lo + (k - 1)) (by omega) (by omega) (by omega) (by omega) mz).trans (mu.wider (by omega) (by omega)), hu, fun p q a1 a2 a3 => ?_, f3.trans' (f5.trans' f6)⟩, by simp <;> omega⟩
      obtain ⟨m1, l1, e1, x1, x2, x3⟩ := key p (by omega)
      obtain ⟨m2, l2, e2, y1, y2, y3⟩ := key q a3
      rw [e1, e2]
      by_cases hq : q = k - 1
      · rw [y2 hq, Nat.add_zero]
        by_cases hp : p = k - 1
        · rw [x2 hp]; simp
        · exact htop m1 (x1 (by omega))
      · rw [y3 (by omega)]
        by_cases hp : p < k - 1
        · exact so m1 q (by have := x1 hp; omega) (by omega) a3
        · by_cases hp2 : p = k - 1
          · rw [x2 hp2]; exact so 0 q (by omega) (by omega) a3
          · rw [x3 (by omega)]; exact so p q a1 (by omega) a3
  · refine COND_dec_false (by omega) (hR w3 zs s3 mz (fun p q a1 a2 a3 => ?_) f3)
    have := so (p - lo) (q - lo) (by omega) (by omega) (by omega)
    rwa [show lo + (p - lo) = p by omega, show lo + (q - lo) = q by omega] at this
end
end Go.Proofs.YtpclfkjbhlekaaaDoor.Sort64
end

section
namespace Go.Proofs.YtpclfkjbhlekaaaDoor.Sort64
open Go.Den
section
variable {w : World} {v : Value} {xs : List Int} {b : Nat} {R : Value → World → Prop}
theorem upLess (s : Slc enU 1 w v xs [b]) {lo hi s0 : Nat} (hlo : lo < xs.length) (hs : s0 ≤ hi + 1) (hhi : hi < xs.length) (hn : xs.length < 1000000000) {K : Value → World → Prop}
    (hK : ∀ w4 (r : Nat), s0 ≤ r → r ≤ hi + 1 → (∀ k, s0 ≤ k → k < r → at0 xs k < at0 xs lo) → (r ≤ hi → ¬ (at0 xs r < at0 xs lo)) → Slc enU 1 w4 v xs [b] → Fr [] w w4 → K (.int .i64 (r : Int)) w4) :
    ∃ (J_9 : Value → World → Prop) (m_9 : Value → World → Nat), J_9 (.int .i64 (s0 : Int)) w ∧ ∀ (_d_9 : Env) (a_10 : Value) (w3 : World), J_9 a_10 w3 →
  (BND (binv .int .leq a_10 (.int .i64 (hi : Int))) fun t32_27 =>
  BND (grd (isB t32_27 true) (some v)) fun t34_28 =>
  BND (grd (isB t32_27 true) (some a_10)) fun t35_29 =>
  BND (grd (isB t32_27 true) (iaddr 1 t34_28 t35_29)) fun t36_30 =>
  BND (grd (isB t32_27 true) (some v)) fun t38_31 =>
  BND (grd (isB t32_27 true) (some (.int .i64 (lo : Int)))) fun t39_32 =>
  BND (grd (isB t32_27 true) (iaddr 1 t38_31 t39_32)) fun t40_33 =>
  BND (grd (isB t32_27 true) (load1 w3.drew t36_30)) fun t37_34 =>
  BND (grd (isB t32_27 true) (load1 w3.drew t40_33)) fun t41_35 =>
  GEF (isB t32_27 true) (fun k_ => CALL PR F_cmp_Less_uint64 [t37_34, t41_35] w3.drew k_) w3.drew fun t42_36 w4 =>
  BND (pickv t32_27 t42_36 (Value.bool false)) fun t43_37 =>
  COND t43_37
  (BND (binv .int .add a_10 (Value.int .i64 1)) fun t45_38 => (J_9 t45_38 w4 ∧ m_9 t45_38 w4 < m_9 a_10 w3))
  (K a_10 w4)) := by
  refine ⟨fun t w' => ∃ r : Nat, t = .int .i64 r ∧ s0 ≤ r ∧ r ≤ hi + 1 ∧ (∀ k, s0 ≤ k → k < r → at0 xs k < at0 xs lo) ∧ Slc enU 1 w' v xs [b] ∧ Fr [] w w', fun t _ => match t with | .int _ n => hi + 1 - n.toNat | _ => 0, ⟨s0, rfl, by omega, hs, fun k a1 a2 => by omega, s, Fr.refl _ _⟩, ?_⟩
  rintro _ _ w3 ⟨r, rfl, r1, r2, hall, s3, f3⟩
  have sd : Slc enU 1 w3.drew v xs [b] := s3.fr (Fr.drew [] w3) (by simp)
  have fd : Fr [] w w3.drew := f3.trans' (Fr.drew _ _)
  refine BND_step (binv_leq _ _ _ _) ?_
  by_cases hc : r ≤ hi
  · have e1 : decide ((r : Int) ≤ (hi : Int)) = true := by simp <;> omega
    rw [e1]
    simp only [isB_tt, grd_true, BND_some, GEF_true]
    refine BND_step (ia sd (by omega)) <| BND_step (ia sd hlo) <| BND_step (ld sd (by omega)) <| BND_step (ld sd hlo) <| less64 _ _ <| BND_step (pickv_true _ _) ?_
    by_cases hp : at0 xs r < at0 xs lo

    · refine COND_dec_true hp <| BND_step (inc (by omega)) ⟨⟨r + 1, rfl, by omega, by omega, fun k a1 a2 => ?_, sd, fd⟩, by simp <;> omega⟩
      by_cases hk : k = r
      · rw [hk]; exact hp
      · exact hall k a1 (by omega)
    · exact COND_dec_false hp (hK _ r r1 r2 hall (fun _ => hp) sd fd)
  · have e1 : decide ((r : Int) ≤ (hi : Int)) = false := by simp <;> omega
    rw [e1]
    simp only [isB_ft, grd_false, BND_some, GEF_false, pickv_false, COND_false]
    exact hK _ r r1 r2 hall (fun h => absurd h hc) sd fd
theorem dnNotLess (s : Slc enU 1 w v xs [b]) {lo lo0 s0 : Nat} (hlo : lo < xs.length) (hl0 : 0 < lo0) (hs : lo0 ≤ s0 + 1) (hs2 : s0 < xs.length) (hn : xs.length < 1000000000) {K : Value → World → Prop}
    (hK : ∀ w4 (r : Nat), r ≤ s0 → lo0 ≤ r + 1 → (∀ k, r < k → k ≤ s0 → ¬ at0 xs k < at0 xs lo) → (lo0 ≤ r → ¬ (¬ at0 xs r < at0 xs lo)) → Slc enU 1 w4 v xs [b] → Fr [] w w4 → K (.int .i64 (r : Int)) w4) :
    ∃ (J_9 : Value → World → Prop) (m_9 : Value → World → Nat), J_9 (.int .i64 (s0 : Int)) w ∧ ∀ (_d_9 : Env) (a_10 : Value) (w3 : World), J_9 a_10 w3 →
  (BND (binv .int .leq (.int .i64 (lo0 : Int)) a_10) fun t32_27 =>
  BND (grd (isB t32_27 true) (some v)) fun t34_28 =>
  BND (grd (isB t32_27 true) (some a_10)) fun t35_29 =>
  BND (grd (isB t32_27 true) (iaddr 1 t34_28 t35_29)) fun t36_30 =>
  BND (grd (isB t32_27 true) (some v)) fun t38_31 =>
  BND (grd (isB t32_27 true) (some (.int .i64 (lo : Int)))) fun t39_32 =>
  BND (grd (isB t32_27 true) (iaddr 1 t38_31 t39_32)) fun t40_33 =>
  BND (grd (isB t32_27 true) (load1 w3.drew t36_30)) fun t37_34 =>
  BND (grd (isB t32_27 true) (load1 w3.drew t40_33)) fun t41_35 =>
  GEF (isB t32_27 true) (fun k_ => CALL PR F_cmp_Less_uint64 [t37_34, t41_35] w3.drew k_) w3.drew fun t42_36 w4 =>
  BND (grd (isB t32_27 true) (unv .not t42_36)) fun t42_n =>
  BND (pickv t32_27 t42_n (Value.bool false)) fun t43_37 =>
  COND t43_37
  (BND (binv .int .sub a_10 (Value.int .i64 1)) fun t45_38 => (J_9 t45_38 w4 ∧ m_9 t45_38 w4 < m_9 a_10 w3))
  (K a_10 w4)) := by
  refine ⟨fun t w' => ∃ r : Nat, t = .int .i64 r ∧ r ≤ s0 ∧ lo0 ≤ r + 1 ∧ (∀ k, r < k → k ≤ s0 → ¬ at0 xs k < at0 xs lo) ∧ Slc enU 1 w' v xs [b] ∧ Fr [] w w', fun t _ => match t with | .int _ n => n.toNat | _ => 0, ⟨s0, rfl, by omega, hs, fun k a1 a2 => by omega, s, Fr.refl _ _⟩, ?_⟩
  rintro _ _ w3 ⟨r, rfl, r1, r2, hall, s3, f3⟩
  have sd : Slc enU 1 w3.drew v xs [b] := s3.fr (Fr.drew [] w3) (by simp)
  have fd : Fr [] w w3.drew := f3.trans' (Fr.drew _ _)
  refine BND_step (binv_leq _ _ _ _) ?_
  by_cases hc : lo0 ≤ r
  · have e1 : decide ((lo0 : Int) ≤ (r : Int)) = true := by simp <;> omega
    rw [e1]
    simp only [isB_tt, grd_true, BND_some, GEF_true]
    refine BND_step (ia sd (by omega)) <| BND_step (ia sd hlo) <| BND_step (ld sd (by omega)) <| BND_step (ld sd hlo) <| less64 _ _ <| BND_step (unv_not _) <| BND_step (pickv_true _ _) ?_
    by_cases hp : ¬ at0 xs r < at0 xs lo

    · rw [show (!decide (at0 xs r < at0 xs lo)) = true by simp <;> omega]
      refine (COND_true _ _).2 <| BND_step (dec (by omega) (by omega)) ⟨⟨r - 1, rfl, by omega, by omega, fun k a1 a2 => ?_, sd, fd⟩, by simp <;> omega⟩
      by_cases hk : k = r
      · rw [hk]; exact hp
      · exact hall k (by omega) a2
    · rw [show (!decide (at0 xs r < at0 xs lo)) = false by simp <;> omega]
      exact (COND_false _ _).2 (hK _ r r1 r2 hall (fun _ => hp) sd fd)
  · have e1 : decide ((lo0 : Int) ≤ (r : Int)) = false := by simp <;> omega
    rw [e1]
    simp only [isB_ft, grd_false, BND_some, GEF_false, pickv_false, COND_false]
    exact hK _ r r1 r2 hall (fun h => absurd h hc) sd fd
theorem upNotGr (s : Slc enU 1 w v xs [b]) {lo hi s0 : Nat} (hlo : lo < xs.length) (hs : s0 ≤ hi + 1) (hhi : hi < xs.length) (hn : xs.length < 1000000000) {K : Value → World → Prop}
    (hK : ∀ w4 (r : Nat), s0 ≤ r → r ≤ hi + 1 → (∀ k, s0 ≤ k → k < r → ¬ at0 xs lo < at0 xs k) → (r ≤ hi → ¬ (¬ at0 xs lo < at0 xs r)) → Slc enU 1 w4 v xs [b] → Fr [] w w4 → K (.int .i64 (r : Int)) w4) :
    ∃ (J_9 : Value → World → Prop) (m_9 : Value → World → Nat), J_9 (.int .i64 (s0 : Int)) w ∧ ∀ (_d_9 : Env) (a_10 : Value) (w3 : World), J_9 a_10 w3 →
  (BND (binv .int .leq a_10 (.int .i64 (hi : Int))) fun t32_27 =>
  BND (grd (isB t32_27 true) (some v)) fun t34_28 =>
  BND (grd (isB t32_27 true) (some (.int .i64 (lo : Int)))) fun t35_29 =>
  BND (grd (isB t32_27 true) (iaddr 1 t34_28 t35_29)) fun t36_30 =>
  BND (grd (isB t32_27 true) (some v)) fun t38_31 =>
  BND (grd (isB t32_27 true) (some a_10)) fun t39_32 =>
  BND (grd (isB t32_27 true) (iaddr 1 t38_31 t39_32)) fun t40_33 =>
  BND (grd (isB t32_27 true) (load1 w3.drew t36_30)) fun t37_34 =>
  BND (grd (isB t32_27 true) (load1 w3.drew t40_33)) fun t41_35 =>
  GEF (isB t32_27 true) (fun k_ => CALL PR F_cmp_Less_uint64 [t37_34, t41_35] w3.drew k_) w3.drew fun t42_36 w4 =>
  BND (grd (isB t32_27 true) (unv .not t42_36)) fun t42_n =>
  BND (pickv t32_27 t42_n (Value.bool false)) fun t43_37 =>
  COND t43_37
  (BND (binv .int .add a_10 (Value.int .i64 1)) fun t45_38 => (J_9 t45_38 w4 ∧ m_9 t45_38 w4 < m_9 a_10 w3))
  (K a_10 w4)) := by
  refine ⟨fun t w' => ∃ r : Nat, t = .int .i64 r ∧ s0 ≤ r ∧ r ≤ hi + 1 ∧ (∀ k, s0 ≤ k → k < r → ¬ at0 xs lo < at0 xs k) ∧ Slc enU 1 w' v xs [b] ∧ Fr [] w w', fun t _ => match t with | .int _ n => hi + 1 - n.toNat | _ => 0, ⟨s0, rfl, by omega, hs, fun k a1 a2 => by omega, s, Fr.refl _ _⟩, ?_⟩
  rintro _ _ w3 ⟨r, rfl, r1, r2, hall, s3, f3⟩
  have sd : Slc enU 1 w3.drew v xs [b] := s3.fr (Fr.drew [] w3) (by simp)
  have fd : Fr [] w w3.drew := f3.trans' (Fr.drew _ _)
  refine BND_step (binv_leq _ _ _ _) ?_
  by_cases hc : r ≤ hi
  · have e1 : decide ((r : Int) ≤ (hi : Int)) = true := by simp <;> omega
    rw [e1]
    simp only [isB_tt, grd_true, BND_some, GEF_true]
    refine BND_step (ia sd hlo) <| BND_step (ia sd (by omega)) <| BND_step (ld sd hlo) <| BND_step (ld sd (by omega)) <| less64 _ _ <| BND_step (unv_not _) <| BND_step (pickv_true _ _) ?_
    by_cases hp : ¬ at0 xs lo < at0 xs r

    · rw [show (!decide (at0 xs lo < at0 xs r)) = true by simp <;> omega]
      refine (COND_true _ _).2 <| BND_step (inc (by omega)) ⟨⟨r + 1, rfl, by omega, by omega, fun k a1 a2 => ?_, sd, fd⟩, by simp <;> omega⟩
      by_cases hk : k = r
      · rw [hk]; exact hp
      · exact hall k a1 (by omega)
    · rw [show (!decide (at0 xs lo < at0 xs r)) = false by simp <;> omega]
      exact (COND_false _ _).2 (hK _ r r1 r2 hall (fun _ => hp) sd fd)
  · have e1 : decide ((r : Int) ≤ (hi : Int)) = false := by simp <;> omega
    rw [e1]
    simp only [isB_ft, grd_false, BND_some, GEF_false, pickv_false, COND_false]
    exact hK _ r r1 r2 hall (fun h => absurd h hc) sd fd
theorem dnGr (s : Slc enU 1 w v xs [b]) {lo lo0 s0 : Nat} (hlo : lo < xs.length) (hl0 : 0 < lo0) (hs : lo0 ≤ s0 + 1) (hs2 : s0 < xs.length) (hn : xs.length < 1000000000) {K : Value → World → Prop}
    (hK : ∀ w4 (r : Nat), r ≤ s0 → lo0 ≤ r + 1 → (∀ k, r < k → k ≤ s0 → at0 xs lo < at0 xs k) → (lo0 ≤ r → ¬ (at0 xs lo < at0 xs r)) → Slc enU 1 w4 v xs [b] → Fr [] w w4 → K (.int .i64 (r : Int)) w4) :
    ∃ (J_9 : Value → World → Prop) (m_9 : Value → World → Nat), J_9 (.int .i64 (s0 : Int)) w ∧ ∀ (_d_9 : Env) (a_10 : Value) (w3 : World), J_9 a_10 w3 →
  (BND (binv .int .leq (.int .i64 (lo0 : Int)) a_10) fun t32_27 =>
  BND (grd (isB t32_27 true) (some v)) fun t34_28 =>
  BND (grd (isB t32_27 true) (some (.int .i64 (lo : Int)))) fun t35_29 =>
  BND (grd (isB t32_27 true) (iaddr 1 t34_28 t35_29)) fun t36_30 =>
  BND (grd (isB t32_27 true) (some v)) fun t38_31 =>
  BND (grd (isB t32_27 true) (some a_10)) fun t39_32 =>
  BND (grd (isB t32_27 true) (iaddr 1 t38_31 t39_32)) fun t40_33 =>
  BND (grd (isB t32_27 true) (load1 w3.drew t36_30)) fun t37_34 =>
  BND (grd (isB t32_27 true) (load1 w3.drew t40_33)) fun t41_35 =>
  GEF (isB t32_27 true) (fun k_ => CALL PR F_cmp_Less_uint64 [t37_34, t41_35] w3.drew k_) w3.drew fun t42_36 w4 =>
  BND (pickv t32_27 t42_36 (Value.bool false)) fun t43_37 =>
  COND t43_37
  (BND (binv .int .sub a_10 (Value.int .i64 1)) fun t45_38 => (J_9 t45_38 w4 ∧ m_9 t45_38 w4 < m_9 a_10 w3))
  (K a_10 w4)) := by
  refine ⟨fun t w' => ∃ r : Nat, t = .int .i64 r ∧ r ≤ s0 ∧ lo0 ≤ r + 1 ∧ (∀ k, r < k → k ≤ s0 → at0 xs lo < at0 xs k) ∧ Slc enU 1 w' v xs [b] ∧ Fr [] w w', fun t _ => match t with | .int _ n => n.toNat | _ => 0, ⟨s0, rfl, by omega, hs, fun k a1 a2 => by omega, s, Fr.refl _ _⟩, ?_⟩
  rintro _ _ w3 ⟨r, rfl, r1, r2, hall, s3, f3⟩
  have sd : Slc enU 1 w3.drew v xs [b] := s3.fr (Fr.drew [] w3) (by simp)
  have fd : Fr [] w w3.drew := f3.trans' (Fr.drew _ _)
  refine BND_step (binv_leq _ _ _ _) ?_
  by_cases hc : lo0 ≤ r
  · have e1 : decide ((lo0 : Int) ≤ (r : Int)) = true := by simp <;> omega
    rw [e1]
    simp only [isB_tt, grd_true, BND_some, GEF_true]
    refine BND_step (ia sd hlo) <| BND_step (ia sd (by omega)) <| BND_step (ld sd hlo) <| BND_step (ld sd (by omega)) <| less64 _ _ <| BND_step (pickv_true _ _) ?_
    by_cases hp : at0 xs lo < at0 xs r

    · refine COND_dec_true hp <| BND_step (dec (by omega) (by omega)) ⟨⟨r - 1, rfl, by omega, by omega, fun k a1 a2 => ?_, sd, fd⟩, by simp <;> omega⟩
      by_cases hk : k = r
      · rw [hk]; exact hp
      · exact hall k (by omega) a2
    · exact COND_dec_false hp (hK _ r r1 r2 hall (fun _ => hp) sd fd)
  · have e1 : decide ((lo0 : Int) ≤ (r : Int)) = false := by simp <;> omega
    rw [e1]
    simp only [isB_ft, grd_false, BND_some, GEF_false, pickv_false, COND_false]
    exact hK _ r r1 r2 hall (fun h => absurd h hc) sd fd

theorem partition (s : Slc enU 1 w v xs [b]) {lo hi p : Nat} (h1 : lo + 12 < hi) (h2 : hi ≤ xs.length) (hn : xs.length < 1000000000) (hp1 : lo ≤ p) (hp2 : p < hi)
    (hR : ∀ w' ys (m : Nat) (B : Bool), Slc enU 1 w' v ys [b] → Mix lo hi xs ys → lo ≤ m → m < hi → (∀ k, lo ≤ k → k < m → at0 ys k ≤ at0 ys m) → (∀ k, m < k → k < hi → at0 ys m ≤ at0 ys k) → Fr [b] w w' → R (.tuple #[.int .i64 (m : Int), .bool B]) w') :
    CALL PR F_slices_partitionOrdered_uint64 [v, .int .i64 (lo : Int), .int .i64 (hi : Int), .int .i64 (p : Int)] w R := by
  refine C_slices_partitionOrdered_uint64 ?_
  unfold M_slices_partitionOrdered_uint64
  refine BND_step (ia s (by omega)) <| BND_step (ia s (by omega)) <| swap_tail s (p := lo) (q := p) (by omega) (by omega) fun w2 s2 f2 => ?_
  have mx2 : Mix lo hi xs (swp xs lo p) := .swap lo p (by omega) (by omega) hp1 hp2 (.refl _)
  generalize swp xs lo p = ys at s2 mx2
  have hyl := mx2.len
  refine BND_step (inc (by omega)) <| BND_step (dec (by omega) (by omega)) ?_
  -- the end: both have met
  have fin : ∀ (w6 : World) (zs : List Int) (j : Nat) (B : Bool), Slc enU 1 w6 v zs [b] → Mix lo hi xs zs → Fr [b] w w6 → lo ≤ j → j < hi → (∀ k, lo < k → k ≤ j → at0 zs k < at0 zs lo) → (∀ k, j < k → k < hi → ¬ at0 zs k < at0 zs lo) →
      BND (iaddr 1 v (.int .i64 (lo : Int))) fun t72_72 => BND (iaddr 1 v (.int .i64 (j : Int))) fun t76_73 => BND (load1 w6.drew t72_72) fun t73_74 => BND (load1 w6.drew t76_73) fun t77_75 => BND (iaddr 1 v (.int .i64 (j : Int))) fun t78_76 =>
      BND (storev 1 w6.drew t78_76 t73_74) fun w7 => BND (iaddr 1 v (.int .i64 (lo : Int))) fun t79_77 => BND (storev 1 w7 t79_77 t77_75) fun w8 => R (.tuple #[.int .i64 (j : Int), (Value.bool B)]) w8 := by
    intro w6 zs j B s6 mz f6 hj1 hj2 hl hr
    have hzl := mz.len
    refine BND_step (ia s6 (by omega)) <| BND_step (ia s6 (by omega)) <| swap_tail s6 (p := j) (q := lo) (by omega) (by omega) fun w8 s8 f8 => ?_
    have e := at0_swp (xs := zs) (i := j) (j := lo) (by omega) (by omega)
    have ej : at0 (swp zs j lo) j = at0 zs lo := by
      rw [e]
      by_cases h : j = lo
      · rw [if_pos h, h]
      · rw [if_neg h, if_pos rfl]
    refine hR w8 _ j B s8 (.swap j lo (by omega) hj2 (by omega) (by omega) mz) hj1 hj2 (fun k a1 a2 => ?_) (fun k a1 a2 => ?_) (f6.trans' f8)
    · rw [ej, e]
      by_cases hk : k = lo
      · rw [if_pos hk]; have := hl j (by omega) (by omega); omega
      · rw [if_neg hk, if_neg (by omega)]; have := hl k (by omega) (by omega); omega
    · rw [ej, e, if_neg (by omega), if_neg (by omega)]
      have := hr k a1 a2; omega
  refine upLess s2 (lo := lo) (hi := hi - 1) (s0 := lo + 1) (by omega) (by omega) (by omega) (by omega) fun w4 i i1 i2 hA hA2 s4 f4 => ?_
  refine dnNotLess s4 (lo := lo) (lo0 := i) (s0 := hi - 1) (by omega) (by omega) (by omega) (by omega) (by omega) fun w6 j j1 j2 hB hB2 s6 f6 => ?_
  have f06 : Fr [b] w w6 := f2.trans' (f4.trans' f6).nil
  refine BND_step (binv_gtr _ _ _ _) ?_
  by_cases hij : j < i
  · exact COND_dec_true (by omega) (fin w6 ys j true s6 mx2 f06 (by omega) (by omega) (fun k a1 a2 => hA k (by omega) (by omega)) (fun k a1 a2 => hB k a1 (by omega)))
  refine COND_dec_false (by omega) ?_
  have hne : i ≠ j := fun e => by
    subst e
    have x1 := hA2 (by omega)
    have x2 := hB2 (by omega)
    exact x2 x1
  refine BND_step (ia s6 (by omega)) <| BND_step (ia s6 (by omega)) <| swap_tail s6 (p := i) (q := j) (by omega) (by omega) fun w10 s10 f10 => ?_
  have e10 := at0_swp (xs := ys) (i := i) (j := j) (by omega) (by omega)
  have elo : at0 (swp ys i j) lo = at0 ys lo := by rw [e10, if_neg (by omega), if_neg (by omega)]
  refine BND_step (inc (by omega)) <| BND_step (dec (by omega) (by omega)) ?_
  refine ⟨fun ti tj w' => ∃ (i j : Nat) (zs : List Int), ti = .int .i64 i ∧ tj = .int .i64 j ∧ lo < i ∧ i ≤ j + 1 ∧ lo ≤ j ∧ j < hi ∧ Slc enU 1 w' v zs [b] ∧ Mix lo hi xs zs ∧ (∀ k, lo < k → k < i → at0 zs k < at0 zs lo) ∧ (∀ k, j < k → k < hi → ¬ at0 zs k < at0 zs lo) ∧ Fr [b] w w',
    fun ti tj _ => match ti, tj with | .int _ n, .int _ m => (m + 1 - n).toNat | _, _ => 0,
    ⟨i + 1, j - 1, _, rfl, rfl, by omega, by omega, by omega, by omega, s10, .swap i j (by omega) (by omega) (by omega) (by omega) mx2, fun k a1 a2 => ?_, fun k a1 a2 => ?_, f06.trans' f10⟩, ?_⟩
  · rw [elo, e10]
    by_cases hk : k = i
    · rw [if_neg (by omega), if_pos hk]; have := hB2 (by omega); omega
    · rw [if_neg (by omega), if_neg hk]; exact hA k (by omega) (by omega)
  · rw [elo, e10]
    by_cases hk : k = j
    · rw [if_pos hk]; exact hA2 (by omega)
    · rw [if_neg hk, if_neg (by omega)]; exact hB k (by omega) (by omega)
  rintro _ _ _ w11 ⟨i, j, zs, rfl, rfl, a1, a2, a3, a4, s11, mz, hl, hr, f11⟩
  have hzl := mz.len
  refine upLess s11 (lo := lo) (hi := j) (s0 := i) (by omega) (by omega) (by omega) (by omega) fun w13 i' i1' i2' hA' hA2' s13 f13 => ?_
  refine dnNotLess s13 (lo := lo) (lo0 := i') (s0 := j) (by omega) (by omega) (by omega) (by omega) (by omega) fun w15 j' j1' j2' hB' hB2' s15 f15 => ?_
  have f015 : Fr [b] w w15 := f11.trans' (f13.trans' f15).nil
  have hl' : ∀ k, lo < k → k < i' → at0 zs k < at0 zs lo := fun k x1 x2 => by
    by_cases hk : k < i
    · exact hl k x1 hk
    · exact hA' k (by omega) x2
  have hr' : ∀ k, j' < k → k < hi → ¬ at0 zs k < at0 zs lo := fun k x1 x2 => by
    by_cases hk : j < k
    · exact hr k hk x2
    · exact hB' k x1 (by omega)
  refine BND_step (binv_gtr _ _ _ _) ?_
  by_cases hij' : j' < i'
  · exact COND_dec_true (by omega) (fin w15 zs j' false s15 mz f015 (by omega) (by omega) (fun k x1 x2 => hl' k x1 (by omega)) hr')
  refine COND_dec_false (by omega) ?_
  have hne' : i' ≠ j' := fun e => by
    subst e
    exact hB2' (by omega) (hA2' (by omega))
  refine BND_step (ia s15 (by omega)) <| BND_step (ia s15 (by omega)) <| swap_tail s15 (p := i') (q := j') (by omega) (by omega) fun w19 s19 f19 => ?_
  have e19 := at0_swp (xs := zs) (i := i') (j := j') (by omega) (by omega)
  have elo' : at0 (swp zs i' j') lo = at0 zs lo := by rw [e19, if_neg (by omega), if_neg (by omega)]
  refine BND_step (inc (by omega)) <| BND_step (dec (by omega) (by omega)) ⟨⟨i' + 1, j' - 1, _, rfl, rfl, by omega, by omega, by omega, by omega, s19, .swap i' j' (by omega) (by omega) (by omega) (by omega) mz, fun k x1 x2 => ?_, fun k x1 x2 => ?_, f015.trans' f19⟩, ?_⟩
  · rw [elo', e19]
    by_cases hk : k = i'
    · rw [if_neg (by omega), if_pos hk]; have := hB2' (by omega); omega
    · rw [if_neg (by omega), if_neg hk]; exact hl' k (by omega) (by omega)
  · rw [elo', e19]
    by_cases hk : k = j'
    · rw [if_pos hk]; exact hA2' (by omega)
    · rw [if_neg hk, if_neg (by omega)]; exact hr' k (by omega) (by omega)
  · show (((j' - 1 : Nat) : Int) + 1 - ((i' + 1 : Nat) : Int)).toNat < ((j : Int) + 1 - (i : Int)).toNat
    omega

/-- all of [lo, hi) are no less than the pivot: those that are it come first. -/
theorem partitionEqual (s : Slc enU 1 w v xs [b]) {lo hi p : Nat} (h1 : lo + 12 < hi) (h2 : hi ≤ xs.length) (hn : xs.length < 1000000000) (hp1 : lo ≤ p) (hp2 : p < hi)
    (hR : ∀ w' ys (m : Nat), Slc enU 1 w' v ys [b] → Mix lo hi xs ys → lo < m → m ≤ hi → (∀ k, lo ≤ k → k < m → at0 ys k ≤ at0 xs p) → (∀ k, m ≤ k → k < hi → at0 xs p < at0 ys k) → Fr [b] w w' → R (.int .i64 (m : Int)) w') :
    CALL PR F_slices_partitionEqualOrdered_uint64 [v, .int .i64 (lo : Int), .int .i64 (hi : Int), .int .i64 (p : Int)] w R := by
  refine C_slices_partitionEqualOrdered_uint64 ?_
  unfold M_slices_partitionEqualOrdered_uint64
  refine BND_step (ia s (by omega)) <| BND_step (ia s (by omega)) <| swap_tail s (p := lo) (q := p) (by omega) (by omega) fun w2 s2 f2 => ?_
  have mx2 : Mix lo hi xs (swp xs lo p) := .swap lo p (by omega) (by omega) hp1 hp2 (.refl _)
  have e2 : at0 (swp xs lo p) lo = at0 xs p := by
    rw [at0_swp (by omega) (by omega)]
    by_cases h : lo = p
    · rw [if_pos h, h]
    · rw [if_neg h, if_pos rfl]
  generalize swp xs lo p = ys at s2 mx2 e2
  refine BND_step (inc (by omega)) <| BND_step (dec (by omega) (by omega)) ?_
  refine ⟨fun ti tj w' => ∃ (i j : Nat) (zs : List Int), ti = .int .i64 i ∧ tj = .int .i64 j ∧ lo < i ∧ i ≤ j + 1 ∧ lo ≤ j ∧ j < hi ∧ Slc enU 1 w' v zs [b] ∧ Mix lo hi xs zs ∧ at0 zs lo = at0 xs p ∧ (∀ k, lo < k → k < i → ¬ at0 zs lo < at0 zs k) ∧ (∀ k, j < k → k < hi → at0 zs lo < at0 zs k) ∧ Fr [b] w w',
    fun ti tj _ => match ti, tj with | .int _ n, .int _ m => (m + 1 - n).toNat | _, _ => 0,
    ⟨lo + 1, hi - 1, ys, rfl, rfl, by omega, by omega, by omega, by omega, s2, mx2, e2, fun k a1 a2 => by omega, fun k a1 a2 => by omega, f2⟩, ?_⟩
  rintro _ _ _ w11 ⟨i, j, zs, rfl, rfl, a1, a2, a3, a4, s11, mz, ep, hl, hr, f11⟩
  have hzl := mz.len
  refine upNotGr s11 (lo := lo) (hi := j) (s0 := i) (by omega) (by omega) (by omega) (by omega) fun w13 i' i1' i2' hA' hA2' s13 f13 => ?_
  refine dnGr s13 (lo := lo) (lo0 := i') (s0 := j) (by omega) (by omega) (by omega) (by omega) (by omega) fun w15 j' j1' j2' hB' hB2' s15 f15 => ?_
  have f015 : Fr [b] w w15 := f11.trans' (f13.trans' f15).nil
  have hl' : ∀ k, lo < k → k < i' → ¬ at0 zs lo < at0 zs k := fun k x1 x2 => by
    by_cases hk : k < i
    · exact hl k x1 hk
    · exact hA' k (by omega) x2
  have hr' : ∀ k, j' < k → k < hi → at0 zs lo < at0 zs k := fun k x1 x2 => by
    by_cases hk : j < k
    · exact hr k hk x2
    · exact hB' k x1 (by omega)
  refine BND_step (binv_gtr _ _ _ _) ?_
  by_cases hij' : j' < i'
  · refine COND_dec_true (by omega) (hR w15 zs i' s15 mz (by omega) (by omega) (fun k x1 x2 => ?_) (fun k x1 x2 => ?_) f015)
    · rw [← ep]
      by_cases hk : k = lo
      · rw [hk]; omega
      · have := hl' k (by omega) x2; omega
    · rw [← ep]; exact hr' k (by omega) x2
  refine COND_dec_false (by omega) ?_
  have hne' : i' ≠ j' := fun e => by
    subst e
    have x1 := hA2' (by omega)
    have x2 := hB2' (by omega)
    omega
  refine BND_step (ia s15 (by omega)) <| BND_step (ia s15 (by omega)) <| swap_tail s15 (p := i') (q := j') (by omega) (by omega) fun w19 s19 f19 => ?_
  have e19 := at0_swp (xs := zs) (i := i') (j := j') (by omega) (by omega)
  have elo' : at0 (swp zs i' j') lo = at0 zs lo := by rw [e19, if_neg (by omega), if_neg (by omega)]
  refine BND_step (inc (by omega)) <| BND_step (dec (by omega) (by omega)) ⟨⟨i' + 1, j' - 1, _, rfl, rfl, by omega, by omega, by omega, by omega, s19, .swap i' j' (by omega) (by omega) (by omega) (by omega) mz, by rw [elo', ep], fun k x1 x2 => ?_, fun k x1 x2 => ?_, f015.trans' f19⟩, ?_⟩
  · rw [elo', e19]
    by_cases hk : k = i'
    · rw [if_neg (by omega), if_pos hk]; have := hB2' (by omega); omega
    · rw [if_neg (by omega), if_neg hk]; exact hl' k (by omega) (by omega)
  · rw [elo', e19]
    by_cases hk : k = j'
    · rw [if_pos hk]; have := hA2' (by omega); omega
    · rw [if_neg hk, if_neg (by omega)]; exact hr' k (by omega) (by omega)
  · show (((j' - 1 : Nat) : Int) + 1 - ((i' + 1 : Nat) : Int)).toNat < ((j : Int) + 1 - (i : Int)).toNat
    omega
end
end Go.Proofs.YtpclfkjbhlekaaaDoor.Sort64
end

section
namespace Go.Proofs.YtpclfkjbhlekaaaDoor.Sort64
open Go.Den
section
variable {w : World} {v : Value} {xs : List Int} {b : Nat} {R : Value → World → Prop}
/-- what stands ahead of lo is no more than all of [lo, hi). -/
def Above (xs : List Int) (lo hi : Nat) : Prop := 0 < lo → ∀ k, lo ≤ k → k < hi → at0 xs (lo - 1) ≤ at0 xs k
theorem Above.mix {ys : List Int} {lo hi : Nat} (h : Above xs lo hi) (hm : Mix lo hi xs ys) (h2 : hi ≤ xs.length) : Above ys lo hi := fun h0 k h1 h3 => by
  rw [hm.out h2 (lo - 1) (.inl (by omega))]
  exact hm.all h2 (p := fun x => at0 xs (lo - 1) ≤ x) (fun m m1 m2 => h h0 m m1 m2) k h1 h3

theorem partialInsertion (s : Slc enU 1 w v xs [b]) {lo hi : Nat} (h1 : lo + 12 < hi) (h2 : hi ≤ xs.length) (hn : xs.length < 1000000000) (hab : Above xs lo hi)
    (hR : ∀ w' ys (B : Bool), Slc enU 1 w' v ys [b] → Mix lo hi xs ys → (B = true → Sorted ys lo hi) → Fr [b] w w' → R (.bool B) w') :
    CALL PR F_slices_partialInsertionSortOrdered_uint64 [v, .int .i64 (lo : Int), .int .i64 (hi : Int)] w R := by
  refine C_slices_partialInsertionSortOrdered_uint64 ?_
  unfold M_slices_partialInsertionSortOrdered_uint64
  refine BND_step (inc (by omega)) ?_
  refine ⟨fun ti tc w' => ∃ (i c : Nat) (ys : List Int), ti = .int .i64 i ∧ tc = .int .i64 c ∧ lo < i ∧ i ≤ hi ∧ c ≤ 5 ∧ Slc enU 1 w' v ys [b] ∧ Mix lo hi xs ys ∧ Sorted ys lo i ∧ Fr [b] w w', fun _ tc _ => match tc with | .int _ n => 5 - n.toNat | _ => 0,
    ⟨lo + 1, 0, xs, rfl, rfl, by omega, by omega, by omega, s, .refl _, fun p q a1 a2 a3 => by
      have : p = q := by omega
      subst this; omega, Fr.refl _ _⟩, ?_⟩
  rintro _ _ _ w1 ⟨i, c, ys, rfl, rfl, hi1, hi2, hc5, s1, mx, so, f1⟩
  have hyl := mx.len
  refine BND_step (binv_lss _ _ _ _) ?_
  by_cases hc : c < 5
  · refine COND_dec_true (by omega) ?_
    refine ⟨fun ti w' => ∃ (i : Nat), ti = .int .i64 i ∧ lo < i ∧ i ≤ hi ∧ Slc enU 1 w' v ys [b] ∧ Sorted ys lo i ∧ Fr [b] w w', fun ti _ => match ti with | .int _ n => hi - n.toNat | _ => 0, ⟨i, rfl, hi1, hi2, s1, so, f1⟩, ?_⟩
    rintro _ _ w2 ⟨i, rfl, hi1, hi2, s2, so, f2⟩
    have sd : Slc enU 1 w2.drew v ys [b] := s2.fr (Fr.drew [] w2) (by simp)
    have fd : Fr [b] w w2.drew := f2.trans' (Fr.drew _ _)
    -- behind the run that rises
    have pre : ∀ K : Value → World → Prop, (∀ (B : Bool) w3, (B = true → i < hi ∧ at0 ys (i - 1) ≤ at0 ys i) → (B = false → i < hi → at0 ys i < at0 ys (i - 1)) → Slc enU 1 w3 v ys [b] → Fr [b] w w3 → K (.bool B) w3) →
        BND (binv .int .lss (.int .i64 (i : Int)) (.int .i64 (hi : Int))) fun t19_149 =>
        BND (grd (isB t19_149 true) (some v)) fun t21_150 =>
        BND (grd (isB t19_149 true) (some (.int .i64 (i : Int)))) fun t22_151 =>
        BND (grd (isB t19_149 true) (iaddr 1 t21_150 t22_151)) fun t23_152 =>
        BND (grd (isB t19_149 true) (some v)) fun t25_153 =>
        BND (grd (isB t19_149 true) (some (.int .i64 (i : Int)))) fun t26_154 =>
        BND (grd (isB t19_149 true) (binv .int .sub t26_154 (Value.int .i64 1))) fun t27_155 =>
        BND (grd (isB t19_149 true) (iaddr 1 t25_153 t27_155)) fun t28_156 =>
        BND (grd (isB t19_149 true) (load1 w2.drew t23_152)) fun t24_157 =>
        BND (grd (isB t19_149 true) (load1 w2.drew t28_156)) fun t29_158 =>
        GEF (isB t19_149 true) (fun k_ => CALL PR F_cmp_Less_uint64 [t24_157, t29_158] w2.drew k_) w2.drew fun t30_159 w3 =>
        BND (grd (isB t19_149 true) (unv .not t30_159)) fun t31_160 =>
        BND (pickv t19_149 t31_160 (Value.bool false)) fun t32_161 => K t32_161 w3 := by
      intro K hK
      refine BND_step (binv_lss _ _ _ _) ?_
      by_cases hlt : i < hi
      · have e1 : decide ((i : Int) < (hi : Int)) = true := by simp <;> omega
        rw [e1]
        simp only [isB_tt, grd_true, BND_some, GEF_true]
        refine BND_step (ia sd (by omega)) <| BND_step (dec (by omega) (by omega)) <| BND_step (ia sd (by omega)) <| BND_step (ld sd (by omega)) <| BND_step (ld sd (by omega)) <| less64 _ _ <| BND_step (unv_not _) <| BND_step (pickv_true _ _) ?_
        refine hK _ _ (fun hB => ⟨hlt, ?_⟩) (fun hB _ => ?_) sd fd
        · simp at hB; omega
        · simp at hB; omega
      · have e1 : decide ((i : Int) < (hi : Int)) = false := by simp <;> omega
        rw [e1]
        simp only [isB_ft, grd_false, BND_some, GEF_false, pickv_false]
        exact hK false _ (fun hB => by cases hB) (fun _ h => absurd h hlt) sd fd
    refine pre _ fun B w3 hB1 hB0 s3 f3 => ?_
    clear pre
    cases B with
    | true =>
      obtain ⟨hlt, hle⟩ := hB1 rfl
      refine (COND_true _ _).2 <| BND_step (inc (by omega)) ⟨⟨i + 1, rfl, by omega, by omega, s3, fun p q a1 a2 a3 => ?_, f3⟩, by simp <;> omega⟩
      by_cases hq : q = i
      · subst hq
        by_cases hp : p = q
        · subst hp; omega
        · have := so p (q - 1) a1 (by omega) (by omega); omega
      · exact so p q a1 a2 (by omega)
    | false =>
    refine (COND_false _ _).2 <| BND_step (binv_eql _ _ _ _) ?_
    by_cases he : i = hi
    · subst he
      exact COND_dec_true rfl (hR w3 ys true s3 mx (fun _ => so) f3)
    refine COND_dec_false (by omega) <| BND_step (subn (by omega) (by omega)) <| BND_step (binv_lss _ _ _ _) ?_
    have hlt : i < hi := by omega
    have hdes := hB0 rfl hlt
    by_cases h50 : (((hi - lo : Nat) : Int)) < 50
    · exact COND_dec_true h50 (hR w3 ys false s3 mx (fun h => by cases h) f3)
    refine COND_dec_false h50 <| BND_step (dec (by omega) (by omega)) <| BND_step (dec (by omega) (by omega)) <| BND_step (ia s3 (by omega)) <| BND_step (ia s3 (by omega)) <| swap_tail s3 (p := i) (q := i - 1) (by omega) (by omega) fun w5 s5 f5 => ?_
    have e5 := at0_swp (xs := ys) (i := i) (j := i - 1) (by omega) (by omega)
    have m5 : Mix lo hi xs (swp ys i (i - 1)) := .swap i (i - 1) (by omega) (by omega) (by omega) (by omega) mx
    have hhole : ∀ p q, lo ≤ p → p ≤ q → q ≤ i - 1 → q ≠ i - 1 → p ≠ i - 1 → at0 (swp ys i (i - 1)) p ≤ at0 (swp ys i (i - 1)) q := fun p q a1 a2 a3 a4 a5 => by
      rw [e5, e5, if_neg (by omega), if_neg (by omega), if_neg (by omega), if_neg (by omega)]
      exact so p q a1 a2 (by omega)
    generalize swp ys i (i - 1) = zs at s5 m5 hhole
    have f5' := f3.trans' f5
    refine BND_step (subn (by omega) (by omega)) <| BND_step (binv_geq _ _ _ _) <| JOIN_elim fun K hK => ?_
    -- behind the one that is put to the left
    have go : ∀ w6 us, Slc enU 1 w6 v us [b] → Mix lo hi xs us → Sorted us lo i → Fr [b] w w6 → K w6 := by
      intro w6 us s6 m6 so6 f6
      have hul := m6.len
      subst hK
      refine BND_step (subn (by omega) (by omega)) <| BND_step (binv_geq _ _ _ _) <| JOIN_elim fun K2 hK2 => ?_
      have go2 : ∀ w7 us, Slc enU 1 w7 v us [b] → Mix lo hi xs us → Sorted us lo i → Fr [b] w w7 → K2 w7 := by
        intro w7 us s7 m7 so7 f7
        subst hK2
        exact BND_step (inc (by omega)) ⟨⟨i, c + 1, us, rfl, rfl, hi1, hi2, by omega, s7, m7, so7, f7⟩, by simp <;> omega⟩
      clear hK2
      by_cases hg : (2 : Int) ≤ ((hi - i : Nat) : Int)
      · refine COND_dec_true hg <| BND_step (inc (by omega)) ?_
        refine ⟨fun tj w' => ∃ (j : Nat) (us : List Int), tj = .int .i64 j ∧ i < j ∧ j ≤ hi ∧ Slc enU 1 w' v us [b] ∧ Mix lo hi xs us ∧ Sorted us lo i ∧ Fr [b] w w', fun tj _ => match tj with | .int _ n => hi - n.toNat | _ => 0, ⟨i + 1, us, rfl, by omega, by omega, s6, m6, so6, f6⟩, ?_⟩
        rintro _ _ w8 ⟨j, us, rfl, j1, j2, s8, m8, so8, f8⟩
        have hul := m8.len
        have s8d : Slc enU 1 w8.drew v us [b] := s8.fr (Fr.drew [] w8) (by simp)
        have f8d : Fr [b] w w8.drew := f8.trans' (Fr.drew _ _)
        refine BND_step (binv_lss _ _ _ _) ?_
        by_cases hjh : j < hi
        · refine COND_dec_true (by omega) <| BND_step (ia s8 (by omega)) <| BND_step (dec (by omega) (by omega)) <| BND_step (ia s8 (by omega)) <| BND_step (ld s8d (by omega)) <| BND_step (ld s8d (by omega)) <| less64 _ _ <| BND_step (unv_not _) ?_
          by_cases hl : at0 us j < at0 us (j - 1)
          · rw [show (!decide (at0 us j < at0 us (j - 1))) = false by simp [hl]]
            refine (COND_false _ _).2 <| BND_step (dec (by omega) (by omega)) <| BND_step (dec (by omega) (by omega)) <| BND_step (ia s8d (by omega)) <| BND_step (ia s8d (by omega)) <| swap_tail s8d (p := j) (q := j - 1) (by omega) (by omega) fun w11 s11 f11 => ?_
            refine BND_step (inc (by omega)) ⟨⟨j + 1, _, rfl, by omega, by omega, s11, .swap j (j - 1) (by omega) (by omega) (by omega) (by omega) m8, fun p q a1 a2 a3 => ?_, f8d.trans' f11⟩, by simp <;> omega⟩
            have e11 := at0_swp (xs := us) (i := j) (j := j - 1) (by omega) (by omega)
            rw [e11, e11, if_neg (by omega), if_neg (by omega), if_neg (by omega), if_neg (by omega)]
            exact so8 p q a1 a2 a3
          · rw [show (!decide (at0 us j < at0 us (j - 1))) = true by simp <;> omega]
            exact (COND_true _ _).2 (go2 _ us s8d m8 so8 f8d)
        · exact COND_dec_false (by omega) (go2 w8 us s8 m8 so8 f8)
      · exact COND_dec_false hg (go2 w6 us s6 m6 so6 f6)
    clear hK
    by_cases hg : (2 : Int) ≤ ((i - lo : Nat) : Int)
    · refine COND_dec_true hg <| BND_step (dec (by omega) (by omega)) ?_
      refine ⟨fun tj w' => ∃ (j : Nat) (us : List Int), tj = .int .i64 j ∧ lo ≤ j ∧ j ≤ i - 1 ∧ Slc enU 1 w' v us [b] ∧ Mix lo hi xs us ∧ (∀ p q, lo ≤ p → p ≤ q → q ≤ i - 1 → q ≠ j → p ≠ j → at0 us p ≤ at0 us q) ∧ (∀ q, j < q → q ≤ i - 1 → at0 us j ≤ at0 us q) ∧ Fr [b] w w',
        fun tj _ => match tj with | .int _ n => n.toNat | _ => 0, ⟨i - 1, zs, rfl, by omega, by omega, s5, m5, hhole, fun q a1 a2 => by omega, f5'⟩, ?_⟩
      rintro _ _ w12 ⟨j, us, rfl, j1, j2, s12, m12, hs, hr, f12⟩
      have hul := m12.len
      have s12d : Slc enU 1 w12.drew v us [b] := s12.fr (Fr.drew [] w12) (by simp)
      have f12d : Fr [b] w w12.drew := f12.trans' (Fr.drew _ _)
      have stop : (lo < j → at0 us (j - 1) ≤ at0 us j) → Sorted us lo i := fun hle p q a1 a2 a3 => by
        by_cases hq : q = j
        · subst hq
          by_cases hp : p = q
          · subst hp; omega
          · by_cases hp1 : p = q - 1
            · subst hp1; exact hle (by omega)
            · have x1 := hs p (q - 1) a1 (by omega) (by omega) (by omega) hp
              have x2 := hle (by omega)
              omega
        · by_cases hp : p = j
          · subst hp; exact hr q (by omega) (by omega)
          · exact hs p q a1 a2 (by omega) hq hp
      refine BND_step (binv_geq _ _ _ _) ?_
      by_cases hj1 : 1 ≤ j
      · refine COND_dec_true (by omega) <| BND_step (ia s12 (by omega)) <| BND_step (dec (by omega) (by omega)) <| BND_step (ia s12 (by omega)) <| BND_step (ld s12d (by omega)) <| BND_step (ld s12d (by omega)) <| less64 _ _ <| BND_step (unv_not _) ?_
        by_cases hl : at0 us j < at0 us (j - 1)
        · rw [show (!decide (at0 us j < at0 us (j - 1))) = false by simp [hl]]
          have hlj : lo < j := by
            rcases Nat.lt_or_ge lo j with h | h
            · exact h
            · have hjl : j = lo := by omega
              subst hjl
              have := (hab.mix m12 h2) (by omega) j (by omega) (by omega)
              omega
          refine (COND_false _ _).2 <| BND_step (dec (by omega) (by omega)) <| BND_step (dec (by omega) (by omega)) <| BND_step (ia s12d (by omega)) <| BND_step (ia s12d (by omega)) <| swap_tail s12d (p := j) (q := j - 1) (by omega) (by omega) fun w15 s15 f15 => ?_
          obtain ⟨n1, n2⟩ := swp_sorted (i := i - 1) (by omega) hlj j2 hs hr hl
          exact BND_step (dec (by omega) (by omega)) ⟨⟨j - 1, _, rfl, by omega, by omega, s15, .swap j (j - 1) (by omega) (by omega) (by omega) (by omega) m12, n1, n2, f12d.trans' f15⟩, by simp <;> omega⟩
        · rw [show (!decide (at0 us j < at0 us (j - 1))) = true by simp <;> omega]
          exact (COND_true _ _).2 (go _ us s12d m12 (stop fun _ => by omega) f12d)
      · exact COND_dec_false (by omega) (go w12 us s12 m12 (stop fun h => by omega) f12)
    · exact COND_dec_false hg (go w5 zs s5 m5 (fun p q a1 a2 a3 => by
        have : p = q := by omega
        subst this; omega) f5')
  · exact COND_dec_false (by omega) (hR w1 ys false s1 mx (fun h => by cases h) f1)

/-! ## pdqsort -/
/-- of A..B all is in order but within [lo, hi). -/
def But (xs : List Int) (A B lo hi : Nat) : Prop := ∀ i j, A ≤ i → i ≤ j → j < B → (i < lo ∨ hi ≤ j) → at0 xs i ≤ at0 xs j
theorem But.mix {ys : List Int} {A B lo hi : Nat} (h : But xs A B lo hi) (hm : Mix lo hi xs ys) (h2 : hi ≤ xs.length) (hA : A ≤ lo) (hB : hi ≤ B) : But ys A B lo hi := by
  intro i j h1 h3 h4 h5
  have old : ∀ k, (k < lo ∨ hi ≤ k) → at0 ys k = at0 xs k := fun k hk => hm.out h2 k hk
  have new : ∀ k, lo ≤ k → k < hi → ∃ m, lo ≤ m ∧ m < hi ∧ at0 ys k = at0 xs m := fun k => hm.pick h2 k
  by_cases hi' : i < lo
  · rw [old i (.inl hi')]
    by_cases hj : lo ≤ j ∧ j < hi
    · obtain ⟨m, m1, m2, e⟩ := new j hj.1 hj.2
      rw [e]; exact h i m h1 (by omega) (by omega) (.inl hi')
    · rw [old j (by omega)]; exact h i j h1 h3 h4 (.inl hi')
  · have hj : hi ≤ j := by omega
    rw [old j (.inr hj)]
    by_cases hin : i < hi
    · obtain ⟨m, m1, m2, e⟩ := new i (by omega) hin
      rw [e]; exact h m j (by omega) (by omega) h4 (.inr hj)
    · rw [old i (.inr (by omega))]; exact h i j h1 h3 h4 (.inr hj)
theorem But.done {A B lo hi : Nat} (h : But xs A B lo hi) (hs : Sorted xs lo hi) : Sorted xs A B := fun i j h1 h2 h3 => by
  by_cases hc : i < lo ∨ hi ≤ j
  · exact h i j h1 h2 h3 hc
  · exact hs i j (by omega) h2 (by omega)
/-- the left of a pivot is in order: the rest is the right. -/
theorem But.left {A B lo hi m : Nat} (h : But xs A B lo hi) (hm1 : lo ≤ m) (hm2 : m < hi) (hs : Sorted xs lo m) (hl : ∀ k, lo ≤ k → k < m → at0 xs k ≤ at0 xs m) (hr : ∀ k, m < k → k < hi → at0 xs m ≤ at0 xs k) : But xs A B (m + 1) hi := by
  intro i j h1 h2 h3 h5
  by_cases hc : i < lo ∨ hi ≤ j
  · exact h i j h1 h2 h3 hc
  · rcases h5 with h5 | h5
    · by_cases him : i = m
      · subst him
        by_cases hj : j = i
        · subst hj; omega
        · exact hr j (by omega) (by omega)
      · by_cases hjm : j < m
        · exact hs i j (by omega) h2 hjm
        · have x1 := hl i (by omega) (by omega)
          by_cases hj : j = m
          · rw [hj]; exact x1
          · have x2 := hr j (by omega) (by omega); omega
    · omega
theorem But.right {A B lo hi m : Nat} (h : But xs A B lo hi) (hm1 : lo ≤ m) (hm2 : m < hi) (hs : Sorted xs (m + 1) hi) (hl : ∀ k, lo ≤ k → k < m → at0 xs k ≤ at0 xs m) (hr : ∀ k, m < k → k < hi → at0 xs m ≤ at0 xs k) : But xs A B lo m := by
  intro i j h1 h2 h3 h5
  by_cases hc : i < lo ∨ hi ≤ j
  · exact h i j h1 h2 h3 hc
  · have hj : m ≤ j := by omega
    by_cases hjm : j = m
    · subst hjm
      by_cases hi' : i = j
      · subst hi'; omega
      · exact hl i (by omega) (by omega)
    · by_cases him : m < i
      · exact hs i j (by omega) h2 (by omega)
      · have x2 := hr j (by omega) (by omega)
        by_cases hi' : i = m
        · subst hi'; exact x2
        · have x1 := hl i (by omega) (by omega); omega
/-- those that are the least ones stand first: the rest is behind them. -/
theorem But.least {A B lo hi m : Nat} {p : Int} (h : But xs A B lo hi) (_ : lo ≤ m) (hge : ∀ k, lo ≤ k → k < hi → p ≤ at0 xs k) (hl : ∀ k, lo ≤ k → k < m → at0 xs k ≤ p) : But xs A B m hi := by
  intro i j h1 h2 h3 h5
  by_cases hc : i < lo ∨ hi ≤ j
  · exact h i j h1 h2 h3 hc
  · have x1 := hl i (by omega) (by omega)
    have x2 := hge j (by omega) (by omega)
    omega

theorem pdq : ∀ (N : Nat) {w : World} {xs : List Int} {R : Value → World → Prop} (_ : Slc enU 1 w v xs [b]) {A B : Nat} {lim : Int} (_ : A ≤ B) (_ : B ≤ xs.length) (_ : B - A ≤ N) (_ : xs.length < 256) (_ : Above xs A B) (_ : 0 ≤ lim) (_ : lim < 1000000)
    (_ : ∀ w' ys, Slc enU 1 w' v ys [b] → Mix A B xs ys → Sorted ys A B → Fr [b] w w' → R (.tuple #[]) w'), CALL PR F_slices_pdqsortOrdered_uint64 [v, .int .i64 (A : Int), .int .i64 (B : Int), .int .i64 lim] w R
  | 0, w, xs, R, s, A, B, lim, h1, h2, hN, hn, hab, hl0, hl1, hR => by
    refine C_slices_pdqsortOrdered_uint64 ?_
    unfold M_slices_pdqsortOrdered_uint64
    refine ⟨fun t1 t2 t3 t4 t5 w' => t1 = .int .i64 (A : Int) ∧ t2 = .int .i64 (B : Int) ∧ w' = w, fun _ _ _ _ _ _ => 0, ⟨rfl, rfl, rfl⟩, ?_⟩
    rintro _ _ _ _ _ _ _ ⟨rfl, rfl, rfl⟩
    refine BND_step (subn (by omega) (by omega)) <| BND_step (binv_leq _ _ _ _) <| COND_dec_true (by omega) <| insertionSort s h1 h2 (by omega) hR
  | N + 1, w, xs, R, s, A, B, lim, h1, h2, hN, hn, hab, hl0, hl1, hR => by
    refine C_slices_pdqsortOrdered_uint64 ?_
    unfold M_slices_pdqsortOrdered_uint64
    refine ⟨fun t1 t2 t3 t4 t5 w' => ∃ (lo hi : Nat) (lim : Int) (wb wp : Bool) (ys : List Int), t1 = .int .i64 lo ∧ t2 = .int .i64 hi ∧ t3 = .int .i64 lim ∧ t4 = .bool wb ∧ t5 = .bool wp ∧ A ≤ lo ∧ lo ≤ hi ∧ hi ≤ B ∧ 0 ≤ lim ∧ lim < 1000000 ∧ Slc enU 1 w' v ys [b] ∧ Mix A B xs ys ∧ But ys A B lo hi ∧ Fr [b] w w',
      fun t1 t2 _ _ _ _ => match t1, t2 with | .int _ n, .int _ m => (m - n).toNat | _, _ => 0, ⟨A, B, lim, true, true, xs, rfl, rfl, rfl, rfl, rfl, by omega, h1, by omega, hl0, hl1, s, .refl _, fun i j a1 a2 a3 a4 => by omega, Fr.refl _ _⟩, ?_⟩
    rintro _ _ _ _ _ _ w1 ⟨lo, hi, lim, wb, wp, ys, rfl, rfl, rfl, rfl, rfl, q1, q2, q3, q4, q5, s1, mx, bt, f1⟩
    have hyl := mx.len
    refine BND_step (subn (by omega) (by omega)) <| BND_step (binv_leq _ _ _ _) ?_
    by_cases h12 : hi - lo ≤ 12
    · refine COND_dec_true (by omega) <| insertionSort s1 q2 (by omega) (by omega) fun w2 zs s2 mz so f2 => ?_
      exact hR w2 zs s2 (mx.trans (mz.wider q1 q3)) ((bt.mix mz (by omega) q1 q3).done so) (f1.trans' f2)
    refine COND_dec_false (by omega) <| BND_step (binv_eql _ _ _ _) ?_
    by_cases hlz : lim = 0
    · refine COND_dec_true hlz <| heapSort s1 (by omega) (by omega) (by omega) fun w2 zs s2 mz so f2 => ?_
      exact hR w2 zs s2 (mx.trans (mz.wider q1 q3)) ((bt.mix mz (by omega) q1 q3).done so) (f1.trans' f2)
    refine COND_dec_false hlz <| BND_step (unv_not _) <| JOIN_elim fun K hK => ?_
    -- behind the patterns' breaking
    have go1 : ∀ w4 (l4 : Int) zs, 0 ≤ l4 → l4 < 1000000 → Slc enU 1 w4 v zs [b] → Mix lo hi ys zs → Fr [b] w w4 → K (.int .i64 l4) w4 := by
      intro w4 l4 zs l40 l41 s4 m4 f4
      have hzl := m4.len
      subst hK
      refine choosePivot s4 (by omega) (by omega) (by omega) fun w5 p hint p1 p2 s5 f5 => ?_
      refine BND_step (v := .int .i64 (p : Int)) rfl <| BND_step (v := .int .i64 hint) rfl <| BND_step (binv_eql _ _ _ _) <| JOIN_elim fun K2 hK2 => ?_
      have go2 : ∀ w6 (p : Nat) (h6 : Int) us, lo ≤ p → p < hi → Slc enU 1 w6 v us [b] → Mix lo hi ys us → Fr [b] w w6 → K2 (.int .i64 (p : Int)) (.int .i64 h6) w6 := by
        intro w6 p h6 us p1 p2 s6 m6 f6
        have hul := m6.len
        have bt6 := bt.mix m6 (by omega) q1 q3
        subst hK2
        have hab6 : Above us lo hi := fun h0 k k1 k2 => by
          by_cases hA : A = lo
          · have habA : Above us A B := hab.mix (mx.trans (m6.wider q1 q3)) (by omega)
            subst hA
            exact habA h0 k k1 (by omega)
          · exact bt6 (lo - 1) k (by omega) (by omega) (by omega) (.inl (by omega))
        -- is it to be tried whether nearly all is in order?
        have pre : ∀ Q : Value → Prop, (∀ B' : Bool, Q (.bool B')) → BND (grd (isB (.bool wb) true) (some (.bool wp))) fun t63_160 => BND (pickv (.bool wb) t63_160 (Value.bool false)) fun t64_161 => BND (grd (isB t64_161 true) (some (.int .i64 h6))) fun t66_162 =>
            BND (grd (isB t64_161 true) (binv .int .eql t66_162 (Value.int .i64 1))) fun t67_163 => BND (pickv t64_161 t67_163 (Value.bool false)) fun t68_164 => Q t68_164 := by
          intro Q hQ
          cases wb with
          | false => simp only [isB_ft, grd_false, BND_some, pickv_false]; exact hQ false
          | true =>
            cases wp with
            | false => simp only [isB_tt, isB_ft, grd_true, grd_false, BND_some, pickv_true, pickv_false]; exact hQ false
            | true => simp only [isB_tt, grd_true, BND_some, pickv_true, binv_eql]; exact hQ _
        refine pre _ fun B' => JOIN_elim fun K3 hK3 => ?_
        clear pre
        have go3 : ∀ w7 us, Slc enU 1 w7 v us [b] → Mix lo hi ys us → Fr [b] w w7 → K3 w7 := by
          intro w7 us s7 m7 f7
          have hul := m7.len
          have bt7 := bt.mix m7 (by omega) q1 q3
          have mx7 : Mix A B xs us := mx.trans (m7.wider q1 q3)
          subst hK3
          have hab7 : Above us lo hi := fun h0 k k1 k2 => by
            by_cases hA : A = lo
            · have habA : Above us A B := hab.mix mx7 (by omega)
              subst hA
              exact habA h0 k k1 (by omega)
            · exact bt7 (lo - 1) k (by omega) (by omega) (by omega) (.inl (by omega))
          have s7d : Slc enU 1 w7.drew v us [b] := s7.fr (Fr.drew [] w7) (by simp)
          have f7d : Fr [b] w w7.drew := f7.trans' (Fr.drew _ _)
          -- is the pivot the one ahead?
          have pre2 : ∀ Q : Value → World → Prop, (∀ B2 : Bool, (B2 = true → 0 < lo ∧ at0 us p ≤ at0 us (lo - 1)) → Q (.bool B2) w7.drew) → BND (binv .int .gtr (.int .i64 (lo : Int)) (Value.int .i64 0)) fun t74_169 =>
              BND (grd (isB t74_169 true) (some v)) fun t76_170 => BND (grd (isB t74_169 true) (some (.int .i64 (lo : Int)))) fun t77_171 => BND (grd (isB t74_169 true) (binv .int .sub t77_171 (Value.int .i64 1))) fun t78_172 => BND (grd (isB t74_169 true) (iaddr 1 t76_170 t78_172)) fun t79_173 =>
              BND (grd (isB t74_169 true) (some v)) fun t81_174 => BND (grd (isB t74_169 true) (some (.int .i64 (p : Int)))) fun t82_175 => BND (grd (isB t74_169 true) (iaddr 1 t81_174 t82_175)) fun t83_176 => BND (grd (isB t74_169 true) (load1 w7.drew t79_173)) fun t80_177 => BND (grd (isB t74_169 true) (load1 w7.drew t83_176)) fun t84_178 =>
              GEF (isB t74_169 true) (fun k_ => CALL PR F_cmp_Less_uint64 [t80_177, t84_178] w7.drew k_) w7.drew fun t85_179 w8 => BND (grd (isB t74_169 true) (unv .not t85_179)) fun t86_180 => BND (pickv t74_169 t86_180 (Value.bool false)) fun t87_181 => Q t87_181 w8 := by
            intro Q hQ
            refine BND_step (binv_gtr _ _ _ _) ?_
            by_cases h0 : 0 < lo
            · have e1 : decide ((0 : Int) < (lo : Int)) = true := by simp <;> omega
              rw [e1]
              simp only [isB_tt, grd_true, BND_some, GEF_true]
              refine BND_step (dec h0 (by omega)) <| BND_step (ia s7d (by omega)) <| BND_step (ia s7d (by omega)) <| BND_step (ld s7d (by omega)) <| BND_step (ld s7d (by omega)) <| less64 _ _ <| BND_step (unv_not _) <| BND_step (pickv_true _ _) ?_
              refine hQ _ fun hB => ⟨h0, ?_⟩
              simp at hB; omega
            · have e1 : decide ((0 : Int) < (lo : Int)) = false := by simp <;> omega
              rw [e1]
              simp only [isB_ft, grd_false, BND_some, GEF_false, pickv_false]
              exact hQ false fun hB => by cases hB
          refine pre2 _ fun B2 hB2 => ?_
          clear pre2
          cases B2 with
          | true =>
            obtain ⟨h0, hle⟩ := hB2 rfl
            have hge : ∀ k, lo ≤ k → k < hi → at0 us p ≤ at0 us k := fun k k1 k2 => by have := hab7 h0 k k1 k2; omega
            refine (COND_true _ _).2 <| partitionEqual s7d (by omega) (by omega) (by omega) p1 p2 fun w9 ts m s9 m9 e1 e2 hl hr f9 => ?_
            have bt9 := bt7.mix m9 (by omega) q1 q3
            refine ⟨⟨m, hi, l4, wb, wp, ts, rfl, rfl, rfl, rfl, rfl, by omega, e2, q3, l40, l41, s9, mx7.trans (m9.wider q1 q3), bt9.least (p := at0 us p) (by omega) (fun k k1 k2 => m9.all (by omega) (p := fun x => at0 us p ≤ x) hge k k1 k2) hl, f7d.trans' f9⟩, ?_⟩
            show ((hi : Int) - (m : Int)).toNat < ((hi : Int) - (lo : Int)).toNat
            omega
          | false =>
            refine (COND_false _ _).2 <| partition s7d (by omega) (by omega) (by omega) p1 p2 fun w10 ts m B3 s10 m10 e1 e2 hl hr f10 => ?_
            have htl := m10.len
            have bt10 := bt7.mix m10 (by omega) q1 q3
            have mx10 : Mix A B xs ts := mx7.trans (m10.wider q1 q3)
            have hab10 : Above ts lo hi := hab7.mix m10 (by omega)
            have f010 := f7d.trans' f10
            refine BND_step (v := .int .i64 (m : Int)) rfl <| BND_step (v := .bool B3) rfl <| BND_step (subn (by omega) (by omega)) <| BND_step (subn (by omega) (by omega)) <| BND_step (quon (n := hi - lo) 8 (by omega) (by omega)) <| BND_step (binv_lss _ _ _ _) <| JOIN_elim fun K4 hK4 => ?_
            have go4 : ∀ w11 (lo' hi' : Nat) (wb' : Bool) rs, A ≤ lo' → lo' ≤ hi' → hi' ≤ B → hi' - lo' < hi - lo → Slc enU 1 w11 v rs [b] → Mix A B xs rs → But rs A B lo' hi' → Fr [b] w w11 → K4 (.int .i64 (lo' : Int)) (.int .i64 (hi' : Int)) (.bool wb') w11 := by
              intro w11 lo' hi' wb' rs r1 r2 r3 r4 s11 m11 bt11 f11
              subst hK4
              refine ⟨⟨lo', hi', l4, wb', B3, rs, rfl, rfl, rfl, rfl, rfl, r1, r2, r3, l40, l41, s11, m11, bt11, f11⟩, ?_⟩
              show ((hi' : Int) - (lo' : Int)).toNat < ((hi : Int) - (lo : Int)).toNat
              omega
            clear hK4
            have keepM : ∀ rs, (Mix lo m ts rs ∨ Mix (m + 1) hi ts rs) → at0 rs m = at0 ts m := fun rs h => by
              rcases h with h | h
              · exact h.out (by omega) m (.inr (by omega))
              · exact h.out (by omega) m (.inl (by omega))
            by_cases hlr : (((m - lo : Nat) : Int)) < ((hi - m : Nat) : Int)
            · refine COND_dec_true hlr <| BND_step (binv_geq _ _ _ _) <| pdq N s10 (A := lo) (B := m) e1 (by omega) (by omega) (by omega) (fun h0 k k1 k2 => hab10 h0 k k1 (by omega)) l40 l41 fun w12 rs s12 m12 so12 f12 => ?_
              have e12 := keepM rs (.inl m12)
              have bt12 := bt10.mix (m12.wider (d := hi) (Nat.le_refl _) (by omega)) (by omega) q1 q3
              refine BND_step (inc (by omega)) <| go4 w12 (m + 1) hi _ rs (by omega) (by omega) q3 (by omega) s12 (mx10.trans (m12.wider q1 (by omega))) (bt12.left e1 e2 so12 (fun k k1 k2 => ?_) (fun k k1 k2 => ?_)) (f010.trans' f12)
              · rw [e12]; exact m12.all (by omega) (p := fun x => x ≤ at0 ts m) hl k k1 k2
              · rw [e12, m12.out (by omega) k (.inr (by omega))]; exact hr k k1 k2
            · refine COND_dec_false hlr <| BND_step (binv_geq _ _ _ _) <| BND_step (inc (by omega)) <| pdq N s10 (A := m + 1) (B := hi) (by omega) (by omega) (by omega) (by omega) (fun _ k k1 k2 => by
                  rw [show m + 1 - 1 = m by omega]; exact hr k (by omega) k2) l40 l41 fun w13 rs s13 m13 so13 f13 => ?_
              have e13 := keepM rs (.inr m13)
              have bt13 := bt10.mix (m13.wider (c := lo) (by omega) (Nat.le_refl _)) (by omega) q1 q3
              refine go4 w13 lo m _ rs q1 e1 (by omega) (by omega) s13 (mx10.trans (m13.wider (by omega) q3)) (bt13.right e1 e2 so13 (fun k k1 k2 => ?_) (fun k k1 k2 => ?_)) (f010.trans' f13)
              · rw [e13, m13.out (by omega) k (.inl (by omega))]; exact hl k k1 k2
              · rw [e13]; exact m13.all (by omega) (p := fun x => at0 ts m ≤ x) (fun k k1 k2 => hr k (by omega) k2) k (by omega) k2
        clear hK3
        cases B' with
        | false => exact (COND_false _ _).2 (go3 w6 us s6 m6 f6)
        | true =>
          refine (COND_true _ _).2 <| partialInsertion s6 (by omega) (by omega) (by omega) hab6 fun w14 ts B2 s14 m14 so14 f14 => ?_
          cases B2 with
          | true => exact (COND_true _ _).2 (hR w14 ts s14 (mx.trans ((m6.trans m14).wider q1 q3)) (((bt.mix (m6.trans m14) (by omega) q1 q3)).done (so14 rfl)) (f6.trans' f14))
          | false => exact (COND_false _ _).2 (go3 w14 ts s14 (m6.trans m14) (f6.trans' f14))
      clear hK2
      have f5' := f4.trans' f5.nil
      by_cases h2h : hint = 2
      · refine COND_dec_true h2h <| reverseRange s5 (by omega) (by omega) (by omega) fun w15 us s15 m15 f15 => ?_
        refine BND_step (dec (by omega) (by omega)) <| BND_step (subn (by omega) (by omega)) <| BND_step (subn (by omega) (by omega)) <| go2 w15 _ 1 us (by omega) (by omega) s15 (m4.trans m15) (f5'.trans' f15)
      · exact COND_dec_false h2h (go2 w5 p hint zs p1 p2 s5 m4 f5')
    clear hK
    cases wb with
    | false =>
      refine (COND_true _ _).2 <| breakPatterns s1 (by omega) (by omega) (by omega) fun w16 zs s16 m16 f16 => ?_
      exact BND_step (decI (by omega) (by omega)) <| go1 w16 _ zs (by omega) (by omega) s16 m16 (f1.trans' f16)
    | true => exact (COND_false _ _).2 (go1 w1 lim ys q4 q5 s1 (.refl _) f1)

/-- slices.Sort at []uint64. -/
theorem sort64 {F : List Nat} (s : Slc enU 1 w v xs F) (hn : xs.length < 256) (hR : ∀ w' ys, Slc enU 1 w' v ys F → ys.Perm xs → ys.Pairwise (· ≤ ·) → Fr F w w' → R (.tuple #[]) w') :
    CALL PR F_slices_Sort_uint64_uint64 [v] w R := by
  refine C_slices_Sort_uint64_uint64 ?_
  unfold M_slices_Sort_uint64_uint64
  have hk : convi .u64 (.int .i64 (xs.length : Int)) = some (.int .u64 (xs.length : Int)) := by
    simp only [convi]
    rw [wrap_u64 (by omega) (by omega)]
  have hb8 := (len8_at xs.length hn).2.1
  refine BND_step s.len <| BND_step hk <| bitsLen hn ?_
  have hs := s
  rcases s with ⟨rfl, rfl, rfl⟩ | ⟨b, cap, c, T, hv, hb, hc, hz, rfl, hel⟩
  · -- nothing
    refine C_slices_pdqsortOrdered_uint64 ?_
    unfold M_slices_pdqsortOrdered_uint64
    refine ⟨fun t1 t2 t3 t4 t5 w' => t1 = .int .i64 0 ∧ t2 = .int .i64 0 ∧ w' = w, fun _ _ _ _ _ _ => 0, ⟨rfl, rfl, rfl⟩, ?_⟩
    rintro _ _ _ _ _ _ w1 ⟨rfl, rfl, hw⟩
    rw [hw]
    refine BND_step (subn (n := 0) (m := 0) (by omega) (by omega)) <| BND_step (binv_leq _ _ _ _) <| COND_dec_true (by omega) ?_
    refine C_slices_insertionSortOrdered_uint64 ?_
    unfold M_slices_insertionSortOrdered_uint64
    refine BND_step (inc (n := 0) (by omega)) ⟨fun t w' => t = .int .i64 1 ∧ w' = w, fun _ _ => 0, ⟨rfl, rfl⟩, ?_⟩
    rintro _ _ w2 ⟨rfl, hw2⟩
    rw [hw2]
    exact BND_step (binv_lss _ _ _ _) <| COND_dec_false (by omega) <| hR _ [] hs (.refl _) .nil (Fr.refl _ _)
  · refine pdq xs.length hs (A := 0) (B := xs.length) (by omega) (by omega) (by omega) hn (fun h => by omega) (by omega) (by omega) fun w' ys s' mx so f' => hR w' ys s' (mx.perm (by omega)) ?_ f'
    rw [List.pairwise_iff_getElem]
    intro i j hi hj hij
    have hyl := mx.len
    have := so i j (by omega) (by omega) (by omega)
    have e1 := at0_get (xs := ys) (i := i) hi
    have e2 := at0_get (xs := ys) (i := j) hj
    rw [List.getElem?_eq_getElem hi] at e1
    rw [List.getElem?_eq_getElem hj] at e2
    rw [Option.some.inj e1, Option.some.inj e2]
    exact this
end
end Go.Proofs.YtpclfkjbhlekaaaDoor.Sort64
end

section
namespace Go.Proofs.YtpclfkjbhlekaaaDoor
open Go.Den Go.Nm Go.Disk Go.Rec Go.RowKit Go.Shelf Sort64
def ints (l : List Nat) : List Int := l.map fun n : Nat => (n : Int)
theorem ints_len (l : List Nat) : (ints l).length = l.length := by simp [ints]
theorem nums_snoc (k : UInt8) (l : List ByteArray) (s : ByteArray) : numsK k (l ++ [s]) = if isK k s = true then numsK k l ++ [(readN s).2.1] else numsK k l := by
  unfold numsK
  rw [List.filter_append, List.map_append]
  split
  · rename_i h; simp [List.filter, h]
  · rename_i h; simp [List.filter, h]
theorem nums_le (k : UInt8) (l : List ByteArray) : (numsK k l).length ≤ l.length := by
  unfold numsK
  rw [List.length_map]
  exact List.length_filter_le _ _
theorem only_len (k : UInt8) (l : List ByteArray) : (onlyN k l).length = (numsK k l).length := (only_sort k l).2.length_eq
/-- of a row of wholes that is a row of numbers in another order. -/
theorem ints_perm {ys : List Int} {l : List Nat} (h : ys.Perm (ints l)) : ∃ zs : List Nat, ys = ints zs ∧ zs.Perm l := by
  refine ⟨ys.map Int.toNat, ?_, ?_⟩
  · unfold ints
    rw [List.map_map]
    apply List.ext_getElem?
    intro i
    rw [List.getElem?_map]
    cases hy : ys[i]? with
    | none => rfl
    | some y =>
      have hm : y ∈ ints l := h.mem_iff.1 (List.mem_of_getElem? hy)
      unfold ints at hm
      obtain ⟨n, _, rfl⟩ := List.mem_map.1 hm
      rfl
  · have := h.map Int.toNat
    unfold ints at this
    rw [List.map_map] at this
    have e : (Int.toNat ∘ fun n : Nat => (n : Int)) = id := by funext n; rfl
    rw [e, List.map_id] at this
    exact this
theorem only_ints {k : UInt8} {l : List ByteArray} {ys : List Int} (h1 : ys.Perm (ints (numsK k l))) (h2 : ys.Pairwise (· ≤ ·)) : ys = ints (onlyN k l) := by
  obtain ⟨zs, rfl, hp⟩ := ints_perm h1
  rw [only_eq hp]
  unfold ints at h2
  rw [List.pairwise_map] at h2
  exact h2.imp fun h => by omega
theorem isK_no {k : UInt8} {s : ByteArray} (h : (readN s).2.2 = false) : isK k s = false := by unfold isK; rw [h]; rfl
set_option linter.unusedSimpArgs false
set_option linter.unusedVariables false
set_option maxRecDepth 20000
set_option maxHeartbeats 4000000
attribute [local congr] BND_cg COND_cg GEF_cg
attribute [local irreducible] capl slicea load1 loadn iaddr iaddra faddr storev newslice binv lookv mupd mdel mlenv mentry mestore slicev slicev3 slices indexs indexav textv rangev nexts clearv shiftv eqaggv convi buildv pickv lens lenl unv nilchk extractv partn JOIN
section
variable {w : World} {R : Value → World → Prop}
theorem nm_Only (hT : Tab w) (hE : Errs w) (k : UInt8) {lv : Value} {l : List ByteArray} (ha : Arr encT 1 w lv l) (hl : l.length ≤ 200) (hs : ∀ s ∈ l, s.size ≤ 300)
    (hR : ∀ v w' F, Slc enU 1 w' v (ints (onlyN k l)) F → (∀ b ∈ F, hsz w ≤ b) → Fr [] w w' → R v w') : CALL PR F_name_Only [lv, .int .u8 (k.toNat : Int)] w R := by
  refine C_name_Only ?_
  unfold M_name_Only
  refine BND_step ha.len ?_
  refine loop_up2 (o := .slice none 0 0) 0 l.length (fun o i w' => Fr [] w w' ∧ ∃ F, Slc enU 1 w' o (ints (numsK k (l.take i))) F ∧ ∀ b ∈ F, hsz w ≤ b) ⟨Fr.refl _ _, [], Slc.nil _ _ _, by simp⟩ (by omega) ?_
  rintro o i w1 - hi ⟨f1, F, s1, g1⟩ J m hJ
  by_cases hlt : i < l.length
  · have hx := List.getElem?_eq_getElem hlt
    have hps := hs l[i] (List.getElem_mem hlt)
    generalize l[i] = p at hx hps
    obtain ⟨b1, o1, i1, m1, _, l1⟩ := (ha.fr f1 (by simp)).spot hx rfl .i64
    (repeat (first | refine BND_step (l1 (w' := w1) rfl (j := 0) rfl) ?_ | refine gg ?_))
    refine nm_Read (hT.fr f1) (hE.fr f1) p (by omega) fun w2 f2 => ?_
    have ht : l.take (i + 1) = l.take i ++ [p] := by rw [List.take_add_one, hx]; rfl
    have hn := nums_snoc k (l.take i) p
    rw [← ht] at hn
    have f12 := f1.trans' f2
    have s2 := s1.fr f2 (by simp)
    have no : isK k p = false → ∀ w', w' = w2 → (∃ F, Slc enU 1 w' o (ints (numsK k (l.take (i + 1)))) F ∧ ∀ b ∈ F, hsz w ≤ b) := fun h w' e => by
      subst e
      rw [h] at hn
      simp only [Bool.false_eq_true, if_false] at hn
      rw [hn]
      exact ⟨F, s2, g1⟩
    cases hb : (readN p).2.2 with
    | false =>
      (repeat refine gg ?_)
      refine join_v (fun o' w' => Fr [] w w' ∧ ∃ F, Slc enU 1 w' o' (ints (numsK k (l.take (i + 1)))) F ∧ ∀ b ∈ F, hsz w ≤ b) (fun K hK => ?_) (fun o' w3 hq => ?_)
      · (repeat refine gg ?_)
        exact hK _ _ ⟨f12, no (isK_no hb) _ rfl⟩
      · (repeat refine gg ?_)
        exact hJ _ _ hlt hq
    | true =>
      (repeat refine gg ?_)
      refine join_v (fun o' w' => Fr [] w w' ∧ ∃ F, Slc enU 1 w' o' (ints (numsK k (l.take (i + 1)))) F ∧ ∀ b ∈ F, hsz w ≤ b) (fun K hK => ?_) (fun o' w3 hq => ?_)
      · by_cases hk : (readN p).1 = k
        · have hk' : ((readN p).1.toNat : Int) = (k.toNat : Int) := by rw [hk]
          have is : isK k p = true := by unfold isK; rw [hb, hk]; simp
          rw [is] at hn
          simp only [if_true] at hn
          (repeat refine gg ?_)
          refine push_step (enc := enU) (x := ((readN p).2.1 : Int)) s2 enU_len enU_one rfl rfl (by omega) (by rw [ints_len]; have := nums_le k (l.take i); rw [List.length_take] at this; omega) fun v6 w6 G6 s6 g6 f6 => ?_
          refine hK _ _ ⟨f12.trans f6 fun b hb => .inr (g1 b hb), G6, ?_, fun b hb => ?_⟩
          · rw [hn]
            unfold ints
            rw [List.map_append]
            exact s6
          · rcases g6 b hb with h | h
            · exact g1 b h
            · have := f12.grow; omega
        · have hk' : ¬ ((readN p).1.toNat : Int) = (k.toNat : Int) := fun e => hk (UInt8.toNat_inj.1 (by omega))
          have is : isK k p = false := by unfold isK; rw [decide_eq_false hk, Bool.and_false]
          (repeat refine gg ?_)
          exact hK _ _ ⟨f12, no is _ rfl⟩
      · (repeat refine gg ?_)
        exact hJ _ _ hlt hq
  · obtain rfl : i = l.length := by omega
    rw [List.take_length] at s1
    (repeat refine gg ?_)
    refine sort64 s1 (by rw [ints_len]; have := nums_le k l; omega) fun w2 ys s2 p2 q2 f2 => ?_
    rw [only_ints p2 q2] at s2
    exact hR _ _ _ s2 g1 (f1.trans f2 fun b hb => .inr (g1 b hb))
/-- what the document puts in: what stands ahead, a number, what stands behind. -/
theorem app3 {w0 : World} {t1 t2 u1 u2 zero : Value} {xs zs : List Int} {x : Int} {G1 G2 : List Nat} {E : Nat} {K : Value → World → Prop} (f : Fr [] w0 w) (h1 : Slc enU 1 w t1 [] G1) (g1 : ∀ b ∈ G1, hsz w0 ≤ b) (h2 : Slc enU 1 w t2 [x] G2) (hd : ∀ b ∈ G2, b ∉ G1)
    (c1 : ∀ w', Fr [] w0 w' → cellsOfArg w' 1 u1 = some (flat enU xs, xs.length)) (c2 : ∀ w', Fr [] w0 w' → cellsOfArg w' 1 u2 = some (flat enU zs, zs.length)) (hz : zero.cells.size = 1) (hn : xs.length + zs.length < 1000000)
    (hK : ∀ v w' F, Slc enU 1 w' v (xs ++ x :: zs) F → (∀ b ∈ F, hsz w0 ≤ b) → Fr [] w0 w' → K v w') :
    APPEND E 1 8 zero t1 u1 w fun a wa => APPEND E 1 8 zero a t2 wa fun b wb => APPEND E 1 8 zero b u2 wb K := by
  have gr := f.grow
  refine APPEND_slc h1 (c1 w f) enU_len enU_one hz (by simp; omega) (by simp; omega) fun a wa Fa sa fa ga => ?_
  have fwa := f.trans fa fun b hb => .inr (g1 b hb)
  have ga' : ∀ b ∈ Fa, hsz w0 ≤ b := fun b hb => (ga b hb).elim (g1 b) (fun h => by omega)
  refine APPEND_slc sa ((h2.fr fa hd).loads enU_len) enU_len enU_one hz (by simp; omega) (by simp; omega) fun b wb Fb sb fb gb => ?_
  have fwb := fwa.trans fb fun b hb => .inr (ga' b hb)
  have gr2 := fwa.grow
  have gb' : ∀ b ∈ Fb, hsz w0 ≤ b := fun b hb => (gb b hb).elim (ga' b) (fun h => by omega)
  have gr3 := fwb.grow
  refine APPEND_slc sb (c2 wb fwb) enU_len enU_one hz (by simp; omega) (by simp; omega) fun c wc Fc sc fc gc => ?_
  refine hK c wc Fc ?_ (fun b hb => (gc b hb).elim (gb' b) (fun h => by omega)) (fwb.trans fc fun b hb => .inr (gb' b hb))
  have e : [] ++ xs ++ [x] ++ zs = xs ++ x :: zs := by simp
  rw [← e]; exact sc
/-- where the place is found. -/
theorem only_ins {w5 : World} {o : Value} {out : List Nat} {F : List Nat} {n j : Nat} (s2 : Slc enU 1 w5 o (ints out) F) (hj : j ≤ out.length) (hol : out.length ≤ 200) {K : Value → World → Prop}
    (hK : ∀ v w' F', Slc enU 1 w' v (ints (out.take j ++ n :: out.drop j)) F' → (∀ b ∈ F', hsz w5 ≤ b) → Fr [] w5 w' → K v w') : ∃ S_124 : Nat → World → Prop,
    BND (slicev 1 o none (some (.int .i64 (j : Int)))) fun t50 => BND (slicev 1 o (some (.int .i64 (j : Int))) none) fun t57 => JOIN (α := Value → World → Prop) (fun k_133 =>
      (BND (newslice 22 #[(Value.int .u64 0)] 1 0 [] w5.drew) fun p_ => NEW p_ fun t47 w7 => APPEND 22 1 8 (Value.int .u64 0) t47 t50 w7 fun t51 w8 => BND (newslice 22 #[(Value.int .u64 0)] 1 1 [(0, 1, (.int .u64 (n : Int)))] w8) fun p_ => NEW p_ fun t53 w9 =>
        APPEND 22 1 8 (Value.int .u64 0) t51 t53 w9 fun t54 w10 => APPEND 22 1 8 (Value.int .u64 0) t54 t57 w10 fun t58 w11 => k_133 t58 w11) ∧
      (BND (newslice 22 #[(Value.int .u64 0)] 1 0 [] w5.drew) fun p_ => NEW p_ fun t47 w12 => BND (newslice 22 #[(Value.int .u64 0)] 1 1 [(0, 1, (.int .u64 (n : Int)))] w12) fun p_ => NEW p_ fun t53 w13 =>
        APPEND 22 1 8 (Value.int .u64 0) t47 t50 w13 fun t51 w14 => APPEND 22 1 8 (Value.int .u64 0) t51 t53 w14 fun t54 w15 => APPEND 22 1 8 (Value.int .u64 0) t54 t57 w15 fun t58 w16 => k_133 t58 w16) ∧
      (BND (newslice 22 #[(Value.int .u64 0)] 1 1 [(0, 1, (.int .u64 (n : Int)))] w5.drew) fun p_ => NEW p_ fun t53 w17 => BND (newslice 22 #[(Value.int .u64 0)] 1 0 [] w17) fun p_ => NEW p_ fun t47 w18 =>
        APPEND 22 1 8 (Value.int .u64 0) t47 t50 w18 fun t51 w19 => APPEND 22 1 8 (Value.int .u64 0) t51 t53 w19 fun t54 w20 => APPEND 22 1 8 (Value.int .u64 0) t54 t57 w20 fun t58 w21 => k_133 t58 w21)) (fun v w' => K v w') := by
  refine ⟨fun _ _ => True, ?_⟩
  obtain ⟨u1, eu1, cu1⟩ := s2.upto enU_len (n := j) (by rw [ints_len]; omega) .i64
  obtain ⟨u2, eu2, cu2⟩ := s2.from enU_len (n := j) (by rw [ints_len]; omega) .i64
  refine BND_step eu1 <| BND_step eu2 ?_
  refine join_v (fun v w' => K v w') (fun K' hK' => ?_) (fun v w' h => h)
  have fd : Fr [] w5 w5.drew := Fr.drew _ _
  have zd : hsz w5.drew = hsz w5 := rfl
  have c1 : ∀ w', Fr [] w5 w' → cellsOfArg w' 1 u1 = some (flat enU ((ints out).take j), ((ints out).take j).length) := fun w' f => cu1 w' fun b hb => f.keep b (s2.lt b hb) (by simp)
  have c2 : ∀ w', Fr [] w5 w' → cellsOfArg w' 1 u2 = some (flat enU ((ints out).drop j), ((ints out).drop j).length) := fun w' f => cu2 w' fun b hb => f.keep b (s2.lt b hb) (by simp)
  have hlen : ((ints out).take j).length + ((ints out).drop j).length < 1000000 := by rw [List.length_take, List.length_drop, ints_len]; omega
  have e : (ints out).take j ++ (n : Int) :: (ints out).drop j = ints (out.take j ++ n :: out.drop j) := by
    unfold ints
    rw [List.map_append, List.map_cons, List.map_take, List.map_drop]
  have hfin : ∀ v w' F, Slc enU 1 w' v ((ints out).take j ++ (n : Int) :: (ints out).drop j) F → (∀ b ∈ F, hsz w5 ≤ b) → Fr [] w5 w' → K' v w' := fun v w' F' s' g' f' => hK' _ _ (hK v w' F' (e ▸ s') g' f')
  refine ⟨?_, ?_, ?_⟩
  · refine newnil_step enU fun t7 w7 s7 f7 z7 => ?_
    have f57 := fd.trans' f7
    have gr := f57.grow
    refine APPEND_slc s7 (c1 w7 f57) enU_len enU_one rfl (by simp only [List.length_nil]; omega) (by simp only [List.length_nil]; omega) fun a wa Fa sa fa ga => ?_
    have ga' : ∀ b ∈ Fa, hsz w5 ≤ b := fun b hb => (ga b hb).elim (fun h => by simp at h; subst h; exact Nat.le_refl _) (fun h => by omega)
    have fwa := f57.trans fa fun b hb => .inr (by simp at hb; subst hb; exact Nat.le_refl _)
    have gra := fwa.grow
    refine push_step (enc := enU) (x := (n : Int)) sa enU_len enU_one rfl rfl (by omega) (by simp only [List.nil_append]; omega) fun b wb Fb sb gb fb => ?_
    have fwb := fwa.trans fb fun b hb => .inr (ga' b hb)
    have gb' : ∀ b ∈ Fb, hsz w5 ≤ b := fun b hb => (gb b hb).elim (ga' b) (fun h => by omega)
    have grb := fwb.grow
    refine APPEND_slc sb (c2 wb fwb) enU_len enU_one rfl (by simp only [List.length_append, List.length_nil, List.length_cons]; omega) (by simp only [List.length_append, List.length_nil, List.length_cons]; omega) fun c wc Fc sc fc gc => ?_
    refine hfin c wc Fc ?_ (fun b hb => (gc b hb).elim (gb' b) (fun h => by omega)) (fwb.trans fc fun b hb => .inr (gb' b hb))
    have e2 : [] ++ (ints out).take j ++ [(n : Int)] ++ (ints out).drop j = (ints out).take j ++ (n : Int) :: (ints out).drop j := by simp
    rw [← e2]; exact sc
  · refine newnil_step enU fun t7 w7 s7 f7 z7 => ?_
    refine newone_step (enc := enU) (x := (n : Int)) enU_len rfl fun t8 w8 s8 f8 z8 => ?_
    refine app3 (fd.trans' (f7.trans' f8)) (s7.fr f8 (by simp)) (by simp [zd]) s8 (by intro b hb hb'; simp at hb hb'; omega) c1 c2 rfl hlen hfin
  · refine newone_step (enc := enU) (x := (n : Int)) enU_len rfl fun t8 w8 s8 f8 z8 => ?_
    refine newnil_step enU fun t7 w7 s7 f7 z7 => ?_
    refine app3 (fd.trans' (f8.trans' f7)) s7 (by simp; omega) (s8.fr f7 (by simp)) (by intro b hb hb'; simp at hb hb'; omega) c1 c2 rfl hlen hfin
theorem r14_Only (k : UInt8) {lv : Value} {l : List ByteArray} (ha : Arr encT 1 w lv l) (hl : l.length ≤ 200)
    (hR : ∀ v w' F, Slc enU 1 w' v (ints (onlyN k l)) F → (∀ b ∈ F, hsz w ≤ b) → Fr [] w w' → R v w') : CALL PR F_tumbrelref14_Only [lv, .int .u8 (k.toNat : Int)] w R := by
  refine C_tumbrelref14_Only ?_
  unfold M_tumbrelref14_Only
  refine newnil_step enU fun t0 w0 s0 f0 z0 => ?_
  refine loop_up2 (o := t0) 0 l.length (fun o i w' => Fr [] w w' ∧ ∃ F, Slc enU 1 w' o (ints (onlyN k (l.take i))) F ∧ ∀ b ∈ F, hsz w ≤ b) ⟨f0, [hsz w], s0, by simp⟩ (by omega) ?_
  rintro o i w1 - hi ⟨f1, F, s1, g1⟩ J m hJ
  by_cases hlt : i < l.length
  · have hx := List.getElem?_eq_getElem hlt
    generalize l[i] = p at hx
    have a1 := ha.fr f1 (by simp)
    obtain ⟨b1, o1, i1, m1, _, l1⟩ := a1.spot hx rfl .i64
    (repeat (first | refine BND_step a1.len ?_ | refine BND_step (l1 (w' := w1) rfl (j := 0) rfl) ?_ | refine gg ?_))
    refine r14_Read p fun w2 f2 => ?_
    have ht : l.take (i + 1) = l.take i ++ [p] := by rw [List.take_add_one, hx]; rfl
    have hn := only_snoc k (l.take i) p
    rw [← ht] at hn
    have f12 := f1.trans' f2
    have s2 := s1.fr f2 (by simp)
    have no : isK k p = false → ∀ w', w' = w2 → (∃ F, Slc enU 1 w' o (ints (onlyN k (l.take (i + 1)))) F ∧ ∀ b ∈ F, hsz w ≤ b) := fun h w' e => by
      subst e
      rw [h] at hn
      simp only [Bool.false_eq_true, if_false] at hn
      rw [hn]
      exact ⟨F, s2, g1⟩
    cases hb : (readN p).2.2 with
    | false =>
      (repeat refine gg ?_)
      refine join_v (fun o' w' => Fr [] w w' ∧ ∃ F, Slc enU 1 w' o' (ints (onlyN k (l.take (i + 1)))) F ∧ ∀ b ∈ F, hsz w ≤ b) (fun K hK => ?_) (fun o' w3 hq => ?_)
      · (repeat refine gg ?_)
        exact hK _ _ ⟨f12, no (isK_no hb) _ rfl⟩
      · (repeat refine gg ?_)
        exact hJ _ _ hlt hq
    | true =>
      (repeat refine gg ?_)
      refine join_v (fun o' w' => Fr [] w w' ∧ ∃ F, Slc enU 1 w' o' (ints (onlyN k (l.take (i + 1)))) F ∧ ∀ b ∈ F, hsz w ≤ b) (fun K hK => ?_) (fun o' w3 hq => ?_)
      · by_cases hk : (readN p).1 = k
        · have hk' : ((readN p).1.toNat : Int) = (k.toNat : Int) := by rw [hk]
          have is : isK k p = true := by unfold isK; rw [hb, hk]; simp
          rw [is] at hn
          simp only [if_true] at hn
          (repeat refine gg ?_)
          have hol : (onlyN k (l.take i)).length ≤ 200 := by rw [only_len]; have := nums_le k (l.take i); rw [List.length_take] at this; omega
          generalize onlyN k (l.take i) = out at s1 s2 hn hol
          refine loop_up 0 out.length (fun j w' => w' = w2 ∧ ∀ a ∈ out.take j, a ≤ (readN p).2.1) ⟨rfl, by simp⟩ (by omega) ?_
          rintro j w5 - hj ⟨rfl, hle⟩ J2 m2 hJ2
          have slen : lenl o = some (.int .i64 (out.length : Int)) := by have := s2.len; rwa [ints_len] at this
          by_cases hjl : j < out.length
          · have hy := List.getElem?_eq_getElem hjl
            generalize out[j] = y at hy
            have hyi : (ints out)[j]? = some (y : Int) := by unfold ints; rw [List.getElem?_map, hy]; rfl
            obtain ⟨b2, o2, i2, m2', _, l2⟩ := s2.arr.spot hyi rfl .i64
            (repeat (first | refine BND_step (l2 (w' := w5) rfl (j := 0) rfl) ?_ | refine gg ?_))
            by_cases hyn : y ≤ (readN p).2.1
            · have hyn' : ((y : Int) ≤ ((readN p).2.1 : Int)) := by omega
              (repeat refine gg ?_)
              refine hJ2 _ hjl ⟨rfl, fun a h => ?_⟩
              rw [List.take_add_one, hy] at h
              rcases List.mem_append.1 h with h | h
              · exact hle a h
              · simp at h; subst h; exact hyn
            · have hyn' : ¬ ((y : Int) ≤ ((readN p).2.1 : Int)) := by omega
              (repeat refine gg ?_)
              refine only_ins s2 hj hol fun v w' F' s' g' f' => ?_
              rw [← ins_split (readN p).2.1 hj hle (fun a h => by rw [hy] at h; cases h; omega), ← hn] at s'
              exact hK _ _ ⟨f12.trans' f', F', s', fun b hb => by have := g' b hb; have := f12.grow; omega⟩
          · have hjl' : ¬ ((j : Int) < (out.length : Int)) := by omega
            (repeat refine gg ?_)
            refine only_ins s2 hj hol fun v w' F' s' g' f' => ?_
            rw [← ins_split (readN p).2.1 hj hle (fun a h => by rw [List.getElem?_eq_none (by omega)] at h; cases h), ← hn] at s'
            exact hK _ _ ⟨f12.trans' f', F', s', fun b hb => by have := g' b hb; have := f12.grow; omega⟩
        · have hk' : ¬ ((readN p).1.toNat : Int) = (k.toNat : Int) := fun e => hk (UInt8.toNat_inj.1 (by omega))
          have is : isK k p = false := by unfold isK; rw [decide_eq_false hk, Bool.and_false]
          (repeat refine gg ?_)
          exact hK _ _ ⟨f12, no is _ rfl⟩
      · (repeat refine gg ?_)
        exact hJ _ _ hlt hq
  · obtain rfl : i = l.length := by omega
    rw [List.take_length] at s1
    have a1 := ha.fr f1 (by simp)
    (repeat (first | refine BND_step a1.len ?_ | refine gg ?_))
    exact hR _ _ _ s1 g1 f1
end
end Go.Proofs.YtpclfkjbhlekaaaDoor
end

section
namespace Go.Proofs.YtpclfkjbhlekaaaDoor
open Go.Den Go.Nm Go.Disk Go.Rec Go.RowKit Go.Shelf Sort64
theorem newnums_two {a b : Int} {E : Nat} {zero : Array Value} {w : World} {k : Value → World → Prop} (h : ∀ t w1, Slc enU 1 w1 t [a, b] [hsz w] → Fr [] w w1 → k t w1) :
    BND (newslice E zero 1 2 [(0, 1, .int .u64 a), (1, 1, .int .u64 b)] w) fun p => NEW p k :=
  newparts_step (enc := enU) enU_len (val := fun n : Int => .int .u64 n) (fun _ => rfl) [a, b] rfl rfl fun t w1 s f _ => h t w1 s f
theorem nm_m12 : nameOf 109 12 = (⟨#[109, 46, 49, 50]⟩, 0) := by
  have e : Lib.decDigits 12 = [49, 50] := by rw [dec_big (by omega), dec_small (by omega)]; rfl
  unfold nameOf nmB nmL
  rw [e]; rfl
theorem nm_x1 : nameOf 120 1 = (ByteArray.empty, 1) := by
  unfold nameOf
  rw [if_neg (by decide)]
theorem nm_small {k : UInt8} {n : Nat} (hk : kindN k = true) (h : n < 10) : Nm.readN ⟨#[k, 46, UInt8.ofNat (48 + n)]⟩ = (k, n, true) := by
  have e : nmB k n = ⟨#[k, 46, UInt8.ofNat (48 + n)]⟩ := by unfold nmB nmL; rw [dec_small h]
  rw [← e]
  exact readN_nm (by unfold okN; rw [hk, Bool.true_and, decide_eq_true_eq]; omega)
theorem nm_e00 : Nm.readN ⟨#[101, 46, 48, 48]⟩ = (0, 0, false) := by
  unfold Nm.readN
  rw [if_neg]
  rintro ⟨_, h⟩
  have := congrArg (fun x : ByteArray => x.data.toList) h
  simp only [nmB_list] at this
  have e : valD (List.drop 2 (ByteArray.mk #[101, 46, 48, 48]).data.toList) = 0 := rfl
  rw [e, dec_small (by omega)] at this
  exact absurd this (by decide)
theorem only_m : onlyN 109 [⟨#[109, 46, 50]⟩, ⟨#[101, 46, 51]⟩, ⟨#[109, 46, 49]⟩] = [1, 2] := by
  have e1 : Nm.readN ⟨#[109, 46, 50]⟩ = (109, 2, true) := nm_small (n := 2) rfl (by omega)
  have e2 : Nm.readN ⟨#[101, 46, 51]⟩ = (101, 3, true) := nm_small (n := 3) rfl (by omega)
  have e3 : Nm.readN ⟨#[109, 46, 49]⟩ = (109, 1, true) := nm_small (n := 1) rfl (by omega)
  have i1 : isK 109 ⟨#[109, 46, 50]⟩ = true := by unfold isK; rw [e1]; rfl
  have i2 : isK 109 ⟨#[101, 46, 51]⟩ = false := by unfold isK; rw [e2]; rfl
  have i3 : isK 109 ⟨#[109, 46, 49]⟩ = true := by unfold isK; rw [e3]; rfl
  unfold onlyN numsK
  rw [List.filter_cons_of_pos i1, List.filter_cons_of_neg (by rw [i2]; decide), List.filter_cons_of_pos i3]
  simp only [List.filter_nil, List.map_cons, List.map_nil, e1, e3]
  rfl
set_option linter.unusedSimpArgs false
set_option linter.unusedVariables false
set_option maxRecDepth 20000
set_option maxHeartbeats 4000000
attribute [local congr] BND_cg COND_cg GEF_cg
attribute [local irreducible] capl slicea load1 loadn iaddr iaddra faddr storev newslice binv lookv mupd mdel mlenv mentry mestore slicev slicev3 slices indexs indexav textv rangev nexts clearv shiftv eqaggv convi buildv pickv lens lenl unv nilchk extractv partn JOIN
section
variable {w : World} {R : Value → World → Prop}
theorem nums_Same {a b : Value} {xs ys : List Int} (ha : Arr enU 1 w a xs) (hb : Arr enU 1 w b ys) (hn : xs.length < 1000000000) (hR : ∀ w', Fr [] w w' → R (.bool (decide (xs = ys))) w') : CALL PR F_tumbrelref02_Same [a, b] w R := by
  refine C_tumbrelref02_Same ?_
  unfold M_tumbrelref02_Same
  by_cases hl : xs.length = ys.length
  · (repeat (first | refine BND_step ha.len ?_ | refine BND_step hb.len ?_ | refine gg ?_))
    refine loop_up 0 xs.length (fun i w' => Fr [] w w' ∧ ∀ (j : Nat), j < i → xs[j]? = ys[j]?) ⟨Fr.refl _ _, fun j hj => by omega⟩ (by omega) ?_
    rintro i w1 - hi ⟨f1, heq⟩ J m hJ
    have a1 := ha.fr f1 (by simp)
    have a1l := a1.len
    by_cases hlt : i < xs.length
    · have hx := List.getElem?_eq_getElem hlt
      have hy := List.getElem?_eq_getElem (l := ys) (i := i) (by omega)
      generalize xs[i] = x at hx
      generalize ys[i] = y at hy
      have fd : Fr [] w w1.drew := f1.trans' (Fr.drew _ _)
      obtain ⟨b1, o1, i1, m1, _, l1⟩ := (ha.fr fd (by simp)).spot hx rfl .i64
      obtain ⟨b2, o2, i2, m2, _, l2⟩ := (hb.fr fd (by simp)).spot hy rfl .i64
      have q1 : load1 w1.drew (.pointer (some ⟨b1, o1, none⟩)) = some (.int .u64 x) := l1 (w' := w1.drew) rfl (j := 0) rfl
      have q2 : load1 w1.drew (.pointer (some ⟨b2, o2, none⟩)) = some (.int .u64 y) := l2 (w' := w1.drew) rfl (j := 0) rfl
      by_cases hxy : x = y
      · (repeat refine gg ?_)
        refine hJ _ hlt ⟨fd, fun j hj => ?_⟩
        by_cases hji : j = i
        · subst hji; rw [hx, hy, hxy]
        · exact heq j (by omega)
      · (repeat refine gg ?_)
        have := hR _ fd
        rw [decide_eq_false (fun e => hxy (by subst e; rw [hx] at hy; cases hy; rfl))] at this
        exact this
    · have he : xs = ys := List.ext_getElem? fun j => by
        by_cases hj : j < i
        · exact heq j hj
        · rw [List.getElem?_eq_none (by omega), List.getElem?_eq_none (by omega)]
      (repeat refine gg ?_)
      have := hR _ f1
      rw [decide_eq_true he] at this
      exact this
  · have hl' : ¬ (xs.length : Int) = (ys.length : Int) := by omega
    (repeat (first | refine BND_step ha.len ?_ | refine BND_step hb.len ?_ | refine gg ?_))
    have := hR w (Fr.refl _ _)
    rw [decide_eq_false (fun e => hl (by rw [e]))] at this
    exact this
theorem nm_awake (hT : Tab w) (hE : Errs w) (hR : ∀ w', Fr [] w w' → R (.bool true) w') : CALL PR F_tumbrellaw14_awake [] w R := by
  refine C_tumbrellaw14_awake ?_
  unfold M_tumbrellaw14_awake
  refine name_Of hT 109 12 (by omega) fun w1 f1 => ?_
  rw [nm_m12]
  (repeat refine gg ?_)
  refine nm_Read (hT.fr f1) (hE.fr f1) ⟨#[101, 46, 48]⟩ (by decide) fun w2 f2 => ?_
  rw [show Nm.readN ⟨#[101, 46, 48]⟩ = (101, 0, true) from nm_small (n := 0) rfl (by omega)]
  have c101 : ((UInt8.toNat 101 : Nat) : Int) = 101 := rfl
  have f02 := f1.trans' f2
  (repeat refine gg ?_)
  refine nm_Read (hT.fr f02) (hE.fr f02) ⟨#[101, 46, 48, 48]⟩ (by decide) fun w3 f3 => ?_
  rw [nm_e00]
  have f03 := f02.trans' f3
  (repeat refine gg ?_)
  refine name_Of (hT.fr f03) 120 1 (by omega) fun w4 f4 => ?_
  rw [nm_x1]
  have f04 := f03.trans' f4
  (repeat refine gg ?_)
  refine newparts_step (enc := encT) encT_len (val := Value.string) (fun _ => rfl) [⟨#[109, 46, 50]⟩, ⟨#[101, 46, 51]⟩, ⟨#[109, 46, 49]⟩] rfl rfl fun t w5 s5 f5 _ => ?_
  have f05 := f04.trans' f5
  (repeat refine gg ?_)
  refine nm_Only (hT.fr f05) (hE.fr f05) 109 s5.arr (by decide) (by decide) fun v w6 F6 s6 g6 f6 => ?_
  have f06 := f05.trans' f6
  (repeat refine gg ?_)
  refine newnums_two fun t7 w7 s7 f7 => ?_
  (repeat refine gg ?_)
  rw [only_m] at s6
  refine nums_Same (s6.fr f7 (by simp)).arr s7.arr (by decide) fun w8 f8 => ?_
  (repeat refine gg ?_)
  exact hR _ (f06.trans' (f7.trans' f8))
end
end Go.Proofs.YtpclfkjbhlekaaaDoor
end

section
namespace Go.Proofs.YtpclfkjbhlekaaaDoor
open Go.Den Go.Nm Go.Disk Go.Rec Go.RowKit Go.Shelf Sort64
set_option linter.unusedSimpArgs false
set_option linter.unusedVariables false
set_option maxRecDepth 20000
set_option maxHeartbeats 4000000
attribute [local congr] BND_cg COND_cg GEF_cg
attribute [local irreducible] capl slicea load1 loadn iaddr iaddra faddr storev newslice binv lookv mupd mdel mlenv mentry mestore slicev slicev3 slices indexs indexav textv rangev nexts clearv shiftv eqaggv convi buildv pickv lens lenl unv nilchk extractv partn JOIN
section
variable {w : World} {R : Value → World → Prop}
theorem large_one {s : ByteArray} {k : Value → World → Prop} {E : Nat} {zero : Array Value} (hR : ∀ w', Fr [] w w' → k (.bool (largeN [s])) w') : BND (newslice E zero 1 1 [(0, 1, .string s)] w) fun p_ => NEW p_ fun t w2 => CALL PR F_tumbrelref14_Large [t] w2 k := by
  refine newone_step (enc := encT) (x := s) encT_len rfl fun t w1 s1 f1 _ => ?_
  exact r14_Large s1.arr (hR _ f1)
theorem nm_Tells (hT : Tab w) (hE : Errs w) (k : UInt8) (n : Nat) (hn : n < 18446744073709551616) (s : ByteArray) {lv : Value} {l : List ByteArray} (ha : Arr encT 1 w lv l) (hR : ∀ w', Fr [] w w' → R (.bool true) w') :
    CALL PR F_tumbrellaw14_NameTells [.int .u8 (k.toNat : Int), .int .u64 (n : Int), .string s, lv] w R := by
  refine C_tumbrellaw14_NameTells ?_
  unfold M_tumbrellaw14_NameTells
  refine nm_awake hT hE fun w1 f1 => ?_
  (repeat refine gg ?_)
  refine large_one fun w3 f3 => ?_
  have f03 := f1.trans' f3
  cases hl1 : largeN [s] with
  | true => (repeat refine gg ?_); exact hR _ f03
  | false =>
    have hs := (largeN_no hl1).2 s (by simp)
    (repeat refine gg ?_)
    refine r14_Large (ha.fr f03 (by simp)) ?_
    cases hl2 : largeN l with
    | true => (repeat refine gg ?_); exact hR _ f03
    | false =>
      obtain ⟨h200, h300⟩ := largeN_no hl2
      (repeat refine gg ?_)
      refine name_Of (hT.fr f03) k n hn fun w5 f5 => ?_
      have f05 := f03.trans' f5
      (repeat refine gg ?_)
      refine r14_Of k n hn fun w6 f6 => ?_
      have f06 := f05.trans' f6
      (repeat refine gg ?_)
      refine nm_Read (hT.fr f06) (hE.fr f06) s (by omega) fun w7 f7 => ?_
      have f07 := f06.trans' f7
      (repeat refine gg ?_)
      refine r14_Read s fun w8 f8 => ?_
      have f08 := f07.trans' f8
      have beq : ((Nm.readN s).2.2 == (Nm.readN s).2.2) = true := by simp
      (repeat refine gg ?_)
      rw [beq]
      (repeat refine gg ?_)
      refine nm_Only (hT.fr f08) (hE.fr f08) k (ha.fr f08 (by simp)) h200 h300 fun v9 w9 F9 s9 g9 f9 => ?_
      have f09 := f08.trans' f9
      (repeat refine gg ?_)
      refine r14_Only k (ha.fr f09 (by simp)) h200 fun v10 w10 F10 s10 g10 f10 => ?_
      have f010 := f09.trans' f10
      (repeat refine gg ?_)
      have hle : (onlyN k l).length ≤ 200 := by rw [only_len]; have := nums_le k l; omega
      refine nums_Same (s9.fr f10 (by simp)).arr s10.arr (by rw [ints_len]; omega) fun w11 f11 => ?_
      have e : decide (ints (onlyN k l) = ints (onlyN k l)) = true := decide_eq_true rfl
      rw [e]
      (repeat refine gg ?_)
      exact hR _ (f010.trans' f11)
end
end Go.Proofs.YtpclfkjbhlekaaaDoor
end

section
namespace Go.Proofs.YtpclfkjbhlekaaaDoor
open Go.Den Go.Nm Go.Disk Go.Rec Go.RowKit Go.Shelf Sort64
theorem nameOf_ok {k : UInt8} {n : Nat} (h : okN k n = true) : nameOf k n = (nmB k n, 0) := by unfold nameOf; rw [if_pos h]
theorem nameOf_no {k : UInt8} {n : Nat} (h : okN k n = false) : nameOf k n = (ByteArray.empty, 1) := by unfold nameOf; rw [if_neg (by rw [h]; decide)]
theorem only_up {k : UInt8} {l : List ByteArray} {i : Nat} {a b : Int} (ha : (ints (onlyN k l))[i]? = some a) (hb : (ints (onlyN k l))[i + 1]? = some b) : a ≤ b := by
  unfold ints at ha hb
  rw [List.getElem?_map] at ha hb
  obtain ⟨x, hx, rfl⟩ := Option.map_eq_some_iff.1 ha
  obtain ⟨y, hy, rfl⟩ := Option.map_eq_some_iff.1 hb
  have hp := List.pairwise_iff_getElem.1 (only_sort k l).1
  obtain ⟨h1, rfl⟩ := List.getElem?_eq_some_iff.1 hx
  obtain ⟨h2, rfl⟩ := List.getElem?_eq_some_iff.1 hy
  have := hp i (i + 1) h1 h2 (by omega)
  omega
set_option linter.unusedSimpArgs false
set_option linter.unusedVariables false
set_option maxRecDepth 20000
set_option maxHeartbeats 4000000
attribute [local congr] BND_cg COND_cg GEF_cg
attribute [local irreducible] capl slicea load1 loadn iaddr iaddra faddr storev newslice binv lookv mupd mdel mlenv mentry mestore slicev slicev3 slices indexs indexav textv rangev nexts clearv shiftv eqaggv convi buildv pickv lens lenl unv nilchk extractv partn JOIN
section
variable {w : World} {R : Value → World → Prop}
/-- the numbers counted, and looked at in order. -/
theorem nm_tail {w w7 : World} {R : Value → World → Prop} {kb T : Nat} {g : Nat × Nat} {lv v7 : Value} {F : List Nat} {k0 k1 : UInt8} {l : List ByteArray} (hT : Tab w7) (hE : Errs w7) (a7 : Arr encT 1 w7 lv l) (h200 : l.length ≤ 200) (h300 : ∀ s ∈ l, s.size ≤ 300)
    (b7 : blk w7 kb = some (.cells [.int .u8 (k0.toNat : Int), .int .u8 (k1.toNat : Int)].toArray T g)) (s7 : Slc enU 1 w7 v7 (ints (onlyN k0 l)) F) (f : Fr [] w w7) (hR : ∀ w', Fr [] w w' → R (.bool true) w') :
  BND (lenl lv) fun t69_44 =>
  ∃ (J_45 : Value → Value → World → Prop) (m_45 : Value → Value → World → Nat), J_45 (Value.int .i64 0) (Value.int .i64 0) w7 ∧ ∀ (_d_45 : Env) (many_46 t70_51 : Value) (w8 : World), J_45 many_46 t70_51 w8 →
  (BND (binv .int .lss t70_51 t69_44) fun t71_71 =>
  COND t71_71
  (BND (iaddr 1 lv t70_51) fun t72_72 =>
  BND (load1 w8 t72_72) fun t73_73 =>
  CALL PR F_name_Read [t73_73] w8 fun t76_74 w9 =>
  BND (extractv t76_74 0) fun t77_75 =>
  BND (extractv t76_74 1) fun t78_76 =>
  BND (extractv t76_74 2) fun t79_77 =>
  BND (grd (isB t79_77 true) (some t77_75)) fun t82_78 =>
  BND (grd (isB t79_77 true) (iaddra 2 1 (.pointer (some ⟨kb, 0, none⟩)) (Value.int .i64 0))) fun t83_79 =>
  BND (grd (isB t79_77 true) (load1 w9 t83_79)) fun t84_80 =>
  BND (grd (isB t79_77 true) (binv .int .eql t82_78 t84_80)) fun t85_81 =>
  BND (pickv t79_77 t85_81 (Value.bool false)) fun t86_82 =>
  JOIN (α := Value → World → Prop) (fun k_87 => COND t86_82
  (BND (binv .int .add many_46 (Value.int .i64 1)) fun t88_88 =>
  k_87 t88_88 w9)
  (k_87 many_46 w9))
  (fun many_83 w10 => BND (binv .int .add t70_51 (Value.int .i64 1)) fun t89_86 =>
  (J_45 many_83 t89_86 w10 ∧ m_45 many_83 t89_86 w10 < m_45 many_46 t70_51 w8)))
  (BND (lenl v7) fun t91_89 =>
  ∃ (J_90 : Value → World → Prop) (m_90 : Value → World → Nat), J_90 (Value.int .i64 0) w8 ∧ ∀ (_d_90 : Env) (t92_94 : Value) (w11 : World), J_90 t92_94 w11 →
  (BND (binv .int .lss t92_94 t91_89) fun t93_111 =>
  COND t93_111
  (BND (iaddr 1 v7 t92_94) fun t95_112 =>
  BND (load1 w11 t95_112) fun t96_113 =>
  BND (binv .int .gtr t92_94 (Value.int .i64 0)) fun t98_114 =>
  BND (grd (isB t98_114 true) (some t96_113)) fun t100_115 =>
  BND (grd (isB t98_114 true) (some v7)) fun t101_116 =>
  BND (grd (isB t98_114 true) (some t92_94)) fun t102_117 =>
  BND (grd (isB t98_114 true) (binv .int .sub t102_117 (Value.int .i64 1))) fun t103_118 =>
  BND (grd (isB t98_114 true) (iaddr 1 t101_116 t103_118)) fun t104_119 =>
  BND (grd (isB t98_114 true) (load1 w11 t104_119)) fun t105_120 =>
  BND (grd (isB t98_114 true) (binv .int .lss t100_115 t105_120)) fun t106_121 =>
  BND (pickv t98_114 t106_121 (Value.bool false)) fun t107_122 =>
  COND t107_122
  (R (Value.bool false) w11)
  (BND (binv .int .add t92_94 (Value.int .i64 1)) fun t108_123 =>
  (J_90 t108_123 w11 ∧ m_90 t108_123 w11 < m_90 t92_94 w11)))
  (BND (lenl v7) fun t111_124 =>
  BND (binv .int .eql many_46 t111_124) fun t112_125 =>
  R t112_125 w11)))) := by
  have i0 : iaddra 2 1 (.pointer (some ⟨kb, 0, none⟩)) (.int .i64 0) = _ := iaddra_at (len := 2) (k := .i64) (i := 0) (by omega)
  have al := a7.len
  (repeat refine gg ?_)
  refine loop_up2 (o := .int .i64 0) 0 l.length (fun o i w' => Fr [] w7 w' ∧ o = .int .i64 ((numsK k0 (l.take i)).length : Int)) ⟨Fr.refl _ _, rfl⟩ (by omega) ?_
  rintro o i w8 - hi ⟨f8, rfl⟩ J m hJ
  by_cases hlt : i < l.length
  · have hx := List.getElem?_eq_getElem hlt
    have hps := h300 l[i] (List.getElem_mem hlt)
    generalize l[i] = p at hx hps
    obtain ⟨b1, o1, i1, m1, _, l1⟩ := (a7.fr f8 (by simp)).spot hx rfl .i64
    (repeat (first | refine BND_step (l1 (w' := w8) rfl (j := 0) rfl) ?_ | refine gg ?_))
    refine nm_Read (hT.fr f8) (hE.fr f8) p (by omega) fun w9 f9 => ?_
    have f79 := f8.trans' f9
    have b9 := f79.some (by simp) b7
    have ht : l.take (i + 1) = l.take i ++ [p] := by rw [List.take_add_one, hx]; rfl
    have hn := nums_snoc k0 (l.take i) p
    rw [← ht] at hn
    have hb : (numsK k0 (l.take i)).length ≤ 200 := by have := nums_le k0 (l.take i); rw [List.length_take] at this; omega
    have no : isK k0 p = false → numsK k0 (l.take (i + 1)) = numsK k0 (l.take i) := fun h => by
      rw [h] at hn
      simpa using hn
    cases hr : (Nm.readN p).2.2 with
    | false =>
      (repeat refine gg ?_)
      refine join_v (fun o' w' => Fr [] w7 w' ∧ o' = .int .i64 ((numsK k0 (l.take (i + 1))).length : Int)) (fun K hK => ?_) (fun o' w3 hq => ?_)
      · (repeat refine gg ?_)
        exact hK _ _ ⟨f79, by rw [no (isK_no hr)]⟩
      · (repeat refine gg ?_)
        exact hJ _ _ hlt hq
    | true =>
      (repeat refine gg ?_)
      refine join_v (fun o' w' => Fr [] w7 w' ∧ o' = .int .i64 ((numsK k0 (l.take (i + 1))).length : Int)) (fun K hK => ?_) (fun o' w3 hq => ?_)
      · by_cases hk : (Nm.readN p).1 = k0
        · have hk' : ((Nm.readN p).1.toNat : Int) = (k0.toNat : Int) := by rw [hk]
          have is : isK k0 p = true := by unfold isK; rw [hr, hk]; simp
          rw [is] at hn
          simp only [if_true] at hn
          (repeat refine gg ?_)
          refine hK _ _ ⟨f79, ?_⟩
          rw [hn, List.length_append]; rfl
        · have hk' : ¬ ((Nm.readN p).1.toNat : Int) = (k0.toNat : Int) := fun e => hk (UInt8.toNat_inj.1 (by omega))
          have is : isK k0 p = false := by unfold isK; rw [decide_eq_false hk, Bool.and_false]
          (repeat refine gg ?_)
          exact hK _ _ ⟨f79, by rw [no is]⟩
      · (repeat refine gg ?_)
        exact hJ _ _ hlt hq
  · obtain rfl : i = l.length := by omega
    rw [List.take_length]
    have sl := s7.len
    have hlen : (ints (onlyN k0 l)).length = (numsK k0 l).length := by rw [ints_len, only_len]
    have hb : (numsK k0 l).length ≤ 200 := by have := nums_le k0 l; omega
    (repeat refine gg ?_)
    refine loop_up 0 (ints (onlyN k0 l)).length (fun _ w' => Fr [] w7 w') f8 (by omega) ?_
    rintro i w9 - hi f9 J m hJ
    have a9 := (s7.fr f9 (by simp)).arr
    by_cases hlt : i < (ints (onlyN k0 l)).length
    · obtain ⟨y, hy⟩ : ∃ y, (ints (onlyN k0 l))[i]? = some y := ⟨_, List.getElem?_eq_getElem hlt⟩
      obtain ⟨b2, o2, i2, m2, _, l2⟩ := a9.spot hy rfl .i64
      (repeat (first | refine BND_step (l2 (w' := w9) rfl (j := 0) rfl) ?_ | refine gg ?_))
      by_cases h0 : i = 0
      · subst h0
        (repeat refine gg ?_)
        exact hJ _ hlt f9
      · obtain ⟨j, rfl⟩ : ∃ j, i = j + 1 := ⟨i - 1, by omega⟩
        obtain ⟨x, hx⟩ : ∃ x, (ints (onlyN k0 l))[j]? = some x := ⟨_, List.getElem?_eq_getElem (by omega)⟩
        have hup := only_up hx hy
        obtain ⟨b3, o3, i3, m3, _, l3⟩ := a9.spot hx rfl .i64
        have hj0 : (0 : Int) < ((j + 1 : Nat) : Int) := by omega
        have hd : binv .int .sub (.int .i64 ((j + 1 : Nat) : Int)) (.int .i64 1) = some (.int .i64 (j : Int)) := dec_ (by omega) (by omega)
        (repeat (first | refine BND_step (l3 (w' := w9) rfl (j := 0) rfl) ?_ | refine gg ?_))
        exact hJ _ hlt f9
    · (repeat refine gg ?_)
      rw [decide_eq_true (by omega)]
      exact hR _ (f.trans' f9)
theorem nm_Unlike (hT : Tab w) (hE : Errs w) (k0 k1 : UInt8) (n0 n1 : Nat) (hn0 : n0 < 18446744073709551616) (hn1 : n1 < 18446744073709551616) {lv : Value} {l : List ByteArray} (ha : Arr encT 1 w lv l) (hR : ∀ w', Fr [] w w' → R (.bool true) w') :
    CALL PR F_tumbrellaw14_NameUnlike [.agg #[.int .u8 (k0.toNat : Int), .int .u8 (k1.toNat : Int)], .agg #[.int .u64 (n0 : Int), .int .u64 (n1 : Int)], lv] w R := by
  refine C_tumbrellaw14_NameUnlike ?_
  unfold M_tumbrellaw14_NameUnlike
  refine NEW_intro fun w1 b1 f1 z1 => NEW_intro fun w2 b2 f2 z2 => ?_
  replace b1 : blk w1 (hsz w) = some (.cells [.int .u8 (k0.toNat : Int), .int .u8 (k1.toNat : Int)].toArray 35 (0, 0)) := b1
  replace b2 : blk w2 (hsz w1) = some (.cells [.int .u64 (n0 : Int), .int .u64 (n1 : Int)].toArray 36 (0, 0)) := b2
  replace b1 := f2.some (by simp) b1
  have f02 := f1.trans' f2
  generalize hsz w = kb at b1
  generalize hsz w1 = nb at b2
  refine nm_awake (hT.fr f02) (hE.fr f02) fun w3 f3 => ?_
  have f03 := f02.trans' f3
  have c1 := f3.some (by simp) b1
  have c2 := f3.some (by simp) b2
  (repeat refine gg ?_)
  refine r14_Large (ha.fr f03 (by simp)) ?_
  cases hl2 : largeN l with
  | true => (repeat refine gg ?_); exact hR _ f03
  | false =>
    obtain ⟨h200, h300⟩ := largeN_no hl2
    have i0 : iaddra 2 1 (.pointer (some ⟨kb, 0, none⟩)) (.int .i64 0) = _ := iaddra_at (len := 2) (k := .i64) (i := 0) (by omega)
    have i1 : iaddra 2 1 (.pointer (some ⟨kb, 0, none⟩)) (.int .i64 1) = _ := iaddra_at (len := 2) (k := .i64) (i := 1) (by omega)
    have j0 : iaddra 2 1 (.pointer (some ⟨nb, 0, none⟩)) (.int .i64 0) = _ := iaddra_at (len := 2) (k := .i64) (i := 0) (by omega)
    have j1 : iaddra 2 1 (.pointer (some ⟨nb, 0, none⟩)) (.int .i64 1) = _ := iaddra_at (len := 2) (k := .i64) (i := 1) (by omega)
    (repeat refine gg ?_)
    refine name_Of (hT.fr f03) k0 n0 hn0 fun w5 f5 => ?_
    have f05 := f03.trans' f5
    have d1 := f5.some (by simp) c1
    have d2 := f5.some (by simp) c2
    (repeat refine gg ?_)
    refine name_Of (hT.fr f05) k1 n1 hn1 fun w6 f6 => ?_
    have f06 := f05.trans' f6
    have e1 := f6.some (by simp) d1
    have e2 := f6.some (by simp) d2
    have a6 := ha.fr f06 (by simp)
    have fin : (nameOf k0 n0).2 = 0 ∧ (nameOf k1 n1).2 = 0 → (((nameOf k0 n0).1 = (nameOf k1 n1).1) ↔ (k0 = k1 ∧ n0 = n1)) := by
      rintro ⟨h0, h1⟩
      cases o0 : okN k0 n0 with
      | false => rw [nameOf_no o0] at h0; cases h0
      | true =>
        cases o1 : okN k1 n1 with
        | false => rw [nameOf_no o1] at h1; cases h1
        | true =>
          rw [nameOf_ok o0, nameOf_ok o1]
          exact ⟨nmB_inj, fun h => by rw [h.1, h.2]⟩
    have ends : (nameOf k0 n0).2 = 0 ∨ (nameOf k0 n0).2 = 1 := by unfold nameOf; split <;> simp
    have ends1 : (nameOf k1 n1).2 = 0 ∨ (nameOf k1 n1).2 = 1 := by unfold nameOf; split <;> simp
    generalize nameOf k0 n0 = p0 at *
    generalize nameOf k1 n1 = p1 at *
    obtain ⟨s0, x0⟩ := p0
    obtain ⟨s1, x1⟩ := p1
    simp only at fin ends ends1
    have pre : ∀ (Q : Prop), (x0 ≠ 0 → Q) → (x0 = 0 → x1 ≠ 0 → Q) → (x0 = 0 → x1 = 0 → s0 = s1 → (k0.toNat : Int) = (k1.toNat : Int) → (n0 : Int) = (n1 : Int) → Q) → (x0 = 0 → x1 = 0 → ¬ s0 = s1 → (k0.toNat : Int) = (k1.toNat : Int) → ¬ (n0 : Int) = (n1 : Int) → Q) →
        (x0 = 0 → x1 = 0 → ¬ s0 = s1 → ¬ (k0.toNat : Int) = (k1.toNat : Int) → Q) → Q := by
      intro Q q1 q2 q3 q4 q5
      by_cases h0 : x0 = 0
      · by_cases h1 : x1 = 0
        · by_cases hk : k0 = k1
          · by_cases hn : n0 = n1
            · exact q3 h0 h1 ((fin ⟨h0, h1⟩).2 ⟨hk, hn⟩) (by rw [hk]) (by rw [hn])
            · exact q4 h0 h1 (fun h => hn ((fin ⟨h0, h1⟩).1 h).2) (by rw [hk]) (by omega)
          · exact q5 h0 h1 (fun h => hk ((fin ⟨h0, h1⟩).1 h).1) (fun h => hk (UInt8.toNat_inj.1 (by omega)))
        · exact q2 h0 h1
      · exact q1 h0
    refine pre _ (fun h0 => ?_) (fun h0 h1 => ?_) (fun h0 h1 h2 h3 h4 => ?_) (fun h0 h1 h2 h3 h4 => ?_) (fun h0 h1 h2 h3 => ?_)
    · (repeat refine gg ?_)
      refine nm_Only (hT.fr f06) (hE.fr f06) k0 a6 h200 h300 fun v7 w7 F7 s7 g7 f7 => ?_
      exact nm_tail (hT.fr (f06.trans' f7)) (hE.fr (f06.trans' f7)) (a6.fr f7 (by simp)) h200 h300 (f7.some (by simp) e1) s7 (f06.trans' f7) hR
    · (repeat refine gg ?_)
      refine nm_Only (hT.fr f06) (hE.fr f06) k0 a6 h200 h300 fun v7 w7 F7 s7 g7 f7 => ?_
      exact nm_tail (hT.fr (f06.trans' f7)) (hE.fr (f06.trans' f7)) (a6.fr f7 (by simp)) h200 h300 (f7.some (by simp) e1) s7 (f06.trans' f7) hR
    · have : (true != true) = false := rfl
      (repeat refine gg ?_)
      refine nm_Only (hT.fr f06) (hE.fr f06) k0 a6 h200 h300 fun v7 w7 F7 s7 g7 f7 => ?_
      exact nm_tail (hT.fr (f06.trans' f7)) (hE.fr (f06.trans' f7)) (a6.fr f7 (by simp)) h200 h300 (f7.some (by simp) e1) s7 (f06.trans' f7) hR
    · (repeat refine gg ?_)
      refine nm_Only (hT.fr f06) (hE.fr f06) k0 a6 h200 h300 fun v7 w7 F7 s7 g7 f7 => ?_
      exact nm_tail (hT.fr (f06.trans' f7)) (hE.fr (f06.trans' f7)) (a6.fr f7 (by simp)) h200 h300 (f7.some (by simp) e1) s7 (f06.trans' f7) hR
    · (repeat refine gg ?_)
      refine nm_Only (hT.fr f06) (hE.fr f06) k0 a6 h200 h300 fun v7 w7 F7 s7 g7 f7 => ?_
      exact nm_tail (hT.fr (f06.trans' f7)) (hE.fr (f06.trans' f7)) (a6.fr f7 (by simp)) h200 h300 (f7.some (by simp) e1) s7 (f06.trans' f7) hR
end
end Go.Proofs.YtpclfkjbhlekaaaDoor
end

section
namespace Go.Proofs.YtpclfkjbhlekaaaDoor
open Go.Den Go.Disk Go.RowKit Go.Maps Go.Sort Go.Shelf
abbrev noVal : Value → Option (DataW Unit × List MemPlace) := fun _ => some (.lit (.bool false), [])
def keyBytesOf : Value → List UInt8
  | .string s => s.data.toList
  | _ => []
theorem fr_of_below {w w' : World} (h : Below w.heap.size w w') : Fr [] w w' := ⟨h.size, fun b hb _ => h.block b hb, h.os, h.tape, h.output⟩
set_option maxRecDepth 100000 in
def txt (l : List UInt8) : ByteArray := ⟨l.toArray⟩
theorem txt_of (s : ByteArray) : txt s.data.toList = s := by simp [txt]
theorem slc_of_owns {w : World} {base e : Nat} {v : Value} {ss : List (List UInt8)} (h : w.ownsRow base e 1 v ss.length (ss.map encStr)) : ∃ G, Slc encN 1 w v (ss.map txt) G ∧ ∀ b ∈ G, base ≤ b := by
  obtain ⟨_, h⟩ := h
  rcases h with ⟨rfl, h0⟩ | ⟨g, cap, cur, rfl, hb, hg, hn, hm, hs, ht⟩
  · have : ss = [] := List.eq_nil_of_length_eq_zero h0
    subst this
    exact ⟨[], Slc.nil _ _ _, by simp⟩
  · refine ⟨[g], .inr ⟨g, cap, cur, e, by simp, hg, by simpa using hn, hs, rfl, fun i x hx j hj => ?_⟩, by simpa using hb⟩
    obtain rfl : j = 0 := by omega
    rw [Nat.mul_one, Nat.add_zero]
    have hi : i < ss.length := by have := (List.getElem?_eq_some_iff.1 hx).1; simpa using this
    have h1 := congrArg (fun l : List Value => l[i]?) ht
    simp only [List.getElem?_take, Nat.mul_one, hi, if_true, Array.getElem?_toList] at h1
    rw [h1]
    simp only [List.getElem?_map] at hx ⊢
    cases hss : ss[i]? with
    | none => simp [hss] at hx
    | some l => simp [hss] at hx; subst hx; rfl
/-- names that rise, the same ones, are the same list. -/
theorem names_ext : ∀ {l m : List ByteArray}, l.Pairwise (fun a b => bl a b = true) → m.Pairwise (fun a b => bl a b = true) → (∀ x, x ∈ l ↔ x ∈ m) → l = m
  | [], [], _, _, _ => rfl
  | [], y :: m, _, _, h => by have := (h y).2 (by simp); simp at this
  | x :: l, [], _, _, h => by have := (h x).1 (by simp); simp at this
  | x :: l, y :: m, hl, hm, h => by
    obtain ⟨p1, p2⟩ := List.pairwise_cons.1 hl
    obtain ⟨q1, q2⟩ := List.pairwise_cons.1 hm
    have hxy : x = y := by
      rcases List.mem_cons.1 ((h x).1 (by simp)) with h1 | h1
      · exact h1
      · rcases List.mem_cons.1 ((h y).2 (by simp)) with h2 | h2
        · exact h2.symm
        · have a1 := p1 y h2; have a2 := q1 x h1
          rw [bl_asym a1] at a2; cases a2
    subst hxy
    congr 1
    refine names_ext p2 q2 fun z => ⟨fun hz => ?_, fun hz => ?_⟩
    · rcases List.mem_cons.1 ((h z).1 (by simp [hz])) with h1 | h1
      · subst h1; have := p1 z hz; rw [bl_irr] at this; cases this
      · exact h1
    · rcases List.mem_cons.1 ((h z).2 (by simp [hz])) with h1 | h1
      · subst h1; have := q1 z hz; rw [bl_irr] at this; cases this
      · exact h1
theorem rise_names {l : Dir} (h : riseD l) : (l.map (·.1)).Pairwise fun a b => bl a b = true := List.pairwise_map.2 h
section
variable {w : World} {R : Value → World → Prop}
/-- maps.Clone. -/
theorem dk_clone {m : Nat} {es : Array MapEntry} {ck : Nat} (b1 : blk w m = some (.map es ck)) (hR : ∀ w', blk w' (hsz w) = some (.map es ck) → Fr [] w w' → hsz w' = hsz w + 1 → R (.map (some (hsz w))) w') : CALL PR F_maps_Clone_file [.map (some m)] w R := by
  refine ⟨(AnyW.maps_Clone Tryd.cloneA m es ck w b1).mono ?_⟩
  rintro e w1 ⟨rfl, rfl⟩
  exact ⟨_, rfl, hR _ (blk_alloc_new _ _) (Fr.alloc _ _ _) (by simp)⟩
end
end Go.Proofs.YtpclfkjbhlekaaaDoor
end

section
namespace Go.Proofs.YtpclfkjbhlekaaaDoor
open Go.Den Go.Disk

section
variable {κ : Type} [DecidableEq κ] {enc : κ → Value} {kd : TypeDesc} {es : Array MapEntry} {ck : Nat} {L : List (κ × Value)}
theorem mdel_B (hk : KeyOk kd enc) {w : World} {b : Nat} (hb : blk w b = some (.map es ck)) (h : MapB enc es ck L) (k : κ) :
    ∃ es' ck', mdel kd w (.map (some b)) (enc k) = some (setB w b (.map es' ck')) ∧ MapB enc es' ck' (delL L k) := by
  have h' : w.heap[b]? = some (.map es ck) := hb
  obtain ⟨es1, ck1, e1, l1⟩ := mdel_L hk hb h.l k
  have e2 := e1
  unfold mdel at e2
  simp only [h', mfind_L hk h.l] at e2
  have key : ∀ es2 ck2, some ({ w with heap := w.heap.setIfInBounds b (.map es2 ck2) } : World) = some (setB w b (.map es1 ck1)) → es1 = es2 ∧ ck1 = ck2 := by
    intro es2 ck2 e
    have h1 : blk (setB w b (.map es2 ck2)) b = blk (setB w b (.map es1 ck1)) b := congrArg (fun x : World => blk x b) (Option.some.inj e)
    rw [blk_setB_same hb, blk_setB_same hb] at h1
    cases h1
    exact ⟨rfl, rfl⟩
  have hsub : ∀ i, (es.eraseIdxIfInBounds i).toList.Sublist es.toList := fun i => by
    unfold Array.eraseIdxIfInBounds
    split
    · rw [Array.toList_eraseIdx]; exact List.eraseIdx_sublist _ _
    · exact List.Sublist.refl _
  refine ⟨es1, ck1, e1, l1, ?_, ?_⟩
  all_goals
    cases hf : findL L k 0 with
    | none =>
      simp only [hf] at e2
      obtain ⟨rfl, rfl⟩ := key _ _ e2
      first | exact h.lt | exact h.nd
    | some p =>
      obtain ⟨i, u⟩ := p
      simp only [hf] at e2
      obtain ⟨rfl, rfl⟩ := key _ _ e2
      first
        | exact fun x hx => h.lt x ((hsub i).subset hx)
        | exact List.Nodup.sublist ((hsub i).map _) h.nd
omit [DecidableEq κ] in
theorem nodup_of_map {α β : Type} {f : α → β} {L : List α} (h : (L.map f).Nodup) : L.Nodup := by
  rw [List.nodup_iff_pairwise_ne, List.pairwise_map] at h
  rw [List.nodup_iff_pairwise_ne]
  exact h.imp fun h e => h (by rw [e])
theorem ins_perm {L M : List (κ × Value)} (hn : (L.map (·.1)).Nodup) (hm : (M.map (·.1)).Nodup) (h : ∀ k, lk L k = lk M k) : L.Perm M := by
  refine (List.perm_ext_iff_of_nodup ?_ ?_).2 fun ⟨k, v⟩ => ?_
  · exact nodup_of_map hn
  · exact nodup_of_map hm
  · rw [← lk_mem hn, ← lk_mem hm, h]
end
theorem stars_snoc : ∀ (ps : List HP) {w : World} {F G : List Nat} {Q : HP}, (stars ps).p w F → Q.p w G → (∀ b ∈ F, b ∉ G) → (stars (ps ++ [Q])).p w (F ++ G)
  | [], w, F, G, Q, h, hq, _ => by
    obtain ⟨_, rfl⟩ := h
    exact ⟨G, [], hq, ⟨trivial, rfl⟩, by simp, by simp⟩
  | P :: ps, w, F, G, Q, h, hq, hd => by
    obtain ⟨A, B, h1, h2, rfl, h3⟩ := h
    refine ⟨A, B ++ G, h1, stars_snoc ps h2 hq (fun b hb => hd b (by simp [hb])), by simp, fun b hb hb' => ?_⟩
    rcases List.mem_append.1 hb' with hb' | hb'
    · exact h3 b hb hb'
    · exact hd b (by simp [hb]) hb'
theorem zipWith_set {α β γ : Type} (g : α → β → γ) : ∀ (xs : List α) (ys : List β) (i : Nat) (a : α) (b : β), xs[i]? = some a → (List.zipWith g xs ys).set i (g a b) = List.zipWith g xs (ys.set i b)
  | [], _, i, _, _, h => by simp at h
  | a' :: xs, [], i, a, b, _ => by simp
  | a' :: xs, b' :: ys, 0, a, b, h => by simp at h; subst h; rfl
  | a' :: xs, b' :: ys, i + 1, a, b, h => by simp only [List.zipWith_cons_cons, List.set_cons_succ]; rw [zipWith_set g xs ys i a b (by simpa using h)]
theorem zipWith_snoc {α β γ : Type} (g : α → β → γ) (xs : List α) (ys : List β) (a : α) (b : β) (h : xs.length = ys.length) : List.zipWith g (xs ++ [a]) (ys ++ [b]) = List.zipWith g xs ys ++ [g a b] := by
  rw [List.zipWith_append h]; rfl
section
variable {w0 w w' : World} {F0 : List Nat} {d : Nat} {s : Dk} {sv : Value} {ms fb : List Nat}
/-- a directory is given other entries. -/
theorem dk_setdir (h : At w0 F0 (stars (dkL d s sv ms fb)) w) {i m : Nat} {l l' : Dir} (hm : ms[i]? = some m) (hl : s.dirs[i]? = some l) {es' : Array MapEntry} {ck' : Nat} {L' : List (ByteArray × Value)} (f : Fr [m] w w') (b1 : blk w' m = some (.map es' ck'))
    (b2 : MapB (fun s : ByteArray => Value.string s) es' ck' L') (b3 : L'.Perm (dirL fb l')) : At w0 F0 (stars (dkL d { s with dirs := s.dirs.set i l' } sv ms fb)) w' := by
  obtain ⟨A0, ⟨h0, _⟩, _⟩ := h.get 0 rfl
  obtain ⟨A, h1, upd⟩ := h.upd 3 rfl
  obtain ⟨B, ⟨_, rfl⟩, _, upd2⟩ := stars_upd (dirHPs fb ms s.dirs) i (dirHP fb m l) (by unfold dirHPs; rw [List.getElem?_zipWith, hm, hl]) h1
  obtain ⟨A', h2, h3⟩ := upd2 w' [m] (dirHP fb m l') ⟨⟨es', ck', L', b1, b2, b3⟩, rfl⟩ f (fun b hb => .inl hb)
  have hz : (dirHPs fb ms s.dirs).set i (dirHP fb m l') = dirHPs fb ms (s.dirs.set i l') := zipWith_set _ _ _ _ _ _ hm
  rw [hz] at h2
  have hmA : m ∈ A := by
    obtain ⟨B, ⟨_, rfl⟩, h4⟩ := stars_get (dirHPs fb ms s.dirs) i (dirHP fb m l) (by unfold dirHPs; rw [List.getElem?_zipWith, hm, hl]) h1
    exact h4 m (by simp)
  have h5 := upd w' A' (stars (dirHPs fb ms (s.dirs.set i l'))) h2 (f.wider fun b hb => by simp at hb; subst hb; exact hmA) h3
  obtain ⟨F, g1, g2, g3⟩ := h5
  obtain ⟨C, D, ⟨_, rfl⟩, k2, hF, k4⟩ := g1
  exact ⟨F, ⟨[], D, ⟨⟨by simpa using h0.1, h0.2⟩, rfl⟩, k2, hF, by simp⟩, g2, g3⟩
/-- a file is changed. -/
theorem dk_fupd (h : At w0 F0 (stars (dkL d s sv ms fb)) w) {f b : Nat} {x : Fl} (hb : fb[f]? = some b) (hx : s.files[f]? = some x) : ∃ A bv, At w A (stars [pts b [bv, .int .i64 (x.sure : Int)], slc encB 1 bv x.b]) w ∧
    ∀ w' bv' x', At w A (stars [pts b [bv', .int .i64 ((x' : Fl).sure : Int)], slc encB 1 bv' x'.b]) w' → At w0 F0 (stars (dkL d (setF s f x') sv ms fb)) w' := by
  obtain ⟨A0, ⟨h0, _⟩, _⟩ := h.get 0 rfl
  obtain ⟨A, h1, upd⟩ := h.upd 4 rfl
  obtain ⟨B, ⟨bv, hB⟩, hBA, upd2⟩ := stars_upd (fileHPs fb s.files) f (fileHP b x) (by unfold fileHPs; rw [List.getElem?_zipWith, hb, hx]) h1
  refine ⟨B, bv, At.start hB, fun w' bv' x' ⟨F', p1, p2, p3⟩ => ?_⟩
  obtain ⟨A', h2, h3⟩ := upd2 w' F' (fileHP b x') ⟨bv', p1⟩ p3 p2
  have hz : (fileHPs fb s.files).set f (fileHP b x') = fileHPs fb (s.files.set f x') := zipWith_set _ _ _ _ _ _ hb
  rw [hz] at h2
  have h5 := upd w' A' (stars (fileHPs fb (s.files.set f x'))) h2 (p3.wider hBA) h3
  obtain ⟨F, g1, g2, g3⟩ := h5
  obtain ⟨C, D, ⟨_, rfl⟩, k2, hF, k4⟩ := g1
  exact ⟨F, ⟨[], D, ⟨⟨h0.1, by simpa [setF] using h0.2⟩, rfl⟩, k2, hF, by simp⟩, g2, g3⟩
theorem dirL_more {fb : List Nat} {l : Dir} (b : Nat) (h : ∀ x ∈ l, x.2 < fb.length) : dirL (fb ++ [b]) l = dirL fb l := by
  unfold dirL
  refine List.map_congr_left fun x hx => ?_
  have := h x hx
  rw [List.getD_eq_getElem?_getD, List.getD_eq_getElem?_getD, List.getElem?_append_left this]
theorem dirHPs_more {fb ms : List Nat} {ds : List Dir} (b : Nat) (h : ∀ l ∈ ds, ∀ x ∈ l, x.2 < fb.length) : dirHPs (fb ++ [b]) ms ds = dirHPs fb ms ds := by
  unfold dirHPs
  induction ds generalizing ms with
  | nil => simp
  | cons l ds ih =>
    cases ms with
    | nil => rfl
    | cons m ms =>
      simp only [List.zipWith_cons_cons]
      rw [ih fun l hl => h l (by simp [hl])]
      congr 1
      unfold dirHP
      simp only [dirL_more b (h l (by simp))]
/-- a new file. -/
theorem dk_newfile (h : At w0 F0 (stars (dkL d s sv ms fb)) w) (f : Fr [] w w') {b T : Nat} (hb : hsz w ≤ b) (b1 : blk w' b = some (.cells [.slice none 0 0, .int .i64 0].toArray T (0, 0))) (hidx : ∀ l ∈ s.dirs, ∀ x ∈ l, x.2 < s.files.length) :
    At w0 F0 (stars (dkL d { s with files := s.files ++ [⟨[], 0⟩] } sv ms (fb ++ [b]))) w' := by
  obtain ⟨A0, ⟨h0, _⟩, _⟩ := h.get 0 rfl
  have h' := h.fr0 f
  obtain ⟨A, h1, upd⟩ := h.upd 4 rfl
  have hlt := (stars (fileHPs fb s.files)).lt h1
  have hnew : (fileHP b ⟨[], 0⟩).p w' [b] := ⟨.slice none 0 0, [b], [], ⟨⟨T, b1⟩, rfl⟩, ⟨[], [], Slc.nil _ _ _, ⟨trivial, rfl⟩, rfl, by simp⟩, rfl, by simp⟩
  have h2 := stars_snoc (fileHPs fb s.files) ((stars (fileHPs fb s.files)).fr h1 f (by simp)) hnew (fun c hc hc' => by simp at hc'; subst hc'; have := hlt _ hc; omega)
  have hz : fileHPs fb s.files ++ [fileHP b ⟨[], 0⟩] = fileHPs (fb ++ [b]) (s.files ++ [⟨[], 0⟩]) := (zipWith_snoc _ _ _ _ _ h0.2).symm
  rw [hz] at h2
  have h5 := upd w' (A ++ [b]) (stars (fileHPs (fb ++ [b]) (s.files ++ [⟨[], 0⟩]))) h2 f.nil (fun c hc => by
    rcases List.mem_append.1 hc with hc | hc
    · exact .inl hc
    · simp at hc; subst hc; exact .inr hb)
  obtain ⟨F, g1, g2, g3⟩ := h5
  obtain ⟨C, D, ⟨_, rfl⟩, k2, hF, k4⟩ := g1
  have hm : dirHPs (fb ++ [b]) ms s.dirs = dirHPs fb ms s.dirs := dirHPs_more b fun l hl x hx => by rw [h0.2]; exact hidx l hl x hx
  refine ⟨F, ⟨[], D, ⟨⟨h0.1, by simp [h0.2]⟩, rfl⟩, ?_, hF, by simp⟩, g2, g3⟩
  show (stars [pts d (dkC s (ms.headD 0) sv), slc encM 1 sv ms.tail, stars (dirHPs (fb ++ [b]) ms s.dirs), stars (fileHPs (fb ++ [b]) (s.files ++ [⟨[], 0⟩]))]).p w' D
  rw [hm]; exact k2
end
end Go.Proofs.YtpclfkjbhlekaaaDoor
end

section
namespace Go.Proofs.YtpclfkjbhlekaaaDoor
open Go.Den Go.Disk
set_option linter.unusedSimpArgs false
set_option linter.unusedVariables false
set_option maxRecDepth 20000
set_option maxHeartbeats 4000000
attribute [local congr] BND_cg COND_cg GEF_cg
attribute [local irreducible] capl slicea load1 loadn iaddr iaddra faddr storev newslice binv lookv mupd mdel mlenv mentry mestore slicev slicev3 slices indexs indexav textv rangev nexts clearv shiftv eqaggv convi buildv pickv lens lenl unv nilchk extractv partn JOIN
theorem At.pure0 {w0 w : World} {F0 : List Nat} {a b : Prop} {ps : List HP} (h : At w0 F0 (stars (pure_ a :: ps)) w) (hb : b) : At w0 F0 (stars (pure_ b :: ps)) w := by
  obtain ⟨F, ⟨A, B, ⟨_, rfl⟩, h2, h3, h4⟩, h5⟩ := h
  exact ⟨F, ⟨[], B, ⟨hb, rfl⟩, h2, h3, h4⟩, h5⟩
/-- the directory, as it stands behind a change. -/
structure NowAt (w : World) (fb : List Nat) (m : Nat) (l : Dir) : Prop where
  h : ∃ es ck L, blk w m = some (.map es ck) ∧ MapB (fun s : ByteArray => Value.string s) es ck L ∧ L.Perm (dirL fb l)
section
variable {w0 w : World} {F0 : List Nat} {d : Nat} {s : Dk} {R : Value → World → Prop}
theorem dk_change (h : At w0 F0 (diskHP d s) w) (hw : s.Wf) (hn : s.dirs.length < 1000000000)
    (hR : ∀ w' sv ms fb m, At w0 F0 (stars (dkL d { s with dirs := s.dirs ++ [s.now] } sv ms fb)) w' → ms[s.dirs.length]? = some m → NowAt w' fb m s.now → hsz w ≤ m → R (.map (some m)) w') : CALL PR F_disk_Disk_change [ptrTo d] w R := by
  refine C_disk_Disk_change ?_
  unfold M_disk_Disk_change
  refine dk_now h hw.ne hn fun sv ms fb m es ck L hs hm hf hmm b1 b2 b3 => ?_
  refine dk_clone b1 fun w2 c1 f2 z2 => ?_
  obtain ⟨A, h1, upd⟩ := hs.upd 3 rfl
  have hlt := (stars (dirHPs fb ms s.dirs)).lt h1
  have h2 := stars_snoc (Q := dirHP fb (hsz w) s.now) (G := [hsz w]) (dirHPs fb ms s.dirs) ((stars (dirHPs fb ms s.dirs)).fr h1 f2 (by simp)) ⟨⟨es, ck, L, c1, b2, b3⟩, rfl⟩ (fun c hc hc' => by simp at hc'; subst hc'; have := hlt _ hc; omega)
  have hz : dirHPs fb ms s.dirs ++ [dirHP fb (hsz w) s.now] = dirHPs fb (ms ++ [hsz w]) (s.dirs ++ [s.now]) := (zipWith_snoc _ _ _ _ _ hm).symm
  rw [hz] at h2
  have h5 := upd w2 (A ++ [hsz w]) (stars (dirHPs fb (ms ++ [hsz w]) (s.dirs ++ [s.now]))) h2 f2.nil (fun c hc => by
    rcases List.mem_append.1 hc with hc | hc
    · exact .inl hc
    · simp at hc; subst hc; exact .inr (Nat.le_refl _))
  unfold ptrTo
  obtain ⟨T, c⟩ := h5.cell (i := 1) rfl
  (repeat refine gg ?_)
  refine newone_step (enc := encM) (x := hsz w) encM_len rfl fun u w3 s3 f3 z3 => ?_
  have htl : ms.tail.length = ms.length - 1 := by simp
  refine (h5.fr0 f3).append (i := 2) rfl (s3.loads encM_len) encM_len encM_one rfl (by omega) (by rw [htl]; simp; omega) fun v' w4 h6 one6 => ?_
  (repeat refine gg ?_)
  refine h6.store (i := 1) rfl one6 (by simp [dkC]) fun w5 h7 f7 => ?_
  have hne : ms ≠ [] := by
    intro e; subst e
    have := List.length_pos_iff.2 hw.ne
    simp at hm; omega
  have et : (ms ++ [hsz w]).tail = ms.tail ++ [hsz w] := by cases ms with
    | nil => exact absurd rfl hne
    | cons a r => rfl
  have eh : (ms ++ [hsz w]).headD 0 = ms.headD 0 := by cases ms with
    | nil => exact absurd rfl hne
    | cons a r => rfl
  have h8 : At w0 F0 (stars (dkL d { s with dirs := s.dirs ++ [s.now] } v' (ms ++ [hsz w]) fb)) w5 := by
    have := At.pure0 (b := (ms ++ [hsz w]).length = (s.dirs ++ [s.now]).length ∧ fb.length = s.files.length) h7 ⟨by simp [hm], hf⟩
    unfold dkL
    rw [et, eh]
    exact this
  have hget : (ms ++ [hsz w])[s.dirs.length]? = some (hsz w) := by rw [← hm, List.getElem?_append_right (Nat.le_refl _)]; simp
  refine hR w5 v' (ms ++ [hsz w]) fb (hsz w) h8 hget ?_ (Nat.le_refl _)
  have := dk_dir h8 (i := s.dirs.length) (l := s.now) hget (by simp)
  exact ⟨this⟩
theorem dk_named (n : ByteArray) (hR : ∀ w', Fr [] w w' → R (.bool (named n)) w') : CALL PR F_disk_named [.string n] w R := by
  refine C_disk_named ?_
  unfold M_disk_named
  unfold named at hR
  (repeat refine gg ?_)
  by_cases h0 : n.size = 0
  · (repeat refine gg ?_)
    have := hR _ (Fr.refl _ _)
    simpa [h0] using this
  by_cases h12 : 12 < n.size
  · (repeat refine gg ?_)
    have := hR _ (Fr.refl _ _)
    simpa [show ¬ n.size ≤ 12 by omega] using this
  (repeat refine gg ?_)
  have e0 : (decide (1 ≤ n.size) && decide (n.size ≤ 12)) = true := by simp; omega
  rw [e0, Bool.true_and] at hR
  refine ⟨n, rfl, fun c w1 hc hh hrest => ?_⟩
  have hsz1 : hsz w1 = hsz w := by unfold hsz; rw [hh]
  have hl : n.data.toList.length = n.size := Array.length_toList
  have f1 : Fr [] w (w1.alloc (.cells (n.data.map (fun b => Value.int .u8 b.toNat) ++ Array.replicate (c - n.size) (.int .u8 0)) 5 (c, c + 1))) := ⟨by simp [hsz1], fun b hb _ => by rw [blk_alloc_old (by omega), heap_ext hh], hrest.1, hrest.2.1, hrest.2.2⟩
  have ar : Arr encB 1 (w1.alloc (.cells (n.data.map (fun b => Value.int .u8 b.toNat) ++ Array.replicate (c - n.size) (.int .u8 0)) 5 (c, c + 1))) (.slice (some ⟨w1.heap.size, 0, .none⟩) n.size c) n.data.toList := by
    refine ⟨some ⟨w1.heap.size, 0, .none⟩, c, by rw [hl], .inr ⟨w1.heap.size, 0, _, _, _, rfl, blk_alloc_new _ _, fun i x hx => ⟨?_, fun j hj => ?_⟩⟩⟩
    · have hi := (List.getElem?_eq_some_iff.1 hx).1
      simp only [Array.size_append, Array.size_map, Array.size_replicate]
      have : n.data.size = n.size := rfl
      omega
    · obtain rfl : j = 0 := by omega
      have hi := (List.getElem?_eq_some_iff.1 hx).1
      rw [Array.getElem?_append_left (by simp; omega)]
      rw [Array.getElem?_toList] at hx
      simp [encB, hx]
  generalize w1.alloc (.cells (n.data.map (fun b => Value.int .u8 b.toNat) ++ Array.replicate (c - n.size) (.int .u8 0)) 5 (c, c + 1)) = w2 at f1 ar
  generalize (Value.slice (some ⟨w1.heap.size, 0, .none⟩) n.size c) = bv at ar
  (repeat (first | refine BND_step ar.len ?_ | refine gg ?_))
  refine loop_up 0 n.data.toList.length (fun i w' => w' = w2 ∧ (n.data.toList.take i).all okByte = true) ⟨rfl, rfl⟩ (by omega) ?_
  rintro i w5 - hi ⟨rfl, e⟩ J m hJ
  by_cases hlt : i < n.data.toList.length
  · have hx := List.getElem?_eq_getElem hlt
    generalize n.data.toList[i] = x at hx
    obtain ⟨b, o, ia, _, _, l1⟩ := ar.spot hx rfl .i64
    have l1' := l1 rfl (j := 0) rfl
    have yes : okByte x = true → J (.int .i64 ((i + 1 : Nat) : Int)) w5 ∧ m (.int .i64 ((i + 1 : Nat) : Int)) w5 < m (.int .i64 (i : Int)) w5 := fun hok => hJ w5 hlt ⟨rfl, by rw [List.take_add_one, hx, List.all_append, e]; simp [hok]⟩
    have no : okByte x = false → R (.bool false) w5 := fun hno => by
      have := hR w5 f1
      have e2 : n.data.toList.all okByte = false := by rw [List.all_eq_false]; exact ⟨x, List.mem_of_getElem? hx, by simp [hno]⟩
      rwa [e2] at this
    have hx46 : (x.toNat : Int) = 46 ↔ x = 46 := by
      rw [← UInt8.toNat_inj]; show (x.toNat : Int) = 46 ↔ x.toNat = 46; omega
    have h48 : 48 ≤ x ↔ (48 : Int) ≤ (x.toNat : Int) := by rw [UInt8.le_iff_toNat_le]; show 48 ≤ x.toNat ↔ _; omega
    have h57 : x ≤ 57 ↔ (x.toNat : Int) ≤ 57 := by rw [UInt8.le_iff_toNat_le]; show x.toNat ≤ 57 ↔ _; omega
    have h97 : 97 ≤ x ↔ (97 : Int) ≤ (x.toNat : Int) := by rw [UInt8.le_iff_toNat_le]; show 97 ≤ x.toNat ↔ _; omega
    have h122 : x ≤ 122 ↔ (x.toNat : Int) ≤ 122 := by rw [UInt8.le_iff_toNat_le]; show x.toNat ≤ 122 ↔ _; omega
    have hok : okByte x = true ↔ (x.toNat : Int) = 46 ∨ (48 ≤ (x.toNat : Int) ∧ (x.toNat : Int) ≤ 57) ∨ (97 ≤ (x.toNat : Int) ∧ (x.toNat : Int) ≤ 122) := by
      unfold okByte
      simp only [Bool.or_eq_true, Bool.and_eq_true, decide_eq_true_eq, h48, h57, h97, h122, hx46, or_assoc]
    have hno : okByte x = false ↔ ¬ ((x.toNat : Int) = 46 ∨ (48 ≤ (x.toNat : Int) ∧ (x.toNat : Int) ≤ 57) ∨ (97 ≤ (x.toNat : Int) ∧ (x.toNat : Int) ≤ 122)) := by
      rw [← hok]; simp
    generalize (x.toNat : Int) = z at *
    by_cases q1 : z = 46
    · (repeat refine gg ?_)
      exact yes (hok.2 (by omega))
    by_cases q2 : z < 48
    · by_cases q3 : z < 97
      · (repeat refine gg ?_)
        exact no (hno.2 (by omega))
      · (repeat refine gg ?_)
        omega
    by_cases q4 : 57 < z
    · by_cases q5 : z < 97
      · (repeat refine gg ?_)
        exact no (hno.2 (by omega))
      · by_cases q6 : 122 < z
        · (repeat refine gg ?_)
          exact no (hno.2 (by omega))
        · (repeat refine gg ?_)
          exact yes (hok.2 (by omega))
    · (repeat refine gg ?_)
      exact yes (hok.2 (by omega))
  · (repeat refine gg ?_)
    rw [List.take_of_length_le (by omega)] at e
    have := hR w5 f1
    rwa [e] at this
end
end Go.Proofs.YtpclfkjbhlekaaaDoor
end

section
namespace Go.Proofs.YtpclfkjbhlekaaaDoor
open Go.Den Go.Disk
/-! ## Plain -/
theorem can_keep (s : Dk) (e : Int) : (can s e).1.files = s.files ∧ (can s e).1.dirs = s.dirs ∧ (can s e).1.room = s.room := by
  unfold can
  split
  · exact ⟨rfl, rfl, rfl⟩
  · split
    · exact ⟨rfl, rfl, rfl⟩
    · split
      · exact ⟨rfl, rfl, rfl⟩
      · split <;> exact ⟨rfl, rfl, rfl⟩
theorem can_zero {s : Dk} {e : Int} (h : (can s e).2 = 0) : e = 0 := by
  unfold can at h
  split at h
  · simp at h
  · split at h
    · exact h
    · rename_i h2; simpa using h2
theorem wf_can {s : Dk} (h : s.Wf) (e : Int) : (can s e).1.Wf := by
  obtain ⟨h1, h2, h3⟩ := can_keep s e
  refine ⟨by rw [h2]; exact h.ne, by rw [h2]; exact h.rise, by rw [h1, h2]; exact h.idx, by rw [h2]; exact h.many, by rw [h2]; exact h.nm, by rw [h1]; exact h.sure, by rw [h1, h3]; exact h.small, by rw [h3]; exact h.room, ?_⟩
  have hb := h.burn
  unfold can
  split
  · exact hb
  · split
    · exact hb
    · split
      · exact hb
      · split
        · show -1 ≤ s.burn - 1 ∧ s.burn - 1 ≤ _; omega
        · exact hb
theorem can_now (s : Dk) (e : Int) : (can s e).1.now = s.now := by unfold Dk.now; rw [(can_keep s e).2.1]
theorem findD_withD {l : Dir} (hr : riseD l) {x : ByteArray × Nat} (hn : ∀ y ∈ l, y.1 ≠ x.1) (k : ByteArray) : findD (withD l x) k = if k = x.1 then some x.2 else findD l k := by
  have hr' := rise_withD hr hn
  by_cases hk : k = x.1
  · rw [if_pos hk, hk]
    exact findD_of_mem hr' (mem_withD.2 (.inl rfl))
  · rw [if_neg hk]
    cases hf : findD l k with
    | none =>
      rw [findD_none]
      intro y hy
      rcases mem_withD.1 hy with rfl | hy
      · exact fun e => hk e.symm
      · exact findD_none.1 hf y hy
    | some f => exact findD_of_mem hr' (mem_withD.2 (.inr (findD_mem hf)))
theorem findD_without {l : Dir} (hr : riseD l) (n k : ByteArray) : findD (without l n) k = if k = n then none else findD l k := by
  by_cases hk : k = n
  · rw [if_pos hk, findD_none]
    intro y hy e
    exact (mem_without.1 hy).2 (by rw [e, hk])
  · rw [if_neg hk]
    cases hf : findD l k with
    | none =>
      rw [findD_none]
      intro y hy
      exact findD_none.1 hf y (mem_without.1 hy).1
    | some f => exact findD_of_mem (rise_without hr n) (mem_without.2 ⟨findD_mem hf, hk⟩)
theorem without_id {l : Dir} {n : ByteArray} (h : findD l n = none) : without l n = l := by
  unfold without
  refine List.filter_eq_self.2 fun x hx => ?_
  have := findD_none.1 h x hx
  simp [this]
theorem keys_dir {fb : List Nat} {l : Dir} (hr : riseD l) : ((dirL fb l).map (·.1)).Nodup := by
  unfold dirL
  rw [List.map_map, List.nodup_iff_pairwise_ne]
  exact (rise_names hr).imp fun {a b} h e => by subst e; rw [bl_irr] at h; cases h
theorem lk_dirL {fb : List Nat} {l : Dir} (hr : riseD l) (k : ByteArray) : lk (dirL fb l) k = (findD l k).map fun f => ptrTo (fb.getD f 0) := lk_dir hr (.refl _) (keys_dir hr) k
theorem ins_dir {fb : List Nat} {l : Dir} {L : List (ByteArray × Value)} (hr : riseD l) (hp : L.Perm (dirL fb l)) (hL : (L.map (·.1)).Nodup) (n : ByteArray) (f : Nat) : (insL L n (ptrTo (fb.getD f 0))).Perm (dirL fb (withD (without l n) (n, f))) := by
  have hnn : ∀ y ∈ without l n, y.1 ≠ n := fun y hy => (mem_without.1 hy).2
  have hr2 : riseD (withD (without l n) (n, f)) := rise_withD (rise_without hr n) hnn
  refine ins_perm (once_ins hL n _) (keys_dir hr2) fun k => ?_
  rw [lk_ins, lk_dirL hr2, findD_withD (rise_without hr n) hnn, findD_without hr, lk_dir hr hp hL]
  by_cases hk : k = n
  · simp [hk]
  · simp [hk]
theorem del_dir {fb : List Nat} {l : Dir} {L : List (ByteArray × Value)} (hr : riseD l) (hp : L.Perm (dirL fb l)) (hL : (L.map (·.1)).Nodup) (n : ByteArray) : (delL L n).Perm (dirL fb (without l n)) := by
  refine ins_perm (once_del hL n) (keys_dir (rise_without hr n)) fun k => ?_
  rw [lk_del hL, lk_dirL (rise_without hr n), findD_without hr, lk_dir hr hp hL]
  by_cases hk : k = n
  · simp [hk]
  · simp [hk]
theorem set_snoc {α : Type} (l : List α) (a b : α) : (l ++ [a]).set l.length b = l ++ [b] := by
  induction l with
  | nil => rfl
  | cons x l ih => simp only [List.cons_append, List.length_cons, List.set_cons_succ, ih]
set_option linter.unusedSimpArgs false
set_option linter.unusedVariables false
set_option maxRecDepth 20000
set_option maxHeartbeats 4000000
attribute [local congr] BND_cg COND_cg GEF_cg
attribute [local irreducible] capl slicea load1 loadn iaddr iaddra faddr storev newslice binv lookv mupd mdel mlenv mentry mestore slicev slicev3 slices indexs indexav textv rangev nexts clearv shiftv eqaggv convi buildv pickv lens lenl unv nilchk extractv partn JOIN
section
variable {w0 w : World} {F0 : List Nat} {d : Nat} {s : Dk} {R : Value → World → Prop}
theorem dk_Create (h : At w0 F0 (diskHP d s) w) (hw : s.Wf) (hn : s.dirs.length < 1000000000) (n : ByteArray) (hR : ∀ w', At w0 F0 (diskHP d (create s n).1) w' → R (.int .i64 (create s n).2) w') :
    CALL PR F_disk_Disk_Create [ptrTo d, .string n] w R := by
  refine C_disk_Disk_Create ?_
  unfold M_disk_Disk_Create
  refine dk_now h hw.ne hn fun sv ms fb m es ck L hs hm hf hmm b1 b2 b3 => ?_
  have hr : riseD s.now := hw.rise _ (List.mem_of_getElem? (dk_now_get hw.ne))
  refine dk_named n fun w2 f2 => ?_
  have h2 := h.fr0 f2
  have c1 := f2.some (by simp) b1
  have lk1 := dk_lookup c1 b2 b3 hr n
  have ml := mlenv_L c1 b2.l
  have hLl : L.length = s.now.length := by rw [b3.length_eq]; simp [dirL]
  rw [hLl] at ml
  (repeat refine gg ?_)
  refine join_v (fun e w' => e = .int .i64 (createE s n) ∧ w' = w2) (fun K hK => ?_) ?_
  · cases hnm : named n with
    | false =>
      have e : createE s n = 1 := by simp [createE, hnm]
      (repeat refine gg ?_)
      exact hK _ _ ⟨by rw [e], rfl⟩
    | true =>
    cases hfd : findD s.now n with
    | some f =>
      rw [hfd] at lk1
      simp only [ptrTo] at lk1
      have e : createE s n = 6 := by simp [createE, hnm, Dk.find, hfd]
      (repeat refine gg ?_)
      refine join_v (fun e w' => e = .int .i64 (createE s n) ∧ w' = w2) (fun K2 hK2 => ?_) (fun e w' hq => hK e w' hq)
      (repeat refine gg ?_)
      exact hK2 _ _ ⟨by rw [e], rfl⟩
    | none =>
      rw [hfd] at lk1
      simp only at lk1
      (repeat refine gg ?_)
      refine join_v (fun e w' => e = .int .i64 (createE s n) ∧ w' = w2) (fun K2 hK2 => ?_) (fun e w' hq => hK e w' hq)
      by_cases h60 : 60 ≤ s.now.length
      · have e : createE s n = 4 := by simp [createE, hnm, Dk.find, hfd, h60]
        (repeat refine gg ?_)
        refine join_v (fun e w' => e = .int .i64 (createE s n) ∧ w' = w2) (fun K3 hK3 => ?_) (fun e w' hq => hK2 e w' hq)
        (repeat refine gg ?_)
        exact hK3 _ _ ⟨by rw [e], rfl⟩
      · have e : createE s n = 0 := by simp [createE, hnm, Dk.find, hfd, h60]
        (repeat refine gg ?_)
        refine join_v (fun e w' => e = .int .i64 (createE s n) ∧ w' = w2) (fun K3 hK3 => ?_) (fun e w' hq => hK2 e w' hq)
        (repeat refine gg ?_)
        exact hK3 _ _ ⟨by rw [e], rfl⟩
  · rintro _ _ ⟨rfl, rfl⟩
    refine dk_can h2 _ hw.burn fun w4 h4 => ?_
    unfold create at hR
    by_cases hc : (can s (createE s n)).2 = 0
    · simp only [hc, if_true] at hR
      rw [hc]
      (repeat refine gg ?_)
      refine join_w (fun w' => At w0 F0 (diskHP d { (can s (createE s n)).1 with files := s.files ++ [⟨[], 0⟩], dirs := s.dirs ++ [withD s.now (n, s.files.length)] }) w') (fun K hK => ?_) (fun w' hw' => hR w' hw')
      obtain ⟨k1, k2, k3⟩ := can_keep s (createE s n)
      have hcz := can_zero hc
      have hfd : findD s.now n = none := by
        cases hq : findD s.now n with
        | none => rfl
        | some f =>
          exfalso
          unfold createE Dk.find at hcz
          rw [hq] at hcz
          split at hcz <;> simp at hcz
      (repeat refine gg ?_)
      refine dk_change h4 (wf_can hw _) (by rw [k2]; exact hn) fun w6 sv6 ms6 fb6 m6 hs6 hm6 na6 _ => ?_
      rw [can_now, k2] at hs6
      rw [k2] at hm6
      rw [can_now] at na6
      have g6 := hs6.get 0 rfl
      obtain ⟨_, ⟨hlen6, _⟩, _⟩ := g6
      have hfb : fb6.length = s.files.length := by rw [← k1]; exact hlen6.2
      (repeat (first | refine gg ?_ | (apply BND_build ([.slice none 0 0, .int .i64 0]); exact rfl)))
      refine NEW_intro fun w7 b7 f7 z7 => ?_
      have hidx : ∀ l ∈ s.dirs ++ [s.now], ∀ x ∈ l, x.2 < s.files.length := fun l hl x hx => by
        rcases List.mem_append.1 hl with hl | hl
        · exact hw.idx l hl x hx
        · simp at hl; subst hl; exact hw.idx _ (List.mem_of_getElem? (dk_now_get hw.ne)) x hx
      have h7 := dk_newfile hs6 f7 (Nat.le_refl _) b7 (by rw [k1]; exact hidx)
      rw [k1] at h7
      obtain ⟨es6, ck6, L6, q1, q2, q3⟩ := na6.h
      have q1' := f7.some (by simp) q1
      obtain ⟨es8, ck8, e8, m8⟩ := mupd_B keyStr q1' q2 n (ptrTo (hsz w6))
      refine BND_step e8 <| hK _ ?_
      have hget : (fb6 ++ [hsz w6]).getD s.files.length 0 = hsz w6 := by
        rw [List.getD_eq_getElem?_getD, ← hfb, List.getElem?_append_right (Nat.le_refl _)]; simp
      have q3' : L6.Perm (dirL (fb6 ++ [hsz w6]) s.now) := by
        rw [dirL_more _ (fun x hx => by rw [hfb]; exact hw.idx _ (List.mem_of_getElem? (dk_now_get hw.ne)) x hx)]; exact q3
      have hperm := ins_dir (fb := fb6 ++ [hsz w6]) hr q3' q2.l.once n s.files.length
      rw [hget, without_id hfd] at hperm
      have h9 := dk_setdir h7 (i := s.dirs.length) (l := s.now) (l' := withD s.now (n, s.files.length)) hm6 (by simp) (Fr.setB (F := [m6]) (.inl (by simp)) _) (blk_setB_same q1') m8 hperm
      simp only [set_snoc] at h9
      exact dk_shut h9
    · simp only [hc, if_false] at hR
      (repeat refine gg ?_)
      refine join_w (fun w' => At w0 F0 (diskHP d (can s (createE s n)).1) w') (fun K hK => ?_) (fun w' hw' => hR w' hw')
      (repeat refine gg ?_)
      exact hK w4 h4
end
end Go.Proofs.YtpclfkjbhlekaaaDoor
end

section
namespace Go.Proofs.YtpclfkjbhlekaaaDoor
open Go.Den Go.Disk
theorem there_zero {s : Dk} {n : ByteArray} (h : there s n = 0) : ∃ f, findD s.now n = some f := by
  unfold there Dk.find at h
  cases hq : findD s.now n with
  | some f => exact ⟨f, rfl⟩
  | none => rw [hq] at h; simp at h
set_option linter.unusedSimpArgs false
set_option linter.unusedVariables false
set_option maxRecDepth 20000
set_option maxHeartbeats 4000000
attribute [local congr] BND_cg COND_cg GEF_cg
attribute [local irreducible] capl slicea load1 loadn iaddr iaddra faddr storev newslice binv lookv mupd mdel mlenv mentry mestore slicev slicev3 slices indexs indexav textv rangev nexts clearv shiftv eqaggv convi buildv pickv lens lenl unv nilchk extractv partn JOIN
section
variable {w0 w : World} {F0 : List Nat} {d : Nat} {s : Dk} {R : Value → World → Prop}
end
end Go.Proofs.YtpclfkjbhlekaaaDoor
end

section
namespace Go.Proofs.YtpclfkjbhlekaaaDoor
open Go.Den Go.Disk
theorem isSome_find {s : Dk} {n : ByteArray} {f : Nat} (h : findD s.now n = some f) : (s.find n).isSome = true ∧ (s.find n).getD 0 = f := by
  unfold Dk.find; rw [h]; exact ⟨rfl, rfl⟩
theorem wf_pick {s : Dk} (hw : s.Wf) {n : ByteArray} {f : Nat} (h : findD s.now n = some f) : s.files[f]? = some (fileAt s f) := by
  have hi := hw.idx _ (List.mem_of_getElem? (dk_now_get hw.ne)) _ (findD_mem h)
  unfold fileAt
  rw [List.getD_eq_getElem?_getD, List.getElem?_eq_getElem hi]; rfl
theorem Slc.take0 {α : Type} {enc : α → List Value} {sz : Nat} {w : World} {v : Value} {xs : List α} {F : List Nat} (h : Slc enc sz w v xs F) {n : Nat} (hn : n ≤ xs.length) (k : IntKind) : ∃ v', slicev sz v none (some (.int k (n : Int))) = some v' ∧ Slc enc sz w v' (xs.take n) F := by
  rcases h with ⟨rfl, rfl, rfl⟩ | ⟨b, cap, c, T, rfl, hb, hc, hs, rfl, hel⟩
  · have : n = 0 := by simpa using hn
    subst this
    exact ⟨.slice none 0 0, by simp [slicev, natOf], Slc.nil _ _ _⟩
  · have h1 : n ≤ cap := by omega
    refine ⟨.slice (some ⟨b, 0, none⟩) n cap, ?_, .inr ⟨b, cap, c, T, by simp [Nat.min_eq_left hn], hb, by simp; omega, hs, rfl, fun i x hx j hj => ?_⟩⟩
    · simp [slicev, natOf, h1, Addr.add]
    · rw [List.getElem?_take] at hx
      split at hx
      · exact hel i x hx j hj
      · simp at hx
theorem slc_nil : binv .slc .eql (.slice none 0 0) (.slice none 0 0) = some (.bool true) := rfl
theorem slc_not {a : Addr} {n c : Nat} : binv .slc .eql (.slice (some a) n c) (.slice none 0 0) = some (.bool false) := rfl
set_option linter.unusedSimpArgs false
set_option linter.unusedVariables false
set_option maxRecDepth 20000
set_option maxHeartbeats 4000000
attribute [local congr] BND_cg COND_cg GEF_cg
attribute [local irreducible] capl slicea load1 loadn iaddr iaddra faddr storev newslice binv lookv mupd mdel mlenv mentry mestore slicev slicev3 slices indexs indexav textv rangev nexts clearv shiftv eqaggv convi buildv pickv lens lenl unv nilchk extractv partn JOIN
section
variable {w0 w : World} {F0 : List Nat} {d : Nat} {s : Dk} {R : Value → World → Prop}
theorem dk_New (room : Int) (hR0 : (room < 16 ∨ 1048576 < room) → R (.tuple #[.pointer none, .int .i64 1]) w)
    (hR : 16 ≤ room ∧ room ≤ 1048576 → ∀ w' d, At w [] (diskHP d (empty room)) w' → R (.tuple #[ptrTo d, .int .i64 0]) w') : CALL PR F_disk_New [.int .i64 room] w R := by
  refine C_disk_New ?_
  unfold M_disk_New
  by_cases h1 : room < 16
  · (repeat refine gg ?_)
    exact hR0 (.inl h1)
  by_cases h2 : 1048576 < room
  · (repeat refine gg ?_)
    exact hR0 (.inr h2)
  (repeat refine gg ?_)
  refine NEWMAP_intro fun w1 b1 f1 z1 => ?_
  (repeat (first | refine gg ?_ | (apply BND_build ([.int .i64 room, .map (some (hsz w)), .slice none 0 0, .int .i64 (-1), .bool false]); exact rfl)))
  refine NEW_intro fun w2 b2 f2 z2 => ?_
  (repeat refine gg ?_)
  have hd : (dirHP [] (hsz w) []).p w2 [hsz w] := ⟨⟨#[], 0, [], by rw [f2.keep _ (by omega) (by simp), b1], ⟨⟨rfl, .nil⟩, by simp, by simp⟩, by simp [dirL]⟩, rfl⟩
  refine hR (by omega) w2 (hsz w1) (dk_shut (sv := .slice none 0 0) (ms := [hsz w]) (fb := []) ⟨[hsz w1, hsz w], ?_, fun b hb => ?_, f1.trans' f2⟩)
  · refine ⟨[], _, ⟨⟨rfl, rfl⟩, rfl⟩, ⟨[hsz w1], [hsz w], ⟨⟨_, b2⟩, rfl⟩, ⟨[], [hsz w], Slc.nil _ _ _, ⟨[hsz w], [], ⟨[hsz w], [], hd, ⟨trivial, rfl⟩, rfl, by simp⟩, ⟨[], [], ⟨trivial, rfl⟩, ⟨trivial, rfl⟩, rfl, by simp⟩, rfl, by simp⟩, rfl, by simp⟩, rfl, ?_⟩, rfl, by simp⟩
    intro b hb hb'
    simp at hb hb'
    omega
  · simp at hb
    right; omega
end
end Go.Proofs.YtpclfkjbhlekaaaDoor
end

section
namespace Go.Proofs.YtpclfkjbhlekaaaDoor
open Go.Den Go.Nm Go.Disk Go.Rec Go.RowKit Go.Shelf Sort64
theorem wf_e100 : (empty 100).Wf := by constructor <;> simp [empty, riseD]
theorem ptr_nilb {d : Nat} : binv .ptr .eql (ptrTo d) (.pointer none) = some (.bool false) := rfl
theorem create_e100 {n : ByteArray} (h : named n = true) : (create (empty 100) n).2 = 0 := by
  have e1 : createE (empty 100) n = 0 := by
    unfold createE
    rw [if_neg (by rw [h]; decide)]
    rfl
  unfold create can
  rw [e1]
  rfl
set_option linter.unusedSimpArgs false
set_option linter.unusedVariables false
set_option maxRecDepth 20000
set_option maxHeartbeats 4000000
attribute [local congr] BND_cg COND_cg GEF_cg
attribute [local irreducible] capl slicea load1 loadn iaddr iaddra faddr storev newslice binv lookv mupd mdel mlenv mentry mestore slicev slicev3 slices indexs indexav textv rangev nexts clearv shiftv eqaggv convi buildv pickv lens lenl unv nilchk extractv partn JOIN
section
variable {w : World} {R : Value → World → Prop}
theorem nm_Back (hT : Tab w) (hE : Errs w) (k : UInt8) (n : Nat) (hn : n < 18446744073709551616) (s : ByteArray) (hR : ∀ w', Fr [] w w' → R (.bool true) w') : CALL PR F_tumbrellaw14_NameBack [.int .u8 (k.toNat : Int), .int .u64 (n : Int), .string s] w R := by
  refine C_tumbrellaw14_NameBack ?_
  unfold M_tumbrellaw14_NameBack
  refine nm_awake hT hE fun w1 f1 => ?_
  (repeat refine gg ?_)
  refine large_one fun w3 f3 => ?_
  have f03 := f1.trans' f3
  cases hl1 : largeN [s] with
  | true => (repeat refine gg ?_); exact hR _ f03
  | false =>
    have hs := (largeN_no hl1).2 s (by simp)
    (repeat refine gg ?_)
    refine name_Of (hT.fr f03) k n hn fun w4 f4 => ?_
    have f04 := f03.trans' f4
    have fin : ∀ w5, Fr [] w w5 → CALL PR F_name_Read [.string s] w5 fun t66_47 w6 =>
        BND (extractv t66_47 0) fun t67_48 => BND (extractv t66_47 1) fun t68_49 => BND (extractv t66_47 2) fun t69_50 => BND (unv .not t69_50) fun t71_51 => COND t71_51
          (BND (binv .int .eql t67_48 (Value.int .u8 0)) fun t73_52 => BND (grd (isB t73_52 true) (some t68_49)) fun t75_53 => BND (grd (isB t73_52 true) (binv .int .eql t75_53 (Value.int .u64 0))) fun t76_54 => BND (pickv t73_52 t76_54 (Value.bool false)) fun t77_55 => R t77_55 w6)
          (CALL PR F_name_Of [t67_48, t68_49] w6 fun t81_56 w7 => BND (extractv t81_56 0) fun t82_57 => BND (extractv t81_56 1) fun t83_58 => BND (binv .int .eql t83_58 (Value.int .i64 0)) fun t85_59 => BND (grd (isB t85_59 true) (some t82_57)) fun t87_60 =>
            BND (grd (isB t85_59 true) (some (.string s))) fun t88_61 => BND (grd (isB t85_59 true) (binv .str .eql t87_60 t88_61)) fun t89_62 => BND (pickv t85_59 t89_62 (Value.bool false)) fun t90_63 => R t90_63 w7) := by
      intro w5 f05
      refine nm_Read (hT.fr f05) (hE.fr f05) s (by omega) fun w6 f6 => ?_
      have f06 := f05.trans' f6
      cases hb : (Nm.readN s).2.2 with
      | false =>
        have e : Nm.readN s = (0, 0, false) := by
          unfold Nm.readN at hb ⊢
          split at hb
          · cases hb
          · rename_i h; rw [if_neg h]
        rw [e]
        have z0 : ((UInt8.toNat 0 : Nat) : Int) = 0 := rfl
        (repeat refine gg ?_)
        exact hR _ f06
      | true =>
        obtain ⟨q1, q2⟩ := readN_is hb
        have hm := ok_small q1
        (repeat refine gg ?_)
        refine name_Of (hT.fr f06) (Nm.readN s).1 (Nm.readN s).2.1 (by omega) fun w7 f7 => ?_
        rw [nameOf_ok q1, q2]
        (repeat refine gg ?_)
        exact hR _ (f06.trans' f7)
    cases ho : okN k n with
    | false =>
      rw [nameOf_no ho]
      (repeat refine gg ?_)
      refine join_w (fun w' => Fr [] w w') (fun K hK => ?_) fun w5 f05 => fin w5 f05
      (repeat refine gg ?_)
      exact hK _ f04
    | true =>
      rw [nameOf_ok ho]
      (repeat refine gg ?_)
      refine join_w (fun w' => Fr [] w w') (fun K hK => ?_) fun w5 f05 => fin w5 f05
      have hnm := nmB_named ho
      (repeat refine gg ?_)
      refine nm_Read (hT.fr f04) (hE.fr f04) (nmB k n) (by omega) fun w8 f8 => ?_
      rw [readN_nm ho]
      have f08 := f04.trans' f8
      (repeat refine gg ?_)
      refine dk_New 100 (fun h => by omega) fun _ w9 d hd => ?_
      (repeat refine gg ?_)
      refine BND_step (v := .bool false) ptr_nilb ?_
      (repeat refine gg ?_)
      refine dk_Create hd wf_e100 (by simp [empty]) (nmB k n) fun w10 h10 => ?_
      rw [create_e100 hnm.1]
      (repeat refine gg ?_)
      exact hK _ (f08.trans' h10.frame)
end
end Go.Proofs.YtpclfkjbhlekaaaDoor
end

section
namespace Go.Proofs.YtpclfkjbhlekaaaDoor
open Go.Den Go.Nm Sort64
open Go.ChangeShapes Go.WideShapes Go.ChangeAt Go.RowKit
set_option linter.unusedVariables false
theorem okWide_array {P : Program} {w : World} {r : Reach} {base n : Nat} {t e : TypeId} {v : Value} (ht : P.underlying t = some (.array n e)) (h : Value.okWide P w r base t v) : ∃ cs, v = .agg cs ∧ cs.size = P.cellsOf t := by
  simp only [Value.okWide, ht] at h
  obtain ⟨cs, h1, h2, _⟩ := h
  exact ⟨cs, h1, h2⟩
theorem trod_array2 {H : Type} {enc : TypeId × Value → H} {P : Program} {w : World} {base : Nat} {spare : Nat → Bool} {held : Bool} {fuel : Nat} {t e : TypeId} {k : IntKind} {cs : List Value} {x : DataW H × List MemPlace}
    (ht : P.underlying t = some (.array 2 e)) (hct : P.cellsOf t = 2) (hce : P.cellsOf e = 1) (he : P.underlying e = some (.int k)) (h : DataW.trod enc P w base spare held fuel t cs = some x) :
    ∃ a b : Int, cs = [.int k a, .int k b] ∧ (Lit.int k a).wf = true ∧ (Lit.int k b).wf = true := by
  obtain ⟨xs, m, _, _, hl, hlen, hf⟩ := DataW.trod_array ht h
  rw [hct] at hl
  match cs, hl, xs, hlen with
  | [u0, u1], _, [y0, y1], _ =>
    have h0 := hf 0 (by omega)
    have h1 := hf 1 (by omega)
    simp only [hce, Nat.zero_mul, Nat.one_mul, List.drop_zero, List.take_succ_cons, List.take_zero, List.drop_succ_cons] at h0 h1
    obtain ⟨a, e0, _, q0⟩ := DataW.trod_int he h0
    obtain ⟨b, e1, _, q1⟩ := DataW.trod_int he h1
    simp only [List.cons.injEq, and_true] at e0 e1
    subst e0; subst e1
    exact ⟨a, b, rfl, q0, q1⟩
theorem tabl_at {l : List (String × DataW Unit)} {w : World} (i : Nat) (hp : (l.all fun x => x.2.handleName?.isNone) = true) (hi : l[i]? = some (tabN, Lib.tabData .u64 Lib.pow10Tab)) (h : laidMetH PR l w) : Tab w :=
  tab_of (t := 93) (e := 22) hp (List.mem_of_getElem? hi) (by kernel_rfl) Tryd.underlying93 Tryd.underlying22 (by kernel_rfl) (by kernel_rfl) h
theorem sent_star : "*" ++ "errors.errorString" = "*errors.errorString" := by decide
theorem sent_row (u : TypeId) (h : PR.typeName? 3 u = some "*errors.errorString") : u = 108 :=
  typeName_ptr_named (nm := "errors.errorString") (by rw [sent_star]; kernel_rfl) (by kernel_rfl) (by decide) u (by rw [sent_star]; exact h)
theorem sent_of {n : String} {g : Nat} {text : List UInt8} {r : List (String × DataW Unit)} {W : World} (h : laidMet PR ((n, .iface "*errors.errorString" (.ptr (.agg [.lit (.string text)]))) :: r) W)
    (hg : PR.globalNamed n = some g) (ht : (PR.globals[g]?).map (·.type) = some 48) : Sent n W := by
  obtain ⟨a, s, hv, _⟩ := laid_sentinel h hg ht Tryd.underlying48 sent_row Tryd.underlying108 Tryd.underlying110 rfl rfl Tryd.underlying9 (by kernel_rfl) (by kernel_rfl)
  unfold World.var? at hv
  rw [hg] at hv
  simp only [Option.bind_some] at hv
  split at hv
  · rename_i cs T f hb
    cases hv
    exact ⟨g, T, f, _, _, hg, hb⟩
  · cases hv
noncomputable def gOf (n : String) : Nat := (PR.globalNamed n).getD 0
theorem gOf_named {n : String} (h : (PR.globalNamed n).isSome = true) : PR.globalNamed n = some (gOf n) := by
  unfold gOf
  cases e : PR.globalNamed n with
  | none => rw [e] at h; cases h
  | some g => rfl
theorem errs_of {a b c : String × DataW Unit} {t1 t2 : List UInt8} {W : World} (hp : (([a, b, c, ("strconv.ErrRange", .iface "*errors.errorString" (.ptr (.agg [.lit (.string t1)]))), ("strconv.ErrSyntax", .iface "*errors.errorString" (.ptr (.agg [.lit (.string t2)])))] : List (String × DataW Unit)).all fun x => x.2.handleName?.isNone) = true)
    (h : laidMetH PR [a, b, c, ("strconv.ErrRange", .iface "*errors.errorString" (.ptr (.agg [.lit (.string t1)]))), ("strconv.ErrSyntax", .iface "*errors.errorString" (.ptr (.agg [.lit (.string t2)])))] W) : Errs W := by
  rw [MakeChecks.laidMetH_plain _ _ _ hp] at h
  have h3 := h.tail.tail.tail
  exact ⟨sent_of h3.tail (gOf_named (by kernel_rfl)) (by kernel_rfl), sent_of h3 (gOf_named (by kernel_rfl)) (by kernel_rfl)⟩
section
variable {H : Type} {enc : TypeId × Value → H} {w : World}
def OkT (s : ByteArray) : Prop := s.size ≤ 9223372036854775807
theorem str_dec (fuel : Nat) (cs : List Value) (y : DataW H × List MemPlace) (h : DataW.trod enc Tryd.prog w 0 (fun _ => true) true fuel 9 cs = some y) : ∃ x : ByteArray, cs = encT x ∧ OkT x := by
  obtain ⟨s, e, _, q⟩ := DataW.trod_string Tryd.underlying9 h
  exact ⟨s, e, q⟩
theorem arr2a_dec (fuel : Nat) (cs : List Value) (y : DataW H × List MemPlace) (h : DataW.trod enc Tryd.prog w 0 (fun _ => true) true fuel 35 cs = some y) : ∃ a b : Int, cs = [.int .u8 a, .int .u8 b] ∧ (Lit.int .u8 a).wf = true ∧ (Lit.int .u8 b).wf = true :=
  trod_array2 Tryd.underlying35 (by kernel_rfl) (by kernel_rfl) Tryd.underlying5 h
theorem arr2b_dec (fuel : Nat) (cs : List Value) (y : DataW H × List MemPlace) (h : DataW.trod enc Tryd.prog w 0 (fun _ => true) true fuel 36 cs = some y) : ∃ a b : Int, cs = [.int .u64 a, .int .u64 b] ∧ (Lit.int .u64 a).wf = true ∧ (Lit.int .u64 b).wf = true :=
  trod_array2 Tryd.underlying36 (by kernel_rfl) (by kernel_rfl) Tryd.underlying22 h
theorem u64_nat {x : Int} (h : (Lit.int .u64 x).wf = true) : ∃ n : Nat, x = (n : Int) ∧ n < 18446744073709551616 := by
  have := h
  simp [Lit.wf, IntKind.min, IntKind.max, IntKind.signed, IntKind.bits] at this
  exact ⟨x.toNat, by omega, by omega⟩
theorem u8_byte {x : Int} (h : (Lit.int .u8 x).wf = true) : ∃ c : UInt8, x = (c.toNat : Int) := by
  have := h
  simp [Lit.wf, IntKind.min, IntKind.max, IntKind.signed, IntKind.bits] at this
  refine ⟨UInt8.ofNat x.toNat, ?_⟩
  rw [UInt8.toNat_ofNat']
  omega
variable {R : Value → World → Prop}
theorem nm_TellsI (hT : Tab w) (hE : Errs w) {k n : Int} (hk : (Lit.int .u8 k).wf = true) (hn : (Lit.int .u64 n).wf = true) (s : ByteArray) {lv : Value} {l : List ByteArray} (ha : Arr encT 1 w lv l) (hR : ∀ w', Fr [] w w' → R (.bool true) w') :
    CALL PR F_tumbrellaw14_NameTells [.int .u8 k, .int .u64 n, .string s, lv] w R := by
  obtain ⟨c, rfl⟩ := u8_byte hk
  obtain ⟨m, rfl, hm⟩ := u64_nat hn
  exact nm_Tells hT hE c m hm s ha hR
theorem nm_UnlikeI (hT : Tab w) (hE : Errs w) {k0 k1 n0 n1 : Int} (hk0 : (Lit.int .u8 k0).wf = true) (hk1 : (Lit.int .u8 k1).wf = true) (hn0 : (Lit.int .u64 n0).wf = true) (hn1 : (Lit.int .u64 n1).wf = true) {lv : Value} {l : List ByteArray} (ha : Arr encT 1 w lv l) (hR : ∀ w', Fr [] w w' → R (.bool true) w') :
    CALL PR F_tumbrellaw14_NameUnlike [.agg #[.int .u8 k0, .int .u8 k1], .agg #[.int .u64 n0, .int .u64 n1], lv] w R := by
  obtain ⟨c0, rfl⟩ := u8_byte hk0
  obtain ⟨c1, rfl⟩ := u8_byte hk1
  obtain ⟨m0, rfl, h0⟩ := u64_nat hn0
  obtain ⟨m1, rfl, h1⟩ := u64_nat hn1
  exact nm_Unlike hT hE c0 c1 m0 m1 h0 h1 ha hR
theorem nm_BackI (hT : Tab w) (hE : Errs w) {k n : Int} (hk : (Lit.int .u8 k).wf = true) (hn : (Lit.int .u64 n).wf = true) (s : ByteArray) (hR : ∀ w', Fr [] w w' → R (.bool true) w') : CALL PR F_tumbrellaw14_NameBack [.int .u8 k, .int .u64 n, .string s] w R := by
  obtain ⟨c, rfl⟩ := u8_byte hk
  obtain ⟨m, rfl, hm⟩ := u64_nat hn
  exact nm_Back hT hE c m hm s hR
end
end Go.Proofs.YtpclfkjbhlekaaaDoor
end
