
/- Names of files by letter and number, walked. Conditions: the table of the powers of ten is laid; a number is one of 64 bits. -/
import Derived.Test.YtmefbneoljpbgaaGreatDoorTab
import Derived.Test.YtmefbneoljpbgaaGreatDoorNameP
import Derived.Test.YtmefbneoljpbgaaGreatDoorRec
import Derived.Test.YtmefbneoljpbgaaGreatDoorShelf
import Derived.Lib.ItoaMem
import Derived.Test.YtmefbneoljpbgaaGreatDoorMa
namespace Go.Proofs.YtmefbneoljpbgaaGreatDoor
open Go.Den Go.Nm Go.Disk Go.Crc Go.Frame Go.Rec
def encC (b : UInt8) : Value := .int .u8 (b.toNat : Int)
theorem slicea_upto {len b k : Nat} (h : k ≤ len) : slicea len 1 (.pointer (some ⟨b, 0, none⟩)) none (some (.int .i64 (k : Int))) none = some (.slice (some ⟨b, 0, none⟩) k len) := by
  unfold slicea
  simp only [natOf]
  simp [h]
  intro _
  simp [Addr.add]
theorem putRow_blk {w : World} {b n : Nat} {c : Array Value} {T : Nat} (dk : Array UInt8) (h : blk w b = some (.cells c T (0, 0))) :
    blk ((Go.Sort.putRow encC w b 0 dk).drewN n) b = some (.cells (Go.Sort.putCells encC 0 dk c) T (0, 0)) ∧ (∀ i, i ≠ b → blk ((Go.Sort.putRow encC w b 0 dk).drewN n) i = blk w i) ∧ Fr [b] w ((Go.Sort.putRow encC w b 0 dk).drewN n) := by
  have h' : w.heap[b]? = some (.cells c T (0, 0)) := h
  have hh : ((Go.Sort.putRow encC w b 0 dk).drewN n).heap = w.heap.modify b (Go.Sort.onCells (Go.Sort.putCells encC 0 dk)) := rfl
  have h2 : ∀ i, i ≠ b → blk ((Go.Sort.putRow encC w b 0 dk).drewN n) i = blk w i := fun i hi => by
    unfold blk
    rw [hh, Array.getElem?_modify]
    rw [if_neg (fun e => hi e.symm)]
  refine ⟨?_, h2, ?_⟩
  · unfold blk
    rw [hh, Array.getElem?_modify, if_pos rfl, h']
    rfl
  · exact ⟨by unfold hsz; rw [hh]; simp, fun i _ hi => h2 i (by simpa using hi), rfl, rfl, rfl⟩
theorem conv32 (k : UInt8) : convi .i32 (.int .u8 (k.toNat : Int)) = some (.int .i32 (k.toNat : Int)) := by
  have := k.toNat_lt
  have e : ((k.toNat : Int) + 2147483648) % 4294967296 - 2147483648 = k.toNat := by omega
  simp only [convi]
  rw [IntKind.wrap_i32, e]
theorem cat_ {x y : ByteArray} (h : x.size + y.size < 1000000) : binv .str .add (.string x) (.string y) = some (.string (x ++ y)) := by
  have e : binv .str .add (.string x) (.string y) = bins .add x y := rfl
  have m : IntKind.i64.max = 9223372036854775807 := by decide
  rw [e]
  unfold bins
  simp only
  rw [m, if_neg (by omega)]
theorem arr_size (l : List UInt8) : (ByteArray.mk l.toArray).size = l.length := by show l.toArray.size = _; simp
set_option linter.unusedSimpArgs false
set_option linter.unusedVariables false
set_option maxRecDepth 20000
set_option maxHeartbeats 4000000
attribute [local congr] BND_cg COND_cg GEF_cg
attribute [local irreducible] capl slicea load1 loadn iaddr iaddra faddr storev newslice binv lookv mupd mdel mlenv mentry mestore slicev slicev3 slices indexs indexav textv rangev nexts clearv shiftv eqaggv convi buildv pickv lens lenl unv nilchk extractv partn JOIN
section
variable {w : World} {R : Value → World → Prop}
theorem st_small (i : Nat) (h : i < 100) (hR : R (.string ⟨(Lib.decDigits i).toArray⟩) w) : CALL PR F_internal_strconv_small [.int .i64 i] w R :=
  ⟨(Tryz.internal_strconv_small i h w).mono fun e w1 ⟨he, hw⟩ => ⟨_, he, by rw [hw]; exact hR⟩⟩
theorem st_digits (hT : Tab w) (u : Nat) (h1 : 1 ≤ u) (h2 : u < 18446744073709551616) (hR : R (.int .i64 (Lib.nDigits u)) w) : CALL PR F_internal_strconv_numDigits [.int .u64 u] w R :=
  ⟨(Tryz.internal_strconv_numDigits u h1 h2 w hT.is).mono fun e w1 ⟨he, hw⟩ => ⟨_, he, by rw [hw]; exact hR⟩⟩
theorem st_index (s : ByteArray) (c : Int) (hR : R (.int .i64 (Lib.indexByte s.data.toList c.toNat.toUInt8)) w) : CALL PR F_strings_IndexByte [.string s, .int .u8 c] w R :=
  ⟨(Tryz.strings_IndexByte s c w).mono fun e w1 ⟨he, hw⟩ => ⟨_, he, by rw [hw]; exact hR⟩⟩
theorem st_base {b T cap u nd : Nat} {c : Array Value} (hb : blk w b = some (.cells c T (0, 0))) (hc : ∀ j, j < nd → c[j]? = some (.int .u8 0)) (hu : u < 10 ^ nd) (hu64 : u < 18446744073709551616) (hnd : nd < 1000)
    (hR : ∀ w' (dk : Array UInt8) v, blk w' b = some (.cells (Go.Sort.putCells encC 0 dk c) T (0, 0)) → Lib.FmtInv nd u 0 v dk → Fr [b] w w' → R (.tuple #[]) w') :
    CALL PR F_internal_strconv_formatBase10 [.slice (some ⟨b, 0, none⟩) nd cap, .int .u64 u] w R := by
  have hs : (Array.replicate nd (0 : UInt8)).size = nd := Array.size_replicate
  have hh : Go.Sort.Holds (fun (b : UInt8) => Value.int .u8 (b.toNat : Int)) w b 0 (Array.replicate nd (0 : UInt8)) := fun j hj => by
    rw [hs] at hj
    refine ⟨?_, ?_⟩
    · rw [cell?_blk hb, Nat.zero_add, hc j hj, getElem!_pos _ j (by rw [hs]; exact hj)]
      simp
    · have h' : w.heap[b]? = some (.cells c T (0, 0)) := hb
      simp [World.frozen?, h']
  have := Tryz.internal_strconv_formatBase10 b 0 cap u (Array.replicate nd (0 : UInt8)) w hh (by rw [hs]; exact hu) hu64 (by rw [hs]; omega)
  rw [hs] at this
  refine ⟨this.mono fun e w1 ⟨he, n, v, dk, hw, hI⟩ => ⟨_, he, ?_⟩⟩
  obtain ⟨q1, _, q3⟩ := putRow_blk (n := n) dk hb
  rw [hw]
  exact hR _ dk v q1 hI q3
theorem st_FormatUint (hT : Tab w) (u : Nat) (hu : u < 18446744073709551616) (hR : ∀ w', Fr [] w w' → R (.string ⟨(Lib.decDigits u).toArray⟩) w') : CALL PR F_strconv_FormatUint [.int .u64 u, .int .i64 10] w R := by
  refine C_strconv_FormatUint ?_
  unfold M_strconv_FormatUint
  refine C_internal_strconv_FormatUint ?_
  unfold M_internal_strconv_FormatUint
  (repeat (first | refine stp ?_ | (apply BND_inc; omega) | (apply BND_dec; omega) | refine BND_step (rfl : some _ = some _) ?_ | (apply cyes; first | assumption | omega) | (apply cno; first | assumption | omega) | refine (COND_true _ _).2 ?_ | refine (COND_false _ _).2 ?_ | simp (disch := first | assumption | omega) only [gs1, gs2, decide_true, decide_false, eq_self, beq_self_eq_true, Bool.not_true, Bool.not_false]))
  by_cases h1 : u < 100
  · (repeat (first | refine BND_step (convi64 (k := .u64) (x := u) (by omega)) ?_ | refine stp ?_ | (apply BND_inc; omega) | (apply BND_dec; omega) | refine BND_step (rfl : some _ = some _) ?_ | (apply cyes; first | assumption | omega) | (apply cno; first | assumption | omega) | refine (COND_true _ _).2 ?_ | refine (COND_false _ _).2 ?_ | simp (disch := first | assumption | omega) only [gs1, gs2, decide_true, decide_false, eq_self, beq_self_eq_true, Bool.not_true, Bool.not_false]))
    refine st_small u h1 ?_
    exact hR _ (Fr.refl _ _)
  · (repeat (first | refine stp ?_ | (apply BND_inc; omega) | (apply BND_dec; omega) | refine BND_step (rfl : some _ = some _) ?_ | (apply cyes; first | assumption | omega) | (apply cno; first | assumption | omega) | refine (COND_true _ _).2 ?_ | refine (COND_false _ _).2 ?_ | simp (disch := first | assumption | omega) only [gs1, gs2, decide_true, decide_false, eq_self, beq_self_eq_true, Bool.not_true, Bool.not_false]))
    refine NEW_intro fun w1 b1 f1 z1 => ?_
    have hnd := Lib.numDigits_eq u (by omega) hu
    have h20 : Lib.nDigits u ≤ 20 := by split at hnd <;> omega
    refine st_digits (hT.fr f1) u (by omega) hu ?_
    have hlt : u < 10 ^ Lib.nDigits u := by
      have := Lib.lt_pow_nDigits u
      exact this
    (repeat (first | refine BND_step (slicea_upto (len := 24) (b := hsz w) (k := Lib.nDigits u) (by omega)) ?_ | refine stp ?_ | (apply BND_inc; omega) | (apply BND_dec; omega) | refine BND_step (rfl : some _ = some _) ?_ | (apply cyes; first | assumption | omega) | (apply cno; first | assumption | omega) | refine (COND_true _ _).2 ?_ | refine (COND_false _ _).2 ?_ | simp (disch := first | assumption | omega) only [gs1, gs2, decide_true, decide_false, eq_self, beq_self_eq_true, Bool.not_true, Bool.not_false]))
    replace b1 : blk w1 (hsz w) = some (.cells (Array.replicate 24 (.int .u8 0)) 176 (0, 0)) := b1
    refine st_base b1 (fun j hj => ?_) hlt hu (by omega) fun w2 dk v b2 hI f2 => ?_
    · rw [Array.getElem?_replicate, if_pos (by omega)]
    · have ar : Arr encB 1 w2 (.slice (some ⟨hsz w, 0, none⟩) (Lib.nDigits u) 24) (Lib.decDigits u) := by
        refine ⟨_, 24, by rw [Lib.decDigits_length], .inr ⟨hsz w, 0, _, _, _, rfl, b2, fun i x hx => ?_⟩⟩
        have hi := (List.getElem?_eq_some_iff.1 hx).1
        have hx' := (List.getElem?_eq_some_iff.1 hx).2
        have hl := Lib.decDigits_length u
        have hsz' : (Go.Sort.putCells encC 0 dk (Array.replicate 24 (.int .u8 0))).size = 24 := by simp [Go.Sort.putCells]
        refine ⟨by omega, fun j hj => ?_⟩
        obtain rfl : j = 0 := by omega
        have hd := hI.size
        have hr := Lib.row_is_numeral hI i (by omega)
        rw [Array.getElem?_eq_getElem (by omega)]
        simp only [Go.Sort.putCells, Array.getElem_mapIdx, Nat.zero_add, Nat.mul_one, Nat.add_zero, Nat.zero_le, true_and, Nat.sub_zero]
        rw [if_pos (by omega), ← hr, hx']
        rfl
      (repeat (first | refine BND_step (slicea_upto (len := 24) (b := hsz w) (k := Lib.nDigits u) (by omega)) ?_ | refine BND_step (textB ar) ?_ | refine stp ?_ | (apply BND_inc; omega) | (apply BND_dec; omega) | refine BND_step (rfl : some _ = some _) ?_ | (apply cyes; first | assumption | omega) | (apply cno; first | assumption | omega) | refine (COND_true _ _).2 ?_ | refine (COND_false _ _).2 ?_ | simp (disch := first | assumption | omega) only [gs1, gs2, decide_true, decide_false, eq_self, beq_self_eq_true, Bool.not_true, Bool.not_false]))
      refine hR _ (f1.trans f2 fun b hb => .inr (by simp at hb; omega))
theorem idx_kinds (k : UInt8) : (Lib.indexByte [109, 101, 115] k < 0) ↔ kindN k = false := by
  unfold kindN
  by_cases h1 : k = 109
  · subst h1; decide
  · by_cases h2 : k = 101
    · subst h2; decide
    · by_cases h3 : k = 115
      · subst h3; decide
      · have e : Lib.indexByte [109, 101, 115] k = -1 := by
          have a1 : ((109 : UInt8) == k) = false := by simpa using fun e => h1 e.symm
          have a2 : ((101 : UInt8) == k) = false := by simpa using fun e => h2 e.symm
          have a3 : ((115 : UInt8) == k) = false := by simpa using fun e => h3 e.symm
          simp [Lib.indexByte, a1, a2, a3]
        rw [e]
        simp [h1, h2, h3]
theorem rune_kind {k : UInt8} (h : kindN k = true) : runev (.int .i32 (k.toNat : Int)) = some (.string ⟨#[k]⟩) := by
  unfold kindN at h
  simp only [Bool.or_eq_true, decide_eq_true_eq] at h
  rcases h with (rfl | rfl) | rfl
  · exact congrArg (fun x => some (Value.string x)) (by decide +kernel : Utf8.encode ((109 : UInt8).toNat : Int) = ⟨#[109]⟩)
  · exact congrArg (fun x => some (Value.string x)) (by decide +kernel : Utf8.encode ((101 : UInt8).toNat : Int) = ⟨#[101]⟩)
  · exact congrArg (fun x => some (Value.string x)) (by decide +kernel : Utf8.encode ((115 : UInt8).toNat : Int) = ⟨#[115]⟩)
theorem name_Of (hT : Tab w) (k : UInt8) (n : Nat) (hn : n < 18446744073709551616) (hR : ∀ w', Fr [] w w' → R (.tuple #[.string (nameOf k n).1, .int .i64 (nameOf k n).2]) w') : CALL PR F_name_Of [.int .u8 (k.toNat : Int), .int .u64 (n : Int)] w R := by
  refine C_name_Of ?_
  unfold M_name_Of
  refine st_index _ _ ?_
  have hk : ((k.toNat : Int)).toNat.toUInt8 = k := by simp
  rw [hk]
  have hi := idx_kinds k
  unfold nameOf okN at hR
  generalize hx : Lib.indexByte (ByteArray.data ⟨#[109, 101, 115]⟩).toList k = x at *
  obtain ⟨L, hL⟩ : ∃ L : Int, L = 10000000000 := ⟨_, rfl⟩
  rw [← hL]
  cases hb : kindN k with
  | false =>
    have := hi.2 hb
    rw [hb] at hR
    (repeat (first | refine stp ?_ | (apply BND_inc; omega) | (apply BND_dec; omega) | refine BND_step (rfl : some _ = some _) ?_ | (apply cyes; first | assumption | omega) | (apply cno; first | assumption | omega) | refine (COND_true _ _).2 ?_ | refine (COND_false _ _).2 ?_ | simp (disch := first | assumption | omega) only [gs1, gs2, decide_true, decide_false, eq_self, beq_self_eq_true, Bool.not_true, Bool.not_false]))
    exact hR _ (Fr.refl _ _)
  | true =>
    have : ¬ x < 0 := fun h => by rw [hi.1 h] at hb; cases hb
    rw [hb] at hR
    by_cases hm : (n : Int) < L
    · have ec1 := cat_ (x := ⟨#[k]⟩) (y := ⟨#[46]⟩) (by show 1 + 1 < 1000000; omega)
      (repeat (first | refine BND_step (conv32 k) ?_ | refine BND_step (rune_kind hb) ?_ | refine BND_step ec1 ?_ | refine stp ?_ | (apply BND_inc; omega) | (apply BND_dec; omega) | refine BND_step (rfl : some _ = some _) ?_ | (apply cyes; first | assumption | omega) | (apply cno; first | assumption | omega) | refine (COND_true _ _).2 ?_ | refine (COND_false _ _).2 ?_ | simp (disch := first | assumption | omega) only [gs1, gs2, decide_true, decide_false, eq_self, beq_self_eq_true, Bool.not_true, Bool.not_false]))
      refine st_FormatUint hT n hn fun w2 f2 => ?_
      have hsz9 := (dec_len 19 n (by omega)).1
      have ec := cat_ (x := ⟨#[k]⟩ ++ ⟨#[46]⟩) (y := ⟨(Lib.decDigits n).toArray⟩) (by rw [ByteArray.size_append, arr_size (Lib.decDigits n)]; show 1 + 1 + _ < 1000000; omega)
      (repeat (first | refine BND_step ec ?_ | refine stp ?_ | (apply BND_inc; omega) | (apply BND_dec; omega) | refine BND_step (rfl : some _ = some _) ?_ | (apply cyes; first | assumption | omega) | (apply cno; first | assumption | omega) | refine (COND_true _ _).2 ?_ | refine (COND_false _ _).2 ?_ | simp (disch := first | assumption | omega) only [gs1, gs2, decide_true, decide_false, eq_self, beq_self_eq_true, Bool.not_true, Bool.not_false]))
      rw [decide_eq_true (show n < 10000000000 by omega)] at hR
      have e : (ByteArray.mk #[k] ++ ByteArray.mk #[46]) ++ ByteArray.mk (Lib.decDigits n).toArray = nmB k n := by
        refine ByteArray.ext (Array.ext' ?_)
        simp [nmB, nmL]
      have := hR w2 f2
      simp only [Bool.and_true, if_true] at this
      rw [← e] at this
      exact this
    · (repeat (first | refine stp ?_ | (apply BND_inc; omega) | (apply BND_dec; omega) | refine BND_step (rfl : some _ = some _) ?_ | (apply cyes; first | assumption | omega) | (apply cno; first | assumption | omega) | refine (COND_true _ _).2 ?_ | refine (COND_false _ _).2 ?_ | simp (disch := first | assumption | omega) only [gs1, gs2, decide_true, decide_false, eq_self, beq_self_eq_true, Bool.not_true, Bool.not_false]))
      rw [decide_eq_false (show ¬ n < 10000000000 by omega)] at hR
      exact hR _ (Fr.refl _ _)
end
end Go.Proofs.YtmefbneoljpbgaaGreatDoor
