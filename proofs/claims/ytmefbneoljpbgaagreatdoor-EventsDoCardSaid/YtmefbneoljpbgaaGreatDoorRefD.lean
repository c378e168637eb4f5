
/- The document's records, walked: which may be, their bytes, and back. Conditions: numbers are of 64 bits; sizes. -/
import Derived.Test.YtmefbneoljpbgaaGreatDoorRec2
import Derived.Test.YtmefbneoljpbgaaGreatDoorRefB
import Derived.Test.YtmefbneoljpbgaaGreatDoorRefC
import Derived.Test.YtmefbneoljpbgaaGreatDoorMb
namespace Go.Proofs.YtmefbneoljpbgaaGreatDoor
open Go.Den Go.Disk Go.Vint Go.Crc Go.Frame Go.Rec
def encZ (x : Int) : List Value := [.int .i64 x]
theorem encZ_len (x : Int) : (encZ x).length = 1 := rfl
def manyI : List Int := [-1, 0, 5, 2, 1, 2, 2, 1, 1, 1, 1, 1, 5, 7, 10, 2, 1, 1]
def manyZ (k : Int) : Int := if 1 ≤ k ∧ k ≤ 17 then ((manyOf k.toNat : Nat) : Int) else -1
theorem many_get : ∀ k : Fin 18, manyI[k.val]? = some (manyZ (k.val : Int)) := by decide
theorem manyZ_known {k : Int} (h : knownB k = true) : manyZ k = ((manyOf k.toNat : Nat) : Int) := by
  unfold knownB at h
  simp only [Bool.and_eq_true, decide_eq_true_eq] at h
  unfold manyZ; rw [if_pos h]
theorem manyZ_not {k : Int} (h : knownB k = false) : manyZ k = -1 := by
  unfold knownB at h
  simp only [Bool.and_eq_false_iff, decide_eq_false_iff_not] at h
  unfold manyZ; rw [if_neg (by omega)]
theorem join_v2 {f : (Value → Value → World → Prop) → Prop} {k : Value → Value → World → Prop} (Q : Value → Value → World → Prop) (h : ∀ K, (∀ a b w', Q a b w' → K a b w') → f K) (hk : ∀ a b w', Q a b w' → k a b w') : JOIN f k := h k hk
theorem BYTES_step {E : Nat} {s : ByteArray} {w : World} {k : Value → World → Prop} (h : ∀ v w', Arr encB 1 w' v s.data.toList → Fr [] w w' → k v w') : BYTES E (.string s) w k := by
  refine ⟨s, rfl, fun c w' hc hh hr => ?_⟩
  have hl : s.data.toList.length = s.size := Array.length_toList
  refine h _ _ ⟨some ⟨hsz w', 0, none⟩, c, by rw [hl]; rfl, .inr ⟨_, 0, _, _, _, rfl, blk_alloc_new _ _, fun i x hx => ?_⟩⟩ ?_
  · have hi := (List.getElem?_eq_some_iff.1 hx).1
    rw [hl] at hi
    have hi' : i < s.data.size := hi
    refine ⟨by simp; omega, fun j hj => ?_⟩
    obtain rfl : j = 0 := by omega
    simp only [Nat.zero_add, Nat.mul_one, Nat.add_zero]
    rw [Array.getElem?_append_left (by simpa using hi'), Array.getElem?_map]
    have : s.data[i]? = some x := by rw [← Array.getElem?_toList]; exact hx
    rw [this]; rfl
  · refine ⟨by unfold hsz; rw [← hh]; simp, fun b hb _ => ?_, hr.1, hr.2.1, hr.2.2⟩
    have e : hsz w' = hsz w := by unfold hsz; rw [hh]
    rw [blk_alloc_old (by omega), heap_ext hh]
set_option linter.unusedSimpArgs false
set_option linter.unusedVariables false
set_option maxRecDepth 20000
set_option maxHeartbeats 4000000
attribute [local congr] BND_cg COND_cg GEF_cg
attribute [local irreducible] capl slicea load1 loadn iaddr iaddra faddr storev newslice binv lookv mupd mdel mlenv mentry mestore slicev slicev3 slices indexs indexav textv rangev nexts clearv shiftv eqaggv convi buildv pickv lens lenl unv nilchk extractv partn JOIN
section
variable {w : World} {R : Value → World → Prop}
theorem r5_many (k : Int) (hR : ∀ w', Fr [] w w' → R (.int .i64 (manyZ k)) w') : CALL PR F_tumbrelref05_many [.int .i64 k] w R := by
  refine C_tumbrelref05_many ?_
  unfold M_tumbrelref05_many
  refine newparts_step encZ_len (val := fun x : Int => Value.int .i64 x) (fun _ => rfl) manyI rfl rfl fun t w1 s1 f1 z1 => ?_
  by_cases h0 : k < 0
  · (repeat refine gg ?_)
    rw [manyZ, if_neg (by omega)] at hR
    exact hR _ f1
  · by_cases h17 : 17 < k
    · (repeat refine gg ?_)
      rw [manyZ, if_neg (by omega)] at hR
      exact hR _ f1
    · obtain ⟨n, rfl⟩ : ∃ n : Nat, k = (n : Int) := ⟨k.toNat, by omega⟩
      obtain ⟨b1, o1, i1, _, _, l1⟩ := s1.arr.spot (i := n) (many_get ⟨n, by omega⟩) rfl .i64
      (repeat (first | (apply BND_step; exact (l1 (w' := w1) rfl (j := 0) rfl)) | refine gg ?_))
      exact hR _ f1
theorem r5_texts (k : Int) (m : Nat) (hR : R (.bool (fitsB k m)) w) : CALL PR F_tumbrelref05_texts [.int .i64 k, .int .i64 (m : Int)] w R := by
  refine C_tumbrelref05_texts ?_
  unfold M_tumbrelref05_texts
  unfold fitsB wordedB at hR
  have e1 : decide ((m : Int) ≤ 64) = decide (m ≤ 64) := by rw [decide_eq_decide]; omega
  have e2 : decide ((m : Int) = 0) = decide (m = 0) := by rw [decide_eq_decide]; omega
  have e3 : (decide (m = 0) || decide (m ≤ 64)) = decide (m ≤ 64) := by by_cases h : m = 0 <;> simp [h]
  by_cases h1 : k = 10
  · (repeat refine gg ?_)
    simpa [h1, e1, e3] using hR
  · by_cases h2 : k = 11
    · (repeat refine gg ?_)
      simpa [h2, e1, e3] using hR
    · by_cases h3 : k = 16
      · (repeat refine gg ?_)
        simpa [h3, e1, e3] using hR
      · (repeat refine gg ?_)
        simpa [h1, h2, h3, e2] using hR
theorem r5_Right {nv : SV} {ns : List Nat} (k : Int) (t : ByteArray) (hn : Arr encU 1 w nv.v ns) (hR : ∀ w', Fr [] w w' → R (.bool (rightB k ns.length t.size)) w') : CALL PR F_tumbrelref05_Right [.agg (encRc (k, nv, t)).toArray] w R := by
  refine C_tumbrelref05_Right ?_
  unfold M_tumbrelref05_Right
  refine NEW_intro fun w1 b1 f1 z1 => ?_
  replace b1 : blk w1.drew (hsz w) = some (.cells (encRc (k, nv, t)).toArray 90 (0, 0)) := b1
  have f1d := f1.trans' (Fr.drew [] w1)
  unfold rightB at hR
  refine ⟨fun _ w' => blk w' (hsz w) = some (.cells (encRc (k, nv, t)).toArray 90 (0, 0)), b1, ?_⟩
  (repeat refine gg ?_)
  refine r5_many k fun w2 f2 => ?_
  have b2 := f2.some (by simp) b1
  refine ⟨b2, ?_⟩
  have f12 := f1d.trans' f2
  cases hk : knownB k with
  | false =>
    rw [hk, Bool.false_and, Bool.false_and] at hR
    rw [manyZ_not hk]
    (repeat refine gg ?_)
    refine ⟨undef, fun _ _ => rfl, ?_⟩
    (repeat refine gg ?_)
    refine ⟨b2, ?_⟩
    (repeat refine gg ?_)
    exact hR _ f12
  | true =>
    rw [hk, Bool.true_and] at hR
    rw [manyZ_known hk]
    (repeat (first | refine BND_step hn.len ?_ | refine gg ?_))
    refine r5_many k fun w3 f3 => ?_
    have b3 := f3.some (by simp) b2
    refine ⟨b3, ?_⟩
    rw [manyZ_known hk]
    have e : decide ((ns.length : Int) = ((manyOf k.toNat : Nat) : Int)) = decide (ns.length = manyOf k.toNat) := by rw [decide_eq_decide]; omega
    by_cases hm : ns.length = manyOf k.toNat
    · have hm' : (ns.length : Int) = ((manyOf k.toNat : Nat) : Int) := by omega
      rw [decide_eq_true hm, Bool.true_and] at hR
      (repeat refine gg ?_)
      refine r5_texts _ _ ?_
      (repeat refine gg ?_)
      exact hR _ (f12.trans' f3)
    · have hm' : ¬ (ns.length : Int) = ((manyOf k.toNat : Nat) : Int) := by omega
      rw [decide_eq_false hm, Bool.false_and] at hR
      (repeat refine gg ?_)
      exact hR _ (f12.trans' f3)
theorem r5_Bytes {nv : SV} {ns : List Nat} (k : Int) (t : ByteArray) (hn : Arr encU 1 w nv.v ns) (hs : ∀ n ∈ ns, n < 18446744073709551616) (hR0 : ∀ w', rightB k ns.length t.size = false → Fr [] w w' → R (.tuple #[.slice none 0 0, .int .i64 1]) w')
    (hR : ∀ w' v G, rightB k ns.length t.size = true → Slc encB 1 w' v (recB k.toNat ns t.data.toList) G → (∀ b ∈ G, hsz w ≤ b) → Fr [] w w' → R (.tuple #[v, .int .i64 0]) w') : CALL PR F_tumbrelref05_Bytes [.agg (encRc (k, nv, t)).toArray] w R := by
  refine C_tumbrelref05_Bytes ?_
  unfold M_tumbrelref05_Bytes
  have htl : t.data.toList.length = t.size := Array.length_toList
  refine NEW_intro fun w1 b1 f1 z1 => ?_
  replace b1 : blk w1 (hsz w) = some (.cells (encRc (k, nv, t)).toArray 90 (0, 0)) := b1
  (repeat (first | refine BND_step (loadn_all' b1 rfl) ?_ | refine gg ?_))
  refine r5_Right k t (hn.fr f1 (by simp)) fun w2 f2 => ?_
  have f02 := f1.trans' f2
  have b2 := f2.some (by simp) b1
  replace b2 : blk w2.drew (hsz w) = some (.cells (encRc (k, nv, t)).toArray 90 (0, 0)) := b2
  cases hr : rightB k ns.length t.size with
  | false =>
    (repeat refine gg ?_)
    exact hR0 _ hr f02
  | true =>
    obtain ⟨hk1, hk2, hm, hf⟩ := right_known hr
    have hsm := body_small (t := t.data.toList) (by rw [htl]; exact hr) hs
    obtain ⟨kn, rfl⟩ : ∃ kn : Nat, k = (kn : Int) := ⟨k.toNat, by omega⟩
    have f02d := f02.trans' (Fr.drew [] w2)
    (repeat refine gg ?_)
    refine ⟨fun _ w' => blk w' (hsz w) = some (.cells (encRc ((kn : Int), nv, t)).toArray 90 (0, 0)), b2, b2, b2, ?_⟩
    have e8 := conv8i kn
    rw [Nat.mod_eq_of_lt (show kn < 256 by omega)] at e8
    have ek : ((kn : Nat) : Int) = ((UInt8.ofNat kn).toNat : Int) := by rw [ofNat_toNat (by omega)]
    (repeat refine gg ?_)
    have hlb : (ns.flatMap layV).length + t.data.toList.length = (bodyOf_ ns t.data.toList).length := by unfold bodyOf_; rw [List.length_append]
    have hml := manyOf_le (kn : Int).toNat
    have e2 : hsz w2.drew = hsz w2 := rfl
    have gr2 := f02.grow
    have last : ∀ (K : Value → Value → World → Prop) (w4 : World) (va vb : Value) (G : List Nat), Fr [] w2.drew w4 → blk w4 (hsz w) = some (.cells (encRc ((kn : Int), nv, t)).toArray 90 (0, 0)) → Slc encB 1 w4 va (ns.flatMap layV) G → (∀ b ∈ G, hsz w2 ≤ b) → Arr encB 1 w4 vb t.data.toList →
        (∀ a b w', (b = .int .i64 0 ∧ ∃ G, Slc encB 1 w' a (recB kn ns t.data.toList) G ∧ (∀ b ∈ G, hsz w ≤ b) ∧ Fr [] w w') → K a b w') →
        APPEND 5 1 1 (Value.int .u8 0) va vb w4 fun t16 w6 => blk w6 (hsz w) = some (.cells (encRc ((kn : Int), nv, t)).toArray 90 (0, 0)) ∧
          BND (buildv #[(Value.int .u8 0), (Value.slice none 0 0)] [(0, 1, .int .u8 (kn : Int)), (1, 1, t16)]) fun t17 => CALL PR F_tumbrelref04_Bytes [t17] w6 fun t18 w7 => BND (extractv t18 0) fun t19 => BND (extractv t18 1) fun t20 => K t19 t20 w7 := by
      intro K w4 va vb G f4 b4 sa gG ab hK
      refine APPEND_slc sa (ab.src encB_len (by omega)) encB_len encB_one rfl (by omega) (by omega) fun v5 w5 G5 s5 f5 sub5 => ?_
      refine ⟨f5.some (fun hb => by have := gG _ hb; have := blk_lt b2; omega) b4, ?_⟩
      obtain ⟨x5, rfl⟩ := slc_sv s5
      (repeat (first | refine gg ?_ | (apply BND_build ([.int .u8 (kn : Int), x5.v]); exact rfl)))
      rw [show ([Value.int .u8 (kn : Int), x5.v] : List Value) = encFr (UInt8.ofNat kn, x5) by unfold encFr; rw [← ek]]
      have f25 : Fr [] w2.drew w5 := f4.trans f5 fun b hb => .inr (by have := gG b hb; omega)
      refine r4_Bytes (body := bodyOf_ ns t.data.toList) s5.arr (by omega) (fun w6 h6 _ => by omega) fun w6 v6 G6 _ s6 g6 f6 => ?_
      (repeat refine gg ?_)
      refine hK _ _ _ ⟨rfl, G6, s6, fun b hb => ?_, (f02d.trans' f25).trans' f6⟩
      have := g6 b hb; have := f25.grow; omega
    refine join_v2 (fun a b w' => b = .int .i64 0 ∧ ∃ G, Slc encB 1 w' a (recB kn ns t.data.toList) G ∧ (∀ b ∈ G, hsz w ≤ b) ∧ Fr [] w w') (fun K hK => ⟨?_, ?_⟩) ?_
    · refine r2_All (hn.fr f02d (by simp)) hs (by omega) fun w3 v3 G3 s3 g3 f3 => ?_
      have b3 := f3.some (by simp) b2
      refine ⟨b3, b3, ?_⟩
      refine BYTES_step fun v4 w4 a4 f4 => ?_
      have b4 := f4.some (by simp) b3
      refine ⟨b4, b4, ?_⟩
      exact last K w4 v3 v4 G3 (f3.trans' f4) b4 (s3.fr f4 (by simp)) (fun b hb => by have := g3 b hb; omega) a4 hK
    · refine BYTES_step fun v3 w3 a3 f3 => ?_
      have b3 := f3.some (by simp) b2
      refine ⟨b3, b3, ?_⟩
      refine r2_All ((hn.fr f02d (by simp)).fr f3 (by simp)) hs (by omega) fun w4 v4 G4 s4 g4 f4 => ?_
      have b4 := f4.some (by simp) b3
      refine ⟨b4, b4, ?_⟩
      exact last K w4 v4 v3 G4 (f3.trans' f4) b4 s4 (fun b hb => by have := g4 b hb; have := f3.grow; omega) (a3.fr f4 (by simp)) hK
    · rintro a _ w' ⟨rfl, G, s, g, f⟩
      (repeat refine gg ?_)
      exact hR _ _ G hr s g f
theorem r5_Read {s0 : SV} {x : Fra} (hb : ArrC encB 1 w s0.v x.2) (hn : x.2.length < 1000000)
    (hR : ∀ w' nv G, Slc encU 1 w' (SV.v nv) (recRead x).1.n G → (∀ b ∈ G, hsz w ≤ b) → Fr [] w w' → R (.tuple #[.agg (encRc (((recRead x).1.kind : Int), nv, txB (recRead x).1.text)).toArray, .int .i64 (recRead x).2]) w') : CALL PR F_tumbrelref05_Read [.agg (encFr (x.1, s0)).toArray] w R := by
  refine C_tumbrelref05_Read ?_
  unfold M_tumbrelref05_Read
  refine NEW_intro fun w1 b1 f1 z1 => ?_
  replace b1 : blk w1 (hsz w) = some (.cells (encFr (x.1, s0)).toArray 143 (0, 0)) := b1
  refine NEW_intro fun w2 b2 f2 z2 => ?_
  replace b2 : blk w2 (hsz w1) = some (.cells [Value.int .i64 0, .slice none 0 0, .string .empty].toArray 90 (0, 0)) := b2
  have hkl := x.1.toNat_lt
  have b1' := f2.some (by simp) b1
  have ec := convi64 (k := .u8) (x := x.1.toNat) (by omega)
  have bad : ∀ (w6 : World) (e : Int), Fr [] w w6 → blk w6 (hsz w1) = some (.cells [Value.int .i64 0, .slice none 0 0, .string .empty].toArray 90 (0, 0)) → recRead x = (zeroR, e) →
      (BND (buildv #[(Value.int .i64 0), (Value.slice none 0 0), (Value.string ByteArray.empty)] []) fun t => BND (storev 3 w6 (.pointer (some ⟨hsz w1, 0, none⟩)) t) fun w7 => BND (loadn 3 w7 (.pointer (some ⟨hsz w1, 0, none⟩))) fun r => R (.tuple #[r, (Value.int .i64 e)]) w7) := by
    intro w6 e f6 b6 he
    rw [he] at hR
    (repeat (first | refine gg ?_ | (apply BND_build ([.int .i64 0, .slice none 0 0, .string .empty]); exact rfl)))
    refine put_step (n := 3) (vs := [.int .i64 0, .slice none 0 0, .string .empty]) b6 rfl rfl (by intro u hu; simp at hu; rcases hu with rfl | rfl | rfl <;> rfl) (by simp) fun w7 b7 f7 _ => ?_
    (repeat (first | refine BND_step (loadn_all' b7 rfl) ?_ | refine gg ?_))
    exact hR w7 ⟨none, 0, 0⟩ [] (Slc.nil _ _ _) (by simp) (f6.trans f7 fun b hb => .inr (by have := f1.grow; simp at hb; omega))
  (repeat refine gg ?_)
  refine r5_many _ fun w3 f3 => ?_
  have b13 := f3.some (by simp) b1'
  have b23 := f3.some (by simp) b2
  have f03 := (f1.trans' f2).trans' f3
  have gr3 := f3.grow
  unfold recRead at hR
  cases hk : knownB (x.1.toNat : Int) with
  | false =>
    rw [manyZ_not hk]
    (repeat refine gg ?_)
    exact bad w3 2 f03 b23 (by unfold recRead; rw [if_pos hk])
  | true =>
    have hkn : ¬ knownB (x.1.toNat : Int) = false := by rw [hk]; simp
    rw [if_neg hkn] at hR
    rw [manyZ_known hk, Int.toNat_natCast]
    have h10 := manyOf_le x.1.toNat
    generalize hmany : manyOf x.1.toNat = many at *
    (repeat (first | refine gg ?_ | (apply BND_build ([.int .i64 (x.1.toNat : Int), .slice none 0 0, .string .empty]); exact rfl)))
    refine box_step (n := 3) (zs := [_, _, _]) (vs := encRc ((x.1.toNat : Int), ⟨none, 0, 0⟩, .empty)) rfl rfl (encRc_one _) (by simp [encRc]) fun w4 b4 f4 z4 => ?_
    have b14 := f4.some (by simp) b13
    have b24 := f4.some (by simp) b23
    have f04 := f03.trans' f4
    have gr4 := f4.grow
    refine loop_up2 (o := .int .i64 0) 0 many (fun o i w' => ∃ (at_ : Nat) (done : List Nat) (nv : SV) (G : List Nat), o = .int .i64 (at_ : Int) ∧ at_ ≤ x.2.length ∧ blk w' (hsz w3) = some (.cells (encRc ((x.1.toNat : Int), nv, .empty)).toArray 90 (0, 0)) ∧ Slc encU 1 w' nv.v done G ∧ (∀ b ∈ G, hsz w4 ≤ b) ∧
        Fr [] w w' ∧ hsz w4 ≤ hsz w' ∧ blk w' (hsz w1) = some (.cells [Value.int .i64 0, .slice none 0 0, .string .empty].toArray 90 (0, 0)) ∧ blk w' (hsz w) = some (.cells (encFr (x.1, s0)).toArray 143 (0, 0)) ∧ done.length = i ∧
        readN many x.2 = (done ++ (readN (many - i) (x.2.drop at_)).1, (readN (many - i) (x.2.drop at_)).2))
      ⟨0, [], ⟨none, 0, 0⟩, [], rfl, by omega, b4, Slc.nil _ _ _, by simp, f04, Nat.le_refl _, b24, b14, rfl, by simp⟩ (by omega) ?_
    rintro _ i w8 - hi ⟨at_, done, nv, G, rfl, hat, b8, s8, g8, f8, gr8, b28, b18, hdl, heq⟩ J m hJ
    obtain ⟨va, ea, aa0⟩ := hb.from (lo := at_) hat
    have aa := aa0.fr f8 (by simp)
    have hlr : (x.2.drop at_).length = x.2.length - at_ := List.length_drop
    by_cases hlt : i < many
    · obtain ⟨mm, hmm⟩ : ∃ mm, many - i = mm + 1 := ⟨many - i - 1, by omega⟩
      rw [hmm, readN_step] at heq
      (repeat refine gg ?_)
      refine r2_Get aa.arr (by omega) ?_
      by_cases he : (getV (x.2.drop at_)).2.2 = 0
      · rw [if_pos he] at heq
        have hu := getV_used he
        (repeat refine gg ?_)
        refine newone_step (enc := encU) (x := (getV (x.2.drop at_)).1) (y := .int .u64 ((getV (x.2.drop at_)).1 : Int)) encU_len rfl fun t w11 s11 f11 z11 => ?_
        have b11 := f11.some (by simp) b8
        refine APPEND_slc (s8.fr f11 (by simp)) (s11.loads encU_len) encU_len encU_one rfl (by simp; omega) (by simp; omega) fun v12 w12 G12 s12 f12 sub12 => ?_
        obtain ⟨x12, rfl⟩ := slc_sv s12
        have b12 := f12.some (fun hb => by have := g8 _ hb; omega) b11
        (repeat refine gg ?_)
        refine fstore_step b12 ⟨rfl, rfl⟩ (by simp [encRc]) fun w13 b13' f13 _ => ?_
        (repeat (first | refine BND_step (addn_ (n := at_) (by omega)) ?_ | refine gg ?_))
        have gr11 := f11.grow
        have gr12 := f12.grow
        have gr13 := f13.grow
        have g12 : ∀ b ∈ G12, hsz w4 ≤ b := fun b hb => by
          rcases sub12 b hb with hq | hq
          · exact g8 b hq
          · omega
        have f812 : Fr [] w w12 := (f8.trans' f11).trans f12 fun b hb => .inr (by have := g8 b hb; have := f04.grow; omega)
        have f813 : Fr [] w w13 := f812.trans f13 fun b hb => .inr (by simp at hb; have := f03.grow; omega)
        have keep : ∀ (b : Nat) (o : Obj), b < hsz w3 → blk w8 b = some o → blk w13 b = some o := fun b o hb h => by
          have q1 := f11.some (by simp) h
          have q2 := f12.some (fun hb' => by have := g8 _ hb'; omega) q1
          exact f13.some (by simp; omega) q2
        refine hJ _ _ hlt ⟨at_ + (getV (x.2.drop at_)).2.1, done ++ [(getV (x.2.drop at_)).1], x12, G12, rfl, by omega, b13', s12.fr f13 (fun b hb hb' => ?_), g12, f813, by omega, keep _ _ (by omega) b28, keep _ _ (by have := f1.grow; omega) b18, by simp [hdl], ?_⟩
        · have := g12 b hb; simp at hb'; omega
        · rw [show many - (i + 1) = mm by omega, heq, List.drop_drop]; simp
      · rw [if_neg he] at heq
        (repeat refine gg ?_)
        refine bad w8 _ f8 b28 ?_
        unfold recRead
        rw [if_neg hkn, hmany, heq, if_neg he]
    · rw [show many - i = 0 by omega] at heq
      simp only [readN, List.append_nil] at heq
      rw [heq] at hR
      simp only [if_true] at hR
      have hrw : recRead x = if fitsB (x.1.toNat : Int) (x.2.drop at_).length = true then (⟨x.1.toNat, done, x.2.drop at_⟩, 0) else (zeroR, 2) := by
        unfold recRead
        rw [if_neg hkn, hmany, heq]
        rfl
      (repeat (first | refine BND_step hb.len ?_ | refine BND_step (subn_ (n := x.2.length) (m := at_) hat (by omega)) ?_ | refine gg ?_))
      refine r5_texts _ _ ?_
      rw [← hlr]
      cases hf : fitsB (x.1.toNat : Int) (x.2.drop at_).length with
      | false =>
        rw [hf] at hrw
        (repeat refine gg ?_)
        exact bad w8 2 f8 b28 hrw
      | true =>
        rw [hf] at hR
        simp only [if_true] at hR
        (repeat (first | refine BND_step (textB aa.arr) ?_ | refine gg ?_))
        refine fstore_step b8 ⟨rfl, rfl⟩ (by simp [encRc]) fun w9 b9 f9 _ => ?_
        replace b9 : blk w9 (hsz w3) = some (.cells (encRc ((x.1.toNat : Int), nv, txB (x.2.drop at_))).toArray 90 (0, 0)) := b9
        have b29 := f9.some (by simp; omega) b28
        (repeat (first | refine BND_step (loadn_all' b9 rfl) ?_ | refine gg ?_))
        refine put_step (n := 3) (vs := encRc ((x.1.toNat : Int), nv, txB (x.2.drop at_))) b29 rfl rfl (encRc_one _) (by simp [encRc]) fun w10 b10 f10 _ => ?_
        (repeat (first | refine BND_step (loadn_all' b10 rfl) ?_ | refine gg ?_))
        have gg := f03.grow
        have gg1 := f1.grow
        exact hR w10 nv G ((s8.fr f9 (fun b hb hb' => by have := g8 b hb; simp at hb'; omega)).fr f10 (fun b hb hb' => by have := g8 b hb; simp at hb'; omega)) (fun b hb => by have := g8 b hb; omega)
          ((f8.trans f9 fun b hb => .inr (by simp at hb; omega)).trans f10 fun b hb => .inr (by simp at hb; omega))
theorem r5_All {bv : Value} {bs : List UInt8} (hb : ArrC encB 1 w bv bs) (hn : bs.length < 10000000)
    (hR : ∀ w' v ev G B E, RecL w' v (recAll bs).1 G B → Slc encO 1 w' ev (recAll bs).2.1 E → (∀ b ∈ G, hsz w ≤ b) → (∀ b ∈ B, hsz w ≤ b) → (∀ b ∈ E, hsz w ≤ b) → Fr [] w w' → R (.tuple #[v, ev, .int .i64 (recAll bs).2.2]) w') : CALL PR F_tumbrelref05_All [bv] w R := by
  refine C_tumbrelref05_All ?_
  unfold M_tumbrelref05_All
  refine newnil_step encRc fun t0 wa sa fa za => ?_
  refine newnil_step encO fun t1 wb sb fb zb => ?_
  have fab := fa.trans' fb
  refine r4_All (hb.fr fab (by simp)) (by omega) fun w1 lv G1 B1 h1 gG1 gB1 f1 hle => ?_
  have f01 := fab.trans' f1
  have hsm := frAll_small bs.length bs 0 rfl
  unfold recAll at hR
  generalize hfs : (frAll bs 0).1 = fs at *
  generalize (frAll bs 0).2.2 = e0 at *
  have ga := fa.grow
  have gb := fb.grow
  have g01 := f1.grow
  (repeat refine gg ?_)
  refine loop_up4 (a := t0) (b := t1) (c := .int .i64 0) 0 fs.length (fun o ev t i w' => ∃ (k : Nat) (done : List Rc) (ends : List Nat) (G B E : List Nat), t = .int .i64 (k : Int) ∧ RecL w' o done G B ∧ Slc encO 1 w' ev ends E ∧ (∀ b ∈ G, hsz w ≤ b ∧ b ∉ E) ∧ (∀ b ∈ B, hsz w ≤ b ∧ b ∉ E) ∧ (∀ b ∈ E, hsz w ≤ b) ∧
      Fr [] w w' ∧ (∀ b ∈ G1, b ∉ G ∧ b ∉ E) ∧ (∀ b ∈ B1, b ∉ G ∧ b ∉ E) ∧ FrmL w' lv fs G1 B1 ∧ k ≤ i * 500 ∧ done.length = i ∧ ends.length = i ∧ recAllF fs 0 e0 = (done ++ (recAllF (fs.drop i) k e0).1, ends ++ (recAllF (fs.drop i) k e0).2.1, (recAllF (fs.drop i) k e0).2.2))
    ⟨0, [], [], [hsz w], [], [hsz wa], rfl, ⟨⟨[], ((sa.fr fb (by simp)).fr f1 (by simp)), rfl, by simp⟩, by simp⟩, sb.fr f1 (by simp), fun b hb => by simp at hb ⊢; omega, by simp, fun b hb => by simp at hb; omega, f01, fun b hb => by have := gG1 b hb; simp; omega, fun b hb => by have := gB1 b hb; simp; omega, h1, by omega, rfl, rfl, by simp⟩ (by omega) ?_
  rintro o ev _ i w2 - hi ⟨k, done, ends, G, B, E, rfl, h2, se, gG, gB, gE, f2, dG, dB, h12, hk, hdl, hel, heq⟩ J m hJ
  by_cases hlt : i < fs.length
  · have hx := List.getElem?_eq_getElem hlt
    have hm := List.getElem_mem hlt
    have hdr : fs.drop i = fs[i] :: fs.drop (i + 1) := List.drop_eq_getElem_cons hlt
    generalize fs[i] = x at hx hm hdr
    have hx4 := hsm x hm
    rw [hdr, recAllF_cons] at heq
    have hlen := h12.len
    have h12' := h12
    obtain ⟨⟨cs, q1, q2, q3⟩, q4⟩ := h12
    obtain ⟨s, H, c1, c2, c3⟩ := q3 i x hx
    obtain ⟨bp, op, ia, ln, _, ld⟩ := q1.arr.spot c1 rfl .i64
    (repeat refine gg ?_)
    refine r5_Read c2.arrC (by omega) fun w5 nv Gn sn gn f5 => ?_
    (repeat refine gg ?_)
    refine box_step (n := 3) (zs := [_, _, _]) (vs := encRc (((recRead x).1.kind : Int), nv, txB (recRead x).1.text)) rfl rfl (encRc_one _) (by simp [encRc]) fun w7 b7 f7 z7 => ?_
    have f27 := f5.trans' f7
    have f07 := f2.trans' f27
    by_cases he : (recRead x).2 = 0
    · rw [if_pos he] at heq
      obtain ⟨bp', op', ia', ln', _, ld'⟩ := (q1.fr f27 (by simp)).arr.spot c1 rfl .i64
      have el := c2.len
      have e1 : binv .int .add (.int .i64 ((k + x.2.length : Nat) : Int)) (.int .i64 11) = some (.int .i64 ((k + (11 + x.2.length) : Nat) : Int)) := (addn_ (n := k + x.2.length) (m := 11) (by omega)).trans (by congr 3; omega)
      (repeat (first | (apply BND_step; exact (ld' (w' := w7) rfl (j := 1) rfl)) | refine BND_step (addn_ (n := k) (m := x.2.length) (by omega)) ?_ | refine BND_step (loadn_all' b7 rfl) ?_ | refine gg ?_))
      have gr2 := f2.grow
      have gr27 := f27.grow
      refine rec_push (x := (recRead x).1) (h2.fr f27) (sn.fr f7 (by simp)) (fun b hb hb' => by have := gn b hb; have := h2.lt b hb'; omega) rfl (by omega) (by omega) fun v10 w10 G10 h10 g10 f10 => ?_
      have se10 := (se.fr f27 (by simp)).fr f10 (fun b hb hb' => (gG b hb').2 hb)
      refine push_step (enc := encO) (x := k + (11 + x.2.length)) (y := .int .i64 ((k + (11 + x.2.length) : Nat) : Int)) se10 encO_len encO_one rfl rfl (by omega) (by omega) fun v12 w12 E12 s12 g12 f12 => ?_
      have gr10 := f10.grow
      have gr5 := f5.grow
      have ltG : ∀ b ∈ G, b < hsz w2 := h2.lt
      have ltE : ∀ b ∈ E, b < hsz w2 := se.lt
      have nG : ∀ b ∈ G10, hsz w ≤ b ∧ b ∉ E12 := fun b hb => by
        have hlt10 := h10.lt b hb
        rcases g10 b hb with hq | hq
        · refine ⟨(gG b hq).1, fun hb' => ?_⟩
          rcases g12 b hb' with hq2 | hq2
          · exact (gG b hq).2 hq2
          · omega
        · refine ⟨by omega, fun hb' => ?_⟩
          rcases g12 b hb' with hq2 | hq2
          · have := ltE b hq2; omega
          · omega
      have nB : ∀ b ∈ Gn ++ B, hsz w ≤ b ∧ b ∉ E12 := fun b hb => by
        rcases List.mem_append.1 hb with hb | hb
        · have h5 := gn b hb
          have h6 := sn.lt b hb
          refine ⟨by omega, fun hb' => ?_⟩
          rcases g12 b hb' with hq2 | hq2
          · have := ltE b hq2; omega
          · have := f7.grow; omega
        · refine ⟨(gB b hb).1, fun hb' => ?_⟩
          rcases g12 b hb' with hq2 | hq2
          · exact (gB b hb).2 hq2
          · have := (h2.2 b hb).2; omega
      have nE : ∀ b ∈ E12, hsz w ≤ b := fun b hb => by
        rcases g12 b hb with hq | hq
        · exact gE b hq
        · omega
      have lt1 : ∀ b ∈ G1, b < hsz w2 := q1.lt
      have lt1B : ∀ b ∈ B1, b < hsz w2 := fun b hb => (q4 b hb).2
      have d1 : ∀ b, (b ∈ G1 ∨ b ∈ B1) → b ∉ G10 ∧ b ∉ E12 := fun b hb => by
        have hl : b < hsz w2 := hb.elim (lt1 b) (lt1B b)
        have hd : b ∉ G ∧ b ∉ E := hb.elim (dG b) (dB b)
        refine ⟨fun h => ?_, fun h => ?_⟩
        · rcases g10 b h with hq | hq
          · exact hd.1 hq
          · omega
        · rcases g12 b h with hq | hq
          · exact hd.2 hq
          · omega
      have h12n : FrmL w12 lv fs G1 B1 := by
        obtain ⟨⟨cs', r1, r2, r3⟩, r4⟩ := h12'.fr f27
        refine ⟨⟨cs', (r1.fr f10 (fun b hb => (dG b hb).1)).fr f12 (fun b hb => (dG b hb).2), r2, fun i' y hy => ?_⟩, fun b hb => ⟨(r4 b hb).1, by have := (r4 b hb).2; have := f12.grow; omega⟩⟩
        obtain ⟨s', H', p1, p2, p3⟩ := r3 i' y hy
        exact ⟨s', H', p1, (p2.fr f10 (fun b hb => (dB b (p3 b hb)).1)).fr f12 (fun b hb => (dB b (p3 b hb)).2), p3⟩
      (repeat refine gg ?_)
      refine hJ _ _ _ _ hlt ⟨k + (11 + x.2.length), done ++ [(recRead x).1], ends ++ [k + (11 + x.2.length)], G10, Gn ++ B, E12, rfl, h10.far f12 (fun b hb hb' => ?_) (fun b hb hb' => ?_), s12, nG, nB, nE, (f07.trans f10 fun b hb => .inr (gG b hb).1).trans f12 fun b hb => .inr (gE b hb), fun b hb => d1 b (.inl hb), fun b hb => d1 b (.inr hb), h12n, by omega, by simp [hdl], by simp [hel], ?_⟩
      · rcases g10 b hb with hq | hq
        · exact (gG b hq).2 hb'
        · have := ltE b hb'; omega
      · rcases List.mem_append.1 hb with hb | hb
        · have := gn b hb; have := ltE b hb'; omega
        · exact (gB b hb).2 hb'
      · rw [heq]; simp
    · rw [if_neg he] at heq
      (repeat refine gg ?_)
      rw [heq, List.append_nil, List.append_nil] at hR
      exact hR _ _ _ G B E (h2.fr f27) (se.fr f27 (by simp)) (fun b hb => (gG b hb).1) (fun b hb => (gB b hb).1) gE f07
  · obtain rfl : i = fs.length := by omega
    rw [List.drop_length] at heq
    simp only [recAllF, List.append_nil] at heq
    (repeat (first | refine BND_step h12.len ?_ | refine gg ?_))
    rw [heq] at hR
    exact hR _ _ _ G B E h2 se (fun b hb => (gG b hb).1) (fun b hb => (gB b hb).1) gE f2
end
end Go.Proofs.YtmefbneoljpbgaaGreatDoor
