
/- Numbers of few bytes, walked. No condition but sizes. -/
import Derived.Test.YtmefbneoljpbgaaGreatDoorVintP
import Derived.Test.YtmefbneoljpbgaaGreatDoorSum2
import Derived.Test.YtmefbneoljpbgaaGreatDoorMa
namespace Go.Proofs.YtmefbneoljpbgaaGreatDoor
open Go.Den Go.Disk Go.Vint Go.Crc
def encU (x : Nat) : List Value := [.int .u64 (x : Int)]
theorem encU_len (x : Nat) : (encU x).length = 1 := rfl
theorem encU_one (x : Nat) : ∀ u ∈ encU x, u.oneCell' = true := by intro u hu; simp [encU] at hu; subst hu; rfl
theorem slicea_to {len b k : Nat} (h : k ≤ len) : slicea len 1 (.pointer (some ⟨b, 0, none⟩)) none (some (.int .i64 (k : Int))) (some (.int .i64 (k : Int))) = some (.slice (some ⟨b, 0, none⟩) k k) := by
  unfold slicea
  simp only [natOf]
  simp [h]
  intro _
  simp [Addr.add]
def valsB (l : List UInt8) : List Value := l.map fun x => .int .u8 (x.toNat : Int)
theorem set_snocB (pre : List UInt8) (k : Nat) (x : UInt8) : (valsB (pre ++ List.replicate (k + 1) 0)).set pre.length (.int .u8 (x.toNat : Int)) = valsB ((pre ++ [x]) ++ List.replicate k 0) := by
  unfold valsB
  rw [List.map_append, List.set_append_right _ _ (by simp)]
  simp [List.replicate_succ]
theorem shl_le {n i : Nat} (h : n * 2 ^ (7 * i) < 18446744073709551616) (h1 : 128 ≤ n) : i ≤ 8 := by
  refine Nat.le_of_not_lt fun hi => ?_
  have : 2 ^ (7 * 9) ≤ 2 ^ (7 * i) := Nat.pow_le_pow_right (by omega) (by omega)
  have := Nat.mul_le_mul h1 this
  omega
theorem shl_le9 {n i : Nat} (h : n * 2 ^ (7 * i) < 18446744073709551616) (h1 : 1 ≤ n) : i ≤ 9 := by
  refine Nat.le_of_not_lt fun hi => ?_
  have : 2 ^ (7 * 10) ≤ 2 ^ (7 * i) := Nat.pow_le_pow_right (by omega) (by omega)
  have := Nat.mul_le_mul h1 this
  omega
set_option linter.unusedSimpArgs false
set_option linter.unusedVariables false
set_option maxRecDepth 20000
set_option maxHeartbeats 4000000
attribute [local congr] BND_cg COND_cg GEF_cg
attribute [local irreducible] capl slicea load1 loadn iaddr iaddra faddr storev newslice binv lookv mupd mdel mlenv mentry mestore slicev slicev3 slices indexs indexav textv rangev nexts clearv shiftv eqaggv convi buildv pickv lens lenl unv nilchk extractv partn JOIN
section
variable {w : World} {R : Value → World → Prop}
theorem vint_lay (n b : Nat) (T : TypeId) (hn : n < 18446744073709551616) (hb : blk w b = some (.cells (valsB (List.replicate 10 0)).toArray T (0, 0)))
    (hR : ∀ w' k, blk w' b = some (.cells (valsB (layV n ++ List.replicate k 0)).toArray T (0, 0)) → Fr [b] w w' → (layV n).length + k = 10 → R (.int .i64 ((layV n).length : Int)) w') : CALL PR F_vint_lay [.pointer (some ⟨b, 0, none⟩), .int .u64 (n : Int)] w R := by
  refine C_vint_lay ?_
  unfold M_vint_lay
  refine ⟨fun t u w' => ∃ (i m : Nat) (pre : List UInt8), t = .int .u64 (m : Int) ∧ u = .int .i64 (i : Int) ∧ pre.length = i ∧ layV n = pre ++ layV m ∧ m * 2 ^ (7 * i) < 18446744073709551616 ∧ (0 < i → 1 ≤ m) ∧ blk w' b = some (.cells (valsB (pre ++ List.replicate (10 - i) 0)).toArray T (0, 0)) ∧ Fr [b] w w',
    fun t _ _ => match t with | .int _ k => k.toNat | _ => 0, ⟨0, n, [], rfl, rfl, rfl, rfl, by simpa using hn, by omega, by simpa using hb, Fr.refl _ _⟩, ?_⟩
  rintro _ _ _ w1 ⟨i, m, pre, rfl, rfl, hpl, hlay, hbd, hpos, hb1, f1⟩
  have h9 : i ≤ 9 := by
    rcases Nat.eq_zero_or_pos i with h0 | h0
    · omega
    · exact shl_le9 hbd (hpos h0)
  obtain ⟨k, hk⟩ : ∃ k, 10 - i = k + 1 := ⟨9 - i, by omega⟩
  rw [hk] at hb1
  have ia := iaddra_at (len := 10) (b := b) (k := .i64) (i := i) (by omega)
  by_cases hge : (128 : Int) ≤ (m : Int)
  · have h8 := shl_le hbd (by omega)
    have e1 := conv8n m
    have e2 := or8 (x := m % 256) (by omega)
    have e3 := shr7 m
    have e4 : m % 256 % 128 + 128 = (UInt8.ofNat (m % 128 + 128)).toNat := by rw [ofNat_toNat (by omega)]; omega
    rw [e4] at e2
    (repeat refine gg ?_)
    refine fstore_step hb1 ⟨rfl, rfl⟩ (by simp [valsB]; omega) fun w2 b2 f2 _ => ?_
    rw [← hpl, set_snocB] at b2
    (repeat refine gg ?_)
    have hp2 : 2 ^ (7 * (i + 1)) = 2 ^ (7 * i) * 128 := by rw [Nat.mul_add, Nat.pow_add]
    have hle : m / 128 * 2 ^ (7 * (i + 1)) ≤ m * 2 ^ (7 * i) := by
      rw [hp2, ← Nat.mul_assoc, Nat.mul_right_comm]
      exact Nat.mul_le_mul_right _ (by omega)
    refine ⟨⟨i + 1, m / 128, pre ++ [UInt8.ofNat (m % 128 + 128)], rfl, rfl, by simp [hpl], ?_, by omega, fun _ => by omega, ?_, f1.trans' f2⟩, ?_⟩
    · rw [hlay, layV_ge (by omega)]; simp
    · rw [show 10 - (i + 1) = k by omega]; exact b2
    · simp only [Int.toNat_natCast]; omega
  · have e1 := conv8n m
    have e4 : m % 256 = (UInt8.ofNat m).toNat := by rw [ofNat_toNat (by omega)]; omega
    rw [e4] at e1
    (repeat refine gg ?_)
    refine fstore_step hb1 ⟨rfl, rfl⟩ (by simp [valsB]; omega) fun w2 b2 f2 _ => ?_
    rw [← hpl, set_snocB] at b2
    have hl : layV n = pre ++ [UInt8.ofNat m] := by rw [hlay, layV_lt (by omega)]
    rw [← hl] at b2
    have hlen : (layV n).length = i + 1 := by rw [hl]; simp [hpl]
    (repeat refine gg ?_)
    have := hR w2 k b2 (f1.trans' f2) (by omega)
    rwa [hlen] at this
theorem vint_Put (n : Nat) (hn : n < 18446744073709551616) (hR : ∀ w' v, ArrC encB 1 w' v (layV n) → Fr [] w w' → R v w') : CALL PR F_vint_Put [.int .u64 (n : Int)] w R := by
  refine C_vint_Put ?_
  unfold M_vint_Put
  refine NEW_intro fun w1 b1 f1 z1 => ?_
  refine vint_lay n (hsz w) _ hn b1 fun w2 k b2 f2 hk => ?_
  have e := slicea_to (b := hsz w) (show (layV n).length ≤ 10 by omega)
  (repeat refine gg ?_)
  refine hR _ _ ⟨⟨_, _, rfl, .inr ⟨hsz w, 0, _, _, _, rfl, b2, fun i x hx => ?_⟩⟩, ⟨_, _, _, rfl, Nat.le_refl _⟩⟩ (f1.trans f2 (by simp))
  have hi := (List.getElem?_eq_some_iff.1 hx).1
  refine ⟨by simp [valsB]; omega, fun j hj => ?_⟩
  obtain rfl : j = 0 := by omega
  simp only [valsB, Nat.zero_add, Nat.mul_one, Nat.add_zero, List.getElem?_toArray, List.getElem?_map]
  rw [List.getElem?_append_left hi, hx]
  rfl
theorem vint_All {lv : Value} {ns : List Nat} (hl : Arr encU 1 w lv ns) (hs : ∀ n ∈ ns, n < 18446744073709551616) (hn : ns.length < 1000000) (hR : ∀ w' v G, Slc encB 1 w' v (ns.flatMap layV) G → (∀ b ∈ G, hsz w ≤ b) → Fr [] w w' → R v w') : CALL PR F_vint_All [lv] w R := by
  refine C_vint_All ?_
  unfold M_vint_All
  (repeat (first | refine BND_step hl.len ?_ | refine gg ?_))
  refine loop_up2 (o := .slice none 0 0) 0 ns.length (fun o i w' => ∃ H, Slc encB 1 w' o ((ns.take i).flatMap layV) H ∧ (∀ b ∈ H, hsz w ≤ b) ∧ Fr [] w w' ∧ ((ns.take i).flatMap layV).length ≤ i * 10) ⟨[], Slc.nil _ _ _, by simp, Fr.refl _ _, by simp⟩ (by omega) ?_
  rintro o i w1 - hi ⟨H, s1, h1, f1, hlen⟩ J m hJ
  by_cases hlt : i < ns.length
  · have hx := List.getElem?_eq_getElem hlt
    have hm := hs _ (List.getElem_mem hlt)
    generalize ns[i] = x at hx hm
    obtain ⟨b, o2, ia, _, _, l1⟩ := (hl.fr f1 (by simp)).spot hx rfl .i64
    have hle := layV_le x hm
    have hst : (ns.take (i + 1)).flatMap layV = (ns.take i).flatMap layV ++ layV x := by rw [List.take_add_one, hx]; simp
    (repeat (first | (apply BND_step; exact (l1 (w' := w1) rfl (j := 0) rfl)) | refine gg ?_))
    refine vint_Put x hm fun w2 v2 a2 f2 => ?_
    refine APPEND_slc (s1.fr f2 (by simp)) (a2.arr.src encB_len (by omega)) encB_len encB_one rfl (by omega) (by omega) fun v3 w3 G3 s3 f3 sub3 => ?_
    (repeat refine gg ?_)
    have f12 := f1.trans' f2
    refine hJ _ _ hlt ⟨G3, by rw [hst]; exact s3, fun b hb => ?_, f12.trans f3 fun b hb => .inr (h1 b hb), by rw [hst, List.length_append]; omega⟩
    rcases sub3 b hb with hq | hq
    · exact h1 b hq
    · have := f12.grow; omega
  · (repeat refine gg ?_)
    rw [List.take_of_length_le (by omega)] at s1
    exact hR _ _ H s1 h1 f1
theorem vint_Get {bv : Value} {bs : List UInt8} (hb : Arr encB 1 w bv bs) (hn : bs.length < 1000000000) (hR : R (.tuple #[.int .u64 ((getV bs).1 : Int), .int .i64 ((getV bs).2.1 : Int), .int .i64 (getV bs).2.2]) w) : CALL PR F_vint_Get [bv] w R := by
  refine C_vint_Get ?_
  unfold M_vint_Get
  unfold getV at hR
  (repeat (first | refine BND_step hb.len ?_ | refine gg ?_))
  refine loop_up2 (o := .int .u64 0) 0 bs.length (fun o i w' => ∃ n : Nat, o = .int .u64 (n : Int) ∧ w' = w ∧ getL bs 0 0 = getL (bs.drop i) i n ∧ n < 2 ^ (7 * i) ∧ i ≤ 9) ⟨0, rfl, rfl, rfl, by simp, by omega⟩ (by omega) ?_
  rintro o i w1 - hi ⟨n, rfl, rfl, hg, hnb, h9⟩ J m hJ
  by_cases hlt : i < bs.length
  · have hx := List.getElem?_eq_getElem hlt
    have hdr : bs.drop i = bs[i] :: bs.drop (i + 1) := List.drop_eq_getElem_cons hlt
    generalize bs[i] = c at hx hdr
    obtain ⟨b, o2, ia, _, _, l1⟩ := hb.spot hx rfl .i64
    rw [hg, hdr] at hR
    rw [hdr] at hg
    simp only [getL] at hR hg
    have hcl := c.toNat_lt
    have hp2 : 2 ^ (7 * (i + 1)) = 2 ^ (7 * i) * 128 := by rw [Nat.mul_add, Nat.pow_add]
    (repeat (first | (apply BND_step; exact (l1 (w' := w1) rfl (j := 0) rfl)) | refine gg ?_))
    have bad : i = 9 ∧ 1 < c.toNat → R (.tuple #[.int .u64 0, .int .i64 0, .int .i64 2]) w1 := fun h => by rw [if_pos h] at hR; exact hR
    have rest : ¬ (i = 9 ∧ 1 < c.toNat) → (BND (binv .int .rem (.int .u8 (c.toNat : Int)) (Value.int .u8 128)) fun t23_47 =>
        BND (convi .u64 t23_47) fun t24_48 =>
        BND (binv .int .mul (Value.int .i64 7) (.int .i64 (i : Int))) fun t26_49 =>
        BND (shiftv .shl t24_48 t26_49) fun t27_50 =>
        BND (binv .int .or (.int .u64 (n : Int)) t27_50) fun t28_51 =>
        BND (binv .int .geq (.int .u8 (c.toNat : Int)) (Value.int .u8 128)) fun t30_52 =>
        COND t30_52
        (BND (binv .int .add (.int .i64 (i : Int)) (Value.int .i64 1)) fun t40_53 =>
        (J t28_51 t40_53 w1 ∧ m t28_51 t40_53 w1 < m (.int .u64 (n : Int)) (.int .i64 (i : Int)) w1))
        (BND (binv .int .eql (.int .u8 (c.toNat : Int)) (Value.int .u8 0)) fun t32_54 =>
        BND (grd (isB t32_54 true) (some (.int .i64 (i : Int)))) fun t34_55 =>
        BND (grd (isB t32_54 true) (binv .int .gtr t34_55 (Value.int .i64 0))) fun t35_56 =>
        BND (pickv t32_54 t35_56 (Value.bool false)) fun t36_57 =>
        COND t36_57
        (R (.tuple #[(Value.int .u64 0), (Value.int .i64 0), (Value.int .i64 2)]) w1)
        (BND (binv .int .add (.int .i64 (i : Int)) (Value.int .i64 1)) fun t39_58 =>
        R (.tuple #[t28_51, t39_58, (Value.int .i64 0)]) w1))) := by
      intro hno
      rw [if_neg hno] at hR hg
      have hsmall : n + c.toNat % 128 * 2 ^ (7 * i) < 18446744073709551616 := by
        by_cases hi9 : i = 9
        · subst hi9
          have : c.toNat % 128 ≤ 1 := by omega
          have := Nat.mul_le_mul_right (2 ^ (7 * 9)) this
          omega
        · have : 2 ^ (7 * i) ≤ 2 ^ (7 * 8) := Nat.pow_le_pow_right (by omega) (by omega)
          have : c.toNat % 128 * 2 ^ (7 * i) ≤ 127 * 2 ^ (7 * 8) := Nat.mul_le_mul (by omega) this
          omega
      have e1 := rem128 c
      have e2 := convu64 (k := .u8) (x := c.toNat % 128) (by omega)
      have e3 : binv .int .mul (.int .i64 7) (.int .i64 (i : Int)) = some (.int .i64 ((7 * i : Nat) : Int)) := by rw [binv_mul, wrap_i64 (by omega) (by omega)]; congr 2
      have e4 := shl7 (x := c.toNat % 128) (i := i) (by omega) h9
      have e5 := or64 (x := c.toNat % 128) hnb hsmall
      (repeat refine gg ?_)
      by_cases hge : (128 : Int) ≤ (c.toNat : Int)
      · rw [if_pos (by omega)] at hg
        (repeat refine gg ?_)
        refine hJ _ _ hlt ⟨_, rfl, rfl, hg, ?_, ?_⟩
        · have : c.toNat % 128 * 2 ^ (7 * i) ≤ 127 * 2 ^ (7 * i) := Nat.mul_le_mul_right _ (by omega)
          omega
        · omega
      · rw [if_neg (by omega)] at hR
        by_cases hz : (c.toNat : Int) = 0
        · by_cases hi0 : (0 : Int) < (i : Int)
          · rw [if_pos ⟨by omega, by omega⟩] at hR
            (repeat refine gg ?_)
            exact hR
          · rw [if_neg (by omega)] at hR
            (repeat refine gg ?_)
            exact hR
        · rw [if_neg (by omega)] at hR
          (repeat refine gg ?_)
          exact hR
    by_cases hi9 : i = 9
    · by_cases hc1 : (1 : Int) < (c.toNat : Int)
      · (repeat refine gg ?_)
        exact bad ⟨hi9, by omega⟩
      · (repeat refine gg ?_)
        exact rest (by omega)
    · (repeat refine gg ?_)
      exact rest (by omega)
  · (repeat refine gg ?_)
    rw [hg, List.drop_eq_nil_of_le (by omega)] at hR
    simpa [getL] using hR
end
end Go.Proofs.YtmefbneoljpbgaaGreatDoor
