
/- Bits that are turned, walked. No condition but sizes. -/
import Derived.Test.YtmefbneoljpbgaaDoorCrcTurn
import Derived.Test.YtmefbneoljpbgaaDoorSum2
import Derived.Test.YtmefbneoljpbgaaDoorMa
namespace Go.Proofs.YtmefbneoljpbgaaDoor
open Go.Den Go.Disk Go.Crc
theorem wrap_far {n : Int} (h : -9223372036854775808 ≤ n) (h2 : n ≤ 9223372036854775839) : IntKind.i64.wrap n = n ∨ IntKind.i64.wrap n < 0 := by
  by_cases h3 : n ≤ 9223372036854775807
  · exact .inl (wrap_i64 h h3)
  · right
    simp only [IntKind.wrap, IntKind.bits, IntKind.signed]
    simp
    omega
theorem rem2 (t : Int) : binv .int .rem (.int .u32 t) (.int .u32 2) = some (.int .u32 (t.tmod 2)) := rfl
theorem quo2 (t : Int) : binv .int .quo (.int .u32 t) (.int .u32 2) = some (.int .u32 (IntKind.u32.wrap (t.tdiv 2))) := rfl
theorem rem8 (kn : Nat) : binv .int .rem (.int .i64 (kn : Int)) (.int .i64 8) = some (.int .i64 ((kn % 8 : Nat) : Int)) := rfl
theorem quo8 (kn : Nat) (h : kn < 1000000000000) : binv .int .quo (.int .i64 (kn : Int)) (.int .i64 8) = some (.int .i64 ((kn / 8 : Nat) : Int)) := by
  rw [binv_quo _ _ _ _ (by omega)]
  congr 2
  rw [show (kn : Int).tdiv 8 = ((kn / 8 : Nat) : Int) from rfl, wrap_i64 (by omega) (by omega)]
def pow8 (m : Nat) : UInt8 := UInt8.ofNat (2 ^ m)
theorem pow8_nat {m : Nat} (h : m < 8) : (pow8 m).toNat = 2 ^ m := by
  unfold pow8
  have : ∀ m : Fin 8, (UInt8.ofNat (2 ^ m.val)).toNat = 2 ^ m.val := by decide
  exact this ⟨m, h⟩
theorem pow8_bit {m j : Nat} (hm : m < 8) : (pow8 m).toBitVec.getLsbD j = decide (j = m) := by
  by_cases hj : j < 8
  · have : ∀ m j : Fin 8, (pow8 m.val).toBitVec.getLsbD j.val = decide (j.val = m.val) := by decide
    exact this ⟨m, hm⟩ ⟨j, hj⟩
  · rw [BitVec.getLsbD_of_ge _ _ (by omega), decide_eq_false (by omega)]
theorem mul8 {j : Nat} (h : j < 7) : binv .int .mul (.int .u8 2) (.int .u8 ((2 ^ j : Nat) : Int)) = some (.int .u8 ((2 ^ (j + 1) : Nat) : Int)) := by
  rw [binv_mul]
  have : ∀ j : Fin 7, 2 * 2 ^ j.val < 256 := by decide
  have hj := this ⟨j, h⟩
  simp only at hj
  rw [show (2 : Int) * ((2 ^ j : Nat) : Int) = ((2 * 2 ^ j : Nat) : Int) by rw [Int.natCast_mul]; rfl, wrap_u8, Nat.mod_eq_of_lt hj, Nat.pow_succ, Nat.mul_comm]
theorem bitD_set {b c : List UInt8} {k : Nat} (hk : k / 8 < c.length) (i : Nat) (h : bitD b (c.set (k / 8) (c.getD (k / 8) 0 ^^^ pow8 (k % 8))) i = true) : i = k ∨ bitD b c i = true := by
  by_cases hik : i = k
  · exact .inl hik
  · right
    unfold bitD at h ⊢
    by_cases hd : i / 8 = k / 8
    · have hm : i % 8 ≠ k % 8 := by omega
      rw [hd] at h ⊢
      rw [List.getD_eq_getElem?_getD (l := List.set _ _ _), List.getElem?_set_self hk, Option.getD_some] at h
      have e : (b.getD (k / 8) 0 ^^^ (c.getD (k / 8) 0 ^^^ pow8 (k % 8))).toBitVec.getLsbD (i % 8) = (b.getD (k / 8) 0 ^^^ c.getD (k / 8) 0).toBitVec.getLsbD (i % 8) := by
        show ((b.getD (k / 8) 0).toBitVec ^^^ ((c.getD (k / 8) 0).toBitVec ^^^ (pow8 (k % 8)).toBitVec)).getLsbD (i % 8) = ((b.getD (k / 8) 0).toBitVec ^^^ (c.getD (k / 8) 0).toBitVec).getLsbD (i % 8)
        rw [BitVec.getLsbD_xor, BitVec.getLsbD_xor, BitVec.getLsbD_xor, pow8_bit (by omega), decide_eq_false hm, Bool.xor_false]
      rw [e] at h
      exact h
    · rw [List.getD_eq_getElem?_getD (l := List.set _ _ _), List.getElem?_set_ne (fun e => hd e.symm), ← List.getD_eq_getElem?_getD] at h
      exact h
set_option linter.unusedSimpArgs false
set_option linter.unusedVariables false
set_option maxRecDepth 20000
set_option maxHeartbeats 4000000
attribute [local congr] BND_cg COND_cg GEF_cg
attribute [local irreducible] capl slicea load1 loadn iaddr iaddra faddr storev newslice binv lookv mupd mdel mlenv mentry mestore slicev slicev3 slices indexs indexav textv rangev nexts clearv shiftv eqaggv convi buildv pickv lens lenl unv nilchk extractv partn JOIN
section
variable {w : World} {R : Value → World → Prop}
theorem r1_Turn {bv : Value} {b : List UInt8} (hb : Arr encB 1 w bv b) (hn : b.length < 1000000) (at_ : Int) (hat : -9223372036854775808 ≤ at_ ∧ at_ ≤ 9223372036854775807) (t : Int)
    (hR : ∀ w' v c G, Burst b c at_ → Slc encB 1 w' v c G → (∀ b ∈ G, hsz w ≤ b) → Fr [] w w' → R v w') : CALL PR F_tumbrelref01_Turn [bv, .int .i64 at_, .int .u32 t] w R := by
  refine C_tumbrelref01_Turn ?_
  unfold M_tumbrelref01_Turn
  refine copy_step (enc := encB) (ys := b) (fun w1 f1 => (hb.fr f1 (by simp)).src encB_len (by omega)) encB_len encB_one rfl (by omega) (by omega) fun v w2 G s2 g2 f2 => ?_
  refine loop_up2 (o := .int .u32 t) 0 32 (fun o i w' => ∃ (t : Int) (c : List UInt8), o = .int .u32 t ∧ Slc encB 1 w' v c G ∧ Fr [] w w' ∧ c.length = b.length ∧ ∀ k : Nat, bitD b c k = true → at_ ≤ k ∧ (k : Int) < at_ + i) ⟨t, b, rfl, s2, f2, rfl, fun k hk => ?_⟩ (by omega) ?_
  · unfold bitD at hk; simp at hk
  rintro o i w3 - hi ⟨t', c, rfl, s3, f3, hcl, hbd⟩ J m hJ
  by_cases hlt : i < 32
  · obtain ⟨k, hk⟩ : ∃ k, k = IntKind.i64.wrap (at_ + (i : Int)) := ⟨_, rfl⟩
    have e1 : binv .int .add (.int .i64 at_) (.int .i64 (i : Int)) = some (.int .i64 k) := by rw [binv_add, ← hk]
    have e2 : binv .int .rem (.int .u32 t') (.int .u32 2) = some (.int .u32 (t'.tmod 2)) := rem2 t'
    have e3 : binv .int .quo (.int .u32 t') (.int .u32 2) = some (.int .u32 (IntKind.u32.wrap (t'.tdiv 2))) := quo2 t'
    have e4 : binv .int .mul (.int .i64 8) (.int .i64 (c.length : Int)) = some (.int .i64 ((8 * c.length : Nat) : Int)) := by rw [binv_mul, wrap_i64 (by omega) (by omega)]; congr 2
    have nxt : ∀ w' c', Slc encB 1 w' v c' G → Fr [] w w' → c'.length = b.length → (∀ k : Nat, bitD b c' k = true → at_ ≤ k ∧ (k : Int) < at_ + ((i + 1 : Nat) : Int)) →
        (BND (binv .int .quo (.int .u32 t') (Value.int .u32 2)) fun t56_85 => BND (binv .int .add (.int .i64 (i : Int)) (Value.int .i64 1)) fun t18_86 => (J t56_85 t18_86 w' ∧ m t56_85 t18_86 w' < m (.int .u32 t') (.int .i64 (i : Int)) w3)) := by
      intro w' c' s' f' hl' hb'
      (repeat (first | refine BND_step e3 ?_ | refine stp ?_ | (apply BND_inc; omega) | (apply BND_dec; omega) | refine BND_step (rfl : some _ = some _) ?_ | (apply cyes; first | assumption | omega) | (apply cno; first | assumption | omega) | refine (COND_true _ _).2 ?_ | refine (COND_false _ _).2 ?_ | simp (disch := first | assumption | omega) only [gs1, gs2, decide_true, decide_false, eq_self, beq_self_eq_true, Bool.not_true, Bool.not_false]))
      exact hJ _ _ hlt ⟨_, c', rfl, s', f', hl', hb'⟩
    have same : ∀ k : Nat, bitD b c k = true → at_ ≤ k ∧ (k : Int) < at_ + ((i + 1 : Nat) : Int) := fun k hk => by have := hbd k hk; omega
    (repeat (first | refine BND_step e1 ?_ | refine BND_step e2 ?_ | refine stp ?_ | (apply BND_inc; omega) | (apply BND_dec; omega) | refine BND_step (rfl : some _ = some _) ?_ | (apply cyes; first | assumption | omega) | (apply cno; first | assumption | omega) | refine (COND_true _ _).2 ?_ | refine (COND_false _ _).2 ?_ | simp (disch := first | assumption | omega) only [gs1, gs2, decide_true, decide_false, eq_self, beq_self_eq_true, Bool.not_true, Bool.not_false]))
    by_cases c1 : t'.tmod 2 = 1
    · by_cases c2 : 0 ≤ k
      · by_cases c3 : k < ((8 * c.length : Nat) : Int)
        · (repeat (first | refine BND_step s3.len ?_ | refine BND_step e4 ?_ | refine stp ?_ | (apply BND_inc; omega) | (apply BND_dec; omega) | refine BND_step (rfl : some _ = some _) ?_ | (apply cyes; first | assumption | omega) | (apply cno; first | assumption | omega) | refine (COND_true _ _).2 ?_ | refine (COND_false _ _).2 ?_ | simp (disch := first | assumption | omega) only [gs1, gs2, decide_true, decide_false, eq_self, beq_self_eq_true, Bool.not_true, Bool.not_false]))
          have hk2 : k = at_ + (i : Int) := by
            rcases wrap_far (n := at_ + (i : Int)) (by omega) (by omega) with h | h
            · rw [hk, h]
            · omega
          obtain ⟨kn, rfl⟩ : ∃ kn : Nat, k = (kn : Int) := ⟨k.toNat, by omega⟩
          have hkd : kn / 8 < c.length := by omega
          have er := rem8 kn
          have eq := quo8 kn (by omega)
          refine join_w (fun w' => ∃ c', Slc encB 1 w' v c' G ∧ Fr [] w w' ∧ c'.length = b.length ∧ ∀ k : Nat, bitD b c' k = true → at_ ≤ k ∧ (k : Int) < at_ + ((i + 1 : Nat) : Int)) (fun K hK => ?_) (fun w' ⟨c', p1, p2, p3, p4⟩ => nxt w' c' p1 p2 p3 p4)
          (repeat (first | refine stp ?_ | (apply BND_inc; omega) | (apply BND_dec; omega) | refine BND_step (rfl : some _ = some _) ?_ | (apply cyes; first | assumption | omega) | (apply cno; first | assumption | omega) | refine (COND_true _ _).2 ?_ | refine (COND_false _ _).2 ?_ | simp (disch := first | assumption | omega) only [gs1, gs2, decide_true, decide_false, eq_self, beq_self_eq_true, Bool.not_true, Bool.not_false]))
          refine loop_up2 (o := .int .u8 1) 0 (kn % 8) (fun o j w' => o = .int .u8 ((2 ^ j : Nat) : Int) ∧ w' = w3) ⟨rfl, rfl⟩ (by omega) ?_
          rintro o j w5 - hj ⟨rfl, rfl⟩ J2 m2 hJ2
          by_cases hj2 : j < kn % 8
          · (repeat (first | refine BND_step er ?_ | refine BND_step (mul8 (j := j) (by omega)) ?_ | refine stp ?_ | (apply BND_inc; omega) | (apply BND_dec; omega) | refine BND_step (rfl : some _ = some _) ?_ | (apply cyes; first | assumption | omega) | (apply cno; first | assumption | omega) | refine (COND_true _ _).2 ?_ | refine (COND_false _ _).2 ?_ | simp (disch := first | assumption | omega) only [gs1, gs2, decide_true, decide_false, eq_self, beq_self_eq_true, Bool.not_true, Bool.not_false]))
            exact hJ2 _ _ hj2 ⟨rfl, rfl⟩
          · obtain rfl : j = kn % 8 := by omega
            obtain ⟨bb, rfl, ia⟩ := s3.iaddr hkd .i64
            have hx := List.getElem?_eq_getElem hkd
            have hg : c.getD (kn / 8) 0 = c[kn / 8] := by rw [List.getD_eq_getElem?_getD, hx]; rfl
            have l1 := s3.load1 (i := kn / 8) (j := 0) hx (by omega)
            replace l1 : load1 w5 (.pointer (some ⟨bb, kn / 8 * 1 + 0, none⟩)) = some (.int .u8 (c[kn / 8].toNat : Int)) := by rw [l1]; rfl
            rw [Nat.add_zero] at l1
            have ex := xor8 c[kn / 8] (pow8 (kn % 8))
            rw [pow8_nat (by omega)] at ex
            obtain ⟨w6, st, s6, f6, _⟩ := s3.set1 (i := kn / 8) (j := 0) (x := c[kn / 8]) (y := c[kn / 8] ^^^ pow8 (kn % 8)) (u := .int .u8 (((c[kn / 8] ^^^ pow8 (kn % 8)).toNat : Nat) : Int)) hx (by omega) (by intro m hm; have h0 : m = 0 := (by omega); subst h0; rfl) rfl rfl
            rw [Nat.add_zero] at st
            (repeat (first | refine BND_step er ?_ | refine BND_step eq ?_ | refine BND_step ia ?_ | refine BND_step l1 ?_ | refine BND_step ex ?_ | refine BND_step st ?_ | refine stp ?_ | (apply BND_inc; omega) | (apply BND_dec; omega) | refine BND_step (rfl : some _ = some _) ?_ | (apply cyes; first | assumption | omega) | (apply cno; first | assumption | omega) | refine (COND_true _ _).2 ?_ | refine (COND_false _ _).2 ?_ | simp (disch := first | assumption | omega) only [gs1, gs2, decide_true, decide_false, eq_self, beq_self_eq_true, Bool.not_true, Bool.not_false]))
            refine hK _ ⟨c.set (kn / 8) (c[kn / 8] ^^^ pow8 (kn % 8)), s6, f3.trans f6 fun b hb => .inr (g2 b hb), by simp [hcl], fun q hq => ?_⟩
            rw [← hg] at hq
            rcases bitD_set hkd q hq with h | h
            · subst h; omega
            · exact same q h
        · (repeat (first | refine BND_step s3.len ?_ | refine BND_step e4 ?_ | refine stp ?_ | (apply BND_inc; omega) | (apply BND_dec; omega) | refine BND_step (rfl : some _ = some _) ?_ | (apply cyes; first | assumption | omega) | (apply cno; first | assumption | omega) | refine (COND_true _ _).2 ?_ | refine (COND_false _ _).2 ?_ | simp (disch := first | assumption | omega) only [gs1, gs2, decide_true, decide_false, eq_self, beq_self_eq_true, Bool.not_true, Bool.not_false]))
          refine join_w (fun w' => w' = w3) (fun K hK => ?_) (fun w' hw => ?_)
          · (repeat (first | refine stp ?_ | (apply BND_inc; omega) | (apply BND_dec; omega) | refine BND_step (rfl : some _ = some _) ?_ | (apply cyes; first | assumption | omega) | (apply cno; first | assumption | omega) | refine (COND_true _ _).2 ?_ | refine (COND_false _ _).2 ?_ | simp (disch := first | assumption | omega) only [gs1, gs2, decide_true, decide_false, eq_self, beq_self_eq_true, Bool.not_true, Bool.not_false]))
            exact hK _ rfl
          · subst hw; exact nxt _ c s3 f3 hcl same
      · (repeat (first | refine stp ?_ | (apply BND_inc; omega) | (apply BND_dec; omega) | refine BND_step (rfl : some _ = some _) ?_ | (apply cyes; first | assumption | omega) | (apply cno; first | assumption | omega) | refine (COND_true _ _).2 ?_ | refine (COND_false _ _).2 ?_ | simp (disch := first | assumption | omega) only [gs1, gs2, decide_true, decide_false, eq_self, beq_self_eq_true, Bool.not_true, Bool.not_false]))
        refine join_w (fun w' => w' = w3) (fun K hK => ?_) (fun w' hw => ?_)
        · (repeat (first | refine stp ?_ | (apply BND_inc; omega) | (apply BND_dec; omega) | refine BND_step (rfl : some _ = some _) ?_ | (apply cyes; first | assumption | omega) | (apply cno; first | assumption | omega) | refine (COND_true _ _).2 ?_ | refine (COND_false _ _).2 ?_ | simp (disch := first | assumption | omega) only [gs1, gs2, decide_true, decide_false, eq_self, beq_self_eq_true, Bool.not_true, Bool.not_false]))
          exact hK _ rfl
        · subst hw; exact nxt _ c s3 f3 hcl same
    · (repeat (first | refine stp ?_ | (apply BND_inc; omega) | (apply BND_dec; omega) | refine BND_step (rfl : some _ = some _) ?_ | (apply cyes; first | assumption | omega) | (apply cno; first | assumption | omega) | refine (COND_true _ _).2 ?_ | refine (COND_false _ _).2 ?_ | simp (disch := first | assumption | omega) only [gs1, gs2, decide_true, decide_false, eq_self, beq_self_eq_true, Bool.not_true, Bool.not_false]))
      refine join_w (fun w' => w' = w3) (fun K hK => ?_) (fun w' hw => ?_)
      · (repeat (first | refine stp ?_ | (apply BND_inc; omega) | (apply BND_dec; omega) | refine BND_step (rfl : some _ = some _) ?_ | (apply cyes; first | assumption | omega) | (apply cno; first | assumption | omega) | refine (COND_true _ _).2 ?_ | refine (COND_false _ _).2 ?_ | simp (disch := first | assumption | omega) only [gs1, gs2, decide_true, decide_false, eq_self, beq_self_eq_true, Bool.not_true, Bool.not_false]))
        exact hK _ rfl
      · subst hw; exact nxt _ c s3 f3 hcl same
  · obtain rfl : i = 32 := by omega
    (repeat (first | refine stp ?_ | (apply BND_inc; omega) | (apply BND_dec; omega) | refine BND_step (rfl : some _ = some _) ?_ | (apply cyes; first | assumption | omega) | (apply cno; first | assumption | omega) | refine (COND_true _ _).2 ?_ | refine (COND_false _ _).2 ?_ | simp (disch := first | assumption | omega) only [gs1, gs2, decide_true, decide_false, eq_self, beq_self_eq_true, Bool.not_true, Bool.not_false]))
    exact hR _ _ c G ⟨hcl.symm, hbd⟩ s3 g2 f3
end
end Go.Proofs.YtmefbneoljpbgaaDoor
