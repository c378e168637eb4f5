
/- The document's numbers as bytes, walked. No condition but sizes. -/
import Derived.Test.YtmefbneoljpbgaaGreatDoorVint
import Derived.Test.YtmefbneoljpbgaaGreatDoorGb
import Derived.Test.YtmefbneoljpbgaaGreatDoorMb
namespace Go.Vint
open Go.Den
def horn : List UInt8 → Nat
  | [] => 0
  | c :: r => c.toNat % 128 + 128 * horn r
theorem horn_snoc : ∀ (l : List UInt8) (c : UInt8), horn (l ++ [c]) = horn l + 128 ^ l.length * (c.toNat % 128)
  | [], c => by simp [horn]
  | a :: l, c => by
    simp only [List.cons_append, horn, horn_snoc l c, List.length_cons]
    rw [Nat.mul_add, ← Nat.mul_assoc, Nat.pow_succ, Nat.mul_comm 128 (128 ^ l.length)]
    omega
theorem horn_lt : ∀ l : List UInt8, horn l < 128 ^ l.length
  | [] => by simp [horn]
  | a :: l => by
    have h := horn_lt l
    simp only [horn, List.length_cons, Nat.pow_succ]
    omega
theorem pow7 (i : Nat) : 2 ^ (7 * (i + 1)) = 128 * 2 ^ (7 * i) := by
  rw [Nat.mul_add, Nat.pow_add]
  show 2 ^ (7 * i) * 128 = _
  omega
theorem getL_lead : ∀ (j : Nat) (b : List UInt8) (i n : Nat), (∀ t, t < j → ∃ c, b[t]? = some c ∧ 128 ≤ c.toNat) → i + j ≤ 9 → getL b i n = getL (b.drop j) (i + j) (n + horn (b.take j) * 2 ^ (7 * i))
  | 0, b, i, n, _, _ => by simp [horn]
  | j + 1, [], i, n, h, _ => by obtain ⟨c, hc, _⟩ := h 0 (by omega); simp at hc
  | j + 1, c :: r, i, n, h, hj => by
    obtain ⟨c', hc, h128⟩ := h 0 (by omega)
    simp at hc; subst hc
    have ih := getL_lead j r (i + 1) (n + c.toNat % 128 * 2 ^ (7 * i)) (fun t ht => by obtain ⟨x, hx, hx2⟩ := h (t + 1) (by omega); exact ⟨x, by simpa using hx, hx2⟩) (by omega)
    rw [getL, if_neg (by omega), if_pos h128, ih]
    simp only [List.drop_succ_cons, List.take_succ_cons, horn]
    rw [show i + 1 + j = i + (j + 1) by omega, pow7, Nat.add_mul, Nat.mul_comm 128 (horn _), Nat.mul_assoc, Nat.add_assoc]
theorem getV_lead {b : List UInt8} {j : Nat} (h : ∀ t, t < j → ∃ c, b[t]? = some c ∧ 128 ≤ c.toNat) (hj : j ≤ 9) : getV b = getL (b.drop j) j (horn (b.take j)) := by
  have := getL_lead j b 0 0 h (by omega)
  simpa [getV] using this
theorem drop_at {b : List UInt8} {m : Nat} {c : UInt8} (h : b[m]? = some c) : b.drop m = c :: b.drop (m + 1) ∧ b.take (m + 1) = b.take m ++ [c] := by
  have hl := (List.getElem?_eq_some_iff.1 h).1
  have he := (List.getElem?_eq_some_iff.1 h).2
  refine ⟨by rw [List.drop_eq_getElem_cons hl, he], by rw [List.take_add_one, h]; rfl⟩
theorem horn_small {b : List UInt8} {m k : Nat} {c : UInt8} (h : b[m]? = some c) (hm : m ≤ 9) (h9 : m = 9 → c.toNat ≤ 1) (hk : k ≤ m) : horn ((b.take (m + 1)).drop k) < 18446744073709551616 := by
  have hl := (List.getElem?_eq_some_iff.1 h).1
  have hlt : (b.take m).length = m := by rw [List.length_take]; omega
  rw [(drop_at h).2, List.drop_append_of_le_length (by omega), horn_snoc]
  have h1 := horn_lt ((b.take m).drop k)
  have hlen : ((b.take m).drop k).length = m - k := by rw [List.length_drop, hlt]
  rw [hlen] at h1 ⊢
  by_cases h8 : m ≤ 8
  · have h2 : 128 ^ (m - k) ≤ 128 ^ 8 := Nat.pow_le_pow_right (by omega) (by omega)
    have h3 : 128 ^ (m - k) * (c.toNat % 128) ≤ 128 ^ 8 * 127 := Nat.mul_le_mul h2 (by omega)
    have h4 : 128 ^ 8 = 72057594037927936 := by decide
    omega
  · have h2 : 128 ^ (m - k) ≤ 128 ^ 9 := Nat.pow_le_pow_right (by omega) (by omega)
    have h3 : 128 ^ (m - k) * (c.toNat % 128) ≤ 128 ^ 9 * 1 := Nat.mul_le_mul h2 (by have := h9 (by omega); omega)
    have h4 : 128 ^ 9 = 9223372036854775808 := by decide
    omega
end Go.Vint
namespace Go.Proofs.YtmefbneoljpbgaaGreatDoor
open Go.Den Go.Disk Go.Vint
theorem remU (x k : Nat) (hk : 0 < k) : binv .int .rem (.int .u64 (x : Int)) (.int .u64 (k : Int)) = some (.int .u64 ((x % k : Nat) : Int)) := by
  rw [binv_rem _ _ _ _ (by omega)]
  rfl
theorem quoU (x k : Nat) (hk : 0 < k) (hx : x < 18446744073709551616) : binv .int .quo (.int .u64 (x : Int)) (.int .u64 (k : Int)) = some (.int .u64 ((x / k : Nat) : Int)) := by
  rw [binv_quo _ _ _ _ (by omega)]
  have e : (x : Int).tdiv (k : Int) = ((x / k : Nat) : Int) := rfl
  have hd := Nat.div_le_self x k
  rw [e]
  generalize x / k = q at hd
  rw [wrap_u64 (by omega) (by omega)]
theorem addU {x y : Nat} (h : x + y < 18446744073709551616) : binv .int .add (.int .u64 (x : Int)) (.int .u64 (y : Int)) = some (.int .u64 ((x + y : Nat) : Int)) := by
  rw [binv_add, wrap_u64 (by omega) (by omega)]
  simp
theorem mulU {x y : Nat} (h : x * y < 18446744073709551616) : binv .int .mul (.int .u64 (x : Int)) (.int .u64 (y : Int)) = some (.int .u64 ((x * y : Nat) : Int)) := by
  have e : (x : Int) * (y : Int) = ((x * y : Nat) : Int) := by simp
  rw [binv_mul, e, wrap_u64 (by omega) (by omega)]
/-- a loop of something made, and a variable that counts down. -/
theorem loop_dn2 {B : (Value → Value → World → Prop) → (Value → Value → World → Nat) → Value → Value → World → Prop} {w : World} {o t : Value} (n : Nat) (I : Value → Nat → World → Prop) (ht : t = .int .i64 ((n : Int) - 1)) (h0 : I o n w)
    (h : ∀ o k w1, k ≤ n → I o k w1 → ∀ J m, (∀ o' w', 0 < k → I o' (k - 1) w' → J o' (.int .i64 ((k : Int) - 1 - 1)) w' ∧ m o' (.int .i64 ((k : Int) - 1 - 1)) w' < m o (.int .i64 ((k : Int) - 1)) w1) → B J m o (.int .i64 ((k : Int) - 1)) w1) :
    ∃ (J : Value → Value → World → Prop) (m : Value → Value → World → Nat), J o t w ∧ ∀ (_d : Env) (o t : Value) (w1 : World), J o t w1 → B J m o t w1 := by
  refine ⟨fun o t w' => ∃ i : Nat, t = .int .i64 ((i : Int) - 1) ∧ i ≤ n ∧ I o i w', fun _ t _ => match t with | .int _ k => (k + 1).toNat | _ => 0, ⟨n, ht, Nat.le_refl _, h0⟩, ?_⟩
  rintro _ o _ w1 ⟨i, rfl, h1, h3⟩
  exact h o i w1 h1 h3 _ _ fun o' w' h4 h5 => ⟨⟨i - 1, by congr 1; omega, by omega, h5⟩, by simp; omega⟩
set_option linter.unusedSimpArgs false
set_option linter.unusedVariables false
set_option maxRecDepth 20000
set_option maxHeartbeats 4000000
attribute [local congr] BND_cg COND_cg GEF_cg
attribute [local irreducible] capl slicea load1 loadn iaddr iaddra faddr storev newslice binv lookv mupd mdel mlenv mentry mestore slicev slicev3 slices indexs indexav textv rangev nexts clearv shiftv eqaggv convi buildv pickv lens lenl unv nilchk extractv partn JOIN
theorem r2_Put : ∀ (n : Nat), n < 18446744073709551616 → ∀ {w : World} {R : Value → World → Prop}, (∀ w' v G, Slc encB 1 w' v (layV n) G → (∀ b ∈ G, hsz w ≤ b) → Fr [] w w' → R v w') → CALL PR F_tumbrelref02_Put [.int .u64 (n : Int)] w R := by
  intro n
  induction n using Nat.strongRecOn with
  | _ n ih =>
    intro hn w R hR
    refine C_tumbrelref02_Put ?_
    unfold M_tumbrelref02_Put
    have key : ∀ m : Nat, convi .u8 (.int .u64 (m : Int)) = some (.int .u8 ((UInt8.ofNat m).toNat : Int)) := fun m => by rw [conv8n, UInt8.toNat_ofNat']
    by_cases h1 : n < 128
    · (repeat (first | refine BND_step (key n) ?_ | refine gg ?_))
      refine newone_step (enc := encB) (x := UInt8.ofNat n) (y := .int .u8 ((UInt8.ofNat n).toNat : Int)) encB_len rfl fun t w1 s1 f1 z1 => ?_
      rw [layV_lt h1] at hR
      exact hR _ _ _ s1 (by simp) f1
    · have e2 : binv .int .add (.int .u64 128) (.int .u64 ((n % 128 : Nat) : Int)) = some (.int .u64 ((n % 128 + 128 : Nat) : Int)) := by
        rw [Nat.add_comm]; exact addU (x := 128) (by omega)
      (repeat (first | refine BND_step (remU n 128 (by omega)) ?_ | refine BND_step (key _) ?_ | refine gg ?_))
      refine newone_step (enc := encB) (x := UInt8.ofNat (n % 128 + 128)) (y := .int .u8 ((UInt8.ofNat (n % 128 + 128)).toNat : Int)) encB_len rfl fun t w1 s1 f1 z1 => ?_
      (repeat (first | refine BND_step (quoU n 128 (by omega) hn) ?_ | refine gg ?_))
      refine ih (n / 128) (by omega) (by omega) fun w2 v2 G2 s2 g2 f2 => ?_
      have hl := layV_le (n / 128) (by omega)
      refine APPEND_slc (s1.fr f2 (by simp)) (s2.loads encB_len) encB_len encB_one rfl (by simp; omega) (by simp; omega) fun v3 w3 G3 s3 f3 g3 => ?_
      rw [layV_ge h1] at hR
      have gr1 := f1.grow
      have gr2 := f2.grow
      refine hR _ _ G3 s3 (fun b hb => ?_) ((f1.trans' f2).trans f3 fun b hb => .inr (by simp at hb; omega))
      rcases g3 b hb with h | h
      · simp at h; omega
      · omega
section
variable {w : World} {R : Value → World → Prop}
theorem r2_All {lv : Value} {ns : List Nat} (hl : Arr encU 1 w lv ns) (hs : ∀ n ∈ ns, n < 18446744073709551616) (hn : ns.length < 1000000) (hR : ∀ w' v G, Slc encB 1 w' v (ns.flatMap layV) G → (∀ b ∈ G, hsz w ≤ b) → Fr [] w w' → R v w') : CALL PR F_tumbrelref02_All [lv] w R := by
  refine C_tumbrelref02_All ?_
  unfold M_tumbrelref02_All
  refine newnil_step encB fun t w1 s1 f1 z1 => ?_
  refine loop_up2 (o := t) 0 ns.length (fun o i w' => ∃ G, Slc encB 1 w' o ((ns.take i).flatMap layV) G ∧ (∀ b ∈ G, hsz w ≤ b) ∧ Fr [] w w') ⟨_, s1, by simp, f1⟩ (by omega) ?_
  rintro o i w2 - hi ⟨G, s2, g2, f2⟩ J m hJ
  by_cases hlt : i < ns.length
  · have hx := List.getElem?_eq_getElem hlt
    have hm := List.getElem_mem hlt
    generalize ns[i] = n at hx hm
    obtain ⟨b1, o1, i1, _, _, l1⟩ := (hl.fr f2 (by simp)).spot hx rfl .i64
    (repeat (first | refine BND_step hl.len ?_ | refine BND_step (l1 (w' := w2) rfl (j := 0) rfl) ?_ | refine gg ?_))
    refine r2_Put n (hs n hm) fun w3 v3 G3 s3 g3 f3 => ?_
    have hl1 := layV_le n (hs n hm)
    have hl2 : ∀ l : List Nat, (∀ x ∈ l, x < 18446744073709551616) → (l.flatMap layV).length ≤ 10 * l.length := by
      intro l
      induction l with
      | nil => intro _; simp
      | cons a l ih =>
        intro h
        have h1 := layV_le a (h a (by simp))
        have h2 := ih fun x hx => h x (by simp [hx])
        simp only [List.flatMap_cons, List.length_append, List.length_cons]; omega
    have hl3 := hl2 (ns.take i) fun x hx => hs x (List.mem_of_mem_take hx)
    have hl4 : (ns.take i).length = i := by rw [List.length_take]; omega
    refine APPEND_slc (s2.fr f3 (by simp)) (s3.loads encB_len) encB_len encB_one rfl (by omega) (by omega) fun v4 w4 G4 s4 f4 g4 => ?_
    have gr2 := f2.grow
    have gr3 := f3.grow
    (repeat refine gg ?_)
    refine hJ _ _ hlt ⟨G4, ?_, fun b hb => ?_, (f2.trans' f3).trans f4 fun b hb => .inr (g2 b hb)⟩
    · have e : (ns.take (i + 1)).flatMap layV = (ns.take i).flatMap layV ++ layV n := by rw [List.take_add_one, hx]; simp
      rw [e]; exact s4
    · rcases g4 b hb with h | h
      · exact g2 b h
      · omega
  · obtain rfl : i = ns.length := by omega
    rw [List.take_length] at s2
    (repeat (first | refine BND_step hl.len ?_ | refine gg ?_))
    exact hR _ _ _ s2 g2 f2
theorem r2_Get {bv : Value} {bs : List UInt8} (hb : Arr encB 1 w bv bs) (hn : bs.length < 1000000000) (hR : R (.tuple #[.int .u64 ((getV bs).1 : Int), .int .i64 ((getV bs).2.1 : Int), .int .i64 (getV bs).2.2]) w) : CALL PR F_tumbrelref02_Get [bv] w R := by
  refine C_tumbrelref02_Get ?_
  unfold M_tumbrelref02_Get
  refine loop_up 0 (min bs.length 9) (fun i w' => w' = w ∧ ∀ t, t < i → ∃ c, bs[t]? = some c ∧ 128 ≤ c.toNat) ⟨rfl, by simp⟩ (by omega) ?_
  rintro i w1 - hi ⟨rfl, hp⟩ J m hJ
  have hv := getV_lead hp (by omega)
  by_cases hlt : i < bs.length
  · have hx := List.getElem?_eq_getElem hlt
    generalize bs[i] = c at hx
    obtain ⟨d1, d2⟩ := drop_at hx
    rw [d1, getL] at hv
    obtain ⟨b1, o1, i1, _, _, l1⟩ := hb.spot hx rfl .i64
    have ld := l1 (w' := w1) rfl (j := 0) rfl
    have fin : ∀ (h9 : i = 9 → c.toNat ≤ 1) (hz : ¬ (c.toNat = 0 ∧ 0 < i)) (hc : c.toNat < 128), ∃ (J_50 : Value → Value → World → Prop) (m_50 : Value → Value → World → Nat), J_50 (Value.int .u64 0) (.int .i64 (i : Int)) w1 ∧ ∀ (_d_50 : Env) (n_51 i_52 : Value) (w2 : World), J_50 n_51 i_52 w2 →
        (BND (binv .int .geq i_52 (Value.int .i64 0)) fun t50_66 =>
        COND t50_66
        (BND (binv .int .mul (Value.int .u64 128) n_51) fun t54_67 =>
        BND (iaddr 1 bv i_52) fun t57_68 =>
        BND (load1 w2 t57_68) fun t58_69 =>
        BND (binv .int .rem t58_69 (Value.int .u8 128)) fun t59_70 =>
        BND (convi .u64 t59_70) fun t60_71 =>
        BND (binv .int .add t54_67 t60_71) fun t61_72 =>
        BND (binv .int .sub i_52 (Value.int .i64 1)) fun t52_73 =>
        (J_50 t61_72 t52_73 w2 ∧ m_50 t61_72 t52_73 w2 < m_50 n_51 i_52 w2))
        (BND (binv .int .add (.int .i64 (i : Int)) (Value.int .i64 1)) fun t64_74 =>
        R (.tuple #[n_51, t64_74, (Value.int .i64 0)]) w2)) := by
      intro h9 hz hc
      refine loop_dn2 (o := .int .u64 0) (i + 1) (fun o k w' => o = .int .u64 (horn ((bs.take (i + 1)).drop k) : Int) ∧ w' = w1) (by congr 1; omega) ⟨?_, rfl⟩ ?_
      · rw [List.drop_of_length_le (by rw [List.length_take]; omega)]; rfl
      rintro _ k w2 hk ⟨rfl, rfl⟩ J2 m2 hJ2
      cases k with
      | zero =>
        (repeat refine gg ?_)
        rw [List.drop_zero, d2, horn_snoc] at *
        have e1 : (bs.take i).length = i := by rw [List.length_take]; omega
        rw [e1]
        rw [if_neg (by omega), if_neg (by omega), if_neg hz] at hv
        rw [hv] at hR
        have e2 : 2 ^ (7 * i) = 128 ^ i := by rw [Nat.pow_mul]
        simp only [e2] at hR
        rw [Nat.mul_comm]
        exact hR
      | succ j =>
        have ej : (((j + 1 : Nat) : Int) - 1) = (j : Int) := by omega
        have hxj := List.getElem?_eq_getElem (l := bs) (i := j) (by omega)
        generalize bs[j] = cj at hxj
        obtain ⟨bj, oj, ij, _, _, lj⟩ := hb.spot hxj rfl .i64
        have hdj : (bs.take (i + 1)).drop j = cj :: (bs.take (i + 1)).drop (j + 1) := by
          have : (bs.take (i + 1))[j]? = some cj := by rw [List.getElem?_take]; rw [if_pos (by omega)]; exact hxj
          exact (drop_at this).1
        have hs := horn_small hx (by omega) h9 (k := j) (by omega)
        rw [hdj, horn] at hs
        have esub : binv .int .sub (.int .i64 (j : Int)) (.int .i64 1) = some (.int .i64 (((j + 1 : Nat) : Int) - 1 - 1)) := by rw [binv_sub, wrap_i64 (by omega) (by omega), ej]
        rw [ej] at hJ2 ⊢
        rw [show ((j : Int) - 1) = (((j + 1 : Nat) : Int) - 1 - 1) by omega] at hJ2
        have emul : binv .int .mul (.int .u64 128) (.int .u64 ((horn ((bs.take (i + 1)).drop (j + 1)) : Nat) : Int)) = some (.int .u64 ((128 * horn ((bs.take (i + 1)).drop (j + 1)) : Nat) : Int)) := mulU (x := 128) (by omega)
        have eadd := addU (x := 128 * horn ((bs.take (i + 1)).drop (j + 1))) (y := cj.toNat % 128) (by omega)
        (repeat (first | refine BND_step (lj (w' := w2) rfl (j := 0) rfl) ?_ | refine BND_step (rem128 cj) ?_ | refine BND_step (convu64 (k := .u8) (x := cj.toNat % 128) (by omega)) ?_ | refine gg ?_))
        refine hJ2 _ _ (by omega) ⟨?_, rfl⟩
        rw [show j + 1 - 1 = j by omega, hdj, horn, Nat.add_comm]
    by_cases h9 : i < 9
    · by_cases h128 : 128 ≤ c.toNat
      · have h128' : (128 : Int) ≤ (c.toNat : Int) := by omega
        (repeat (first | refine BND_step hb.len ?_ | refine gg ?_))
        refine hJ _ (by omega) ⟨rfl, fun t ht => ?_⟩
        by_cases h : t < i
        · exact hp t h
        · obtain rfl : t = i := by omega
          exact ⟨c, hx, h128⟩
      · have h128' : ¬ (128 : Int) ≤ (c.toNat : Int) := by omega
        by_cases hz : c.toNat = 0 ∧ 0 < i
        · have hz1 : (c.toNat : Int) = 0 := by omega
          (repeat (first | refine BND_step hb.len ?_ | refine gg ?_))
          rw [if_neg (by omega), if_neg h128, if_pos hz] at hv
          rw [hv] at hR
          exact hR
        · by_cases hi0 : 0 < i
          · have hz1 : ¬ (c.toNat : Int) = 0 := by omega
            (repeat (first | refine BND_step hb.len ?_ | refine gg ?_))
            exact fin (by omega) hz (by omega)
          · (repeat (first | refine BND_step hb.len ?_ | refine gg ?_))
            exact fin (by omega) hz (by omega)
    · obtain rfl : i = 9 := by omega
      by_cases h1 : 1 < c.toNat
      · have h1' : (1 : Int) < (c.toNat : Int) := by omega
        (repeat (first | refine BND_step hb.len ?_ | refine gg ?_))
        rw [if_pos (by omega)] at hv
        rw [hv] at hR
        exact hR
      · have h1' : ¬ (1 : Int) < (c.toNat : Int) := by omega
        by_cases hz : c.toNat = 0
        · have hz1 : (c.toNat : Int) = 0 := by omega
          (repeat (first | refine BND_step hb.len ?_ | refine gg ?_))
          rw [if_neg (by omega), if_neg (by omega), if_pos (by omega)] at hv
          rw [hv] at hR
          exact hR
        · have hz1 : ¬ (c.toNat : Int) = 0 := by omega
          (repeat (first | refine BND_step hb.len ?_ | refine gg ?_))
          exact fin (by omega) (by omega) (by omega)
  · obtain rfl : i = bs.length := by omega
    rw [List.drop_of_length_le (by omega), getL] at hv
    rw [hv] at hR
    (repeat (first | refine BND_step hb.len ?_ | refine gg ?_))
    exact hR
end
end Go.Proofs.YtmefbneoljpbgaaGreatDoor
