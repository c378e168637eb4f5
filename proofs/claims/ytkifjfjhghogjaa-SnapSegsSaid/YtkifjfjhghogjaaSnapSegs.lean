/- slices.Compact of numbers; Segs: by the program, by the document. No condition but sizes. -/
import Derived.Test.YtkifjfjhghogjaaSnapOwn3
import Derived.Test.YtkifjfjhghogjaaMa
namespace Go.Proofs.Ytkifjfjhghogjaa
open Go.Den

/-! ## Plain -/
abbrev ax (xs : List Int) (i : Nat) : Int := Sort64.at0 xs i
/-- of things that stand one behind the other just the first one of those that are the same. -/
def cp (xs : List Int) : Nat → List Int
  | 0 => []
  | n + 1 => if 0 < n ∧ ax xs n = ax xs (n - 1) then cp xs n else cp xs n ++ [ax xs n]
theorem cp_len (xs : List Int) : ∀ n, (cp xs n).length ≤ n
  | 0 => by simp [cp]
  | n + 1 => by
    have := cp_len xs n
    simp only [cp]; split
    · omega
    · simp; omega
theorem cp_pos (xs : List Int) : ∀ n, 0 < n → 0 < (cp xs n).length
  | 1, _ => by simp [cp]
  | n + 2, _ => by
    have := cp_pos xs (n + 1) (by omega)
    simp only [cp] at *; split
    · exact this
    · simp
theorem cp_mem (xs : List Int) : ∀ n, n ≤ xs.length → ∀ x, x ∈ cp xs n ↔ x ∈ xs.take n
  | 0, _, x => by simp [cp]
  | n + 1, h, x => by
    have ih := cp_mem xs n (by omega) x
    have hx : xs[n]? = some (ax xs n) := Sort64.at0_get (by omega)
    rw [List.take_add_one, hx]
    simp only [cp, Option.toList, List.mem_append, List.mem_cons, List.not_mem_nil, or_false]
    split
    · rename_i h1
      rw [ih]
      refine ⟨fun h => .inl h, fun h => ?_⟩
      rcases h with h | rfl
      · exact h
      · rw [h1.2, List.mem_iff_getElem?]
        exact ⟨n - 1, by rw [List.getElem?_take, if_pos (by omega)]; exact Sort64.at0_get (by omega)⟩
    · rw [List.mem_append, ih]; simp
theorem cp_rise {xs : List Int} (hs : xs.Pairwise (· ≤ ·)) : ∀ n, n ≤ xs.length → (cp xs n).Pairwise (· < ·) ∧ (∀ x ∈ cp xs n, x ≤ ax xs (n - 1))
  | 0, _ => by simp [cp]
  | n + 1, h => by
    obtain ⟨ih1, ih2⟩ := cp_rise hs n (by omega)
    have hle : 0 < n → ax xs (n - 1) ≤ ax xs n := fun h0 => by
      have := List.pairwise_iff_getElem.1 hs (n - 1) n (by omega) (by omega) (by omega)
      have e1 : xs[n - 1]? = some (ax xs (n - 1)) := Sort64.at0_get (by omega)
      have e2 : xs[n]? = some (ax xs n) := Sort64.at0_get (by omega)
      rw [List.getElem?_eq_getElem (by omega)] at e1 e2
      rw [Option.some.inj e1, Option.some.inj e2] at this
      exact this
    simp only [cp, Nat.add_sub_cancel]
    split
    · rename_i h1
      exact ⟨ih1, fun x hx => by have := ih2 x hx; have := hle h1.1; omega⟩
    · rename_i h1
      refine ⟨List.pairwise_append.2 ⟨ih1, by simp, fun a ha b hb => ?_⟩, fun x hx => ?_⟩
      · simp at hb; subst hb
        have h2 := ih2 a ha
        have h3 : 0 < n := by
          rcases Nat.eq_zero_or_pos n with h0 | h0
          · subst h0; simp [cp] at ha
          · exact h0
        have h4 := hle h3
        have h5 : ¬ ax xs n = ax xs (n - 1) := fun e => h1 ⟨h3, e⟩
        omega
      · rcases List.mem_append.1 hx with hx | hx
        · have h2 := ih2 x hx
          have h3 : 0 < n := by
            rcases Nat.eq_zero_or_pos n with h0 | h0
            · subst h0; simp [cp] at hx
            · exact h0
          have := hle h3
          omega
        · simp at hx; omega
/-- lists that rise, of the same things, are the same. -/
theorem rise_same : ∀ {xs ys : List Int}, xs.Pairwise (· < ·) → ys.Pairwise (· < ·) → (∀ x, x ∈ xs ↔ x ∈ ys) → xs = ys
  | [], [], _, _, _ => rfl
  | [], y :: ys, _, _, h => by have := (h y).2 (by simp); simp at this
  | x :: xs, [], _, _, h => by have := (h x).1 (by simp); simp at this
  | x :: xs, y :: ys, hx, hy, h => by
    obtain ⟨p1, p2⟩ := List.pairwise_cons.1 hx
    obtain ⟨q1, q2⟩ := List.pairwise_cons.1 hy
    have hxy : x = y := by
      have h1 := (h x).1 (by simp)
      have h2 := (h y).2 (by simp)
      rcases List.mem_cons.1 h1 with h1 | h1
      · exact h1
      · rcases List.mem_cons.1 h2 with h2 | h2
        · exact h2.symm
        · have := p1 y h2; have := q1 x h1; omega
    subst hxy
    congr 1
    refine rise_same p2 q2 fun z => ?_
    constructor
    · intro hz
      rcases List.mem_cons.1 ((h z).1 (by simp [hz])) with h1 | h1
      · have := p1 z hz; omega
      · exact h1
    · intro hz
      rcases List.mem_cons.1 ((h z).2 (by simp [hz])) with h1 | h1
      · have := q1 z hz; omega
      · exact h1
section
variable {w : World}
theorem slc_form {α : Type} {enc : α → List Value} {sz : Nat} {v : Value} {xs : List α} {F : List Nat} (s : Slc enc sz w v xs F) (h : 0 < xs.length) : ∃ b cap, v = .slice (some ⟨b, 0, none⟩) xs.length cap ∧ xs.length ≤ cap ∧ F = [b] := by
  rcases s with ⟨_, rfl, _⟩ | ⟨b, cap, c, T, rfl, _, hc, _, rfl, _⟩
  · simp at h
  · exact ⟨b, cap, rfl, hc, rfl⟩
/-- an element of a slice's tail. -/
theorem slc_tail {v : Value} {xs : List Int} {b cap : Nat} (s : Slc encU 1 w v xs [b]) (hv : v = .slice (some ⟨b, 0, none⟩) xs.length cap) {k j : Nat} (hj : k + j < xs.length) :
    iaddr 1 (.slice (if cap = k then some ⟨b, 0, none⟩ else some ((⟨b, 0, none⟩ : Addr).add (k * 1))) (xs.length - k) (cap - k)) (.int .i64 (j : Int)) = some (.pointer (some ⟨b, k + j, none⟩)) ∧ ∀ w', blk w' b = blk w b → load1 w' (.pointer (some ⟨b, k + j, none⟩)) = some (.int .u64 (ax xs (k + j))) := by
  obtain ⟨cap', c, T, hv', hb, hc, hs, he⟩ := s.cells rfl
  rw [hv] at hv'
  cases hv'
  constructor
  · simp only [iaddr, Int.toNat_natCast]
    by_cases hck : cap = k
    · omega
    · simp only [hck, if_false]
      rw [if_pos (by omega)]
      simp [add_none]
  · intro w' hw
    rw [load1_blk (hw.trans hb)]
    have := he (k + j) _ (Sort64.at0_get hj) 0 (by omega)
    simpa using this
theorem slicev_from {sz : Nat} {a : Option Addr} {n cap l : Nat} (h1 : n ≤ cap) (h2 : l ≤ n) : slicev sz (.slice a n cap) (some (.int .i64 (l : Int))) none = some (.slice (if cap = l then a else a.map (·.add (l * sz))) (n - l) (cap - l)) := by
  unfold slicev
  simp [natOf, h1, h2]
theorem slicev_to {sz : Nat} {a : Option Addr} {n cap h : Nat} (h1 : h ≤ cap) : slicev sz (.slice a n cap) none (some (.int .i64 (h : Int))) = some (.slice (if cap = 0 then a else a.map (·.add (0 * sz))) h cap) := by
  unfold slicev
  simp [natOf, h1]
end
set_option linter.unusedSimpArgs false
set_option linter.unusedVariables false
set_option maxRecDepth 20000
set_option maxHeartbeats 4000000
attribute [local congr] BND_cg COND_cg GEF_cg
attribute [local irreducible] load1 loadn iaddr iaddra faddr storev newslice binv lookv mupd mdel mlenv mentry mestore slicev slicev3 slices indexs indexav textv rangev nexts clearv shiftv eqaggv convi buildv pickv lens lenl unv nilchk extractv partn JOIN
section
variable {w : World} {R : Value → World → Prop}
theorem sl_Compact {v : Value} {xs : List Int} {F : List Nat} (s : Slc encU 1 w v xs F) (hn : xs.length < 1000000) (hR : ∀ w' v', Slc encU 1 w' v' (cp xs xs.length) F → Fr F w w' → R v' w') : CALL PR F_slices_Compact_uint64_uint64 [v] w R := by
  refine C_slices_Compact_uint64_uint64 ?_
  unfold M_slices_Compact_uint64_uint64
  (repeat (first | refine BND_step s.len ?_ | refine stp ?_ | (apply BND_inc; omega) | (apply BND_dec; omega) | refine BND_step rfl ?_ | (apply cyes; first | assumption | omega) | (apply cno; first | assumption | omega) | refine (COND_true _ _).2 ?_ | refine (COND_false _ _).2 ?_ | simp (disch := first | assumption | omega) only [gs1, gs2, decide_true, decide_false, eq_self, beq_self_eq_true, Bool.not_true, Bool.not_false]))
  by_cases h2 : xs.length < 2
  · (repeat (first | refine stp ?_ | (apply BND_inc; omega) | (apply BND_dec; omega) | refine BND_step rfl ?_ | (apply cyes; first | assumption | omega) | (apply cno; first | assumption | omega) | refine (COND_true _ _).2 ?_ | refine (COND_false _ _).2 ?_ | simp (disch := first | assumption | omega) only [gs1, gs2, decide_true, decide_false, eq_self, beq_self_eq_true, Bool.not_true, Bool.not_false]))
    refine hR w v ?_ (Fr.refl _ _)
    have : cp xs xs.length = xs := by
      match xs, h2 with
      | [], _ => rfl
      | [a], _ => simp [cp, ax, Sort64.at0]
    rw [this]; exact s
  (repeat (first | refine stp ?_ | (apply BND_inc; omega) | (apply BND_dec; omega) | refine BND_step rfl ?_ | (apply cyes; first | assumption | omega) | (apply cno; first | assumption | omega) | refine (COND_true _ _).2 ?_ | refine (COND_false _ _).2 ?_ | simp (disch := first | assumption | omega) only [gs1, gs2, decide_true, decide_false, eq_self, beq_self_eq_true, Bool.not_true, Bool.not_false]))
  obtain ⟨b, cap, hv, hcap, rfl⟩ := slc_form s (by omega)
  have ax_at : ∀ {w'}, Slc encU 1 w' v xs [b] → ∀ {i : Nat}, i < xs.length → iaddr 1 v (.int .i64 (i : Int)) = some (.pointer (some ⟨b, i, none⟩)) ∧ load1 w' (.pointer (some ⟨b, i, none⟩)) = some (.int .u64 (ax xs i)) := by
    intro w' s' i hi
    obtain ⟨b', e, ei⟩ := s'.iaddr hi .i64
    simp at e; subst e
    rw [Nat.mul_one] at ei
    have := s'.load1 (i := i) (j := 0) (Sort64.at0_get hi) (by omega)
    rw [Nat.mul_one] at this
    exact ⟨ei, this⟩
  refine loop_up 1 xs.length (fun i w' => Fr [] w w' ∧ cp xs i = xs.take i) ⟨Fr.refl _ _, ?_⟩ (by omega) ?_
  · match xs, h2 with
    | a :: _, _ => simp [cp, ax, Sort64.at0]
  rintro i w1 h1 hi ⟨f1, e⟩ J m hJ
  (repeat (first | refine BND_step s.len ?_ | refine stp ?_ | (apply BND_inc; omega) | (apply BND_dec; omega) | refine BND_step rfl ?_ | (apply cyes; first | assumption | omega) | (apply cno; first | assumption | omega) | refine (COND_true _ _).2 ?_ | refine (COND_false _ _).2 ?_ | simp (disch := first | assumption | omega) only [gs1, gs2, decide_true, decide_false, eq_self, beq_self_eq_true, Bool.not_true, Bool.not_false]))
  by_cases hlt : i < xs.length
  rotate_left
  · (repeat (first | refine stp ?_ | (apply BND_inc; omega) | (apply BND_dec; omega) | refine BND_step rfl ?_ | (apply cyes; first | assumption | omega) | (apply cno; first | assumption | omega) | refine (COND_true _ _).2 ?_ | refine (COND_false _ _).2 ?_ | simp (disch := first | assumption | omega) only [gs1, gs2, decide_true, decide_false, eq_self, beq_self_eq_true, Bool.not_true, Bool.not_false]))
    refine hR w1 v ?_ f1.nil
    have : i = xs.length := by omega
    subst this
    rw [e, List.take_length]; exact s.fr f1 (by simp)
  have f1d := f1.trans' (Fr.drew [] w1)
  have sd := s.fr f1d (by simp)
  obtain ⟨i1, l1⟩ := ax_at sd hlt
  obtain ⟨i2, l2⟩ := ax_at sd (i := i - 1) (by omega)
  (repeat (first | refine BND_step i1 ?_ | refine BND_step i2 ?_ | refine BND_step l1 ?_ | refine BND_step l2 ?_ | refine stp ?_ | (apply BND_inc; omega) | (apply BND_dec; omega) | refine BND_step rfl ?_ | (apply cyes; first | assumption | omega) | (apply cno; first | assumption | omega) | refine (COND_true _ _).2 ?_ | refine (COND_false _ _).2 ?_ | simp (disch := first | assumption | omega) only [gs1, gs2, decide_true, decide_false, eq_self, beq_self_eq_true, Bool.not_true, Bool.not_false]))
  by_cases he : ax xs i = ax xs (i - 1)
  rotate_left
  · (repeat (first | refine stp ?_ | (apply BND_inc; omega) | (apply BND_dec; omega) | refine BND_step rfl ?_ | (apply cyes; first | assumption | omega) | (apply cno; first | assumption | omega) | refine (COND_true _ _).2 ?_ | refine (COND_false _ _).2 ?_ | simp (disch := first | assumption | omega) only [gs1, gs2, decide_true, decide_false, eq_self, beq_self_eq_true, Bool.not_true, Bool.not_false]))
    refine hJ _ hlt ⟨f1d, ?_⟩
    rw [cp, if_neg (fun h => he h.2), e, List.take_add_one, Sort64.at0_get hlt]; rfl
  (repeat (first | refine stp ?_ | (apply BND_inc; omega) | (apply BND_dec; omega) | refine BND_step rfl ?_ | (apply cyes; first | assumption | omega) | (apply cno; first | assumption | omega) | refine (COND_true _ _).2 ?_ | refine (COND_false _ _).2 ?_ | simp (disch := first | assumption | omega) only [gs1, gs2, decide_true, decide_false, eq_self, beq_self_eq_true, Bool.not_true, Bool.not_false]))
  have esl : slicev 1 v (some (.int .i64 (i : Int))) none = some (.slice (if cap = i then some ⟨b, 0, none⟩ else some ((⟨b, 0, none⟩ : Addr).add (i * 1))) (xs.length - i) (cap - i)) := by
    rw [hv, slicev_from hcap (by omega)]; rfl
  have base : cp xs (i + 1) = xs.take i := by rw [cp, if_pos ⟨by omega, he⟩, e]
  refine BND_step esl ?_
  -- what stands at the head, and behind
  refine ⟨fun k t w' => ∃ (kk j : Nat) (ys : List Int), k = .int .i64 kk ∧ t = .int .i64 j ∧ 1 ≤ j ∧ i + j ≤ xs.length ∧ kk + 1 ≤ i + j ∧ Slc encU 1 w' v ys [b] ∧ ys.length = xs.length ∧ ys.take kk = cp xs (i + j) ∧ (∀ q, i + j ≤ q + 1 → ax ys q = ax xs q) ∧ Fr [b] w w', fun _ t _ => match t with | .int _ n => xs.length - n.toNat | _ => 0,
    ⟨i, 1, xs, rfl, rfl, by omega, by omega, by omega, sd, rfl, base.symm, fun _ _ => rfl, f1d.nil⟩, ?_⟩
  rintro _ _ _ w2 ⟨kk, j, ys, rfl, rfl, hj1, hj2, hkk, s2, hyl, htk, hsame, f2⟩
  by_cases hj : i + j < xs.length
  · have s2d := s2.fr (Fr.drew [] w2) (by simp)
    have hv2 : v = .slice (some ⟨b, 0, none⟩) ys.length cap := by rw [hyl]; exact hv
    obtain ⟨t1, t2⟩ := slc_tail s2d hv2 (k := i) (j := j) (by omega)
    obtain ⟨t3, t4⟩ := slc_tail s2d hv2 (k := i) (j := j - 1) (by omega)
    rw [hyl] at t1 t3
    have l3 := t2 _ rfl
    have l4 := t4 _ rfl
    rw [hsame _ (by omega)] at l3 l4
    (repeat (first | refine BND_step t1 ?_ | refine BND_step t3 ?_ | refine BND_step l3 ?_ | refine BND_step l4 ?_ | refine stp ?_ | (apply BND_inc; omega) | (apply BND_dec; omega) | refine BND_step rfl ?_ | (apply cyes; first | assumption | omega) | (apply cno; first | assumption | omega) | refine (COND_true _ _).2 ?_ | refine (COND_false _ _).2 ?_ | simp (disch := first | assumption | omega) only [gs1, gs2, decide_true, decide_false, eq_self, beq_self_eq_true, Bool.not_true, Bool.not_false]))
    have hij : i + (j - 1) = i + j - 1 := by omega
    refine join_v (fun v2 w' => ∃ (kk' : Nat) (ys' : List Int), v2 = .int .i64 kk' ∧ kk' + 1 ≤ i + j + 1 ∧ Slc encU 1 w' v ys' [b] ∧ ys'.length = xs.length ∧ ys'.take kk' = cp xs (i + j + 1) ∧ (∀ q, i + j + 1 ≤ q + 1 → ax ys' q = ax xs q) ∧ Fr [b] w w') (fun K hK => ?_) ?_
    · by_cases hne : ax xs (i + j) = ax xs (i + (j - 1))
      · (repeat (first | refine stp ?_ | (apply BND_inc; omega) | (apply BND_dec; omega) | refine BND_step rfl ?_ | (apply cyes; first | assumption | omega) | (apply cno; first | assumption | omega) | refine (COND_true _ _).2 ?_ | refine (COND_false _ _).2 ?_ | simp (disch := first | assumption | omega) only [gs1, gs2, decide_true, decide_false, eq_self, beq_self_eq_true, Bool.not_true, Bool.not_false]))
        refine hK _ _ ⟨kk, ys, rfl, by omega, s2d, hyl, ?_, fun q hq => hsame q (by omega), f2.trans' (Fr.drew _ _)⟩
        rw [htk, cp, if_pos ⟨by omega, by rw [hne, hij]⟩]
      · obtain ⟨bk, ek, eik⟩ := s2d.iaddr (i := kk) (by omega) .i64
        simp at ek; subst ek
        (repeat (first | refine BND_step t1 ?_ | refine BND_step l3 ?_ | refine BND_step eik ?_ | refine stp ?_ | (apply BND_inc; omega) | (apply BND_dec; omega) | refine BND_step rfl ?_ | (apply cyes; first | assumption | omega) | (apply cno; first | assumption | omega) | refine (COND_true _ _).2 ?_ | refine (COND_false _ _).2 ?_ | simp (disch := first | assumption | omega) only [gs1, gs2, decide_true, decide_false, eq_self, beq_self_eq_true, Bool.not_true, Bool.not_false]))
        have hy1 : ∀ m, m < 1 → (encU (ax xs (i + j)))[m]? = if m = 0 then some (.int .u64 (ax xs (i + j))) else (encU (ax ys kk))[m]? := fun m hm => by
          obtain rfl : m = 0 := by omega
          rfl
        obtain ⟨w3, e3, s3, f3, _⟩ := s2d.set1 (i := kk) (j := 0) (x := ax ys kk) (y := ax xs (i + j)) (u := .int .u64 (ax xs (i + j))) (Sort64.at0_get (by omega)) (by omega) hy1 rfl rfl
        (repeat (first | refine BND_step e3 ?_ | refine stp ?_ | (apply BND_inc; omega) | (apply BND_dec; omega) | refine BND_step rfl ?_ | (apply cyes; first | assumption | omega) | (apply cno; first | assumption | omega) | refine (COND_true _ _).2 ?_ | refine (COND_false _ _).2 ?_ | simp (disch := first | assumption | omega) only [gs1, gs2, decide_true, decide_false, eq_self, beq_self_eq_true, Bool.not_true, Bool.not_false]))
        refine hK _ _ ⟨kk + 1, ys.set kk (ax xs (i + j)), rfl, by omega, s3, by simp [hyl], ?_, fun q hq => ?_, (f2.trans' (Fr.drew _ _)).trans' f3⟩
        · rw [cp, if_neg (fun h => hne (by rw [h.2, hij])), ← htk]
          rw [List.take_add_one, List.take_set_of_le (by omega), List.getElem?_set_self (by omega)]; rfl
        · rw [← hsame q (by omega)]
          unfold ax Sort64.at0
          simp only [List.getD_eq_getElem?_getD]
          rw [List.getElem?_set_ne (by omega)]
    · rintro _ w3 ⟨kk', ys', rfl, hk', s3, hy', ht', hs', f3⟩
      (repeat (first | refine stp ?_ | (apply BND_inc; omega) | (apply BND_dec; omega) | refine BND_step rfl ?_ | (apply cyes; first | assumption | omega) | (apply cno; first | assumption | omega) | refine (COND_true _ _).2 ?_ | refine (COND_false _ _).2 ?_ | simp (disch := first | assumption | omega) only [gs1, gs2, decide_true, decide_false, eq_self, beq_self_eq_true, Bool.not_true, Bool.not_false]))
      exact ⟨⟨kk', j + 1, ys', rfl, rfl, by omega, by omega, by omega, s3, hy', ht', hs', f3⟩, by simp; omega⟩
  · (repeat (first | refine stp ?_ | (apply BND_inc; omega) | (apply BND_dec; omega) | refine BND_step rfl ?_ | (apply cyes; first | assumption | omega) | (apply cno; first | assumption | omega) | refine (COND_true _ _).2 ?_ | refine (COND_false _ _).2 ?_ | simp (disch := first | assumption | omega) only [gs1, gs2, decide_true, decide_false, eq_self, beq_self_eq_true, Bool.not_true, Bool.not_false]))
    have hij : i + j = xs.length := by omega
    have hkx : kk < xs.length := by omega
    have hv2 : v = .slice (some ⟨b, 0, none⟩) ys.length cap := by rw [hyl]; exact hv
    have esl2 : slicev 1 v (some (.int .i64 (kk : Int))) none = some (.slice (some ⟨b, kk, none⟩) (xs.length - kk) (cap - kk)) := by
      rw [hv, slicev_from hcap (by omega), if_neg (by omega)]; simp [add_none]
    have esl3 : slicev 1 v none (some (.int .i64 (kk : Int))) = some (.slice (some ⟨b, 0, none⟩) kk cap) := by
      rw [hv, slicev_to (by omega), if_neg (by omega)]; simp [add_none]
    obtain ⟨cap', c, T, hv', hb, hc, hs, hel⟩ := s2.cells rfl
    rw [hv2] at hv'
    cases hv'
    have hz : ∀ n, (Builtin.zeroCells (Value.int .u64 0).cells n).toList = List.replicate n (.int .u64 0) := fun n => by
      apply List.ext_getElem
      · simp [Builtin.zeroCells]
      · intro i h1 h2; simp [Builtin.zeroCells, Nat.mod_one]
    have hst : clearv (.int .u64 0) w2 (.slice (some ⟨b, kk, none⟩) (xs.length - kk) (cap - kk)) = some (setB w2 b (.cells (splice c kk (List.replicate (xs.length - kk) (.int .u64 0))) T (0, 0))) := by
      unfold clearv
      simp only [show ¬ xs.length - kk = 0 by omega, if_false, hz]
      have := stores_blk (o := kk) (List.replicate (xs.length - kk) (Value.int .u64 0)) 0 w2 c hb (by intro u hu; rw [List.mem_replicate] at hu; rw [hu.2]; rfl) (by simp; omega) (by simp; omega)
      rw [Nat.add_zero] at this
      exact this
    (repeat (first | refine BND_step esl2 ?_ | refine BND_step hst ?_ | refine BND_step esl3 ?_ | refine stp ?_ | (apply BND_inc; omega) | (apply BND_dec; omega) | refine BND_step rfl ?_ | (apply cyes; first | assumption | omega) | (apply cno; first | assumption | omega) | refine (COND_true _ _).2 ?_ | refine (COND_false _ _).2 ?_ | simp (disch := first | assumption | omega) only [gs1, gs2, decide_true, decide_false, eq_self, beq_self_eq_true, Bool.not_true, Bool.not_false]))
    have hcp : cp xs xs.length = ys.take kk := by rw [htk, hij]
    refine hR _ _ (.inr ⟨b, cap, _, T, ?_, blk_setB_same hb, ?_, by simpa using hs, rfl, fun q x hq jj hjj => ?_⟩) (f2.trans' (Fr.setB (.inl (by simp)) _))
    · rw [hcp, List.length_take, Nat.min_eq_left (by omega)]
    · rw [hcp, List.length_take]; omega
    · rw [hcp, List.getElem?_take] at hq
      split at hq
      · rw [splice_get _ _ _ _ (by simp; omega), if_neg (by omega)]
        exact hel q x hq jj hjj
      · cases hq
theorem sn_Segs {a : Value} {xs : List Itm} (h : Arr encI 10 w a xs) (hn : xs.length < 256)
    (hR : ∀ w' v' ys, Arr encU 1 w' v' ys → ys.Pairwise (· < ·) → (∀ x, x ∈ ys ↔ x ∈ xs.map Itm.seg) → ys.length ≤ xs.length → (0 < xs.length → 0 < ys.length) → Fr [] w w' → R v' w') : CALL PR F_snap_Segs [a] w R := by
  refine C_snap_Segs ?_
  unfold M_snap_Segs
  (repeat (first | refine BND_step h.len ?_ | refine stp ?_ | (apply BND_inc; omega) | (apply BND_dec; omega) | refine BND_step rfl ?_ | (apply cyes; first | assumption | omega) | (apply cno; first | assumption | omega) | refine (COND_true _ _).2 ?_ | refine (COND_false _ _).2 ?_ | simp (disch := first | assumption | omega) only [gs1, gs2, decide_true, decide_false, eq_self, beq_self_eq_true, Bool.not_true, Bool.not_false]))
  have st1 : At w [] (stars [slc encU 1 (.slice none 0 0) ((xs.take 0).map Itm.seg)]) w := (At.nothing w).add0 (P := slc encU 1 (.slice none 0 0) []) (Slc.nil _ _ _)
  refine loop_up2 0 xs.length (fun o i w' => At w [] (stars [slc encU 1 o ((xs.take i).map Itm.seg)]) w') st1 (by omega) ?_
  rintro o i w2 - hi st J m hJ
  by_cases hlt : i < xs.length
  · have hx := List.getElem?_eq_getElem hlt
    generalize xs[i] = x at hx
    obtain ⟨b, oo, ia, ln, _, _⟩ := (h.fr st.frame (by simp)).spot hx rfl .i64
    (repeat (first | refine BND_step ia ?_ | refine BND_step ln ?_ | refine stp ?_ | (apply BND_inc; omega) | (apply BND_dec; omega) | refine BND_step rfl ?_ | (apply cyes; first | assumption | omega) | (apply cno; first | assumption | omega) | refine (COND_true _ _).2 ?_ | refine (COND_false _ _).2 ?_ | simp (disch := first | assumption | omega) only [gs1, gs2, decide_true, decide_false, eq_self, beq_self_eq_true, Bool.not_true, Bool.not_false]))
    refine box_step rfl rfl (encI_one x) (by simp [encI]) fun w4 b4 f4 z4 => ?_
    obtain ⟨TB, b4⟩ : ∃ T, blk w4 (hsz w2) = some (.cells (encI x).toArray T (0, 0)) := ⟨_, b4⟩
    (repeat (first | (apply BND_ld b4; exact rfl) | refine stp ?_ | (apply BND_inc; omega) | (apply BND_dec; omega) | refine BND_step rfl ?_ | (apply cyes; first | assumption | omega) | (apply cno; first | assumption | omega) | refine (COND_true _ _).2 ?_ | refine (COND_false _ _).2 ?_ | simp (disch := first | assumption | omega) only [gs1, gs2, decide_true, decide_false, eq_self, beq_self_eq_true, Bool.not_true, Bool.not_false]))
    refine newone_step (enc := encU) (x := x.seg) encU_len rfl fun u w5 s5 f5 z5 => ?_
    refine ((st.fr0 f4).fr0 f5).append (i := 0) rfl (s5.loads encU_len) encU_len encU_one rfl (by omega) (by simp; omega) fun v6 w6 st6 _ => ?_
    (repeat (first | refine stp ?_ | (apply BND_inc; omega) | (apply BND_dec; omega) | refine BND_step rfl ?_ | (apply cyes; first | assumption | omega) | (apply cno; first | assumption | omega) | refine (COND_true _ _).2 ?_ | refine (COND_false _ _).2 ?_ | simp (disch := first | assumption | omega) only [gs1, gs2, decide_true, decide_false, eq_self, beq_self_eq_true, Bool.not_true, Bool.not_false]))
    refine hJ _ _ hlt ?_
    rw [take_map hx]; exact st6
  · (repeat (first | refine stp ?_ | (apply BND_inc; omega) | (apply BND_dec; omega) | refine BND_step rfl ?_ | (apply cyes; first | assumption | omega) | (apply cno; first | assumption | omega) | refine (COND_true _ _).2 ?_ | refine (COND_false _ _).2 ?_ | simp (disch := first | assumption | omega) only [gs1, gs2, decide_true, decide_false, eq_self, beq_self_eq_true, Bool.not_true, Bool.not_false]))
    rw [List.take_of_length_le (by omega)] at st
    obtain ⟨F, s, hF⟩ := st.slc1 (i := 0) rfl
    refine Sort64.sort64 s (by simpa using hn) fun w3 ys s3 hp hs f3 => ?_
    refine sl_Compact s3 (by rw [hp.length_eq]; simp; omega) fun w4 v4 s4 f4 => ?_
    have hl : ys.length = xs.length := by rw [hp.length_eq]; simp
    refine hR w4 v4 _ s4.arr (cp_rise hs _ (Nat.le_refl _)).1 (fun x => ?_) (by rw [← hl]; exact cp_len _ _) (fun h0 => cp_pos _ _ (by omega)) ?_
    · rw [cp_mem _ _ (Nat.le_refl _), List.take_length]; exact hp.mem_iff
    · exact (st.frame.trans f3 fun b hb => .inr ((hF b hb).resolve_left (by simp))).trans f4 fun b hb => .inr ((hF b hb).resolve_left (by simp))
end
end Go.Proofs.Ytkifjfjhghogjaa
