/- UTF-8 on lists of bytes: a text's runes; there and back. Plain. No condition. -/
import Derived.Lib.DecodeN
import Derived.Lib.RuneBytes
import Derived.Test.YthcbcolnahbihaaLib
namespace Go.Den

def bAt (l : List UInt8) (k : Nat) : Nat := (l.getD k 0).toNat
theorem bAt_lt (l : List UInt8) (k : Nat) : bAt l k < 256 := (l.getD k 0).toNat_lt
def dec1 (l : List UInt8) : Nat × Nat := Lib.decodeN l.length (bAt l 0) (bAt l 1) (bAt l 2) (bAt l 3)
theorem get!_drop (s : ByteArray) (i k : Nat) : (s.get! (i + k)).toNat = bAt (s.data.toList.drop i) k := by
  unfold bAt
  congr 1
  rw [List.getD_eq_getElem?_getD, List.getElem?_drop]
  show s.data[i + k]! = _
  rw [getElem!_def, Array.getElem?_toList]
  cases s.data[i + k]? <;> rfl
theorem decode_dec1 (s : ByteArray) (i : Nat) : Utf8.decode s i = dec1 (s.data.toList.drop i) := by
  rw [Lib.decode_at, dec1]
  have h0 := get!_drop s i 0
  rw [Nat.add_zero] at h0
  rw [h0, get!_drop, get!_drop, get!_drop, List.length_drop]
  rfl

theorem decN_width {n b0 b1 b2 b3 : Nat} (hn : 1 ≤ n) : 1 ≤ (Lib.decodeN n b0 b1 b2 b3).2 ∧ (Lib.decodeN n b0 b1 b2 b3).2 ≤ n ∧ (Lib.decodeN n b0 b1 b2 b3).2 ≤ 4 := by
  unfold Lib.decodeN
  repeat' split
  all_goals (simp only []; omega)
theorem decN_valid {n b0 b1 b2 b3 : Nat} : (Lib.decodeN n b0 b1 b2 b3).1 < 55296 ∨ 57344 ≤ (Lib.decodeN n b0 b1 b2 b3).1 ∧ (Lib.decodeN n b0 b1 b2 b3).1 ≤ 1114111 := by
  unfold Lib.decodeN
  repeat' split
  all_goals (simp only []; omega)
theorem decN_take {n m b0 b1 b2 b3 c1 c2 c3 : Nat} (hm : 1 ≤ m) (hmn : m ≤ n) (h1 : 1 < m → c1 = b1) (h2 : 2 < m → c2 = b2) (h3 : 3 < m → c3 = b3) (hw : (Lib.decodeN n b0 b1 b2 b3).2 ≤ m) :
    Lib.decodeN m b0 c1 c2 c3 = Lib.decodeN n b0 b1 b2 b3 := by
  by_cases k1 : 1 < m
  · rw [h1 k1]
    by_cases k2 : 2 < m
    · rw [h2 k2]
      by_cases k3 : 3 < m
      · rw [h3 k3]
        have e1 : 1 < n := by omega
        have e2 : 2 < n := by omega
        have e3 : 3 < n := by omega
        simp only [Lib.decodeN, k1, k2, k3, e1, e2, e3]
      · have : m = 3 := by omega
        subst this
        revert hw
        unfold Lib.decodeN
        repeat' split
        all_goals (intro hw; dsimp only at hw; first | with_reducible rfl | (exfalso; omega))
    · have : m = 2 := by omega
      subst this
      revert hw
      unfold Lib.decodeN
      repeat' split
      all_goals (intro hw; dsimp only at hw; first | with_reducible rfl | (exfalso; omega))
  · have : m = 1 := by omega
    subst this
    revert hw
    unfold Lib.decodeN
    repeat' split
    all_goals (intro hw; dsimp only at hw; first | with_reducible rfl | (exfalso; omega))

theorem dec1_width {l : List UInt8} (h : l ≠ []) : 1 ≤ (dec1 l).2 ∧ (dec1 l).2 ≤ l.length ∧ (dec1 l).2 ≤ 4 := by
  have : 1 ≤ l.length := by cases l with | nil => exact absurd rfl h | cons => simp
  exact decN_width this
theorem dec1_valid (l : List UInt8) : (dec1 l).1 < 55296 ∨ 57344 ≤ (dec1 l).1 ∧ (dec1 l).1 ≤ 1114111 := decN_valid
theorem bAt_take {l : List UInt8} {n k : Nat} (h : k < n) : bAt (l.take n) k = bAt l k := by
  unfold bAt
  rw [List.getD_eq_getElem?_getD, List.getD_eq_getElem?_getD, List.getElem?_take, if_pos h]
theorem dec1_take {l : List UInt8} {n : Nat} (h : l ≠ []) (hn : (dec1 l).2 ≤ n) : dec1 (l.take n) = dec1 l := by
  have hw := dec1_width h
  by_cases hl : l.length ≤ n
  · rw [List.take_of_length_le hl]
  · unfold dec1
    rw [bAt_take (by omega), List.length_take, Nat.min_eq_left (by omega)]
    exact decN_take (by omega) (by omega) (fun h => bAt_take h) (fun h => bAt_take h) (fun h => bAt_take h) hn

def rn : Nat → List UInt8 → List Int
  | 0, _ => []
  | _ + 1, [] => []
  | n + 1, b :: l => (dec1 (b :: l)).1 :: rn n ((b :: l).drop (dec1 (b :: l)).2)
/-- a text's runes. -/
def runesB (l : List UInt8) : List Int := rn l.length l
theorem rn_nil (n : Nat) : rn n [] = [] := by cases n <;> rfl
theorem rn_enough : ∀ (n m : Nat) (l : List UInt8), l.length ≤ n → l.length ≤ m → rn n l = rn m l
  | 0, m, l, h, _ => by
    have : l = [] := List.length_eq_zero_iff.1 (by omega)
    subst this; rw [rn_nil, rn_nil]
  | n + 1, m, [], _, _ => by rw [rn_nil, rn_nil]
  | n + 1, 0, b :: l, _, h => by simp at h
  | n + 1, m + 1, b :: l, h, h' => by
    have hw := dec1_width (l := b :: l) (by simp)
    simp only [rn]
    congr 1
    simp only [List.length_cons] at h h' hw
    exact rn_enough n m _ (by simp only [List.length_drop, List.length_cons]; omega) (by simp only [List.length_drop, List.length_cons]; omega)
@[simp] theorem runesB_nil : runesB [] = [] := rfl
theorem runesB_cons {l : List UInt8} (h : l ≠ []) : runesB l = ((dec1 l).1 : Int) :: runesB (l.drop (dec1 l).2) := by
  cases l with
  | nil => exact absurd rfl h
  | cons b l =>
    have hw := dec1_width (l := b :: l) (by simp)
    simp only [runesB, List.length_cons, rn] at *
    congr 1
    exact rn_enough _ _ _ (by simp only [List.length_drop, List.length_cons]; omega) (Nat.le_refl _)
theorem drop_ind {P : List UInt8 → Prop} (h0 : P []) (h1 : ∀ l, l ≠ [] → P (l.drop (dec1 l).2) → P l) (l : List UInt8) : P l := by
  have key : ∀ n (l : List UInt8), l.length ≤ n → P l := by
    intro n
    induction n with
    | zero => intro l h; rw [List.length_eq_zero_iff.1 (by omega : l.length = 0)]; exact h0
    | succ n ih =>
      intro l h
      by_cases hl : l = []
      · subst hl; exact h0
      · have hw := dec1_width hl
        exact h1 l hl (ih _ (by rw [List.length_drop]; omega))
  exact key _ l (Nat.le_refl _)
theorem runesB_len (l : List UInt8) : (runesB l).length ≤ l.length := by
  induction l using drop_ind with
  | h0 => simp
  | h1 l hl ih =>
    have hw := dec1_width hl
    rw [runesB_cons hl, List.length_cons]
    rw [List.length_drop] at ih
    omega
theorem runesB_nonempty {l : List UInt8} (h : l ≠ []) : 1 ≤ (runesB l).length := by rw [runesB_cons h]; simp
theorem runesB_valid (l : List UInt8) : ∀ r ∈ runesB l, 0 ≤ r ∧ (r < 55296 ∨ 57344 ≤ r ∧ r ≤ 1114111) := by
  induction l using drop_ind with
  | h0 => simp
  | h1 l hl ih =>
    intro r hr
    rw [runesB_cons hl] at hr
    rcases List.mem_cons.1 hr with rfl | hr
    · have := dec1_valid l; omega
    · exact ih r hr
theorem runesFrom_rn (s : ByteArray) : ∀ (n i : Nat) (acc : Array Value), Conv.runesFrom s n i acc = acc ++ ((rn n (s.data.toList.drop i)).map fun r => Value.int .i32 r).toArray
  | 0, i, acc => by simp [Conv.runesFrom, rn]
  | n + 1, i, acc => by
    unfold Conv.runesFrom
    by_cases hi : i < s.size
    · rw [if_pos hi]
      have hl : i < s.data.toList.length := by simpa using hi
      obtain ⟨b, t, hb⟩ : ∃ b t, s.data.toList.drop i = b :: t := ⟨_, _, List.drop_eq_getElem_cons hl⟩
      simp only [decode_dec1, runesFrom_rn s n]
      rw [← List.drop_drop, hb]
      simp [rn]
    · rw [if_neg hi]
      have : s.data.toList.drop i = [] := List.drop_eq_nil_of_le (by simpa using hi)
      rw [this, rn_nil]
      simp
theorem runesOf_eq (s : ByteArray) : runesOf s = ((runesB s.data.toList).map fun r => Value.int .i32 r).toArray := by
  unfold runesOf runesB
  rw [runesFrom_rn]
  simp

/-! ## Encoded -/
def encB (r : Int) : List UInt8 := Lib.encodeRune r
theorem enc_cases {r : Int} (h0 : 0 ≤ r) (h1 : r < 55296 ∨ 57344 ≤ r ∧ r ≤ 1114111) :
    0 ≤ r ∧ r ≤ 127 ∧ Lib.encodeRuneZ r = [r] ∨ 128 ≤ r ∧ r ≤ 2047 ∧ Lib.encodeRuneZ r = [192 + r / 64, 128 + r % 64] ∨
    2048 ≤ r ∧ r ≤ 65535 ∧ (r < 55296 ∨ 57344 ≤ r) ∧ Lib.encodeRuneZ r = [224 + r / 4096, 128 + r / 64 % 64, 128 + r % 64] ∨
    65536 ≤ r ∧ r ≤ 1114111 ∧ Lib.encodeRuneZ r = [240 + r / 262144, 128 + r / 4096 % 64, 128 + r / 64 % 64, 128 + r % 64] := by
  by_cases c1 : r ≤ 127
  · exact .inl ⟨h0, c1, Lib.encodeRuneZ_one h0 c1⟩
  by_cases c2 : r ≤ 2047
  · exact .inr (.inl ⟨by omega, c2, Lib.encodeRuneZ_two (by omega) c2⟩)
  by_cases c3 : r ≤ 65535
  · exact .inr (.inr (.inl ⟨by omega, c3, by omega, Lib.encodeRuneZ_three (by omega)⟩))
  · exact .inr (.inr (.inr ⟨by omega, by omega, Lib.encodeRuneZ_four (by omega) (by omega)⟩))
theorem toNat_u8 {x : Int} (_ : 0 ≤ x) (_ : x < 256) : x.toNat.toUInt8.toNat = x.toNat := by
  simp; omega
set_option maxRecDepth 10000 in
theorem enc_dec {r : Int} (h0 : 0 ≤ r) (h1 : r < 55296 ∨ 57344 ≤ r ∧ r ≤ 1114111) (rest : List UInt8) : dec1 (encB r ++ rest) = (r.toNat, (encB r).length) := by
  unfold encB Lib.encodeRune
  rcases enc_cases h0 h1 with ⟨a, b, e⟩ | ⟨a, b, e⟩ | ⟨a, b, c, e⟩ | ⟨a, b, e⟩
  · rw [e]
    simp only [List.map_cons, List.map_nil, List.cons_append, List.nil_append, dec1, bAt, List.getD_cons_zero, List.length_cons, List.length_nil]
    rw [toNat_u8 (by omega) (by omega)]
    unfold Lib.decodeN
    rw [if_pos (by omega)]
  · rw [e]
    simp only [List.map_cons, List.map_nil, List.cons_append, List.nil_append, dec1, bAt, List.getD_cons_zero, List.getD_cons_succ, List.length_cons, List.length_nil]
    rw [toNat_u8 (by omega) (by omega), toNat_u8 (by omega) (by omega)]
    unfold Lib.decodeN
    rw [if_neg (by omega), if_pos (by omega), if_pos (by omega)]
    congr 1
    omega
  · rw [e]
    simp only [List.map_cons, List.map_nil, List.cons_append, List.nil_append, dec1, bAt, List.getD_cons_zero, List.getD_cons_succ, List.length_cons, List.length_nil]
    rw [toNat_u8 (by omega) (by omega), toNat_u8 (by omega) (by omega), toNat_u8 (by omega) (by omega)]
    unfold Lib.decodeN
    rw [if_neg (by omega), if_neg (by omega), if_pos (by omega), if_pos (by omega)]
    congr 1
    omega
  · rw [e]
    simp only [List.map_cons, List.map_nil, List.cons_append, List.nil_append, dec1, bAt, List.getD_cons_zero, List.getD_cons_succ, List.length_cons, List.length_nil]
    rw [toNat_u8 (by omega) (by omega), toNat_u8 (by omega) (by omega), toNat_u8 (by omega) (by omega), toNat_u8 (by omega) (by omega)]
    unfold Lib.decodeN
    rw [if_neg (by omega), if_neg (by omega), if_neg (by omega), if_pos (by omega), if_pos (by omega)]
    congr 1
    omega
theorem encB_pos (r : Int) : 1 ≤ (encB r).length ∧ (encB r).length ≤ 4 := by
  have := Lib.encodeRuneZ_length r
  simpa [encB, Lib.encodeRune] using this
def encAll (rs : List Int) : List UInt8 := rs.flatMap encB
def Rune (r : Int) : Prop := 0 ≤ r ∧ (r < 55296 ∨ 57344 ≤ r ∧ r ≤ 1114111)
theorem runes_enc : ∀ (rs : List Int), (∀ r ∈ rs, Rune r) → runesB (encAll rs) = rs
  | [], _ => rfl
  | r :: rs, h => by
    have hr := h r (by simp)
    have hp := encB_pos r
    have hne : encAll (r :: rs) ≠ [] := by
      intro e
      have := congrArg List.length e
      simp only [encAll, List.flatMap_cons, List.length_append, List.length_nil] at this
      omega
    have he : encAll (r :: rs) = encB r ++ encAll rs := by simp [encAll]
    rw [runesB_cons hne, he, enc_dec hr.1 hr.2]
    simp only [List.drop_left]
    rw [runes_enc rs fun x hx => h x (by simp [hx])]
    congr 1
    have := hr.1
    omega
theorem encAll_len : ∀ (rs : List Int), (encAll rs).length ≤ 4 * rs.length
  | [] => by simp [encAll]
  | r :: rs => by
    have := encB_pos r
    have ih := encAll_len rs
    simp only [encAll, List.flatMap_cons, List.length_append, List.length_cons] at *
    omega
theorem encAll_append (xs ys : List Int) : encAll (xs ++ ys) = encAll xs ++ encAll ys := by simp [encAll]

/-! ## A beginning -/
/-- where a text's first n runes end. -/
def cutAt : Nat → List UInt8 → Nat
  | 0, _ => 0
  | _ + 1, [] => 0
  | n + 1, b :: l => (dec1 (b :: l)).2 + cutAt n ((b :: l).drop (dec1 (b :: l)).2)
theorem cutAt_cons (n : Nat) {l : List UInt8} (h : l ≠ []) : cutAt (n + 1) l = (dec1 l).2 + cutAt n (l.drop (dec1 l).2) := by
  cases l with | nil => exact absurd rfl h | cons => rfl
@[simp] theorem cutAt_nil (n : Nat) : cutAt n [] = 0 := by cases n <;> rfl
theorem cutAt_le : ∀ (n : Nat) (l : List UInt8), cutAt n l ≤ l.length
  | 0, l => by simp [cutAt]
  | n + 1, l => by
    by_cases h : l = []
    · subst h; simp
    · have hw := dec1_width h
      have := cutAt_le n (l.drop (dec1 l).2)
      rw [cutAt_cons n h]
      rw [List.length_drop] at this
      omega
/-- what stands ahead of a beginning's end, and of anything behind it, are the first runes. -/
theorem runes_take : ∀ (n : Nat) (l : List UInt8) (k : Nat), cutAt n l ≤ k → k ≤ l.length → runesB (l.take k) = (runesB l).take n ++ runesB ((l.take k).drop (cutAt n l))
  | 0, l, k, _, _ => by simp [cutAt]
  | n + 1, l, k, hk, hkl => by
    by_cases h : l = []
    · subst h; simp
    · have hw := dec1_width h
      rw [cutAt_cons n h] at hk ⊢
      have hne : l.take k ≠ [] := by
        intro e
        have := congrArg List.length e
        rw [List.length_take, List.length_nil] at this
        omega
      have ih := runes_take n (l.drop (dec1 l).2) (k - (dec1 l).2) (by omega) (by rw [List.length_drop]; omega)
      rw [runesB_cons hne, dec1_take h (by omega), runesB_cons h, List.take_succ_cons, List.cons_append]
      congr 1
      have e : (l.take k).drop (dec1 l).2 = (l.drop (dec1 l).2).take (k - (dec1 l).2) := List.drop_take
      rw [← List.drop_drop, e, ih]
theorem runes_cut (n : Nat) (l : List UInt8) : runesB (l.take (cutAt n l)) = (runesB l).take n := by
  rw [runes_take n l _ (Nat.le_refl _) (cutAt_le n l), List.drop_of_length_le (by rw [List.length_take]; omega)]
  simp
theorem runes_rest : ∀ (n : Nat) (l : List UInt8), runesB (l.drop (cutAt n l)) = (runesB l).drop n
  | 0, l => by simp [cutAt]
  | n + 1, l => by
    by_cases h : l = []
    · subst h; simp
    · rw [cutAt_cons n h, runesB_cons h, List.drop_succ_cons, ← List.drop_drop]
      exact runes_rest n _
theorem cutAt_all : ∀ (n : Nat) (l : List UInt8), (runesB l).length ≤ n → cutAt n l = l.length
  | 0, l, h => by
    have : l = [] := by
      cases l with
      | nil => rfl
      | cons b l => have := runesB_nonempty (l := b :: l) (by simp); omega
    subst this; rfl
  | n + 1, l, h => by
    by_cases hl : l = []
    · subst hl; simp
    · have hw := dec1_width hl
      rw [cutAt_cons n hl, cutAt_all n]
      · rw [List.length_drop]; omega
      · rw [runesB_cons hl, List.length_cons] at h; omega
/-- behind the first n runes a text has more. -/
theorem runes_more {n : Nat} {l : List UInt8} {k : Nat} (h : cutAt n l < k) (hk : k ≤ l.length) : n < (runesB (l.take k)).length := by
  have hn : n ≤ (runesB l).length := by
    refine Nat.le_of_not_lt fun hh => ?_
    have := cutAt_all n l (by omega)
    omega
  rw [runes_take n l k (by omega) hk, List.length_append, List.length_take, Nat.min_eq_left hn]
  have := runesB_nonempty (l := (l.take k).drop (cutAt n l)) (by
    intro e
    have := congrArg List.length e
    rw [List.length_drop, List.length_take, List.length_nil] at this
    omega)
  omega

/-! ## A text without errors is its runes, encoded. -/
theorem u8_eq {x : Int} {l : List UInt8} {k : Nat} (h : x = (bAt l k : Int)) : x.toNat.toUInt8 = l.getD k 0 := by
  subst h
  unfold bAt
  simp
theorem take1 {l : List UInt8} (h : 1 ≤ l.length) : l.take 1 = [l.getD 0 0] := by
  match l, h with | a :: l, _ => rfl
theorem take2 {l : List UInt8} (h : 2 ≤ l.length) : l.take 2 = [l.getD 0 0, l.getD 1 0] := by
  match l, h with | a :: b :: l, _ => rfl
theorem take3 {l : List UInt8} (h : 3 ≤ l.length) : l.take 3 = [l.getD 0 0, l.getD 1 0, l.getD 2 0] := by
  match l, h with | a :: b :: c :: l, _ => rfl
theorem take4 {l : List UInt8} (h : 4 ≤ l.length) : l.take 4 = [l.getD 0 0, l.getD 1 0, l.getD 2 0, l.getD 3 0] := by
  match l, h with | a :: b :: c :: d :: l, _ => rfl
set_option maxRecDepth 10000 in
theorem dec_enc {l : List UInt8} (h : l ≠ []) (he : (dec1 l).1 ≠ 65533) : l.take (dec1 l).2 = encB (dec1 l).1 := by
  have h1 : 1 ≤ l.length := by cases l with | nil => exact absurd rfl h | cons => simp
  have b0 := bAt_lt l 0
  have b1 := bAt_lt l 1
  have b2 := bAt_lt l 2
  have b3 := bAt_lt l 3
  revert he
  unfold dec1 encB Lib.encodeRune Lib.decodeN
  split
  · intro _
    simp only []
    rw [take1 h1, Lib.encodeRuneZ_one (by omega) (by omega)]
    simp only [List.map_cons, List.map_nil]
    rw [u8_eq (l := l) (k := 0) rfl]
  split
  · split
    · intro _
      simp only []
      rw [take2 (by omega), Lib.encodeRuneZ_two (by omega) (by omega)]
      simp only [List.map_cons, List.map_nil]
      rw [u8_eq (l := l) (k := 0) (by omega), u8_eq (l := l) (k := 1) (by omega)]
    · intro hh; exact absurd rfl hh
  split
  · split
    · intro _
      simp only []
      rw [take3 (by omega), Lib.encodeRuneZ_three (by omega)]
      simp only [List.map_cons, List.map_nil]
      rw [u8_eq (l := l) (k := 0) (by omega), u8_eq (l := l) (k := 1) (by omega), u8_eq (l := l) (k := 2) (by omega)]
    · intro hh; exact absurd rfl hh
  split
  · split
    · intro _
      simp only []
      rw [take4 (by omega), Lib.encodeRuneZ_four (by omega) (by omega)]
      simp only [List.map_cons, List.map_nil]
      rw [u8_eq (l := l) (k := 0) (by omega), u8_eq (l := l) (k := 1) (by omega), u8_eq (l := l) (k := 2) (by omega), u8_eq (l := l) (k := 3) (by omega)]
    · intro hh; exact absurd rfl hh
  · intro hh; exact absurd rfl hh
theorem enc_runes (l : List UInt8) (h : (65533 : Int) ∉ runesB l) : encAll (runesB l) = l := by
  induction l using drop_ind with
  | h0 => rfl
  | h1 l hl ih =>
    rw [runesB_cons hl] at h ⊢
    simp only [List.mem_cons, not_or] at h
    have h1 := dec_enc hl (by have := h.1; omega)
    have h2 := ih h.2
    have : encAll (((dec1 l).1 : Int) :: runesB (l.drop (dec1 l).2)) = encB (dec1 l).1 ++ encAll (runesB (l.drop (dec1 l).2)) := by simp [encAll]
    rw [this, h2, ← h1, List.take_append_drop]
end Go.Den
