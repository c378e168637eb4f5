/- Layer 3 (label) as plain functions on bytes and runes, and what holds of them. Plain. No condition. -/
import Derived.Test.YthcbcolnahbihaaUtf
namespace Go.Den

def letterZ (c : Int) : Bool := decide (97 ≤ c) && decide (c ≤ 122) || decide (48 ≤ c) && decide (c ≤ 57) || decide (945 ≤ c) && decide (c ≤ 969)
def foldZ (c : Int) : Int := if c = 962 then 963 else if c = 930 then c else if 65 ≤ c ∧ c ≤ 90 ∨ 913 ≤ c ∧ c ≤ 937 then c + 32 else c
def rightB (l : List UInt8) : Bool := (runesB l).all letterZ && (decide (1 ≤ ((runesB l).length : Int)) && decide (((runesB l).length : Int) ≤ 8))
def foldB (l : List UInt8) : List UInt8 := encAll ((runesB l).map foldZ)
def cutB (l : List UInt8) (n : Int) : List UInt8 := l.take (cutAt n.toNat l)
def lessZ : List Int → List Int → Bool
  | [], [] => false
  | [], _ :: _ => true
  | _ :: _, [] => false
  | a :: x, b :: y => if a = b then lessZ x y else decide (a < b)

theorem letterZ_iff (c : Int) : letterZ c = true ↔ 97 ≤ c ∧ c ≤ 122 ∨ 48 ≤ c ∧ c ≤ 57 ∨ 945 ≤ c ∧ c ≤ 969 := by
  simp [letterZ, or_assoc]
theorem foldZ_rune {c : Int} (h : Rune c) : Rune (foldZ c) := by
  unfold Rune at *
  unfold foldZ
  repeat' split
  all_goals omega
theorem foldZ_fold (c : Int) : foldZ (foldZ c) = foldZ c := by
  unfold foldZ
  repeat' split
  all_goals omega
theorem foldZ_letter {c : Int} (h : letterZ c = true) : letterZ (foldZ c) = true := by
  rw [letterZ_iff] at *
  unfold foldZ
  repeat' split
  all_goals omega
theorem fold_runes (l : List UInt8) : runesB (foldB l) = (runesB l).map foldZ := by
  refine runes_enc _ fun r hr => ?_
  obtain ⟨c, hc, rfl⟩ := List.mem_map.1 hr
  exact foldZ_rune (runesB_valid l c hc)
theorem fold_fold (l : List UInt8) : foldB (foldB l) = foldB l := by
  have h : foldB (foldB l) = encAll ((runesB (foldB l)).map foldZ) := rfl
  rw [h, fold_runes, List.map_map]
  unfold foldB
  congr 1
  apply List.map_congr_left
  intro c _
  exact foldZ_fold c
theorem fold_right {l : List UInt8} (h : rightB l = true) : rightB (foldB l) = true := by
  unfold rightB at *
  rw [fold_runes, List.length_map]
  simp only [Bool.and_eq_true, List.all_eq_true] at *
  refine ⟨fun c hc => ?_, h.2⟩
  obtain ⟨d, hd, rfl⟩ := List.mem_map.1 hc
  exact foldZ_letter (h.1 d hd)
theorem foldB_len (l : List UInt8) : (foldB l).length ≤ 4 * l.length := by
  have := encAll_len ((runesB l).map foldZ)
  have h2 := runesB_len l
  rw [List.length_map] at this
  unfold foldB
  omega
/-- names are alike if their runes are. -/
theorem right_runes {a b : List UInt8} (ha : rightB a = true) (hb : rightB b = true) (h : runesB a = runesB b) : a = b := by
  have key : ∀ l, rightB l = true → (65533 : Int) ∉ runesB l := by
    intro l hl hm
    unfold rightB at hl
    simp only [Bool.and_eq_true, List.all_eq_true] at hl
    have := hl.1 _ hm
    rw [letterZ_iff] at this
    omega
  rw [← enc_runes a (key a ha), ← enc_runes b (key b hb), h]
theorem less_irr : ∀ x, lessZ x x = false
  | [] => rfl
  | a :: x => by simp [lessZ, less_irr x]
theorem less_asym : ∀ x y, lessZ x y = true → lessZ y x = false
  | [], [], h => by simp [lessZ] at h
  | [], _ :: _, _ => rfl
  | _ :: _, [], h => by simp [lessZ] at h
  | a :: x, b :: y, h => by
    simp only [lessZ] at *
    by_cases hab : a = b
    · subst hab; simp at *; exact less_asym x y h
    · rw [if_neg hab] at h
      rw [if_neg (fun e => hab e.symm)]
      simp at *; omega
theorem less_trans : ∀ x y z, lessZ x y = true → lessZ y z = true → lessZ x z = true
  | [], [], _, h, _ => by simp [lessZ] at h
  | [], _ :: _, [], _, h => by simp [lessZ] at h
  | [], _ :: _, _ :: _, _, _ => rfl
  | _ :: _, [], _, h, _ => by simp [lessZ] at h
  | _ :: _, _ :: _, [], _, h => by simp [lessZ] at h
  | a :: x, b :: y, c :: z, h, h' => by
    simp only [lessZ] at *
    by_cases hab : a = b
    · subst hab
      rw [if_pos rfl] at h
      by_cases hac : a = c
      · subst hac
        rw [if_pos rfl] at *
        exact less_trans x y z h h'
      · rw [if_neg hac] at *; exact h'
    · rw [if_neg hab] at h
      by_cases hbc : b = c
      · subst hbc
        rw [if_neg hab]; exact h
      · rw [if_neg hbc] at h'
        simp at h h'
        rw [if_neg (by omega)]
        simp; omega
theorem less_total : ∀ x y, x ≠ y → lessZ x y = true ∨ lessZ y x = true
  | [], [], h => absurd rfl h
  | [], _ :: _, _ => .inl rfl
  | _ :: _, [], _ => .inr rfl
  | a :: x, b :: y, h => by
    simp only [lessZ]
    by_cases hab : a = b
    · subst hab
      simp
      exact less_total x y fun e => h (by rw [e])
    · rw [if_neg hab, if_neg (fun e => hab e.symm)]
      simp; omega

/-! ## Cut -/
theorem cut_runes (l : List UInt8) (n : Int) : runesB (cutB l n) = (runesB l).take n.toNat := runes_cut _ _
theorem cut_len (l : List UInt8) (n : Int) : (cutB l n).length = cutAt n.toNat l := by
  unfold cutB
  rw [List.length_take, Nat.min_eq_left (cutAt_le _ _)]
theorem cut_cut (l : List UInt8) (n : Int) : cutB (cutB l n) n = cutB l n := by
  have h : cutAt n.toNat (cutB l n) = (cutB l n).length := cutAt_all _ _ (by rw [cut_runes, List.length_take]; omega)
  have h2 : cutB (cutB l n) n = (cutB l n).take (cutAt n.toNat (cutB l n)) := rfl
  rw [h2, h, List.take_length]
theorem cut_rest (l : List UInt8) (n : Int) : runesB (l.drop (cutB l n).length) = (runesB l).drop n.toNat := by rw [cut_len]; exact runes_rest _ _

theorem it_more : ∀ (j : Nat) (l : List UInt8), cutAt j l < l.length → (runesB l)[j]? = some ((dec1 (l.drop (cutAt j l))).1 : Int) ∧ cutAt (j + 1) l = cutAt j l + (dec1 (l.drop (cutAt j l))).2
  | 0, l, h => by
    have hl : l ≠ [] := by intro e; subst e; simp at h
    rw [cutAt_cons 0 hl, runesB_cons hl]
    simp [cutAt]
  | j + 1, l, h => by
    have hl : l ≠ [] := by intro e; subst e; simp at h
    have hw := dec1_width hl
    rw [cutAt_cons j hl] at h ⊢
    rw [cutAt_cons (j + 1) hl, runesB_cons hl]
    obtain ⟨h1, h2⟩ := it_more j (l.drop (dec1 l).2) (by rw [List.length_drop]; omega)
    rw [List.getElem?_cons_succ, h1, h2, List.drop_drop]
    exact ⟨rfl, by omega⟩
theorem it_end {j : Nat} {l : List UInt8} (h : ¬ cutAt j l < l.length) : (runesB l).length ≤ j ∧ cutAt j l = l.length := by
  have h1 := cutAt_le j l
  have h2 := runes_rest j l
  have h3 : cutAt j l = l.length := by omega
  rw [h3, List.drop_length, runesB_nil] at h2
  have := congrArg List.length h2
  rw [List.length_drop, List.length_nil] at this
  exact ⟨by omega, h3⟩

/-! ## Texts -/
def txt (l : List UInt8) : ByteArray := ⟨l.toArray⟩
@[simp] theorem txt_list (l : List UInt8) : (txt l).data.toList = l := by simp [txt]
@[simp] theorem txt_size (l : List UInt8) : (txt l).size = l.length := by simp [txt, ByteArray.size]
theorem txt_of (s : ByteArray) : txt s.data.toList = s := by simp [txt]
theorem list_len (s : ByteArray) : s.data.toList.length = s.size := Array.length_toList
theorem extract_txt (s : ByteArray) (l h : Nat) : s.extract l h = txt ((s.data.toList.drop l).take (h - l)) := by
  apply ByteArray.ext
  simp [txt, ByteArray.data_extract]
  apply Array.ext'
  simp
theorem encode_enc {r : Int} (h : Rune r) : (Utf8.encode r).data.toList = encB r := by
  have hv : Utf8.valid r = true := by
    unfold Rune at h
    simp [Utf8.valid]; omega
  unfold encB Lib.encodeRune Utf8.encode
  simp only [hv, if_true]
  rcases enc_cases h.1 h.2 with ⟨a, b, e⟩ | ⟨a, b, e⟩ | ⟨a, b, c, e⟩ | ⟨a, b, e⟩
  · rw [e, if_pos (by omega)]
    exact congrArg (fun n : Nat => [UInt8.ofNat n]) rfl
  · rw [e, if_neg (by omega), if_pos (by omega)]
    show [UInt8.ofNat _, UInt8.ofNat _] = [UInt8.ofNat _, UInt8.ofNat _]
    rw [show (192 + r / 64).toNat = 0xC0 + r.toNat / 64 by omega, show (128 + r % 64).toNat = 0x80 + r.toNat % 64 by omega]
  · rw [e, if_neg (by omega), if_neg (by omega), if_pos (by omega)]
    show [UInt8.ofNat _, UInt8.ofNat _, UInt8.ofNat _] = [UInt8.ofNat _, UInt8.ofNat _, UInt8.ofNat _]
    rw [show (224 + r / 4096).toNat = 0xE0 + r.toNat / 4096 by omega, show (128 + r / 64 % 64).toNat = 0x80 + r.toNat / 64 % 64 by omega, show (128 + r % 64).toNat = 0x80 + r.toNat % 64 by omega]
  · rw [e, if_neg (by omega), if_neg (by omega), if_neg (by omega)]
    show [UInt8.ofNat _, UInt8.ofNat _, UInt8.ofNat _, UInt8.ofNat _] = [UInt8.ofNat _, UInt8.ofNat _, UInt8.ofNat _, UInt8.ofNat _]
    rw [show (240 + r / 262144).toNat = 0xF0 + r.toNat / 262144 by omega, show (128 + r / 4096 % 64).toNat = 0x80 + r.toNat / 4096 % 64 by omega, show (128 + r / 64 % 64).toNat = 0x80 + r.toNat / 64 % 64 by omega, show (128 + r % 64).toNat = 0x80 + r.toNat % 64 by omega]
theorem text_runes (rs : List Int) (h : ∀ r ∈ rs, Rune r) : textOfRunes rs = txt (encAll rs) := by
  have key : ∀ (rs : List Int) (acc : ByteArray), (∀ r ∈ rs, Rune r) → rs.foldl (fun r n => r ++ Utf8.encode n) acc = acc ++ txt (encAll rs) := by
    intro rs
    induction rs with
    | nil => intro acc _; apply ByteArray.ext; simp [encAll, txt]
    | cons r rs ih =>
      intro acc h
      rw [List.foldl_cons, ih _ fun x hx => h x (by simp [hx])]
      apply ByteArray.ext
      apply Array.ext'
      simp [encAll, txt, encode_enc (h r (by simp))]
  rw [textOfRunes, key rs _ h]
  apply ByteArray.ext
  simp [txt]
end Go.Den
