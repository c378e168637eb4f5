
/- A disk, in plain words: what each call makes of it, and answers. No condition. -/
import Derived.Test.YtmefbneoljpbgaaGreatDoorGb
namespace Go.Disk
open Go.Den

/-! ## Names rise by their bytes -/
def bl (a b : ByteArray) : Bool := Op.bytesLess a.toList b.toList
theorem bytesLess_irr : ∀ x : List UInt8, Op.bytesLess x x = false
  | [] => rfl
  | a :: x => by simp [Op.bytesLess, bytesLess_irr x, UInt8.lt_irrefl]
theorem bytesLess_trans : ∀ {x y z : List UInt8}, Op.bytesLess x y = true → Op.bytesLess y z = true → Op.bytesLess x z = true
  | x, y, [], _, h => by cases y <;> simp [Op.bytesLess] at h
  | x, [], c :: z, h, _ => by cases x <;> simp [Op.bytesLess] at h
  | [], b :: y, c :: z, _, _ => rfl
  | a :: x, b :: y, c :: z, h1, h2 => by
    simp only [Op.bytesLess, Bool.or_eq_true, decide_eq_true_eq, Bool.and_eq_true, beq_iff_eq] at *
    rcases h1 with h1 | ⟨rfl, h1⟩
    · rcases h2 with h2 | ⟨rfl, h2⟩
      · exact .inl (UInt8.lt_trans h1 h2)
      · exact .inl h1
    · rcases h2 with h2 | ⟨rfl, h2⟩
      · exact .inl h2
      · exact .inr ⟨rfl, bytesLess_trans h1 h2⟩
theorem bytesLess_tri : ∀ x y : List UInt8, x ≠ y → Op.bytesLess x y = false → Op.bytesLess y x = true
  | [], [], h, _ => absurd rfl h
  | [], b :: y, _, h => by simp [Op.bytesLess] at h
  | a :: x, [], _, _ => rfl
  | a :: x, b :: y, hne, h => by
    simp only [Op.bytesLess, Bool.or_eq_false_iff, decide_eq_false_iff_not, Bool.and_eq_false_iff, beq_eq_false_iff_ne] at h
    simp only [Op.bytesLess, Bool.or_eq_true, decide_eq_true_eq, Bool.and_eq_true, beq_iff_eq]
    by_cases hab : a = b
    · subst hab
      have hxy : x ≠ y := fun e => hne (by rw [e])
      rcases h.2 with h2 | h2
      · exact absurd rfl h2
      · exact .inr ⟨rfl, bytesLess_tri x y hxy h2⟩
    · left
      have h1 : ¬ a.toNat < b.toNat := fun hh => h.1 (UInt8.lt_iff_toNat_lt.2 hh)
      have h2 : a.toNat ≠ b.toNat := fun hh => hab (UInt8.toNat_inj.1 hh)
      exact UInt8.lt_iff_toNat_lt.2 (by omega)
theorem toList_inj {a b : ByteArray} (h : a.toList = b.toList) : a = b := by
  rw [ByteArray.toList_eq, ByteArray.toList_eq] at h; exact ByteArray.ext (Array.ext' h)
theorem bl_irr (a : ByteArray) : bl a a = false := bytesLess_irr _
theorem bl_trans {a b c : ByteArray} (h1 : bl a b = true) (h2 : bl b c = true) : bl a c = true := bytesLess_trans h1 h2
theorem bl_tri {a b : ByteArray} (h : a ≠ b) (h1 : bl a b = false) : bl b a = true := bytesLess_tri _ _ (fun e => h (toList_inj e)) h1
theorem bl_asym {a b : ByteArray} (h : bl a b = true) : bl b a = false := by
  cases hb : bl b a with
  | false => rfl
  | true => have := bl_trans h hb; rw [bl_irr] at this; cases this

/-! ## The disk -/
structure Fl where
  b : List UInt8
  sure : Nat
  deriving DecidableEq
abbrev Dir := List (ByteArray × Nat)
structure Dk where
  room : Int
  files : List Fl
  dirs : List Dir
  burn : Int
  gone : Bool
def Dk.now (s : Dk) : Dir := s.dirs.getLastD []
def findD : Dir → ByteArray → Option Nat
  | [], _ => none
  | (k, f) :: r, n => if k = n then some f else findD r n
def Dk.find (s : Dk) (n : ByteArray) : Option Nat := findD s.now n
def okByte (c : UInt8) : Bool := decide (c = 46) || decide (48 ≤ c) && decide (c ≤ 57) || decide (97 ≤ c) && decide (c ≤ 122)
def named (n : ByteArray) : Bool := decide (1 ≤ n.size) && decide (n.size ≤ 12) && n.data.toList.all okByte
def can (s : Dk) (e : Int) : Dk × Int :=
  if s.gone = true then (s, 7) else if e ≠ 0 then (s, e) else if s.burn = 0 then ({ s with gone := true }, 7) else if 0 < s.burn then ({ s with burn := s.burn - 1 }, 0) else (s, 0)
def without (l : Dir) (n : ByteArray) : Dir := l.filter fun x => !decide (x.1 = n)
def withD : Dir → ByteArray × Nat → Dir
  | [], x => [x]
  | y :: r, x => if bl y.1 x.1 = true then y :: withD r x else x :: y :: r
def fileAt (s : Dk) (f : Nat) : Fl := s.files.getD f ⟨[], 0⟩
def isHeld (s : Dk) (f : Nat) : Bool := s.dirs.any fun l => l.any fun x => decide (x.2 = f)
def held (s : Dk) : Nat := ((List.range s.files.length).map fun f => if isHeld s f = true then (fileAt s f).b.length else 0).sum
def setF (s : Dk) (f : Nat) (x : Fl) : Dk := { s with files := s.files.set f x }
def there (s : Dk) (n : ByteArray) : Int := if (s.find n).isSome then 0 else 5
def createE (s : Dk) (n : ByteArray) : Int := if named n = false then 1 else if (s.find n).isSome then 6 else if 60 ≤ s.now.length then 4 else 0
def create (s : Dk) (n : ByteArray) : Dk × Int :=
  let r := can s (createE s n)
  if r.2 = 0 then ({ r.1 with files := s.files ++ [⟨[], 0⟩], dirs := s.dirs ++ [withD s.now (n, s.files.length)] }, 0) else r
def appendE (s : Dk) (n : ByteArray) (k : Nat) : Int := if (s.find n).isSome then (if s.room < ((held s + k : Nat) : Int) then 4 else 0) else 5
def append (s : Dk) (n : ByteArray) (bs : List UInt8) : Dk × Int :=
  let r := can s (appendE s n bs.length)
  let f := (s.find n).getD 0
  if r.2 = 0 then (setF r.1 f { fileAt s f with b := (fileAt s f).b ++ bs }, 0) else r
def read (s : Dk) (n : ByteArray) : List UInt8 × Int :=
  if s.gone = true then ([], 7) else match s.find n with
  | none => ([], 5)
  | some f => ((fileAt s f).b, 0)
def sync (s : Dk) (n : ByteArray) : Dk × Int :=
  let r := can s (there s n)
  let f := (s.find n).getD 0
  if r.2 = 0 then (setF r.1 f { fileAt s f with sure := (fileAt s f).b.length }, 0) else r
def cutE (s : Dk) (n : ByteArray) (k : Int) : Int := match s.find n with
  | none => 5
  | some f => if k < 0 ∨ ((fileAt s f).b.length : Int) < k then 1 else 0
def cut (s : Dk) (n : ByteArray) (k : Int) : Dk × Int :=
  let r := can s (cutE s n k)
  let f := (s.find n).getD 0
  if r.2 = 0 then (setF r.1 f ⟨(fileAt s f).b.take k.toNat, min (fileAt s f).sure k.toNat⟩, 0) else r
def renameE (s : Dk) (a b : ByteArray) : Int := if (s.find a).isSome then (if named b then 0 else 1) else 5
def rename (s : Dk) (a b : ByteArray) : Dk × Int :=
  let r := can s (renameE s a b)
  let f := (s.find a).getD 0
  if r.2 = 0 then ({ r.1 with dirs := s.dirs ++ [withD (without (without s.now a) b) (b, f)] }, 0) else r
def delete (s : Dk) (n : ByteArray) : Dk × Int :=
  let r := can s (there s n)
  if r.2 = 0 then ({ r.1 with dirs := s.dirs ++ [without s.now n] }, 0) else r
def dirsync (s : Dk) : Dk × Int :=
  let r := can s 0
  if r.2 = 0 then ({ r.1 with dirs := [s.now] }, 0) else r
def fuse (s : Dk) (n : Int) : Dk := { s with burn := if n < -1 then -1 else n }
def tailOf (fl : Fl) (tails : List Int) (i : Nat) : Nat :=
  match tails[i]? with
  | none => 0
  | some t => min t.toNat (fl.b.length - fl.sure)
def crashF (tails : List Int) : List (ByteArray × Nat) → Nat → List Fl → List Fl
  | [], _, fs => fs
  | (_, f) :: r, i, fs =>
    let x := fs.getD f ⟨[], 0⟩
    let n := x.sure + tailOf x tails i
    crashF tails r (i + 1) (fs.set f ⟨x.b.take n, n⟩)
def crash (s : Dk) (open_ : Int) (tails : List Int) : Dk :=
  let l := s.dirs.getD (min open_.toNat (s.dirs.length - 1)) []
  { s with files := crashF tails l 0 s.files, dirs := [l], burn := -1, gone := false }

/-! ## What always holds -/
def riseD (l : Dir) : Prop := l.Pairwise fun a b => bl a.1 b.1 = true
structure Dk.Wf (s : Dk) : Prop where
  ne : s.dirs ≠ []
  rise : ∀ l ∈ s.dirs, riseD l
  idx : ∀ l ∈ s.dirs, ∀ x ∈ l, x.2 < s.files.length
  many : ∀ l ∈ s.dirs, l.length ≤ 60
  nm : ∀ l ∈ s.dirs, ∀ x ∈ l, named x.1 = true
  sure : ∀ x ∈ s.files, x.sure ≤ x.b.length
  small : ∀ x ∈ s.files, (x.b.length : Int) ≤ s.room
  room : 16 ≤ s.room ∧ s.room ≤ 1048576
  burn : -1 ≤ s.burn ∧ s.burn ≤ 9223372036854775807
def empty (room : Int) : Dk := ⟨room, [], [[]], -1, false⟩

theorem findD_mem {l : Dir} {n : ByteArray} {f : Nat} (h : findD l n = some f) : (n, f) ∈ l := by
  induction l with
  | nil => simp [findD] at h
  | cons x l ih =>
    obtain ⟨k, g⟩ := x
    simp only [findD] at h
    by_cases hk : k = n
    · rw [if_pos hk] at h; cases h; subst hk; simp
    · rw [if_neg hk] at h; simp [ih h]
theorem findD_of_mem {l : Dir} (hr : riseD l) {n : ByteArray} {f : Nat} (h : (n, f) ∈ l) : findD l n = some f := by
  induction l with
  | nil => simp at h
  | cons x l ih =>
    obtain ⟨k, g⟩ := x
    obtain ⟨p, q⟩ := List.pairwise_cons.1 hr
    simp only [findD]
    rcases List.mem_cons.1 h with h | h
    · cases h; simp
    · have := p _ h
      have hne : k ≠ n := fun e => by subst e; rw [bl_irr] at this; cases this
      rw [if_neg hne]; exact ih q h
theorem findD_none {l : Dir} {n : ByteArray} : findD l n = none ↔ ∀ x ∈ l, x.1 ≠ n := by
  induction l with
  | nil => simp [findD]
  | cons x l ih =>
    obtain ⟨k, g⟩ := x
    simp only [findD]
    by_cases hk : k = n
    · simp [hk]
    · simp [hk, ih]
theorem mem_withD {l : Dir} {x y : ByteArray × Nat} : y ∈ withD l x ↔ y = x ∨ y ∈ l := by
  induction l with
  | nil => simp [withD]
  | cons z l ih =>
    simp only [withD]
    split
    · rw [List.mem_cons, ih, List.mem_cons]
      constructor
      · rintro (h | h | h)
        · exact .inr (.inl h)
        · exact .inl h
        · exact .inr (.inr h)
      · rintro (h | h | h)
        · exact .inr (.inl h)
        · exact .inl h
        · exact .inr (.inr h)
    · simp
theorem rise_withD {l : Dir} (hr : riseD l) {x : ByteArray × Nat} (hn : ∀ y ∈ l, y.1 ≠ x.1) : riseD (withD l x) := by
  induction l with
  | nil => simp [withD, riseD]
  | cons z l ih =>
    obtain ⟨p, q⟩ := List.pairwise_cons.1 hr
    simp only [withD]
    split
    · rename_i hz
      refine List.pairwise_cons.2 ⟨fun y hy => ?_, ih q fun y hy => hn y (by simp [hy])⟩
      rcases mem_withD.1 hy with rfl | hy
      · exact hz
      · exact p y hy
    · rename_i hz
      have h1 : bl x.1 z.1 = true := bl_tri (hn z (by simp)) (by simpa using hz)
      refine List.pairwise_cons.2 ⟨fun y hy => ?_, hr⟩
      rcases List.mem_cons.1 hy with rfl | hy
      · exact h1
      · exact bl_trans h1 (p y hy)
theorem mem_without {l : Dir} {n : ByteArray} {y : ByteArray × Nat} : y ∈ without l n ↔ y ∈ l ∧ y.1 ≠ n := by
  unfold without; rw [List.mem_filter]; simp
theorem rise_without {l : Dir} (hr : riseD l) (n : ByteArray) : riseD (without l n) := hr.sublist (List.filter_sublist)
theorem len_without (l : Dir) (n : ByteArray) : (without l n).length ≤ l.length := List.length_filter_le _ _
theorem len_without_lt {l : Dir} {n : ByteArray} {f : Nat} (h : findD l n = some f) : (without l n).length + 1 ≤ l.length := by
  induction l with
  | nil => simp [findD] at h
  | cons x l ih =>
    obtain ⟨k, g⟩ := x
    have hw := len_without l n
    unfold without at *
    by_cases hk : k = n
    · rw [List.filter_cons_of_neg (by simp [hk])]; simp; omega
    · simp only [findD, hk, if_false] at h
      have := ih h
      rw [List.filter_cons_of_pos (by simp [hk])]; simp; omega
theorem len_withD (l : Dir) (x : ByteArray × Nat) : (withD l x).length = l.length + 1 := by
  induction l with
  | nil => rfl
  | cons z l ih => simp only [withD]; split <;> simp [ih]
/-- directories that rise, of the same entries, are the same. -/
theorem rise_ext : ∀ {l m : Dir}, riseD l → riseD m → (∀ x, x ∈ l ↔ x ∈ m) → l = m
  | [], [], _, _, _ => rfl
  | [], y :: m, _, _, h => by have := (h y).2 (by simp); simp at this
  | x :: l, [], _, _, h => by have := (h x).1 (by simp); simp at this
  | x :: l, y :: m, hl, hm, h => by
    obtain ⟨p1, p2⟩ := List.pairwise_cons.1 hl
    obtain ⟨q1, q2⟩ := List.pairwise_cons.1 hm
    have hxy : x = y := by
      rcases List.mem_cons.1 ((h x).1 (by simp)) with h1 | h1
      · exact h1
      · rcases List.mem_cons.1 ((h y).2 (by simp)) with h2 | h2
        · exact h2.symm
        · have a1 := p1 y h2; have a2 := q1 x h1
          rw [bl_asym a1] at a2; cases a2
    subst hxy
    congr 1
    refine rise_ext p2 q2 fun z => ⟨fun hz => ?_, fun hz => ?_⟩
    · rcases List.mem_cons.1 ((h z).1 (by simp [hz])) with h1 | h1
      · subst h1; have := p1 z hz; rw [bl_irr] at this; cases this
      · exact h1
    · rcases List.mem_cons.1 ((h z).2 (by simp [hz])) with h1 | h1
      · subst h1; have := q1 z hz; rw [bl_irr] at this; cases this
      · exact h1
end Go.Disk
