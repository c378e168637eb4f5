/- A disk, in plain words: what each call makes of it, and answers. No condition. A disk in memory; its directory, what may be done, names. No condition but sizes. A directory's names, sorted (slices.Sorted of maps.Keys); maps.Clone: by the kit's contracts. No condition but sizes. A disk's directory changed, its files changed: what the calls are made of. No condition but sizes. A disk's calls: change, named, Create, Delete, Rename, DirSync, Names, New. No condition but sizes. A disk's calls: Create, Delete, Rename, DirSync, Names, New. No condition but sizes. A disk's calls: Delete, Rename, DirSync, Names, New. No condition but sizes. A disk's calls: New, Read, Sync, Cut. No condition but sizes. A disk's bytes held: each file once. No condition but sizes. A disk's calls: Append. No condition but sizes. A disk's calls: Crash. No condition but sizes. A disk, in plain words: what always holds is kept by each call. No condition. An act upon a disk, in plain words. No condition but sizes. -/
import Derived.Test.YtmefbneoljpbgaaGreatDoorGb
import Derived.Test.YtmefbneoljpbgaaGreatDoorMa
import Derived.Test.YtmefbneoljpbgaaGreatDoorShelf
import Derived.Lib.SmallJoins
section
namespace Go.Disk
open Go.Den

/-! ## Names rise by their bytes -/
def bl (a b : ByteArray) : Bool := Op.bytesLess a.toList b.toList
theorem bytesLess_irr : ∀ x : List UInt8, Op.bytesLess x x = false
  | [] => rfl
  | a :: x => by simp [Op.bytesLess, bytesLess_irr x, UInt8.lt_irrefl]
theorem bytesLess_trans : ∀ {x y z : List UInt8}, Op.bytesLess x y = true → Op.bytesLess y z = true → Op.bytesLess x z = true
  | x, y, [], _, h => by cases y <;> simp [Op.bytesLess] at h
  | x, [], c :: z, h, _ => by cases x <;> simp [Op.bytesLess] at h
  | [], b :: y, c :: z, _, _ => rfl
  | a :: x, b :: y, c :: z, h1, h2 => by
    simp only [Op.bytesLess, Bool.or_eq_true, decide_eq_true_eq, Bool.and_eq_true, beq_iff_eq] at *
    rcases h1 with h1 | ⟨rfl, h1⟩
    · rcases h2 with h2 | ⟨rfl, h2⟩
      · exact .inl (UInt8.lt_trans h1 h2)
      · exact .inl h1
    · rcases h2 with h2 | ⟨rfl, h2⟩
      · exact .inl h2
      · exact .inr ⟨rfl, bytesLess_trans h1 h2⟩
theorem bytesLess_tri : ∀ x y : List UInt8, x ≠ y → Op.bytesLess x y = false → Op.bytesLess y x = true
  | [], [], h, _ => absurd rfl h
  | [], b :: y, _, h => by simp [Op.bytesLess] at h
  | a :: x, [], _, _ => rfl
  | a :: x, b :: y, hne, h => by
    simp only [Op.bytesLess, Bool.or_eq_false_iff, decide_eq_false_iff_not, Bool.and_eq_false_iff, beq_eq_false_iff_ne] at h
    simp only [Op.bytesLess, Bool.or_eq_true, decide_eq_true_eq, Bool.and_eq_true, beq_iff_eq]
    by_cases hab : a = b
    · subst hab
      have hxy : x ≠ y := fun e => hne (by rw [e])
      rcases h.2 with h2 | h2
      · exact absurd rfl h2
      · exact .inr ⟨rfl, bytesLess_tri x y hxy h2⟩
    · left
      have h1 : ¬ a.toNat < b.toNat := fun hh => h.1 (UInt8.lt_iff_toNat_lt.2 hh)
      have h2 : a.toNat ≠ b.toNat := fun hh => hab (UInt8.toNat_inj.1 hh)
      exact UInt8.lt_iff_toNat_lt.2 (by omega)
theorem toList_inj {a b : ByteArray} (h : a.toList = b.toList) : a = b := by
  rw [ByteArray.toList_eq, ByteArray.toList_eq] at h; exact ByteArray.ext (Array.ext' h)
theorem bl_irr (a : ByteArray) : bl a a = false := bytesLess_irr _
theorem bl_trans {a b c : ByteArray} (h1 : bl a b = true) (h2 : bl b c = true) : bl a c = true := bytesLess_trans h1 h2
theorem bl_tri {a b : ByteArray} (h : a ≠ b) (h1 : bl a b = false) : bl b a = true := bytesLess_tri _ _ (fun e => h (toList_inj e)) h1
theorem bl_asym {a b : ByteArray} (h : bl a b = true) : bl b a = false := by
  cases hb : bl b a with
  | false => rfl
  | true => have := bl_trans h hb; rw [bl_irr] at this; cases this

/-! ## The disk -/
structure Fl where
  b : List UInt8
  sure : Nat
  deriving DecidableEq
abbrev Dir := List (ByteArray × Nat)
structure Dk where
  room : Int
  files : List Fl
  dirs : List Dir
  burn : Int
  gone : Bool
def Dk.now (s : Dk) : Dir := s.dirs.getLastD []
def findD : Dir → ByteArray → Option Nat
  | [], _ => none
  | (k, f) :: r, n => if k = n then some f else findD r n
def Dk.find (s : Dk) (n : ByteArray) : Option Nat := findD s.now n
def okByte (c : UInt8) : Bool := decide (c = 46) || decide (48 ≤ c) && decide (c ≤ 57) || decide (97 ≤ c) && decide (c ≤ 122)
def named (n : ByteArray) : Bool := decide (1 ≤ n.size) && decide (n.size ≤ 12) && n.data.toList.all okByte
def can (s : Dk) (e : Int) : Dk × Int :=
  if s.gone = true then (s, 7) else if e ≠ 0 then (s, e) else if s.burn = 0 then ({ s with gone := true }, 7) else if 0 < s.burn then ({ s with burn := s.burn - 1 }, 0) else (s, 0)
def without (l : Dir) (n : ByteArray) : Dir := l.filter fun x => !decide (x.1 = n)
def withD : Dir → ByteArray × Nat → Dir
  | [], x => [x]
  | y :: r, x => if bl y.1 x.1 = true then y :: withD r x else x :: y :: r
def fileAt (s : Dk) (f : Nat) : Fl := s.files.getD f ⟨[], 0⟩
def isHeld (s : Dk) (f : Nat) : Bool := s.dirs.any fun l => l.any fun x => decide (x.2 = f)
def held (s : Dk) : Nat := ((List.range s.files.length).map fun f => if isHeld s f = true then (fileAt s f).b.length else 0).sum
def setF (s : Dk) (f : Nat) (x : Fl) : Dk := { s with files := s.files.set f x }
def there (s : Dk) (n : ByteArray) : Int := if (s.find n).isSome then 0 else 5
def createE (s : Dk) (n : ByteArray) : Int := if named n = false then 1 else if (s.find n).isSome then 6 else if 60 ≤ s.now.length then 4 else 0
def create (s : Dk) (n : ByteArray) : Dk × Int :=
  let r := can s (createE s n)
  if r.2 = 0 then ({ r.1 with files := s.files ++ [⟨[], 0⟩], dirs := s.dirs ++ [withD s.now (n, s.files.length)] }, 0) else r
def appendE (s : Dk) (n : ByteArray) (k : Nat) : Int := if (s.find n).isSome then (if s.room < ((held s + k : Nat) : Int) then 4 else 0) else 5
def append (s : Dk) (n : ByteArray) (bs : List UInt8) : Dk × Int :=
  let r := can s (appendE s n bs.length)
  let f := (s.find n).getD 0
  if r.2 = 0 then (setF r.1 f { fileAt s f with b := (fileAt s f).b ++ bs }, 0) else r
def read (s : Dk) (n : ByteArray) : List UInt8 × Int :=
  if s.gone = true then ([], 7) else match s.find n with
  | none => ([], 5)
  | some f => ((fileAt s f).b, 0)
def sync (s : Dk) (n : ByteArray) : Dk × Int :=
  let r := can s (there s n)
  let f := (s.find n).getD 0
  if r.2 = 0 then (setF r.1 f { fileAt s f with sure := (fileAt s f).b.length }, 0) else r
def cutE (s : Dk) (n : ByteArray) (k : Int) : Int := match s.find n with
  | none => 5
  | some f => if k < 0 ∨ ((fileAt s f).b.length : Int) < k then 1 else 0
def cut (s : Dk) (n : ByteArray) (k : Int) : Dk × Int :=
  let r := can s (cutE s n k)
  let f := (s.find n).getD 0
  if r.2 = 0 then (setF r.1 f ⟨(fileAt s f).b.take k.toNat, min (fileAt s f).sure k.toNat⟩, 0) else r
def renameE (s : Dk) (a b : ByteArray) : Int := if (s.find a).isSome then (if named b then 0 else 1) else 5
def rename (s : Dk) (a b : ByteArray) : Dk × Int :=
  let r := can s (renameE s a b)
  let f := (s.find a).getD 0
  if r.2 = 0 then ({ r.1 with dirs := s.dirs ++ [withD (without (without s.now a) b) (b, f)] }, 0) else r
def delete (s : Dk) (n : ByteArray) : Dk × Int :=
  let r := can s (there s n)
  if r.2 = 0 then ({ r.1 with dirs := s.dirs ++ [without s.now n] }, 0) else r
def dirsync (s : Dk) : Dk × Int :=
  let r := can s 0
  if r.2 = 0 then ({ r.1 with dirs := [s.now] }, 0) else r
def fuse (s : Dk) (n : Int) : Dk := { s with burn := if n < -1 then -1 else n }
def tailOf (fl : Fl) (tails : List Int) (i : Nat) : Nat :=
  match tails[i]? with
  | none => 0
  | some t => min t.toNat (fl.b.length - fl.sure)
def crashF (tails : List Int) : List (ByteArray × Nat) → Nat → List Fl → List Fl
  | [], _, fs => fs
  | (_, f) :: r, i, fs =>
    let x := fs.getD f ⟨[], 0⟩
    let n := x.sure + tailOf x tails i
    crashF tails r (i + 1) (fs.set f ⟨x.b.take n, n⟩)
def crash (s : Dk) (open_ : Int) (tails : List Int) : Dk :=
  let l := s.dirs.getD (min open_.toNat (s.dirs.length - 1)) []
  { s with files := crashF tails l 0 s.files, dirs := [l], burn := -1, gone := false }

/-! ## What always holds -/
def riseD (l : Dir) : Prop := l.Pairwise fun a b => bl a.1 b.1 = true
structure Dk.Wf (s : Dk) : Prop where
  ne : s.dirs ≠ []
  rise : ∀ l ∈ s.dirs, riseD l
  idx : ∀ l ∈ s.dirs, ∀ x ∈ l, x.2 < s.files.length
  many : ∀ l ∈ s.dirs, l.length ≤ 60
  nm : ∀ l ∈ s.dirs, ∀ x ∈ l, named x.1 = true
  sure : ∀ x ∈ s.files, x.sure ≤ x.b.length
  small : ∀ x ∈ s.files, (x.b.length : Int) ≤ s.room
  room : 16 ≤ s.room ∧ s.room ≤ 1048576
  burn : -1 ≤ s.burn ∧ s.burn ≤ 9223372036854775807
def empty (room : Int) : Dk := ⟨room, [], [[]], -1, false⟩

theorem findD_mem {l : Dir} {n : ByteArray} {f : Nat} (h : findD l n = some f) : (n, f) ∈ l := by
  induction l with
  | nil => simp [findD] at h
  | cons x l ih =>
    obtain ⟨k, g⟩ := x
    simp only [findD] at h
    by_cases hk : k = n
    · rw [if_pos hk] at h; cases h; subst hk; simp
    · rw [if_neg hk] at h; simp [ih h]
theorem findD_of_mem {l : Dir} (hr : riseD l) {n : ByteArray} {f : Nat} (h : (n, f) ∈ l) : findD l n = some f := by
  induction l with
  | nil => simp at h
  | cons x l ih =>
    obtain ⟨k, g⟩ := x
    obtain ⟨p, q⟩ := List.pairwise_cons.1 hr
    simp only [findD]
    rcases List.mem_cons.1 h with h | h
    · cases h; simp
    · have := p _ h
      have hne : k ≠ n := fun e => by subst e; rw [bl_irr] at this; cases this
      rw [if_neg hne]; exact ih q h
theorem findD_none {l : Dir} {n : ByteArray} : findD l n = none ↔ ∀ x ∈ l, x.1 ≠ n := by
  induction l with
  | nil => simp [findD]
  | cons x l ih =>
    obtain ⟨k, g⟩ := x
    simp only [findD]
    by_cases hk : k = n
    · simp [hk]
    · simp [hk, ih]
theorem mem_withD {l : Dir} {x y : ByteArray × Nat} : y ∈ withD l x ↔ y = x ∨ y ∈ l := by
  induction l with
  | nil => simp [withD]
  | cons z l ih =>
    simp only [withD]
    split
    · rw [List.mem_cons, ih, List.mem_cons]
      constructor
      · rintro (h | h | h)
        · exact .inr (.inl h)
        · exact .inl h
        · exact .inr (.inr h)
      · rintro (h | h | h)
        · exact .inr (.inl h)
        · exact .inl h
        · exact .inr (.inr h)
    · simp
theorem rise_withD {l : Dir} (hr : riseD l) {x : ByteArray × Nat} (hn : ∀ y ∈ l, y.1 ≠ x.1) : riseD (withD l x) := by
  induction l with
  | nil => simp [withD, riseD]
  | cons z l ih =>
    obtain ⟨p, q⟩ := List.pairwise_cons.1 hr
    simp only [withD]
    split
    · rename_i hz
      refine List.pairwise_cons.2 ⟨fun y hy => ?_, ih q fun y hy => hn y (by simp [hy])⟩
      rcases mem_withD.1 hy with rfl | hy
      · exact hz
      · exact p y hy
    · rename_i hz
      have h1 : bl x.1 z.1 = true := bl_tri (hn z (by simp)) (by simpa using hz)
      refine List.pairwise_cons.2 ⟨fun y hy => ?_, hr⟩
      rcases List.mem_cons.1 hy with rfl | hy
      · exact h1
      · exact bl_trans h1 (p y hy)
theorem mem_without {l : Dir} {n : ByteArray} {y : ByteArray × Nat} : y ∈ without l n ↔ y ∈ l ∧ y.1 ≠ n := by
  unfold without; rw [List.mem_filter]; simp
theorem rise_without {l : Dir} (hr : riseD l) (n : ByteArray) : riseD (without l n) := hr.sublist (List.filter_sublist)
theorem len_without (l : Dir) (n : ByteArray) : (without l n).length ≤ l.length := List.length_filter_le _ _
theorem len_without_lt {l : Dir} {n : ByteArray} {f : Nat} (h : findD l n = some f) : (without l n).length + 1 ≤ l.length := by
  induction l with
  | nil => simp [findD] at h
  | cons x l ih =>
    obtain ⟨k, g⟩ := x
    have hw := len_without l n
    unfold without at *
    by_cases hk : k = n
    · rw [List.filter_cons_of_neg (by simp [hk])]; simp; omega
    · simp only [findD, hk, if_false] at h
      have := ih h
      rw [List.filter_cons_of_pos (by simp [hk])]; simp; omega
theorem len_withD (l : Dir) (x : ByteArray × Nat) : (withD l x).length = l.length + 1 := by
  induction l with
  | nil => rfl
  | cons z l ih => simp only [withD]; split <;> simp [ih]
/-- directories that rise, of the same entries, are the same. -/
theorem rise_ext : ∀ {l m : Dir}, riseD l → riseD m → (∀ x, x ∈ l ↔ x ∈ m) → l = m
  | [], [], _, _, _ => rfl
  | [], y :: m, _, _, h => by have := (h y).2 (by simp); simp at this
  | x :: l, [], _, _, h => by have := (h x).1 (by simp); simp at this
  | x :: l, y :: m, hl, hm, h => by
    obtain ⟨p1, p2⟩ := List.pairwise_cons.1 hl
    obtain ⟨q1, q2⟩ := List.pairwise_cons.1 hm
    have hxy : x = y := by
      rcases List.mem_cons.1 ((h x).1 (by simp)) with h1 | h1
      · exact h1
      · rcases List.mem_cons.1 ((h y).2 (by simp)) with h2 | h2
        · exact h2.symm
        · have a1 := p1 y h2; have a2 := q1 x h1
          rw [bl_asym a1] at a2; cases a2
    subst hxy
    congr 1
    refine rise_ext p2 q2 fun z => ⟨fun hz => ?_, fun hz => ?_⟩
    · rcases List.mem_cons.1 ((h z).1 (by simp [hz])) with h1 | h1
      · subst h1; have := p1 z hz; rw [bl_irr] at this; cases this
      · exact h1
    · rcases List.mem_cons.1 ((h z).2 (by simp [hz])) with h1 | h1
      · subst h1; have := q1 z hz; rw [bl_irr] at this; cases this
      · exact h1
end Go.Disk
end

section
namespace Go.Proofs.YtmefbneoljpbgaaGreatDoor
open Go.Den Go.Disk

def encB (x : UInt8) : List Value := [.int .u8 (x.toNat : Int)]
theorem encB_len (x : UInt8) : (encB x).length = 1 := rfl
theorem encB_one (x : UInt8) : ∀ u ∈ encB x, u.oneCell' = true := by intro u hu; simp [encB] at hu; subst hu; rfl
def encM (m : Nat) : List Value := [.map (some m)]
theorem encM_len (x : Nat) : (encM x).length = 1 := rfl
theorem encM_one (x : Nat) : ∀ u ∈ encM x, u.oneCell' = true := by intro u hu; simp [encM] at hu; subst hu; rfl
def encN (s : ByteArray) : List Value := [.string s]
theorem encN_len (r : ByteArray) : (encN r).length = 1 := rfl
theorem encN_one (r : ByteArray) : ∀ u ∈ encN r, u.oneCell' = true := by intro u hu; simp [encN] at hu; subst hu; rfl
def ptrTo (b : Nat) : Value := .pointer (some ⟨b, 0, none⟩)
def dirL (fb : List Nat) (l : Dir) : List (ByteArray × Value) := l.map fun x => (x.1, ptrTo (fb.getD x.2 0))
def dirHP (fb : List Nat) (m : Nat) (l : Dir) : HP where
  p w F := (∃ es ck L, blk w m = some (.map es ck) ∧ MapB (fun s : ByteArray => Value.string s) es ck L ∧ L.Perm (dirL fb l)) ∧ F = [m]
  lt := by rintro w F ⟨⟨es, ck, L, h, _⟩, rfl⟩ c hc; simp at hc; subst hc; exact blk_lt h
  st := by rintro w w' F ⟨⟨es, ck, L, h, h2⟩, rfl⟩ hk; exact ⟨⟨es, ck, L, by rw [hk m (by simp), h], h2⟩, rfl⟩
def fileHP (b : Nat) (x : Fl) : HP := ex fun bv : Value => stars [pts b [bv, .int .i64 (x.sure : Int)], slc encB 1 bv x.b]
def dirHPs (fb ms : List Nat) (ds : List Dir) : List HP := List.zipWith (dirHP fb) ms ds
def fileHPs (fb : List Nat) (fs : List Fl) : List HP := List.zipWith fileHP fb fs
def dkC (s : Dk) (m0 : Nat) (sv : Value) : List Value := [.int .i64 s.room, .map (some m0), sv, .int .i64 s.burn, .bool s.gone]
def dkL (d : Nat) (s : Dk) (sv : Value) (ms fb : List Nat) : List HP :=
  [pure_ (ms.length = s.dirs.length ∧ fb.length = s.files.length), pts d (dkC s (ms.headD 0) sv), slc encM 1 sv ms.tail, stars (dirHPs fb ms s.dirs), stars (fileHPs fb s.files)]
def diskHP (d : Nat) (s : Dk) : HP := ex fun x : Value × List Nat × List Nat => stars (dkL d s x.1 x.2.1 x.2.2)

section
variable {w0 w w' : World} {F0 : List Nat} {d : Nat} {s : Dk}
theorem dk_open (h : At w0 F0 (diskHP d s) w) : ∃ sv ms fb, At w0 F0 (stars (dkL d s sv ms fb)) w ∧ ms.length = s.dirs.length ∧ fb.length = s.files.length := by
  obtain ⟨F, ⟨⟨sv, ms, fb⟩, h1⟩, h2, h3⟩ := h
  have ha : At w0 F0 (stars (dkL d s sv ms fb)) w := ⟨F, h1, h2, h3⟩
  obtain ⟨A, ⟨hp, _⟩, _⟩ := ha.get 0 rfl
  exact ⟨sv, ms, fb, ha, hp⟩
theorem dk_shut {sv : Value} {ms fb : List Nat} (h : At w0 F0 (stars (dkL d s sv ms fb)) w) : At w0 F0 (diskHP d s) w := by
  obtain ⟨F, h1, h2, h3⟩ := h
  exact ⟨F, ⟨(sv, ms, fb), h1⟩, h2, h3⟩
/-- the i-th directory. -/
theorem dk_dir {sv : Value} {ms fb : List Nat} (h : At w0 F0 (stars (dkL d s sv ms fb)) w) {i m : Nat} {l : Dir} (hm : ms[i]? = some m) (hl : s.dirs[i]? = some l) : ∃ es ck L, blk w m = some (.map es ck) ∧ MapB (fun s : ByteArray => Value.string s) es ck L ∧ L.Perm (dirL fb l) := by
  obtain ⟨A, h1, _⟩ := h.get 3 rfl
  obtain ⟨B, ⟨h2, _⟩, _⟩ := stars_get (dirHPs fb ms s.dirs) i (dirHP fb m l) (by unfold dirHPs; rw [List.getElem?_zipWith, hm, hl]) h1
  exact h2
/-- the f-th file. -/
theorem dk_file {sv : Value} {ms fb : List Nat} (h : At w0 F0 (stars (dkL d s sv ms fb)) w) {f b : Nat} {x : Fl} (hb : fb[f]? = some b) (hx : s.files[f]? = some x) : ∃ bv T G, blk w b = some (.cells [bv, .int .i64 (x.sure : Int)].toArray T (0, 0)) ∧ Slc encB 1 w bv x.b G := by
  obtain ⟨A, h1, _⟩ := h.get 4 rfl
  obtain ⟨B, ⟨bv, h2⟩, _⟩ := stars_get (fileHPs fb s.files) f (fileHP b x) (by unfold fileHPs; rw [List.getElem?_zipWith, hb, hx]) h1
  obtain ⟨C, ⟨⟨T, h3⟩, _⟩, _⟩ := stars_get _ 0 _ rfl h2
  obtain ⟨D, h4, _⟩ := stars_get _ 1 _ rfl h2
  exact ⟨bv, T, D, h3, h4⟩
theorem lastL_get {α : Type} {l : List α} {d : α} (h : l ≠ []) : l[l.length - 1]? = some (l.getLastD d) := by
  rw [List.getLastD_eq_getLast?, ← List.getLast?_eq_getElem?]
  cases hl : l.getLast? with
  | none => simp at hl; exact absurd hl h
  | some x => rfl
theorem dk_now_get (hw : s.dirs ≠ []) : s.dirs[s.dirs.length - 1]? = some s.now := lastL_get hw
end

/-! ## A map's entries by their names -/
theorem nodup_perm_map {κ : Type} [DecidableEq κ] {L M : List (κ × Value)} (h : L.Perm M) (hn : (L.map (·.1)).Nodup) : (M.map (·.1)).Nodup := (h.map _).nodup_iff.1 hn
theorem lk_mem {κ : Type} [DecidableEq κ] {L : List (κ × Value)} (hn : (L.map (·.1)).Nodup) {k : κ} {v : Value} : lk L k = some v ↔ (k, v) ∈ L := by
  induction L with
  | nil => simp [lk_nil]
  | cons p L ih =>
    obtain ⟨a, b⟩ := p
    simp only [List.map_cons, List.nodup_cons] at hn
    rw [lk_cons]
    by_cases h : k = a
    · subst h
      simp only [if_true, Option.some.injEq, List.mem_cons, Prod.mk.injEq, true_and]
      constructor
      · exact fun h => .inl h.symm
      · rintro (h | h)
        · exact h.symm
        · exact absurd (List.mem_map.2 ⟨_, h, rfl⟩) hn.1
    · simp only [h, if_false, List.mem_cons, Prod.mk.injEq, false_and, false_or]
      exact ih hn.2
theorem lk_none {κ : Type} [DecidableEq κ] {L : List (κ × Value)} {k : κ} : lk L k = none ↔ ∀ p ∈ L, p.1 ≠ k := by
  induction L with
  | nil => simp [lk_nil]
  | cons p L ih =>
    obtain ⟨a, b⟩ := p
    rw [lk_cons]
    by_cases h : k = a
    · subst h; simp
    · simp only [h, if_false, List.mem_cons, forall_eq_or_imp]
      rw [ih]
      exact ⟨fun hh => ⟨fun e => h e.symm, hh⟩, fun hh => hh.2⟩
theorem lk_dir {fb : List Nat} {l : Dir} {L : List (ByteArray × Value)} (hr : riseD l) (hp : L.Perm (dirL fb l)) (hn : (L.map (·.1)).Nodup) (n : ByteArray) : lk L n = (findD l n).map fun f => ptrTo (fb.getD f 0) := by
  cases hf : findD l n with
  | none =>
    rw [Option.map_none, lk_none]
    intro p hpm
    obtain ⟨x, hx, rfl⟩ := List.mem_map.1 (hp.mem_iff.1 hpm)
    exact findD_none.1 hf x hx
  | some f =>
    rw [Option.map_some, lk_mem hn, hp.mem_iff]
    exact List.mem_map.2 ⟨(n, f), findD_mem hf, rfl⟩
set_option linter.unusedSimpArgs false
set_option linter.unusedVariables false
set_option maxRecDepth 20000
set_option maxHeartbeats 4000000
attribute [local congr] BND_cg COND_cg GEF_cg
attribute [local irreducible] capl slicea load1 loadn iaddr iaddra faddr storev newslice binv lookv mupd mdel mlenv mentry mestore slicev slicev3 slices indexs indexav textv rangev nexts clearv shiftv eqaggv convi buildv pickv lens lenl unv nilchk extractv partn JOIN
section
variable {w0 w : World} {F0 : List Nat} {d : Nat} {s : Dk} {R : Value → World → Prop}
theorem dk_now (h : At w0 F0 (diskHP d s) w) (hw : s.dirs ≠ []) (hn : s.dirs.length < 1000000000) (hR : ∀ sv ms fb m es ck L, At w0 F0 (stars (dkL d s sv ms fb)) w → ms.length = s.dirs.length → fb.length = s.files.length → ms[s.dirs.length - 1]? = some m →
    blk w m = some (.map es ck) → MapB (fun s : ByteArray => Value.string s) es ck L → L.Perm (dirL fb s.now) → R (.map (some m)) w) : CALL PR F_disk_Disk_now [ptrTo d] w R := by
  obtain ⟨sv, ms, fb, hs, hm, hf⟩ := dk_open h
  have hpos : 0 < s.dirs.length := List.length_pos_iff.2 hw
  refine C_disk_Disk_now ?_
  unfold M_disk_Disk_now ptrTo
  obtain ⟨T, c⟩ := hs.cell (i := 1) rfl
  obtain ⟨Fs, ss, _⟩ := hs.slc1 (i := 2) rfl
  have hlt : ms.length - 1 < ms.length := by omega
  have hg := List.getElem?_eq_getElem hlt
  obtain ⟨es, ck, L, b1, b2, b3⟩ := dk_dir hs (i := ms.length - 1) (l := s.now) hg (by rw [hm]; exact dk_now_get hw)
  have tl : ms.tail.length = ms.length - 1 := by simp
  (repeat (first | refine BND_step ss.len ?_ | refine gg ?_))
  by_cases h1 : 0 < ms.tail.length
  · have hx : ms.tail[ms.tail.length - 1]? = some ms[ms.length - 1] := by
      rw [List.getElem?_tail, show ms.tail.length - 1 + 1 = ms.length - 1 by omega, hg]
    obtain ⟨bb, oo, ia, _, _, l1⟩ := ss.arr.spot hx rfl .i64
    (repeat (first | (apply BND_step; exact (l1 (w' := w) rfl (j := 0) rfl)) | refine gg ?_))
    exact hR sv ms fb _ es ck L hs hm hf (by rw [← hm]; exact hg) b1 b2 b3
  · (repeat refine gg ?_)
    have e : ms.headD 0 = ms[ms.length - 1] := by
      cases ms with
      | nil => simp at hlt
      | cons a r =>
        have : r = [] := List.eq_nil_of_length_eq_zero (by simpa using h1)
        subst this; rfl
    rw [e]
    exact hR sv ms fb _ es ck L hs hm hf (by rw [← hm]; exact hg) b1 b2 b3
theorem At.mono {P Q : HP} {w0 w : World} {F0 : List Nat} (h : At w0 F0 P w) (hpq : ∀ F, P.p w F → Q.p w F) : At w0 F0 Q w := by
  obtain ⟨F, h1, h2, h3⟩ := h
  exact ⟨F, hpq F h1, h2, h3⟩
theorem dk_can (h : At w0 F0 (diskHP d s) w) (e : Int) (hb : -1 ≤ s.burn ∧ s.burn ≤ 9223372036854775807) (hR : ∀ w', At w0 F0 (diskHP d (can s e).1) w' → R (.int .i64 (can s e).2) w') : CALL PR F_disk_Disk_can [ptrTo d, .int .i64 e] w R := by
  obtain ⟨sv, ms, fb, hs, hm, hf⟩ := dk_open h
  refine C_disk_Disk_can ?_
  unfold M_disk_Disk_can ptrTo
  unfold can at hR
  obtain ⟨T, c⟩ := hs.cell (i := 1) rfl
  (repeat refine gg ?_)
  cases hg : s.gone with
  | true =>
    rw [hg] at hR
    simp only [if_true] at hR
    (repeat refine gg ?_)
    exact hR w h
  | false =>
    rw [hg] at hR
    simp only [Bool.false_eq_true, if_false] at hR
    (repeat refine gg ?_)
    by_cases he : e = 0
    · subst he
      simp only [ne_eq, not_true_eq_false, if_false] at hR
      (repeat refine gg ?_)
      by_cases hb0 : s.burn = 0
      · simp only [hb0, if_true] at hR
        (repeat refine gg ?_)
        refine hs.store (i := 1) rfl ⟨rfl, rfl⟩ (by simp [dkC]) fun w1 h1 f1 => ?_
        exact hR w1 (dk_shut (s := { s with burn := 0, gone := true }) (sv := sv) (ms := ms) (fb := fb) (by rw [← hb0]; exact h1))
      · simp only [hb0, if_false] at hR
        (repeat refine gg ?_)
        by_cases hb1 : 0 < s.burn
        · simp only [hb1, if_true] at hR
          refine join_w (fun w' => At w0 F0 (diskHP d { s with burn := s.burn - 1 }) w') (fun K hK => ?_) (fun w' hw' => hR w' (by rw [hg] at hw'; exact hw'))
          have esub : binv .int .sub (.int .i64 s.burn) (.int .i64 1) = some (.int .i64 (s.burn - 1)) := by rw [binv_sub, wrap_i64 (by omega) (by omega)]
          (repeat refine gg ?_)
          refine hs.store (i := 1) rfl ⟨rfl, rfl⟩ (by simp [dkC]) fun w1 h1 f1 => hK w1 ?_
          exact dk_shut (s := { s with burn := s.burn - 1 }) (sv := sv) (ms := ms) (fb := fb) h1
        · simp only [hb1, if_false] at hR
          refine join_w (fun w' => At w0 F0 (diskHP d s) w') (fun K hK => ?_) (fun w' hw' => hR w' hw')
          (repeat refine gg ?_)
          exact hK w h
    · simp only [ne_eq, he, not_false_eq_true, if_true] at hR
      (repeat refine gg ?_)
      exact hR w h
theorem dk_lookup {fb : List Nat} {m : Nat} {es : Array MapEntry} {ck : Nat} {L : List (ByteArray × Value)} {l : Dir} (b1 : blk w m = some (.map es ck)) (b2 : MapB (fun s : ByteArray => Value.string s) es ck L) (b3 : L.Perm (dirL fb l)) (hr : riseD l) (n : ByteArray) :
    lookv .string (.pointer none) false w (.map (some m)) (.string n) = some (match findD l n with | some f => ptrTo (fb.getD f 0) | none => .pointer none) := by
  have := lookv_L1 keyStr b1 b2.l (.pointer none) n
  rw [lk_dir hr b3 b2.l.once] at this
  rw [this]
  cases findD l n <;> rfl
theorem dk_there (h : At w0 F0 (diskHP d s) w) (hw : s.Wf) (hn : s.dirs.length < 1000000000) (n : ByteArray) (hR : R (.int .i64 (there s n)) w) : CALL PR F_disk_Disk_there [ptrTo d, .string n] w R := by
  refine C_disk_Disk_there ?_
  unfold M_disk_Disk_there
  refine dk_now h hw.ne hn fun sv ms fb m es ck L hs hm hf hmm b1 b2 b3 => ?_
  have hr : riseD s.now := hw.rise _ (List.mem_of_getElem? (dk_now_get hw.ne))
  have lk1 := dk_lookup b1 b2 b3 hr n
  unfold there Dk.find at hR
  cases hfd : findD s.now n with
  | none =>
    rw [hfd] at lk1 hR
    (repeat refine gg ?_)
    exact hR
  | some f =>
    rw [hfd] at lk1 hR
    simp only [ptrTo] at lk1
    (repeat refine gg ?_)
    exact hR
end
end Go.Proofs.YtmefbneoljpbgaaGreatDoor
end

section
namespace Go.Proofs.YtmefbneoljpbgaaGreatDoor
open Go.Den Go.Disk Go.RowKit Go.Maps Go.Sort Go.Shelf
abbrev noVal : Value → Option (DataW Unit × List MemPlace) := fun _ => some (.lit (.bool false), [])
def keyBytesOf : Value → List UInt8
  | .string s => s.data.toList
  | _ => []
theorem fr_of_below {w w' : World} (h : Below w.heap.size w w') : Fr [] w w' := ⟨h.size, fun b hb _ => h.block b hb, h.os, h.tape, h.output⟩
set_option maxRecDepth 100000 in
theorem map_data {es : Array MapEntry} {ck : Nat} {L : List (ByteArray × Value)} (h : MapB (fun s : ByteArray => Value.string s) es ck L) (hs : L.length < 1000000) (hsmall : ∀ p ∈ L, p.1.size < 1000000)
    {w : World} {mb : Nat} (hb : blk w mb = some (.map es ck)) :
    ∃ D : DataW Unit, w.ownsMap Tryz.prog 9 noVal mb L.length D ∧ (strKeys D).Perm (L.map fun p => p.1.data.toList) ∧ Maps.size D = L.length := by
  have hsz : es.size = L.length := by rw [h.l.size]
  have hents := h.l.ents
  have hkeys : es.toList.map (·.key) = L.map fun p => Value.string p.1 := by
    have := congrArg (List.map Prod.fst) hents
    simpa [List.map_map, Function.comp_def] using this
  have hread : ∀ x ∈ es.toList, ∃ s : ByteArray, x.key = .string s ∧ s.size < 1000000 := by
    intro x hx
    have : x.key ∈ es.toList.map (·.key) := List.mem_map.2 ⟨x, hx, rfl⟩
    rw [hkeys] at this
    obtain ⟨p, hp, e⟩ := List.mem_map.1 this
    exact ⟨p.1, e.symm, hsmall p hp⟩
  have hrd : ∀ x ∈ es.toList, ∀ s : ByteArray, x.key = .string s → s.size < 1000000 → WideElems.rd Tryz.prog 9 noVal x = some (.string s.data.toList, .lit (.bool false)) := by
    intro x hx s hk hss
    have hkey : keyOf Tryz.prog 9 x.key = some (.string s.data.toList) := by
      have hml : s.size ≤ maxLen := by unfold maxLen; omega
      simp [keyOf, Tryz.underlying9, mapKey, hk, hml]
    simp [WideElems.rd, hkey, noVal]
  refine ⟨.map ((es.toList.map (WideElems.rg Tryz.prog 9 noVal)).foldr DataW.insert []), ⟨es, ck, hb, ⟨by rw [hsz]; unfold maxLen; omega, ⟨h.lt, h.nd, ?_⟩, ?_⟩, by rw [hsz]; exact Nat.le_refl _, rfl⟩, ?_, ?_⟩
  · rw [hkeys]
    have := h.l.once
    rw [List.nodup_iff_pairwise_ne, List.pairwise_map] at this ⊢
    exact this.imp fun h e => h (by injection e)
  · intro x hx
    obtain ⟨s, hk, hss⟩ := hread x hx
    exact ⟨_, hrd x hx s hk hss⟩
  · have hf : ∀ x ∈ es.toList, strOf (WideElems.rg Tryz.prog 9 noVal x).1 = keyBytesOf x.key := by
      intro x hx
      obtain ⟨s, hk, hss⟩ := hread x hx
      rw [WideElems.rg_of (hrd x hx s hk hss), hk]
      rfl
    have h1 : (strKeys (.map ((es.toList.map (WideElems.rg Tryz.prog 9 noVal)).foldr DataW.insert []))).Perm ((es.toList.map (WideElems.rg Tryz.prog 9 noVal)).map fun p => strOf p.1) := (WideShapes.sorted_perm _).map _
    refine h1.trans ?_
    rw [List.map_map, show es.toList.map ((fun p : Lit × DataW Unit => strOf p.1) ∘ WideElems.rg Tryz.prog 9 noVal) = es.toList.map (fun x => keyBytesOf x.key) from List.map_congr_left (fun x hx => hf x hx)]
    have h2 : es.toList.map (fun x => keyBytesOf x.key) = (es.toList.map (·.key)).map keyBytesOf := by rw [List.map_map]; rfl
    rw [h2, hkeys, List.map_map]
    exact .refl _
  · rw [Maps.size_eq, (WideShapes.sorted_perm _).length_eq, List.length_map, Array.length_toList, hsz]
def txt (l : List UInt8) : ByteArray := ⟨l.toArray⟩
theorem txt_of (s : ByteArray) : txt s.data.toList = s := by simp [txt]
theorem slc_of_owns {w : World} {base e : Nat} {v : Value} {ss : List (List UInt8)} (h : w.ownsRow base e 1 v ss.length (ss.map encStr)) : ∃ G, Slc encN 1 w v (ss.map txt) G ∧ ∀ b ∈ G, base ≤ b := by
  obtain ⟨_, h⟩ := h
  rcases h with ⟨rfl, h0⟩ | ⟨g, cap, cur, rfl, hb, hg, hn, hm, hs, ht⟩
  · have : ss = [] := List.eq_nil_of_length_eq_zero h0
    subst this
    exact ⟨[], Slc.nil _ _ _, by simp⟩
  · refine ⟨[g], .inr ⟨g, cap, cur, e, by simp, hg, by simpa using hn, hs, rfl, fun i x hx j hj => ?_⟩, by simpa using hb⟩
    obtain rfl : j = 0 := by omega
    rw [Nat.mul_one, Nat.add_zero]
    have hi : i < ss.length := by have := (List.getElem?_eq_some_iff.1 hx).1; simpa using this
    have h1 := congrArg (fun l : List Value => l[i]?) ht
    simp only [List.getElem?_take, Nat.mul_one, hi, if_true, Array.getElem?_toList] at h1
    rw [h1]
    simp only [List.getElem?_map] at hx ⊢
    cases hss : ss[i]? with
    | none => simp [hss] at hx
    | some l => simp [hss] at hx; subst hx; rfl
/-- names that rise, the same ones, are the same list. -/
theorem names_ext : ∀ {l m : List ByteArray}, l.Pairwise (fun a b => bl a b = true) → m.Pairwise (fun a b => bl a b = true) → (∀ x, x ∈ l ↔ x ∈ m) → l = m
  | [], [], _, _, _ => rfl
  | [], y :: m, _, _, h => by have := (h y).2 (by simp); simp at this
  | x :: l, [], _, _, h => by have := (h x).1 (by simp); simp at this
  | x :: l, y :: m, hl, hm, h => by
    obtain ⟨p1, p2⟩ := List.pairwise_cons.1 hl
    obtain ⟨q1, q2⟩ := List.pairwise_cons.1 hm
    have hxy : x = y := by
      rcases List.mem_cons.1 ((h x).1 (by simp)) with h1 | h1
      · exact h1
      · rcases List.mem_cons.1 ((h y).2 (by simp)) with h2 | h2
        · exact h2.symm
        · have a1 := p1 y h2; have a2 := q1 x h1
          rw [bl_asym a1] at a2; cases a2
    subst hxy
    congr 1
    refine names_ext p2 q2 fun z => ⟨fun hz => ?_, fun hz => ?_⟩
    · rcases List.mem_cons.1 ((h z).1 (by simp [hz])) with h1 | h1
      · subst h1; have := p1 z hz; rw [bl_irr] at this; cases this
      · exact h1
    · rcases List.mem_cons.1 ((h z).2 (by simp [hz])) with h1 | h1
      · subst h1; have := q1 z hz; rw [bl_irr] at this; cases this
      · exact h1
theorem rise_names {l : Dir} (h : riseD l) : (l.map (·.1)).Pairwise fun a b => bl a b = true := List.pairwise_map.2 h
theorem sorted_rise {ss : List (List UInt8)} (hn : ss.Nodup) : ((ss.mergeSort (fun x y => decide (x ≤ y))).map txt).Pairwise fun a b => bl a b = true := by
  have h1 : (ss.mergeSort (fun x y => decide (x ≤ y))).Pairwise (fun x y => decide (x ≤ y) = true) :=
    List.pairwise_mergeSort (fun a b c h1 h2 => by
      rw [decide_eq_true_eq] at *
      exact List.le_trans h1 h2) (fun a b => by
      rw [Bool.or_eq_true, decide_eq_true_eq, decide_eq_true_eq]
      exact List.le_total a b) ss
  have h2 : (ss.mergeSort (fun x y => decide (x ≤ y))).Nodup := (List.mergeSort_perm _ _).nodup_iff.2 hn
  rw [List.pairwise_map]
  refine (h1.and (List.nodup_iff_pairwise_ne.1 h2)).imp fun {a b} ⟨h3, h4⟩ => ?_
  rw [decide_eq_true_eq] at h3
  have ea : (txt a).toList = a := by rw [ByteArray.toList_eq]; simp [txt]
  have eb : (txt b).toList = b := by rw [ByteArray.toList_eq]; simp [txt]
  unfold bl
  rw [ea, eb]
  have h5 : Op.bytesLess b a = false := by
    rw [bytesLess_eq, decide_eq_false_iff_not]
    exact List.not_lt.2 h3
  exact bytesLess_tri b a (fun e => h4 e.symm) h5
section
variable {w : World} {R : Value → World → Prop}
theorem dk_keys {m : Nat} {fb : List Nat} {es : Array MapEntry} {ck : Nat} {L : List (ByteArray × Value)} {l : Dir} (b1 : blk w m = some (.map es ck)) (b2 : MapB (fun s : ByteArray => Value.string s) es ck L) (b3 : L.Perm (dirL fb l)) (hr : riseD l)
    (hn : l.length ≤ 60) (hsm : ∀ x ∈ l, named x.1 = true) (hR : ∀ w' v G, Slc encN 1 w' v (l.map (·.1)) G → (∀ b ∈ G, hsz w ≤ b) → Fr [] w w' → R v w') :
    CALL PR F_maps_Keys_file [.map (some m)] w fun t w1 => CALL PR F_slices_Sorted_string [t] w1 R := by
  refine ⟨(callsIn_wide.1 (AnyZ.keys_in Tryz.keysA Fence.wide 5 trivial rfl (some m) w)).mono ?_⟩
  rintro e w1 ⟨rfl, hw1⟩
  replace hw1 : w1 = w.alloc (.cells #[.map (some m)] 73) := hw1
  refine ⟨_, rfl, ?_⟩
  have hLl : L.length = l.length := by rw [b3.length_eq]; simp [dirL]
  obtain ⟨D, hown, hperm, hsiz⟩ := map_data b2 (by omega) (fun p hp => by
    obtain ⟨x, hx, rfl⟩ := List.mem_map.1 (b3.mem_iff.1 hp)
    have := hsm x hx
    unfold named at this
    simp only [Bool.and_eq_true, decide_eq_true_eq] at this
    show x.1.size < 1000000
    omega) b1
  have hbl := hown.lt
  have f1 : Fr [] w w1 := by rw [hw1]; exact Fr.alloc _ _ _
  have z1 : hsz w1 = hsz w + 1 := by rw [hw1]; simp
  have hseq : SeqGives Fence.wide 2 Tryz.prog F_maps_Keys_file_1 #[.pointer (some ⟨w.heap.size, 0, none⟩)] encStr (fun ss => ss.Perm (strKeys D)) (Maps.size D) (w.alloc (.cells #[.map (some m)] 73)) :=
    AnyZ.keys_gives (ρ := Tryz.keysA_ren) { Tryz.keysA with } Fence.wide _ trivial rfl (by omega) w.heap.size m L.length D _ (by simp [-heap_size]) (by simp [-heap_size]) (by
      obtain ⟨es, clock, hb, Ft, hs, hD⟩ := hown
      exact ⟨es, clock, (Below.heap_alloc _ _ m hbl).trans hb, Ft, hs, hD⟩)
  rw [hw1]
  refine ⟨(callsIn_wide.1 (AnyZ.sorted_in Tryz.sortedA Fence.wide 5 trivial trivial trivial trivial rfl (by omega) (⟨fun blk off cap ss W hH hblk hsz => callsIn_wide.2 (AnyM.slices_Sort_string Tryz.sortA blk off cap ss W hH hblk hsz), fun p cap W => callsIn_wide.2 (AnyM.slices_Sort_string_none Tryz.sortA p cap W)⟩ : AnyZ.SortsIn Tryz.prog Tryz.sortedA_ren Fence.wide _)
    (enters_of Tryz.func90 (by kernel_rfl) rfl) F_maps_Keys_file_1 #[.pointer (some ⟨w.heap.size, 0, none⟩)] trivial (enters_of Tryz.func91 (by kernel_rfl) rfl) _ _ (by rw [hsiz]; unfold maxLen; omega) (by rw [hsiz]; omega) _ hseq)).mono ?_⟩
  rintro e w2 ⟨v, ss, rfl, hss, hrow, _, hbel⟩
  refine ⟨_, rfl, ?_⟩
  have hlen : ss.length = (ss.mergeSort (fun x y => decide (x ≤ y))).length := by rw [List.length_mergeSort]
  rw [hlen] at hrow
  obtain ⟨G, hslc, hG⟩ := slc_of_owns hrow
  have f2 : Fr [] (w.alloc (.cells #[.map (some m)] 73)) w2 := fr_of_below hbel
  rw [← hw1] at f2 hG
  have hks : (ss.map txt).Perm (l.map (·.1)) := by
    refine ((hss.trans hperm).map txt).trans ?_
    rw [List.map_map]
    have e : L.map (txt ∘ fun p => p.1.data.toList) = L.map (·.1) := List.map_congr_left fun p _ => txt_of p.1
    rw [e]
    have := b3.map (·.1)
    refine this.trans ?_
    unfold dirL
    rw [List.map_map]
    exact .refl _
  have hnd : ss.Nodup := by
    have h1 : (l.map (·.1)).Nodup := by
      rw [List.nodup_iff_pairwise_ne]
      exact (rise_names hr).imp fun {a b} h e => by subst e; rw [bl_irr] at h; cases h
    have h2 := hks.nodup_iff.2 h1
    rw [List.nodup_iff_pairwise_ne, List.pairwise_map] at h2
    rw [List.nodup_iff_pairwise_ne]
    exact h2.imp fun h e => h (by rw [e])
  have heq : (ss.mergeSort (fun x y => decide (x ≤ y))).map txt = l.map (·.1) := names_ext (sorted_rise hnd) (rise_names hr) fun x => by
    rw [((List.mergeSort_perm ss _).map txt).mem_iff, hks.mem_iff]
  rw [heq] at hslc
  exact hR w2 v G hslc (fun b hb => by have := hG b hb; rw [heap_size] at this; omega) (f1.trans' f2)
/-- maps.Clone. -/
theorem dk_clone {m : Nat} {es : Array MapEntry} {ck : Nat} (b1 : blk w m = some (.map es ck)) (hR : ∀ w', blk w' (hsz w) = some (.map es ck) → Fr [] w w' → hsz w' = hsz w + 1 → R (.map (some (hsz w))) w') : CALL PR F_maps_Clone_file [.map (some m)] w R := by
  refine ⟨(AnyW.maps_Clone Tryz.cloneA m es ck w b1).mono ?_⟩
  rintro e w1 ⟨rfl, rfl⟩
  exact ⟨_, rfl, hR _ (blk_alloc_new _ _) (Fr.alloc _ _ _) (by simp)⟩
end
end Go.Proofs.YtmefbneoljpbgaaGreatDoor
end

section
namespace Go.Proofs.YtmefbneoljpbgaaGreatDoor
open Go.Den Go.Disk

section
variable {κ : Type} [DecidableEq κ] {enc : κ → Value} {kd : TypeDesc} {es : Array MapEntry} {ck : Nat} {L : List (κ × Value)}
theorem mdel_B (hk : KeyOk kd enc) {w : World} {b : Nat} (hb : blk w b = some (.map es ck)) (h : MapB enc es ck L) (k : κ) :
    ∃ es' ck', mdel kd w (.map (some b)) (enc k) = some (setB w b (.map es' ck')) ∧ MapB enc es' ck' (delL L k) := by
  have h' : w.heap[b]? = some (.map es ck) := hb
  obtain ⟨es1, ck1, e1, l1⟩ := mdel_L hk hb h.l k
  have e2 := e1
  unfold mdel at e2
  simp only [h', mfind_L hk h.l] at e2
  have key : ∀ es2 ck2, some ({ w with heap := w.heap.setIfInBounds b (.map es2 ck2) } : World) = some (setB w b (.map es1 ck1)) → es1 = es2 ∧ ck1 = ck2 := by
    intro es2 ck2 e
    have h1 : blk (setB w b (.map es2 ck2)) b = blk (setB w b (.map es1 ck1)) b := congrArg (fun x : World => blk x b) (Option.some.inj e)
    rw [blk_setB_same hb, blk_setB_same hb] at h1
    cases h1
    exact ⟨rfl, rfl⟩
  have hsub : ∀ i, (es.eraseIdxIfInBounds i).toList.Sublist es.toList := fun i => by
    unfold Array.eraseIdxIfInBounds
    split
    · rw [Array.toList_eraseIdx]; exact List.eraseIdx_sublist _ _
    · exact List.Sublist.refl _
  refine ⟨es1, ck1, e1, l1, ?_, ?_⟩
  all_goals
    cases hf : findL L k 0 with
    | none =>
      simp only [hf] at e2
      obtain ⟨rfl, rfl⟩ := key _ _ e2
      first | exact h.lt | exact h.nd
    | some p =>
      obtain ⟨i, u⟩ := p
      simp only [hf] at e2
      obtain ⟨rfl, rfl⟩ := key _ _ e2
      first
        | exact fun x hx => h.lt x ((hsub i).subset hx)
        | exact List.Nodup.sublist ((hsub i).map _) h.nd
omit [DecidableEq κ] in
theorem nodup_of_map {α β : Type} {f : α → β} {L : List α} (h : (L.map f).Nodup) : L.Nodup := by
  rw [List.nodup_iff_pairwise_ne, List.pairwise_map] at h
  rw [List.nodup_iff_pairwise_ne]
  exact h.imp fun h e => h (by rw [e])
theorem ins_perm {L M : List (κ × Value)} (hn : (L.map (·.1)).Nodup) (hm : (M.map (·.1)).Nodup) (h : ∀ k, lk L k = lk M k) : L.Perm M := by
  refine (List.perm_ext_iff_of_nodup ?_ ?_).2 fun ⟨k, v⟩ => ?_
  · exact nodup_of_map hn
  · exact nodup_of_map hm
  · rw [← lk_mem hn, ← lk_mem hm, h]
end
theorem stars_snoc : ∀ (ps : List HP) {w : World} {F G : List Nat} {Q : HP}, (stars ps).p w F → Q.p w G → (∀ b ∈ F, b ∉ G) → (stars (ps ++ [Q])).p w (F ++ G)
  | [], w, F, G, Q, h, hq, _ => by
    obtain ⟨_, rfl⟩ := h
    exact ⟨G, [], hq, ⟨trivial, rfl⟩, by simp, by simp⟩
  | P :: ps, w, F, G, Q, h, hq, hd => by
    obtain ⟨A, B, h1, h2, rfl, h3⟩ := h
    refine ⟨A, B ++ G, h1, stars_snoc ps h2 hq (fun b hb => hd b (by simp [hb])), by simp, fun b hb hb' => ?_⟩
    rcases List.mem_append.1 hb' with hb' | hb'
    · exact h3 b hb hb'
    · exact hd b (by simp [hb]) hb'
theorem zipWith_set {α β γ : Type} (g : α → β → γ) : ∀ (xs : List α) (ys : List β) (i : Nat) (a : α) (b : β), xs[i]? = some a → (List.zipWith g xs ys).set i (g a b) = List.zipWith g xs (ys.set i b)
  | [], _, i, _, _, h => by simp at h
  | a' :: xs, [], i, a, b, _ => by simp
  | a' :: xs, b' :: ys, 0, a, b, h => by simp at h; subst h; rfl
  | a' :: xs, b' :: ys, i + 1, a, b, h => by simp only [List.zipWith_cons_cons, List.set_cons_succ]; rw [zipWith_set g xs ys i a b (by simpa using h)]
theorem zipWith_snoc {α β γ : Type} (g : α → β → γ) (xs : List α) (ys : List β) (a : α) (b : β) (h : xs.length = ys.length) : List.zipWith g (xs ++ [a]) (ys ++ [b]) = List.zipWith g xs ys ++ [g a b] := by
  rw [List.zipWith_append h]; rfl
section
variable {w0 w w' : World} {F0 : List Nat} {d : Nat} {s : Dk} {sv : Value} {ms fb : List Nat}
/-- a directory is given other entries. -/
theorem dk_setdir (h : At w0 F0 (stars (dkL d s sv ms fb)) w) {i m : Nat} {l l' : Dir} (hm : ms[i]? = some m) (hl : s.dirs[i]? = some l) {es' : Array MapEntry} {ck' : Nat} {L' : List (ByteArray × Value)} (f : Fr [m] w w') (b1 : blk w' m = some (.map es' ck'))
    (b2 : MapB (fun s : ByteArray => Value.string s) es' ck' L') (b3 : L'.Perm (dirL fb l')) : At w0 F0 (stars (dkL d { s with dirs := s.dirs.set i l' } sv ms fb)) w' := by
  obtain ⟨A0, ⟨h0, _⟩, _⟩ := h.get 0 rfl
  obtain ⟨A, h1, upd⟩ := h.upd 3 rfl
  obtain ⟨B, ⟨_, rfl⟩, _, upd2⟩ := stars_upd (dirHPs fb ms s.dirs) i (dirHP fb m l) (by unfold dirHPs; rw [List.getElem?_zipWith, hm, hl]) h1
  obtain ⟨A', h2, h3⟩ := upd2 w' [m] (dirHP fb m l') ⟨⟨es', ck', L', b1, b2, b3⟩, rfl⟩ f (fun b hb => .inl hb)
  have hz : (dirHPs fb ms s.dirs).set i (dirHP fb m l') = dirHPs fb ms (s.dirs.set i l') := zipWith_set _ _ _ _ _ _ hm
  rw [hz] at h2
  have hmA : m ∈ A := by
    obtain ⟨B, ⟨_, rfl⟩, h4⟩ := stars_get (dirHPs fb ms s.dirs) i (dirHP fb m l) (by unfold dirHPs; rw [List.getElem?_zipWith, hm, hl]) h1
    exact h4 m (by simp)
  have h5 := upd w' A' (stars (dirHPs fb ms (s.dirs.set i l'))) h2 (f.wider fun b hb => by simp at hb; subst hb; exact hmA) h3
  obtain ⟨F, g1, g2, g3⟩ := h5
  obtain ⟨C, D, ⟨_, rfl⟩, k2, hF, k4⟩ := g1
  exact ⟨F, ⟨[], D, ⟨⟨by simpa using h0.1, h0.2⟩, rfl⟩, k2, hF, by simp⟩, g2, g3⟩
/-- a file is changed. -/
theorem dk_fupd (h : At w0 F0 (stars (dkL d s sv ms fb)) w) {f b : Nat} {x : Fl} (hb : fb[f]? = some b) (hx : s.files[f]? = some x) : ∃ A bv, At w A (stars [pts b [bv, .int .i64 (x.sure : Int)], slc encB 1 bv x.b]) w ∧
    ∀ w' bv' x', At w A (stars [pts b [bv', .int .i64 ((x' : Fl).sure : Int)], slc encB 1 bv' x'.b]) w' → At w0 F0 (stars (dkL d (setF s f x') sv ms fb)) w' := by
  obtain ⟨A0, ⟨h0, _⟩, _⟩ := h.get 0 rfl
  obtain ⟨A, h1, upd⟩ := h.upd 4 rfl
  obtain ⟨B, ⟨bv, hB⟩, hBA, upd2⟩ := stars_upd (fileHPs fb s.files) f (fileHP b x) (by unfold fileHPs; rw [List.getElem?_zipWith, hb, hx]) h1
  refine ⟨B, bv, At.start hB, fun w' bv' x' ⟨F', p1, p2, p3⟩ => ?_⟩
  obtain ⟨A', h2, h3⟩ := upd2 w' F' (fileHP b x') ⟨bv', p1⟩ p3 p2
  have hz : (fileHPs fb s.files).set f (fileHP b x') = fileHPs fb (s.files.set f x') := zipWith_set _ _ _ _ _ _ hb
  rw [hz] at h2
  have h5 := upd w' A' (stars (fileHPs fb (s.files.set f x'))) h2 (p3.wider hBA) h3
  obtain ⟨F, g1, g2, g3⟩ := h5
  obtain ⟨C, D, ⟨_, rfl⟩, k2, hF, k4⟩ := g1
  exact ⟨F, ⟨[], D, ⟨⟨h0.1, by simpa [setF] using h0.2⟩, rfl⟩, k2, hF, by simp⟩, g2, g3⟩
theorem dirL_more {fb : List Nat} {l : Dir} (b : Nat) (h : ∀ x ∈ l, x.2 < fb.length) : dirL (fb ++ [b]) l = dirL fb l := by
  unfold dirL
  refine List.map_congr_left fun x hx => ?_
  have := h x hx
  rw [List.getD_eq_getElem?_getD, List.getD_eq_getElem?_getD, List.getElem?_append_left this]
theorem dirHPs_more {fb ms : List Nat} {ds : List Dir} (b : Nat) (h : ∀ l ∈ ds, ∀ x ∈ l, x.2 < fb.length) : dirHPs (fb ++ [b]) ms ds = dirHPs fb ms ds := by
  unfold dirHPs
  induction ds generalizing ms with
  | nil => simp
  | cons l ds ih =>
    cases ms with
    | nil => rfl
    | cons m ms =>
      simp only [List.zipWith_cons_cons]
      rw [ih fun l hl => h l (by simp [hl])]
      congr 1
      unfold dirHP
      simp only [dirL_more b (h l (by simp))]
/-- a new file. -/
theorem dk_newfile (h : At w0 F0 (stars (dkL d s sv ms fb)) w) (f : Fr [] w w') {b T : Nat} (hb : hsz w ≤ b) (b1 : blk w' b = some (.cells [.slice none 0 0, .int .i64 0].toArray T (0, 0))) (hidx : ∀ l ∈ s.dirs, ∀ x ∈ l, x.2 < s.files.length) :
    At w0 F0 (stars (dkL d { s with files := s.files ++ [⟨[], 0⟩] } sv ms (fb ++ [b]))) w' := by
  obtain ⟨A0, ⟨h0, _⟩, _⟩ := h.get 0 rfl
  have h' := h.fr0 f
  obtain ⟨A, h1, upd⟩ := h.upd 4 rfl
  have hlt := (stars (fileHPs fb s.files)).lt h1
  have hnew : (fileHP b ⟨[], 0⟩).p w' [b] := ⟨.slice none 0 0, [b], [], ⟨⟨T, b1⟩, rfl⟩, ⟨[], [], Slc.nil _ _ _, ⟨trivial, rfl⟩, rfl, by simp⟩, rfl, by simp⟩
  have h2 := stars_snoc (fileHPs fb s.files) ((stars (fileHPs fb s.files)).fr h1 f (by simp)) hnew (fun c hc hc' => by simp at hc'; subst hc'; have := hlt _ hc; omega)
  have hz : fileHPs fb s.files ++ [fileHP b ⟨[], 0⟩] = fileHPs (fb ++ [b]) (s.files ++ [⟨[], 0⟩]) := (zipWith_snoc _ _ _ _ _ h0.2).symm
  rw [hz] at h2
  have h5 := upd w' (A ++ [b]) (stars (fileHPs (fb ++ [b]) (s.files ++ [⟨[], 0⟩]))) h2 f.nil (fun c hc => by
    rcases List.mem_append.1 hc with hc | hc
    · exact .inl hc
    · simp at hc; subst hc; exact .inr hb)
  obtain ⟨F, g1, g2, g3⟩ := h5
  obtain ⟨C, D, ⟨_, rfl⟩, k2, hF, k4⟩ := g1
  have hm : dirHPs (fb ++ [b]) ms s.dirs = dirHPs fb ms s.dirs := dirHPs_more b fun l hl x hx => by rw [h0.2]; exact hidx l hl x hx
  refine ⟨F, ⟨[], D, ⟨⟨h0.1, by simp [h0.2]⟩, rfl⟩, ?_, hF, by simp⟩, g2, g3⟩
  show (stars [pts d (dkC s (ms.headD 0) sv), slc encM 1 sv ms.tail, stars (dirHPs (fb ++ [b]) ms s.dirs), stars (fileHPs (fb ++ [b]) (s.files ++ [⟨[], 0⟩]))]).p w' D
  rw [hm]; exact k2
end
end Go.Proofs.YtmefbneoljpbgaaGreatDoor
end

section
namespace Go.Proofs.YtmefbneoljpbgaaGreatDoor
open Go.Den Go.Disk
set_option linter.unusedSimpArgs false
set_option linter.unusedVariables false
set_option maxRecDepth 20000
set_option maxHeartbeats 4000000
attribute [local congr] BND_cg COND_cg GEF_cg
attribute [local irreducible] capl slicea load1 loadn iaddr iaddra faddr storev newslice binv lookv mupd mdel mlenv mentry mestore slicev slicev3 slices indexs indexav textv rangev nexts clearv shiftv eqaggv convi buildv pickv lens lenl unv nilchk extractv partn JOIN
theorem At.pure0 {w0 w : World} {F0 : List Nat} {a b : Prop} {ps : List HP} (h : At w0 F0 (stars (pure_ a :: ps)) w) (hb : b) : At w0 F0 (stars (pure_ b :: ps)) w := by
  obtain ⟨F, ⟨A, B, ⟨_, rfl⟩, h2, h3, h4⟩, h5⟩ := h
  exact ⟨F, ⟨[], B, ⟨hb, rfl⟩, h2, h3, h4⟩, h5⟩
/-- the directory, as it stands behind a change. -/
structure NowAt (w : World) (fb : List Nat) (m : Nat) (l : Dir) : Prop where
  h : ∃ es ck L, blk w m = some (.map es ck) ∧ MapB (fun s : ByteArray => Value.string s) es ck L ∧ L.Perm (dirL fb l)
section
variable {w0 w : World} {F0 : List Nat} {d : Nat} {s : Dk} {R : Value → World → Prop}
theorem dk_change (h : At w0 F0 (diskHP d s) w) (hw : s.Wf) (hn : s.dirs.length < 1000000000)
    (hR : ∀ w' sv ms fb m, At w0 F0 (stars (dkL d { s with dirs := s.dirs ++ [s.now] } sv ms fb)) w' → ms[s.dirs.length]? = some m → NowAt w' fb m s.now → hsz w ≤ m → R (.map (some m)) w') : CALL PR F_disk_Disk_change [ptrTo d] w R := by
  refine C_disk_Disk_change ?_
  unfold M_disk_Disk_change
  refine dk_now h hw.ne hn fun sv ms fb m es ck L hs hm hf hmm b1 b2 b3 => ?_
  refine dk_clone b1 fun w2 c1 f2 z2 => ?_
  obtain ⟨A, h1, upd⟩ := hs.upd 3 rfl
  have hlt := (stars (dirHPs fb ms s.dirs)).lt h1
  have h2 := stars_snoc (Q := dirHP fb (hsz w) s.now) (G := [hsz w]) (dirHPs fb ms s.dirs) ((stars (dirHPs fb ms s.dirs)).fr h1 f2 (by simp)) ⟨⟨es, ck, L, c1, b2, b3⟩, rfl⟩ (fun c hc hc' => by simp at hc'; subst hc'; have := hlt _ hc; omega)
  have hz : dirHPs fb ms s.dirs ++ [dirHP fb (hsz w) s.now] = dirHPs fb (ms ++ [hsz w]) (s.dirs ++ [s.now]) := (zipWith_snoc _ _ _ _ _ hm).symm
  rw [hz] at h2
  have h5 := upd w2 (A ++ [hsz w]) (stars (dirHPs fb (ms ++ [hsz w]) (s.dirs ++ [s.now]))) h2 f2.nil (fun c hc => by
    rcases List.mem_append.1 hc with hc | hc
    · exact .inl hc
    · simp at hc; subst hc; exact .inr (Nat.le_refl _))
  unfold ptrTo
  obtain ⟨T, c⟩ := h5.cell (i := 1) rfl
  (repeat refine gg ?_)
  refine newone_step (enc := encM) (x := hsz w) encM_len rfl fun u w3 s3 f3 z3 => ?_
  have htl : ms.tail.length = ms.length - 1 := by simp
  refine (h5.fr0 f3).append (i := 2) rfl (s3.loads encM_len) encM_len encM_one rfl (by omega) (by rw [htl]; simp; omega) fun v' w4 h6 one6 => ?_
  (repeat refine gg ?_)
  refine h6.store (i := 1) rfl one6 (by simp [dkC]) fun w5 h7 f7 => ?_
  have hne : ms ≠ [] := by
    intro e; subst e
    have := List.length_pos_iff.2 hw.ne
    simp at hm; omega
  have et : (ms ++ [hsz w]).tail = ms.tail ++ [hsz w] := by cases ms with
    | nil => exact absurd rfl hne
    | cons a r => rfl
  have eh : (ms ++ [hsz w]).headD 0 = ms.headD 0 := by cases ms with
    | nil => exact absurd rfl hne
    | cons a r => rfl
  have h8 : At w0 F0 (stars (dkL d { s with dirs := s.dirs ++ [s.now] } v' (ms ++ [hsz w]) fb)) w5 := by
    have := At.pure0 (b := (ms ++ [hsz w]).length = (s.dirs ++ [s.now]).length ∧ fb.length = s.files.length) h7 ⟨by simp [hm], hf⟩
    unfold dkL
    rw [et, eh]
    exact this
  have hget : (ms ++ [hsz w])[s.dirs.length]? = some (hsz w) := by rw [← hm, List.getElem?_append_right (Nat.le_refl _)]; simp
  refine hR w5 v' (ms ++ [hsz w]) fb (hsz w) h8 hget ?_ (Nat.le_refl _)
  have := dk_dir h8 (i := s.dirs.length) (l := s.now) hget (by simp)
  exact ⟨this⟩
theorem dk_named (n : ByteArray) (hR : ∀ w', Fr [] w w' → R (.bool (named n)) w') : CALL PR F_disk_named [.string n] w R := by
  refine C_disk_named ?_
  unfold M_disk_named
  unfold named at hR
  (repeat refine gg ?_)
  by_cases h0 : n.size = 0
  · (repeat refine gg ?_)
    have := hR _ (Fr.refl _ _)
    simpa [h0] using this
  by_cases h12 : 12 < n.size
  · (repeat refine gg ?_)
    have := hR _ (Fr.refl _ _)
    simpa [show ¬ n.size ≤ 12 by omega] using this
  (repeat refine gg ?_)
  have e0 : (decide (1 ≤ n.size) && decide (n.size ≤ 12)) = true := by simp; omega
  rw [e0, Bool.true_and] at hR
  refine ⟨n, rfl, fun c w1 hc hh hrest => ?_⟩
  have hsz1 : hsz w1 = hsz w := by unfold hsz; rw [hh]
  have hl : n.data.toList.length = n.size := Array.length_toList
  have f1 : Fr [] w (w1.alloc (.cells (n.data.map (fun b => Value.int .u8 b.toNat) ++ Array.replicate (c - n.size) (.int .u8 0)) 5 (c, c + 1))) := ⟨by simp [hsz1], fun b hb _ => by rw [blk_alloc_old (by omega), heap_ext hh], hrest.1, hrest.2.1, hrest.2.2⟩
  have ar : Arr encB 1 (w1.alloc (.cells (n.data.map (fun b => Value.int .u8 b.toNat) ++ Array.replicate (c - n.size) (.int .u8 0)) 5 (c, c + 1))) (.slice (some ⟨w1.heap.size, 0, .none⟩) n.size c) n.data.toList := by
    refine ⟨some ⟨w1.heap.size, 0, .none⟩, c, by rw [hl], .inr ⟨w1.heap.size, 0, _, _, _, rfl, blk_alloc_new _ _, fun i x hx => ⟨?_, fun j hj => ?_⟩⟩⟩
    · have hi := (List.getElem?_eq_some_iff.1 hx).1
      simp only [Array.size_append, Array.size_map, Array.size_replicate]
      have : n.data.size = n.size := rfl
      omega
    · obtain rfl : j = 0 := by omega
      have hi := (List.getElem?_eq_some_iff.1 hx).1
      rw [Array.getElem?_append_left (by simp; omega)]
      rw [Array.getElem?_toList] at hx
      simp [encB, hx]
  generalize w1.alloc (.cells (n.data.map (fun b => Value.int .u8 b.toNat) ++ Array.replicate (c - n.size) (.int .u8 0)) 5 (c, c + 1)) = w2 at f1 ar
  generalize (Value.slice (some ⟨w1.heap.size, 0, .none⟩) n.size c) = bv at ar
  (repeat (first | refine BND_step ar.len ?_ | refine gg ?_))
  refine loop_up 0 n.data.toList.length (fun i w' => w' = w2 ∧ (n.data.toList.take i).all okByte = true) ⟨rfl, rfl⟩ (by omega) ?_
  rintro i w5 - hi ⟨rfl, e⟩ J m hJ
  by_cases hlt : i < n.data.toList.length
  · have hx := List.getElem?_eq_getElem hlt
    generalize n.data.toList[i] = x at hx
    obtain ⟨b, o, ia, _, _, l1⟩ := ar.spot hx rfl .i64
    have l1' := l1 rfl (j := 0) rfl
    have yes : okByte x = true → J (.int .i64 ((i + 1 : Nat) : Int)) w5 ∧ m (.int .i64 ((i + 1 : Nat) : Int)) w5 < m (.int .i64 (i : Int)) w5 := fun hok => hJ w5 hlt ⟨rfl, by rw [List.take_add_one, hx, List.all_append, e]; simp [hok]⟩
    have no : okByte x = false → R (.bool false) w5 := fun hno => by
      have := hR w5 f1
      have e2 : n.data.toList.all okByte = false := by rw [List.all_eq_false]; exact ⟨x, List.mem_of_getElem? hx, by simp [hno]⟩
      rwa [e2] at this
    have hx46 : (x.toNat : Int) = 46 ↔ x = 46 := by
      rw [← UInt8.toNat_inj]; show (x.toNat : Int) = 46 ↔ x.toNat = 46; omega
    have h48 : 48 ≤ x ↔ (48 : Int) ≤ (x.toNat : Int) := by rw [UInt8.le_iff_toNat_le]; show 48 ≤ x.toNat ↔ _; omega
    have h57 : x ≤ 57 ↔ (x.toNat : Int) ≤ 57 := by rw [UInt8.le_iff_toNat_le]; show x.toNat ≤ 57 ↔ _; omega
    have h97 : 97 ≤ x ↔ (97 : Int) ≤ (x.toNat : Int) := by rw [UInt8.le_iff_toNat_le]; show 97 ≤ x.toNat ↔ _; omega
    have h122 : x ≤ 122 ↔ (x.toNat : Int) ≤ 122 := by rw [UInt8.le_iff_toNat_le]; show x.toNat ≤ 122 ↔ _; omega
    have hok : okByte x = true ↔ (x.toNat : Int) = 46 ∨ (48 ≤ (x.toNat : Int) ∧ (x.toNat : Int) ≤ 57) ∨ (97 ≤ (x.toNat : Int) ∧ (x.toNat : Int) ≤ 122) := by
      unfold okByte
      simp only [Bool.or_eq_true, Bool.and_eq_true, decide_eq_true_eq, h48, h57, h97, h122, hx46, or_assoc]
    have hno : okByte x = false ↔ ¬ ((x.toNat : Int) = 46 ∨ (48 ≤ (x.toNat : Int) ∧ (x.toNat : Int) ≤ 57) ∨ (97 ≤ (x.toNat : Int) ∧ (x.toNat : Int) ≤ 122)) := by
      rw [← hok]; simp
    generalize (x.toNat : Int) = z at *
    by_cases q1 : z = 46
    · (repeat refine gg ?_)
      exact yes (hok.2 (by omega))
    by_cases q2 : z < 48
    · by_cases q3 : z < 97
      · (repeat refine gg ?_)
        exact no (hno.2 (by omega))
      · (repeat refine gg ?_)
        omega
    by_cases q4 : 57 < z
    · by_cases q5 : z < 97
      · (repeat refine gg ?_)
        exact no (hno.2 (by omega))
      · by_cases q6 : 122 < z
        · (repeat refine gg ?_)
          exact no (hno.2 (by omega))
        · (repeat refine gg ?_)
          exact yes (hok.2 (by omega))
    · (repeat refine gg ?_)
      exact yes (hok.2 (by omega))
  · (repeat refine gg ?_)
    rw [List.take_of_length_le (by omega)] at e
    have := hR w5 f1
    rwa [e] at this
end
end Go.Proofs.YtmefbneoljpbgaaGreatDoor
end

section
namespace Go.Proofs.YtmefbneoljpbgaaGreatDoor
open Go.Den Go.Disk
/-! ## Plain -/
theorem can_keep (s : Dk) (e : Int) : (can s e).1.files = s.files ∧ (can s e).1.dirs = s.dirs ∧ (can s e).1.room = s.room := by
  unfold can
  split
  · exact ⟨rfl, rfl, rfl⟩
  · split
    · exact ⟨rfl, rfl, rfl⟩
    · split
      · exact ⟨rfl, rfl, rfl⟩
      · split <;> exact ⟨rfl, rfl, rfl⟩
theorem can_zero {s : Dk} {e : Int} (h : (can s e).2 = 0) : e = 0 := by
  unfold can at h
  split at h
  · simp at h
  · split at h
    · exact h
    · rename_i h2; simpa using h2
theorem wf_can {s : Dk} (h : s.Wf) (e : Int) : (can s e).1.Wf := by
  obtain ⟨h1, h2, h3⟩ := can_keep s e
  refine ⟨by rw [h2]; exact h.ne, by rw [h2]; exact h.rise, by rw [h1, h2]; exact h.idx, by rw [h2]; exact h.many, by rw [h2]; exact h.nm, by rw [h1]; exact h.sure, by rw [h1, h3]; exact h.small, by rw [h3]; exact h.room, ?_⟩
  have hb := h.burn
  unfold can
  split
  · exact hb
  · split
    · exact hb
    · split
      · exact hb
      · split
        · show -1 ≤ s.burn - 1 ∧ s.burn - 1 ≤ _; omega
        · exact hb
theorem can_now (s : Dk) (e : Int) : (can s e).1.now = s.now := by unfold Dk.now; rw [(can_keep s e).2.1]
theorem findD_withD {l : Dir} (hr : riseD l) {x : ByteArray × Nat} (hn : ∀ y ∈ l, y.1 ≠ x.1) (k : ByteArray) : findD (withD l x) k = if k = x.1 then some x.2 else findD l k := by
  have hr' := rise_withD hr hn
  by_cases hk : k = x.1
  · rw [if_pos hk, hk]
    exact findD_of_mem hr' (mem_withD.2 (.inl rfl))
  · rw [if_neg hk]
    cases hf : findD l k with
    | none =>
      rw [findD_none]
      intro y hy
      rcases mem_withD.1 hy with rfl | hy
      · exact fun e => hk e.symm
      · exact findD_none.1 hf y hy
    | some f => exact findD_of_mem hr' (mem_withD.2 (.inr (findD_mem hf)))
theorem findD_without {l : Dir} (hr : riseD l) (n k : ByteArray) : findD (without l n) k = if k = n then none else findD l k := by
  by_cases hk : k = n
  · rw [if_pos hk, findD_none]
    intro y hy e
    exact (mem_without.1 hy).2 (by rw [e, hk])
  · rw [if_neg hk]
    cases hf : findD l k with
    | none =>
      rw [findD_none]
      intro y hy
      exact findD_none.1 hf y (mem_without.1 hy).1
    | some f => exact findD_of_mem (rise_without hr n) (mem_without.2 ⟨findD_mem hf, hk⟩)
theorem without_id {l : Dir} {n : ByteArray} (h : findD l n = none) : without l n = l := by
  unfold without
  refine List.filter_eq_self.2 fun x hx => ?_
  have := findD_none.1 h x hx
  simp [this]
theorem keys_dir {fb : List Nat} {l : Dir} (hr : riseD l) : ((dirL fb l).map (·.1)).Nodup := by
  unfold dirL
  rw [List.map_map, List.nodup_iff_pairwise_ne]
  exact (rise_names hr).imp fun {a b} h e => by subst e; rw [bl_irr] at h; cases h
theorem lk_dirL {fb : List Nat} {l : Dir} (hr : riseD l) (k : ByteArray) : lk (dirL fb l) k = (findD l k).map fun f => ptrTo (fb.getD f 0) := lk_dir hr (.refl _) (keys_dir hr) k
theorem ins_dir {fb : List Nat} {l : Dir} {L : List (ByteArray × Value)} (hr : riseD l) (hp : L.Perm (dirL fb l)) (hL : (L.map (·.1)).Nodup) (n : ByteArray) (f : Nat) : (insL L n (ptrTo (fb.getD f 0))).Perm (dirL fb (withD (without l n) (n, f))) := by
  have hnn : ∀ y ∈ without l n, y.1 ≠ n := fun y hy => (mem_without.1 hy).2
  have hr2 : riseD (withD (without l n) (n, f)) := rise_withD (rise_without hr n) hnn
  refine ins_perm (once_ins hL n _) (keys_dir hr2) fun k => ?_
  rw [lk_ins, lk_dirL hr2, findD_withD (rise_without hr n) hnn, findD_without hr, lk_dir hr hp hL]
  by_cases hk : k = n
  · simp [hk]
  · simp [hk]
theorem del_dir {fb : List Nat} {l : Dir} {L : List (ByteArray × Value)} (hr : riseD l) (hp : L.Perm (dirL fb l)) (hL : (L.map (·.1)).Nodup) (n : ByteArray) : (delL L n).Perm (dirL fb (without l n)) := by
  refine ins_perm (once_del hL n) (keys_dir (rise_without hr n)) fun k => ?_
  rw [lk_del hL, lk_dirL (rise_without hr n), findD_without hr, lk_dir hr hp hL]
  by_cases hk : k = n
  · simp [hk]
  · simp [hk]
theorem set_snoc {α : Type} (l : List α) (a b : α) : (l ++ [a]).set l.length b = l ++ [b] := by
  induction l with
  | nil => rfl
  | cons x l ih => simp only [List.cons_append, List.length_cons, List.set_cons_succ, ih]
set_option linter.unusedSimpArgs false
set_option linter.unusedVariables false
set_option maxRecDepth 20000
set_option maxHeartbeats 4000000
attribute [local congr] BND_cg COND_cg GEF_cg
attribute [local irreducible] capl slicea load1 loadn iaddr iaddra faddr storev newslice binv lookv mupd mdel mlenv mentry mestore slicev slicev3 slices indexs indexav textv rangev nexts clearv shiftv eqaggv convi buildv pickv lens lenl unv nilchk extractv partn JOIN
section
variable {w0 w : World} {F0 : List Nat} {d : Nat} {s : Dk} {R : Value → World → Prop}
theorem dk_Create (h : At w0 F0 (diskHP d s) w) (hw : s.Wf) (hn : s.dirs.length < 1000000000) (n : ByteArray) (hR : ∀ w', At w0 F0 (diskHP d (create s n).1) w' → R (.int .i64 (create s n).2) w') :
    CALL PR F_disk_Disk_Create [ptrTo d, .string n] w R := by
  refine C_disk_Disk_Create ?_
  unfold M_disk_Disk_Create
  refine dk_now h hw.ne hn fun sv ms fb m es ck L hs hm hf hmm b1 b2 b3 => ?_
  have hr : riseD s.now := hw.rise _ (List.mem_of_getElem? (dk_now_get hw.ne))
  refine dk_named n fun w2 f2 => ?_
  have h2 := h.fr0 f2
  have c1 := f2.some (by simp) b1
  have lk1 := dk_lookup c1 b2 b3 hr n
  have ml := mlenv_L c1 b2.l
  have hLl : L.length = s.now.length := by rw [b3.length_eq]; simp [dirL]
  rw [hLl] at ml
  (repeat refine gg ?_)
  refine join_v (fun e w' => e = .int .i64 (createE s n) ∧ w' = w2) (fun K hK => ?_) ?_
  · cases hnm : named n with
    | false =>
      have e : createE s n = 1 := by simp [createE, hnm]
      (repeat refine gg ?_)
      exact hK _ _ ⟨by rw [e], rfl⟩
    | true =>
    cases hfd : findD s.now n with
    | some f =>
      rw [hfd] at lk1
      simp only [ptrTo] at lk1
      have e : createE s n = 6 := by simp [createE, hnm, Dk.find, hfd]
      (repeat refine gg ?_)
      refine join_v (fun e w' => e = .int .i64 (createE s n) ∧ w' = w2) (fun K2 hK2 => ?_) (fun e w' hq => hK e w' hq)
      (repeat refine gg ?_)
      exact hK2 _ _ ⟨by rw [e], rfl⟩
    | none =>
      rw [hfd] at lk1
      simp only at lk1
      (repeat refine gg ?_)
      refine join_v (fun e w' => e = .int .i64 (createE s n) ∧ w' = w2) (fun K2 hK2 => ?_) (fun e w' hq => hK e w' hq)
      by_cases h60 : 60 ≤ s.now.length
      · have e : createE s n = 4 := by simp [createE, hnm, Dk.find, hfd, h60]
        (repeat refine gg ?_)
        refine join_v (fun e w' => e = .int .i64 (createE s n) ∧ w' = w2) (fun K3 hK3 => ?_) (fun e w' hq => hK2 e w' hq)
        (repeat refine gg ?_)
        exact hK3 _ _ ⟨by rw [e], rfl⟩
      · have e : createE s n = 0 := by simp [createE, hnm, Dk.find, hfd, h60]
        (repeat refine gg ?_)
        refine join_v (fun e w' => e = .int .i64 (createE s n) ∧ w' = w2) (fun K3 hK3 => ?_) (fun e w' hq => hK2 e w' hq)
        (repeat refine gg ?_)
        exact hK3 _ _ ⟨by rw [e], rfl⟩
  · rintro _ _ ⟨rfl, rfl⟩
    refine dk_can h2 _ hw.burn fun w4 h4 => ?_
    unfold create at hR
    by_cases hc : (can s (createE s n)).2 = 0
    · simp only [hc, if_true] at hR
      rw [hc]
      (repeat refine gg ?_)
      refine join_w (fun w' => At w0 F0 (diskHP d { (can s (createE s n)).1 with files := s.files ++ [⟨[], 0⟩], dirs := s.dirs ++ [withD s.now (n, s.files.length)] }) w') (fun K hK => ?_) (fun w' hw' => hR w' hw')
      obtain ⟨k1, k2, k3⟩ := can_keep s (createE s n)
      have hcz := can_zero hc
      have hfd : findD s.now n = none := by
        cases hq : findD s.now n with
        | none => rfl
        | some f =>
          exfalso
          unfold createE Dk.find at hcz
          rw [hq] at hcz
          split at hcz <;> simp at hcz
      (repeat refine gg ?_)
      refine dk_change h4 (wf_can hw _) (by rw [k2]; exact hn) fun w6 sv6 ms6 fb6 m6 hs6 hm6 na6 _ => ?_
      rw [can_now, k2] at hs6
      rw [k2] at hm6
      rw [can_now] at na6
      have g6 := hs6.get 0 rfl
      obtain ⟨_, ⟨hlen6, _⟩, _⟩ := g6
      have hfb : fb6.length = s.files.length := by rw [← k1]; exact hlen6.2
      (repeat (first | refine gg ?_ | (apply BND_build ([.slice none 0 0, .int .i64 0]); exact rfl)))
      refine NEW_intro fun w7 b7 f7 z7 => ?_
      have hidx : ∀ l ∈ s.dirs ++ [s.now], ∀ x ∈ l, x.2 < s.files.length := fun l hl x hx => by
        rcases List.mem_append.1 hl with hl | hl
        · exact hw.idx l hl x hx
        · simp at hl; subst hl; exact hw.idx _ (List.mem_of_getElem? (dk_now_get hw.ne)) x hx
      have h7 := dk_newfile hs6 f7 (Nat.le_refl _) b7 (by rw [k1]; exact hidx)
      rw [k1] at h7
      obtain ⟨es6, ck6, L6, q1, q2, q3⟩ := na6.h
      have q1' := f7.some (by simp) q1
      obtain ⟨es8, ck8, e8, m8⟩ := mupd_B keyStr q1' q2 n (ptrTo (hsz w6))
      refine BND_step e8 <| hK _ ?_
      have hget : (fb6 ++ [hsz w6]).getD s.files.length 0 = hsz w6 := by
        rw [List.getD_eq_getElem?_getD, ← hfb, List.getElem?_append_right (Nat.le_refl _)]; simp
      have q3' : L6.Perm (dirL (fb6 ++ [hsz w6]) s.now) := by
        rw [dirL_more _ (fun x hx => by rw [hfb]; exact hw.idx _ (List.mem_of_getElem? (dk_now_get hw.ne)) x hx)]; exact q3
      have hperm := ins_dir (fb := fb6 ++ [hsz w6]) hr q3' q2.l.once n s.files.length
      rw [hget, without_id hfd] at hperm
      have h9 := dk_setdir h7 (i := s.dirs.length) (l := s.now) (l' := withD s.now (n, s.files.length)) hm6 (by simp) (Fr.setB (F := [m6]) (.inl (by simp)) _) (blk_setB_same q1') m8 hperm
      simp only [set_snoc] at h9
      exact dk_shut h9
    · simp only [hc, if_false] at hR
      (repeat refine gg ?_)
      refine join_w (fun w' => At w0 F0 (diskHP d (can s (createE s n)).1) w') (fun K hK => ?_) (fun w' hw' => hR w' hw')
      (repeat refine gg ?_)
      exact hK w4 h4
end
end Go.Proofs.YtmefbneoljpbgaaGreatDoor
end

section
namespace Go.Proofs.YtmefbneoljpbgaaGreatDoor
open Go.Den Go.Disk
theorem there_zero {s : Dk} {n : ByteArray} (h : there s n = 0) : ∃ f, findD s.now n = some f := by
  unfold there Dk.find at h
  cases hq : findD s.now n with
  | some f => exact ⟨f, rfl⟩
  | none => rw [hq] at h; simp at h
set_option linter.unusedSimpArgs false
set_option linter.unusedVariables false
set_option maxRecDepth 20000
set_option maxHeartbeats 4000000
attribute [local congr] BND_cg COND_cg GEF_cg
attribute [local irreducible] capl slicea load1 loadn iaddr iaddra faddr storev newslice binv lookv mupd mdel mlenv mentry mestore slicev slicev3 slices indexs indexav textv rangev nexts clearv shiftv eqaggv convi buildv pickv lens lenl unv nilchk extractv partn JOIN
section
variable {w0 w : World} {F0 : List Nat} {d : Nat} {s : Dk} {R : Value → World → Prop}
theorem dk_DirSync (h : At w0 F0 (diskHP d s) w) (hw : s.Wf) (hn : s.dirs.length < 1000000000) (hR : ∀ w', At w0 F0 (diskHP d (dirsync s).1) w' → R (.int .i64 (dirsync s).2) w') :
    CALL PR F_disk_Disk_DirSync [ptrTo d] w R := by
  refine C_disk_Disk_DirSync ?_
  unfold M_disk_Disk_DirSync
  refine dk_can h _ hw.burn fun w4 h4 => ?_
  unfold dirsync at hR
  by_cases hc : (can s 0).2 = 0
  · simp only [hc, if_true] at hR
    rw [hc]
    (repeat refine gg ?_)
    refine join_w (fun w' => At w0 F0 (diskHP d { (can s 0).1 with dirs := [s.now] }) w') (fun K hK => ?_) (fun w' hw' => hR w' hw')
    obtain ⟨k1, k2, k3⟩ := can_keep s 0
    (repeat refine gg ?_)
    refine dk_now h4 (by rw [k2]; exact hw.ne) (by rw [k2]; exact hn) fun sv ms fb m es ck L hs hm hf hmm b1 b2 b3 => ?_
    rw [can_now] at b3
    unfold ptrTo
    (repeat refine gg ?_)
    refine hs.store (i := 1) rfl ⟨rfl, rfl⟩ (by simp [dkC]) fun w1 h1 f1 => ?_
    (repeat refine gg ?_)
    refine h1.store (i := 1) rfl ⟨rfl, rfl⟩ (by simp [dkC]) fun w2 h2 f2 => hK _ ?_
    obtain ⟨A, a1, upd⟩ := h2.upd 2 rfl
    have h3 := upd w2 [] (slc encM 1 (.slice none 0 0) []) (Slc.nil _ _ _) (Fr.refl _ _) (by simp)
    obtain ⟨A3, a3, upd3⟩ := h3.upd 3 rfl
    obtain ⟨B, ⟨b4, rfl⟩, hmA⟩ := stars_get (dirHPs fb ms (can s 0).1.dirs) ((can s 0).1.dirs.length - 1) (dirHP fb m s.now) (by
      unfold dirHPs; rw [List.getElem?_zipWith, hmm, dk_now_get (by rw [k2]; exact hw.ne), can_now]) a3
    have h5 := upd3 w2 [m] (stars [dirHP fb m s.now]) ⟨[m], [], ⟨b4, rfl⟩, ⟨trivial, rfl⟩, rfl, by simp⟩ (Fr.refl _ _) (fun c hc => .inl (hmA c hc))
    have h6 := At.pure0 (b := [m].length = [s.now].length ∧ fb.length = (can s 0).1.files.length) h5 ⟨rfl, hf⟩
    exact dk_shut (s := { (can s 0).1 with dirs := [s.now] }) (sv := .slice none 0 0) (ms := [m]) (fb := fb) h6
  · simp only [hc, if_false] at hR
    (repeat refine gg ?_)
    refine join_w (fun w' => At w0 F0 (diskHP d (can s 0).1) w') (fun K hK => ?_) (fun w' hw' => hR w' hw')
    (repeat refine gg ?_)
    exact hK w4 h4
theorem dk_Names (h : At w0 F0 (diskHP d s) w) (hw : s.Wf) (hn : s.dirs.length < 1000000000) (hR : ∀ w' v G, At w0 F0 (diskHP d s) w' → Slc encN 1 w' v (s.now.map (·.1)) G → (∀ b ∈ G, hsz w ≤ b) → Fr [] w w' → R v w') :
    CALL PR F_disk_Disk_Names [ptrTo d] w R := by
  refine C_disk_Disk_Names ?_
  unfold M_disk_Disk_Names
  have hmem : s.now ∈ s.dirs := List.mem_of_getElem? (dk_now_get hw.ne)
  refine dk_now h hw.ne hn fun sv ms fb m es ck L hs hm hf hmm b1 b2 b3 => ?_
  exact dk_keys b1 b2 b3 (hw.rise _ hmem) (hw.many _ hmem) (hw.nm _ hmem) fun w' v G h1 h2 h3 => hR w' v G (h.fr0 h3) h1 h2 h3
end
end Go.Proofs.YtmefbneoljpbgaaGreatDoor
end

section
namespace Go.Proofs.YtmefbneoljpbgaaGreatDoor
open Go.Den Go.Disk
theorem isSome_find {s : Dk} {n : ByteArray} {f : Nat} (h : findD s.now n = some f) : (s.find n).isSome = true ∧ (s.find n).getD 0 = f := by
  unfold Dk.find; rw [h]; exact ⟨rfl, rfl⟩
theorem wf_pick {s : Dk} (hw : s.Wf) {n : ByteArray} {f : Nat} (h : findD s.now n = some f) : s.files[f]? = some (fileAt s f) := by
  have hi := hw.idx _ (List.mem_of_getElem? (dk_now_get hw.ne)) _ (findD_mem h)
  unfold fileAt
  rw [List.getD_eq_getElem?_getD, List.getElem?_eq_getElem hi]; rfl
theorem Slc.take0 {α : Type} {enc : α → List Value} {sz : Nat} {w : World} {v : Value} {xs : List α} {F : List Nat} (h : Slc enc sz w v xs F) {n : Nat} (hn : n ≤ xs.length) (k : IntKind) : ∃ v', slicev sz v none (some (.int k (n : Int))) = some v' ∧ Slc enc sz w v' (xs.take n) F := by
  rcases h with ⟨rfl, rfl, rfl⟩ | ⟨b, cap, c, T, rfl, hb, hc, hs, rfl, hel⟩
  · have : n = 0 := by simpa using hn
    subst this
    exact ⟨.slice none 0 0, by simp [slicev, natOf], Slc.nil _ _ _⟩
  · have h1 : n ≤ cap := by omega
    refine ⟨.slice (some ⟨b, 0, none⟩) n cap, ?_, .inr ⟨b, cap, c, T, by simp [Nat.min_eq_left hn], hb, by simp; omega, hs, rfl, fun i x hx j hj => ?_⟩⟩
    · simp [slicev, natOf, h1, Addr.add]
    · rw [List.getElem?_take] at hx
      split at hx
      · exact hel i x hx j hj
      · simp at hx
theorem slc_nil : binv .slc .eql (.slice none 0 0) (.slice none 0 0) = some (.bool true) := rfl
theorem slc_not {a : Addr} {n c : Nat} : binv .slc .eql (.slice (some a) n c) (.slice none 0 0) = some (.bool false) := rfl
set_option linter.unusedSimpArgs false
set_option linter.unusedVariables false
set_option maxRecDepth 20000
set_option maxHeartbeats 4000000
attribute [local congr] BND_cg COND_cg GEF_cg
attribute [local irreducible] capl slicea load1 loadn iaddr iaddra faddr storev newslice binv lookv mupd mdel mlenv mentry mestore slicev slicev3 slices indexs indexav textv rangev nexts clearv shiftv eqaggv convi buildv pickv lens lenl unv nilchk extractv partn JOIN
section
variable {w0 w : World} {F0 : List Nat} {d : Nat} {s : Dk} {R : Value → World → Prop}
theorem dk_New (room : Int) (hR0 : (room < 16 ∨ 1048576 < room) → R (.tuple #[.pointer none, .int .i64 1]) w)
    (hR : 16 ≤ room ∧ room ≤ 1048576 → ∀ w' d, At w [] (diskHP d (empty room)) w' → R (.tuple #[ptrTo d, .int .i64 0]) w') : CALL PR F_disk_New [.int .i64 room] w R := by
  refine C_disk_New ?_
  unfold M_disk_New
  by_cases h1 : room < 16
  · (repeat refine gg ?_)
    exact hR0 (.inl h1)
  by_cases h2 : 1048576 < room
  · (repeat refine gg ?_)
    exact hR0 (.inr h2)
  (repeat refine gg ?_)
  refine NEWMAP_intro fun w1 b1 f1 z1 => ?_
  (repeat (first | refine gg ?_ | (apply BND_build ([.int .i64 room, .map (some (hsz w)), .slice none 0 0, .int .i64 (-1), .bool false]); exact rfl)))
  refine NEW_intro fun w2 b2 f2 z2 => ?_
  (repeat refine gg ?_)
  have hd : (dirHP [] (hsz w) []).p w2 [hsz w] := ⟨⟨#[], 0, [], by rw [f2.keep _ (by omega) (by simp), b1], ⟨⟨rfl, .nil⟩, by simp, by simp⟩, by simp [dirL]⟩, rfl⟩
  refine hR (by omega) w2 (hsz w1) (dk_shut (sv := .slice none 0 0) (ms := [hsz w]) (fb := []) ⟨[hsz w1, hsz w], ?_, fun b hb => ?_, f1.trans' f2⟩)
  · refine ⟨[], _, ⟨⟨rfl, rfl⟩, rfl⟩, ⟨[hsz w1], [hsz w], ⟨⟨_, b2⟩, rfl⟩, ⟨[], [hsz w], Slc.nil _ _ _, ⟨[hsz w], [], ⟨[hsz w], [], hd, ⟨trivial, rfl⟩, rfl, by simp⟩, ⟨[], [], ⟨trivial, rfl⟩, ⟨trivial, rfl⟩, rfl, by simp⟩, rfl, by simp⟩, rfl, by simp⟩, rfl, ?_⟩, rfl, by simp⟩
    intro b hb hb'
    simp at hb hb'
    omega
  · simp at hb
    right; omega
theorem dk_Read (h : At w0 F0 (diskHP d s) w) (hw : s.Wf) (hn : s.dirs.length < 1000000000) (n : ByteArray) (hR : ∀ w' v G, At w0 F0 (diskHP d s) w' → Slc encB 1 w' v (Disk.read s n).1 G → (∀ b ∈ G, hsz w ≤ b) → Fr [] w w' → R (.tuple #[v, .int .i64 (Disk.read s n).2]) w') :
    CALL PR F_disk_Disk_Read [ptrTo d, .string n] w R := by
  refine C_disk_Disk_Read ?_
  unfold M_disk_Disk_Read
  obtain ⟨sv, ms, fb, hs, hm, hf⟩ := dk_open h
  obtain ⟨T, c⟩ := hs.cell (i := 1) rfl
  unfold Disk.read at hR
  cases hg : s.gone with
  | true =>
    simp only [hg, if_true] at hR
    unfold ptrTo
    (repeat refine gg ?_)
    rw [hg]
    (repeat refine gg ?_)
    exact hR w _ [] h (Slc.nil _ _ _) (by simp) (Fr.refl _ _)
  | false =>
    simp only [hg, Bool.false_eq_true, if_false] at hR
    unfold ptrTo
    (repeat refine gg ?_)
    rw [hg]
    (repeat refine gg ?_)
    unfold Dk.find at hR
    refine dk_there h hw hn n ?_
    cases hfd : findD s.now n with
    | none =>
      have e : there s n = 5 := by unfold there Dk.find; rw [hfd]; rfl
      rw [e]
      simp only [hfd] at hR
      (repeat refine gg ?_)
      exact hR w _ [] h (Slc.nil _ _ _) (by simp) (Fr.refl _ _)
    | some f =>
      have e : there s n = 0 := by unfold there Dk.find; rw [hfd]; rfl
      rw [e]
      simp only [hfd] at hR
      have hr : riseD s.now := hw.rise _ (List.mem_of_getElem? (dk_now_get hw.ne))
      (repeat refine gg ?_)
      refine dk_now h hw.ne hn fun sv ms fb m es ck L hs hm hf hmm b1 b2 b3 => ?_
      have lk1 := dk_lookup b1 b2 b3 hr n
      rw [hfd] at lk1
      have hx := wf_pick hw hfd
      have hi : f < fb.length := by rw [hf]; exact (List.getElem?_eq_some_iff.1 hx).1
      have hb := List.getElem?_eq_getElem hi
      have hgd : fb.getD f 0 = fb[f] := by rw [List.getD_eq_getElem?_getD, hb]; rfl
      simp only [hgd] at lk1
      generalize fb[f] = b at hb lk1
      simp only [ptrTo] at lk1
      obtain ⟨bv, T, G, c2, ss⟩ := dk_file hs hb hx
      have hsm := hw.small _ (List.mem_of_getElem? hx)
      have hrm := hw.room
      (repeat refine gg ?_)
      refine C_slices_Clone_byte_byte ?_
      unfold M_slices_Clone_byte_byte
      have ss0 := ss
      rcases ss with ⟨rfl, e3, _⟩ | ⟨b', cap, cc, T', rfl, _, _, _, _, _⟩
      · (repeat (first | refine BND_step slc_nil ?_ | refine BND_step slc_not ?_ | refine gg ?_))
        rw [show (fileAt s f).b = [] from e3] at hR
        exact hR w _ [] h (Slc.nil _ _ _) (by simp) (Fr.refl _ _)
      · (repeat (first | refine BND_step slc_nil ?_ | refine BND_step slc_not ?_ | refine gg ?_))
        refine newnil_step encB fun t w1 s1 f1 z1 => ?_
        refine APPEND_slc s1 (ys := (fileAt s f).b) ((ss0.fr f1 (by simp)).loads encB_len) encB_len encB_one rfl (by simp; omega) (by simp; omega) fun v' w2 F' s2 f2 sub => ?_
        (repeat refine gg ?_)
        have f3 : Fr [] w w2 := f1.trans f2 (by simp)
        exact hR w2 v' F' (h.fr0 f3) s2 (fun b hb => by
          rcases sub b hb with hb | hb
          · simp at hb; omega
          · omega) f3
theorem dk_Sync (h : At w0 F0 (diskHP d s) w) (hw : s.Wf) (hn : s.dirs.length < 1000000000) (n : ByteArray) (hR : ∀ w', At w0 F0 (diskHP d (sync s n).1) w' → R (.int .i64 (sync s n).2) w') :
    CALL PR F_disk_Disk_Sync [ptrTo d, .string n] w R := by
  refine C_disk_Disk_Sync ?_
  unfold M_disk_Disk_Sync
  refine dk_there h hw hn n ?_
  refine dk_can h _ hw.burn fun w4 h4 => ?_
  have hr : riseD s.now := hw.rise _ (List.mem_of_getElem? (dk_now_get hw.ne))
  unfold sync at hR
  by_cases hc : (can s (there s n)).2 = 0
  · simp only [hc, if_true] at hR
    rw [hc]
    obtain ⟨f, hfd⟩ := there_zero (can_zero hc)
    rw [(isSome_find hfd).2] at hR
    (repeat refine gg ?_)
    refine join_w (fun w' => At w0 F0 (diskHP d (setF (can s (there s n)).1 f { fileAt s f with sure := (fileAt s f).b.length })) w') (fun K hK => ?_) (fun w' hw' => hR w' hw')
    obtain ⟨k1, k2, k3⟩ := can_keep s (there s n)
    (repeat refine gg ?_)
    refine dk_now h4 (by rw [k2]; exact hw.ne) (by rw [k2]; exact hn) fun sv ms fb m es ck L hs hm hf hmm b1 b2 b3 => ?_
    rw [can_now] at b3
    have lk1 := dk_lookup b1 b2 b3 hr n
    rw [hfd] at lk1
    have hx : (can s (there s n)).1.files[f]? = some (fileAt s f) := by rw [k1]; exact wf_pick hw hfd
    have hi : f < fb.length := by rw [hf]; exact (List.getElem?_eq_some_iff.1 hx).1
    have hb := List.getElem?_eq_getElem hi
    have hgd : fb.getD f 0 = fb[f] := by rw [List.getD_eq_getElem?_getD, hb]; rfl
    simp only [hgd] at lk1
    generalize fb[f] = b at hb lk1
    simp only [ptrTo] at lk1
    obtain ⟨A, bv, ha, back⟩ := dk_fupd hs hb hx
    obtain ⟨T, c⟩ := ha.cell (i := 0) rfl
    obtain ⟨Fs, ss, _⟩ := ha.slc1 (i := 1) rfl
    (repeat (first | refine BND_step ss.len ?_ | refine gg ?_))
    refine ha.store (i := 0) rfl ⟨rfl, rfl⟩ (by simp) fun w5 h5 f5 => hK _ ?_
    exact dk_shut (back w5 bv { fileAt s f with sure := (fileAt s f).b.length } h5)
  · simp only [hc, if_false] at hR
    (repeat refine gg ?_)
    refine join_w (fun w' => At w0 F0 (diskHP d (can s (there s n)).1) w') (fun K hK => ?_) (fun w' hw' => hR w' hw')
    (repeat refine gg ?_)
    exact hK w4 h4
theorem dk_Cut (h : At w0 F0 (diskHP d s) w) (hw : s.Wf) (hn : s.dirs.length < 1000000000) (n : ByteArray) (k : Int) (hR : ∀ w', At w0 F0 (diskHP d (cut s n k).1) w' → R (.int .i64 (cut s n k).2) w') :
    CALL PR F_disk_Disk_Cut [ptrTo d, .string n, .int .i64 k] w R := by
  refine C_disk_Disk_Cut ?_
  unfold M_disk_Disk_Cut
  refine dk_there h hw hn n ?_
  have hr : riseD s.now := hw.rise _ (List.mem_of_getElem? (dk_now_get hw.ne))
  have rest : ∀ e, e = cutE s n k → (CALL PR F_disk_Disk_can [ptrTo d, .int .i64 e] w fun t32_19 w4 =>
      BND (binv .int .eql t32_19 (Value.int .i64 0)) fun t34_20 =>
      JOIN (α := World → Prop) (fun k_44 => COND t34_20
      (CALL PR F_disk_Disk_now [ptrTo d] w4 fun t36_45 w6 =>
      BND (lookv .string (Value.pointer none) false w6 t36_45 (.string n)) fun t38_46 =>
      BND (nilchk t38_46) fun t42_47 =>
      BND (faddr 0 t42_47) fun t43_48 =>
      BND (nilchk t38_46) fun t48_49 =>
      BND (faddr 1 t48_49) fun t49_50 =>
      BND (load1 w6.drew t43_48) fun t44_51 =>
      BND (slicev 1 t44_51 none (some (.int .i64 k))) fun t46_52 =>
      BND (load1 w6.drew t49_50) fun t50_53 =>
      BND (min2v t50_53 (.int .i64 k)) fun t52_54 =>
      BND (nilchk t38_46) fun t53_55 =>
      BND (faddr 0 t53_55) fun t54_56 =>
      BND (storev 1 w6.drew t54_56 t46_52) fun w7 =>
      BND (nilchk t38_46) fun t55_57 =>
      BND (faddr 1 t55_57) fun t56_58 =>
      BND (storev 1 w7 t56_58 t52_54) fun w8 =>
      k_44 w8)
      (k_44 w4))
      (fun w5 => R t32_19 w5)) := by
    rintro _ rfl
    refine dk_can h _ hw.burn fun w4 h4 => ?_
    unfold cut at hR
    by_cases hc : (can s (cutE s n k)).2 = 0
    · simp only [hc, if_true] at hR
      rw [hc]
      have hcz := can_zero hc
      obtain ⟨f, hfd⟩ : ∃ f, findD s.now n = some f := by
        unfold cutE Dk.find at hcz
        cases hq : findD s.now n with
        | some f => exact ⟨f, rfl⟩
        | none => rw [hq] at hcz; simp at hcz
      have hk : 0 ≤ k ∧ k ≤ ((fileAt s f).b.length : Int) := by
        unfold cutE Dk.find at hcz
        rw [hfd] at hcz
        simp only at hcz
        split at hcz
        · simp at hcz
        · omega
      rw [(isSome_find hfd).2] at hR
      (repeat refine gg ?_)
      refine join_w (fun w' => At w0 F0 (diskHP d (setF (can s (cutE s n k)).1 f ⟨(fileAt s f).b.take k.toNat, min (fileAt s f).sure k.toNat⟩)) w') (fun K hK => ?_) (fun w' hw' => hR w' hw')
      obtain ⟨k1, k2, k3⟩ := can_keep s (cutE s n k)
      (repeat refine gg ?_)
      refine dk_now h4 (by rw [k2]; exact hw.ne) (by rw [k2]; exact hn) fun sv ms fb m es ck L hs hm hf hmm b1 b2 b3 => ?_
      rw [can_now] at b3
      have lk1 := dk_lookup b1 b2 b3 hr n
      rw [hfd] at lk1
      have hx : (can s (cutE s n k)).1.files[f]? = some (fileAt s f) := by rw [k1]; exact wf_pick hw hfd
      have hi : f < fb.length := by rw [hf]; exact (List.getElem?_eq_some_iff.1 hx).1
      have hb := List.getElem?_eq_getElem hi
      have hgd : fb.getD f 0 = fb[f] := by rw [List.getD_eq_getElem?_getD, hb]; rfl
      simp only [hgd] at lk1
      generalize fb[f] = b at hb lk1
      simp only [ptrTo] at lk1
      obtain ⟨A, bv, ha, back⟩ := dk_fupd (hs.fr0 (Fr.drew [] _)) hb hx
      obtain ⟨T, c⟩ := ha.cell (i := 0) rfl
      obtain ⟨Fs, ss, upd⟩ := ha.upd 1 rfl
      obtain ⟨kn, rfl⟩ : ∃ kn : Nat, k = (kn : Int) := ⟨k.toNat, by omega⟩
      obtain ⟨bv', e1, s1⟩ := Slc.take0 ss (n := kn) (by omega) .i64
      have ha2 := upd _ Fs (slc encB 1 bv' ((fileAt s f).b.take kn)) s1 (Fr.refl _ _) (fun c hc => .inl hc)
      have em : min2v (.int .i64 ((fileAt s f).sure : Int)) (.int .i64 (kn : Int)) = some (.int .i64 ((min (fileAt s f).sure kn : Nat) : Int)) := by
        show some (Value.int .i64 (if (kn : Int) < ((fileAt s f).sure : Int) then (kn : Int) else ((fileAt s f).sure : Int))) = _
        congr 2
        split <;> omega
      (repeat refine gg ?_)
      refine ha2.store (i := 0) rfl s1.one (by simp) fun w7 h7 f7 => ?_
      (repeat refine gg ?_)
      refine h7.store (i := 0) rfl ⟨rfl, rfl⟩ (by simp) fun w8 h8 f8 => hK _ ?_
      exact dk_shut (back w8 bv' ⟨(fileAt s f).b.take kn, min (fileAt s f).sure kn⟩ h8)
    · simp only [hc, if_false] at hR
      (repeat refine gg ?_)
      refine join_w (fun w' => At w0 F0 (diskHP d (can s (cutE s n k)).1) w') (fun K hK => ?_) (fun w' hw' => hR w' hw')
      (repeat refine gg ?_)
      exact hK w4 h4
  cases hfd : findD s.now n with
  | none =>
    have e1 : there s n = 5 := by unfold there Dk.find; rw [hfd]; rfl
    have e : cutE s n k = 5 := by unfold cutE Dk.find; rw [hfd]
    rw [e1]
    (repeat refine gg ?_)
    refine join_v (fun e w' => e = .int .i64 (cutE s n k) ∧ w' = w) (fun K hK => ?_) ?_
    · (repeat refine gg ?_)
      exact hK _ _ ⟨by rw [e], rfl⟩
    · rintro _ _ ⟨rfl, rfl⟩
      exact rest _ rfl
  | some f =>
    have e1 : there s n = 0 := by unfold there Dk.find; rw [hfd]; rfl
    have e : cutE s n k = if k < 0 ∨ ((fileAt s f).b.length : Int) < k then 1 else 0 := by unfold cutE Dk.find; rw [hfd]
    rw [e1]
    by_cases hk0 : k < 0
    · (repeat refine gg ?_)
      refine join_v (fun e w' => e = .int .i64 (cutE s n k) ∧ w' = w) (fun K hK => ?_) ?_
      · (repeat refine gg ?_)
        exact hK _ _ ⟨by rw [e, if_pos (.inl hk0)], rfl⟩
      · rintro _ _ ⟨rfl, rfl⟩
        exact rest _ rfl
    · (repeat refine gg ?_)
      refine dk_now h hw.ne hn fun sv ms fb m es ck L hs hm hf hmm b1 b2 b3 => ?_
      have lk1 := dk_lookup b1 b2 b3 hr n
      rw [hfd] at lk1
      have hx := wf_pick hw hfd
      have hi : f < fb.length := by rw [hf]; exact (List.getElem?_eq_some_iff.1 hx).1
      have hb := List.getElem?_eq_getElem hi
      have hgd : fb.getD f 0 = fb[f] := by rw [List.getD_eq_getElem?_getD, hb]; rfl
      simp only [hgd] at lk1
      generalize fb[f] = b at hb lk1
      simp only [ptrTo] at lk1
      obtain ⟨bv, T, G, c2, ss⟩ := dk_file hs hb hx
      (repeat (first | refine BND_step ss.len ?_ | refine gg ?_))
      by_cases hk1 : ((fileAt s f).b.length : Int) < k
      · (repeat refine gg ?_)
        refine join_v (fun e w' => e = .int .i64 (cutE s n k) ∧ w' = w) (fun K hK => ?_) ?_
        · (repeat refine gg ?_)
          exact hK _ _ ⟨by rw [e, if_pos (.inr hk1)], rfl⟩
        · rintro _ _ ⟨rfl, rfl⟩
          exact rest _ rfl
      · (repeat refine gg ?_)
        refine join_v (fun e w' => e = .int .i64 (cutE s n k) ∧ w' = w) (fun K hK => ?_) ?_
        · (repeat refine gg ?_)
          exact hK _ _ ⟨by rw [e, if_neg (by omega)], rfl⟩
        · rintro _ _ ⟨rfl, rfl⟩
          exact rest _ rfl
end
end Go.Proofs.YtmefbneoljpbgaaGreatDoor
end

section
namespace Go.Proofs.YtmefbneoljpbgaaGreatDoor
open Go.Den Go.Disk
def encF (fb : List Nat) (f : Nat) : List Value := [ptrTo (fb.getD f 0)]
theorem encF_len (fb : List Nat) (x : Nat) : (encF fb x).length = 1 := rfl
theorem encF_one (fb : List Nat) (x : Nat) : ∀ u ∈ encF fb x, u.oneCell' = true := by intro u hu; simp [encF, ptrTo] at hu; subst hu; rfl
/-- files lie apart. -/
theorem files_apart : ∀ (fb : List Nat) (fs : List Fl) {w : World} {F : List Nat}, fb.length = fs.length → (stars (fileHPs fb fs)).p w F → fb.Nodup ∧ ∀ b ∈ fb, b ∈ F
  | [], _, w, F, _, _ => by simp
  | b :: fb, [], w, F, h, _ => by simp at h
  | b :: fb, x :: fs, w, F, hl, h => by
    obtain ⟨A, B, ⟨bv, A1, B1, ⟨_, rfl⟩, _, rfl, _⟩, h2, rfl, h3⟩ := h
    obtain ⟨n1, n2⟩ := files_apart fb fs (by simpa using hl) h2
    refine ⟨List.nodup_cons.2 ⟨fun hb => h3 b (by simp) (n2 b hb), n1⟩, fun c hc => ?_⟩
    rcases List.mem_cons.1 hc with rfl | hc
    · simp
    · exact List.mem_append.2 (.inr (n2 c hc))
theorem getD_inj {fb : List Nat} (hn : fb.Nodup) {f g : Nat} (hf : f < fb.length) (hg : g < fb.length) (h : fb.getD f 0 = fb.getD g 0) : f = g := by
  rw [List.getD_eq_getElem?_getD, List.getD_eq_getElem?_getD, List.getElem?_eq_getElem hf, List.getElem?_eq_getElem hg] at h
  exact (List.getElem_inj hn).1 h
/-- the sum over files, each once. -/
theorem sum_held {s : Dk} {fs : List Nat} (hn : fs.Nodup) (h : ∀ f, f ∈ fs ↔ isHeld s f = true) (hlt : ∀ f ∈ fs, f < s.files.length) : (fs.map fun f => (fileAt s f).b.length).sum = held s := by
  have hp : fs.Perm ((List.range s.files.length).filter fun f => isHeld s f) := by
    refine (List.perm_ext_iff_of_nodup hn ((List.nodup_range).filter _)).2 fun f => ?_
    rw [List.mem_filter, List.mem_range, h]
    exact ⟨fun hh => ⟨hlt f ((h f).2 hh), hh⟩, fun hh => hh.2⟩
  rw [(hp.map _).sum_nat]
  unfold held
  generalize List.range s.files.length = l
  induction l with
  | nil => rfl
  | cons a l ih =>
    by_cases ha : isHeld s a = true
    · rw [List.filter_cons_of_pos ha]; simp [ha, ih]
    · rw [List.filter_cons_of_neg ha]; simp [ha, ih]
theorem sum_small {fs : List Nat} {g : Nat → Nat} {b : Nat} (h : ∀ f ∈ fs, g f ≤ b) : (fs.map g).sum ≤ fs.length * b := by
  induction fs with
  | nil => simp
  | cons a l ih =>
    have h1 := h a (by simp)
    have h2 := ih fun f hf => h f (by simp [hf])
    simp only [List.map_cons, List.sum_cons, List.length_cons, Nat.add_mul]
    omega
theorem nodup_len {fs : List Nat} {n : Nat} (hn : fs.Nodup) (h : ∀ f ∈ fs, f < n) : fs.length ≤ n := by
  have hp : fs.Perm ((List.range n).filter fun f => decide (f ∈ fs)) := by
    refine (List.perm_ext_iff_of_nodup hn ((List.nodup_range).filter _)).2 fun f => ?_
    rw [List.mem_filter, List.mem_range]
    simp only [decide_eq_true_eq]
    exact ⟨fun hh => ⟨h f hh, hh⟩, fun hh => hh.2⟩
  rw [hp.length_eq]
  exact Nat.le_trans (List.length_filter_le _ _) (by simp)
theorem join_go {α : Type} {f : α → Prop} {k : α} (h : f k) : JOIN f k := h
theorem ents_mem {es : Array MapEntry} {L : List (ByteArray × Value)} (h : MapL (fun s : ByteArray => Value.string s) es L) {e : MapEntry} (he : e ∈ es.toList) : ∃ p ∈ L, e.key = .string p.1 ∧ e.val = p.2 := by
  have : (e.key, e.val) ∈ es.toList.map (fun e => (e.key, e.val)) := List.mem_map.2 ⟨e, he, rfl⟩
  rw [h.ents] at this
  obtain ⟨p, hp, e2⟩ := List.mem_map.1 this
  simp only [Prod.mk.injEq] at e2
  exact ⟨p, hp, e2.1.symm, e2.2.symm⟩
theorem mem_ents {es : Array MapEntry} {L : List (ByteArray × Value)} (h : MapL (fun s : ByteArray => Value.string s) es L) {p : ByteArray × Value} (hp : p ∈ L) : ∃ e ∈ es.toList, e.key = .string p.1 ∧ e.val = p.2 := by
  have : (Value.string p.1, p.2) ∈ L.map (fun p => (Value.string p.1, p.2)) := List.mem_map.2 ⟨p, hp, rfl⟩
  rw [← h.ents] at this
  obtain ⟨e, he, e2⟩ := List.mem_map.1 this
  simp only [Prod.mk.injEq] at e2
  exact ⟨e, he, e2.1, e2.2⟩
theorem ents_len {es : Array MapEntry} {L : List (ByteArray × Value)} (h : MapL (fun s : ByteArray => Value.string s) es L) : es.toList.length = L.length := by
  have := congrArg List.length h.ents
  simpa using this
set_option linter.unusedSimpArgs false
set_option linter.unusedVariables false
set_option maxRecDepth 20000
set_option maxHeartbeats 4000000
attribute [local congr] BND_cg COND_cg GEF_cg
attribute [local irreducible] capl slicea load1 loadn iaddr iaddra faddr storev newslice binv lookv mupd mdel mlenv mentry mestore slicev slicev3 slices indexs indexav textv rangev nexts clearv shiftv eqaggv convi buildv pickv lens lenl unv nilchk extractv partn JOIN
section
variable {w0 w : World} {F0 : List Nat} {d : Nat} {s : Dk} {R : Value → World → Prop}
theorem dk_Index {fb fs : List Nat} {v : Value} {f : Nat} (hn : fb.Nodup) (ha : Arr (encF fb) 1 w v fs) (hf : f < fb.length) (hfs : ∀ g ∈ fs, g < fb.length) (hl : fs.length < 1000000000000) (hc : ∀ b ∈ fb, ∃ c T, blk w b = some (.cells c T (0, 0)))
    (hR : ∀ k : Int, (0 ≤ k ↔ f ∈ fs) → R (.int .i64 k) w) : CALL PR F_slices_Index_disk_file_disk_file [v, ptrTo (fb.getD f 0)] w R := by
  refine C_slices_Index_disk_file_disk_file ?_
  unfold M_slices_Index_disk_file_disk_file
  have hcell : ∀ g, g < fb.length → ∃ c T, blk w (fb.getD g 0) = some (.cells c T (0, 0)) := fun g hg => hc _ (by rw [List.getD_eq_getElem?_getD, List.getElem?_eq_getElem hg]; exact List.getElem_mem hg)
  (repeat (first | refine BND_step ha.len ?_ | refine gg ?_))
  refine loop_up 0 fs.length (fun i w' => w' = w ∧ ∀ g ∈ fs.take i, g ≠ f) ⟨rfl, by simp⟩ (by omega) ?_
  rintro i w1 - hi ⟨rfl, e⟩ J m hJ
  by_cases hlt : i < fs.length
  · have hx := List.getElem?_eq_getElem hlt
    have hmem := List.getElem_mem hlt
    generalize fs[i] = g at hx hmem
    obtain ⟨b, o, ia, _, _, l1⟩ := ha.spot hx rfl .i64
    have l1' := l1 (w' := w1) rfl (j := 0) rfl
    obtain ⟨c1, T1, k1⟩ := hcell f hf
    obtain ⟨c2, T2, k2⟩ := hcell g (hfs g hmem)
    have pv := ptrv_blk k1 k2
    unfold ptrTo at l1' ⊢
    by_cases heq : fb.getD f 0 = fb.getD g 0
    · have hfg := getD_inj hn hf (hfs g hmem) heq
      rw [decide_eq_true heq] at pv
      (repeat refine gg ?_)
      exact hR _ (by subst hfg; simp [hmem])
    · rw [decide_eq_false heq] at pv
      (repeat refine gg ?_)
      refine hJ w1 hlt ⟨rfl, fun g' hg' => ?_⟩
      rw [List.take_add_one, hx] at hg'
      rcases List.mem_append.1 hg' with hg' | hg'
      · exact e g' hg'
      · simp at hg'; subst hg'; exact fun h => heq (by rw [h])
  · (repeat refine gg ?_)
    rw [List.take_of_length_le (by omega)] at e
    exact hR (-1) (by simp; exact fun h => e f h rfl)
theorem dk_Contains {fb fs : List Nat} {v : Value} {f : Nat} (hn : fb.Nodup) (ha : Arr (encF fb) 1 w v fs) (hf : f < fb.length) (hfs : ∀ g ∈ fs, g < fb.length) (hl : fs.length < 1000000000000) (hc : ∀ b ∈ fb, ∃ c T, blk w b = some (.cells c T (0, 0)))
    (hR : R (.bool (decide (f ∈ fs))) w) : CALL PR F_slices_Contains_disk_file_disk_file [v, ptrTo (fb.getD f 0)] w R := by
  refine C_slices_Contains_disk_file_disk_file ?_
  unfold M_slices_Contains_disk_file_disk_file
  refine dk_Index hn ha hf hfs hl hc fun k hk => ?_
  (repeat refine gg ?_)
  have : decide (0 ≤ k) = decide (f ∈ fs) := decide_eq_decide.2 hk
  rw [this]; exact hR
theorem isHeld_iff (s : Dk) (f : Nat) : isHeld s f = true ↔ ∃ l ∈ s.dirs, ∃ x ∈ l, x.2 = f := by unfold isHeld; simp [List.any_eq_true]
theorem dk_Held (h : At w0 F0 (diskHP d s) w) (hw : s.Wf) (hn : s.dirs.length < 1000000000) (hn2 : s.files.length < 1000000000) (hR : ∀ w', Fr [] w w' → R (.int .i64 (held s : Nat)) w') :
    CALL PR F_disk_Disk_Held [ptrTo d] w R := by
  obtain ⟨sv, ms, fb, hs, hm, hf⟩ := dk_open h
  obtain ⟨T, c⟩ := hs.cell (i := 1) rfl
  obtain ⟨Fs, ss, _⟩ := hs.slc1 (i := 2) rfl
  refine C_disk_Disk_Held ?_
  unfold M_disk_Disk_Held
  refine ⟨fun _ w' => blk w' d = some (.cells (dkC s (ms.headD 0) sv).toArray T (0, 0)), c, ?_⟩
  have htl : ms.tail.length = ms.length - 1 := by simp
  unfold ptrTo
  have c0 : blk w.drew d = some (.cells (dkC s (ms.headD 0) sv).toArray T (0, 0)) := c
  (repeat refine gg ?_)
  refine newone_step (enc := encM) (x := ms.headD 0) encM_len rfl fun t13 w1 s3 f3 z3 => ?_
  have f3' : Fr [] w w1 := (Fr.drew [] w).trans' f3
  refine ⟨f3'.some (by simp) c, ?_⟩
  refine APPEND_slc s3 (ys := ms.tail) ((ss.fr f3' (by simp)).loads encM_len) encM_len encM_one rfl (by rw [htl]; simp; omega) (by rw [htl]; simp; omega) fun t18 w2 FT s5 f4 sub => ?_
  have f2 : Fr [] w w2 := f3'.trans f4 (by simp)
  have hne : ms ≠ [] := by
    intro e; subst e
    have := List.length_pos_iff.2 hw.ne
    simp at hm; omega
  have ems : [ms.headD 0] ++ ms.tail = ms := by cases ms with
    | nil => exact absurd rfl hne
    | cons a r => rfl
  rw [ems] at s5
  have hs2 := hs.fr0 f2
  obtain ⟨_, hfl, _⟩ := hs2.get 4 rfl
  obtain ⟨fbn, _⟩ := files_apart fb s.files hf hfl
  have hcells : ∀ w', Fr [] w2 w' → ∀ b ∈ fb, ∃ c T, blk w' b = some (.cells c T (0, 0)) := fun w' f b hb => by
    obtain ⟨i, hi, e⟩ := List.mem_iff_getElem.1 hb
    have hi2 : i < s.files.length := by omega
    obtain ⟨bv, T, G, c2, _⟩ := dk_file (hs2.fr0 f) (List.getElem?_eq_getElem hi) (List.getElem?_eq_getElem hi2)
    rw [e] at c2
    exact ⟨_, _, c2⟩
  have hlen : ∀ f, f < s.files.length → (fileAt s f).b.length ≤ 1048576 := fun f hf => by
    have hx : fileAt s f ∈ s.files := by
      unfold fileAt; rw [List.getD_eq_getElem?_getD, List.getElem?_eq_getElem hf]; exact List.getElem_mem hf
    have := hw.small _ hx
    have := hw.room
    omega
  (repeat (first | refine BND_step s5.len ?_ | refine gg ?_))
  refine loop_up3 0 ms.length (fun seen n i w' => ∃ fs : List Nat, At w2 [] (stars [slc (encF fb) 1 seen fs]) w' ∧ fs.Nodup ∧ (∀ f, f ∈ fs ↔ ∃ l ∈ s.dirs.take i, ∃ x ∈ l, x.2 = f) ∧ n = .int .i64 (((fs.map fun f => (fileAt s f).b.length).sum : Nat) : Int))
    ⟨[], (At.nothing w2).add0 (P := slc (encF fb) 1 (.slice none 0 0) []) (Slc.nil _ _ _), List.nodup_nil, by simp, rfl⟩ (by omega) ?_
  rintro seen n i w3 - hi ⟨fs, ha, nd, hfs, rfl⟩ J m hJ
  have f23 : Fr [] w2 w3 := ha.frame
  have hltd : ∀ f, (∃ l ∈ s.dirs, ∃ x ∈ l, x.2 = f) → f < s.files.length := by
    rintro f ⟨l, hl, x, hx, rfl⟩
    exact hw.idx l hl x hx
  by_cases hlt : i < ms.length
  · have hx := List.getElem?_eq_getElem hlt
    have hl := List.getElem?_eq_getElem (show i < s.dirs.length by omega)
    generalize ms[i] = mm at hx
    generalize s.dirs[i]'(by omega) = l at hl
    have hlm : l ∈ s.dirs := List.mem_of_getElem? hl
    have htk : s.dirs.take (i + 1) = s.dirs.take i ++ [l] := by rw [List.take_add_one, hl]; rfl
    obtain ⟨b, o, ia, _, _, l1⟩ := (s5.fr f23 (by simp)).arr.spot hx rfl .i64
    obtain ⟨es, ck, L, b1, b2, b3⟩ := dk_dir hs2 hx hl
    have hLs := ents_len b2.l
    (repeat (first | (apply BND_step; exact (l1 (w' := w3) rfl (j := 0) rfl)) | refine gg ?_))
    refine RANGEM_step (f23.some (by simp) b1) fun w4 it4 f4 z4 => ?_
    have ha4 := ha.add f4 (P := itHP (hsz w3) mm ck #[]) (A := [hsz w3]) ⟨it4, rfl⟩ (by simp)
    refine loop_it2 (hsz w3) L.length (fun seen n w' => ∃ fs A B sn, At w2 [] (stars [itHP (hsz w3) mm ck sn, slc (encF fb) 1 seen fs]) w' ∧ ItAt es sn A B ∧ fs.Nodup ∧ (∀ f ∈ fs, ∃ l ∈ s.dirs.take (i + 1), ∃ x ∈ l, x.2 = f) ∧
      (∀ l' ∈ s.dirs.take i, ∀ x ∈ l', x.2 ∈ fs) ∧ (∀ e ∈ A, ∃ f ∈ fs, e.val = ptrTo (fb.getD f 0)) ∧ n = .int .i64 (((fs.map fun f => (fileAt s f).b.length).sum : Nat) : Int))
      ⟨fs, [], es.toList, #[], ha4, ItAt.start es, nd, fun f hf => by
        obtain ⟨l', hl', r⟩ := (hfs f).1 hf
        exact ⟨l', by rw [htk]; simp [hl'], r⟩, fun l' hl' x hx => (hfs _).2 ⟨l', hl', x, hx, rfl⟩, by simp, rfl⟩ ?_
    rintro seen2 n2 w5 ⟨fs2, A, B, sn, ha5, hit, nd2, q1, q2, q3, rfl⟩ J2 m2 hJ2
    have f25 : Fr [] w2 w5 := ha5.frame
    have hlt2 : ∀ f ∈ fs2, f < s.files.length := fun f hf => hltd f (by
      obtain ⟨l', hl', r⟩ := q1 f hf
      exact ⟨l', List.mem_of_mem_take hl', r⟩)
    have hlt2' : ∀ f ∈ fs2, f < fb.length := fun f hff => by rw [hf]; exact hlt2 f hff
    have hfl2 := nodup_len nd2 hlt2
    have hsum := sum_small (g := fun f => (fileAt s f).b.length) fun f hf => hlen f (hlt2 f hf)
    have hsum2 : (fs2.map fun f => (fileAt s f).b.length).sum ≤ 1000000000 * 1048576 := Nat.le_trans hsum (Nat.mul_le_mul_right _ (by omega))
    obtain ⟨_, ⟨it5, _⟩, _⟩ := ha5.get 0 rfl
    refine NEXTM_step (f25.some (by simp) b1) b2.lt b2.nd it5 hit (fun hB => ?_) (fun e B1 B2 w6 hB f6 it6 hit6 en => ?_)
    · (repeat refine gg ?_)
      refine hJ seen2 _ w5 hlt ⟨fs2, ha5.tail, nd2, fun f => ⟨q1 f, ?_⟩, rfl⟩
      rintro ⟨l', hl', x, hx, rfl⟩
      rw [htk] at hl'
      rcases List.mem_append.1 hl' with hl' | hl'
      · exact q2 l' hl' x hx
      · simp at hl'; subst hl'
        have hp : (x.1, ptrTo (fb.getD x.2 0)) ∈ L := b3.mem_iff.2 (List.mem_map.2 ⟨x, hx, rfl⟩)
        obtain ⟨e, he, _, ev⟩ := mem_ents b2.l hp
        have heA : e ∈ A := by
          have := hit.all.mem_iff.2 he
          rw [hB] at this; simpa using this
        obtain ⟨g, hg, ev2⟩ := q3 e heA
        rw [ev] at ev2
        have e3 : fb.getD x.2 0 = fb.getD g 0 := by unfold ptrTo at ev2; injection ev2 with e4; injection e4 with e5; injection e5
        have := getD_inj fbn (by rw [hf]; exact hw.idx _ hlm x hx) (hlt2' g hg) e3
        rw [this]; exact hg
    · have he : e ∈ es.toList := hit.all.mem_iff.1 (by rw [hB]; simp)
      obtain ⟨p, hp, _, ev⟩ := ents_mem b2.l he
      obtain ⟨x, hx, rfl⟩ := List.mem_map.1 (b3.mem_iff.1 hp)
      simp only at ev
      have hxf : x.2 < s.files.length := hw.idx _ hlm x hx
      have hxb : x.2 < fb.length := by rw [hf]; exact hxf
      obtain ⟨_, _, upd⟩ := ha5.upd 0 rfl
      have ha6 : At w2 [] (stars [itHP (hsz w3) mm ck (sn.push e.born), slc (encF fb) 1 seen2 fs2]) w6 := by
        obtain ⟨A5, ⟨_, hA5⟩, upd⟩ := ha5.upd 0 rfl
        subst hA5
        exact upd w6 [hsz w3] (itHP (hsz w3) mm ck (sn.push e.born)) it6 f6 (fun b hb => .inl hb)
      have f26 : Fr [] w2 w6 := ha6.frame
      have hcnt : seenN (hsz w3) w5 = sn.size := seenN_it it5
      have hcnt6 : seenN (hsz w3) w6 = sn.size + 1 := by rw [seenN_it it6.1]; simp
      have hsz2 : sn.size = A.length := by have := congrArg List.length hit.seen; simpa using this
      have hall := hit.all.length_eq
      rw [hB] at hall
      simp only [List.length_append, List.length_cons] at hall
      rw [ev] at en ⊢
      (repeat refine gg ?_)
      refine dk_Contains fbn (ha6.arr (i := 1) rfl) hxb hlt2' (by omega) (hcells w6 f26) ?_
      by_cases hin : x.2 ∈ fs2
      · rw [decide_eq_true hin]
        (repeat refine gg ?_)
        refine join_go ?_
        (repeat refine gg ?_)
        refine hJ2 seen2 _ w6 (by omega) (by omega) ⟨fs2, A ++ [e], B1 ++ B2, sn.push e.born, ha6, hit6, nd2, q1, q2, fun e' he' => ?_, rfl⟩
        rcases List.mem_append.1 he' with he' | he'
        · exact q3 e' he'
        · simp at he'; subst he'; exact ⟨x.2, hin, ev⟩
      · rw [decide_eq_false hin]
        (repeat refine gg ?_)
        refine join_go ?_
        (repeat refine gg ?_)
        refine newone_step (enc := encF fb) (x := x.2) (encF_len fb) rfl fun t w9 s9 f9 z9 => ?_
        refine (ha6.fr0 f9).append (i := 1) rfl (s9.loads (encF_len fb)) (encF_len fb) (encF_one fb) rfl (by omega) (by simp; omega) fun v' w10 h10 one10 => ?_
        have hb := List.getElem?_eq_getElem hxb
        have hgd : fb.getD x.2 0 = fb[x.2] := by rw [List.getD_eq_getElem?_getD, hb]; rfl
        have hfx : s.files[x.2]? = some (fileAt s x.2) := by
          unfold fileAt; rw [List.getD_eq_getElem?_getD, List.getElem?_eq_getElem hxf]; rfl
        obtain ⟨bv, T2, G, c2, ss2⟩ := dk_file (hs2.fr0 h10.frame) hb hfx
        have hl2 := hlen _ hxf
        rw [← hgd] at c2
        unfold ptrTo
        (repeat (first | refine BND_step ss2.len ?_ | refine BND_step (addn_ (by omega)) ?_ | refine gg ?_))
        refine hJ2 v' _ w10 (by omega) ?_ ⟨fs2 ++ [x.2], A ++ [e], B1 ++ B2, sn.push e.born, h10, hit6, ?_, ?_, ?_, ?_, ?_⟩
        · obtain ⟨_, ⟨it10, _⟩, _⟩ := h10.get 0 rfl
          rw [seenN_it it10, hcnt]; simp
        · rw [List.nodup_append]
          exact ⟨nd2, by simp, fun a ha b hb => by simp at hb; subst hb; exact fun e => hin (e ▸ ha)⟩
        · intro f hf
          rcases List.mem_append.1 hf with hf | hf
          · exact q1 f hf
          · simp at hf; subst hf; exact ⟨l, by rw [htk]; simp, x, hx, rfl⟩
        · intro l' hl' y hy
          exact List.mem_append.2 (.inl (q2 l' hl' y hy))
        · intro e' he'
          rcases List.mem_append.1 he' with he' | he'
          · obtain ⟨g, hg, r⟩ := q3 e' he'
            exact ⟨g, List.mem_append.2 (.inl hg), r⟩
          · simp at he'; subst he'; exact ⟨x.2, by simp, ev⟩
        · simp
  · (repeat refine gg ?_)
    have hheld := sum_held nd (fun f => by rw [hfs, isHeld_iff, List.take_of_length_le (by omega)]) (fun f hf => hltd f (by
      obtain ⟨l', hl', r⟩ := (hfs f).1 hf
      exact ⟨l', List.mem_of_mem_take hl', r⟩))
    rw [hheld]
    exact hR w3 (f2.trans' f23)
end
end Go.Proofs.YtmefbneoljpbgaaGreatDoor
end

section
namespace Go.Proofs.YtmefbneoljpbgaaGreatDoor
open Go.Den Go.Disk
theorem held_small {s : Dk} (hw : s.Wf) : held s ≤ s.files.length * 1048576 := by
  unfold held
  have := sum_small (fs := List.range s.files.length) (g := fun f => if isHeld s f = true then (fileAt s f).b.length else 0) (b := 1048576) fun f hf => by
    split
    · have hf := List.mem_range.1 hf
      have hx : fileAt s f ∈ s.files := by
        unfold fileAt; rw [List.getD_eq_getElem?_getD, List.getElem?_eq_getElem hf]; exact List.getElem_mem hf
      have := hw.small _ hx
      have := hw.room
      omega
    · omega
  simpa using this
set_option linter.unusedSimpArgs false
set_option linter.unusedVariables false
set_option maxRecDepth 20000
set_option maxHeartbeats 4000000
attribute [local congr] BND_cg COND_cg GEF_cg
attribute [local irreducible] capl slicea load1 loadn iaddr iaddra faddr storev newslice binv lookv mupd mdel mlenv mentry mestore slicev slicev3 slices indexs indexav textv rangev nexts clearv shiftv eqaggv convi buildv pickv lens lenl unv nilchk extractv partn JOIN
section
variable {w0 w : World} {F0 : List Nat} {d : Nat} {s : Dk} {R : Value → World → Prop}
theorem dk_Append (h : At w0 F0 (diskHP d s) w) (hw : s.Wf) (hn : s.dirs.length < 1000000000) (hn2 : s.files.length < 1000000000) (n : ByteArray) {u : Value} {bs : List UInt8} (hbs : bs.length < 1000000000) (hul : lenl u = some (.int .i64 bs.length))
    (hu : ∀ w', Fr F0 w0 w' → cellsOfArg w' 1 u = some (flat encB bs, bs.length)) (hR : ∀ w', At w0 F0 (diskHP d (append s n bs).1) w' → R (.int .i64 (append s n bs).2) w') :
    CALL PR F_disk_Disk_Append [ptrTo d, .string n, u] w R := by
  refine C_disk_Disk_Append ?_
  unfold M_disk_Disk_Append
  refine dk_there h hw hn n ?_
  have hr : riseD s.now := hw.rise _ (List.mem_of_getElem? (dk_now_get hw.ne))
  have rest : ∀ w2, At w0 F0 (diskHP d s) w2 → ∀ e, e = appendE s n bs.length → (CALL PR F_disk_Disk_can [ptrTo d, .int .i64 e] w2 fun t28_16 w4 =>
      BND (binv .int .eql t28_16 (Value.int .i64 0)) fun t30_17 =>
      JOIN (α := World → Prop) (fun k_32 => COND t30_17
      (CALL PR F_disk_Disk_now [ptrTo d] w4 fun t32_33 w6 =>
      BND (lookv .string (Value.pointer none) false w6 t32_33 (.string n)) fun t34_34 =>
      BND (nilchk t34_34) fun t37_35 =>
      BND (faddr 0 t37_35) fun t38_36 =>
      BND (load1 w6 t38_36) fun t39_37 =>
      APPEND 5 1 1 (Value.int .u8 0) t39_37 u w6 fun t41_38 w7 =>
      BND (nilchk t34_34) fun t42_39 =>
      BND (faddr 0 t42_39) fun t43_40 =>
      BND (storev 1 w7 t43_40 t41_38) fun w8 =>
      k_32 w8)
      (k_32 w4))
      (fun w5 => R t28_16 w5)) := by
    rintro w2 h2 _ rfl
    refine dk_can h2 _ hw.burn fun w4 h4 => ?_
    unfold append at hR
    by_cases hc : (can s (appendE s n bs.length)).2 = 0
    · simp only [hc, if_true] at hR
      rw [hc]
      have hcz := can_zero hc
      obtain ⟨f, hfd⟩ : ∃ f, findD s.now n = some f := by
        unfold appendE Dk.find at hcz
        cases hq : findD s.now n with
        | some f => exact ⟨f, rfl⟩
        | none => rw [hq] at hcz; simp at hcz
      rw [(isSome_find hfd).2] at hR
      (repeat refine gg ?_)
      refine join_w (fun w' => At w0 F0 (diskHP d (setF (can s (appendE s n bs.length)).1 f { fileAt s f with b := (fileAt s f).b ++ bs })) w') (fun K hK => ?_) (fun w' hw' => hR w' hw')
      obtain ⟨k1, k2, k3⟩ := can_keep s (appendE s n bs.length)
      (repeat refine gg ?_)
      refine dk_now h4 (by rw [k2]; exact hw.ne) (by rw [k2]; exact hn) fun sv ms fb m es ck L hs hm hf hmm b1 b2 b3 => ?_
      rw [can_now] at b3
      have lk1 := dk_lookup b1 b2 b3 hr n
      rw [hfd] at lk1
      have hx0 := wf_pick hw hfd
      have hx : (can s (appendE s n bs.length)).1.files[f]? = some (fileAt s f) := by rw [k1]; exact hx0
      have hsm := hw.small _ (List.mem_of_getElem? hx0)
      have hrm := hw.room
      have hi : f < fb.length := by rw [hf]; exact (List.getElem?_eq_some_iff.1 hx).1
      have hb := List.getElem?_eq_getElem hi
      have hgd : fb.getD f 0 = fb[f] := by rw [List.getD_eq_getElem?_getD, hb]; rfl
      simp only [hgd] at lk1
      generalize fb[f] = b at hb lk1
      simp only [ptrTo] at lk1
      obtain ⟨A, bv, ha, back⟩ := dk_fupd hs hb hx
      obtain ⟨T, c⟩ := ha.cell (i := 0) rfl
      (repeat refine gg ?_)
      refine ha.append (i := 1) rfl (hu _ hs.frame) encB_len encB_one rfl (by omega) (by omega) fun v' w7 h7 one7 => ?_
      (repeat refine gg ?_)
      refine h7.store (i := 0) rfl one7 (by simp) fun w8 h8 f8 => hK _ ?_
      exact dk_shut (back w8 v' { fileAt s f with b := (fileAt s f).b ++ bs } h8)
    · simp only [hc, if_false] at hR
      (repeat refine gg ?_)
      refine join_w (fun w' => At w0 F0 (diskHP d (can s (appendE s n bs.length)).1) w') (fun K hK => ?_) (fun w' hw' => hR w' hw')
      (repeat refine gg ?_)
      exact hK w4 h4
  obtain ⟨sv, ms, fb, hs, hm, hf⟩ := dk_open h
  obtain ⟨T, c⟩ := hs.cell (i := 1) rfl
  refine ⟨fun _ w' => blk w' d = some (.cells (dkC s (ms.headD 0) sv).toArray T (0, 0)), c, ?_⟩
  cases hfd : findD s.now n with
  | none =>
    have e1 : there s n = 5 := by unfold there Dk.find; rw [hfd]; rfl
    have e : appendE s n bs.length = 5 := by unfold appendE Dk.find; rw [hfd]; rfl
    rw [e1]
    (repeat (first | refine gg ?_ | refine FLT.mk _ (fun _ hw_ => rfl) ?_))
    refine ⟨c, ?_⟩
    (repeat refine gg ?_)
    refine join_v (fun e w' => e = .int .i64 (appendE s n bs.length) ∧ w' = w.drew) (fun K hK => ?_) ?_
    · (repeat refine gg ?_)
      exact hK _ _ ⟨by rw [e], rfl⟩
    · rintro _ _ ⟨rfl, rfl⟩
      exact rest _ (h.fr0 (Fr.drew [] _)) _ rfl
  | some f =>
    have e1 : there s n = 0 := by unfold there Dk.find; rw [hfd]; rfl
    have e : appendE s n bs.length = if s.room < ((held s + bs.length : Nat) : Int) then 4 else 0 := by unfold appendE Dk.find; rw [hfd]; rfl
    have hhs : held s ≤ 1000000000 * 1048576 := Nat.le_trans (held_small hw) (Nat.mul_le_mul_right _ (by omega))
    rw [e1]
    unfold ptrTo
    (repeat refine gg ?_)
    refine dk_Held (h.fr0 (Fr.drew [] _)) hw hn hn2 fun w2 f2 => ?_
    refine ⟨f2.some (by simp) c, ?_⟩
    have h2 := (h.fr0 (Fr.drew [] _)).fr0 f2
    (repeat (first | refine BND_step (addn_ (by omega)) ?_ | refine gg ?_))
    by_cases hbig : s.room < ((held s + bs.length : Nat) : Int)
    · (repeat refine gg ?_)
      refine join_v (fun e w' => e = .int .i64 (appendE s n bs.length) ∧ w' = w2) (fun K hK => ?_) ?_
      · (repeat refine gg ?_)
        exact hK _ _ ⟨by rw [e, if_pos hbig], rfl⟩
      · rintro _ _ ⟨rfl, rfl⟩
        exact rest _ h2 _ rfl
    · (repeat refine gg ?_)
      refine join_v (fun e w' => e = .int .i64 (appendE s n bs.length) ∧ w' = w2) (fun K hK => ?_) ?_
      · (repeat refine gg ?_)
        exact hK _ _ ⟨by rw [e, if_neg hbig], rfl⟩
      · rintro _ _ ⟨rfl, rfl⟩
        exact rest _ h2 _ rfl
end
end Go.Proofs.YtmefbneoljpbgaaGreatDoor
end

section
namespace Go.Proofs.YtmefbneoljpbgaaGreatDoor
open Go.Den Go.Disk
def names (l : Dir) : List ByteArray := l.map (·.1)
theorem At.wrap {w0 w : World} {F0 : List Nat} {P : HP} (h : At w0 F0 P w) : At w0 F0 (stars [P]) w := by
  obtain ⟨F, g1, g2, g3⟩ := h
  exact ⟨F, ⟨F, [], g1, ⟨trivial, rfl⟩, by simp, by simp⟩, g2, g3⟩
theorem At.unwrap {w0 w : World} {F0 : List Nat} {P : HP} (h : At w0 F0 (stars [P]) w) : At w0 F0 P w := by
  obtain ⟨F, ⟨A, B, g1, ⟨_, rfl⟩, rfl, _⟩, g2, g3⟩ := h
  exact ⟨A, g1, by simpa using g2, g3⟩
theorem At.zoom {w0 w : World} {F0 : List Nat} {ps : List HP} (h : At w0 F0 (stars ps) w) (i : Nat) {P : HP} (hi : ps[i]? = some P) : ∃ A, At w A P w ∧ ∀ w' P', At w A P' w' → At w0 F0 (stars (ps.set i P')) w' := by
  obtain ⟨A, a1, upd⟩ := h.upd i hi
  exact ⟨A, At.start a1, fun w' P' ⟨F', p1, p2, p3⟩ => upd w' F' P' p1 p3 p2⟩
def encI (x : Int) : List Value := [.int .i64 x]
def crash1 (tails : List Int) (f i : Nat) (fs : List Fl) : List Fl :=
  let x := fs.getD f ⟨[], 0⟩
  fs.set f ⟨x.b.take (x.sure + tailOf x tails i), x.sure + tailOf x tails i⟩
theorem crashF_snoc (tails : List Int) (k : ByteArray) (f : Nat) : ∀ (l : Dir) (i : Nat) (fs : List Fl), crashF tails (l ++ [(k, f)]) i fs = crash1 tails f (i + l.length) (crashF tails l i fs)
  | [], i, fs => rfl
  | (k', f') :: l, i, fs => by
    simp only [List.cons_append, crashF, List.length_cons]
    rw [crashF_snoc tails k f l (i + 1), show i + 1 + l.length = i + (l.length + 1) by omega]
theorem crash1_len (tails : List Int) (f i : Nat) (fs : List Fl) : (crash1 tails f i fs).length = fs.length := by unfold crash1; simp
theorem tailOf_le (x : Fl) (tails : List Int) (i : Nat) : tailOf x tails i ≤ x.b.length - x.sure := by
  unfold tailOf
  split
  · omega
  · exact Nat.min_le_right _ _
/-- what holds of files. -/
def FilesOk (m : Nat) (fs : List Fl) : Prop := ∀ x ∈ fs, x.sure ≤ x.b.length ∧ x.b.length ≤ m
theorem crash1_ok {tails : List Int} {f i m : Nat} {fs : List Fl} (h : FilesOk m fs) (hf : f < fs.length) : FilesOk m (crash1 tails f i fs) := by
  intro x hx
  unfold crash1 at hx
  rcases List.mem_or_eq_of_mem_set hx with hx | rfl
  · exact h x hx
  · have hm : fs.getD f ⟨[], 0⟩ ∈ fs := by rw [List.getD_eq_getElem?_getD, List.getElem?_eq_getElem hf]; exact List.getElem_mem hf
    have h1 := h _ hm
    have h2 := tailOf_le (fs.getD f ⟨[], 0⟩) tails i
    simp only [List.length_take]
    omega
set_option linter.unusedSimpArgs false
set_option linter.unusedVariables false
set_option maxRecDepth 20000
set_option maxHeartbeats 4000000
attribute [local congr] BND_cg COND_cg GEF_cg
attribute [local irreducible] capl slicea load1 loadn iaddr iaddra faddr storev newslice binv lookv mupd mdel mlenv mentry mestore slicev slicev3 slices indexs indexav textv rangev nexts clearv shiftv eqaggv convi buildv pickv lens lenl unv nilchk extractv partn JOIN
section
variable {w0 w : World} {F0 : List Nat} {d : Nat} {s : Dk} {R : Value → World → Prop}
theorem dk_Crash (h : At w0 F0 (diskHP d s) w) (hw : s.Wf) (hn : s.dirs.length < 1000000000) (op : Int) {tv : Value} {tails : List Int} (hta : ∀ w', Fr F0 w0 w' → Arr encI 1 w' tv tails) (hR : ∀ w', At w0 F0 (diskHP d (crash s op tails)) w' → R (.tuple #[]) w') :
    CALL PR F_disk_Disk_Crash [ptrTo d, .int .i64 op, tv] w R := by
  obtain ⟨sv, ms, fb, hs, hm, hf⟩ := dk_open h
  obtain ⟨T, c⟩ := hs.cell (i := 1) rfl
  obtain ⟨Fs, ss, _⟩ := hs.slc1 (i := 2) rfl
  refine C_disk_Disk_Crash ?_
  unfold M_disk_Disk_Crash
  have htl : ms.tail.length = ms.length - 1 := by simp
  have hpos : 0 < s.dirs.length := List.length_pos_iff.2 hw.ne
  obtain ⟨j, hj⟩ : ∃ j, j = min op.toNat (s.dirs.length - 1) := ⟨_, rfl⟩
  have hjl : j < s.dirs.length := by omega
  have hjm : j < ms.length := by omega
  have hl := List.getElem?_eq_getElem hjl
  have hmj := List.getElem?_eq_getElem hjm
  generalize s.dirs[j] = l at hl
  generalize ms[j] = mj at hmj
  have hlm : l ∈ s.dirs := List.mem_of_getElem? hl
  have hld : s.dirs.getD (min op.toNat (s.dirs.length - 1)) [] = l := by rw [← hj, List.getD_eq_getElem?_getD, hl]; rfl
  unfold crash at hR
  rw [hld] at hR
  have em : min2v (.int .i64 op) (.int .i64 (ms.tail.length : Int)) = some (.int .i64 (if (ms.tail.length : Int) < op then (ms.tail.length : Int) else op)) := rfl
  unfold ptrTo
  (repeat (first | refine BND_step ss.len ?_ | refine gg ?_))
  refine join_w (fun w' => At w0 F0 (stars [pure_ (ms.length = s.dirs.length ∧ fb.length = s.files.length), pts d (dkC s mj sv), slc encM 1 sv ms.tail, stars (dirHPs fb ms s.dirs), stars (fileHPs fb s.files)]) w') (fun K hK => ?_) (fun w1 h1 => ?_)
  · by_cases h0 : 0 < (if (ms.tail.length : Int) < op then (ms.tail.length : Int) else op)
    · have hj1 : (if (ms.tail.length : Int) < op then (ms.tail.length : Int) else op) = (j : Int) := by split <;> omega
      rw [hj1] at h0
      rw [hj1]
      have hx : ms.tail[j - 1]? = some mj := by rw [List.getElem?_tail, show j - 1 + 1 = j by omega, hmj]
      obtain ⟨bb, oo, ia, _, _, l1⟩ := ss.arr.spot hx rfl .i64
      (repeat (first | (apply BND_step; exact (l1 (w' := w) rfl (j := 0) rfl)) | refine gg ?_))
      refine hs.store (i := 1) rfl ⟨rfl, rfl⟩ (by simp [dkC]) fun w1 h1 f1 => hK w1 h1
    · have hj0 : j = 0 := by
        split at h0 <;> omega
      (repeat refine gg ?_)
      refine hK w ?_
      have : ms.headD 0 = mj := by
        subst hj0
        cases ms with
        | nil => simp at hjm
        | cons a r => simpa using hmj
      rw [← this]; exact hs
  · (repeat refine gg ?_)
    refine h1.store (i := 1) rfl ⟨rfl, rfl⟩ (by simp [dkC]) fun w2 h2 _ => ?_
    (repeat refine gg ?_)
    refine h2.store (i := 1) rfl ⟨rfl, rfl⟩ (by simp [dkC]) fun w3 h3 _ => ?_
    (repeat refine gg ?_)
    refine h3.store (i := 1) rfl ⟨rfl, rfl⟩ (by simp [dkC]) fun w4 h4 _ => ?_
    have hA : At w0 F0 (stars (dkL d { s with dirs := [l], burn := -1, gone := false } (.slice none 0 0) [mj] fb)) w4 := by
      obtain ⟨A, a1, upd⟩ := h4.upd 2 rfl
      have h5 := upd w4 [] (slc encM 1 (.slice none 0 0) []) (Slc.nil _ _ _) (Fr.refl _ _) (by simp)
      obtain ⟨A3, a3, upd3⟩ := h5.upd 3 rfl
      obtain ⟨B, ⟨b4, rfl⟩, hmA⟩ := stars_get (dirHPs fb ms s.dirs) j (dirHP fb mj l) (by unfold dirHPs; rw [List.getElem?_zipWith, hmj, hl]) a3
      have h6 := upd3 w4 [mj] (stars [dirHP fb mj l]) ⟨[mj], [], ⟨b4, rfl⟩, ⟨trivial, rfl⟩, rfl, by simp⟩ (Fr.refl _ _) (fun c hc => .inl (hmA c hc))
      exact At.pure0 (b := [mj].length = [l].length ∧ fb.length = s.files.length) h6 ⟨rfl, hf⟩
    obtain ⟨T4, c4⟩ := hA.cell (i := 1) rfl
    obtain ⟨es, ck, L, b1, b2, b3⟩ := dk_dir hA (i := 0) (m := mj) (l := l) rfl rfl
    have hr : riseD l := hw.rise _ hlm
    (repeat refine gg ?_)
    refine dk_keys b1 b2 b3 hr (hw.many _ hlm) (hw.nm _ hlm) fun w6 nv G sN hG f6 => ?_
    replace sN : Slc encN 1 w6 nv (names l) G := sN
    have hB := (At.wrap hA).add f6 (P := slc encN 1 nv (names l)) (A := G) sN hG
    have h60 := hw.many _ hlm
    (repeat (first | refine BND_step sN.len ?_ | refine gg ?_))
    have hok0 : FilesOk 1048576 s.files := fun x hx => ⟨hw.sure x hx, by have := hw.small x hx; have := hw.room; omega⟩
    refine loop_up 0 (names l).length (fun i w' => At w0 F0 (stars [slc encN 1 nv (names l), stars (dkL d { s with files := crashF tails (l.take i) 0 s.files, dirs := [l], burn := -1, gone := false } (.slice none 0 0) [mj] fb)]) w' ∧ FilesOk 1048576 (crashF tails (l.take i) 0 s.files) ∧ (crashF tails (l.take i) 0 s.files).length = s.files.length)
      ⟨hB, hok0, rfl⟩ (by omega) ?_
    rintro i w7 - hi ⟨h7, hok, hlen⟩ J m hJ
    have hll : (names l).length = l.length := by simp [names]
    by_cases hlt : i < (names l).length
    · have hlt' : i < l.length := by omega
      have hxi := List.getElem?_eq_getElem hlt'
      obtain ⟨⟨k, f⟩, hp⟩ : ∃ p, p = l[i] := ⟨_, rfl⟩
      rw [← hp] at hxi
      have hni : (names l)[i]? = some k := by unfold names; rw [List.getElem?_map, hxi]; rfl
      have hmem : (k, f) ∈ l := List.mem_of_getElem? hxi
      have hfd := findD_of_mem hr hmem
      have hfl : f < s.files.length := hw.idx _ hlm _ hmem
      generalize hfs : crashF tails (l.take i) 0 s.files = fs at h7 hok hlen
      have hstep : crashF tails (l.take (i + 1)) 0 s.files = crash1 tails f i fs := by
        rw [List.take_add_one, hxi]
        show crashF tails (l.take i ++ [(k, f)]) 0 s.files = _
        rw [crashF_snoc, hfs]
        congr 1
        rw [List.length_take]; omega
      have hfl2 : f < fs.length := by omega
      have hx : fs[f]? = some (fs.getD f ⟨[], 0⟩) := by rw [List.getD_eq_getElem?_getD, List.getElem?_eq_getElem hfl2]; rfl
      have hxo := hok _ (List.mem_of_getElem? hx)
      have hok2 := crash1_ok (tails := tails) (i := i) hok hfl2
      have hlen2 := crash1_len tails f i fs
      have htail := tailOf_le (fs.getD f ⟨[], 0⟩) tails i
      have hc1 : crash1 tails f i fs = fs.set f ⟨(fs.getD f ⟨[], 0⟩).b.take ((fs.getD f ⟨[], 0⟩).sure + tailOf (fs.getD f ⟨[], 0⟩) tails i), (fs.getD f ⟨[], 0⟩).sure + tailOf (fs.getD f ⟨[], 0⟩) tails i⟩ := rfl
      generalize fs.getD f ⟨[], 0⟩ = x at hx hxo htail hc1
      obtain ⟨Fn, sn, _⟩ := h7.slc1 (i := 0) rfl
      obtain ⟨bn, on, ian, _, _, ln⟩ := sn.arr.spot hni rfl .i64
      obtain ⟨A1, hz, backz⟩ := At.zoom h7 1 rfl
      obtain ⟨T7, c7⟩ := hz.cell (i := 1) rfl
      obtain ⟨es7, ck7, L7, b17, b27, b37⟩ := dk_dir hz (i := 0) (m := mj) (l := l) rfl rfl
      have lk1 := dk_lookup b17 b27 b37 hr k
      rw [hfd] at lk1
      have hib : f < fb.length := by omega
      have hb := List.getElem?_eq_getElem hib
      have hgd : fb.getD f 0 = fb[f] := by rw [List.getD_eq_getElem?_getD, hb]; rfl
      simp only [hgd] at lk1
      generalize fb[f] = b at hb lk1
      simp only [ptrTo] at lk1
      obtain ⟨A, bv, ha, back⟩ := dk_fupd hz hb hx
      obtain ⟨T8, c8⟩ := ha.cell (i := 0) rfl
      have c8' : blk w7.drew b = some (.cells [bv, .int .i64 (x.sure : Int)].toArray T8 (0, 0)) := c8
      obtain ⟨Fb, sb, _⟩ := ha.slc1 (i := 1) rfl
      have hta7 := hta w7 h7.frame
      (repeat (first | (apply BND_step; exact (ln (w' := w7) rfl (j := 0) rfl)) | refine BND_step hta7.len ?_ | refine gg ?_))
      refine join_v (fun v w' => v = .int .i64 ((tailOf x tails i : Nat) : Int) ∧ Fr [] w7 w') (fun K hK => ?_) ?_
      · by_cases hit : i < tails.length
        · have htx := List.getElem?_eq_getElem hit
          generalize htv : tails[i] = t at htx
          obtain ⟨bt, ot, iat, _, _, lt⟩ := hta7.spot htx rfl .i64
          have e1 : max2v (.int .i64 t) (.int .i64 0) = some (.int .i64 (if t < 0 then 0 else t)) := rfl
          have e2 : binv .int .sub (.int .i64 (x.b.length : Int)) (.int .i64 (x.sure : Int)) = some (.int .i64 ((x.b.length - x.sure : Nat) : Int)) := by
            rw [binv_sub, wrap_i64 (by omega) (by omega)]; congr 2; omega
          have e3 : min2v (.int .i64 (if t < 0 then 0 else t)) (.int .i64 ((x.b.length - x.sure : Nat) : Int)) = some (.int .i64 ((tailOf x tails i : Nat) : Int)) := by
            show some (Value.int .i64 (if ((x.b.length - x.sure : Nat) : Int) < (if t < 0 then 0 else t) then ((x.b.length - x.sure : Nat) : Int) else (if t < 0 then 0 else t))) = _
            unfold tailOf
            rw [htx]
            congr 2
            simp only
            split <;> split <;> omega
          (repeat (first | (apply BND_step; exact (lt (w' := w7.drew) rfl (j := 0) rfl)) | refine BND_step sb.len ?_ | refine gg ?_))
          exact hK _ _ ⟨rfl, Fr.drew [] _⟩
        · (repeat refine gg ?_)
          have e0 : tailOf x tails i = 0 := by unfold tailOf; rw [List.getElem?_eq_none (by omega)]
          exact hK _ _ ⟨by rw [e0]; rfl, Fr.refl _ _⟩
      · rintro _ w8 ⟨rfl, f8⟩
        have f8' : Fr [] w7 w8.drew := f8.trans' (Fr.drew [] _)
        have ha8 := ha.fr0 f8'
        obtain ⟨T9, c9⟩ := ha8.cell (i := 0) rfl
        obtain ⟨Fs9, ss9, upd9⟩ := ha8.upd 1 rfl
        obtain ⟨bv', et, s1⟩ := Slc.take0 ss9 (n := x.sure + tailOf x tails i) (by omega) .i64
        have ha9 := upd9 _ Fs9 (slc encB 1 bv' (x.b.take (x.sure + tailOf x tails i))) s1 (Fr.refl _ _) (fun c hc => .inl hc)
        (repeat (first | refine BND_step (addn_ (by omega)) ?_ | refine gg ?_))
        refine ha9.store (i := 0) rfl s1.one (by simp) fun w9 h9 f9 => ?_
        obtain ⟨T10, c10⟩ := h9.cell (i := 0) rfl
        obtain ⟨Fs10, ss10, _⟩ := h9.slc1 (i := 1) rfl
        have eln : (x.b.take (x.sure + tailOf x tails i)).length = x.sure + tailOf x tails i := by rw [List.length_take]; omega
        have el := ss10.len
        rw [eln] at el
        (repeat refine gg ?_)
        refine h9.store (i := 0) rfl ⟨rfl, rfl⟩ (by simp) fun w10 h10 f10 => ?_
        (repeat refine gg ?_)
        refine hJ w10 hlt ?_
        rw [hstep]
        refine ⟨?_, hok2, by omega⟩
        have hz10 := back w10 bv' ⟨x.b.take (x.sure + tailOf x tails i), x.sure + tailOf x tails i⟩ h10
        rw [hc1]
        exact backz w10 _ hz10
    · (repeat refine gg ?_)
      rw [List.take_of_length_le (by omega)] at h7
      exact hR w7 (dk_shut (At.unwrap h7.tail))
end
end Go.Proofs.YtmefbneoljpbgaaGreatDoor
end

section
set_option linter.unusedSimpArgs false
set_option linter.unusedVariables false
namespace Go.Proofs.YtmefbneoljpbgaaGreatDoor
open Go.Den Go.Disk
section
variable {s : Dk}
theorem now_mem (h : s.Wf) : s.now ∈ s.dirs := List.mem_of_getElem? (dk_now_get h.ne)
theorem wf_empty {room : Int} (h : 16 ≤ room ∧ room ≤ 1048576) : (empty room).Wf := by
  refine ⟨by simp [empty], by simp [empty, riseD], by simp [empty], by simp [empty], by simp [empty], by simp [empty], by simp [empty], h, ?_⟩
  show (-1 : Int) ≤ -1 ∧ (-1 : Int) ≤ _
  omega
theorem wf_setF (h : s.Wf) (f : Nat) {x : Fl} (h1 : x.sure ≤ x.b.length) (h2 : (x.b.length : Int) ≤ s.room) : (setF s f x).Wf := by
  refine ⟨h.ne, h.rise, fun l hl y hy => ?_, h.many, h.nm, fun y hy => ?_, fun y hy => ?_, h.room, h.burn⟩
  · show y.2 < (s.files.set f x).length
    rw [List.length_set]; exact h.idx l hl y hy
  · rcases List.mem_or_eq_of_mem_set (show y ∈ s.files.set f x from hy) with hy | rfl
    · exact h.sure y hy
    · exact h1
  · rcases List.mem_or_eq_of_mem_set (show y ∈ s.files.set f x from hy) with hy | rfl
    · exact h.small y hy
    · exact h2
theorem wf_dirs (h : s.Wf) {l : Dir} (hr : riseD l) (hi : ∀ x ∈ l, x.2 < s.files.length) (hm : l.length ≤ 60) (hn : ∀ x ∈ l, named x.1 = true) : ({ s with dirs := s.dirs ++ [l] } : Dk).Wf := by
  refine ⟨by simp, fun k hk => ?_, fun k hk => ?_, fun k hk => ?_, fun k hk => ?_, h.sure, h.small, h.room, h.burn⟩
  all_goals rcases List.mem_append.1 (show k ∈ s.dirs ++ [l] from hk) with hk | hk
  · exact h.rise k hk
  · simp at hk; subst hk; exact hr
  · exact h.idx k hk
  · simp at hk; subst hk; exact hi
  · exact h.many k hk
  · simp at hk; subst hk; exact hm
  · exact h.nm k hk
  · simp at hk; subst hk; exact hn
theorem wf_dir1 (h : s.Wf) {l : Dir} (hl : l ∈ s.dirs) : ({ s with dirs := [l] } : Dk).Wf := by
  refine ⟨by simp, fun k hk => ?_, fun k hk => ?_, fun k hk => ?_, fun k hk => ?_, h.sure, h.small, h.room, h.burn⟩
  all_goals (have hk' : k = l := by simpa using hk); subst hk'
  · exact h.rise k hl
  · exact h.idx k hl
  · exact h.many k hl
  · exact h.nm k hl
theorem wf_files (h : s.Wf) : ({ s with files := s.files ++ [⟨[], 0⟩] } : Dk).Wf := by
  refine ⟨h.ne, h.rise, fun l hl y hy => ?_, h.many, h.nm, fun y hy => ?_, fun y hy => ?_, h.room, h.burn⟩
  · have := h.idx l hl y hy
    simp; omega
  · rcases List.mem_append.1 hy with hy | hy
    · exact h.sure y hy
    · simp at hy; subst hy; simp
  · rcases List.mem_append.1 hy with hy | hy
    · exact h.small y hy
    · simp at hy; subst hy
      have := h.room
      show (0 : Int) ≤ s.room
      omega
theorem held_of (h : s.Wf) {f : Nat} (hf : isHeld s f = true) (hl : f < s.files.length) : (fileAt s f).b.length ≤ held s := by
  unfold held
  have : ∀ (l : List Nat) (g : Nat → Nat), f ∈ l → g f ≤ (l.map g).sum := by
    intro l g
    induction l with
    | nil => intro h; simp at h
    | cons a l ih =>
      intro h
      simp only [List.map_cons, List.sum_cons]
      rcases List.mem_cons.1 h with rfl | h
      · omega
      · have := ih h; omega
  have h1 := this (List.range s.files.length) (fun f => if isHeld s f = true then (fileAt s f).b.length else 0) (List.mem_range.2 hl)
  simpa [hf] using h1
theorem can_e {e : Int} (h : (can s e).2 = 0) : e = 0 := can_zero h
theorem wf_create (h : s.Wf) (n : ByteArray) : (create s n).1.Wf := by
  unfold create
  have hc := wf_can h (createE s n)
  obtain ⟨k1, k2, k3⟩ := can_keep s (createE s n)
  by_cases hz : (can s (createE s n)).2 = 0
  · simp only [hz, if_true]
    have he := can_zero hz
    have hnm : named n = true := by
      cases hq : named n with
      | true => rfl
      | false => simp [createE, hq] at he
    have hfd : findD s.now n = none := by
      cases hq : findD s.now n with
      | none => rfl
      | some f => simp [createE, hnm, Dk.find, hq] at he
    have h60 : s.now.length < 60 := by
      unfold createE Dk.find at he
      rw [hfd] at he
      simp only [hnm, Bool.true_eq_false, if_false, Option.isSome_none, Bool.false_eq_true] at he
      split at he
      · simp at he
      · omega
    have h1 := wf_files hc
    have hnn : ∀ y ∈ s.now, y.1 ≠ n := findD_none.1 hfd
    have h2 := wf_dirs h1 (l := withD s.now (n, s.files.length)) (rise_withD (h.rise _ (now_mem h)) hnn) (fun x hx => by
      rcases mem_withD.1 hx with rfl | hx
      · simp [k1]
      · have := h.idx _ (now_mem h) x hx
        simp [k1]; omega) (by rw [len_withD]; omega) (fun x hx => by
      rcases mem_withD.1 hx with rfl | hx
      · exact hnm
      · exact h.nm _ (now_mem h) x hx)
    rw [k1, k2] at h2
    exact h2
  · simp only [hz, if_false]
    exact hc
theorem wf_append (h : s.Wf) (n : ByteArray) (bs : List UInt8) : (append s n bs).1.Wf := by
  unfold append
  have hc := wf_can h (appendE s n bs.length)
  obtain ⟨k1, k2, k3⟩ := can_keep s (appendE s n bs.length)
  by_cases hz : (can s (appendE s n bs.length)).2 = 0
  · simp only [hz, if_true]
    have he := can_zero hz
    obtain ⟨f, hfd⟩ : ∃ f, findD s.now n = some f := by
      unfold appendE Dk.find at he
      cases hq : findD s.now n with
      | some f => exact ⟨f, rfl⟩
      | none => rw [hq] at he; simp at he
    rw [(isSome_find hfd).2]
    have hx := List.mem_of_getElem? (wf_pick h hfd)
    have hfl : f < s.files.length := (List.getElem?_eq_some_iff.1 (wf_pick h hfd)).1
    have hh := held_of h (f := f) ((isHeld_iff s f).2 ⟨_, now_mem h, _, findD_mem hfd, rfl⟩) hfl
    have hr : ((held s + bs.length : Nat) : Int) ≤ s.room := by
      unfold appendE Dk.find at he
      rw [hfd] at he
      simp only [Option.isSome_some, if_true] at he
      split at he
      · simp at he
      · omega
    have hs := h.sure _ hx
    refine wf_setF hc f (by simp; omega) ?_
    rw [k3]
    simp only [List.length_append]
    omega
  · simp only [hz, if_false]
    exact hc
theorem wf_sync (h : s.Wf) (n : ByteArray) : (sync s n).1.Wf := by
  unfold sync
  have hc := wf_can h (there s n)
  obtain ⟨k1, k2, k3⟩ := can_keep s (there s n)
  by_cases hz : (can s (there s n)).2 = 0
  · simp only [hz, if_true]
    obtain ⟨f, hfd⟩ := there_zero (can_zero hz)
    rw [(isSome_find hfd).2]
    have hx := List.mem_of_getElem? (wf_pick h hfd)
    refine wf_setF hc f (by simp) ?_
    rw [k3]
    have := h.small _ hx
    exact this
  · simp only [hz, if_false]
    exact hc
theorem wf_cut (h : s.Wf) (n : ByteArray) (k : Int) : (cut s n k).1.Wf := by
  unfold cut
  have hc := wf_can h (cutE s n k)
  obtain ⟨k1, k2, k3⟩ := can_keep s (cutE s n k)
  by_cases hz : (can s (cutE s n k)).2 = 0
  · simp only [hz, if_true]
    have he := can_zero hz
    obtain ⟨f, hfd⟩ : ∃ f, findD s.now n = some f := by
      unfold cutE Dk.find at he
      cases hq : findD s.now n with
      | some f => exact ⟨f, rfl⟩
      | none => rw [hq] at he; simp at he
    rw [(isSome_find hfd).2]
    have hx := List.mem_of_getElem? (wf_pick h hfd)
    have hs := h.small _ hx
    have hu := h.sure _ hx
    refine wf_setF hc f (by simp only [List.length_take]; omega) ?_
    rw [k3]
    simp only [List.length_take]
    omega
  · simp only [hz, if_false]
    exact hc
theorem wf_rename (h : s.Wf) (a b : ByteArray) : (rename s a b).1.Wf := by
  unfold rename
  have hc := wf_can h (renameE s a b)
  obtain ⟨k1, k2, k3⟩ := can_keep s (renameE s a b)
  by_cases hz : (can s (renameE s a b)).2 = 0
  · simp only [hz, if_true]
    have he := can_zero hz
    obtain ⟨f, hfd⟩ : ∃ f, findD s.now a = some f := by
      unfold renameE Dk.find at he
      cases hq : findD s.now a with
      | some f => exact ⟨f, rfl⟩
      | none => rw [hq] at he; simp at he
    have hnm : named b = true := by
      unfold renameE Dk.find at he
      rw [hfd] at he
      cases hq : named b with
      | true => rfl
      | false => rw [hq] at he; simp at he
    rw [(isSome_find hfd).2]
    have hm := now_mem h
    have hfl : f < s.files.length := (List.getElem?_eq_some_iff.1 (wf_pick h hfd)).1
    have hl1 := len_without_lt hfd
    have hl2 := len_without (without s.now a) b
    have h60 := h.many _ hm
    have h2 := wf_dirs hc (l := withD (without (without s.now a) b) (b, f)) (rise_withD (rise_without (rise_without (h.rise _ hm) a) b) fun y hy => (mem_without.1 hy).2) (fun x hx => by
      rw [k1]
      rcases mem_withD.1 hx with rfl | hx
      · exact hfl
      · exact h.idx _ hm x (mem_without.1 (mem_without.1 hx).1).1) (by rw [len_withD]; omega) (fun x hx => by
      rcases mem_withD.1 hx with rfl | hx
      · exact hnm
      · exact h.nm _ hm x (mem_without.1 (mem_without.1 hx).1).1)
    rw [k2] at h2
    exact h2
  · simp only [hz, if_false]
    exact hc
theorem wf_delete (h : s.Wf) (n : ByteArray) : (delete s n).1.Wf := by
  unfold delete
  have hc := wf_can h (there s n)
  obtain ⟨k1, k2, k3⟩ := can_keep s (there s n)
  by_cases hz : (can s (there s n)).2 = 0
  · simp only [hz, if_true]
    have hm := now_mem h
    have hl := len_without s.now n
    have h60 := h.many _ hm
    have h2 := wf_dirs hc (l := without s.now n) (rise_without (h.rise _ hm) n) (fun x hx => by rw [k1]; exact h.idx _ hm x (mem_without.1 hx).1) (by omega) (fun x hx => h.nm _ hm x (mem_without.1 hx).1)
    rw [k2] at h2
    exact h2
  · simp only [hz, if_false]
    exact hc
theorem wf_dirsync (h : s.Wf) : (dirsync s).1.Wf := by
  unfold dirsync
  have hc := wf_can h 0
  obtain ⟨k1, k2, k3⟩ := can_keep s 0
  by_cases hz : (can s 0).2 = 0
  · simp only [hz, if_true]
    exact wf_dir1 hc (by rw [k2]; exact now_mem h)
  · simp only [hz, if_false]
    exact hc
theorem wf_fuse (h : s.Wf) {n : Int} (hn : n ≤ 9223372036854775807) : (fuse s n).Wf := by
  refine ⟨h.ne, h.rise, h.idx, h.many, h.nm, h.sure, h.small, h.room, ?_⟩
  show -1 ≤ (if n < -1 then -1 else n) ∧ (if n < -1 then -1 else n) ≤ _
  split <;> omega
theorem crashF_keep {tails : List Int} {m : Nat} : ∀ (l : Dir) (i : Nat) (fs : List Fl), (∀ x ∈ l, x.2 < fs.length) → FilesOk m fs → (crashF tails l i fs).length = fs.length ∧ FilesOk m (crashF tails l i fs)
  | [], _, fs, _, h => ⟨rfl, h⟩
  | (k, f) :: r, i, fs, hl, h => by
    have h1 := crash1_ok (tails := tails) (i := i) h (hl (k, f) (by simp))
    have h2 := crash1_len tails f i fs
    obtain ⟨a, b⟩ := crashF_keep (tails := tails) (m := m) r (i + 1) (crash1 tails f i fs) (fun x hx => by rw [h2]; exact hl x (by simp [hx])) h1
    exact ⟨by rw [← h2]; exact a, b⟩
theorem wf_crash (h : s.Wf) (op : Int) (tails : List Int) : (crash s op tails).Wf := by
  unfold crash
  have hpos : 0 < s.dirs.length := List.length_pos_iff.2 h.ne
  have hl : s.dirs.getD (min op.toNat (s.dirs.length - 1)) [] ∈ s.dirs := by
    rw [List.getD_eq_getElem?_getD, List.getElem?_eq_getElem (by omega)]; exact List.getElem_mem _
  generalize s.dirs.getD (min op.toNat (s.dirs.length - 1)) [] = l at hl
  have hrm := h.room
  obtain ⟨a, b⟩ := crashF_keep (tails := tails) (m := s.room.toNat) l 0 s.files (h.idx l hl) (fun x hx => ⟨h.sure x hx, by have := h.small x hx; omega⟩)
  refine ⟨by simp, fun k hk => ?_, fun k hk => ?_, fun k hk => ?_, fun k hk => ?_, fun x hx => (b x hx).1, fun x hx => ?_, h.room, ?_⟩
  · have hk' : k = l := by simpa using hk
    subst hk'; exact h.rise k hl
  · have hk' : k = l := by simpa using hk
    subst hk'
    show ∀ x ∈ k, x.2 < (crashF tails k 0 s.files).length
    rw [a]; exact h.idx k hl
  · have hk' : k = l := by simpa using hk
    subst hk'; exact h.many k hl
  · have hk' : k = l := by simpa using hk
    subst hk'; exact h.nm k hl
  · have := (b x hx).2
    show (x.b.length : Int) ≤ s.room
    omega
  · show (-1 : Int) ≤ -1 ∧ (-1 : Int) ≤ _
    omega
end
end Go.Proofs.YtmefbneoljpbgaaGreatDoor
end

section
namespace Go.Proofs.YtmefbneoljpbgaaGreatDoor
open Go.Den Go.Disk
structure Act where
  dn : Int
  n : Int
  nm : ByteArray
  to : ByteArray
  bv : Value
  tv : Value
def encA (a : Act) : List Value := [.int .i64 a.dn, .int .i64 a.n, .string a.nm, .string a.to, a.bv, a.tv]
/-- an act's answer: the disk behind it, what is read, the error. -/
def act (s : Dk) (a : Act) (b : List UInt8) (tails : List Int) : Dk × List UInt8 × Int :=
  if a.dn = 0 then ((create s a.nm).1, [], (create s a.nm).2)
  else if a.dn = 1 then ((append s a.nm b).1, [], (append s a.nm b).2)
  else if a.dn = 2 then ((sync s a.nm).1, [], (sync s a.nm).2)
  else if a.dn = 3 then ((cut s a.nm a.n).1, [], (cut s a.nm a.n).2)
  else if a.dn = 4 then ((rename s a.nm a.to).1, [], (rename s a.nm a.to).2)
  else if a.dn = 5 then ((delete s a.nm).1, [], (delete s a.nm).2)
  else if a.dn = 6 then ((dirsync s).1, [], (dirsync s).2)
  else if a.dn = 7 then (fuse s a.n, [], 0)
  else if a.dn = 8 then (crash s a.n tails, [], 0)
  else (s, Disk.read s a.nm)
theorem wf_act {s : Dk} (h : s.Wf) (a : Act) (b : List UInt8) (tails : List Int) (hn : a.n ≤ 9223372036854775807) : (act s a b tails).1.Wf := by
  unfold act
  split; exact wf_create h _
  split; exact wf_append h _ _
  split; exact wf_sync h _
  split; exact wf_cut h _ _
  split; exact wf_rename h _ _
  split; exact wf_delete h _
  split; exact wf_dirsync h
  split; exact wf_fuse h hn
  split; exact wf_crash h _ _
  exact h
/-- how much a call adds. -/
theorem crashF_len (tails : List Int) : ∀ (l : Dir) (i : Nat) (fs : List Fl), (crashF tails l i fs).length = fs.length
  | [], _, _ => rfl
  | (k, f) :: r, i, fs => by
    have h2 := crash1_len tails f i fs
    rw [← h2]; exact crashF_len tails r (i + 1) (crash1 tails f i fs)
theorem more_act (s : Dk) (a : Act) (b : List UInt8) (tails : List Int) (h : s.dirs ≠ []) : (act s a b tails).1.dirs.length ≤ s.dirs.length + 1 ∧ (act s a b tails).1.files.length ≤ s.files.length + 1 := by
  have hp : 0 < s.dirs.length := List.length_pos_iff.2 h
  unfold act
  split
  · obtain ⟨k1, k2, k3⟩ := can_keep s (createE s a.nm)
    simp only [create]; split
    · simp
    · simp only [k1, k2]; omega
  split
  · obtain ⟨k1, k2, k3⟩ := can_keep s (appendE s a.nm b.length)
    simp only [append, setF]; split <;> simp only [List.length_set, k1, k2] <;> omega
  split
  · obtain ⟨k1, k2, k3⟩ := can_keep s (there s a.nm)
    simp only [sync, setF]; split <;> simp only [List.length_set, k1, k2] <;> omega
  split
  · obtain ⟨k1, k2, k3⟩ := can_keep s (cutE s a.nm a.n)
    simp only [cut, setF]; split <;> simp only [List.length_set, k1, k2] <;> omega
  split
  · obtain ⟨k1, k2, k3⟩ := can_keep s (renameE s a.nm a.to)
    simp only [rename]; split
    · simp [k1]
    · simp only [k1, k2]; omega
  split
  · obtain ⟨k1, k2, k3⟩ := can_keep s (there s a.nm)
    simp only [delete]; split
    · simp [k1]
    · simp only [k1, k2]; omega
  split
  · obtain ⟨k1, k2, k3⟩ := can_keep s 0
    simp only [dirsync]; split
    · simp [k1]
    · simp only [k1, k2]; omega
  split
  · simp [fuse]
  split
  · simp [crash, crashF_len]
  simp
end Go.Proofs.YtmefbneoljpbgaaGreatDoor
end
