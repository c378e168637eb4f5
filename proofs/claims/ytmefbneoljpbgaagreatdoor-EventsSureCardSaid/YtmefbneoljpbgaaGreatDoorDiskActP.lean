
/- An act upon a disk, in plain words. No condition but sizes. -/
import Derived.Test.YtmefbneoljpbgaaGreatDoorDiskWf
namespace Go.Proofs.YtmefbneoljpbgaaGreatDoor
open Go.Den Go.Disk
structure Act where
  dn : Int
  n : Int
  nm : ByteArray
  to : ByteArray
  bv : Value
  tv : Value
def encA (a : Act) : List Value := [.int .i64 a.dn, .int .i64 a.n, .string a.nm, .string a.to, a.bv, a.tv]
/-- an act's answer: the disk behind it, what is read, the error. -/
def act (s : Dk) (a : Act) (b : List UInt8) (tails : List Int) : Dk × List UInt8 × Int :=
  if a.dn = 0 then ((create s a.nm).1, [], (create s a.nm).2)
  else if a.dn = 1 then ((append s a.nm b).1, [], (append s a.nm b).2)
  else if a.dn = 2 then ((sync s a.nm).1, [], (sync s a.nm).2)
  else if a.dn = 3 then ((cut s a.nm a.n).1, [], (cut s a.nm a.n).2)
  else if a.dn = 4 then ((rename s a.nm a.to).1, [], (rename s a.nm a.to).2)
  else if a.dn = 5 then ((delete s a.nm).1, [], (delete s a.nm).2)
  else if a.dn = 6 then ((dirsync s).1, [], (dirsync s).2)
  else if a.dn = 7 then (fuse s a.n, [], 0)
  else if a.dn = 8 then (crash s a.n tails, [], 0)
  else (s, Disk.read s a.nm)
theorem wf_act {s : Dk} (h : s.Wf) (a : Act) (b : List UInt8) (tails : List Int) (hn : a.n ≤ 9223372036854775807) : (act s a b tails).1.Wf := by
  unfold act
  split; exact wf_create h _
  split; exact wf_append h _ _
  split; exact wf_sync h _
  split; exact wf_cut h _ _
  split; exact wf_rename h _ _
  split; exact wf_delete h _
  split; exact wf_dirsync h
  split; exact wf_fuse h hn
  split; exact wf_crash h _ _
  exact h
/-- how much a call adds. -/
theorem crashF_len (tails : List Int) : ∀ (l : Dir) (i : Nat) (fs : List Fl), (crashF tails l i fs).length = fs.length
  | [], _, _ => rfl
  | (k, f) :: r, i, fs => by
    have h2 := crash1_len tails f i fs
    rw [← h2]; exact crashF_len tails r (i + 1) (crash1 tails f i fs)
theorem more_act (s : Dk) (a : Act) (b : List UInt8) (tails : List Int) (h : s.dirs ≠ []) : (act s a b tails).1.dirs.length ≤ s.dirs.length + 1 ∧ (act s a b tails).1.files.length ≤ s.files.length + 1 := by
  have hp : 0 < s.dirs.length := List.length_pos_iff.2 h
  unfold act
  split
  · obtain ⟨k1, k2, k3⟩ := can_keep s (createE s a.nm)
    simp only [create]; split
    · simp
    · simp only [k1, k2]; omega
  split
  · obtain ⟨k1, k2, k3⟩ := can_keep s (appendE s a.nm b.length)
    simp only [append, setF]; split <;> simp only [List.length_set, k1, k2] <;> omega
  split
  · obtain ⟨k1, k2, k3⟩ := can_keep s (there s a.nm)
    simp only [sync, setF]; split <;> simp only [List.length_set, k1, k2] <;> omega
  split
  · obtain ⟨k1, k2, k3⟩ := can_keep s (cutE s a.nm a.n)
    simp only [cut, setF]; split <;> simp only [List.length_set, k1, k2] <;> omega
  split
  · obtain ⟨k1, k2, k3⟩ := can_keep s (renameE s a.nm a.to)
    simp only [rename]; split
    · simp [k1]
    · simp only [k1, k2]; omega
  split
  · obtain ⟨k1, k2, k3⟩ := can_keep s (there s a.nm)
    simp only [delete]; split
    · simp [k1]
    · simp only [k1, k2]; omega
  split
  · obtain ⟨k1, k2, k3⟩ := can_keep s 0
    simp only [dirsync]; split
    · simp [k1]
    · simp only [k1, k2]; omega
  split
  · simp [fuse]
  split
  · simp [crash, crashF_len]
  simp
end Go.Proofs.YtmefbneoljpbgaaGreatDoor
