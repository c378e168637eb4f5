
/- What comes of acts upon events, in plain words. Conditions: numbers are of 64 bits; sizes. -/
import Derived.Test.YtmefbneoljpbgaaGreatDoorRefF
import Derived.Test.YtmefbneoljpbgaaGreatDoorEvA
import Derived.Test.YtmefbneoljpbgaaGreatDoorGe
import Derived.Test.YtmefbneoljpbgaaGreatDoorGf
import Derived.Test.YtmefbneoljpbgaaGreatDoorMb
namespace Go.Proofs.YtmefbneoljpbgaaGreatDoor
open Go.Den Go.Disk Go.Vint Go.Crc Go.Frame Go.Rec Go.Ev Go.Nm
structure FE where
  dn : Int
  n : Int
  g : Nat
  ov : SV
  tv : SV
  bv : SV
  ops : List Ax
  tails : List Int
  bytes : List UInt8
def encFE (x : FE) : List Value := [.int .i64 x.dn, .int .i64 x.n, .int .u64 (x.g : Int), x.ov.v, x.tv.v, x.bv.v]
theorem encFE_len (x : FE) : (encFE x).length = 6 := rfl
theorem encFE_one (x : FE) : ∀ u ∈ encFE x, u.oneCell' = true := by
  intro u hu
  simp only [encFE, List.mem_cons, List.not_mem_nil, or_false] at hu
  rcases hu with rfl | rfl | rfl | rfl | rfl | rfl <;> rfl
structure ActE (w : World) (x : FE) : Prop where
  ops : Arr encAx 8 w x.ov.v x.ops
  tails : Arr encI 1 w x.tv.v x.tails
  bytes : Arr encB 1 w x.bv.v x.bytes
  ok : ∀ a ∈ x.ops, OkA a
  g : x.g < 18446744073709551616
  n : x.n ≤ 9223372036854775807
structure ActW (x : FE) : Prop where
  ops : x.ops.length * 72 ≤ 140737488351232
  tails : x.tails.length * 8 ≤ 140737488351232
  bytes : x.bytes.length ≤ 140737488351232
theorem ActE.fr {w w' : World} {x : FE} (h : ActE w x) (f : Fr [] w w') : ActE w' x := ⟨h.ops.fr f (by simp), h.tails.fr f (by simp), h.bytes.fr f (by simp), h.ok, h.g, h.n⟩
def largeEx (x : FE) : Bool := largeA x.ops 20 || decide (300 < x.tails.length + x.bytes.length)
def largeE (xs : List FE) : Bool := decide (40 < xs.length) || xs.any largeEx
theorem largeE_no {xs : List FE} (h : largeE xs = false) : xs.length ≤ 40 ∧ ∀ x ∈ xs, x.ops.length ≤ 20 ∧ x.tails.length + x.bytes.length ≤ 300 := by
  unfold largeE at h
  rw [Bool.or_eq_false_iff, decide_eq_false_iff_not, List.any_eq_false] at h
  refine ⟨by omega, fun x hx => ?_⟩
  have := h.2 x hx
  unfold largeEx at this
  simp only [Bool.or_eq_true, not_or, Bool.not_eq_true, decide_eq_true_eq] at this
  exact ⟨(largeA_no this.1).1, by omega⟩
def actE (s : Dk) (x : FE) : Dk × Int :=
  if x.dn = 0 then evBegin s x.g
  else if x.dn = 1 then evAppend s x.g x.ops
  else if x.dn = 2 then evSync s x.g
  else if x.dn = 3 then (s, (evLoad s x.g).2.2)
  else if x.dn = 4 then evCut s x.g x.n
  else if x.dn = 5 then (fuse s x.n, 0)
  else if x.dn = 6 then (crash s x.n x.tails, 0)
  else append s ⟨#[101, 46, 49]⟩ x.bytes
theorem inv_actE {s : Dk} (h : Inv s) (x : FE) (hn : x.n ≤ 9223372036854775807) : Inv (actE s x).1 := by
  unfold actE
  split
  · unfold evBegin; split
    · split
      · exact inv_sync (inv_create h _) _
      · exact inv_create h _
    · exact h
  split
  · unfold evAppend; split
    · split
      · exact inv_append h _ _
      · exact h
    · exact h
  split
  · unfold evSync; split
    · exact inv_sync h _
    · exact h
  split
  · exact h
  split
  · unfold evCut; split
    · split
      · split
        · exact h
        · exact inv_cut h _ _
      · exact h
    · exact h
  split
  · exact inv_fuse h hn
  split
  · exact inv_crash h _ _
  exact inv_append h _ _
def ofAct (k n : Int) (m : ByteArray) : Act := ⟨k, n, m, m, .slice none 0 0, .slice none 0 0⟩
theorem more_append (s : Dk) (n : ByteArray) (b : List UInt8) (h : s.dirs ≠ []) : (append s n b).1.dirs.length ≤ s.dirs.length + 1 ∧ (append s n b).1.files.length ≤ s.files.length + 1 := by
  have := more_act s (ofAct 1 0 n) b [] h
  simpa [act, ofAct] using this
theorem more_cut (s : Dk) (n : ByteArray) (k : Int) (h : s.dirs ≠ []) : (cut s n k).1.dirs.length ≤ s.dirs.length + 1 ∧ (cut s n k).1.files.length ≤ s.files.length + 1 := by
  have := more_act s (ofAct 3 k n) [] [] h
  simpa [act, ofAct] using this
theorem sync_same (s : Dk) (n : ByteArray) : (sync s n).1.dirs.length = s.dirs.length ∧ (sync s n).1.files.length = s.files.length := by
  obtain ⟨k1, k2, k3⟩ := can_keep s (there s n)
  simp only [sync, setF]; split <;> simp [k1, k2]
theorem more_actE (s : Dk) (x : FE) (h : s.dirs ≠ []) : (actE s x).1.dirs.length ≤ s.dirs.length + 1 ∧ (actE s x).1.files.length ≤ s.files.length + 1 := by
  have hp : 0 < s.dirs.length := List.length_pos_iff.2 h
  unfold actE
  split
  · unfold evBegin; split
    · have := create_more s (evN x.g)
      split
      · have h2 := sync_same (create s (evN x.g)).1 (evN x.g)
        omega
      · exact this
    · simp
  split
  · unfold evAppend; split
    · split
      · exact more_append s _ _ h
      · simp
    · simp
  split
  · unfold evSync; split
    · have h2 := sync_same s (evN x.g)
      omega
    · simp
  split
  · simp
  split
  · unfold evCut; split
    · split
      · split
        · simp
        · exact more_cut s _ _ h
      · simp
    · simp
  split
  · simp [fuse]
  split
  · simp only [crash, crashF_len, List.length_cons, List.length_nil]; omega
  exact more_append s _ _ h
theorem recAllF_len2 : ∀ (fs : List Fra) (k : Nat) (e : Int), (recAllF fs k e).2.1.length ≤ fs.length
  | [], _, _ => by simp [recAllF]
  | x :: r, k, e => by
    rw [recAllF_cons]
    split
    · have := recAllF_len2 r (k + (11 + x.2.length)) e
      simp only [List.length_cons]; omega
    · simp
theorem turnL_len {α β : Type} (f : α → β × Int) : ∀ l : List α, (turnL f l).1.length ≤ l.length
  | [] => by simp [turnL]
  | a :: r => by
    have := turnL_len f r
    unfold turnL
    split
    · split
      · simp only [List.length_cons]; omega
      · simp
    · simp
theorem evLoad_len {s : Dk} (h : Inv s) (g : Nat) : (evLoad s g).1.length ≤ 1048576 ∧ (evLoad s g).2.1.length ≤ 1048576 := by
  unfold evLoad
  split
  · split
    · have h0 := read_small h (evN g)
      generalize (Disk.read s (evN g)).1 = b at h0
      have h1 := recAll_len b
      have h2 := turnL_len ofA (recAll b).1
      have h3 : (recAll b).2.1.length ≤ b.length := Nat.le_trans (recAllF_len2 _ _ _) (frAll_len _ b 0 rfl)
      unfold loadB
      split
      · simp
      · split
        · simp
        · simp only; omega
    · simp
  · simp
section
variable {w w5 w7 : World} {s : Dk} {r d : Nat}
/-- two disks, of which the one is worked upon, then the other. -/
theorem pairE (hT : Tab w) (h : At w [] (stars [rfHP r s, diskHP d s]) w5) (f : Fr [] w5 w7) :
    ∃ B, At w7 B (diskHP d s) w7 ∧ TabF w7 B ∧ Fr [] w w7 ∧ (∀ b ∈ B, b < hsz w5) ∧ (∀ w8, Fr B w7 w8 → Fr [] w w8) ∧ ∀ s1 w8, At w7 B (diskHP d s1) w8 → Fr [] w w8 ∧
      ∃ A, At w8 A (rfHP r s) w8 ∧ (∀ b ∈ A, b < hsz w5) ∧ (∀ w9, Fr A w8 w9 → Fr [] w w9) ∧ ∀ s2 w9, At w8 A (rfHP r s2) w9 → At w [] (stars [rfHP r s2, diskHP d s1]) w9 := by
  obtain ⟨A, B, zA, zB, hA1, hB1, hd, f07, hA2, hB2⟩ := At.two h f
  have g := f.grow
  refine ⟨B, zB, fun w' fr => (hT.fr f07).far fr fun hb => ?_, f07, hB1, fun w8 fr => f07.trans fr hB2, fun s1 w8 z8 => ⟨f07.trans z8.frame hB2, A, At.first zA z8 hd, hA1, fun w9 fr => (f07.trans z8.frame hB2).trans fr hA2, fun s2 w9 z9 => At.join2 z8 z9 hd (fun b hb => by have := hA1 b hb; omega) f07 hA2 hB2⟩⟩
  obtain ⟨T, g2, b⟩ := hT
  have h1 := blk_lt b
  have h2 := hB2 _ hb
  simp at h2
  omega
end
end Go.Proofs.YtmefbneoljpbgaaGreatDoor
