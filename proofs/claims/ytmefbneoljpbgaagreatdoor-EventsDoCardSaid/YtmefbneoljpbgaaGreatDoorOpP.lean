
/- Acts of a queue, in plain words: which may be, their records, and back. No condition. -/
import Derived.Test.YtmefbneoljpbgaaGreatDoorRec2
set_option linter.unusedSimpArgs false
set_option linter.unusedVariables false
namespace Go.Ev
open Go.Den Go.Rec Go.Proofs.YtmefbneoljpbgaaGreatDoor
structure Ax where
  d : Int
  lane : Int
  id : Nat
  n : Nat
  name : ByteArray
  seg : Nat
  at_ : Nat
  size : Int
  deriving DecidableEq
def noB : ByteArray := ByteArray.empty
def zeroA : Ax := ⟨0, 0, 0, 0, noB, 0, 0, 0⟩
def idD (d : Int) : Bool := decide (d = 4) || decide (d = 8) || decide (d = 9)
def id2D (d : Int) : Bool := decide (d = 5) || decide (d = 6)
def keptA (o : Ax) : Ax :=
  if o.d = 2 then ⟨2, o.lane, 0, o.n, noB, o.seg, o.at_, o.size⟩ else
  if o.d = 3 then ⟨3, o.lane, 0, o.n, noB, 0, 0, 0⟩ else
  if id2D o.d = true then ⟨o.d, 0, o.id, o.n, noB, 0, 0, 0⟩ else
  if idD o.d = true then ⟨o.d, 0, o.id, 0, noB, 0, 0, 0⟩ else
  if o.d = 10 then ⟨10, 0, 0, o.n, o.name, 0, 0, 0⟩ else
  if o.d = 7 then ⟨7, 0, 0, o.n, noB, 0, 0, 0⟩ else ⟨o.d, 0, 0, 0, noB, 0, 0, 0⟩
def mayA (o : Ax) : Bool :=
  if o.d = 2 then decide (0 ≤ o.lane) && decide (o.lane < 8) && decide (0 ≤ o.size) && decide (o.size ≤ 64) else
  if o.d = 3 then decide (-1 ≤ o.lane) && decide (o.lane < 8) else true
def rightA (o : Ax) : Bool := decide (1 ≤ o.d) && decide (o.d ≤ 10) && decide (o = keptA o) && decide (o.name.size ≤ 64) && mayA o
def numsA (o : Ax) : List Nat :=
  if o.d = 2 then [o.lane.toNat, o.n, o.seg, o.at_, o.size.toNat] else
  if o.d = 3 then [(o.lane + 1).toNat, o.n] else
  if id2D o.d = true then [o.id, o.n] else
  if idD o.d = true then [o.id] else
  if o.d = 7 ∨ o.d = 10 then [o.n] else []
def recA (o : Ax) : Rc := ⟨o.d.toNat, numsA o, o.name.data.toList⟩
def bytesA (o : Ax) : List UInt8 := recB o.d.toNat (numsA o) o.name.data.toList
def sml (n : Nat) : Int := ((min n 1048576 : Nat) : Int)
def preA (r : Rc) : Ax :=
  if r.kind = 2 then ⟨2, sml (r.n.getD 0 0), 0, r.n.getD 1 0, txB r.text, r.n.getD 2 0, r.n.getD 3 0, sml (r.n.getD 4 0)⟩ else
  if r.kind = 3 then ⟨3, sml (r.n.getD 0 0) - 1, 0, r.n.getD 1 0, txB r.text, 0, 0, 0⟩ else
  if id2D r.kind = true then ⟨r.kind, 0, r.n.getD 0 0, r.n.getD 1 0, txB r.text, 0, 0, 0⟩ else
  if idD r.kind = true then ⟨r.kind, 0, r.n.getD 0 0, 0, txB r.text, 0, 0, 0⟩ else
  if r.kind = 7 ∨ r.kind = 10 then ⟨r.kind, 0, 0, r.n.getD 0 0, txB r.text, 0, 0, 0⟩ else ⟨r.kind, 0, 0, 0, txB r.text, 0, 0, 0⟩
def ofA (r : Rc) : Ax × Int := if rightA (preA r) = true then (preA r, 0) else (zeroA, 2)
/-- what is a number of 64 bits in an act that came in. -/
structure OkA (o : Ax) : Prop where
  id : o.id < 18446744073709551616
  n : o.n < 18446744073709551616
  seg : o.seg < 18446744073709551616
  at_ : o.at_ < 18446744073709551616
structure RightA (o : Ax) : Prop where
  d : 1 ≤ o.d ∧ o.d ≤ 10
  k : o = keptA o
  t : o.name.size ≤ 64
  m : mayA o = true
theorem rightA_iff {o : Ax} : rightA o = true ↔ RightA o := by
  unfold rightA
  simp only [Bool.and_eq_true, decide_eq_true_eq]
  exact ⟨fun ⟨⟨⟨⟨a, b⟩, c⟩, d⟩, e⟩ => ⟨⟨a, b⟩, c, d, e⟩, fun ⟨⟨a, b⟩, c, d, e⟩ => ⟨⟨⟨⟨a, b⟩, c⟩, d⟩, e⟩⟩
theorem noB_size : noB.size = 0 := rfl
theorem txB_noB : txB [] = noB := rfl
theorem txB_data (b : ByteArray) : txB b.data.toList = b := by cases b; simp [txB]
theorem noB_data : noB.data.toList = [] := rfl
/-- the ten kinds. -/
theorem ten {d : Int} (h : 1 ≤ d ∧ d ≤ 10) : d = 1 ∨ d = 2 ∨ d = 3 ∨ d = 4 ∨ d = 5 ∨ d = 6 ∨ d = 7 ∨ d = 8 ∨ d = 9 ∨ d = 10 := by omega
theorem may2 {o : Ax} (h : mayA o = true) (hd : o.d = 2) : 0 ≤ o.lane ∧ o.lane < 8 ∧ 0 ≤ o.size ∧ o.size ≤ 64 := by
  unfold mayA at h
  rw [if_pos hd] at h
  simp only [Bool.and_eq_true, decide_eq_true_eq] at h
  exact ⟨h.1.1.1, h.1.1.2, h.1.2, h.2⟩
theorem may3 {o : Ax} (h : mayA o = true) (hd : o.d = 3) : -1 ≤ o.lane ∧ o.lane < 8 := by
  unfold mayA at h
  rw [if_neg (by omega), if_pos hd] at h
  simp only [Bool.and_eq_true, decide_eq_true_eq] at h
  exact h
/-- an act that may be, and its record. -/
theorem right_rec {o : Ax} (h : rightA o = true) (hk : OkA o) : rightB o.d (numsA o).length o.name.data.toList.length = true ∧ (∀ n ∈ numsA o, n < 18446744073709551616) ∧ ofA (recA o) = (o, 0) := by
  have hr := h
  obtain ⟨h1, h2, h3, h4⟩ := rightA_iff.1 h
  obtain ⟨k1, k2, k3, k4⟩ := hk
  have hl : o.name.data.toList.length = o.name.size := Array.length_toList
  rw [hl]
  have key : preA (recA o) = o → ofA (recA o) = (o, 0) := fun e => by unfold ofA; rw [e, if_pos hr]
  obtain ⟨d, lane, id, n, name, seg, at_, size⟩ := o
  simp only at h1 h3 k1 k2 k3 k4
  rcases ten h1 with rfl | rfl | rfl | rfl | rfl | rfl | rfl | rfl | rfl | rfl
  · cases h2
    refine ⟨by decide, by simp [numsA, id2D, idD], key ?_⟩
    simp [preA, recA, numsA, id2D, idD, noB_data, txB_noB]
  · obtain ⟨m1, m2, m3, m4⟩ := may2 h4 rfl
    simp only at m1 m2 m3 m4
    cases h2
    refine ⟨by simp [numsA, rightB, knownB, manyOf, manyL, fitsB, noB_size], fun x hx => ?_, key ?_⟩
    · simp [numsA] at hx
      rcases hx with rfl | rfl | rfl | rfl | rfl <;> omega
    · simp only [preA, recA, numsA, noB_data, txB_noB, if_true, show (2 : Int).toNat = 2 from rfl, List.getD_cons_zero, List.getD_cons_succ, sml]
      congr 1 <;> omega
  · obtain ⟨m1, m2⟩ := may3 h4 rfl
    simp only at m1 m2
    cases h2
    refine ⟨by simp [numsA, rightB, knownB, manyOf, manyL, fitsB, noB_size], fun x hx => ?_, key ?_⟩
    · simp [numsA] at hx
      rcases hx with rfl | rfl <;> omega
    · have e : sml (lane + 1).toNat - 1 = lane := by unfold sml; omega
      simp [preA, recA, numsA, noB_data, txB_noB, e]
  · cases h2
    refine ⟨by simp [numsA, rightB, knownB, manyOf, manyL, fitsB, noB_size, id2D, idD], fun x hx => ?_, key ?_⟩
    · simp [numsA, id2D, idD] at hx; omega
    · simp [preA, recA, numsA, noB_data, txB_noB, id2D, idD]
  · cases h2
    refine ⟨by simp [numsA, rightB, knownB, manyOf, manyL, fitsB, noB_size, id2D, idD], fun x hx => ?_, key ?_⟩
    · simp [numsA, id2D, idD] at hx; omega
    · simp [preA, recA, numsA, noB_data, txB_noB, id2D, idD]
  · cases h2
    refine ⟨by simp [numsA, rightB, knownB, manyOf, manyL, fitsB, noB_size, id2D, idD], fun x hx => ?_, key ?_⟩
    · simp [numsA, id2D, idD] at hx; omega
    · simp [preA, recA, numsA, noB_data, txB_noB, id2D, idD]
  · cases h2
    refine ⟨by simp [numsA, rightB, knownB, manyOf, manyL, fitsB, noB_size, id2D, idD], fun x hx => ?_, key ?_⟩
    · simp [numsA, id2D, idD] at hx; omega
    · simp [preA, recA, numsA, noB_data, txB_noB, id2D, idD]
  · cases h2
    refine ⟨by simp [numsA, rightB, knownB, manyOf, manyL, fitsB, noB_size, id2D, idD], fun x hx => ?_, key ?_⟩
    · simp [numsA, id2D, idD] at hx; omega
    · simp [preA, recA, numsA, noB_data, txB_noB, id2D, idD]
  · cases h2
    refine ⟨by simp [numsA, rightB, knownB, manyOf, manyL, fitsB, noB_size, id2D, idD], fun x hx => ?_, key ?_⟩
    · simp [numsA, id2D, idD] at hx; omega
    · simp [preA, recA, numsA, noB_data, txB_noB, id2D, idD]
  · cases h2
    refine ⟨by simp [numsA, rightB, knownB, wordedB, manyOf, manyL, fitsB, id2D, idD]; omega, fun x hx => ?_, key ?_⟩
    · simp [numsA, id2D, idD] at hx; omega
    · simp [preA, recA, numsA, txB_data, id2D, idD]
theorem ofA_good {r : Rc} (h : (ofA r).2 = 0) : rightA (ofA r).1 = true := by
  unfold ofA at h ⊢
  split at h
  · rename_i hh; rw [if_pos hh]; exact hh
  · simp at h
/-! ## A list turned, up to the first error -/
def turnL {α β : Type} (f : α → β × Int) : List α → List β × Int
  | [] => ([], 0)
  | a :: r => if (f a).2 = 0 then (if (turnL f r).2 = 0 then ((f a).1 :: (turnL f r).1, 0) else ([], (turnL f r).2)) else ([], (f a).2)
theorem turnL_all {α β : Type} {f : α → β × Int} {g : α → β} : ∀ {l : List α}, (∀ a ∈ l, f a = (g a, 0)) → turnL f l = (l.map g, 0)
  | [], _ => rfl
  | a :: r, h => by
    have ih := turnL_all (f := f) (g := g) (l := r) fun b hb => h b (by simp [hb])
    simp [turnL, h a (by simp), ih]
def loadB (b : List UInt8) : List Ax × List Nat × Int :=
  if (turnL ofA (recAll b).1).2 ≠ 0 then ([], [], (turnL ofA (recAll b).1).2) else
  if (recAll b).2.2 ≠ 0 ∧ (recAll b).2.2 ≠ 3 then ([], [], (recAll b).2.2) else ((turnL ofA (recAll b).1).1, (recAll b).2.1, 0)
def endsF (at_ : Nat) : List Ax → List Nat
  | [] => []
  | a :: r => (at_ + (bytesA a).length) :: endsF (at_ + (bytesA a).length) r
def allB (l : List Ax) : List UInt8 := l.flatMap bytesA
def GoodA (l : List Ax) : Prop := ∀ a ∈ l, rightA a = true ∧ OkA a
theorem bytesA_len {a : Ax} (h : rightA a = true) (hk : OkA a) : 11 ≤ (bytesA a).length ∧ (bytesA a).length ≤ 175 := by
  obtain ⟨h1, h2, _⟩ := right_rec h hk
  have hb := body_small h1 h2
  unfold bytesA recB
  rw [Go.Frame.frB_len]
  unfold toFra
  simp only
  omega
theorem fraA {a : Ax} (h : rightA a = true) (hk : OkA a) : (toFra a.d.toNat (numsA a) a.name.data.toList).2.length ≤ 400 ∧ recRead (toFra a.d.toNat (numsA a) a.name.data.toList) = (recA a, 0) := by
  obtain ⟨h1, h2, _⟩ := right_rec h hk
  have hb := body_small h1 h2
  obtain ⟨⟨p, q⟩, _⟩ := rightA_iff.1 h
  have e : ((a.d.toNat : Nat) : Int) = a.d := by omega
  exact ⟨by unfold toFra; simp only; omega, recRead_of (by rw [e]; exact h1) h2⟩
/-- frames of acts, then what stands behind. -/
theorem frAll_acts : ∀ (l : List Ax) (r : List UInt8) (k : Nat), GoodA l →
    Go.Frame.frAll (allB l ++ r) k = (l.map (fun a => toFra a.d.toNat (numsA a) a.name.data.toList) ++ (Go.Frame.frAll r (k + (allB l).length)).1, (Go.Frame.frAll r (k + (allB l).length)).2)
  | [], r, k, _ => by simp [allB]
  | a :: l, r, k, h => by
    obtain ⟨h1, h2⟩ := h a (by simp)
    have hx := (fraA h1 h2).1
    have e : allB (a :: l) ++ r = Go.Frame.frB (toFra a.d.toNat (numsA a) a.name.data.toList) ++ (allB l ++ r) := by simp [allB, bytesA, recB]
    have el : (allB (a :: l)).length = (11 + (toFra a.d.toNat (numsA a) a.name.data.toList).2.length) + (allB l).length := by
      simp [allB, bytesA, recB, Go.Frame.frB_len]
    rw [e, Go.Frame.frAll_cons _ hx, frAll_acts l r _ fun b hb => h b (by simp [hb]), el]
    simp only [List.map_cons, List.cons_append, Nat.add_assoc]
theorem recAllF_acts : ∀ (l : List Ax) (r : List Go.Frame.Fra) (k : Nat) (e : Int), GoodA l →
    recAllF (l.map (fun a => toFra a.d.toNat (numsA a) a.name.data.toList) ++ r) k e = (l.map recA ++ (recAllF r (k + (allB l).length) e).1, endsF k l ++ (recAllF r (k + (allB l).length) e).2.1, (recAllF r (k + (allB l).length) e).2.2)
  | [], r, k, e, _ => by simp [allB, endsF]
  | a :: l, r, k, e, h => by
    obtain ⟨h1, h2⟩ := h a (by simp)
    have el : (allB (a :: l)).length = (bytesA a).length + (allB l).length := by simp [allB]
    have eb : 11 + (toFra a.d.toNat (numsA a) a.name.data.toList).2.length = (bytesA a).length := by unfold bytesA recB; rw [Go.Frame.frB_len]
    simp only [List.map_cons, List.cons_append, recAllF, (fraA h1 h2).2, if_true, eb, recAllF_acts l r _ _ fun b hb => h b (by simp [hb]), el, endsF, Nat.add_assoc]
theorem turn_acts {l : List Ax} (h : GoodA l) : turnL ofA (l.map recA) = (l, 0) := by
  have : ∀ l : List Ax, GoodA l → turnL ofA (l.map recA) = (l, 0) := by
    intro l
    induction l with
    | nil => intro _; rfl
    | cons a l ih =>
      intro h
      obtain ⟨h1, h2⟩ := h a (by simp)
      simp [turnL, (right_rec h1 h2).2.2, ih fun b hb => h b (by simp [hb])]
  exact this l h
/-- acts, then something that is no whole frame: what is loaded are the acts, or nothing. -/
theorem load_tail {l : List Ax} (h : GoodA l) {r : List UInt8} (hr : r = [] ∨ (Go.Frame.frRead r).2.2 ≠ 0) :
    loadB (allB l ++ r) = if r = [] ∨ (Go.Frame.frRead r).2.2 = 3 then (l, endsF 0 l, 0) else ([], [], (Go.Frame.frRead r).2.2) := by
  have e : recAll (allB l ++ r) = (l.map recA, endsF 0 l, if r = [] then 0 else (Go.Frame.frRead r).2.2) := by
    unfold recAll
    rw [frAll_acts l r 0 h, Nat.zero_add]
    by_cases h0 : r = []
    · subst h0
      rw [Go.Frame.frAll_nil, recAllF_acts l [] 0 _ h]
      simp [recAllF]
    · rw [Go.Frame.frAll_bad _ h0 (hr.resolve_left h0), recAllF_acts l [] 0 _ h, if_neg h0]
      simp [recAllF]
  unfold loadB
  rw [e]
  simp only [turn_acts h, ne_eq, not_true_eq_false, if_false]
  by_cases h0 : r = []
  · simp [h0]
  · have := hr.resolve_left h0
    simp only [h0, if_false, false_or, this, not_false_eq_true, true_and]
    by_cases h3 : (Go.Frame.frRead r).2.2 = 3 <;> simp [h3]
theorem load_all {l : List Ax} (h : GoodA l) : loadB (allB l) = (l, endsF 0 l, 0) := by
  have := load_tail h (r := []) (.inl rfl)
  simpa using this
theorem endsF_len : ∀ (k : Nat) (l : List Ax), (endsF k l).length = l.length
  | _, [] => rfl
  | k, a :: l => by simp [endsF, endsF_len _ l]
theorem endsF_last : ∀ (k : Nat) (l : List Ax), (k :: endsF k l).getLast? = some (k + (allB l).length)
  | k, [] => by simp [endsF, allB]
  | k, a :: l => by
    have := endsF_last (k + (bytesA a).length) l
    simp only [endsF, List.getLast?_cons_cons]
    rw [this]; simp [allB, Nat.add_assoc]
theorem endsF_at : ∀ (k : Nat) (l : List Ax) (i : Nat), i < l.length → (endsF k l)[i]? = some (k + (allB (l.take (i + 1))).length)
  | k, a :: l, 0, _ => by simp [endsF, allB]
  | k, a :: l, i + 1, h => by
    simp only [endsF, List.getElem?_cons_succ]
    rw [endsF_at _ l i (by simpa using h)]
    simp [allB, Nat.add_assoc]
end Go.Ev
