
/- A disk of which folders and files are known, and events on it, in plain words. No condition. -/
import Derived.Test.YtmefbneoljpbgaaGreatDoorEvP
import Derived.Test.YtmefbneoljpbgaaGreatDoorNameP
import Derived.Test.YtmefbneoljpbgaaGreatDoorGe
set_option linter.unusedSimpArgs false
set_option linter.unusedVariables false
namespace Go.Ev
open Go.Den Go.Disk Go.Nm Go.Proofs.YtmefbneoljpbgaaGreatDoor
structure Ev (s : Dk) (room : Int) (ds : List Dir) (fs : List Fl) : Prop where
  inv : Inv s
  room_ : s.room = room
  dirs : s.dirs = ds
  files : s.files = fs
  gone : s.gone = false
  burn : s.burn = -1
def sumF (fs : List Fl) : Nat := (fs.map fun x => x.b.length).sum
theorem range_getD {α : Type} (l : List α) (d : α) : (List.range l.length).map (fun i => l.getD i d) = l := by
  refine List.ext_getElem (by simp) fun i h1 h2 => ?_
  simp [h2]
theorem held_sumF (s : Dk) : held s ≤ sumF s.files := by
  rw [held_sum]
  refine Nat.le_trans (sumTo_le (g' := fun f => (s.files.getD f ⟨[], 0⟩).b.length) fun i _ => ?_) ?_
  · unfold heldG fileAt
    split <;> omega
  · unfold sumTo sumF
    have := range_getD s.files ⟨[], 0⟩
    conv => { rhs; rw [← this] }
    rw [List.map_map]
    exact Nat.le_refl _
theorem free_can {s : Dk} (hg : s.gone = false) (hb : s.burn = -1) (e : Int) : can s e = (s, e) := by
  unfold can
  by_cases h : e = 0
  · simp [hg, hb, h]
  · simp [hg, h]
section
variable {s : Dk} {room : Int} {ds : List Dir} {fs : List Fl}
theorem Ev.empty {room : Int} (h : 16 ≤ room ∧ room ≤ 1048576) : Ev (empty room) room [[]] [] := ⟨inv_empty h, rfl, rfl, rfl, rfl, rfl⟩
theorem Ev.now (h : Ev s room ds fs) : s.now = ds.getLastD [] := by unfold Dk.now; rw [h.dirs]
theorem Ev.find (h : Ev s room ds fs) (n : ByteArray) : s.find n = findD (ds.getLastD []) n := by unfold Dk.find; rw [h.now]
theorem Ev.at_ (h : Ev s room ds fs) {f : Nat} {x : Fl} (hx : fs[f]? = some x) : fileAt s f = x := by unfold fileAt; rw [h.files, List.getD_eq_getElem?_getD, hx]; rfl
theorem Ev.create (h : Ev s room ds fs) {n : ByteArray} (hn : named n = true) (hf : findD (ds.getLastD []) n = none) (hl : (ds.getLastD []).length < 60) :
    (create s n).2 = 0 ∧ Ev (create s n).1 room (ds ++ [withD (ds.getLastD []) (n, fs.length)]) (fs ++ [⟨[], 0⟩]) := by
  have hi := inv_create h.inv n
  have ce : createE s n = 0 := by
    unfold createE
    rw [hn, h.find, hf, h.now]
    simp only [Option.isSome_none, Bool.false_eq_true, Bool.true_eq_false, if_false]
    rw [if_neg (by omega)]
  have e : Disk.create s n = ({ s with files := s.files ++ [⟨[], 0⟩], dirs := s.dirs ++ [withD s.now (n, s.files.length)] }, 0) := by
    unfold Disk.create; rw [ce]; simp only [free_can h.gone h.burn, if_true]
  rw [e] at hi ⊢
  refine ⟨rfl, hi, h.room_, ?_, ?_, h.gone, h.burn⟩
  · show s.dirs ++ _ = _; rw [h.dirs, h.now, h.files]
  · show s.files ++ _ = _; rw [h.files]
theorem Ev.append (h : Ev s room ds fs) {n : ByteArray} {f : Nat} {x : Fl} {bs : List UInt8} (hf : findD (ds.getLastD []) n = some f) (hx : fs[f]? = some x) (hr : ((sumF fs + bs.length : Nat) : Int) ≤ room) :
    (append s n bs).2 = 0 ∧ Ev (append s n bs).1 room ds (fs.set f ⟨x.b ++ bs, x.sure⟩) := by
  have hi := inv_append h.inv n bs
  have hh := held_sumF s
  rw [h.files] at hh
  have ce : appendE s n bs.length = 0 := by
    unfold appendE
    rw [h.find, hf, h.room_]
    simp only [Option.isSome_some, if_true]
    rw [if_neg (by omega)]
  have e : Disk.append s n bs = (setF s f ⟨x.b ++ bs, x.sure⟩, 0) := by
    unfold Disk.append
    rw [ce]
    simp only [free_can h.gone h.burn, if_true, h.find, hf, Option.getD_some, h.at_ hx]
  rw [e] at hi ⊢
  exact ⟨rfl, hi, h.room_, h.dirs, by show s.files.set f _ = _; rw [h.files], h.gone, h.burn⟩
theorem Ev.sync (h : Ev s room ds fs) {n : ByteArray} {f : Nat} {x : Fl} (hf : findD (ds.getLastD []) n = some f) (hx : fs[f]? = some x) :
    (sync s n).2 = 0 ∧ Ev (sync s n).1 room ds (fs.set f ⟨x.b, x.b.length⟩) := by
  have hi := inv_sync h.inv n
  have ce : there s n = 0 := by
    unfold there
    rw [h.find, hf]; rfl
  have e : Disk.sync s n = (setF s f ⟨x.b, x.b.length⟩, 0) := by
    unfold Disk.sync
    rw [ce]
    simp only [free_can h.gone h.burn, if_true, h.find, hf, Option.getD_some, h.at_ hx]
  rw [e] at hi ⊢
  exact ⟨rfl, hi, h.room_, h.dirs, by show s.files.set f _ = _; rw [h.files], h.gone, h.burn⟩
theorem Ev.cut (h : Ev s room ds fs) {n : ByteArray} {f : Nat} {x : Fl} {k : Nat} (hf : findD (ds.getLastD []) n = some f) (hx : fs[f]? = some x) (hk : k ≤ x.b.length) :
    (cut s n k).2 = 0 ∧ Ev (cut s n k).1 room ds (fs.set f ⟨x.b.take k, min x.sure k⟩) := by
  have hi := inv_cut h.inv n k
  have ce : cutE s n k = 0 := by
    unfold cutE
    rw [h.find, hf]
    simp only
    rw [h.at_ hx, if_neg (by omega)]
  have e : Disk.cut s n k = (setF s f ⟨x.b.take k, min x.sure k⟩, 0) := by
    unfold Disk.cut
    rw [ce]
    simp only [free_can h.gone h.burn, if_true, h.find, hf, Option.getD_some, h.at_ hx, Int.toNat_natCast]
  rw [e] at hi ⊢
  exact ⟨rfl, hi, h.room_, h.dirs, by show s.files.set f _ = _; rw [h.files], h.gone, h.burn⟩
theorem Ev.dirsync (h : Ev s room ds fs) : (dirsync s).2 = 0 ∧ Ev (dirsync s).1 room [ds.getLastD []] fs := by
  have hi := inv_dirsync h.inv
  have e : Disk.dirsync s = ({ s with dirs := [s.now] }, 0) := by unfold Disk.dirsync; simp only [free_can h.gone h.burn, if_true]
  rw [e] at hi ⊢
  exact ⟨rfl, hi, h.room_, by show [s.now] = _; rw [h.now], h.files, h.gone, h.burn⟩
theorem Ev.read (h : Ev s room ds fs) {n : ByteArray} {f : Nat} {x : Fl} (hf : findD (ds.getLastD []) n = some f) (hx : fs[f]? = some x) : Disk.read s n = (x.b, 0) := by
  unfold Disk.read
  rw [h.gone, h.find, hf]
  simp only [Bool.false_eq_true, if_false]
  rw [h.at_ hx]
theorem Ev.read_no (h : Ev s room ds fs) {n : ByteArray} (hf : findD (ds.getLastD []) n = none) : Disk.read s n = ([], 5) := by
  unfold Disk.read
  rw [h.gone, h.find, hf]
  simp
end
theorem Ev.rise {s : Dk} {room : Int} {ds : List Dir} {fs : List Fl} (h : Ev s room ds fs) : riseD (ds.getLastD []) := by
  have := h.inv.wf.rise _ (now_mem h.inv.wf)
  rwa [h.now] at this
theorem findD_not : ∀ {l : Dir} {n : ByteArray}, findD l n = none → ∀ y ∈ l, y.1 ≠ n
  | [], _, _, y, hy => by simp at hy
  | (k, g) :: l, n, h, y, hy => by
    simp only [findD] at h
    by_cases hk : k = n
    · rw [if_pos hk] at h; cases h
    · rw [if_neg hk] at h
      rcases List.mem_cons.1 hy with rfl | hy
      · exact hk
      · exact findD_not h y hy
theorem Ev.found {s : Dk} {room : Int} {ds : List Dir} {fs : List Fl} (h : Ev s room ds fs) {n : ByteArray} (hf : findD (ds.getLastD []) n = none) (f : Nat) (k : ByteArray) :
    findD (withD (ds.getLastD []) (n, f)) k = if k = n then some f else findD (ds.getLastD []) k := findD_withD h.rise (x := (n, f)) (findD_not hf) k
/-! ## Events -/
def evN (g : Nat) : ByteArray := nmB 101 g
def okG (g : Nat) : Bool := okN 101 g
theorem okG_iff {g : Nat} : okG g = true ↔ g < 10000000000 := by unfold okG okN kindN; simp
def evBegin (s : Dk) (g : Nat) : Dk × Int := if okG g = true then (if (create s (evN g)).2 = 0 then sync (create s (evN g)).1 (evN g) else create s (evN g)) else (s, 1)
def evAppend (s : Dk) (g : Nat) (l : List Ax) : Dk × Int := if okG g = true then (if l.all rightA = true then append s (evN g) (allB l) else (s, 1)) else (s, 1)
def evSync (s : Dk) (g : Nat) : Dk × Int := if okG g = true then sync s (evN g) else (s, 1)
def evLoad (s : Dk) (g : Nat) : List Ax × List Nat × Int :=
  if okG g = true then (if (Disk.read s (evN g)).2 = 0 then loadB (Disk.read s (evN g)).1 else ([], [], (Disk.read s (evN g)).2)) else ([], [], 1)
def evCut (s : Dk) (g : Nat) (k : Int) : Dk × Int :=
  if okG g = true then (if (Disk.read s (evN g)).2 = 0 then (if ((Disk.read s (evN g)).1.length : Int) ≤ k then (s, 0) else cut s (evN g) k) else (s, (Disk.read s (evN g)).2)) else (s, 1)
theorem evN_ne {a b : Nat} (h : a ≠ b) : evN a ≠ evN b := fun e => h (nmB_inj e).2
section
variable {s : Dk} {room : Int} {ds : List Dir} {fs : List Fl} {g : Nat}
theorem Ev.begin_ (h : Ev s room ds fs) (hg : okG g = true) (hf : findD (ds.getLastD []) (evN g) = none) (hl : (ds.getLastD []).length < 60) :
    (evBegin s g).2 = 0 ∧ Ev (evBegin s g).1 room (ds ++ [withD (ds.getLastD []) (evN g, fs.length)]) (fs ++ [⟨[], 0⟩]) := by
  obtain ⟨e1, h1⟩ := h.create (n := evN g) (nmB_named hg).1 hf hl
  have hlast : (ds ++ [withD (ds.getLastD []) (evN g, fs.length)]).getLastD [] = withD (ds.getLastD []) (evN g, fs.length) := by simp
  have hfd : findD (withD (ds.getLastD []) (evN g, fs.length)) (evN g) = some fs.length := by rw [h.found hf, if_pos rfl]
  obtain ⟨e2, h2⟩ := h1.sync (n := evN g) (f := fs.length) (x := ⟨[], 0⟩) (by rw [hlast]; exact hfd) (by simp)
  unfold evBegin
  rw [if_pos hg, if_pos e1]
  refine ⟨e2, ?_⟩
  have : (fs ++ [(⟨[], 0⟩ : Fl)]).set fs.length (⟨[], ([] : List UInt8).length⟩ : Fl) = fs ++ [(⟨[], 0⟩ : Fl)] := by simp
  rw [this] at h2
  exact h2
theorem Ev.put (h : Ev s room ds fs) (hg : okG g = true) {f : Nat} {x : Fl} {l : List Ax} (hl : GoodA l) (hf : findD (ds.getLastD []) (evN g) = some f) (hx : fs[f]? = some x) (hr : ((sumF fs + (allB l).length : Nat) : Int) ≤ room) :
    (evAppend s g l).2 = 0 ∧ Ev (evAppend s g l).1 room ds (fs.set f ⟨x.b ++ allB l, x.sure⟩) := by
  unfold evAppend
  rw [if_pos hg, if_pos (List.all_eq_true.2 fun a ha => (hl a ha).1)]
  exact h.append hf hx hr
theorem Ev.load (h : Ev s room ds fs) (hg : okG g = true) {f : Nat} {x : Fl} (hf : findD (ds.getLastD []) (evN g) = some f) (hx : fs[f]? = some x) : evLoad s g = loadB x.b := by
  unfold evLoad
  rw [if_pos hg, h.read hf hx, if_pos rfl]
end
theorem allB_len {l : List Ax} (h : GoodA l) : (allB l).length ≤ 175 * l.length := by
  induction l with
  | nil => simp [allB]
  | cons a l ih =>
    have h1 := (bytesA_len (h a (by simp)).1 (h a (by simp)).2).2
    have h2 := ih fun b hb => h b (by simp [hb])
    have : allB (a :: l) = bytesA a ++ allB l := by simp [allB]
    rw [this, List.length_append, List.length_cons]; omega
end Go.Ev
