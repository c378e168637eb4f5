/- What is sure stays, in plain words. No condition. -/
import Derived.Test.YtpefokoiioeomaaDiskNames
set_option linter.unusedSimpArgs false
set_option linter.unusedVariables false
namespace Go.Proofs.Ytpefokoiioeomaa
open Go.Den Go.Disk
structure Kept (nm : ByteArray) (f : Nat) (s : Dk) (all : List UInt8) (n : Nat) : Prop where
  ent : ∀ l ∈ s.dirs, (nm, f) ∈ l
  file : s.files[f]? = some ⟨all, n⟩
section
variable {nm : ByteArray} {f n : Nat} {s : Dk} {all : List UInt8}
theorem Kept.can (k : Kept nm f s all n) (e : Int) : Kept nm f (can s e).1 all n := by
  obtain ⟨k1, k2, _⟩ := can_keep s e
  exact ⟨by rw [k2]; exact k.ent, by rw [k1]; exact k.file⟩
theorem Kept.find (hi : Inv s) (k : Kept nm f s all n) : findD s.now nm = some f := findD_of_mem (hi.wf.rise _ (now_mem hi.wf)) (k.ent _ (now_mem hi.wf))
theorem Kept.at_ (k : Kept nm f s all n) : fileAt s f = ⟨all, n⟩ := by unfold fileAt; rw [List.getD_eq_getElem?_getD, k.file]; rfl
theorem Kept.other (hi : Inv s) (k : Kept nm f s all n) {m : ByteArray} {g : Nat} (hm : m ≠ nm) (hg : findD s.now m = some g) : g ≠ f :=
  one_gone (hi.one _ (now_mem hi.wf)) (k.ent _ (now_mem hi.wf)) (m, g) (mem_without.2 ⟨findD_mem hg, hm⟩)
theorem Kept.dir (hi : Inv s) (k : Kept nm f s all n) {l : Dir} (hl : (nm, f) ∈ l) {r b : Int} {g : Bool} : Kept nm f ⟨r, s.files, s.dirs ++ [l], b, g⟩ all n :=
  ⟨fun l' h => by
    rcases List.mem_append.1 h with h | h
    · exact k.ent _ h
    · rw [List.mem_singleton.1 h]; exact hl, k.file⟩
theorem Kept.set (k : Kept nm f s all n) {g : Nat} (hg : g ≠ f) (x : Fl) : Kept nm f (setF s g x) all n :=
  ⟨k.ent, by show (s.files.set g x)[f]? = _; rw [List.getElem?_set_ne hg]; exact k.file⟩
theorem opt_of {n : ByteArray} {e : Int} (he : e ≠ 0) (h : (match s.find n with | none => e | some _ => 0) = 0) : ∃ g, findD s.now n = some g := by
  unfold Dk.find at h
  cases hx : findD s.now n with
  | none => rw [hx] at h; exact absurd h he
  | some g => exact ⟨g, rfl⟩
theorem there_some {m : ByteArray} (h : there s m = 0) : ∃ g, findD s.now m = some g := by
  unfold there Dk.find at h
  cases hx : findD s.now m with
  | none => rw [hx] at h; simp at h
  | some g => exact ⟨g, rfl⟩
/-- the file's bytes behind an act. -/
def allAt (nm : ByteArray) (s : Dk) (a : Act) (b : List UInt8) (t : List Int) (all : List UInt8) : List UInt8 := if a.dn = 1 ∧ a.nm = nm ∧ (act s a b t).2.2 = 0 then all ++ b else all
theorem kept_act (hi : Inv s) (k : Kept nm f s all n) (a : Act) (b : List UInt8) (t : List Int) (h8 : a.dn ≠ 8) (ho : a.dn ≠ 1 → a.nm ≠ nm ∧ a.to ≠ nm) : Kept nm f (act s a b t).1 (allAt nm s a b t all) n := by
  have hnow := k.ent _ (now_mem hi.wf)
  by_cases q1 : a.dn = 1
  · unfold allAt act
    simp only [q1, Int.reduceEq, if_false, if_true, true_and]
    by_cases hc : (can s (appendE s a.nm b.length)).2 = 0
    · have h0 := can_zero hc
      have e2 : (append s a.nm b).2 = 0 := by simp only [append]; rw [if_pos hc]
      rw [e2]
      simp only [append, hc, if_true, and_true]
      by_cases hn : a.nm = nm
      · rw [if_pos hn, hn, show s.find nm = some f from k.find hi]
        have kc := k.can (appendE s nm b.length)
        refine ⟨kc.ent, ?_⟩
        simp only [Option.getD_some, k.at_]
        show (List.set _ f _)[f]? = _
        rw [List.getElem?_set_self (List.getElem?_eq_some_iff.1 kc.file).1]
      · rw [if_neg hn]
        obtain ⟨g, hg⟩ : ∃ g, findD s.now a.nm = some g := by
          unfold appendE Dk.find at h0
          cases hx : findD s.now a.nm with
          | none => rw [hx] at h0; simp at h0
          | some g => exact ⟨g, rfl⟩
        rw [show s.find a.nm = some g from hg]
        exact (k.can _).set (k.other hi hn hg) _
    · have e2 : append s a.nm b = can s (appendE s a.nm b.length) := by simp only [append]; rw [if_neg hc]
      rw [e2, if_neg (fun h => hc h.2)]
      exact k.can _
  have hal : allAt nm s a b t all = all := by unfold allAt; rw [if_neg (fun h => q1 h.1)]
  rw [hal]
  obtain ⟨hn, hto⟩ := ho q1
  unfold act
  simp only [q1, h8, if_false]
  by_cases q0 : a.dn = 0
  · simp only [q0, if_true, create]
    split
    · obtain ⟨k1, k2, k3⟩ := can_keep s (createE s a.nm)
      refine ⟨fun l h => ?_, ?_⟩
      · rcases List.mem_append.1 h with h | h
        · exact k.ent _ h
        · rw [List.mem_singleton.1 h]; exact mem_withD.2 (.inr hnow)
      · show (s.files ++ _)[f]? = _
        rw [List.getElem?_append_left (List.getElem?_eq_some_iff.1 k.file).1]; exact k.file
    · exact k.can _
  by_cases q2 : a.dn = 2
  · simp only [q2, Int.reduceEq, if_false, if_true, sync]
    split
    · rename_i hc
      obtain ⟨g, hg⟩ := there_some (can_zero hc)
      rw [show s.find a.nm = some g from hg]
      exact (k.can _).set (k.other hi hn hg) _
    · exact k.can _
  by_cases q3 : a.dn = 3
  · simp only [q3, Int.reduceEq, if_false, if_true, cut]
    split
    · rename_i hc
      have h0 := can_zero hc
      obtain ⟨g, hg⟩ : ∃ g, findD s.now a.nm = some g := by
        unfold cutE Dk.find at h0
        cases hx : findD s.now a.nm with
        | none => rw [hx] at h0; simp at h0
        | some g => exact ⟨g, rfl⟩
      rw [show s.find a.nm = some g from hg]
      exact (k.can _).set (k.other hi hn hg) _
    · exact k.can _
  by_cases q4 : a.dn = 4
  · simp only [q4, Int.reduceEq, if_false, if_true, rename]
    split
    · obtain ⟨k1, k2, k3⟩ := can_keep s (renameE s a.nm a.to)
      rw [k1]
      exact k.dir hi (mem_withD.2 (.inr (mem_without.2 ⟨mem_without.2 ⟨hnow, fun e => hn e.symm⟩, fun e => hto e.symm⟩)))
    · exact k.can _
  by_cases q5 : a.dn = 5
  · simp only [q5, Int.reduceEq, if_false, if_true, delete]
    split
    · obtain ⟨k1, k2, k3⟩ := can_keep s (there s a.nm)
      rw [k1]
      exact k.dir hi (mem_without.2 ⟨hnow, fun e => hn e.symm⟩)
    · exact k.can _
  by_cases q6 : a.dn = 6
  · simp only [q6, Int.reduceEq, if_false, if_true, dirsync]
    split
    · obtain ⟨k1, k2, k3⟩ := can_keep s 0
      rw [k1]
      exact ⟨fun l h => by rw [List.mem_singleton.1 h]; exact hnow, k.file⟩
    · exact k.can _
  by_cases q7 : a.dn = 7
  · simp only [q7, Int.reduceEq, if_false, if_true]
    exact ⟨k.ent, k.file⟩
  simp only [q0, q2, q3, q4, q5, q6, q7, if_false]
  exact k
theorem crashF_not {tails : List Int} : ∀ (l : Dir) (i : Nat) (fs : List Fl), (∀ x ∈ l, x.2 ≠ f) → (crashF tails l i fs)[f]? = fs[f]?
  | [], _, _, _ => rfl
  | (k, g) :: r, i, fs, h => by
    simp only [crashF]
    rw [crashF_not r (i + 1) _ fun x hx => h x (by simp [hx]), List.getElem?_set_ne (h (k, g) (by simp))]
theorem crashF_at {tails : List Int} {x : Fl} : ∀ (l : Dir) (i : Nat) (fs : List Fl), (l.map (·.2)).Nodup → (nm, f) ∈ l → fs[f]? = some x → ∃ j, (crashF tails l i fs)[f]? = some ⟨x.b.take (x.sure + tailOf x tails j), x.sure + tailOf x tails j⟩
  | [], _, _, _, h, _ => by simp at h
  | (k, g) :: r, i, fs, hd, hm, hx => by
    simp only [crashF]
    rw [List.map_cons, List.nodup_cons] at hd
    rcases List.mem_cons.1 hm with h | h
    · cases h
      refine ⟨i, ?_⟩
      have hgd : fs.getD f ⟨[], 0⟩ = x := by rw [List.getD_eq_getElem?_getD, hx]; rfl
      rw [crashF_not r (i + 1) _ fun y hy e => hd.1 (List.mem_map.2 ⟨y, hy, e⟩), List.getElem?_set_self (List.getElem?_eq_some_iff.1 hx).1, hgd]
    · have hg : g ≠ f := fun e => hd.1 (List.mem_map.2 ⟨_, h, e.symm⟩)
      exact crashF_at r (i + 1) _ hd.2 h (by rw [List.getElem?_set_ne hg]; exact hx)
theorem kept_crash (hi : Inv s) (k : Kept nm f s all n) (op : Int) (tails : List Int) : ∃ m, n ≤ m ∧ m ≤ all.length ∧ Disk.read (crash s op tails) nm = (all.take m, 0) := by
  have hp : 0 < s.dirs.length := List.length_pos_iff.2 hi.wf.ne
  obtain ⟨l, hl⟩ : ∃ l, s.dirs.getD (min op.toNat (s.dirs.length - 1)) [] = l := ⟨_, rfl⟩
  have hlm : l ∈ s.dirs := by
    rw [← hl, List.getD_eq_getElem?_getD, List.getElem?_eq_getElem (by omega)]
    exact List.getElem_mem _
  have hs := hi.wf.sure _ (List.mem_of_getElem? k.file)
  obtain ⟨j, hj⟩ := crashF_at (tails := tails) l 0 s.files (hi.one l hlm) (k.ent l hlm) k.file
  have ht := tailOf_le ⟨all, n⟩ tails j
  simp only at hs ht hj
  refine ⟨n + tailOf ⟨all, n⟩ tails j, by omega, by omega, ?_⟩
  unfold Disk.read Dk.find
  have hnow : (crash s op tails).now = l := by unfold crash Dk.now; rw [hl]; rfl
  have hfile : (crash s op tails).files[f]? = some ⟨all.take (n + tailOf ⟨all, n⟩ tails j), n + tailOf ⟨all, n⟩ tails j⟩ := by unfold crash; rw [hl]; exact hj
  rw [hnow, findD_of_mem (hi.wf.rise l hlm) (k.ent l hlm)]
  unfold fileAt
  simp only [List.getD_eq_getElem?_getD, hfile]
  rfl
end
/-- the disk that is begun with. -/
def sure4 (nm : ByteArray) (b : List UInt8) : Dk := ⟨131072, [⟨b, b.length⟩], [[(nm, 0)]], -1, false⟩
theorem sure_start {nm : ByteArray} {b : List UInt8} (h : (create (empty 131072) nm).2 = 0) (hb : b.length ≤ 1000) :
    (append (create (empty 131072) nm).1 nm b).2 = 0 ∧ (sync (append (create (empty 131072) nm).1 nm b).1 nm).2 = 0 ∧ (dirsync (sync (append (create (empty 131072) nm).1 nm b).1 nm).1).2 = 0 ∧
      (dirsync (sync (append (create (empty 131072) nm).1 nm b).1 nm).1).1 = sure4 nm b := by
  have c0 : ∀ (r : Int) fs ds e, can ⟨r, fs, ds, -1, false⟩ e = (⟨r, fs, ds, -1, false⟩, e) := fun r fs ds e => can_free rfl rfl e
  have e1 : create (empty 131072) nm = (⟨131072, [⟨[], 0⟩], [[], [(nm, 0)]], -1, false⟩, 0) := by
    unfold create empty at *
    simp only [c0] at *
    by_cases hc : createE ⟨131072, [], [[]], -1, false⟩ nm = 0
    · simp only [hc, if_true]; rfl
    · simp only [hc, if_false] at h
  have f1 : ∀ fs, Dk.find ⟨131072, fs, [[], [(nm, 0)]], -1, false⟩ nm = some 0 := fun fs => by simp [Dk.find, Dk.now, findD]
  have e2 : append ⟨131072, [⟨[], 0⟩], [[], [(nm, 0)]], -1, false⟩ nm b = (⟨131072, [⟨b, 0⟩], [[], [(nm, 0)]], -1, false⟩, 0) := by
    have hh : held ⟨131072, [⟨[], 0⟩], [[], [(nm, 0)]], -1, false⟩ = 0 := by
      unfold held
      simp [fileAt, List.range_succ]
    have hE : appendE ⟨131072, [⟨[], 0⟩], [[], [(nm, 0)]], -1, false⟩ nm b.length = 0 := by
      unfold appendE
      rw [f1, hh]
      simp only [Option.isSome_some, if_true]
      rw [if_neg (by omega)]
    unfold append
    simp only [c0, hE, f1]
    simp [setF, fileAt]
  have e3 : sync ⟨131072, [⟨b, 0⟩], [[], [(nm, 0)]], -1, false⟩ nm = (⟨131072, [⟨b, b.length⟩], [[], [(nm, 0)]], -1, false⟩, 0) := by
    unfold sync there
    simp only [f1, c0]
    simp [setF, fileAt]
  have e4 : dirsync ⟨131072, [⟨b, b.length⟩], [[], [(nm, 0)]], -1, false⟩ = (sure4 nm b, 0) := by
    unfold dirsync
    simp only [c0]
    simp [sure4, Dk.now]
  rw [e1]; simp only
  rw [e2]; simp only
  rw [e3]; simp only
  rw [e4]
  refine ⟨?_, ?_, ?_, ?_⟩ <;> first | trivial | rfl
theorem kept_start (nm : ByteArray) (b : List UInt8) : Kept nm 0 (sure4 nm b) b b.length := ⟨fun l h => by simp [sure4] at h; simp [h], rfl⟩
end Go.Proofs.Ytpefokoiioeomaa
