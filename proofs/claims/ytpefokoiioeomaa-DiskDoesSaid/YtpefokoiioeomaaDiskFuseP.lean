/- A fuse, in plain words: what is done with it is what is done without, till it burns. No condition. -/
import Derived.Test.YtpefokoiioeomaaDiskRoom
set_option linter.unusedSimpArgs false
set_option linter.unusedVariables false
namespace Go.Proofs.Ytpefokoiioeomaa
open Go.Den Go.Disk
def wb (s : Dk) (m : Int) : Dk := { s with burn := m }
section
variable {s : Dk} {m : Int}
theorem can_wb (hg : s.gone = false) (hb : s.burn = -1) (hm : 0 ≤ m) (e : Int) :
    (e ≠ 0 ∧ can (wb s m) e = (wb s m, e) ∧ can s e = (s, e)) ∨ (e = 0 ∧ m = 0 ∧ can (wb s m) e = ({ wb s m with gone := true }, 7)) ∨ (e = 0 ∧ 0 < m ∧ can (wb s m) e = (wb s (m - 1), 0) ∧ can s e = (s, 0)) := by
  have hg' : (wb s m).gone = false := hg
  have hb' : (wb s m).burn = m := rfl
  by_cases he : e = 0
  · subst he
    by_cases h0 : m = 0
    · subst h0
      refine .inr (.inl ⟨rfl, rfl, ?_⟩)
      unfold can wb
      simp [hg]
    · refine .inr (.inr ⟨rfl, by omega, ?_, ?_⟩)
      · unfold can wb
        simp [hg, h0, show 0 < m by omega]
      · unfold can; rw [hg, hb]; simp
  · refine .inl ⟨he, ?_, ?_⟩
    · unfold can; rw [hg']; simp [he]
    · unfold can; rw [hg]; simp [he]
/-- what becomes of a call by a fuse of m more calls. -/
def Fused (s : Dk) (m : Int) (f : Dk → Dk × Int) : Prop :=
  (f (wb s m) = ({ wb s m with gone := true }, 7) ∧ m = 0) ∨
  ∃ m', 0 ≤ m' ∧ f (wb s m) = (wb (f s).1 m', (f s).2) ∧ (f s).1.gone = false ∧ (f s).1.burn = -1 ∧ ((f s).2 = 0 → m' = m - 1) ∧ ((f s).2 ≠ 0 → m' = m)
theorem fuse_op (hg : s.gone = false) (hb : s.burn = -1) (hm : 0 ≤ m) {e : Dk → Int} {u : Dk → Dk → Dk} (he : e (wb s m) = e s) (hu : ∀ k, u (wb s m) (wb s k) = wb (u s s) k) (hug : (u s s).gone = false) (hub : (u s s).burn = -1) :
    Fused s m fun s' => if (can s' (e s')).2 = 0 then (u s' (can s' (e s')).1, 0) else can s' (e s') := by
  unfold Fused
  simp only [he]
  rcases can_wb hg hb hm (e s) with ⟨h1, h2, h3⟩ | ⟨h1, h2, h3⟩ | ⟨h1, h2, h3, h4⟩
  · right
    rw [h2, h3]
    simp only [h1, if_false]
    exact ⟨m, hm, rfl, hg, hb, fun h => h.elim, fun _ => rfl⟩
  · left
    rw [h3]
    simp [h2]
  · right
    rw [h3, h4]
    simp only [if_true, hu]
    exact ⟨m - 1, by omega, rfl, hug, hub, fun _ => rfl, fun h => (h rfl).elim⟩
theorem fuse_create (hg : s.gone = false) (hb : s.burn = -1) (hm : 0 ≤ m) (n : ByteArray) : Fused s m fun s => create s n :=
  fuse_op hg hb hm (e := fun s => createE s n) (u := fun s0 r => { r with files := s0.files ++ [⟨[], 0⟩], dirs := s0.dirs ++ [withD s0.now (n, s0.files.length)] }) rfl (fun _ => rfl) hg hb
theorem fuse_append (hg : s.gone = false) (hb : s.burn = -1) (hm : 0 ≤ m) (n : ByteArray) (bs : List UInt8) : Fused s m fun s => append s n bs :=
  fuse_op hg hb hm (e := fun s => appendE s n bs.length) (u := fun s0 r => setF r ((s0.find n).getD 0) { fileAt s0 ((s0.find n).getD 0) with b := (fileAt s0 ((s0.find n).getD 0)).b ++ bs }) rfl (fun _ => rfl) hg hb
theorem fuse_sync (hg : s.gone = false) (hb : s.burn = -1) (hm : 0 ≤ m) (n : ByteArray) : Fused s m fun s => sync s n :=
  fuse_op hg hb hm (e := fun s => there s n) (u := fun s0 r => setF r ((s0.find n).getD 0) { fileAt s0 ((s0.find n).getD 0) with sure := (fileAt s0 ((s0.find n).getD 0)).b.length }) rfl (fun _ => rfl) hg hb
theorem fuse_cut (hg : s.gone = false) (hb : s.burn = -1) (hm : 0 ≤ m) (n : ByteArray) (k : Int) : Fused s m fun s => cut s n k :=
  fuse_op hg hb hm (e := fun s => cutE s n k) (u := fun s0 r => setF r ((s0.find n).getD 0) ⟨(fileAt s0 ((s0.find n).getD 0)).b.take k.toNat, min (fileAt s0 ((s0.find n).getD 0)).sure k.toNat⟩) rfl (fun _ => rfl) hg hb
theorem fuse_rename (hg : s.gone = false) (hb : s.burn = -1) (hm : 0 ≤ m) (a b : ByteArray) : Fused s m fun s => rename s a b :=
  fuse_op hg hb hm (e := fun s => renameE s a b) (u := fun s0 r => { r with dirs := s0.dirs ++ [withD (without (without s0.now a) b) (b, (s0.find a).getD 0)] }) rfl (fun _ => rfl) hg hb
theorem fuse_delete (hg : s.gone = false) (hb : s.burn = -1) (hm : 0 ≤ m) (n : ByteArray) : Fused s m fun s => delete s n :=
  fuse_op hg hb hm (e := fun s => there s n) (u := fun s0 r => { r with dirs := s0.dirs ++ [without s0.now n] }) rfl (fun _ => rfl) hg hb
theorem fuse_dirsync (hg : s.gone = false) (hb : s.burn = -1) (hm : 0 ≤ m) : Fused s m dirsync :=
  fuse_op hg hb hm (e := fun _ => 0) (u := fun s0 r => { r with dirs := [s0.now] }) rfl (fun _ => rfl) hg hb
def FusedA (s : Dk) (m : Int) (a : Act) (g : Dk → Dk × List UInt8 × Int) : Prop :=
  (g (wb s m) = ({ wb s m with gone := true }, [], 7) ∧ m = 0) ∨
  ∃ m', 0 ≤ m' ∧ g (wb s m) = (wb (g s).1 m', (g s).2) ∧ (g s).1.gone = false ∧ (g s).1.burn = -1 ∧ m' = if (g s).2.2 = 0 ∧ 0 ≤ a.dn ∧ a.dn ≤ 6 then m - 1 else m
theorem of_fused {f : Dk → Dk × Int} {a : Act} (h : Fused s m f) (h0 : 0 ≤ a.dn ∧ a.dn ≤ 6) : FusedA s m a fun s => ((f s).1, [], (f s).2) := by
  rcases h with ⟨h1, h2⟩ | ⟨m', h1, h2, h3, h4, h5, h6⟩
  · left; exact ⟨by simp only [h1], h2⟩
  · right
    refine ⟨m', h1, by simp only [h2], h3, h4, ?_⟩
    by_cases he : (f s).2 = 0
    · rw [if_pos ⟨he, h0⟩]; exact h5 he
    · rw [if_neg (fun h => he h.1)]; exact h6 he
theorem fuse_act (hg : s.gone = false) (hb : s.burn = -1) (hm : 0 ≤ m) (a : Act) (b : List UInt8) (t : List Int) (h7 : a.dn ≠ 7) (h8 : a.dn ≠ 8) : FusedA s m a fun s => act s a b t := by
  unfold act
  by_cases q0 : a.dn = 0
  · simp only [q0, if_true]; exact of_fused (fuse_create hg hb hm _) (by omega)
  by_cases q1 : a.dn = 1
  · simp only [q1]; exact of_fused (fuse_append hg hb hm _ _) (by omega)
  by_cases q2 : a.dn = 2
  · simp only [q2]; exact of_fused (fuse_sync hg hb hm _) (by omega)
  by_cases q3 : a.dn = 3
  · simp only [q3]; exact of_fused (fuse_cut hg hb hm _ _) (by omega)
  by_cases q4 : a.dn = 4
  · simp only [q4]; exact of_fused (fuse_rename hg hb hm _ _) (by omega)
  by_cases q5 : a.dn = 5
  · simp only [q5]; exact of_fused (fuse_delete hg hb hm _) (by omega)
  by_cases q6 : a.dn = 6
  · simp only [q6]; exact of_fused (fuse_dirsync hg hb hm) (by omega)
  simp only [q0, q1, q2, q3, q4, q5, q6, h7, h8, if_false]
  right
  refine ⟨m, hm, rfl, hg, hb, ?_⟩
  rw [if_neg (by omega)]
end
end Go.Proofs.Ytpefokoiioeomaa
