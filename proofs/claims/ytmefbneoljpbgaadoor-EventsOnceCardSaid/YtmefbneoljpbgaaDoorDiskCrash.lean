
/- A disk's calls: Crash. No condition but sizes. -/
import Derived.Test.YtmefbneoljpbgaaDoorDiskApp
namespace Go.Proofs.YtmefbneoljpbgaaDoor
open Go.Den Go.Disk
def names (l : Dir) : List ByteArray := l.map (·.1)
theorem At.wrap {w0 w : World} {F0 : List Nat} {P : HP} (h : At w0 F0 P w) : At w0 F0 (stars [P]) w := by
  obtain ⟨F, g1, g2, g3⟩ := h
  exact ⟨F, ⟨F, [], g1, ⟨trivial, rfl⟩, by simp, by simp⟩, g2, g3⟩
theorem At.unwrap {w0 w : World} {F0 : List Nat} {P : HP} (h : At w0 F0 (stars [P]) w) : At w0 F0 P w := by
  obtain ⟨F, ⟨A, B, g1, ⟨_, rfl⟩, rfl, _⟩, g2, g3⟩ := h
  exact ⟨A, g1, by simpa using g2, g3⟩
theorem At.zoom {w0 w : World} {F0 : List Nat} {ps : List HP} (h : At w0 F0 (stars ps) w) (i : Nat) {P : HP} (hi : ps[i]? = some P) : ∃ A, At w A P w ∧ ∀ w' P', At w A P' w' → At w0 F0 (stars (ps.set i P')) w' := by
  obtain ⟨A, a1, upd⟩ := h.upd i hi
  exact ⟨A, At.start a1, fun w' P' ⟨F', p1, p2, p3⟩ => upd w' F' P' p1 p3 p2⟩
def encI (x : Int) : List Value := [.int .i64 x]
def crash1 (tails : List Int) (f i : Nat) (fs : List Fl) : List Fl :=
  let x := fs.getD f ⟨[], 0⟩
  fs.set f ⟨x.b.take (x.sure + tailOf x tails i), x.sure + tailOf x tails i⟩
theorem crashF_snoc (tails : List Int) (k : ByteArray) (f : Nat) : ∀ (l : Dir) (i : Nat) (fs : List Fl), crashF tails (l ++ [(k, f)]) i fs = crash1 tails f (i + l.length) (crashF tails l i fs)
  | [], i, fs => rfl
  | (k', f') :: l, i, fs => by
    simp only [List.cons_append, crashF, List.length_cons]
    rw [crashF_snoc tails k f l (i + 1), show i + 1 + l.length = i + (l.length + 1) by omega]
theorem crash1_len (tails : List Int) (f i : Nat) (fs : List Fl) : (crash1 tails f i fs).length = fs.length := by unfold crash1; simp
theorem tailOf_le (x : Fl) (tails : List Int) (i : Nat) : tailOf x tails i ≤ x.b.length - x.sure := by
  unfold tailOf
  split
  · omega
  · exact Nat.min_le_right _ _
/-- what holds of files. -/
def FilesOk (m : Nat) (fs : List Fl) : Prop := ∀ x ∈ fs, x.sure ≤ x.b.length ∧ x.b.length ≤ m
theorem crash1_ok {tails : List Int} {f i m : Nat} {fs : List Fl} (h : FilesOk m fs) (hf : f < fs.length) : FilesOk m (crash1 tails f i fs) := by
  intro x hx
  unfold crash1 at hx
  rcases List.mem_or_eq_of_mem_set hx with hx | rfl
  · exact h x hx
  · have hm : fs.getD f ⟨[], 0⟩ ∈ fs := by rw [List.getD_eq_getElem?_getD, List.getElem?_eq_getElem hf]; exact List.getElem_mem hf
    have h1 := h _ hm
    have h2 := tailOf_le (fs.getD f ⟨[], 0⟩) tails i
    simp only [List.length_take]
    omega
set_option linter.unusedSimpArgs false
set_option linter.unusedVariables false
set_option maxRecDepth 20000
set_option maxHeartbeats 4000000
attribute [local congr] BND_cg COND_cg GEF_cg
attribute [local irreducible] capl slicea load1 loadn iaddr iaddra faddr storev newslice binv lookv mupd mdel mlenv mentry mestore slicev slicev3 slices indexs indexav textv rangev nexts clearv shiftv eqaggv convi buildv pickv lens lenl unv nilchk extractv partn JOIN
section
variable {w0 w : World} {F0 : List Nat} {d : Nat} {s : Dk} {R : Value → World → Prop}
end
end Go.Proofs.YtmefbneoljpbgaaDoor
