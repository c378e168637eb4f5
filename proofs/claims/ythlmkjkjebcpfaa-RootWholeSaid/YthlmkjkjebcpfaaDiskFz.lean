/- A disk: a fuse. No condition. -/
import Derived.Test.YthlmkjkjebcpfaaDiskHP
import Derived.Test.YthlmkjkjebcpfaaMa
namespace Go.Proofs.Ythlmkjkjebcpfaa
open Go.Den Go.Disk
set_option linter.unusedSimpArgs false
set_option linter.unusedVariables false
set_option maxRecDepth 20000
set_option maxHeartbeats 4000000
attribute [local congr] BND_cg COND_cg GEF_cg
attribute [local irreducible] capl slicea load1 loadn iaddr iaddra faddr storev newslice binv lookv mupd mdel mlenv mentry mestore slicev slicev3 slices indexs indexav textv rangev nexts clearv shiftv eqaggv convi buildv pickv lens lenl unv nilchk extractv partn JOIN
section
variable {w0 w : World} {F0 : List Nat} {d : Nat} {s : Dk} {R : Value → World → Prop}
theorem dk_Fuse (h : At w0 F0 (diskHP d s) w) (n : Int) (hR : ∀ w', At w0 F0 (diskHP d (fuse s n)) w' → R (.tuple #[]) w') : CALL PR F_disk_Disk_Fuse [ptrTo d, .int .i64 n] w R := by
  obtain ⟨sv, ms, fb, hs, hm, hf⟩ := dk_open h
  refine C_disk_Disk_Fuse ?_
  unfold M_disk_Disk_Fuse ptrTo
  have e : max2v (.int .i64 n) (.int .i64 (-1)) = some (.int .i64 (if n < -1 then -1 else n)) := rfl
  (repeat (first | refine BND_step e ?_ | refine stp ?_ | (apply BND_inc; omega) | (apply BND_dec; omega) | refine BND_step (rfl : some _ = some _) ?_ | (apply cyes; first | assumption | omega) | (apply cno; first | assumption | omega) | refine (COND_true _ _).2 ?_ | refine (COND_false _ _).2 ?_ | simp (disch := first | assumption | omega) only [gs1, gs2, decide_true, decide_false, eq_self, beq_self_eq_true, Bool.not_true, Bool.not_false]))
  refine hs.store (i := 1) rfl ⟨rfl, rfl⟩ (by simp [dkC]) fun w1 h1 f1 => ?_
  exact hR w1 (dk_shut (s := fuse s n) (sv := sv) (ms := ms) (fb := fb) h1)
end
end Go.Proofs.Ythlmkjkjebcpfaa
