
/- The calls whose answers the document fixes, of events. Condition: the table of the powers of ten is laid. -/
import Derived.Test.YtmefbneoljpbgaaGreatDoorEvW
import Derived.Test.YtmefbneoljpbgaaGreatDoorEvH
import Derived.Test.YtmefbneoljpbgaaGreatDoorMa
namespace Go.Proofs.YtmefbneoljpbgaaGreatDoor
open Go.Den Go.Disk Go.Vint Go.Crc Go.Frame Go.Rec Go.Ev Go.Nm
def awE : Ax := ⟨7, 0, 0, 5, noB, 0, 0, 0⟩
theorem aw_good : GoodA [awE] := fun a ha => by
  simp at ha; subst ha
  exact ⟨by decide +kernel, ⟨by decide, by decide, by decide, by decide⟩⟩
theorem zero_bad : [zeroA].all rightA = false := by decide +kernel
theorem aw_len : (bytesA awE).length = 12 := by
  unfold bytesA recB
  rw [frB_len]
  have : (toFra awE.d.toNat (numsA awE) awE.name.data.toList).2 = layV 5 := by
    show [5].flatMap layV ++ [] = layV 5
    simp
  rw [this, layV_lt (by omega)]
  rfl
/-- one file of events alone. -/
structure One (s : Dk) (room : Int) (g : Nat) (x : List UInt8) : Prop where
  ex : ∃ ds k, Ev s room ds [⟨x, k⟩] ∧ findD (ds.getLastD []) (evN g) = some 0 ∧ ds.length ≤ 2 ∧ ∀ g', g' ≠ g → findD (ds.getLastD []) (evN g') = none
theorem One.inv {s : Dk} {room : Int} {g : Nat} {x : List UInt8} (h : One s room g x) : Inv s := by obtain ⟨_, _, h, _⟩ := h.ex; exact h.inv
theorem One.small {s : Dk} {room : Int} {g : Nat} {x : List UInt8} (h : One s room g x) : s.dirs.length ≤ 2 ∧ s.files.length = 1 := by
  obtain ⟨_, _, h, _, h2, _⟩ := h.ex
  rw [h.dirs, h.files]; exact ⟨h2, rfl⟩
theorem One.begin_ {room : Int} (hr : 16 ≤ room ∧ room ≤ 1048576) {g : Nat} (hg : okG g = true) : (evBegin (empty room) g).2 = 0 ∧ One (evBegin (empty room) g).1 room g [] := by
  have h0 := Ev.empty hr
  obtain ⟨e, h⟩ := h0.begin_ hg rfl (by simp)
  refine ⟨e, ⟨_, 0, h, ?_, by simp, fun g' hg' => ?_⟩⟩
  · show findD ([[]] ++ [withD [] (evN g, 0)]).getLast! (evN g) = _
    simp [withD, findD, List.getLast!]
  · have hl : ([[]] ++ [withD (([[]] : List Dir).getLastD []) (evN g, ([] : List Fl).length)] : List Dir).getLastD [] = [(evN g, 0)] := rfl
    rw [hl]
    have := evN_ne (fun e => hg' e.symm)
    simp [findD, this]
theorem One.put {s : Dk} {room : Int} {g : Nat} {x : List UInt8} (h : One s room g x) (hg : okG g = true) {l : List Ax} (hl : GoodA l) (hr : ((x.length + (allB l).length : Nat) : Int) ≤ room) :
    (evAppend s g l).2 = 0 ∧ One (evAppend s g l).1 room g (x ++ allB l) := by
  obtain ⟨ds, k, h1, h2, h3, h4⟩ := h.ex
  obtain ⟨e, h5⟩ := h1.put hg hl h2 rfl (by simpa [sumF] using hr)
  exact ⟨e, ⟨ds, k, h5, h2, h3, h4⟩⟩
theorem One.load {s : Dk} {room : Int} {g : Nat} {x : List UInt8} (h : One s room g x) (hg : okG g = true) : evLoad s g = loadB x := by
  obtain ⟨ds, k, h1, h2, h3, h4⟩ := h.ex
  exact h1.load hg h2 rfl
theorem One.read {s : Dk} {room : Int} {g : Nat} {x : List UInt8} (h : One s room g x) : Disk.read s (evN g) = (x, 0) := by
  obtain ⟨ds, k, h1, h2, h3, h4⟩ := h.ex
  exact h1.read h2 rfl
theorem One.noload {s : Dk} {room : Int} {g : Nat} {x : List UInt8} (h : One s room g x) {g' : Nat} (hg : okG g' = true) (hn : g' ≠ g) : evLoad s g' = ([], [], 5) := by
  obtain ⟨ds, k, h1, h2, h3, h4⟩ := h.ex
  unfold evLoad
  rw [if_pos hg, h1.read_no (h4 _ hn)]
  rfl
theorem One.sync {s : Dk} {room : Int} {g : Nat} {x : List UInt8} (h : One s room g x) (hg : okG g = true) : (evSync s g).2 = 0 ∧ One (evSync s g).1 room g x := by
  obtain ⟨ds, k, h1, h2, h3, h4⟩ := h.ex
  obtain ⟨e, h5⟩ := h1.sync h2 rfl
  unfold evSync
  rw [if_pos hg]
  exact ⟨e, ⟨ds, _, h5, h2, h3, h4⟩⟩
theorem One.cut0 {s : Dk} {room : Int} {g : Nat} {x : List UInt8} (h : One s room g x) : (cut s (evN g) 0).2 = 0 ∧ One (cut s (evN g) 0).1 room g [] := by
  obtain ⟨ds, k, h1, h2, h3, h4⟩ := h.ex
  obtain ⟨e, h5⟩ := h1.cut (k := 0) h2 rfl (by omega)
  exact ⟨e, ⟨ds, _, h5, h2, h3, h4⟩⟩
theorem One.add {s : Dk} {room : Int} {g : Nat} {x : List UInt8} (h : One s room g x) {b : List UInt8} (hr : ((x.length + b.length : Nat) : Int) ≤ room) : (append s (evN g) b).2 = 0 ∧ One (append s (evN g) b).1 room g (x ++ b) := by
  obtain ⟨ds, k, h1, h2, h3, h4⟩ := h.ex
  obtain ⟨e, h5⟩ := h1.append (bs := b) h2 rfl (by simpa [sumF] using hr)
  exact ⟨e, ⟨ds, k, h5, h2, h3, h4⟩⟩
set_option linter.unusedSimpArgs false
set_option linter.unusedVariables false
set_option maxRecDepth 20000
set_option maxHeartbeats 4000000
attribute [local congr] BND_cg COND_cg GEF_cg
attribute [local irreducible] capl slicea load1 loadn iaddr iaddra faddr storev newslice binv lookv mupd mdel mlenv mentry mestore slicev slicev3 slices indexs indexav textv rangev nexts clearv shiftv eqaggv convi buildv pickv lens lenl unv nilchk extractv partn JOIN
section
variable {w : World} {R : Value → World → Prop}
theorem ev_awake (hT : Tab w) (hR : ∀ w', Fr [] w w' → R (.bool true) w') : CALL PR F_tumbrellaw17_awake [] w R := by
  refine C_tumbrellaw17_awake ?_
  unfold M_tumbrellaw17_awake
  have hTF : TabF w [] := fun w' f => hT.fr f
  have g1 : okG 1 = true := by decide
  have g2 : okG 2 = true := by decide
  refine dk_New 200 (fun h => by omega) fun hroom w1 d h1 => ?_
  (repeat (first | refine BND_step ptr_nil ?_ | refine gg ?_))
  obtain ⟨e1, o1⟩ := One.begin_ hroom g1
  refine ev_Begin hTF h1 (inv_empty hroom) (by simp [empty]) 1 (by omega) fun w2 h2 => ?_
  rw [e1]
  generalize (evBegin (empty 200) 1).1 = s1 at h2 o1
  (repeat (first | refine gg ?_ | (apply BND_build (encAx awE); exact rfl)))
  refine newone_step (x := awE) encAx_len rfl fun t3 w3 s3 f3 z3 => ?_
  obtain ⟨e2, o2⟩ := o1.put g1 aw_good (by have := allB_len aw_good; simp at this ⊢; omega)
  refine ev_Append hTF (h2.fr0 f3) o1.inv (by have := o1.small; omega) (by have := o1.small; omega) 1 (by omega) s3.arr (fun a ha => (aw_good a ha).2) (by simp) fun w4 h4 => ?_
  rw [e2]
  generalize (evAppend s1 1 [awE]).1 = s2 at h4 o2
  rw [List.nil_append] at o2
  (repeat (first | refine gg ?_ | (apply BND_build (encAx zeroA); exact rfl)))
  refine newone_step (x := zeroA) encAx_len rfl fun t5 w5 s5 f5 z5 => ?_
  refine ev_Append hTF (h4.fr0 f5) o2.inv (by have := o2.small; omega) (by have := o2.small; omega) 1 (by omega) s5.arr (fun a ha => by simp at ha; subst ha; exact ⟨by decide, by decide, by decide, by decide⟩) (by simp) fun w6 h6 => ?_
  have e3 : evAppend s2 1 [zeroA] = (s2, 1) := by unfold evAppend; rw [if_pos g1, zero_bad]; rfl
  rw [e3] at h6 ⊢
  replace h6 : At w [] (diskHP d s2) w6 := h6
  have hl1 : evLoad s2 1 = ([awE], [12], 0) := by
    rw [o2.load g1, load_all aw_good]
    show ([awE], [0 + (bytesA awE).length], (0 : Int)) = _
    rw [aw_len]
  have hl2 := o2.noload g2 (by omega)
  have dm := o2.small
  refine ev_Load hTF h6 o2.inv (by omega) 1 (by omega) fun w7 v7 ev7 G7 E7 s7 se7 gG7 gE7 f7 => ?_
  rw [hl1] at s7 se7 ⊢
  (repeat refine gg ?_)
  refine ev_Load hTF (h6.fr0 f7) o2.inv (by omega) 2 (by omega) fun w8 v8 ev8 G8 E8 s8 se8 gG8 gE8 f8 => ?_
  rw [hl2]
  have h8 := (h6.fr0 f7).fr0 f8
  have s78 := s7.fr f8 (by simp)
  have hlen : lenl v7 = some (.int .i64 1) := s78.len
  obtain ⟨bp, op, ia, ln, _, _⟩ := s78.arr.spot (i := 0) (x := awE) rfl rfl .i64
  have q1 := eqA awE awE
  rw [decide_eq_true rfl] at q1
  (repeat (first | refine gg ?_ | (apply BND_build (encAx awE); exact rfl)))
  refine newone_step (enc := encO) (x := 12) (y := .int .i64 12) encO_len rfl fun t9 w9 s9 f9 z9 => ?_
  (repeat refine gg ?_)
  refine r5_Ints ((se7.fr f8 (by simp)).fr f9 (by simp)).arr s9.arr (by simp) fun w10 f10 => ?_
  rw [decide_eq_true rfl]
  have h10 := (h8.fr0 f9).fr0 f10
  obtain ⟨e4, o4⟩ := o2.sync g1
  (repeat refine gg ?_)
  refine ev_Sync hTF h10 o2.inv (by omega) 1 (by omega) fun w11 h11 => ?_
  rw [e4]
  generalize (evSync s2 1).1 = s4 at h11 o4
  have dm4 := o4.small
  have e5 : evCut s4 1 99 = (s4, 0) := by
    unfold evCut
    rw [if_pos g1, o4.read]
    simp only [if_true]
    rw [if_pos]
    have : (allB [awE]).length = 12 := by simp [allB, aw_len]
    rw [this]; omega
  (repeat refine gg ?_)
  refine ev_Cut hTF h11 o4.inv (by omega) 1 (by omega) 99 fun w12 h12 => ?_
  rw [e5] at h12 ⊢
  replace h12 : At w [] (diskHP d s4) w12 := h12
  (repeat refine gg ?_)
  refine ev_Begin hTF h12 o4.inv (by omega) 9223372036854775808 (by omega) fun w13 h13 => ?_
  have e6 : evBegin s4 9223372036854775808 = (s4, 1) := by
    unfold evBegin
    rw [if_neg (by decide)]
  rw [e6]
  (repeat refine gg ?_)
  exact hR _ h13.frame
end
end Go.Proofs.YtmefbneoljpbgaaGreatDoor
