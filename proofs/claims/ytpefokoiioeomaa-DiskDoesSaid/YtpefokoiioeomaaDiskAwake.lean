/- The disk's calls whose answers are fixed. No condition. -/
import Derived.Test.YtpefokoiioeomaaDiskSame
import Derived.Test.YtpefokoiioeomaaMa
namespace Go.Proofs.Ytpefokoiioeomaa
open Go.Den Go.Disk
namespace Aw
abbrev na : ByteArray := ⟨#[97]⟩
abbrev nb : ByteArray := ⟨#[98]⟩
def S0 : Dk := empty 16
def S1 : Dk := ⟨16, [⟨[], 0⟩], [[], [(na, 0)]], -1, false⟩
def S2 : Dk := ⟨16, [⟨[], 0⟩], [[(na, 0)]], -1, false⟩
def S3 : Dk := ⟨16, [⟨[], 0⟩, ⟨[], 0⟩], [[(na, 0)], [(na, 0), (nb, 1)]], -1, false⟩
def S4 : Dk := ⟨16, [⟨[1, 2, 3], 0⟩, ⟨[], 0⟩], [[(na, 0)], [(na, 0), (nb, 1)]], -1, false⟩
def S5 : Dk := ⟨16, [⟨[1, 2, 3], 3⟩, ⟨[], 0⟩], [[(na, 0)], [(na, 0), (nb, 1)]], -1, false⟩
def S6 : Dk := ⟨16, [⟨[1, 2, 3, 4, 5], 3⟩, ⟨[], 0⟩], [[(na, 0)], [(na, 0), (nb, 1)]], -1, false⟩
def S7 : Dk := ⟨16, [⟨[1, 2, 3, 4], 4⟩, ⟨[], 0⟩], [[(na, 0)]], -1, false⟩
theorem ab : na ≠ nb := by intro h; have := congrArg (fun x : ByteArray => x.data) h; simp at this
theorem lab : bl na nb = true := by unfold bl; rw [ByteArray.toList_eq, ByteArray.toList_eq]; decide
theorem e1 : create S0 na = (S1, 0) := by rfl
theorem e2 : dirsync S1 = (S2, 0) := by rfl
theorem fab : findD [(na, 0)] nb = none := by simp only [findD, if_neg ab]
theorem faa : findD [(na, 0), (nb, 1)] na = some 0 := by simp only [findD, if_true]
theorem fbb : findD [(na, 0), (nb, 1)] nb = some 1 := by simp only [findD, if_neg ab, if_true]
theorem fa1 : findD [(na, 0)] na = some 0 := by simp only [findD, if_true]
theorem e3 : create S2 nb = (S3, 0) := by
  have hf : S2.find nb = none := fab
  have he : createE S2 nb = 0 := by unfold createE; rw [hf]; rfl
  have hd : withD [(na, 0)] (nb, 1) = [(na, 0), (nb, 1)] := by simp only [withD, lab, if_true]
  unfold create
  rw [he]
  show (_, _) = _
  have : withD S2.now (nb, S2.files.length) = [(na, 0), (nb, 1)] := hd
  rw [this]; rfl
theorem e4 : append S3 na [1, 2, 3] = (S4, 0) := by
  have hf : S3.find na = some 0 := faa
  have he : appendE S3 na 3 = 0 := by unfold appendE; rw [hf]; rfl
  unfold append
  rw [hf]
  show (if (can S3 (appendE S3 na 3)).2 = 0 then _ else _) = _
  rw [he]; rfl
theorem e5 : sync S4 na = (S5, 0) := by
  have hf : S4.find na = some 0 := faa
  have he : there S4 na = 0 := by unfold there; rw [hf]; rfl
  unfold sync
  rw [hf, he]; rfl
theorem e6 : append S5 na [4, 5] = (S6, 0) := by
  have hf : S5.find na = some 0 := faa
  have he : appendE S5 na 2 = 0 := by unfold appendE; rw [hf]; rfl
  unfold append
  rw [hf]
  show (if (can S5 (appendE S5 na 2)).2 = 0 then _ else _) = _
  rw [he]; rfl
theorem e7 (bs : List UInt8) (h : bs.length = 12) : append S6 nb bs = (S6, 4) := by
  have hf : S6.find nb = some 1 := fbb
  have he : appendE S6 nb bs.length = 4 := by rw [h]; unfold appendE; rw [hf]; rfl
  unfold append
  rw [hf, he]; rfl
theorem e8 : crash S6 0 [1] = S7 := by rfl
theorem e9 : Disk.read S7 na = ([1, 2, 3, 4], 0) := by
  have hf : S7.find na = some 0 := fa1
  unfold Disk.read; rw [hf]; rfl
theorem e10 : Disk.read S7 nb = ([], 5) := by
  have hf : S7.find nb = none := fab
  unfold Disk.read; rw [hf]; rfl
theorem e11 : held S7 = 4 := by rfl
end Aw
open Aw
theorem newB_step (xs : List UInt8) {E n : Nat} {zero : Array Value} {ps : List (Nat × Nat × Value)} {w : World} {k : Value → World → Prop} (hn : n = xs.length) (hp : ps = partsAt 1 (fun x : UInt8 => Value.int .u8 (x.toNat : Int)) 0 xs)
    (h : ∀ t w1, Slc encB 1 w1 t xs [hsz w] → Fr [] w w1 → hsz w1 = hsz w + 1 → k t w1) : BND (newslice E zero 1 n ps w) fun p => NEW p k := newparts_step encB_len (fun _ => rfl) xs hn hp h
theorem At.re2 {w0 w w' : World} {F0 : List Nat} {P : HP} (h : At w0 F0 P w) (f : Fr [] w w') : ∃ A, At w' A P w' ∧ (∀ b ∈ A, b < hsz w) ∧ ∀ w2 P', At w' A P' w2 → At w0 F0 P' w2 := by
  obtain ⟨F, h1, h2, h3⟩ := h
  have f' : Fr F0 w0 w' := h3.trans' f.nil
  have gr := f'.grow
  refine ⟨F, At.start (P.fr h1 f (by simp)), P.lt h1, fun w2 P' ⟨F', p1, p2, p3⟩ => ⟨F', p1, fun b hb => ?_, f'.trans p3 h2⟩⟩
  rcases p2 b hb with hb | hb
  · exact h2 b hb
  · exact .inr (by omega)
theorem mkB (n : Nat) (hn : n ≤ 1000000) (E : Nat) (w : World) {k : Value → World → Prop} (h : ∀ t w1, Slc encB 1 w1 t (List.replicate n 0) [hsz w] → Fr [] w w1 → hsz w1 = hsz w + 1 → k t w1) : BND (mkslice E 1 1 (.int .u8 0) w (.int .i64 (n : Int)) (.int .i64 (n : Int))) fun p => NEW p k := by
  have hc : ((Array.range ((n : Int).toNat * 1)).map fun i => (Value.cells (.int .u8 0))[i % (Value.cells (.int .u8 0)).size]!) = (List.replicate n (Value.int .u8 0)).toArray := by
    apply Array.ext
    · simp
    · intro i h1 h2
      simp [Value.cells, Nat.mod_one]
  have e : mkslice E 1 1 (.int .u8 0) w (.int .i64 (n : Int)) (.int .i64 (n : Int)) = some (.slice (some ⟨hsz w, 0, none⟩) n n, w.alloc (.cells (List.replicate n (Value.int .u8 0)).toArray E)) := by
    show (if 0 ≤ (n : Int) ∧ (n : Int) ≤ (n : Int) ∧ (n : Int) * ((1 : Nat) : Int) ≤ 281474976710656 ∧ (n : Int) ≤ 9223372036854775807 then
      some (Value.slice (some ⟨w.heap.size, 0, none⟩) (n : Int).toNat (n : Int).toNat, w.alloc (.cells ((Array.range ((n : Int).toNat * 1)).map fun i => (Value.cells (.int .u8 0))[i % (Value.cells (.int .u8 0)).size]!) E)) else none) = _
    rw [if_pos (by omega), hc]; rfl
  refine BND_step e <| (NEW_pair _ _ _).2 ?_
  refine h _ _ (.inr ⟨hsz w, n, _, E, by simp, blk_alloc_new _ _, by simp, by simp, rfl, fun i x hx j hj => ?_⟩) (Fr.alloc _ _ _) (by simp)
  obtain rfl : j = 0 := by omega
  have hi := (List.getElem?_eq_some_iff.1 hx).1
  have hi' : i < n := by simpa using hi
  rw [List.getElem?_replicate, if_pos hi'] at hx
  cases hx
  rw [List.getElem?_toArray, Nat.mul_one, Nat.add_zero, List.getElem?_replicate, if_pos hi']
  rfl
set_option linter.unusedSimpArgs false
set_option linter.unusedVariables false
set_option maxRecDepth 20000
set_option maxHeartbeats 4000000
attribute [local congr] BND_cg COND_cg GEF_cg
attribute [local irreducible] load1 loadn iaddr iaddra faddr storev newslice binv lookv mupd mdel mlenv mentry mestore slicev slicev3 slices indexs indexav textv rangev nexts clearv shiftv eqaggv convi buildv pickv lens lenl unv nilchk extractv partn JOIN
section
variable {w0 w w' : World} {F0 : List Nat} {d : Nat} {s : Dk} {R : Value → World → Prop}
theorem app_step (h : At w0 F0 (diskHP d s) w) (f : Fr [] w w') (hw : s.Wf) (hn : s.dirs.length < 1000000000) (hn2 : s.files.length < 1000000000) (n : ByteArray) {u : Value} {bs : List UInt8} {G : List Nat} (su : Slc encB 1 w' u bs G) (hG : ∀ b ∈ G, hsz w ≤ b) (hbs : bs.length < 1000000000)
    (hR : ∀ w2, At w0 F0 (diskHP d (append s n bs).1) w2 → R (.int .i64 (append s n bs).2) w2) : CALL PR F_disk_Disk_Append [ptrTo d, .string n, u] w' R := by
  obtain ⟨A, ha, hA, back⟩ := At.re2 h f
  exact dk_Append ha hw hn hn2 n hbs su.len (fun w2 f2 => (su.fr f2 fun b hb hb' => by have := hG b hb; have := hA b hb'; omega).loads encB_len) fun w2 h2 => hR w2 (back w2 _ h2)
theorem dk_awake (hR : ∀ w', Fr [] w w' → R (.bool true) w') : CALL PR F_tumbrellaw06_awake [] w R := by
  refine C_tumbrellaw06_awake ?_
  unfold M_tumbrellaw06_awake
  have W0 : S0.Wf := wf_empty (by omega)
  have W1 : S1.Wf := by have := wf_create W0 na; rwa [e1] at this
  have W2 : S2.Wf := by have := wf_dirsync W1; rwa [e2] at this
  have W3 : S3.Wf := by have := wf_create W2 nb; rwa [e3] at this
  have W4 : S4.Wf := by have := wf_append W3 na [1, 2, 3]; rwa [e4] at this
  have W5 : S5.Wf := by have := wf_sync W4 na; rwa [e5] at this
  have W6 : S6.Wf := by have := wf_append W5 na [4, 5]; rwa [e6] at this
  have W7 : S7.Wf := by have := wf_crash W6 0 [1]; rwa [e8] at this
  refine dk_New 16 (fun h => by omega) fun _ w1 d h1 => ?_
  replace h1 : At w [] (diskHP d S0) w1 := h1
  have hq : binv .ptr .eql (ptrTo d) (.pointer none) = some (.bool false) := by unfold ptrTo; exact (inferInstance : Ev (binv .ptr .eql (.pointer (some ⟨d, 0, none⟩)) (.pointer none)) (.bool false)).h
  (repeat (first | refine BND_step hq ?_ | refine stp ?_ | (apply BND_inc; omega) | (apply BND_dec; omega) | refine BND_step (rfl : some _ = some _) ?_ | (apply cyes; first | assumption | omega) | (apply cno; first | assumption | omega) | refine (COND_true _ _).2 ?_ | refine (COND_false _ _).2 ?_ | simp (disch := first | assumption | omega) only [gs1, gs2, decide_true, decide_false, eq_self, beq_self_eq_true, Bool.not_true, Bool.not_false]))
  refine dk_Create h1 W0 (by decide) na fun w2 h2 => ?_
  rw [e1] at h2
  refine dk_DirSync h2 W1 (by decide) fun w3 h3 => ?_
  rw [e2] at h3
  refine dk_Create h3 W2 (by decide) nb fun w4 h4 => ?_
  rw [e3] at h4
  refine newB_step [1, 2, 3] rfl rfl fun t5 w5 s5 f5 z5 => ?_
  refine app_step h4 f5 W3 (by decide) (by decide) na s5 (by simp) (by decide) fun w6 h6 => ?_
  rw [e4] at h6
  refine dk_Sync h6 W4 (by decide) na fun w7 h7 => ?_
  rw [e5] at h7
  refine newB_step [4, 5] rfl rfl fun t8 w8 s8 f8 z8 => ?_
  refine app_step h7 f8 W5 (by decide) (by decide) na s8 (by simp) (by decide) fun w9 h9 => ?_
  rw [e6] at h9 ⊢
  refine mkB 12 (by omega) _ _ fun t10 w10 s10 f10 z10 => ?_
  refine app_step h9 f10 W6 (by decide) (by decide) nb s10 (by simp) (by decide) fun w11 h11 => ?_
  rw [e7 _ rfl] at h11 ⊢
  refine newone_step (enc := encI) (x := 1) (fun _ => rfl) rfl fun t12 w12 s12 f12 z12 => ?_
  obtain ⟨A, ha, hA, back⟩ := At.re2 h11 f12
  refine dk_Crash ha W6 (by decide) 0 (tails := [1]) (fun w' f => (s12.fr f (fun b hb hb' => by
    have := hA b hb'
    simp at hb; omega)).arr) fun w13 h13 => ?_
  replace h13 := back w13 _ h13
  rw [e8] at h13
  refine dk_Read h13 W7 (by decide) na fun w14 v14 G14 h14 s14 g14 f14 => ?_
  rw [e9] at s14 ⊢
  (repeat (first | refine stp ?_ | (apply BND_inc; omega) | (apply BND_dec; omega) | refine BND_step (rfl : some _ = some _) ?_ | (apply cyes; first | assumption | omega) | (apply cno; first | assumption | omega) | refine (COND_true _ _).2 ?_ | refine (COND_false _ _).2 ?_ | simp (disch := first | assumption | omega) only [gs1, gs2, decide_true, decide_false, eq_self, beq_self_eq_true, Bool.not_true, Bool.not_false]))
  refine dk_Read h14 W7 (by decide) nb fun w15 v15 G15 h15 s15 g15 f15 => ?_
  rw [e10] at s15 ⊢
  (repeat (first | refine stp ?_ | (apply BND_inc; omega) | (apply BND_dec; omega) | refine BND_step (rfl : some _ = some _) ?_ | (apply cyes; first | assumption | omega) | (apply cno; first | assumption | omega) | refine (COND_true _ _).2 ?_ | refine (COND_false _ _).2 ?_ | simp (disch := first | assumption | omega) only [gs1, gs2, decide_true, decide_false, eq_self, beq_self_eq_true, Bool.not_true, Bool.not_false]))
  refine newB_step [1, 2, 3, 4] rfl rfl fun t16 w16 s16 f16 z16 => ?_
  (repeat (first | refine stp ?_ | (apply BND_inc; omega) | (apply BND_dec; omega) | refine BND_step (rfl : some _ = some _) ?_ | (apply cyes; first | assumption | omega) | (apply cno; first | assumption | omega) | refine (COND_true _ _).2 ?_ | refine (COND_false _ _).2 ?_ | simp (disch := first | assumption | omega) only [gs1, gs2, decide_true, decide_false, eq_self, beq_self_eq_true, Bool.not_true, Bool.not_false]))
  refine r1_Same ((s14.fr f15 (by simp)).fr f16 (by simp)).arr s16.arr (by decide) fun w17 f17 => ?_
  rw [decide_eq_true rfl]
  (repeat (first | refine stp ?_ | (apply BND_inc; omega) | (apply BND_dec; omega) | refine BND_step (rfl : some _ = some _) ?_ | (apply cyes; first | assumption | omega) | (apply cno; first | assumption | omega) | refine (COND_true _ _).2 ?_ | refine (COND_false _ _).2 ?_ | simp (disch := first | assumption | omega) only [gs1, gs2, decide_true, decide_false, eq_self, beq_self_eq_true, Bool.not_true, Bool.not_false]))
  have h17 := (h15.fr0 f16).fr0 f17
  refine dk_Names h17 W7 (by decide) fun w18 v18 G18 h18 s18 g18 f18 => ?_
  (repeat (first | refine stp ?_ | (apply BND_inc; omega) | (apply BND_dec; omega) | refine BND_step (rfl : some _ = some _) ?_ | (apply cyes; first | assumption | omega) | (apply cno; first | assumption | omega) | refine (COND_true _ _).2 ?_ | refine (COND_false _ _).2 ?_ | simp (disch := first | assumption | omega) only [gs1, gs2, decide_true, decide_false, eq_self, beq_self_eq_true, Bool.not_true, Bool.not_false]))
  refine newone_step (enc := encN) (x := na) encN_len rfl fun t19 w19 s19 f19 z19 => ?_
  (repeat (first | refine stp ?_ | (apply BND_inc; omega) | (apply BND_dec; omega) | refine BND_step (rfl : some _ = some _) ?_ | (apply cyes; first | assumption | omega) | (apply cno; first | assumption | omega) | refine (COND_true _ _).2 ?_ | refine (COND_false _ _).2 ?_ | simp (disch := first | assumption | omega) only [gs1, gs2, decide_true, decide_false, eq_self, beq_self_eq_true, Bool.not_true, Bool.not_false]))
  refine r6_Same (ys := [na]) (s18.fr f19 (by simp)).arr s19.arr (by decide) fun w20 f20 => ?_
  rw [decide_eq_true (show S7.now.map (·.1) = [na] from rfl)]
  (repeat (first | refine stp ?_ | (apply BND_inc; omega) | (apply BND_dec; omega) | refine BND_step (rfl : some _ = some _) ?_ | (apply cyes; first | assumption | omega) | (apply cno; first | assumption | omega) | refine (COND_true _ _).2 ?_ | refine (COND_false _ _).2 ?_ | simp (disch := first | assumption | omega) only [gs1, gs2, decide_true, decide_false, eq_self, beq_self_eq_true, Bool.not_true, Bool.not_false]))
  have h20 := (h18.fr0 f19).fr0 f20
  refine dk_Held h20 W7 (by decide) (by decide) fun w21 f21 => ?_
  rw [e11]
  have h21 := h20.fr0 f21
  (repeat (first | refine stp ?_ | (apply BND_inc; omega) | (apply BND_dec; omega) | refine BND_step (rfl : some _ = some _) ?_ | (apply cyes; first | assumption | omega) | (apply cno; first | assumption | omega) | refine (COND_true _ _).2 ?_ | refine (COND_false _ _).2 ?_ | simp (disch := first | assumption | omega) only [gs1, gs2, decide_true, decide_false, eq_self, beq_self_eq_true, Bool.not_true, Bool.not_false]))
  refine dk_Down h21 ?_
  (repeat (first | refine stp ?_ | (apply BND_inc; omega) | (apply BND_dec; omega) | refine BND_step (rfl : some _ = some _) ?_ | (apply cyes; first | assumption | omega) | (apply cno; first | assumption | omega) | refine (COND_true _ _).2 ?_ | refine (COND_false _ _).2 ?_ | simp (disch := first | assumption | omega) only [gs1, gs2, decide_true, decide_false, eq_self, beq_self_eq_true, Bool.not_true, Bool.not_false]))
  exact hR _ h21.frame
end
end Go.Proofs.Ytpefokoiioeomaa
