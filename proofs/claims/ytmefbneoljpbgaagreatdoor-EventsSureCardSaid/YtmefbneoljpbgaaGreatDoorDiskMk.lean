
/- Helps for walks upon disks. No condition. -/
import Derived.Test.YtmefbneoljpbgaaGreatDoorDiskApp
import Derived.Test.YtmefbneoljpbgaaGreatDoorDiskCrash
import Derived.Test.YtmefbneoljpbgaaGreatDoorGb
namespace Go.Proofs.YtmefbneoljpbgaaGreatDoor
open Go.Den Go.Disk
theorem newB_step (xs : List UInt8) {E n : Nat} {zero : Array Value} {ps : List (Nat × Nat × Value)} {w : World} {k : Value → World → Prop} (hn : n = xs.length) (hp : ps = partsAt 1 (fun x : UInt8 => Value.int .u8 (x.toNat : Int)) 0 xs)
    (h : ∀ t w1, Slc encB 1 w1 t xs [hsz w] → Fr [] w w1 → hsz w1 = hsz w + 1 → k t w1) : BND (newslice E zero 1 n ps w) fun p => NEW p k := newparts_step encB_len (fun _ => rfl) xs hn hp h
theorem At.re2 {w0 w w' : World} {F0 : List Nat} {P : HP} (h : At w0 F0 P w) (f : Fr [] w w') : ∃ A, At w' A P w' ∧ (∀ b ∈ A, b < hsz w) ∧ ∀ w2 P', At w' A P' w2 → At w0 F0 P' w2 := by
  obtain ⟨F, h1, h2, h3⟩ := h
  have f' : Fr F0 w0 w' := h3.trans' f.nil
  have gr := f'.grow
  refine ⟨F, At.start (P.fr h1 f (by simp)), P.lt h1, fun w2 P' ⟨F', p1, p2, p3⟩ => ⟨F', p1, fun b hb => ?_, f'.trans p3 h2⟩⟩
  rcases p2 b hb with hb | hb
  · exact h2 b hb
  · exact .inr (by omega)
theorem mkB (n : Nat) (hn : n ≤ 1000000) (E : Nat) (w : World) {k : Value → World → Prop} (h : ∀ t w1, Slc encB 1 w1 t (List.replicate n 0) [hsz w] → Fr [] w w1 → hsz w1 = hsz w + 1 → k t w1) : BND (mkslice E 1 1 (.int .u8 0) w (.int .i64 (n : Int)) (.int .i64 (n : Int))) fun p => NEW p k := by
  have hc : ((Array.range ((n : Int).toNat * 1)).map fun i => (Value.cells (.int .u8 0))[i % (Value.cells (.int .u8 0)).size]!) = (List.replicate n (Value.int .u8 0)).toArray := by
    apply Array.ext
    · simp
    · intro i h1 h2
      simp [Value.cells, Nat.mod_one]
  have e : mkslice E 1 1 (.int .u8 0) w (.int .i64 (n : Int)) (.int .i64 (n : Int)) = some (.slice (some ⟨hsz w, 0, none⟩) n n, w.alloc (.cells (List.replicate n (Value.int .u8 0)).toArray E)) := by
    show (if 0 ≤ (n : Int) ∧ (n : Int) ≤ (n : Int) ∧ (n : Int) * ((1 : Nat) : Int) ≤ 281474976710656 ∧ (n : Int) ≤ 9223372036854775807 then
      some (Value.slice (some ⟨w.heap.size, 0, none⟩) (n : Int).toNat (n : Int).toNat, w.alloc (.cells ((Array.range ((n : Int).toNat * 1)).map fun i => (Value.cells (.int .u8 0))[i % (Value.cells (.int .u8 0)).size]!) E)) else none) = _
    rw [if_pos (by omega), hc]; rfl
  refine BND_step e <| (NEW_pair _ _ _).2 ?_
  refine h _ _ (.inr ⟨hsz w, n, _, E, by simp, blk_alloc_new _ _, by simp, by simp, rfl, fun i x hx j hj => ?_⟩) (Fr.alloc _ _ _) (by simp)
  obtain rfl : j = 0 := by omega
  have hi := (List.getElem?_eq_some_iff.1 hx).1
  have hi' : i < n := by simpa using hi
  rw [List.getElem?_replicate, if_pos hi'] at hx
  cases hx
  rw [List.getElem?_toArray, Nat.mul_one, Nat.add_zero, List.getElem?_replicate, if_pos hi']
  rfl
theorem loadn_all {w : World} {b n : Nat} {c : List Value} {T : Nat} {f : Nat × Nat} (h : blk w b = some (.cells c.toArray T f)) (hn : c.length = n) : loadn n w (.pointer (some ⟨b, 0, none⟩)) = some (.agg c.toArray) := by
  subst hn
  rw [loadn_blk h (by simp)]
  simp
theorem At.re3 {w0 w w' : World} {F0 : List Nat} {P : HP} (h : At w0 F0 P w) (f : Fr [] w w') : ∃ A, At w' A P w' ∧ (∀ b ∈ A, b < hsz w) ∧ (∀ b ∈ A, b ∈ F0 ∨ hsz w0 ≤ b) ∧ ∀ w2 P', At w' A P' w2 → At w0 F0 P' w2 := by
  obtain ⟨F, h1, h2, h3⟩ := h
  have f' : Fr F0 w0 w' := h3.trans' f.nil
  have gr := f'.grow
  refine ⟨F, At.start (P.fr h1 f (by simp)), P.lt h1, h2, fun w2 P' ⟨F', p1, p2, p3⟩ => ⟨F', p1, fun b hb => ?_, f'.trans p3 h2⟩⟩
  rcases p2 b hb with hb | hb
  · exact h2 b hb
  · exact .inr (by omega)
theorem ptr_nil {d : Nat} : binv .ptr .eql (ptrTo d) (.pointer none) = some (.bool false) := rfl
theorem At.zoom3 {w0 w w' : World} {F0 : List Nat} {ps : List HP} (h : At w0 F0 (stars ps) w) (f : Fr [] w w') (i : Nat) {P : HP} (hi : ps[i]? = some P) :
    ∃ A, At w' A P w' ∧ (∀ b ∈ A, b < hsz w) ∧ (∀ b ∈ A, b ∈ F0 ∨ hsz w0 ≤ b) ∧ ∀ w2 P', At w' A P' w2 → At w0 F0 (stars (ps.set i P')) w2 := by
  obtain ⟨F, h1, h2, h3⟩ := h
  have hlt := (stars ps).lt h1
  have h1' := (stars ps).fr h1 f (by simp)
  have h3' : Fr F0 w0 w' := h3.trans' f.nil
  obtain ⟨A, h4, h5, h6⟩ := stars_upd ps i P hi h1'
  have gr := h3'.grow
  refine ⟨A, At.start h4, fun b hb => hlt b (h5 b hb), fun b hb => h2 b (h5 b hb), fun w2 P' ⟨F', p1, p2, p3⟩ => ?_⟩
  obtain ⟨F2, h7, h8⟩ := h6 w2 F' P' p1 p3 p2
  refine ⟨F2, h7, fun b hb => ?_, h3'.trans p3 fun b hb => h2 b (h5 b hb)⟩
  rcases h8 b hb with hx | hx
  · exact h2 b hx
  · exact .inr (by omega)
set_option linter.unusedSimpArgs false
set_option linter.unusedVariables false
set_option maxRecDepth 20000
set_option maxHeartbeats 4000000
attribute [local congr] BND_cg COND_cg GEF_cg
attribute [local irreducible] capl slicea load1 loadn iaddr iaddra faddr storev newslice binv lookv mupd mdel mlenv mentry mestore slicev slicev3 slices indexs indexav textv rangev nexts clearv shiftv eqaggv convi buildv pickv lens lenl unv nilchk extractv partn JOIN
section
variable {w0 w w' : World} {F0 : List Nat} {d : Nat} {s : Dk} {R : Value → World → Prop}
theorem app_step (h : At w0 F0 (diskHP d s) w) (f : Fr [] w w') (hw : s.Wf) (hn : s.dirs.length < 1000000000) (hn2 : s.files.length < 1000000000) (n : ByteArray) {u : Value} {bs : List UInt8} {G : List Nat} (su : Slc encB 1 w' u bs G) (hG : ∀ b ∈ G, hsz w ≤ b) (hbs : bs.length < 1000000000)
    (hR : ∀ w2, At w0 F0 (diskHP d (append s n bs).1) w2 → R (.int .i64 (append s n bs).2) w2) : CALL PR F_disk_Disk_Append [ptrTo d, .string n, u] w' R := by
  obtain ⟨A, ha, hA, back⟩ := At.re2 h f
  exact dk_Append ha hw hn hn2 n hbs su.len (fun w2 f2 => (su.fr f2 fun b hb hb' => by have := hG b hb; have := hA b hb'; omega).loads encB_len) fun w2 h2 => hR w2 (back w2 _ h2)
end
end Go.Proofs.YtmefbneoljpbgaaGreatDoor
