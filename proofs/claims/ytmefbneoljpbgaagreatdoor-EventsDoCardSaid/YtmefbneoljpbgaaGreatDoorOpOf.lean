
/- A record's act, walked. Conditions: numbers are of 64 bits; a slice's length is within its capacity. -/
import Derived.Test.YtmefbneoljpbgaaGreatDoorOp
import Derived.Test.YtmefbneoljpbgaaGreatDoorArrs
import Derived.Test.YtmefbneoljpbgaaGreatDoorMa
namespace Go.Proofs.YtmefbneoljpbgaaGreatDoor
open Go.Den Go.Disk Go.Vint Go.Crc Go.Frame Go.Rec Go.Ev
def ofR (k : Int) (ns : List Nat) (t : ByteArray) : Ax × Int := if rightB k ns.length t.size = true then ofA ⟨k.toNat, ns, t.data.toList⟩ else (zeroA, 2)
def takeV (rb : Nat) : Value := .func (.func F_op_Of_1) #[] #[.pointer (some ⟨rb, 0, none⟩)]
def smallV (tb : Nat) : Value := .func (.func F_op_Of_2) #[] #[.pointer (some ⟨tb, 0, none⟩)]
/-- what is left of the numbers, and the function that takes one. -/
structure RestAt (w0 w : World) (rb tb : Nat) (ns : List Nat) : Prop where
  rest : ∃ (x : SV) (T : TypeId), blk w rb = some (.cells [x.v].toArray T (0, 0)) ∧ ArrC encU 1 w0 x.v ns
  take : ∃ T : TypeId, blk w tb = some (.cells [takeV rb].toArray T (0, 0))
  fr : Fr [] w0 w
  new : hsz w0 ≤ rb
  ne : tb ≠ rb
theorem RestAt.st {w0 w w' : World} {rb tb b : Nat} {ns : List Nat} (h : RestAt w0 w rb tb ns) (f : Fr [b] w w') (hb : b ≠ rb ∧ b ≠ tb) (h0 : hsz w0 ≤ b) : RestAt w0 w' rb tb ns := by
  obtain ⟨⟨x, T, h1, h2⟩, ⟨T', h3⟩, h4, h5, h6⟩ := h
  exact ⟨⟨x, T, f.some (by simp; omega) h1, h2⟩, ⟨T', f.some (by simp; omega) h3⟩, h4.trans f fun c hc => .inr (by simp at hc; omega), h5, h6⟩
theorem RestAt.drew {w0 w : World} {rb tb : Nat} {ns : List Nat} (h : RestAt w0 w rb tb ns) : RestAt w0 w.drew rb tb ns := by
  obtain ⟨⟨x, T, h1, h2⟩, ⟨T', h3⟩, h4, h5, h6⟩ := h
  exact ⟨⟨x, T, h1, h2⟩, ⟨T', h3⟩, h4.trans' (Fr.drew _ _), h5, h6⟩
theorem RestAt.ld {w0 w : World} {rb tb : Nat} {ns : List Nat} (h : RestAt w0 w rb tb ns) : load1 w (.pointer (some ⟨tb, 0, none⟩)) = some (takeV rb) := by
  obtain ⟨T, b⟩ := h.take
  exact load1_at b rfl
theorem five {α : Type} : ∀ {l : List α}, l.length = 5 → ∃ a b c d e, l = [a, b, c, d, e]
  | [a, b, c, d, e], _ => ⟨a, b, c, d, e, rfl⟩
theorem two {α : Type} : ∀ {l : List α}, l.length = 2 → ∃ a b, l = [a, b]
  | [a, b], _ => ⟨a, b, rfl⟩
theorem one {α : Type} : ∀ {l : List α}, l.length = 1 → ∃ a, l = [a]
  | [a], _ => ⟨a, rfl⟩
theorem sml_v (n : Nat) : min2v (.int .u64 (n : Int)) (.int .u64 1048576) = some (.int .u64 (sml n)) := by
  show some (Value.int .u64 (if (1048576 : Int) < (n : Int) then 1048576 else (n : Int))) = _
  unfold sml
  congr 2
  split <;> omega
theorem sml_c (n : Nat) : convi .i64 (.int .u64 (sml n)) = some (.int .i64 (sml n)) := by
  unfold sml
  exact convi64 (by omega)
theorem sml_less (n : Nat) : binv .int .sub (.int .i64 (sml n)) (.int .i64 1) = some (.int .i64 (sml n - 1)) := by
  unfold sml
  rw [binv_sub, wrap_i64 (by omega) (by omega)]
theorem okTake : okCallee PR F_op_Of_1 = true := by kernel_rfl
theorem okSmall : okCallee PR F_op_Of_2 = true := by kernel_rfl
set_option linter.unusedSimpArgs false
set_option linter.unusedVariables false
set_option maxRecDepth 20000
set_option maxHeartbeats 4000000
attribute [local congr] BND_cg COND_cg GEF_cg
attribute [local irreducible] capl slicea load1 loadn iaddr iaddra faddr storev newslice binv lookv mupd mdel mlenv mentry mestore slicev slicev3 slices indexs indexav textv rangev nexts clearv shiftv eqaggv convi buildv pickv lens lenl unv nilchk extractv partn JOIN
section
variable {w0 w : World} {R : Value → World → Prop} {rb tb : Nat} {n : Nat} {ns : List Nat}
theorem op_take (h : RestAt w0 w rb tb (n :: ns)) (hR : ∀ w', RestAt w0 w' rb tb ns → Fr [rb] w w' → hsz w' = hsz w → R (.int .u64 (n : Int)) w') : CALLV PR (takeV rb) [] w R := by
  refine (CALLV_func okTake).2 ?_
  refine C_op_Of_1 ?_
  unfold M_op_Of_1
  obtain ⟨⟨x, T, b1, ar⟩, ⟨T', b2⟩, f0, hn, hne⟩ := h
  obtain ⟨b, o, ia, _, hb, ld⟩ := ar.arr.spot (i := 0) (x := n) rfl rfl .i64
  obtain ⟨v', hv, ar'⟩ := ar.from (lo := 1) (by simp)
  obtain ⟨x', rfl⟩ := ar'.arr.sv
  have ld0 := ld (w' := w) (f0.keep b hb (by simp)) (j := 0) rfl
  (repeat refine gg ?_)
  refine fstore_step (j := 0) (u := x'.v) b1 (sv_one x') (by simp) fun w' b' f' z' => ?_
  refine hR _ ⟨⟨x', T, b', ar'⟩, ⟨T', f'.some (by simp; omega) b2⟩, f0.trans f' fun c hc => .inr (by simp at hc; omega), hn, hne⟩ f' z'
theorem op_small (h : RestAt w0 w rb tb (n :: ns)) (hR : ∀ w', RestAt w0 w' rb tb ns → Fr [rb] w w' → hsz w' = hsz w → R (.int .i64 (sml n)) w') : CALLV PR (smallV tb) [] w R := by
  refine (CALLV_func okSmall).2 ?_
  refine C_op_Of_2 ?_
  unfold M_op_Of_2
  obtain ⟨T', b2⟩ := h.take
  (repeat refine gg ?_)
  refine op_take h fun w' h' f' z' => ?_
  (repeat (first | refine BND_step (sml_v n) ?_ | refine BND_step (sml_c n) ?_ | refine gg ?_))
  exact hR _ h' f' z'
end
section
variable {w : World} {R : Value → World → Prop}
theorem op_Of {nv : SV} {ns : List Nat} (k : Int) (t : ByteArray) (hn : ArrC encU 1 w nv.v ns) (hR : ∀ w', Fr [] w w' → R (.tuple #[.agg (encAx (ofR k ns t).1).toArray, .int .i64 (ofR k ns t).2]) w') : CALL PR F_op_Of [.agg (encRc (k, nv, t)).toArray] w R := by
  refine C_op_Of ?_
  unfold M_op_Of
  refine NEW_intro fun w1 b1 f1 z1 => ?_
  replace b1 : blk w1 (hsz w) = some (.cells (encRc (k, nv, t)).toArray 86 (0, 0)) := b1
  refine NEW_intro fun w2 b2 f2 z2 => ?_
  replace b2 : blk w2 (hsz w1) = some (.cells (encAx zeroA).toArray 68 (0, 0)) := b2
  have b12 := f2.some (by simp) b1
  (repeat (first | refine BND_step (loadn_all' b12 rfl) ?_ | refine gg ?_))
  refine rec_Right k t ((hn.fr (f1.trans' f2) (by simp)).arr) fun w3 f3 => ?_
  have b13 := f3.some (by simp) b12
  have b23 := f3.some (by simp) b2
  have f03 := (f1.trans' f2).trans' f3
  have g3 := f3.grow
  unfold ofR at hR
  cases hr : rightB k ns.length t.size with
  | false =>
    rw [hr] at hR
    (repeat (first | refine gg ?_ | (apply BND_build (encAx zeroA); exact rfl)))
    refine ret_step (R := fun r w8 => R (.tuple #[r, .int .i64 2]) w8) b23 rfl rfl (encAx_one _) (by simp [encAx]) fun w4 f4 z4 => ?_
    exact hR w4 (f03.trans f4 fun b hb => .inr (by simp at hb; omega))
  | true =>
    rw [hr] at hR
    simp only [if_true] at hR
    obtain ⟨k1, k17, hlen, hfit⟩ := right_known hr
    have ek : ((k.toNat : Nat) : Int) = k := by omega
    (repeat refine gg ?_)
    refine NEW_intro fun w4 b4 f4 z4 => ?_
    replace b4 : blk w4 (hsz w3) = some (.cells [.slice none 0 0].toArray 84 (0, 0)) := b4
    refine fstore_step (j := 0) (u := nv.v) b4 (sv_one nv) (by simp) fun w5 b5 f5 z5 => ?_
    replace b5 : blk w5 (hsz w3) = some (.cells [nv.v].toArray 84 (0, 0)) := b5
    refine NEW_intro fun w6 b6 f6 z6 => ?_
    have b56 := f6.some (by simp) b5
    refine fstore_step (j := 0) (fs := [.nilFunc]) (u := takeV (hsz w3)) b6 ⟨rfl, rfl⟩ (by simp) fun w7 b7 f7 z7 => ?_
    have b57 := f7.some (by simp; omega) b56
    have f37 : Fr [] w3 w7 := ((f4.trans f5 fun b hb => .inr (by simp at hb; omega)).trans' f6).trans f7 fun b hb => .inr (by simp at hb; omega)
    have b17 := f37.some (by simp) b13
    have b27 := f37.some (by simp) b23
    have hr7 : RestAt w w7 (hsz w3) (hsz w5) ns := ⟨⟨nv, _, b57, hn⟩, ⟨_, b7⟩, f03.trans' f37, f03.grow, by omega⟩
    (repeat (first | refine gg ?_ | (apply BND_build (encAx { zeroA with d := k, name := t }); exact rfl)))
    refine box_step (n := 8) (zs := encAx zeroA) (vs := encAx { zeroA with d := k, name := t }) rfl rfl (encAx_one _) (by simp [encAx]) fun w8 b8 f8 z8 => ?_
    have hr8 : RestAt w w8 (hsz w3) (hsz w5) ns := by
      obtain ⟨⟨x, T, h1, h2⟩, ⟨T', h3⟩, h4, h5, h6⟩ := hr7
      exact ⟨⟨x, T, f8.some (by simp) h1, h2⟩, ⟨T', f8.some (by simp) h3⟩, h4.trans' f8, h5, h6⟩
    have b18 := f8.some (by simp) b17
    have b28 := f8.some (by simp) b27
    have f08 := (f03.trans' f37).trans' f8
    have g37 := f37.grow
    have g03 := f03.grow
    obtain ⟨P, hP⟩ : ∃ P, P = preA ⟨k.toNat, ns, t.data.toList⟩ := ⟨_, rfl⟩
    obtain ⟨Q, hQ⟩ : ∃ Q : World → Prop, Q = fun w' => blk w' (hsz w7) = some (.cells (encAx P).toArray 68 (0, 0)) ∧ Fr [hsz w7, hsz w3] w8 w' := ⟨_, rfl⟩
    (repeat refine gg ?_)
    refine join_w Q (fun K hK => ?_) (fun w9 hq => ?_)
    · have fin : ∀ w9 X, blk w9 (hsz w7) = some (.cells (encAx X).toArray 68 (0, 0)) → X = P → Fr [hsz w7, hsz w3] w8 w9 → K w9 := fun w9 X hb he hf => hK _ (by rw [hQ]; exact ⟨by rw [← he]; exact hb, hf⟩)
      have G1 : ∀ {u v : World}, Fr [hsz w3] u v → Fr [hsz w7, hsz w3] u v := fun f => f.wider (by simp)
      have G2 : ∀ {u v : World}, Fr [hsz w7] u v → Fr [hsz w7, hsz w3] u v := fun f => f.wider (by simp)
      have GD : Fr [hsz w7, hsz w3] w8 w8.drew := Fr.drew _ _
      have hd8 := hr8.drew
      have c8 : blk w8.drew (hsz w7) = some (.cells (encAx { zeroA with d := k, name := t }).toArray 68 (0, 0)) := b8
      have et := txB_data t
      by_cases h2 : k = 2
      · obtain ⟨a, b, c, d, e, rfl⟩ := five (l := ns) (by rw [hlen, h2]; rfl)
        (repeat refine gg ?_)
        refine ⟨fun _ w' => ∃ l, RestAt w w' (hsz w3) (hsz w5) l, ⟨_, hd8⟩, ?_⟩
        (repeat (first | refine gg ?_ | refine FLT.mk _ (fun _ hw_ => (hw_.elim fun _ h => h.ld)) ?_))
        refine op_small hd8 fun w9 h9 f9 z9 => ?_
        refine ⟨⟨_, h9⟩, ?_⟩
        have c9 := f9.some (by simp; omega) c8
        (repeat refine gg ?_)
        refine op_take h9 fun w10 h10 f10 z10 => ?_
        have c10 := f10.some (by simp; omega) c9
        refine fstore_step (j := 1) (u := .int .i64 (sml a)) c10 ⟨rfl, rfl⟩ (by simp [encAx]) fun w11 c11 f11 z11 => ?_
        have h11 := h10.st f11 (by omega) (by omega)
        (repeat refine gg ?_)
        refine fstore_step (j := 3) (u := .int .u64 (b : Int)) c11 ⟨rfl, rfl⟩ (by simp [encAx]) fun w12 c12 f12 z12 => ?_
        have h12 := (h11.st f12 (by omega) (by omega)).drew
        replace c12 : blk w12.drew (hsz w7) = _ := c12
        refine ⟨fun _ w' => ∃ l, RestAt w w' (hsz w3) (hsz w5) l, ⟨_, h12⟩, ?_⟩
        (repeat (first | refine BND_step h12.ld ?_ | refine gg ?_ | refine FLT.mk _ (fun _ hw_ => (hw_.elim fun _ h => h.ld)) ?_))
        refine op_take h12 fun w13 h13 f13 z13 => ?_
        refine ⟨⟨_, h13⟩, ?_⟩
        have c13 := f13.some (by simp; omega) c12
        (repeat refine gg ?_)
        refine op_take h13 fun w14 h14 f14 z14 => ?_
        have c14 := f14.some (by simp; omega) c13
        (repeat (first | refine gg ?_ | (apply BND_build ([.int .u64 (c : Int), .int .u64 (d : Int), .int .i64 0]); exact rfl)))
        refine fstoren_step (us := [.int .u64 (c : Int), .int .u64 (d : Int), .int .i64 0]) c14 rfl (by simp [encAx]) (by intro u hu; simp at hu; rcases hu with rfl | rfl | rfl <;> rfl) (by simp) fun w15 c15 f15 z15 => ?_
        have h15 := h14.st f15 (by omega) (by omega)
        (repeat refine gg ?_)
        refine op_small h15 fun w16 h16 f16 z16 => ?_
        have c16 := f16.some (by simp; omega) c15
        (repeat refine gg ?_)
        refine fstore_step (j := 7) (u := .int .i64 (sml e)) c16 ⟨rfl, rfl⟩ (by simp [encAx, spliceL]) fun w17 c17 f17 z17 => ?_
        refine fin w17 ⟨k, sml a, 0, b, t, c, d, sml e⟩ c17 ?_ ?_
        · rw [hP]; unfold preA; simp [h2, et]
        · exact (((((((((GD.trans' (G1 f9)).trans' (G1 f10)).trans' (G2 f11)).trans' (G2 f12)).trans' (Fr.drew _ _)).trans' (G1 f13)).trans' (G1 f14)).trans' (G2 f15)).trans' (G1 f16)).trans' (G2 f17)
      (repeat refine gg ?_)
      refine join_w Q (fun K1 hK1 => ?_) (fun w' hq => hK _ hq)
      replace fin : ∀ w9 X, blk w9 (hsz w7) = some (.cells (encAx X).toArray 68 (0, 0)) → X = P → Fr [hsz w7, hsz w3] w8 w9 → K1 w9 := fun w9 X hb he hf => hK1 _ (by rw [hQ]; exact ⟨by rw [← he]; exact hb, hf⟩)
      have k2' : ¬ k.toNat = 2 := by omega
      by_cases h3 : k = 3
      · obtain ⟨a, b, rfl⟩ := two (l := ns) (by rw [hlen, h3]; rfl)
        (repeat refine gg ?_)
        refine ⟨fun _ w' => ∃ l, RestAt w w' (hsz w3) (hsz w5) l, ⟨_, hd8⟩, ?_⟩
        (repeat (first | refine gg ?_ | refine FLT.mk _ (fun _ hw_ => (hw_.elim fun _ h => h.ld)) ?_))
        refine op_small hd8 fun w9 h9 f9 z9 => ?_
        refine ⟨⟨_, h9⟩, ?_⟩
        have c9 := f9.some (by simp; omega) c8
        (repeat (first | refine BND_step (sml_less a) ?_ | refine gg ?_))
        refine op_take h9 fun w10 h10 f10 z10 => ?_
        have c10 := f10.some (by simp; omega) c9
        refine fstore_step (j := 1) (u := .int .i64 (sml a - 1)) c10 ⟨rfl, rfl⟩ (by simp [encAx]) fun w11 c11 f11 z11 => ?_
        (repeat refine gg ?_)
        refine fstore_step (j := 3) (u := .int .u64 (b : Int)) c11 ⟨rfl, rfl⟩ (by simp [encAx]) fun w12 c12 f12 z12 => ?_
        refine fin w12 ⟨k, sml a - 1, 0, b, t, 0, 0, 0⟩ c12 ?_ ?_
        · rw [hP]; unfold preA; simp [h3, et]
        · exact (((GD.trans' (G1 f9)).trans' (G1 f10)).trans' (G2 f11)).trans' (G2 f12)
      have k3' : ¬ k.toNat = 3 := by omega
      (repeat refine gg ?_)
      refine join_v (fun v w' => v = .bool (id2D k) ∧ w8 = w') (fun K2 hK2 => ?_) ?_
      · unfold id2D at hK2
        by_cases h5 : k = 5
        · (repeat refine gg ?_)
          exact hK2 _ _ ⟨by simp [h5], rfl⟩
        · (repeat refine gg ?_)
          exact hK2 _ _ ⟨by simp [h5], rfl⟩
      rintro _ _ ⟨rfl, rfl⟩
      refine join_w Q (fun K2 hK2 => ?_) (fun w' hq => hK1 _ hq)
      replace fin : ∀ w9 X, blk w9 (hsz w7) = some (.cells (encAx X).toArray 68 (0, 0)) → X = P → Fr [hsz w7, hsz w3] w8 w9 → K2 w9 := fun w9 X hb he hf => hK2 _ (by rw [hQ]; exact ⟨by rw [← he]; exact hb, hf⟩)
      have ePre : preA ⟨k.toNat, ns, t.data.toList⟩ = if id2D k = true then ⟨k, 0, ns.getD 0 0, ns.getD 1 0, t, 0, 0, 0⟩ else if idD k = true then ⟨k, 0, ns.getD 0 0, 0, t, 0, 0, 0⟩ else if k = 7 ∨ k = 10 then ⟨k, 0, 0, ns.getD 0 0, t, 0, 0, 0⟩ else ⟨k, 0, 0, 0, t, 0, 0, 0⟩ := by
        unfold preA
        simp only [et, ek]
        rw [if_neg k2', if_neg k3']
        congr 2
        by_cases hh : k = 7 ∨ k = 10
        · rw [if_pos hh, if_pos (by omega)]
        · rw [if_neg hh, if_neg (by omega)]
      rw [ePre] at hP
      cases h56 : id2D k with
      | true =>
        obtain ⟨a, b, rfl⟩ := two (l := ns) (by rw [hlen]; unfold id2D at h56; simp only [Bool.or_eq_true, decide_eq_true_eq] at h56; rcases h56 with rfl | rfl <;> rfl)
        (repeat refine gg ?_)
        refine ⟨fun _ w' => ∃ l, RestAt w w' (hsz w3) (hsz w5) l, ⟨_, hd8⟩, ?_⟩
        (repeat (first | refine BND_step hd8.ld ?_ | refine gg ?_ | refine FLT.mk _ (fun _ hw_ => (hw_.elim fun _ h => h.ld)) ?_))
        refine op_take hd8 fun w9 h9 f9 z9 => ?_
        refine ⟨⟨_, h9⟩, ?_⟩
        have c9 := f9.some (by simp; omega) c8
        (repeat refine gg ?_)
        refine op_take h9 fun w10 h10 f10 z10 => ?_
        have c10 := f10.some (by simp; omega) c9
        refine fstore_step (j := 2) (u := .int .u64 (a : Int)) c10 ⟨rfl, rfl⟩ (by simp [encAx]) fun w11 c11 f11 z11 => ?_
        (repeat refine gg ?_)
        refine fstore_step (j := 3) (u := .int .u64 (b : Int)) c11 ⟨rfl, rfl⟩ (by simp [encAx]) fun w12 c12 f12 z12 => ?_
        refine fin w12 ⟨k, 0, a, b, t, 0, 0, 0⟩ c12 ?_ ?_
        · rw [hP, if_pos h56]; rfl
        · exact (((GD.trans' (G1 f9)).trans' (G1 f10)).trans' (G2 f11)).trans' (G2 f12)
      | false =>
        (repeat refine gg ?_)
        refine join_v (fun v w' => v = .bool (idD k) ∧ w8 = w') (fun K3 hK3 => ?_) ?_
        · unfold idD at hK3
          by_cases h4 : k = 4
          · (repeat refine gg ?_)
            exact hK3 _ _ ⟨by simp [h4], rfl⟩
          · (repeat refine gg ?_)
            refine join_v (fun v w' => v = .bool (decide (k = 8) || decide (k = 9)) ∧ w8 = w') (fun K4 hK4 => ?_) ?_
            · by_cases h8 : k = 8
              · (repeat refine gg ?_)
                exact hK4 _ _ ⟨by simp [h8], rfl⟩
              · (repeat refine gg ?_)
                exact hK4 _ _ ⟨by simp [h8], rfl⟩
            · rintro _ _ ⟨rfl, rfl⟩
              exact hK3 _ _ ⟨by simp [h4], rfl⟩
        rintro _ _ ⟨rfl, rfl⟩
        refine join_w Q (fun K3 hK3 => ?_) (fun w' hq => hK2 _ hq)
        replace fin : ∀ w9 X, blk w9 (hsz w7) = some (.cells (encAx X).toArray 68 (0, 0)) → X = P → Fr [hsz w7, hsz w3] w8 w9 → K3 w9 := fun w9 X hb he hf => hK3 _ (by rw [hQ]; exact ⟨by rw [← he]; exact hb, hf⟩)
        rw [h56] at hP
        simp only [Bool.false_eq_true, if_false] at hP
        cases h489 : idD k with
        | true =>
          obtain ⟨a, rfl⟩ := one (l := ns) (by rw [hlen]; unfold idD at h489; simp only [Bool.or_eq_true, decide_eq_true_eq] at h489; rcases h489 with (rfl | rfl) | rfl <;> rfl)
          (repeat (first | refine BND_step hr8.ld ?_ | refine gg ?_))
          refine op_take hr8 fun w9 h9 f9 z9 => ?_
          have c9 := f9.some (by simp; omega) b8
          (repeat refine gg ?_)
          refine fstore_step (j := 2) (u := .int .u64 (a : Int)) c9 ⟨rfl, rfl⟩ (by simp [encAx]) fun w10 c10 f10 z10 => ?_
          refine fin w10 ⟨k, 0, a, 0, t, 0, 0, 0⟩ c10 ?_ ((G1 f9).trans' (G2 f10))
          rw [hP, if_pos h489]; rfl
        | false =>
          (repeat refine gg ?_)
          refine join_v (fun v w' => v = .bool (decide (k = 7) || decide (k = 10)) ∧ w8 = w') (fun K4 hK4 => ?_) ?_
          · by_cases h7 : k = 7
            · (repeat refine gg ?_)
              exact hK4 _ _ ⟨by simp [h7], rfl⟩
            · (repeat refine gg ?_)
              exact hK4 _ _ ⟨by simp [h7], rfl⟩
          rintro _ _ ⟨rfl, rfl⟩
          refine join_w Q (fun K4 hK4 => ?_) (fun w' hq => hK3 _ hq)
          replace fin : ∀ w9 X, blk w9 (hsz w7) = some (.cells (encAx X).toArray 68 (0, 0)) → X = P → Fr [hsz w7, hsz w3] w8 w9 → K4 w9 := fun w9 X hb he hf => hK4 _ (by rw [hQ]; exact ⟨by rw [← he]; exact hb, hf⟩)
          rw [h489] at hP
          simp only [Bool.false_eq_true, if_false] at hP
          cases h710 : (decide (k = 7) || decide (k = 10)) with
          | true =>
            simp only [Bool.or_eq_true, decide_eq_true_eq] at h710
            obtain ⟨a, rfl⟩ := one (l := ns) (by rw [hlen]; rcases h710 with rfl | rfl <;> rfl)
            (repeat (first | refine BND_step hr8.ld ?_ | refine gg ?_))
            refine op_take hr8 fun w9 h9 f9 z9 => ?_
            have c9 := f9.some (by simp; omega) b8
            (repeat refine gg ?_)
            refine fstore_step (j := 3) (u := .int .u64 (a : Int)) c9 ⟨rfl, rfl⟩ (by simp [encAx]) fun w10 c10 f10 z10 => ?_
            refine fin w10 ⟨k, 0, 0, a, t, 0, 0, 0⟩ c10 ?_ ((G1 f9).trans' (G2 f10))
            rw [hP, if_pos h710]; rfl
          | false =>
            simp only [Bool.or_eq_false_iff, decide_eq_false_iff_not] at h710
            (repeat refine gg ?_)
            refine fin w8 ⟨k, 0, 0, 0, t, 0, 0, 0⟩ b8 ?_ (Fr.refl _ _)
            rw [hP, if_neg (by omega)]
    · rw [hQ] at hq
      obtain ⟨c9, f9⟩ := hq
      have b29 := f9.some (by simp; omega) b28
      (repeat (first | refine BND_step (loadn_all' c9 rfl) ?_ | refine gg ?_))
      refine op_Right P fun w10 f10 => ?_
      have c10 := f10.some (by simp) c9
      have b210 := f10.some (by simp) b29
      have f010 : Fr [] w w10 := (f08.trans f9 fun b hb => .inr (by simp at hb; omega)).trans' f10
      unfold ofA at hR
      rw [← hP] at hR
      cases hq : rightA P with
      | false =>
        rw [hq] at hR
        (repeat (first | refine gg ?_ | (apply BND_build (encAx zeroA); exact rfl)))
        refine ret_step (R := fun r w8 => R (.tuple #[r, .int .i64 2]) w8) b210 rfl rfl (encAx_one _) (by simp [encAx]) fun w11 f11 z11 => ?_
        exact hR w11 (f010.trans f11 fun b hb => .inr (by simp at hb; omega))
      | true =>
        rw [hq] at hR
        (repeat (first | refine BND_step (loadn_all' c10 rfl) ?_ | refine gg ?_))
        refine ret_step (R := fun r w8 => R (.tuple #[r, .int .i64 0]) w8) b210 rfl rfl (encAx_one _) (by simp [encAx]) fun w11 f11 z11 => ?_
        exact hR w11 (f010.trans f11 fun b hb => .inr (by simp at hb; omega))
end
end Go.Proofs.YtmefbneoljpbgaaGreatDoor
