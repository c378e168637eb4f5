
/- Frames, walked. No condition but sizes. -/
import Derived.Test.YtmefbneoljpbgaaGreatDoorFrameP
import Derived.Test.YtmefbneoljpbgaaGreatDoorMa
namespace Go.Proofs.YtmefbneoljpbgaaGreatDoor
open Go.Den Go.Disk Go.Vint Go.Crc Go.Frame
def encFr (x : UInt8 × SV) : List Value := [.int .u8 (x.1.toNat : Int), x.2.v]
theorem encFr_len (x : UInt8 × SV) : (encFr x).length = 2 := rfl
theorem encFr_one (x : UInt8 × SV) : ∀ u ∈ encFr x, u.oneCell' = true := by intro u hu; simp [encFr] at hu; rcases hu with rfl | rfl <;> rfl
theorem sv_one (x : SV) : x.v.cells = #[x.v] ∧ x.v.oneCell' = true := ⟨rfl, rfl⟩
/-- frames in memory: the row, and each body. -/
def FrmL (w : World) (v : Value) (xs : List Fra) (G B : List Nat) : Prop :=
  (∃ cs : List (UInt8 × SV), Slc encFr 2 w v cs G ∧ cs.length = xs.length ∧ ∀ (i : Nat) (x : Fra), xs[i]? = some x → ∃ (s : SV) (H : List Nat), cs[i]? = some (x.1, s) ∧ Slc encB 1 w s.v x.2 H ∧ ∀ b ∈ H, b ∈ B) ∧ ∀ b ∈ B, b ∉ G ∧ b < hsz w
theorem FrmL.fr {w w' : World} {v : Value} {xs : List Fra} {G B : List Nat} (h : FrmL w v xs G B) (f : Fr [] w w') : FrmL w' v xs G B := by
  obtain ⟨⟨cs, h1, h2, h3⟩, h4⟩ := h
  exact ⟨⟨cs, h1.fr f (by simp), h2, fun i x hx => by obtain ⟨s, H, a, b, c⟩ := h3 i x hx; exact ⟨s, H, a, b.fr f (by simp), c⟩⟩, fun b hb => ⟨(h4 b hb).1, Nat.lt_of_lt_of_le (h4 b hb).2 f.grow⟩⟩
theorem FrmL.len {w : World} {v : Value} {xs : List Fra} {G B : List Nat} (h : FrmL w v xs G B) : lenl v = some (.int .i64 xs.length) := by
  obtain ⟨⟨cs, h1, h2, _⟩, _⟩ := h
  rw [h1.len, h2]
theorem FrmL.nil (w : World) : FrmL w (.slice none 0 0) [] [] [] := ⟨⟨[], Slc.nil _ _ _, rfl, by simp⟩, by simp⟩
set_option linter.unusedSimpArgs false
set_option linter.unusedVariables false
set_option maxRecDepth 20000
set_option maxHeartbeats 4000000
attribute [local congr] BND_cg COND_cg GEF_cg
attribute [local irreducible] capl slicea load1 loadn iaddr iaddra faddr storev newslice binv lookv mupd mdel mlenv mentry mestore slicev slicev3 slices indexs indexav textv rangev nexts clearv shiftv eqaggv convi buildv pickv lens lenl unv nilchk extractv partn JOIN
section
variable {w : World} {R : Value → World → Prop}
theorem frame_low (n : Nat) (h : n < 9223372036854775808) (hR : R (.tuple #[.int .u8 ((n % 256 : Nat) : Int), .int .i64 ((n / 256 : Nat) : Int)]) w) : CALL PR F_frame_low_int [.int .i64 (n : Int)] w R := by
  refine C_frame_low_int ?_
  unfold M_frame_low_int
  have e2 := conv8i (n % 256)
  rw [Nat.mod_mod] at e2
  (repeat (first | refine BND_step (and255 h) ?_ | refine BND_step (shr8 n) ?_ | refine gg ?_))
  exact hR
theorem frame_Bytes {bv : SV} {k : UInt8} {body : List UInt8} (hb : Arr encB 1 w bv.v body) (hn : body.length < 1000000) (hR0 : ∀ w', 400 < body.length → Fr [] w w' → R (.tuple #[.slice none 0 0, .int .i64 4]) w')
    (hR : ∀ w' v G, body.length ≤ 400 → Slc encB 1 w' v (frB (k, body)) G → (∀ b ∈ G, hsz w ≤ b) → Fr [] w w' → R (.tuple #[v, .int .i64 0]) w') : CALL PR F_frame_Bytes [.agg (encFr (k, bv)).toArray] w R := by
  refine C_frame_Bytes ?_
  unfold M_frame_Bytes
  refine NEW_intro fun w1 b1 f1 z1 => ?_
  replace b1 : blk w1 (hsz w) = some (.cells (encFr (k, bv)).toArray 138 (0, 0)) := b1
  have hb1 := hb.fr f1 (by simp)
  by_cases h4 : 400 < body.length
  · (repeat (first | refine BND_step hb1.len ?_ | refine gg ?_))
    exact hR0 _ h4 f1
  · (repeat (first | refine BND_step hb1.len ?_ | refine gg ?_))
    refine frame_low _ (by omega) ?_
    (repeat refine gg ?_)
    refine frame_low _ (by omega) ?_
    (repeat refine gg ?_)
    have b1' : blk w1.drew (hsz w) = some (.cells (encFr (k, bv)).toArray 138 (0, 0)) := b1
    refine ⟨fun _ w' => blk w' (hsz w) = some (.cells (encFr (k, bv)).toArray 138 (0, 0)), b1', ?_⟩
    (repeat refine gg ?_)
    have e1 : ((body.length % 256 : Nat) : Int) = ((UInt8.ofNat (body.length % 256)).toNat : Int) := by rw [ofNat_toNat (by omega)]
    have e2 : ((body.length / 256 % 256 : Nat) : Int) = ((UInt8.ofNat (body.length / 256 % 256)).toNat : Int) := by rw [ofNat_toNat (by omega)]
    rw [e1, e2]
    refine newparts_step encB_len (val := fun x : UInt8 => Value.int .u8 (x.toNat : Int)) (fun _ => rfl) [k, UInt8.ofNat (body.length % 256), UInt8.ofNat (body.length / 256 % 256)] rfl rfl fun t w4 s4 f4 z4 => ?_
    have b4 := f4.some (by simp) b1'
    refine ⟨b4, ?_⟩
    refine sum_Put s4.arr (by simp) fun w5 v5 G5 s5 g5 f5 => ?_
    refine ⟨f5.some (by simp) b4, ?_⟩
    have f15 := (((Fr.drew [] w1).trans' f4).trans' f5)
    refine sum_Put (hb1.fr f15 (by simp)) (by omega) fun w6 v6 G6 s6 g6 f6 => ?_
    have hp : (putS [k, UInt8.ofNat (body.length % 256), UInt8.ofNat (body.length / 256 % 256)]).length = 7 := by rw [putS_len]; rfl
    have hp2 := putS_len body
    refine APPEND_slc (s5.fr f6 (by simp)) (s6.loads encB_len) encB_len encB_one rfl (by omega) (by omega) fun v7 w7 G7 s7 f7 sub7 => ?_
    (repeat refine gg ?_)
    have f06 := (f1.trans' f15).trans' f6
    have gr4 := (f1.trans' ((Fr.drew [] w1).trans' f4)).grow
    refine hR _ _ G7 (by omega) s7 (fun b hb => ?_) (f06.trans f7 fun b hb => .inr (by have := g5 b hb; omega))
    rcases sub7 b hb with hq | hq
    · have := g5 b hq; omega
    · have := f06.grow; omega
theorem frame_Read {bv : Value} {bs : List UInt8} (hb : ArrC encB 1 w bv bs) (hn : bs.length < 100000000)
    (hR : ∀ w' v G, Slc encB 1 w' (SV.v v) (frRead bs).1.2 G → (∀ b ∈ G, hsz w ≤ b) → Fr [] w w' → R (.tuple #[.agg (encFr ((frRead bs).1.1, v)).toArray, .int .i64 ((frRead bs).2.1 : Int), .int .i64 (frRead bs).2.2]) w') : CALL PR F_frame_Read [bv] w R := by
  refine C_frame_Read ?_
  unfold M_frame_Read
  refine NEW_intro fun w1 b1 f1 z1 => ?_
  replace b1 : blk w1 (hsz w) = some (.cells [Value.int .u8 0, .slice none 0 0].toArray 138 (0, 0)) := b1
  -- what comes of an error
  have bad : ∀ (w3 : World) (e : Int), Fr [] w w3 → blk w3 (hsz w) = some (.cells [Value.int .u8 0, .slice none 0 0].toArray 138 (0, 0)) → frRead bs = ((0, []), 0, e) →
      (BND (buildv #[(Value.int .u8 0), (Value.slice none 0 0)] []) fun t => BND (storev 2 w3 (.pointer (some ⟨hsz w, 0, none⟩)) t) fun w4 => BND (loadn 2 w4 (.pointer (some ⟨hsz w, 0, none⟩))) fun r => R (.tuple #[r, (Value.int .i64 0), (Value.int .i64 e)]) w4) := by
    intro w3 e f3 b3 he
    rw [he] at hR
    (repeat (first | refine gg ?_ | (apply BND_build ([.int .u8 0, .slice none 0 0]); exact rfl)))
    refine put_step (n := 2) (vs := [.int .u8 0, .slice none 0 0]) b3 rfl rfl (by intro u hu; simp at hu; rcases hu with rfl | rfl <;> rfl) (by simp) fun w4 b4 f4 _ => ?_
    (repeat (first | refine BND_step (loadn_all' b4 rfl) ?_ | refine gg ?_))
    exact hR w4 ⟨none, 0, 0⟩ [] (Slc.nil _ _ _) (by simp) (f3.trans f4 fun b hb => .inr (by simp at hb; omega))
  have hb1 := hb.fr f1 (by simp)
  by_cases h7 : bs.length < 7
  · (repeat (first | refine BND_step hb1.len ?_ | refine gg ?_))
    exact bad w1 3 f1 b1 (by unfold frRead; rw [if_pos h7])
  obtain ⟨va, ea, aa⟩ := hb1.to (hi := 7) (by omega)
  (repeat (first | refine BND_step hb1.len ?_ | refine gg ?_))
  refine sum_Cut aa (by rw [List.length_take]; omega) (fun w3 f3 hc => ?_) fun w3 v3 G3 h hc s3 g3 f3 => ?_
  · (repeat refine gg ?_)
    refine bad w3 8 (f1.trans' f3) (f3.some (by simp) b1) ?_
    unfold frRead
    rw [if_neg h7, hc]
  have hh : h.length = 3 := by
    have := cut_len hc
    rw [List.length_take] at this; omega
  obtain ⟨h0, h1, h2, rfl⟩ : ∃ a b c, h = [a, b, c] := by
    match h, hh with
    | [a, b, c], _ => exact ⟨a, b, c, rfl⟩
  have hfr : frRead bs = (if 400 < sizeOf_ [h0, h1, h2] then ((0, []), 0, 2) else if bs.length < 11 + sizeOf_ [h0, h1, h2] then ((0, []), 0, 3) else
      match cutS ((bs.take (11 + sizeOf_ [h0, h1, h2])).drop 7) with
      | none => ((0, []), 0, 8)
      | some body => ((h0, body), 11 + sizeOf_ [h0, h1, h2], 0) : Fra × Nat × Int) := by
    unfold frRead
    rw [if_neg h7, hc]; rfl
  have hsz' : sizeOf_ [h0, h1, h2] = h1.toNat + h2.toNat * 256 := rfl
  generalize hN : sizeOf_ [h0, h1, h2] = N at hfr hsz'
  have s3' : Slc encB 1 w3.drew v3 [h0, h1, h2] G3 := s3.congr fun _ _ => rfl
  obtain ⟨p1, o1, i1, _, _, l1⟩ := s3'.arr.spot (i := 1) (x := h1) rfl rfl .i64
  obtain ⟨p2, o2, i2, _, _, l2⟩ := s3'.arr.spot (i := 2) (x := h2) rfl rfl .i64
  have c1 := h1.toNat_lt
  have c2 := h2.toNat_lt
  have f03 := f1.trans' f3
  have f03d := f03.trans' (Fr.drew [] w3)
  have b3 := f3.some (by simp) b1
  have b3d : blk w3.drew (hsz w) = some (.cells [Value.int .u8 0, .slice none 0 0].toArray 138 (0, 0)) := b3
  have e1 := convi64 (k := .u8) (x := h1.toNat) (by omega)
  have e2 := convi64 (k := .u8) (x := h2.toNat) (by omega)
  have e3 := shl8 (x := h2.toNat) (by omega)
  have e4 := or256 (n := h1.toNat) (x := h2.toNat) (by omega) (by omega)
  rw [← hsz'] at e4
  have e5 : binv .int .add (.int .i64 7) (.int .i64 (N : Int)) = some (.int .i64 ((7 + N : Nat) : Int)) := addn_ (n := 7) (m := N) (by omega)
  have e6 : binv .int .add (.int .i64 ((7 + N : Nat) : Int)) (.int .i64 4) = some (.int .i64 ((11 + N : Nat) : Int)) := (addn_ (n := 7 + N) (m := 4) (by omega)).trans (by congr 3; omega)
  (repeat (first | (apply BND_step; exact (l1 (w' := w3.drew) rfl (j := 0) rfl)) | (apply BND_step; exact (l2 (w' := w3.drew) rfl (j := 0) rfl)) | refine gg ?_))
  by_cases h4 : 400 < N
  · (repeat refine gg ?_)
    exact bad w3.drew 2 f03d b3d (by rw [hfr, if_pos h4])
  have hbd := hb.fr f03d (by simp)
  by_cases h5 : bs.length < 11 + N
  · (repeat (first | refine BND_step hbd.len ?_ | refine gg ?_))
    exact bad w3.drew 3 f03d b3d (by rw [hfr, if_neg h4, if_pos h5])
  obtain ⟨vb, eb, ab⟩ := hbd.mid (lo := 7) (hi := 11 + N) (by omega) (by omega)
  (repeat (first | refine BND_step hbd.len ?_ | refine gg ?_))
  rw [if_neg h4, if_neg h5] at hfr
  refine sum_Cut ab (by rw [List.length_drop, List.length_take]; omega) (fun w7 f7 hc2 => ?_) fun w7 v7 G7 body hc2 s7 g7 f7 => ?_
  · (repeat refine gg ?_)
    exact bad w7 8 (f03d.trans' f7) (f7.some (by simp) b3d) (by rw [hfr, hc2])
  · rw [hc2] at hfr
    simp only at hfr
    rw [hfr] at hR
    obtain ⟨p0, o0, i0, _, _, l0⟩ := (s3'.fr f7 (by simp)).arr.spot (i := 0) (x := h0) rfl rfl .i64
    obtain ⟨x7, rfl⟩ := slc_sv s7
    have b7 := f7.some (by simp) b3d
    (repeat (first | (apply BND_step; exact (l0 (w' := w7) rfl (j := 0) rfl)) | refine gg ?_ | (apply BND_build ([.int .u8 (h0.toNat : Int), x7.v]); exact rfl)))
    refine put_step (n := 2) (vs := [.int .u8 (h0.toNat : Int), x7.v]) b7 rfl rfl (by intro u hu; simp at hu; rcases hu with rfl | rfl <;> rfl) (by simp) fun w9 b9 f9 _ => ?_
    (repeat (first | refine BND_step (loadn_all' b9 rfl) ?_ | refine gg ?_))
    have gr := f03d.grow
    refine hR w9 x7 G7 (s7.fr f9 (fun b hb hb' => by have := g7 b hb; have := f1.grow; have := f3.grow; simp at hb'; have e : hsz w3.drew = hsz w3 := rfl; omega)) (fun b hb => by have := g7 b hb; omega) ((f03d.trans' f7).trans f9 fun b hb => .inr (by simp at hb; omega))
theorem frm_push {E E' bytes : Nat} {zero : Array Value} {zero' : Value} {k : Value → World → Prop} {o : Value} {xs : List Fra} {G B H : List Nat} {s : SV} {x : Fra} (h : FrmL w o xs G B) (hs : Slc encB 1 w s.v x.2 H) (hH : ∀ b ∈ H, b ∉ G) (hz : zero'.cells.size = 2) (hb : bytes ≤ 1000) (hn : xs.length < 1000000000)
    (K : ∀ v' w' G', FrmL w' v' (xs ++ [x]) G' (H ++ B) → (∀ b ∈ G', b ∈ G ∨ hsz w ≤ b) → Fr G w w' → k v' w') : BND (newslice E zero 2 1 [(0, 2, .agg (encFr (x.1, s)).toArray)] w) fun p_ => NEW p_ fun t w1 => APPEND E' 2 bytes zero' o t w1 k := by
  obtain ⟨⟨cs, h1, h2, h3⟩, h4⟩ := h
  refine push_step (enc := encFr) (x := (x.1, s)) h1 encFr_len encFr_one rfl hz hb (by omega) fun v' w' G' s' g' f' => ?_
  refine K v' w' G' ⟨⟨cs ++ [(x.1, s)], s', by simp [h2], fun i y hy => ?_⟩, fun b hb => ?_⟩ g' f'
  · by_cases hi : i < xs.length
    · rw [List.getElem?_append_left hi] at hy
      obtain ⟨s2, H2, a, b, c⟩ := h3 i y hy
      exact ⟨s2, H2, by rw [List.getElem?_append_left (by omega)]; exact a, b.fr f' (fun d hd => (h4 d (c d hd)).1), fun d hd => by simp [c d hd]⟩
    · have : i = xs.length := by have := (List.getElem?_eq_some_iff.1 hy).1; simp at this; omega
      subst this
      simp at hy; subst hy
      exact ⟨s, H, by rw [List.getElem?_append_right (by omega)]; simp [h2], hs.fr f' hH, fun d hd => by simp [hd]⟩
  · have hlt : b < hsz w := by
      rcases List.mem_append.1 hb with hb | hb
      · exact hs.lt b hb
      · exact (h4 b hb).2
    refine ⟨?_, Nat.lt_of_lt_of_le hlt f'.grow⟩
    intro hb'
    rcases g' b hb' with hq | hq
    · rcases List.mem_append.1 hb with hb | hb
      · exact hH b hb hq
      · exact (h4 b hb).1 hq
    · omega
theorem frame_All {bv : Value} {bs : List UInt8} (hb : ArrC encB 1 w bv bs) (hn : bs.length < 100000000)
    (hR : ∀ w' v G B, FrmL w' v (frAll bs 0).1 G B → (∀ b ∈ G, hsz w ≤ b) → (∀ b ∈ B, hsz w ≤ b) → Fr [] w w' → (frAll bs 0).1.length ≤ bs.length → R (.tuple #[v, .int .i64 ((frAll bs 0).2.1 : Int), .int .i64 (frAll bs 0).2.2]) w') : CALL PR F_frame_All [bv] w R := by
  refine C_frame_All ?_
  unfold M_frame_All
  refine ⟨fun o t w' => ∃ (k : Nat) (done : List Fra) (G B : List Nat), t = .int .i64 (k : Int) ∧ FrmL w' o done G B ∧ (∀ b ∈ G, hsz w ≤ b) ∧ (∀ b ∈ B, hsz w ≤ b) ∧ Fr [] w w' ∧ k ≤ bs.length ∧ done.length ≤ k ∧ frAll bs 0 = (done ++ (frAll (bs.drop k) k).1, (frAll (bs.drop k) k).2),
    fun _ t _ => match t with | .int _ n => bs.length - n.toNat | _ => 0, ⟨0, [], [], [], rfl, FrmL.nil _, by simp, by simp, Fr.refl _ _, by omega, by simp, by simp⟩, ?_⟩
  rintro _ o _ w1 ⟨k, done, G, B, rfl, h1, hG, hB, f1, hk, hdl, heq⟩
  by_cases hlt : k < bs.length
  · obtain ⟨va, ea, aa⟩ := (hb.fr f1 (by simp)).from (lo := k) (by omega)
    (repeat (first | refine BND_step hb.len ?_ | refine gg ?_))
    have hne : bs.drop k ≠ [] := by intro e; have := congrArg List.length e; simp at this; omega
    refine frame_Read aa (by rw [List.length_drop]; omega) fun w2 v2 G2 s2 g2 f2 => ?_
    (repeat refine gg ?_)
    refine box_step (n := 2) (zs := [_, _]) (vs := encFr ((frRead (bs.drop k)).1.1, v2)) rfl rfl (encFr_one _) (by simp [encFr]) fun w4 b4 f4 z4 => ?_
    have f24 := (f1.trans' f2).trans' f4
    have h4 := (h1.fr f2).fr f4
    by_cases he : (frRead (bs.drop k)).2.2 = 0
    · obtain ⟨u1, u2, u3, u4⟩ := read_ok he
      rw [List.length_drop] at u2
      (repeat (first | refine BND_step (loadn_all' b4 rfl) ?_ | refine gg ?_))
      have gr1 := f1.grow
      refine frm_push (x := (frRead (bs.drop k)).1) h4 (s2.fr f4 (by simp)) (fun b hb hb' => ?_) rfl (by omega) (by omega) fun v6 w6 G6 s6 g6 f6 => ?_
      · obtain ⟨⟨cs, q1, _⟩, _⟩ := h1
        have := q1.lt b hb'
        have := g2 b hb
        omega
      · (repeat (first | refine BND_step (addn_ (n := k) (by omega)) ?_ | refine gg ?_))
        rw [frAll_ok k hne he] at heq
        refine ⟨⟨k + (frRead (bs.drop k)).2.1, done ++ [(frRead (bs.drop k)).1], G6, G2 ++ B, rfl, s6, fun b hb => ?_, fun b hb => ?_, f24.trans f6 fun b hb => .inr (hG b hb), by omega, by simp; omega, ?_⟩, ?_⟩
        · rcases g6 b hb with hq | hq
          · exact hG b hq
          · have := f24.grow; omega
        · rcases List.mem_append.1 hb with hb | hb
          · have := g2 b hb; omega
          · exact hB b hb
        · rw [heq, List.drop_drop]; simp
        · simp only [Int.toNat_natCast]; omega
    · (repeat refine gg ?_)
      rw [frAll_bad k hne he] at heq
      have := hR w4 o G B (by rw [heq]; simpa using h4) hG hB f24 (by rw [heq]; simp; omega)
      rw [heq] at this
      exact this
  · (repeat (first | refine BND_step hb.len ?_ | refine gg ?_))
    rw [List.drop_eq_nil_of_le (by omega), frAll_nil] at heq
    have := hR w1 o G B (by rw [heq]; simpa using h1) hG hB f1 (by rw [heq]; simp; omega)
    rw [heq] at this
    exact this
end
end Go.Proofs.YtmefbneoljpbgaaGreatDoor
