/- The document's list of the dead: Has, Add, Drop, Next. No condition but sizes. -/
import Derived.Test.YthcbcolnahbihaaDeadState
import Derived.Test.YthcbcolnahbihaaMa
namespace Go.Proofs.Ythcbcolnahbihaa
open Go.Den

def dropF (rows : List Row) (id : Int) : List Row := rows.filter fun r => !decide (r.1 = id)
def tkR (n place : Int) : List Row → Int → List Int → List Int × Int
  | [], p, out => (out, p)
  | r :: rs, p, out => if place < r.2 ∧ (out.length : Int) < n then tkR n place rs r.2 (out ++ [r.1]) else tkR n place rs p out
theorem tkR_len (n place : Int) : ∀ (rs : List Row) (p : Int) (out : List Int), (tkR n place rs p out).1.length ≤ out.length + rs.length
  | [], _, _ => by simp [tkR]
  | r :: rs, p, out => by
    unfold tkR
    split
    · have := tkR_len n place rs r.2 (out ++ [r.1]); simp at *; omega
    · have := tkR_len n place rs p out; simp at *; omega
def posA (nm : ByteArray) : Seen → Nat
  | [] => 0
  | c :: cs => if lessZ (rz c.1) (rz nm) = true then posA nm cs + 1 else 0
def hasA (nm : ByteArray) (S : Seen) : Prop := (S[posA nm S]?).map (·.1) = some nm
instance (nm : ByteArray) (S : Seen) : Decidable (hasA nm S) := by unfold hasA; exact inferInstance
def insA (nm : ByteArray) (S : Seen) : Seen := if hasA nm S then S else S.take (posA nm S) ++ [(nm, 0)] ++ S.drop (posA nm S)
def plA (nm : ByteArray) (S : Seen) : Int := (((insA nm S)[posA nm S]?).map (·.2)).getD 0
def refN (rows : List Row) (seen : Seen) (name : ByteArray) (n : Int) : NextA :=
  let nm := txt (foldB name.data.toList)
  if n < 1 ∨ rightB (foldB name.data.toList) = false then ⟨[], 1, seen⟩
  else if ¬ hasA nm seen ∧ 8 ≤ seen.length then ⟨[], 4, seen⟩
  else ⟨(tkR n (plA nm seen) rows (plA nm seen) []).1, 0, (insA nm seen).set (posA nm seen) (nm, (tkR n (plA nm seen) rows (plA nm seen) []).2)⟩
theorem posA_le (nm : ByteArray) : ∀ S : Seen, posA nm S ≤ S.length
  | [] => by simp [posA]
  | c :: cs => by
    have := posA_le nm cs
    unfold posA
    split <;> simp <;> omega
theorem insA_at (nm : ByteArray) (S : Seen) : ∃ p, (insA nm S)[posA nm S]? = some (nm, p) := by
  unfold insA
  split
  · rename_i h
    unfold hasA at h
    cases hs : S[posA nm S]? with
    | none => rw [hs] at h; cases h
    | some c =>
      rw [hs] at h
      simp at h
      exact ⟨c.2, by rw [← h]⟩
  · refine ⟨0, ?_⟩
    have := posA_le nm S
    rw [List.append_assoc, List.getElem?_append_right (by simp; omega)]
    simp [Nat.min_eq_left this]
theorem insA_len (nm : ByteArray) (S : Seen) : (insA nm S).length ≤ S.length + 1 := by
  unfold insA
  split
  · omega
  · have := posA_le nm S
    simp; omega

section
variable {w : World} {d : Nat} {rows : List Row} {last : Int} {seen : Seen} {F : List Nat} {R : Value → World → Prop}
theorem rf_Has (h : RefOwn w d rows last seen F) (hn : rows.length < 1000000000) (id : Int) (hR : ∀ w', Fr [] w w' → R (.bool (hasI rows id)) w') : CALL PR F_tumbrelref10_Dead_Has [.pointer (some ⟨d, 0, none⟩), .int .u64 id] w R := by
  refine C_tumbrelref10_Dead_Has ?_
  unfold M_tumbrelref10_Dead_Has
  refine ⟨fun t w' => ∃ i : Nat, t = .int .i64 i ∧ Fr [] w w' ∧ i ≤ rows.length ∧ hasI (rows.take i) id = false, fun t _ => match t with | .int _ n => rows.length - n.toNat | _ => 0, ⟨0, rfl, Fr.refl _ _, by omega, rfl⟩, ?_⟩
  rintro _ _ w1 ⟨i, rfl, f1, hi, hno⟩
  obtain ⟨sv, sc, Fa, Fc, T, h1, h2, h3, rfl, h5, h6, h7⟩ := h.fr0 f1
  refine BND_step (nilchk_ptr _) <| BND_step (faddr_ptr _ _ _) <| BND_step (v := sv) (load1_blk h1) <| BND_step h2.len <| BND_step (binv_lss _ _ _ _) ?_
  by_cases hlt : i < rows.length
  · refine COND_dec_true (by omega) ?_
    have hx := List.getElem?_eq_getElem hlt
    generalize rows[i] = r at hx
    obtain ⟨b, rfl, ei⟩ := h2.iaddr hlt .i64
    refine BND_step (nilchk_ptr _) <| BND_step (faddr_ptr _ _ _) <| BND_step (v := sv) (load1_blk h1) <| BND_step ei <| BND_step (faddr_ptr _ _ _) <| BND_step (v := .int .u64 r.1) ((h2.load1 (j := 0) hx (by omega)).trans rfl) <| BND_step (binv_eql _ _ _ _) ?_
    by_cases he : r.1 = id
    · refine COND_dec_true he ?_
      have := hR w1 f1
      rw [show hasI rows id = true by unfold hasI; rw [List.any_eq_true]; exact ⟨r, List.mem_of_getElem? hx, by simpa using he⟩] at this
      exact this
    · refine COND_dec_false he <| BND_step (add1 (by omega)) ⟨⟨i + 1, rfl, f1, hlt, ?_⟩, by simp; omega⟩
      rw [List.take_add_one, hx]
      unfold hasI at hno ⊢
      rw [List.any_append, hno]
      simp [he]
  · refine COND_dec_false (by omega) ?_
    rw [List.take_of_length_le (by omega)] at hno
    have := hR w1 f1
    rw [hno] at this
    exact this

theorem rf_Drop (h : RefOwn w d rows last seen F) (hn : rows.length < 1000000) (id : Int)
    (hR : ∀ w' F', RefOwn w' d (dropF rows id) last seen F' → (∀ b ∈ F', b ∈ F ∨ hsz w ≤ b) → Fr F w w' → R (.bool (hasI rows id)) w') : CALL PR F_tumbrelref10_Dead_Drop [.pointer (some ⟨d, 0, none⟩), .int .u64 id] w R := by
  refine C_tumbrelref10_Dead_Drop ?_
  unfold M_tumbrelref10_Dead_Drop
  refine rf_Has h (by omega) id fun w1 f1 => newnil_step encRow fun t w2 s2 f2 z2 => ?_
  have f12 := f1.trans' f2
  refine ⟨fun to t w' => ∃ (i : Nat) (H : List Nat), t = .int .i64 i ∧ Slc encRow 2 w' to (dropF (rows.take i) id) H ∧ (∀ b ∈ H, hsz w1 ≤ b) ∧ hsz w1 ≤ hsz w' ∧ Fr [] w w' ∧ i ≤ rows.length, fun _ t _ => match t with | .int _ n => rows.length - n.toNat | _ => 0,
    ⟨0, [hsz w1], rfl, by simpa [dropF] using s2, by simp, f2.grow, f12, by omega⟩, ?_⟩
  rintro _ _ _ w3 ⟨i, H, rfl, s3, hH, g13, f3, hi⟩
  have g1 := f1.grow
  obtain ⟨sv, sc, Fa, Fc, T, h1, h2, h3, rfl, h5, h6, h7⟩ := h.fr0 f3
  refine BND_step (nilchk_ptr _) <| BND_step (faddr_ptr _ _ _) <| BND_step (v := sv) (load1_blk h1) <| BND_step h2.len <| BND_step (binv_lss _ _ _ _) ?_
  by_cases hlt : i < rows.length
  · refine COND_dec_true (by omega) ?_
    have hx := List.getElem?_eq_getElem hlt
    generalize rows[i] = r at hx
    obtain ⟨b, rfl, ei⟩ := h2.iaddr hlt .i64
    refine BND_step (nilchk_ptr _) <| BND_step (faddr_ptr _ _ _) <| BND_step (v := sv) (load1_blk h1) <| BND_step ei <| BND_step (faddr_ptr _ _ _) <| BND_step (v := .int .u64 r.1) ((h2.load1 (j := 0) hx (by omega)).trans rfl) <| BND_step (binv_neq _ _ _ _) ?_
    have hdl : (dropF (rows.take i) id).length ≤ i := by
      have : (dropF (rows.take i) id).length ≤ (rows.take i).length := List.length_filter_le _ _
      rw [List.length_take] at this
      omega
    have hd1 : dropF (rows.take (i + 1)) id = dropF (rows.take i) id ++ (if r.1 = id then [] else [r]) := by
      rw [List.take_add_one, hx]
      unfold dropF
      rw [List.filter_append]
      congr 1
      by_cases he : r.1 = id <;> simp [he]
    by_cases he : r.1 = id
    · rw [show (!decide (r.1 = id)) = false by simp [he]]
      refine JOIN_elim fun K hK => (COND_false _ _).2 ?_
      subst hK
      rw [if_pos he, List.append_nil] at hd1
      exact BND_step (add1 (by omega)) ⟨⟨i + 1, H, rfl, by rw [hd1]; exact s3, hH, g13, f3, hlt⟩, by simp; omega⟩
    · rw [show (!decide (r.1 = id)) = true by simp [he]]
      refine JOIN_elim fun K hK => (COND_true _ _).2 ?_
      rw [if_neg he] at hd1
      refine BND_step (nilchk_ptr _) <| BND_step (faddr_ptr _ _ _) <| BND_step (v := sv) (load1_blk h1) <| BND_step ei <| BND_step (h2.loadn hx rfl) <| newone_step encRow_len rfl fun t w5 s5 f5 z5 => ?_
      refine APPEND_slc (s3.fr f5 (by simp)) (s5.loads encRow_len) encRow_len encRow_one rfl (by simp; omega) (by simp; omega) fun to' w6 H' s6 f6 sub => ?_
      subst hK
      have g3 := f3.grow
      have g5 := f5.grow
      have g6 := f6.grow
      refine BND_step (add1 (by omega)) ⟨⟨i + 1, H', rfl, by rw [hd1]; exact s6, fun b hb => ?_, by omega, ?_, hlt⟩, by simp; omega⟩
      · rcases sub b hb with h | h
        · exact hH b h
        · omega
      · exact (f3.trans' f5).trans f6 fun b hb => .inr (by have := hH b hb; omega)
  · refine COND_dec_false (by omega) ?_
    rw [List.take_of_length_le (by omega)] at s3
    have hlow : ∀ b ∈ Fa ++ Fc, b < hsz w := fun b hb => h.lt b (by simp at hb ⊢; exact .inr hb)
    have hd : d < hsz w := h.lt d (by simp)
    have hdH : d ∉ H := fun hb => by have := hH d hb; omega
    obtain ⟨w4, e4, r4, f4⟩ := ref_store0 h1 s3 h3 hdH h6 (fun b hb hb' => by have := hH b hb; have := hlow b (by simp [hb']); omega)
    refine BND_step (nilchk_ptr _) <| BND_step (faddr_ptr _ _ _) <| BND_step e4 <| hR w4 _ r4 (fun b hb => ?_) (f3.nil.trans' (f4.wider (by simp)))
    rcases List.mem_cons.1 hb with rfl | hb
    · exact .inl (by simp)
    rcases List.mem_append.1 hb with hb | hb
    · have := hH b hb; exact .inr (by omega)
    · exact .inl (by simp [hb])
theorem rf_Add (h : RefOwn w d rows last seen F) (hn : rows.length < 1000000) (h0 : 0 ≤ last) (h1 : last < 18446744073709551615) (id : Int)
    (hR : ∀ w' F', RefOwn w' d (addR rows last id) (addL rows last id) seen F' → (∀ b ∈ F', b ∈ F ∨ hsz w ≤ b) → Fr F w w' → R (.bool !(hasI rows id)) w') : CALL PR F_tumbrelref10_Dead_Add [.pointer (some ⟨d, 0, none⟩), .int .u64 id] w R := by
  refine C_tumbrelref10_Dead_Add ?_
  unfold M_tumbrelref10_Dead_Add
  refine rf_Has h (by omega) id fun w1 f1 => ?_
  have g1 := h.fr0 f1
  cases hh : hasI rows id with
  | true =>
    refine (COND_true _ _).2 ?_
    have := hR w1 F (by simp only [addR, addL, hh, cond_true]; exact g1) (fun b hb => .inl hb) f1.nil
    rw [hh] at this
    exact this
  | false =>
    refine (COND_false _ _).2 ?_
    have hR2 := hR
    rw [hh] at hR2
    simp only [addR, addL, hh, cond_false] at hR2
    obtain ⟨w2, e2, r2, f2⟩ := ref_store1 (l' := last + 1) g1
    have hl : load1 w1 (.pointer (some ⟨d, 1, none⟩)) = some (.int .u64 last) := by
      obtain ⟨sv, sc, Fa, Fc, T, b1, _⟩ := g1
      exact load1_blk b1
    refine BND_step (nilchk_ptr _) <| BND_step (faddr_ptr _ _ _) <| BND_step hl <| BND_step (v := .int .u64 (last + 1)) (by rw [binv_add, wrap_u64 (by omega) (by omega)]) ?_
    refine BND_step (nilchk_ptr _) <| BND_step (faddr_ptr _ _ _) <| BND_step e2 ?_
    have r3 := r2.fr0 (Fr.drew [] w2)
    have f3 : Fr [d] w1 w2.drew := f2.trans' (Fr.drew _ _)
    generalize w2.drew = w3 at r3 f3
    have hlow : ∀ b ∈ F, b < hsz w3 := r3.lt
    obtain ⟨sv, sc, Fa, Fc, T, b1, b2, b3, rfl, c5, c6, c7⟩ := r3
    refine ⟨fun _ w' => blk w' d = some (.cells #[sv, .int .u64 (last + 1), sc] T (0, 0)), b1, b1, ?_⟩
    refine BND_step (nilchk_ptr _) <| BND_step (faddr_ptr _ _ _) <| FLT.mk sv (fun w' hw => load1_blk hw) <| BND_step (nilchk_ptr _) <| BND_step (faddr_ptr _ _ _) <| FLT.mk (.int .u64 (last + 1)) (fun w' hw => load1_blk hw) <|
      BND_step (v := .agg (encRow (id, last + 1)).toArray) rfl ?_
    have hg1 := f1.grow
    have hg3 := f3.grow
    have hgw : hsz w ≤ hsz w3 := by omega
    -- behind the last of the two
    have fin : ∀ (wX : World) (t22 t29 : Value) (Gx Gy : List Nat) (K : World → Prop), (∀ w', Fr (d :: (Fa ++ Fc)) w3 w' → ∀ F', RefOwn w' d (rows ++ [(id, last + 1)]) (last + 1) seen F' → (∀ b ∈ F', b ∈ d :: (Fa ++ Fc) ∨ hsz w3 ≤ b) → K w') →
        Slc encRow 2 wX t22 rows Gx → Slc encRow 2 wX t29 [(id, last + 1)] Gy → (∀ b ∈ Gx, hsz w3 ≤ b) → Fr [] w3 wX →
        APPEND 49 2 16 (Value.agg #[(Value.int .u64 0), (Value.int .u64 0)]) t22 t29 wX fun t30 w7 => BND (nilchk (.pointer (some ⟨d, 0, none⟩))) fun t31 => BND (faddr 0 t31) fun t32 => BND (storev 1 w7 t32 t30) fun w8 => K w8 := by
      intro wX t22 t29 Gx Gy K hK sx sy hx fx
      refine APPEND_slc sx (sy.loads encRow_len) encRow_len encRow_one rfl (by simp; omega) (by simp; omega) fun t30 w7 G7 s7 f7 sub => ?_
      have hd3 : d < hsz w3 := hlow d (by simp)
      have zx := fx.grow
      have hG7 : ∀ b ∈ G7, hsz w3 ≤ b := fun b hb => by
        rcases sub b hb with h | h
        · exact hx b h
        · omega
      have f37 : Fr [] w3 w7 := fx.trans f7 fun b hb => .inr (hx b hb)
      have b1' := f37.some (by simp) b1
      obtain ⟨w8, e8, r8, f8⟩ := ref_store0 b1' s7 (b3.fr f37 (by simp)) (fun hb => by have := hG7 d hb; omega) c6 (fun b hb hb' => by have := hG7 b hb; have := hlow b (by simp [hb']); omega)
      refine BND_step (nilchk_ptr _) <| BND_step (faddr_ptr _ _ _) <| BND_step e8 <| hK w8 (f37.nil.trans' (f8.wider (by simp))) _ r8 fun b hb => ?_
      rcases List.mem_cons.1 hb with rfl | hb
      · exact .inl (by simp)
      rcases List.mem_append.1 hb with hb | hb
      · exact .inr (hG7 b hb)
      · exact .inl (by simp [hb])
    refine JOIN_elim fun K hK => ?_
    have hK2 : ∀ w', Fr (d :: (Fa ++ Fc)) w3 w' → ∀ F', RefOwn w' d (rows ++ [(id, last + 1)]) (last + 1) seen F' → (∀ b ∈ F', b ∈ d :: (Fa ++ Fc) ∨ hsz w3 ≤ b) → K w' := by
      intro w' f' F' r' sub'
      subst hK
      refine hR2 w' F' r' (fun b hb => (sub' b hb).imp_right fun h => by omega) ?_
      exact f1.nil.trans' ((f3.wider (by simp)).trans' f')
    clear hK
    have old : ∀ {wa wb : World} {G : List Nat}, Fr [] w3 wa → (∀ b ∈ G, hsz w3 ≤ b) → Fr G wa wb → Fr [] w3 wb := fun fa hG fb => fa.trans fb fun b hb => .inr (hG b hb)
    refine ⟨?_, ?_, ?_⟩
    · refine newnil_step encRow fun t17 w4 s4 f4 z4 => ⟨f4.some (by simp) b1, f4.some (by simp) b1, ?_⟩
      refine APPEND_slc s4 ((b2.fr f4 (by simp)).loads encRow_len) encRow_len encRow_one rfl (by simp; omega) (by simp; omega) fun t22 w5 G5 s5 f5 sub5 => ?_
      have hG5 : ∀ b ∈ G5, hsz w3 ≤ b := fun b hb => by
        have := f4.grow
        rcases sub5 b hb with h | h
        · simp at h; omega
        · omega
      have f35 := old f4 (by simp) f5
      refine ⟨f35.some (by simp) b1, newone_step encRow_len rfl fun t29 w6 s6 f6 z6 => ⟨(f35.trans' f6).some (by simp) b1, ?_⟩⟩
      exact fin w6 t22 t29 G5 _ K hK2 (by simpa using s5.fr f6 (by simp)) s6 hG5 (f35.trans' f6)
    · refine newnil_step encRow fun t17 w4 s4 f4 z4 => ⟨f4.some (by simp) b1, f4.some (by simp) b1, ?_⟩
      refine newone_step encRow_len rfl fun t29 w5 s5 f5 z5 => ⟨(f4.trans' f5).some (by simp) b1, ?_⟩
      have f35 := f4.trans' f5
      refine APPEND_slc (s4.fr f5 (by simp)) ((b2.fr f35 (by simp)).loads encRow_len) encRow_len encRow_one rfl (by simp; omega) (by simp; omega) fun t22 w6 G6 s6 f6 sub6 => ?_
      have hG6 : ∀ b ∈ G6, hsz w3 ≤ b := fun b hb => by
        have := f35.grow
        rcases sub6 b hb with h | h
        · simp at h; omega
        · omega
      have f36 := old f35 (by simp) f6
      refine ⟨f36.some (by simp) b1, ?_⟩
      exact fin w6 t22 t29 G6 _ K hK2 (by simpa using s6) (s5.fr f6 (fun b hb => by simp at hb ⊢; have := f4.grow; omega)) hG6 f36
    · refine newone_step encRow_len rfl fun t29 w4 s4 f4 z4 => ⟨f4.some (by simp) b1, ?_⟩
      refine newnil_step encRow fun t17 w5 s5 f5 z5 => ⟨(f4.trans' f5).some (by simp) b1, (f4.trans' f5).some (by simp) b1, ?_⟩
      have f35 := f4.trans' f5
      refine APPEND_slc s5 ((b2.fr f35 (by simp)).loads encRow_len) encRow_len encRow_one rfl (by simp; omega) (by simp; omega) fun t22 w6 G6 s6 f6 sub6 => ?_
      have hG6 : ∀ b ∈ G6, hsz w3 ≤ b := fun b hb => by
        have := f35.grow
        have := f4.grow
        rcases sub6 b hb with h | h
        · simp at h; omega
        · omega
      have f36 : Fr [] w3 w6 := f35.trans f6 fun b hb => by simp at hb; have := f4.grow; exact .inr (by omega)
      refine ⟨f36.some (by simp) b1, ?_⟩
      exact fin w6 t22 t29 G6 _ K hK2 (by simpa using s6) ((s4.fr f5 (by simp)).fr f6 (fun b hb => by simp at hb ⊢; omega)) hG6 f36
theorem posA_add (nm : ByteArray) : ∀ (S : Seen) (i : Nat), (∀ (j : Nat) c, j < i → S[j]? = some c → lessZ (rz c.1) (rz nm) = true) → i ≤ S.length → posA nm S = i + posA nm (S.drop i)
  | S, 0, _, _ => by simp
  | [], i + 1, _, h => by simp at h
  | c :: S, i + 1, hb, h => by
    have h0 := hb 0 c (by omega) rfl
    have := posA_add nm S i (fun j x hj hx => hb (j + 1) x (by omega) (by simpa using hx)) (by simpa using h)
    rw [posA, if_pos h0, this, List.drop_succ_cons]
    omega

theorem rf_Next (h : RefOwn w d rows last seen F) (hn : rows.length < 1000000) (hs8 : seen.length ≤ 8) (hsmall : ∀ p ∈ seen, p.1.size < 1000000) {name : ByteArray} (hs : name.size < 100000) (n : Int)
    (hR : ∀ w' v F' G, RefOwn w' d rows last (refN rows seen name n).seen F' → Slc encU 1 w' v (refN rows seen name n).out G → (∀ b ∈ F', b ∈ F ∨ hsz w ≤ b) → (∀ b ∈ G, hsz w ≤ b ∧ b ∉ F') → Fr F w w' → R (.tuple #[v, .int .i64 (refN rows seen name n).err]) w') :
    CALL PR F_tumbrelref10_Dead_Next [.pointer (some ⟨d, 0, none⟩), .string name, .int .i64 n] w R := by
  refine C_tumbrelref10_Dead_Next ?_
  unfold M_tumbrelref10_Dead_Next
  have hfs : (txt (foldB name.data.toList)).size < 1000000 := by
    rw [txt_size]
    have := foldB_len name.data.toList
    rw [list_len] at this
    omega
  refine rf_Fold (by omega) fun w1 f1 => ?_
  -- an error
  have hfail : ∀ w2 e, Fr [] w w2 → refN rows seen name n = ⟨[], e, seen⟩ → R (.tuple #[.slice none 0 0, .int .i64 e]) w2 := by
    intro w2 e f2 he
    have := hR w2 (.slice none 0 0) F []
    rw [he] at this
    exact this (h.fr0 f2) (Slc.nil _ _ _) (fun b hb => .inl hb) (by simp) f2.nil
  refine BND_step (binv_lss _ _ _ _) ?_
  by_cases hn1 : n < 1
  · simp only [hn1, decide_true, isB_tf, grd_false, GEF_false, BND_some, pickv_true, COND_true]
    exact hfail w1 1 f1 (by unfold refN; rw [if_pos (.inl hn1)])
  simp only [hn1, decide_false, isB_ff, grd_true, GEF_true]
  refine BND_step rfl <| rf_Right (by omega) fun w2 f2 => BND_step (unv_not _) <| BND_step (pickv_false _ _) ?_
  rw [txt_list]
  have f2' := f1.trans' f2
  cases hr : rightB (foldB name.data.toList) with
  | false => exact (COND_true _ _).2 (hfail w2 1 f2' (by unfold refN; rw [if_pos (.inr hr)]))
  | true =>
  refine (COND_false _ _).2 ?_
  have hA : refN rows seen name n = if ¬ hasA (txt (foldB name.data.toList)) seen ∧ 8 ≤ seen.length then ⟨[], 4, seen⟩
      else ⟨(tkR n (plA (txt (foldB name.data.toList)) seen) rows (plA (txt (foldB name.data.toList)) seen) []).1, 0, (insA (txt (foldB name.data.toList)) seen).set (posA (txt (foldB name.data.toList)) seen) (txt (foldB name.data.toList), (tkR n (plA (txt (foldB name.data.toList)) seen) rows (plA (txt (foldB name.data.toList)) seen) []).2)⟩ := by
    unfold refN
    rw [if_neg (by simp [hn1, hr])]
  generalize txt (foldB name.data.toList) = nm at hA hfs
  refine ⟨fun t w' => ∃ i : Nat, t = .int .i64 i ∧ Fr [] w w' ∧ i ≤ seen.length ∧ ∀ (j : Nat) c, j < i → seen[j]? = some c → lessZ (rz c.1) (rz nm) = true, fun t _ => match t with | .int _ k => seen.length - k.toNat | _ => 0,
    ⟨0, rfl, f2', by omega, fun j c hj => by omega⟩, ?_⟩
  rintro _ _ w3 ⟨i, rfl, f3, hi, hless⟩
  have h3 := h.fr0 f3
  -- is who stands there ahead?
  have pre : ∀ K : Value → World → Prop, (∀ (B : Bool) w4, Fr [] w w4 → (B = true → i < seen.length ∧ ∀ c, seen[i]? = some c → lessZ (rz c.1) (rz nm) = true) → (B = false → posA nm seen = i) → K (.bool B) w4) →
      BND (nilchk (.pointer (some ⟨d, 0, none⟩))) fun t23 => BND (faddr 2 t23) fun t24 => BND (load1 w3 t24) fun t25 => BND (lenl t25) fun t26 => BND (binv .int .lss (.int .i64 (i : Int)) t26) fun t27 =>
      BND (grd (isB t27 true) (some (.pointer (some ⟨d, 0, none⟩)))) fun t29 => BND (grd (isB t27 true) (nilchk t29)) fun t30 => BND (grd (isB t27 true) (faddr 2 t30)) fun t31 => BND (grd (isB t27 true) (load1 w3 t31)) fun t32 =>
      BND (grd (isB t27 true) (some (.int .i64 (i : Int)))) fun t33 => BND (grd (isB t27 true) (iaddr 2 t32 t33)) fun t34 => BND (grd (isB t27 true) (faddr 0 t34)) fun t35 => BND (grd (isB t27 true) (load1 w3 t35)) fun t36 =>
      BND (grd (isB t27 true) (some (.string nm))) fun t37 => GEF (isB t27 true) (fun k_ => CALL PR F_tumbrelref03_Less [t36, t37] w3 k_) w3 fun t38 w4 => BND (pickv t27 t38 (Value.bool false)) fun t39 => K t39 w4 := by
    intro K hK
    obtain ⟨sv, sc, Fa, Fc, T, b1, b2, b3, rfl, c5, c6, c7⟩ := h3
    refine BND_step (nilchk_ptr _) <| BND_step (faddr_ptr _ _ _) <| BND_step (v := sc) (load1_blk b1) <| BND_step b3.len <| BND_step (binv_lss _ _ _ _) ?_
    by_cases hlt : i < seen.length
    · have hx := List.getElem?_eq_getElem hlt
      have hsz := hsmall _ (List.mem_of_getElem? hx)
      generalize seen[i] = c at hx hsz
      obtain ⟨b, rfl, ei⟩ := b3.iaddr hlt .i64
      have e1 : decide ((i : Int) < (seen.length : Int)) = true := by simp [hlt]
      rw [e1]
      simp only [isB_tt, grd_true, BND_some, GEF_true]
      refine BND_step (nilchk_ptr _) <| BND_step (faddr_ptr _ _ _) <| BND_step (v := sc) (load1_blk b1) <| BND_step ei <| BND_step (faddr_ptr _ _ _) <| BND_step (v := .string c.1) ((b3.load1 (j := 0) hx (by omega)).trans rfl) <| rf_Less hsz hfs fun w4 f4 => BND_step (pickv_true _ _) ?_
      refine hK _ w4 (f3.trans' f4) (fun hB => ⟨hlt, fun c' hc' => by rw [hx] at hc'; cases hc'; exact hB⟩) fun hB => ?_
      rw [posA_add nm seen i hless hi, drop_cons' hx, posA, if_neg (by rw [show lessZ (rz c.1) (rz nm) = false from hB]; simp)]
      rfl
    · have e1 : decide ((i : Int) < (seen.length : Int)) = false := by simp; omega
      rw [e1]
      simp only [isB_ft, grd_false, BND_some, GEF_false, pickv_false]
      refine hK false w3 f3 (fun hB => by cases hB) fun _ => ?_
      rw [posA_add nm seen i hless hi, List.drop_of_length_le (by omega)]
      simp [posA]
  refine pre _ fun B w4 f4 hB1 hB0 => ?_
  clear pre
  cases B with
  | true =>
    obtain ⟨hlt, hl⟩ := hB1 rfl
    refine (COND_true _ _).2 <| BND_step (add1 (by omega)) ⟨⟨i + 1, rfl, f4, hlt, fun j c hj hc => ?_⟩, by simp; omega⟩
    by_cases hji : j = i
    · subst hji; exact hl c hc
    · exact hless j c (by omega) hc
  | false =>
  refine (COND_false _ _).2 ?_
  have hpos := hB0 rfl
  clear hB0 hB1
  have h4 := h.fr0 f4
  -- is it the one that is asked?
  have pre : ∀ K : Value → Prop, K (.bool (!decide (hasA nm seen))) →
      BND (nilchk (.pointer (some ⟨d, 0, none⟩))) fun t44 => BND (faddr 2 t44) fun t45 => BND (load1 w4 t45) fun t46 => BND (lenl t46) fun t47 => BND (binv .int .eql (.int .i64 (i : Int)) t47) fun t48 =>
      BND (grd (isB t48 false) (some (.pointer (some ⟨d, 0, none⟩)))) fun t50 => BND (grd (isB t48 false) (nilchk t50)) fun t51 => BND (grd (isB t48 false) (faddr 2 t51)) fun t52 => BND (grd (isB t48 false) (load1 w4 t52)) fun t53 =>
      BND (grd (isB t48 false) (some (.int .i64 (i : Int)))) fun t54 => BND (grd (isB t48 false) (iaddr 2 t53 t54)) fun t55 => BND (grd (isB t48 false) (faddr 0 t55)) fun t56 => BND (grd (isB t48 false) (load1 w4 t56)) fun t57 =>
      BND (grd (isB t48 false) (some (.string nm))) fun t58 => BND (grd (isB t48 false) (binv .str .neq t57 t58)) fun t59 => BND (pickv t48 (Value.bool true) t59) fun t60 => K t60 := by
    intro K hK
    obtain ⟨sv, sc, Fa, Fc, T, b1, b2, b3, rfl, c5, c6, c7⟩ := h4
    refine BND_step (nilchk_ptr _) <| BND_step (faddr_ptr _ _ _) <| BND_step (v := sc) (load1_blk b1) <| BND_step b3.len <| BND_step (binv_eql _ _ _ _) ?_
    have hK' : ∀ B : Bool, (B = true ↔ hasA nm seen) → K (.bool !B) := fun B hB => by
      have : B = decide (hasA nm seen) := by
        by_cases hx : hasA nm seen
        · rw [decide_eq_true hx]; exact hB.2 hx
        · rw [decide_eq_false hx]
          cases B with
          | false => rfl
          | true => exact absurd (hB.1 rfl) hx
      rw [this]; exact hK
    by_cases hlt : i < seen.length
    · have hx := List.getElem?_eq_getElem hlt
      generalize seen[i] = c at hx
      obtain ⟨b, rfl, ei⟩ := b3.iaddr hlt .i64
      have e1 : decide ((i : Int) = (seen.length : Int)) = false := by simp; omega
      rw [e1]
      simp only [isB_ff, grd_true, BND_some]
      refine BND_step (nilchk_ptr _) <| BND_step (faddr_ptr _ _ _) <| BND_step (v := sc) (load1_blk b1) <| BND_step ei <| BND_step (faddr_ptr _ _ _) <| BND_step (v := .string c.1) ((b3.load1 (j := 0) hx (by omega)).trans rfl) <| BND_step (str_ned _ _) <| BND_step (pickv_false _ _) ?_
      exact hK' _ (by unfold hasA; rw [hpos, hx]; simp)
    · have e1 : decide ((i : Int) = (seen.length : Int)) = true := by simp; omega
      rw [e1]
      simp only [isB_tf, grd_false, BND_some, pickv_true]
      exact hK' false (by unfold hasA; rw [hpos, List.getElem?_eq_none (by omega)]; simp)
  refine pre _ ?_
  clear pre
  -- behind the last refusal
  refine JOIN_elim fun K hK => ?_
  have hK2 : ∀ w' F', Fr F w w' → RefOwn w' d rows last (insA nm seen) F' → (∀ b ∈ F', b ∈ F ∨ hsz w ≤ b) → ¬ (¬ hasA nm seen ∧ 8 ≤ seen.length) → K w' := by
    intro w5 F5 f5 r5 sub5 hok
    rw [if_neg hok] at hA
    subst hK
    obtain ⟨p0, hp0⟩ := insA_at nm seen
    have hpl : plA nm seen = p0 := by unfold plA; rw [hp0]; rfl
    have hilen := insA_len nm seen
    rw [hpl, hpos] at hA
    rw [hpos] at hp0
    generalize insA nm seen = S1 at r5 hp0 hA hilen
    refine newnil_step encU fun t89 w6 s6 f6 z6 => ?_
    have r6 := r5.fr0 f6
    have hF5 : ∀ b ∈ F5, b < hsz w5 := r5.lt
    have hgw5 := f5.grow
    have hget : S1[i]? = some (nm, p0) := hp0
    have hil : i < S1.length := (List.getElem?_eq_some_iff.1 hget).1
    have hset0 : S1.set i (nm, p0) = S1 := by
      apply List.ext_getElem?
      intro m
      rw [List.getElem?_set]
      split
      · rename_i e; subst e
        first | rw [if_pos hil, hget] | exact hget.symm
      · rfl
    have first : ∀ K' : Value → Prop, K' (.int .u64 p0) → BND (nilchk (.pointer (some ⟨d, 0, none⟩))) fun t91 => BND (faddr 2 t91) fun t92 => BND (load1 w6 t92) fun t93 => BND (iaddr 2 t93 (.int .i64 (i : Int))) fun t95 => BND (faddr 1 t95) fun t96 => BND (load1 w6 t96) fun t97 => K' t97 := by
      intro K' hK'
      obtain ⟨sv, sc, Fa, Fc, T, b1, b2, b3, e0, c5, c6, c7⟩ := r6
      obtain ⟨b, rfl, ei⟩ := b3.iaddr hil .i64
      exact BND_step (nilchk_ptr _) <| BND_step (faddr_ptr _ _ _) <| BND_step (v := sc) (load1_blk b1) <| BND_step ei <| BND_step (faddr_ptr _ _ _) <| BND_step (v := .int .u64 p0) ((b3.load1 (j := 1) hget (by omega)).trans rfl) hK'
    refine first _ ?_
    clear first
    refine ⟨fun to ty w' => ∃ (j : Nat) (p : Int) (out : List Int) (G : List Nat), ty = .int .i64 j ∧ RefOwn w' d rows last (S1.set i (nm, p)) F5 ∧ Slc encU 1 w' to out G ∧ (∀ b ∈ G, hsz w5 ≤ b) ∧ Fr F w w' ∧ hsz w5 ≤ hsz w' ∧ j ≤ rows.length ∧ out.length ≤ j ∧ tkR n p0 (rows.drop j) p out = tkR n p0 rows p0 [],
      fun _ t _ => match t with | .int _ k => rows.length - k.toNat | _ => 0, ⟨0, p0, [], [hsz w5], rfl, by rw [hset0]; exact r6, s6, by simp, f5.trans' f6.nil, f6.grow, by omega, by simp, by simp⟩, ?_⟩
    rintro _ vo _ w7 ⟨j, p, out, G, rfl, r7, s7, hG, f7, g7, hj, hol, hinv⟩
    have r7' := r7
    obtain ⟨sv, sc, Fa, Fc, T, b1, b2, b3, e0, c5, c6, c7⟩ := r7'
    refine BND_step (nilchk_ptr _) <| BND_step (faddr_ptr _ _ _) <| BND_step (v := sv) (load1_blk b1) <| BND_step b2.len <| BND_step (binv_lss _ _ _ _) ?_
    by_cases hlt : j < rows.length
    · refine COND_dec_true (by omega) ?_
      have hx := List.getElem?_eq_getElem hlt
      rw [drop_cons' hx] at hinv
      generalize rows[j] = r at hx hinv
      obtain ⟨ba, rfl, ei⟩ := b2.iaddr hlt .i64
      refine BND_step (nilchk_ptr _) <| BND_step (faddr_ptr _ _ _) <| BND_step (v := sv) (load1_blk b1) <| BND_step ei <| BND_step (faddr_ptr _ _ _) <| BND_step (v := .int .u64 r.2) ((b2.load1 (j := 1) hx (by omega)).trans rfl) <| BND_step (binv_gtr _ _ _ _) ?_
      have skip : ¬ (p0 < r.2 ∧ (out.length : Int) < n) → BND (binv .int .add (.int .i64 (j : Int)) (Value.int .i64 1)) fun t106 =>
          ((∃ (j : Nat) (p : Int) (out : List Int) (G : List Nat), t106 = .int .i64 j ∧ RefOwn w7 d rows last (S1.set i (nm, p)) F5 ∧ Slc encU 1 w7 vo out G ∧ (∀ b ∈ G, hsz w5 ≤ b) ∧ Fr F w w7 ∧ hsz w5 ≤ hsz w7 ∧ j ≤ rows.length ∧ out.length ≤ j ∧ tkR n p0 (rows.drop j) p out = tkR n p0 rows p0 []) ∧
            (match t106 with | .int _ k => rows.length - k.toNat | _ => 0) < rows.length - (j : Int).toNat) := by
        intro hno
        rw [tkR, if_neg hno] at hinv
        exact BND_step (add1 (by omega)) ⟨⟨j + 1, p, out, G, rfl, r7, s7, hG, f7, g7, hlt, by omega, hinv⟩, by simp; omega⟩
      by_cases hp : p0 < r.2
      · simp only [hp, decide_true, isB_tt, grd_true, BND_some]
        refine BND_step s7.len <| BND_step (binv_lss _ _ _ _) <| BND_step (pickv_true _ _) ?_
        by_cases hlen : (out.length : Int) < n
        · refine JOIN_elim fun K hK => COND_dec_true hlen ?_
          refine BND_step (nilchk_ptr _) <| BND_step (faddr_ptr _ _ _) <| BND_step (v := sv) (load1_blk b1) <| BND_step ei <| BND_step (faddr_ptr _ _ _) <| BND_step (v := .int .u64 r.1) ((b2.load1 (j := 0) hx (by omega)).trans rfl) <|
            newone_step (enc := encU) (x := r.1) encU_len rfl fun t w9 s9 f9 z9 => ?_
          refine APPEND_slc (s7.fr f9 (by simp)) (s9.loads encU_len) encU_len encU_one rfl (by simp; omega) (by simp; omega) fun to' w10 G' s10 f10 sub => ?_
          subst hK
          have hGF : ∀ b ∈ F5, b ∉ G := fun b hb hb' => by have := hF5 b hb; have := hG b hb'; omega
          have r10 := (r7.fr f9 (by simp)).fr f10 hGF
          have r11 := r10.fr0 (Fr.drew [] w10)
          have s11 : Slc encU 1 w10.drew to' (out ++ [r.1]) G' := s10.fr (Fr.drew [] w10) (by simp)
          have g9 := f9.grow
          have g10 := f10.grow
          have f11 : Fr F w w10.drew := ((f7.trans f9 (by simp)).trans f10 fun b hb => .inr (by have := hG b hb; omega)).trans' (Fr.drew _ _)
          have z11 : hsz w10 = hsz w10.drew := rfl
          have hG' : ∀ b ∈ G', hsz w5 ≤ b := fun b hb => by
            rcases sub b hb with h | h
            · exact hG b h
            · omega
          generalize w10.drew = w11 at r11 s11 f11 z11
          obtain ⟨sv', sc', Fa', Fc', T', b1', b2', b3', e0', c5', c6', c7'⟩ := r11
          obtain ⟨ba', rfl, ei'⟩ := b2'.iaddr hlt .i64
          have hget' : (S1.set i (nm, p))[i]? = some (nm, p) := by rw [List.getElem?_set, if_pos rfl, if_pos hil]
          obtain ⟨bc, rfl, ec⟩ := b3'.iaddr (i := i) (by rw [List.length_set]; exact hil) .i64
          obtain ⟨w12, e12, s12, f12, keep12⟩ := b3'.set1 (i := i) (j := 1) (y := (nm, r.2)) (u := .int .u64 r.2) hget' (by omega) (fun m hm => by
            match m, hm with
            | 0, _ => rfl
            | 1, _ => rfl) rfl rfl
          refine BND_step (nilchk_ptr _) <| BND_step (faddr_ptr _ _ _) <| BND_step (nilchk_ptr _) <| BND_step (faddr_ptr _ _ _) <| BND_step (v := sc') (load1_blk b1') <| BND_step (v := sv') (load1_blk b1') <| BND_step ei' <| BND_step (faddr_ptr _ _ _) <|
            BND_step (v := .int .u64 r.2) ((b2'.load1 (j := 1) hx (by omega)).trans rfl) <| BND_step ec <| BND_step (faddr_ptr _ _ _) <| BND_step e12 <| BND_step (add1 (by omega)) ⟨⟨j + 1, r.2, out ++ [r.1], G', rfl, ?_, ?_, hG', ?_, ?_, hlt, by simp; omega, ?_⟩, by simp; omega⟩
          · rw [List.set_set] at s12
            exact ⟨sv', sc', [ba'], [bc], T', f12.some c6' b1', b2'.fr f12 c7', s12, e0', c5', c6', c7'⟩
          · refine s11.fr f12 fun b hb hb' => ?_
            simp at hb'; subst hb'
            have := hG' b hb
            have := hF5 b (by rw [e0']; simp)
            omega
          · refine f11.trans f12 fun b hb => ?_
            simp at hb; subst hb
            exact sub5 b (by rw [e0']; simp)
          · have := f12.grow; omega
          · rw [tkR, if_pos ⟨hp, hlen⟩] at hinv
            exact hinv
        · refine JOIN_elim fun K hK => COND_dec_false hlen ?_
          subst hK
          exact skip (fun h => hlen h.2)
      · simp only [hp, decide_false, isB_ft, grd_false, BND_some, pickv_false]
        refine JOIN_elim fun K hK => (COND_false _ _).2 ?_
        subst hK
        exact skip (fun h => hp h.1)
    · refine COND_dec_false (by omega) ?_
      rw [List.drop_of_length_le (by omega)] at hinv
      have hfin : tkR n p0 rows p0 [] = (out, p) := by rw [← hinv]; rfl
      rw [hfin] at hA
      have := hR w7 _ F5 G (by rw [hA]; exact r7) (by rw [hA]; exact s7) sub5 (fun b hb => ⟨by have := hG b hb; omega, fun hb' => by have := hG b hb; have := hF5 b hb'; omega⟩) f7
      rw [hA] at this
      exact this
  clear hK
  by_cases hh : hasA nm seen
  · rw [show (!decide (hasA nm seen)) = false by simp [hh]]
    refine (COND_false _ _).2 (hK2 w4 F f4.nil ?_ (fun b hb => .inl hb) (fun hx => hx.1 hh))
    have : insA nm seen = seen := by unfold insA; rw [if_pos hh]
    rw [this]; exact h4
  rw [show (!decide (hasA nm seen)) = true by simp [hh]]
  refine (COND_true _ _).2 ?_
  have hlow4 : ∀ b ∈ F, b < hsz w4 := h4.lt
  have h5 := h4.fr0 (Fr.drew [] w4)
  have f5 : Fr [] w w4.drew := f4.trans' (Fr.drew _ _)
  obtain ⟨sv, sc, Fa, Fc, T, b1, b2, b3, rfl, c5, c6, c7⟩ := h4
  refine BND_step (nilchk_ptr _) <| BND_step (faddr_ptr _ _ _) <| BND_step (v := sc) (load1_blk b1) <| BND_step b3.len <| BND_step (binv_geq _ _ _ _) ?_
  by_cases h8 : 8 ≤ seen.length
  · exact COND_dec_true (by omega) (hfail w4 4 f4 (by rw [hA, if_pos ⟨hh, h8⟩]))
  refine COND_dec_false (by omega) ?_
  have b1' : blk w4.drew d = some (.cells #[sv, .int .u64 last, sc] T (0, 0)) := b1
  have b2' := b2.fr (Fr.drew [] w4) (by simp)
  have b3' := b3.fr (Fr.drew [] w4) (by simp)
  have hlow5 : ∀ b ∈ d :: (Fa ++ Fc), b < hsz w4.drew := hlow4
  generalize w4.drew = w5 at f5 b1' b2' b3' h5 hlow5
  obtain ⟨tt, et, st⟩ := b3'.upto encC_len (n := i) hi .i64
  obtain ⟨tf, ef, sf⟩ := b3'.from encC_len (n := i) hi .i64
  refine ⟨fun _ w' => blk w' d = some (.cells #[sv, .int .u64 last, sc] T (0, 0)), b1', b1', ?_⟩
  refine BND_step (nilchk_ptr _) <| BND_step (faddr_ptr _ _ _) <| FLT.mk sc (fun w' hw => load1_blk hw) <| BND_step et <| BND_step (v := .agg (encC (nm, 0)).toArray) rfl <| BND_step (nilchk_ptr _) <| BND_step (faddr_ptr _ _ _) <| FLT.mk sc (fun w' hw => load1_blk hw) <| BND_step ef ?_
  have hins : insA nm seen = seen.take i ++ [(nm, 0)] ++ seen.drop i := by unfold insA; rw [if_neg hh, hpos]
  have hgw : hsz w ≤ hsz w5 := f5.grow
  have keepc : ∀ w', Fr [] w5 w' → ∀ b ∈ Fc, blk w' b = blk w5 b := fun w' f' b hb => f'.keep b (hlow5 b (by simp [hb])) (by simp)
  have htl : (seen.take i).length = i := by rw [List.length_take]; omega
  have fin : ∀ (wX : World) (t75 t78 : Value) (Gx Gy : List Nat) (K' : World → Prop), (∀ w' F', Fr (d :: (Fa ++ Fc)) w w' → RefOwn w' d rows last (insA nm seen) F' → (∀ b ∈ F', b ∈ d :: (Fa ++ Fc) ∨ hsz w ≤ b) → K' w') →
      Slc encC 2 wX t75 (seen.take i) Gx → Slc encC 2 wX t78 [(nm, 0)] Gy → (∀ b ∈ Gx, hsz w5 ≤ b) → Fr [] w5 wX →
      APPEND 52 2 24 (Value.agg #[(Value.string ByteArray.empty), (Value.int .u64 0)]) t75 t78 wX fun t79 w16 => (blk w16 d = some (.cells #[sv, .int .u64 last, sc] T (0, 0))) ∧
      APPEND 52 2 24 (Value.agg #[(Value.string ByteArray.empty), (Value.int .u64 0)]) t79 tf w16 fun t86 w17 => BND (nilchk (.pointer (some ⟨d, 0, none⟩))) fun t87 => BND (faddr 2 t87) fun t88 => BND (storev 1 w17 t88 t86) fun w18 => K' w18 := by
    intro wX t75 t78 Gx Gy K' hK' sx sy hx fx
    refine APPEND_slc sx (sy.loads encC_len) encC_len encC_one rfl (by simp; omega) (by simp; omega) fun t79 w16 G16 s16 f16 sub16 => ?_
    have zx := fx.grow
    have hG16 : ∀ b ∈ G16, hsz w5 ≤ b := fun b hb => by
      rcases sub16 b hb with h | h
      · exact hx b h
      · omega
    have f516 : Fr [] w5 w16 := fx.trans f16 fun b hb => .inr (hx b hb)
    have z16 := f516.grow
    refine ⟨f516.some (by simp) b1', ?_⟩
    refine APPEND_slc s16 (sf w16 (keepc w16 f516)) encC_len encC_one rfl (by simp; omega) (by simp; omega) fun t86 w17 G17 s17 f17 sub17 => ?_
    have hG17 : ∀ b ∈ G17, hsz w5 ≤ b := fun b hb => by
      rcases sub17 b hb with h | h
      · exact hG16 b h
      · omega
    have f517 : Fr [] w5 w17 := f516.trans f17 fun b hb => .inr (hG16 b hb)
    rw [← hins] at s17
    obtain ⟨w18, e18, r18, f18⟩ := ref_store2 (f517.some (by simp) b1') (b2'.fr f517 (by simp)) s17 c5 (fun hb => by have := hG17 d hb; have := hlow5 d (by simp); omega) (fun b hb hb' => by have := hG17 b hb'; have := hlow5 b (by simp [hb]); omega)
    refine BND_step (nilchk_ptr _) <| BND_step (faddr_ptr _ _ _) <| BND_step e18 <| hK' w18 _ ((f5.trans' f517).nil.trans' (f18.wider (by simp))) r18 fun b hb => ?_
    rcases List.mem_cons.1 hb with rfl | hb
    · exact .inl (by simp)
    rcases List.mem_append.1 hb with hb | hb
    · exact .inl (by simp [hb])
    · have := hG17 b hb; exact .inr (by omega)
  refine JOIN_elim fun K' hK' => ?_
  have hK3 : ∀ w' F', Fr (d :: (Fa ++ Fc)) w w' → RefOwn w' d rows last (insA nm seen) F' → (∀ b ∈ F', b ∈ d :: (Fa ++ Fc) ∨ hsz w ≤ b) → K' w' := by
    intro w' F' a1 a2 a3
    subst hK'
    exact hK2 w' F' a1 a2 a3 (fun hx => h8 hx.2)
  clear hK'
  refine ⟨?_, ?_, ?_⟩
  · refine newnil_step encC fun t68 w6 s6 f6 z6 => ⟨f6.some (by simp) b1', f6.some (by simp) b1', ?_⟩
    refine APPEND_slc s6 (st w6 (keepc w6 f6)) encC_len encC_one rfl (by simp; omega) (by simp; omega) fun t75 w7 G7 s7 f7 sub7 => ?_
    have z6' := f6.grow
    have hG7 : ∀ b ∈ G7, hsz w5 ≤ b := fun b hb => by
      rcases sub7 b hb with h | h
      · simp at h; omega
      · omega
    have f57 : Fr [] w5 w7 := f6.trans f7 fun b hb => by simp at hb; exact .inr (by omega)
    refine ⟨f57.some (by simp) b1', newone_step encC_len rfl fun t78 w8 s8 f8 z8 => ⟨(f57.trans' f8).some (by simp) b1', (f57.trans' f8).some (by simp) b1', ?_⟩⟩
    exact fin w8 t75 t78 G7 _ K' hK3 (by simpa using s7.fr f8 (by simp)) s8 hG7 (f57.trans' f8)
  · refine newnil_step encC fun t68 w6 s6 f6 z6 => ⟨f6.some (by simp) b1', f6.some (by simp) b1', ?_⟩
    refine newone_step encC_len rfl fun t78 w7 s7 f7 z7 => ⟨(f6.trans' f7).some (by simp) b1', (f6.trans' f7).some (by simp) b1', ?_⟩
    have f57 := f6.trans' f7
    have z6' := f6.grow
    have z7' := f57.grow
    refine APPEND_slc (s6.fr f7 (by simp)) (st w7 (keepc w7 f57)) encC_len encC_one rfl (by simp; omega) (by simp; omega) fun t75 w8 G8 s8 f8 sub8 => ?_
    have hG8 : ∀ b ∈ G8, hsz w5 ≤ b := fun b hb => by
      rcases sub8 b hb with h | h
      · simp at h; omega
      · omega
    have f58 : Fr [] w5 w8 := f57.trans f8 fun b hb => by simp at hb; exact .inr (by omega)
    refine ⟨f58.some (by simp) b1', ?_⟩
    exact fin w8 t75 t78 G8 _ K' hK3 (by simpa using s8) (s7.fr f8 (fun b hb => by simp at hb ⊢; omega)) hG8 f58
  · refine newone_step encC_len rfl fun t78 w6 s6 f6 z6 => ⟨f6.some (by simp) b1', f6.some (by simp) b1', ?_⟩
    refine newnil_step encC fun t68 w7 s7 f7 z7 => ⟨(f6.trans' f7).some (by simp) b1', (f6.trans' f7).some (by simp) b1', ?_⟩
    have f57 := f6.trans' f7
    have z6' := f6.grow
    have z7' := f57.grow
    refine APPEND_slc s7 (st w7 (keepc w7 f57)) encC_len encC_one rfl (by simp; omega) (by simp; omega) fun t75 w8 G8 s8 f8 sub8 => ?_
    have hG8 : ∀ b ∈ G8, hsz w5 ≤ b := fun b hb => by
      rcases sub8 b hb with h | h
      · simp at h; omega
      · omega
    have f58 : Fr [] w5 w8 := f57.trans f8 fun b hb => by simp at hb; exact .inr (by omega)
    refine ⟨f58.some (by simp) b1', ?_⟩
    exact fin w8 t75 t78 G8 _ K' hK3 (by simpa using s8) ((s6.fr f7 (by simp)).fr f8 (fun b hb => by simp at hb ⊢; omega)) hG8 f58
end
end Go.Proofs.Ythcbcolnahbihaa
