/- Add, Drop of the list of the dead. No condition but sizes. -/
import Derived.Test.YthcbcolnahbihaaDeadBase
import Derived.Test.YthcbcolnahbihaaMa
namespace Go.Proofs.Ythcbcolnahbihaa
open Go.Den

def addR (rows : List Row) (last id : Int) : List Row := bif hasI rows id then rows else rows ++ [(id, last + 1)]
def addL (rows : List Row) (last id : Int) : Int := bif hasI rows id then last else last + 1
section
variable {w : World} {d : Nat} {rows : List Row} {last : Int} {seen : Seen} {F : List Nat} {R : Value → World → Prop}
theorem dd_Add (h : DeadOwn w d rows last seen F) (hn : rows.length < 1000000000) (h0 : 0 ≤ last) (h1 : last < 18446744073709551615) (id : Int)
    (hR : ∀ w' F', DeadOwn w' d (addR rows last id) (addL rows last id) seen F' → (∀ b ∈ F', b ∈ F ∨ hsz w ≤ b) → Fr F w w' → R (.bool !(hasI rows id)) w') :
    CALL PR F_dead_Dead_Add [.pointer (some ⟨d, 0, none⟩), .int .u64 id] w R := by
  refine C_dead_Dead_Add ?_
  unfold M_dead_Dead_Add
  refine dd_Has h hn id fun w1 f1 => ?_
  have g1 := h.fr0 f1
  cases hh : hasI rows id with
  | true =>
    refine (COND_true _ _).2 ?_
    have := hR w1 F (by simp only [addR, addL, hh, cond_true]; exact g1) (fun b hb => .inl hb) f1.nil
    rw [hh] at this
    exact this
  | false =>
    refine (COND_false _ _).2 ?_
    have hR2 := hR
    rw [hh] at hR2
    simp only [addR, addL, hh, cond_false] at hR2
    obtain ⟨sv, Fa, T, mb, es, ck, b1, b2, b3, b4, rfl, c1, c2, c3⟩ := g1
    refine BND_step (nilchk_ptr _) <| BND_step (faddr_ptr _ _ _) <| BND_step (v := .int .u64 last) (load1_blk b1) <| BND_step (v := .int .u64 (last + 1)) (by rw [binv_add, wrap_u64 (by omega) (by omega)]) ?_
    refine BND_step (nilchk_ptr _) <| BND_step (faddr_ptr _ _ _) <| BND_step (storev1_blk b1 (by simp) rfl rfl) ?_
    have e2 := blk_setB_same (o := .cells (#[sv, .int .u64 last, .map (some mb)].setIfInBounds (0 + 1) (.int .u64 (last + 1))) T (0, 0)) b1
    have f2 : Fr [d] w1 (setB w1 d (.cells (#[sv, .int .u64 last, .map (some mb)].setIfInBounds (0 + 1) (.int .u64 (last + 1))) T (0, 0))) := Fr.setB (.inl (by simp)) _
    generalize setB w1 d (.cells (#[sv, .int .u64 last, .map (some mb)].setIfInBounds (0 + 1) (.int .u64 (last + 1))) T (0, 0)) = w2 at e2 f2
    have e2' : blk w2.drew d = some (.cells #[sv, .int .u64 (last + 1), .map (some mb)] T (0, 0)) := e2
    have f2' : Fr [d] w1 w2.drew := f2.trans' (Fr.drew _ _)
    generalize w2.drew = w3 at e2' f2'
    refine ⟨fun _ w' => blk w' d = some (.cells #[sv, .int .u64 (last + 1), .map (some mb)] T (0, 0)), e2', ?_⟩
    refine BND_step (nilchk_ptr _) <| BND_step (faddr_ptr _ _ _) <| FLT.mk sv (fun w' hw => load1_blk hw) <| BND_step (nilchk_ptr _) <| BND_step (faddr_ptr _ _ _) <|
      BND_step (v := .int .u64 (last + 1)) (load1_blk e2') <| BND_step (v := .agg (encRow (id, last + 1)).toArray) rfl <| newone_step encRow_len rfl fun t w4 s4 f4 z4 => ⟨f4.some (by simp) e2', ?_⟩
    have b2' := (b2.fr f2' (fun b hb => by simp; rintro rfl; exact c2 hb)).fr f4 (by simp)
    refine APPEND_slc b2' (s4.loads encRow_len) encRow_len encRow_one rfl (by simp; omega) (by simp; omega) fun sv' w5 Fa' s5 f5 sub => ?_
    have e5 := f5.some c2 (f4.some (by simp) e2')
    refine BND_step (nilchk_ptr _) <| BND_step (faddr_ptr _ _ _) <| BND_step (storev1_blk e5 (by simp) s5.one.1 s5.one.2) ?_
    have e6 := blk_setB_same (o := .cells (#[sv, .int .u64 (last + 1), .map (some mb)].setIfInBounds (0 + 0) sv') T (0, 0)) e5
    have f6 : Fr [d] w5 (setB w5 d (.cells (#[sv, .int .u64 (last + 1), .map (some mb)].setIfInBounds (0 + 0) sv') T (0, 0))) := Fr.setB (.inl (by simp)) _
    generalize setB w5 d (.cells (#[sv, .int .u64 (last + 1), .map (some mb)].setIfInBounds (0 + 0) sv') T (0, 0)) = w6 at e6 f6
    have hd1 : d < hsz w1 := blk_lt b1
    have hm1 : mb < hsz w1 := blk_lt b3
    have g2 := f2'.grow
    have g4 := f4.grow
    have hdF : d ∉ Fa' := fun hb => by
      rcases sub d hb with h | h
      · exact c2 h
      · omega
    have hmF : mb ∉ Fa' := fun hb => by
      rcases sub mb hb with h | h
      · exact c3 h
      · omega
    have fall : Fr (d :: mb :: Fa) w1 w6 := by
      refine (f2'.wider (G := d :: mb :: Fa) (by simp)).trans' ?_
      refine (f4.nil).trans' ?_
      exact (f5.wider (G := d :: mb :: Fa) (fun b hb => by simp [hb])).trans' (f6.wider (by simp))
    refine hR2 w6 (d :: mb :: Fa') ⟨sv', Fa', T, mb, es, ck, e6, s5.fr f6 (fun b hb => by simp; rintro rfl; exact hdF hb), ?_, b4, rfl, c1, hdF, hmF⟩ ?_ (f1.nil.trans' fall)
    · exact f6.some (by simp; exact fun e => c1 e.symm) (f5.some c3 (f4.some (by simp) (f2'.some (by simp; exact fun e => c1 e.symm) b3)))
    · intro b hb
      have hg1 := f1.grow
      rcases List.mem_cons.1 hb with rfl | hb
      · exact .inl (by simp)
      rcases List.mem_cons.1 hb with rfl | hb
      · exact .inl (by simp)
      rcases sub b hb with h | h
      · exact .inl (by simp [h])
      · exact .inr (by omega)

/-! ## Drop -/
theorem splice_other {vs : List Value} {c : Array Value} {o i : Nat} (h : i < o) : (splice c o vs)[i]? = c[i]? := by
  by_cases hb : o + vs.length ≤ c.size
  · rw [splice_get vs c o i hb, if_neg (by omega)]
  · have : ∀ (vs : List Value) (c : Array Value) (o : Nat), i < o → (splice c o vs)[i]? = c[i]? := by
      intro vs
      induction vs with
      | nil => intro c o _; rfl
      | cons v vs ih =>
        intro c o ho
        rw [splice, ih _ _ (by omega), Array.getElem?_setIfInBounds, if_neg (by omega)]
    exact this vs c o h
theorem zero_cells (n : Nat) : ∀ v ∈ (Builtin.zeroCells (Value.agg #[.int .u64 0, .int .u64 0]).cells n).toList, v.oneCell' = true := by
  intro v hv
  simp only [Builtin.zeroCells, cells_agg, Array.toList_map, List.mem_map] at hv
  obtain ⟨i, _, rfl⟩ := hv
  have : i % 2 = 0 ∨ i % 2 = 1 := by omega
  rcases this with h | h
  · have : i % (#[Value.int .u64 0, Value.int .u64 0] : Array Value).size = 0 := h
    rw [this]; rfl
  · have : i % (#[Value.int .u64 0, Value.int .u64 0] : Array Value).size = 1 := h
    rw [this]; rfl
theorem eraseIdx_split {α : Type} (l : List α) (i : Nat) : l.eraseIdx i = l.take i ++ l.drop (i + 1) := List.eraseIdx_eq_take_drop_succ l i

theorem dl_rows {sv : Value} {Fa : List Nat} (hs : Slc encRow 2 w sv rows Fa) (hn : rows.length < 1000000000) {i : Nat} (hi : i < rows.length)
    (hR : ∀ sv' w', Slc encRow 2 w' sv' (rows.eraseIdx i) Fa → Fr Fa w w' → R sv' w') : CALL PR F_slices_Delete_dead_Row_dead_Row [sv, .int .i64 (i : Int), .int .i64 ((i + 1 : Nat) : Int)] w R := by
  refine C_slices_Delete_dead_Row_dead_Row ?_
  unfold M_slices_Delete_dead_Row_dead_Row
  obtain ⟨b, rfl, _⟩ := hs.iaddr hi .i64
  obtain ⟨cap, c, T, rfl, hb, hc, hsz, hel⟩ := hs.cells rfl
  have hfrom := hs.from encRow_len (n := i + 1) (by omega) .i64
  obtain ⟨v25, e25, src⟩ := hfrom
  have hnat : ∀ n : Nat, natOf (.int .i64 (n : Int)) = some n := fun n => by simp [natOf]
  refine BND_step (lenl_slice _ _ _) <| BND_step (v := .slice (if rows.length = i then some ⟨b, 0, none⟩ else (some (⟨b, 0, none⟩ : Addr)).map (·.add (i * 2))) (i + 1 - i) (rows.length - i)) ?_ <| BND_step (binv_eql _ _ _ _) <| COND_dec_false (by omega) ?_
  · simp only [slicev3, hnat]
    rw [if_pos ⟨hc, by omega, by omega⟩]
  refine BND_step (lenl_slice _ _ _) <| BND_step (v := .slice (some ⟨b, 0, none⟩) i cap) ?_ <| BND_step e25 ?_
  · simp only [slicev, hnat]
    rw [if_pos ⟨by omega, by omega⟩]
    simp [Addr.add]
  have hsrc := src w.drew (fun _ _ => rfl)
  have hbd : blk w.drew b = some (.cells c T (0, 0)) := hb
  have fd : Fr [b] w w.drew := Fr.drew _ _
  generalize w.drew = w0 at hsrc hbd fd
  have hdl : (flat encRow (rows.drop (i + 1))).length = (rows.length - (i + 1)) * 2 := by rw [flat_len encRow_len, List.length_drop]
  have hle : rows.length * 2 ≤ cap * 2 := Nat.mul_le_mul_right 2 hc
  -- the move
  have hmove : ∀ K : World → Prop, (∀ c' w1, blk w1 b = some (.cells c' T (0, 0)) → Fr [b] w w1 → c'.size = cap * 2 → (∀ k x, (rows.eraseIdx i)[k]? = some x → ∀ j, j < 2 → c'[k * 2 + j]? = (encRow x)[j]?) → K w1) →
      BND (stores w0 ((⟨b, 0, none⟩ : Addr).add (i * 2)) 0 (flat encRow (rows.drop (i + 1)))) K := by
    intro K hK
    rw [add_none, Nat.zero_add]
    by_cases hne : flat encRow (rows.drop (i + 1)) = []
    · rw [hne]
      simp only [stores, BND_some]
      refine hK c w0 hbd fd hsz fun k x hk j hj => ?_
      have hd0 : rows.drop (i + 1) = [] := by
        rw [hne] at hdl
        simp at hdl
        exact List.drop_eq_nil_of_le (by omega)
      rw [eraseIdx_split, hd0, List.append_nil, List.getElem?_take] at hk
      split at hk
      · exact hel k x hk j hj
      · cases hk
    · refine BND_step (stores_blk _ _ _ _ hbd (flat_one encRow_one _) (by rw [hdl]; omega) hne) ?_
      refine hK _ _ (blk_setB_same hbd) (fd.trans' (Fr.setB (.inl (by simp)) _)) (by simpa using hsz) fun k x hk j hj => ?_
      rw [eraseIdx_split] at hk
      rw [Nat.add_zero, splice_get _ _ _ _ (by rw [hdl]; omega), hdl]
      have hti : (rows.take i).length = i := by rw [List.length_take]; omega
      by_cases hki : k < i
      · rw [List.getElem?_append_left (by omega), List.getElem?_take, if_pos hki] at hk
        rw [if_neg (by omega)]
        exact hel k x hk j hj
      · rw [List.getElem?_append_right (by omega), hti] at hk
        have hk2 : k - i < (rows.drop (i + 1)).length := (List.getElem?_eq_some_iff.1 hk).1
        rw [List.length_drop] at hk2
        rw [if_pos (by omega)]
        have := flat_get encRow_len _ _ x j hk hj
        rw [← this]
        congr 1
        omega
  refine ⟨?_⟩
  unfold APPENDS
  simp only [hsrc]
  rw [if_pos (by rw [List.length_drop]; omega)]
  refine hmove _ fun c' w1 hb1 f1 hsz1 hel1 => ?_
  have hlen : i + (rows.drop (i + 1)).length = rows.length - 1 := by rw [List.length_drop]; omega
  rw [hlen]
  have hel2 : (rows.eraseIdx i).length = rows.length - 1 := List.length_eraseIdx_of_lt hi
  refine BND_step (lenl_slice _ _ _) ?_
  have e31 : slicev 2 (.slice (some ⟨b, 0, none⟩) (rows.length - 1) cap) (some (.int .i64 ((rows.length - 1 : Nat) : Int))) (some (.int .i64 ((rows.length : Nat) : Int))) =
      some (.slice (some (if cap = rows.length - 1 then ⟨b, 0, none⟩ else ⟨b, (rows.length - 1) * 2, none⟩)) (rows.length - (rows.length - 1)) (cap - (rows.length - 1))) := by
    simp only [slicev, hnat]
    rw [if_pos ⟨hc, by omega⟩]
    split <;> simp [add_none]
  refine BND_step e31 ?_
  rw [if_neg (by omega), show rows.length - (rows.length - 1) = 1 by omega]
  unfold clearv
  simp only [Nat.one_ne_zero, if_false]
  have hz1 : (Builtin.zeroCells (Value.agg #[.int .u64 0, .int .u64 0]).cells 1).toList.length = 2 := by simp [Builtin.zeroCells]
  refine BND_step (stores_blk _ _ _ _ hb1 (zero_cells 1) (by rw [hz1]; omega) (by intro e; rw [e] at hz1; cases hz1)) ?_
  refine hR _ _ (.inr ⟨b, cap, _, T, by rw [hel2], blk_setB_same hb1, by omega, by simpa using hsz1, rfl, fun k x hk j hj => ?_⟩) (f1.trans' (Fr.setB (.inl (by simp)) _))
  have hkl := (List.getElem?_eq_some_iff.1 hk).1
  rw [hel2] at hkl
  rw [Nat.add_zero, splice_other (by omega)]
  exact hel1 k x hk j hj

def dropR (rows : List Row) (id : Int) : List Row := rows.eraseP fun r => decide (r.1 = id)
theorem eraseP_idx {α : Type} (p : α → Bool) : ∀ (l : List α) (k : Nat) (x : α), l[k]? = some x → p x = true → (∀ j y, j < k → l[j]? = some y → p y = false) → l.eraseP p = l.eraseIdx k
  | [], k, x, h, _, _ => by simp at h
  | a :: l, 0, x, h, hp, _ => by
    simp at h; subst h
    simp [hp]
  | a :: l, k + 1, x, h, hp, hb => by
    have h0 := hb 0 a (by omega) rfl
    rw [List.eraseP_cons, h0]
    simp only [cond_false, List.eraseIdx_cons_succ]
    rw [eraseP_idx p l k x (by simpa using h) hp fun j y hj hy => hb (j + 1) y (by omega) (by simpa using hy)]

theorem dd_Drop (h : DeadOwn w d rows last seen F) (hn : rows.length < 1000000000) (id : Int)
    (hR : ∀ w', DeadOwn w' d (dropR rows id) last seen F → Fr F w w' → R (.bool (hasI rows id)) w') :
    CALL PR F_dead_Dead_Drop [.pointer (some ⟨d, 0, none⟩), .int .u64 id] w R := by
  refine C_dead_Dead_Drop ?_
  unfold M_dead_Dead_Drop
  refine dd_find h hn id (fun w1 f1 hall => BND_step (binv_lss _ _ _ _) <| COND_dec_true (by omega) ?_) (fun w1 k r f1 hk hr hb => BND_step (binv_lss _ _ _ _) <| COND_dec_false (by omega) ?_)
  · have e1 : hasI rows id = false := by
      unfold hasI
      rw [List.any_eq_false]
      intro r hr; simpa using hall r hr
    have e2 : dropR rows id = rows := List.eraseP_of_forall_not fun r hr => by simpa using hall r hr
    have := hR w1 (by rw [e2]; exact h.fr0 f1) f1.nil
    rw [e1] at this
    exact this
  · have e1 : hasI rows id = true := by
      unfold hasI
      rw [List.any_eq_true]
      exact ⟨r, List.mem_of_getElem? hk, by simpa using hr⟩
    have e2 : dropR rows id = rows.eraseIdx k := eraseP_idx _ _ _ _ hk (by simpa using hr) fun j y hj hy => by simpa using hb j y hj hy
    have hkl := (List.getElem?_eq_some_iff.1 hk).1
    rw [e1, e2] at hR
    obtain ⟨sv, Fa, T, mb, es, ck, b1, b2, b3, b4, rfl, c1, c2, c3⟩ := h.fr0 f1
    refine BND_step (nilchk_ptr _) <| BND_step (faddr_ptr _ _ _) <| BND_step (v := sv) (load1_blk b1) <| BND_step (add1 (by omega)) <| dl_rows b2 hn hkl fun sv' w2 s2 f2 => ?_
    have e3 := f2.some c2 b1
    refine BND_step (nilchk_ptr _) <| BND_step (faddr_ptr _ _ _) <| BND_step (storev1_blk e3 (by simp) s2.one.1 s2.one.2) ?_
    have f3 : Fr [d] w2 (setB w2 d (.cells (#[sv, .int .u64 last, .map (some mb)].setIfInBounds (0 + 0) sv') T (0, 0))) := Fr.setB (.inl (by simp)) _
    refine hR _ ⟨sv', Fa, T, mb, es, ck, blk_setB_same e3, s2.fr f3 (fun b hb => by simp; rintro rfl; exact c2 hb), f3.some (by simp; exact fun e => c1 e.symm) (f2.some c3 b3), b4, rfl, c1, c2, c3⟩ ?_
    exact f1.nil.trans' ((f2.wider (fun b hb => by simp [hb])).trans' (f3.wider (by simp)))
end
end Go.Proofs.Ythcbcolnahbihaa
